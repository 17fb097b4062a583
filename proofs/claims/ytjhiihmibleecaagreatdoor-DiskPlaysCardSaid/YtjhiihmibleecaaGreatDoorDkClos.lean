/- The closures of Sync, Delete, Rename. -/
import Derived.Test.YtjhiihmibleecaaGreatDoorDkAppend
namespace Go.Proofs.YtjhiihmibleecaaGreatDoor.Dk
open Go.RowKit

/-- NoFile, if there is no such file. -/
def thereC (d : D) (nm : Name) : Int := if (Dk.get d.fs nm).isSome then 0 else 42

set_option maxRecDepth 100000 in
theorem there1 (w : World) (B a mb : Nat) (L : Al Nat) (F : Nat → Fl) (tv : Value) (d : D) (h : Da w B a mb L F tv d) (s : ByteArray) (hs : s.size ≤ 1000000) (bd bn : Nat) (hc : Cp w bd bn a s) :
    Calls Tryz.prog 67 #[.pointer (some ⟨bd, 0, none⟩), .pointer (some ⟨bn, 0, none⟩)] w fun e w' => e = .returned (.int .i64 (thereC d s.data.toList)) ∧ Below w.heap.size w w' := by
  obtain ⟨k1, k2⟩ := hc
  have c1 := h.c1
  have hlk := fun q => (h.below (Joins.below_draws _ w q)).look s (by unfold maxLen; omega)
  have hg := h.get s.data.toList
  obtain ⟨G, hG⟩ : ∃ G, Dk.get L s.data.toList = G := ⟨_, rfl⟩
  rw [hG] at hg hlk
  obtain ⟨X, hX⟩ : ∃ X, thereC d s.data.toList = X := ⟨_, rfl⟩
  rw [hX]
  unfold thereC at hX
  rw [hg] at hX
  have hX' := Lib.hid hX
  clear hg hG h hX
  cases G with
  | none =>
    have hX2 : Hid (X = 42) := Lib.hid hX'.out.symm
    simp only [Option.map_none] at hlk
    clear hX'
    go_enter Tryz.func67, Tryz.ntmps67
    go_wp2_with fail
    go_big_quiet (fail)
    go_wp2_with fail
    go_ret
    exact ⟨ret_int hX2.out.symm, Joins.below_draws _ _ _⟩
  | some b =>
    have hX2 : Hid (X = 0) := Lib.hid hX'.out.symm
    simp only [Option.map_some] at hlk
    clear hX'
    go_enter Tryz.func67, Tryz.ntmps67
    go_wp2_with fail
    go_big_quiet (fail)
    go_wp2_with fail
    go_ret
    exact ⟨ret_int hX2.out.symm, Joins.below_draws _ _ _⟩

theorem there_any (a : Nat) (s : ByteArray) (w : World) :
    Calls Tryz.prog 50 #[.pointer (some ⟨a, 0, none⟩), .string s] w fun e w' =>
      e = .returned (.func (.func 67) #[] #[.pointer (some ⟨w.heap.size, 0, none⟩), .pointer (some ⟨w.heap.size + 1, 0, none⟩)]) ∧
      w' = (w.alloc (.cells #[.pointer (some ⟨a, 0, none⟩)] 27)).alloc (.cells #[.string s] 9) := by
  have hmf := make_func
  go_enter Tryz.func50, Tryz.ntmps50
  go_wp2_with fail
  go_ret
  exact ⟨rfl, rfl⟩

set_option maxHeartbeats 1000000 in
set_option maxRecDepth 100000 in
theorem sync1 (w : World) (B a mb : Nat) (L : Al Nat) (F : Nat → Fl) (tv : Value) (d : D) (h : Da w B a mb L F tv d) (s : ByteArray) (hs : s.size ≤ 1000000) (bd bn : Nat) (hc : Cp w bd bn a s) (b : Nat) (hg : Dk.get L s.data.toList = some b) :
    Calls Tryz.prog 51 #[.pointer (some ⟨bd, 0, none⟩), .pointer (some ⟨bn, 0, none⟩)] w fun e w' => e = .returned (.tuple #[]) ∧ St B a mb tv { d with fs := upd s.data.toList (fun f => ⟨f.data, f.data.length⟩) d.fs } w w' := by
  obtain ⟨k1, k2⟩ := hc
  have c1 := h.c1
  have hlk := (h.below (bD (Below.refl _ w))).look s (by unfold maxLen; omega)
  rw [hg] at hlk
  simp only [Option.map_some] at hlk
  obtain ⟨hBb, hblt, A0, c0, hfb, hfs⟩ := h.file hg
  have hst := Lib.hid ((store_safe (h.below (bD (Below.refl _ w))) hg (F b).data.length (g := fun f => ⟨f.data, f.data.length⟩) rfl).on ((bD (Below.refl _ w)).mono (by have := h.alt; have := h.base; omega)) (Fm.below (bD (Below.refl _ w))))
  have ks : w.cell? ⟨b, 1, none⟩ = some (.int .i64 ((F b).safe : Nat)) := by simp [World.cell?, hfb]
  have kf : w.cell? ⟨b, 0, none⟩ = some (.slice A0 (F b).data.length c0) := by simp [World.cell?, hfb]
  have f1 : w.frozen? ⟨b, 1, none⟩ = false := frozen_of_row w b 1 _ _ hfb
  obtain ⟨N, hN⟩ : ∃ N, (F b).data.length = N := ⟨_, rfl⟩
  rw [hN] at kf hst
  clear h hg hfb hfs hN
  go_enter Tryz.func51, Tryz.ntmps51
  go_wp2_with fail
  go_still_tail 18, (by kernel_rfl)
  change wpList _ _ _ _ _ w.drew
  clear hlk
  go_wp2_with fail
  go_end0
  exact ⟨rfl, hst.out⟩

theorem Cp.keptM {w w' : World} {bd bn a mb : Nat} {s : ByteArray} (h : Cp w bd bn a s) (hg : w.grownBy w' (some mb)) {es : Array MapEntry} {cl : Nat} (hm : w.heap[mb]? = some (.map es cl)) : Cp w' bd bn a s := by
  have h1 : bd ≠ mb := by
    rintro rfl
    have := h.bd
    simp [World.cell?, hm] at this
  have h2 : bn ≠ mb := by
    rintro rfl
    have := h.bn
    simp [World.cell?, hm] at this
  exact ⟨hg.cell h.bd (by simpa using h1), hg.cell h.bn (by simpa using h2)⟩

/-- A name is gone. -/
theorem Da.delF {w w' : World} {B a mb : Nat} {L : Al Nat} {F : Nat → Fl} {tv : Value} {d : D} (h : Da w B a mb L F tv d) {nm : Name} {n : Nat}
    (hg : w.grownBy w' (some mb)) (hown : w'.ownsMap Tryz.prog 9 ptrElem mb n ((mp L).del (.string nm))) : Da w' B a mb (del nm L) F tv { d with fs := del nm d.fs } ∧ St B a mb tv { d with fs := del nm d.fs } w w' := by
  rw [mp_del] at hown
  have hm := h.setM hg (F' := F) hown (del_up h.up) (h.nd.sublist ((List.filter_sublist (l := L) (p := fun p => !(p.1 == nm))).map _)) (fun p hp => .inl ⟨(del_mem.1 hp).1, rfl⟩)
  have e : (del nm L).map (fun p => (p.1, F p.2)) = del nm d.fs := by rw [del_map, h.fs]
  rw [e] at hm
  refine ⟨hm, below_row hg h.base.2 (by have := h.base; have := h.mlt; omega), Fm.grown hg fun cs E fr he => ?_, _, _, hm⟩
  obtain ⟨es, cl, hmb⟩ := h.mblk
  rw [hmb] at he
  cases he

set_option maxHeartbeats 1000000 in
set_option maxRecDepth 100000 in
theorem delete1 (w : World) (B a mb : Nat) (L : Al Nat) (F : Nat → Fl) (tv : Value) (d : D) (h : Da w B a mb L F tv d) (s : ByteArray) (hs : s.size ≤ 1000000) (bd bn : Nat) (hc : Cp w bd bn a s) :
    Calls Tryz.prog 58 #[.pointer (some ⟨bd, 0, none⟩), .pointer (some ⟨bn, 0, none⟩)] w fun e w' => e = .returned (.tuple #[]) ∧ St B a mb tv { d with fs := del s.data.toList d.fs } w w' := by
  obtain ⟨k1, k2⟩ := hc
  have c1 := h.c1
  have hkey := WideMaps.keyOf_string_mk (P := Tryz.prog) Tryz.underlying9 (s := s) (by unfold maxLen; omega)
  have hd := h.below (bD (Below.refl _ w))
  have hst : ∀ w', w'.ownsMap Tryz.prog 9 ptrElem mb L.length ((mp L).del (.string s.data.toList)) → w.drew.mapTurned w' mb → St B a mb tv { d with fs := del s.data.toList d.fs } w w' := fun w' h1 h2 =>
    (hd.delF h2.grown h1).2.on ((bD (Below.refl w.heap.size w)).mono (by have := h.alt; have := h.base; omega)) (Fm.below (bD (Below.refl _ w)))
  have hst' := Lib.hid hst
  have hkey' := Lib.hid hkey
  have hown := Lib.hid hd.own
  clear h hd hst hkey
  go_enter Tryz.func58, Tryz.ntmps58
  go_wp2_with fail
  go_still_tail 5, (by kernel_rfl)
  change wpList _ _ _ _ _ w.drew
  refine wpList_delete_own _ rfl _ _ 59 9 rfl 58 law_str Tryz.underlying59 ptrElem mb L.length (mp L) rfl hown.out _ _ rfl hkey'.out ?_
  intro w' h1 h2
  have hs2 := Lib.hid (hst'.out w' h1 h2)
  clear h1 h2
  go_wp2_with fail
  go_end0
  exact ⟨rfl, hs2.out⟩

/-- A block's name is another. -/
theorem Da.putF {w w' : World} {B a mb : Nat} {L : Al Nat} {F : Nat → Fl} {tv : Value} {d : D} (h : Da w B a mb L F tv d) {nm : Name} {b n : Nat} {f : Fl} (hf : FileAt w B b f) (hF : F b = f) (hfr : ∀ p ∈ L, p.2 ≠ b)
    (hg : w.grownBy w' (some mb)) (hown : w'.ownsMap Tryz.prog 9 ptrElem mb n ((mp L).put (.string nm) (.lit (.int .i64 (b : Nat))))) :
    St B a mb tv { d with fs := ins nm f (del nm d.fs) } w w' := by
  rw [mp_put] at hown
  have hn : ∀ p ∈ del nm L, p.1 ≠ nm := fun p hp => (del_mem.1 hp).2
  have e : (ins nm b (del nm L)).map (fun p => (p.1, F p.2)) = ins nm f (del nm d.fs) := by
    rw [ins_map F, hF, del_map, ← h.fs]
  have hm := h.setM hg (F' := F) hown (ins_up (del_up h.up) hn) ?_ ?_
  · rw [e] at hm
    refine ⟨below_row hg h.base.2 (by have := h.base; have := h.mlt; omega), Fm.grown hg fun cs E fr he => ?_, _, _, hm⟩
    obtain ⟨es, cl, hmb⟩ := h.mblk
    rw [hmb] at he
    cases he
  · have hp : ∀ (l : Al Nat), ((ins nm b l).map (·.2)).Perm (b :: l.map (·.2)) := by
      intro l
      induction l with
      | nil => exact List.Perm.refl _
      | cons p l ih =>
        rw [ins]
        split
        · exact List.Perm.refl _
        · exact (List.Perm.cons _ ih).trans (List.Perm.swap _ _ _)
    refine (hp _).nodup_iff.2 (List.nodup_cons.2 ⟨fun hb => ?_, h.nd.sublist ((List.filter_sublist (l := L) (p := fun p => !(p.1 == nm))).map _)⟩)
    obtain ⟨p, h1, h2⟩ := List.mem_map.1 hb
    exact hfr p (del_mem.1 h1).1 h2
  · intro p hp
    rcases ins_mem.1 hp with rfl | hp
    · exact .inr (by rw [hF]; exact hf)
    · exact .inl ⟨(del_mem.1 hp).1, rfl⟩

theorem nodup_inj : ∀ (l : Al Nat), (l.map (·.2)).Nodup → ∀ p ∈ l, ∀ q ∈ l, p.2 = q.2 → p = q := by
  intro l
  induction l with
  | nil => intro _ p hp; cases hp
  | cons x l ih =>
    intro hn p hp q hq e
    obtain ⟨hx, hn⟩ := List.nodup_cons.1 hn
    rcases List.mem_cons.1 hp with hp1 | hp1 <;> rcases List.mem_cons.1 hq with hq1 | hq1
    · rw [hp1, hq1]
    · exact absurd (List.mem_map.2 ⟨q, hq1, by rw [← e, hp1]⟩) hx
    · exact absurd (List.mem_map.2 ⟨p, hp1, by rw [e, hq1]⟩) hx
    · exact ih hn p hp1 q hq1 e

set_option maxHeartbeats 2000000 in
set_option maxRecDepth 100000 in
theorem rename2 (w : World) (B a mb : Nat) (L : Al Nat) (F : Nat → Fl) (tv : Value) (d : D) (h : Da w B a mb L F tv d) (s s2 : ByteArray) (hs : s.size ≤ 1000000) (hs2 : s2.size ≤ 1000000) (bd bn b2 : Nat) (hc : Cp w bd bn a s) (hc2 : Cp w bd b2 a s2)
    (b : Nat) (hg : Dk.get L s.data.toList = some b) (hfl : d.fs.length ≤ 1000) :
    Calls Tryz.prog 57 #[.pointer (some ⟨bd, 0, none⟩), .pointer (some ⟨bn, 0, none⟩), .pointer (some ⟨b2, 0, none⟩)] w
      fun e w' => e = .returned (.tuple #[]) ∧ St B a mb tv { d with fs := ins s2.data.toList (F b) (del s2.data.toList (del s.data.toList d.fs)) } w w' := by
  obtain ⟨k1, k2⟩ := id hc
  have k3 := hc2.bn
  have c1 := h.c1
  have hB : B ≤ w.heap.size := by have := h.alt; have := h.base; omega
  have hkey := WideMaps.keyOf_string_mk (P := Tryz.prog) Tryz.underlying9 (s := s) (by unfold maxLen; omega)
  have hkey2 := WideMaps.keyOf_string_mk (P := Tryz.prog) Tryz.underlying9 (s := s2) (by unfold maxLen; omega)
  have hlk := fun q => (h.below (Joins.below_draws _ w q)).look s (by unfold maxLen; omega)
  rw [hg] at hlk
  simp only [Option.map_some] at hlk
  have hl := h.len_eq
  have h' := Lib.hid h
  have hg' := Lib.hid hg
  have hcc := Lib.hid hc
  have hcc2 := Lib.hid hc2
  have hkey' := Lib.hid hkey
  have hkey2' := Lib.hid hkey2
  have hll : L.length ≤ 1000 := by omega
  clear h hg hkey hkey2 hl hc hc2
  go_enter Tryz.func57, Tryz.ntmps57
  go_wp2_with fail
  go_big_quiet (fail)
  have hb1 := Lib.hid (Joins.below_draws w.heap.size w nq)
  have hD1 := Lib.hid (h'.out.below hb1.out)
  have hc1 := Lib.hid (hcc.out.below hcc.out.lt1 hcc.out.lt2 hb1.out)
  have hc12 := Lib.hid (hcc2.out.below hcc2.out.lt1 hcc2.out.lt2 hb1.out)
  generalize w.drewN nq = w1 at hb1 hD1 hc1 hc12 ⊢
  clear k1 k2 k3 c1 hlk
  have k1 := hc1.out.bd
  have k2 := hc1.out.bn
  have c1 := hD1.out.c1
  go_wp2_with fail
  go_still_tail 5, (by kernel_rfl)
  change wpList _ _ _ _ _ w1.drew
  have hb2 := Lib.hid (bD hb1.out)
  have hD2 := Lib.hid (hD1.out.below (bD (Below.refl _ w1)))
  have hc2 := Lib.hid (hc1.out.below hc1.out.lt1 hc1.out.lt2 (bD (Below.refl w1.heap.size w1)))
  have hc22 := Lib.hid (hc12.out.below hc12.out.lt1 hc12.out.lt2 (bD (Below.refl w1.heap.size w1)))
  generalize w1.drew = w2 at hb2 hD2 hc2 hc22 ⊢
  clear k1 k2 c1
  refine wpList_delete_own _ rfl _ _ 59 9 rfl 58 law_str Tryz.underlying59 ptrElem mb L.length (mp L) rfl hD2.out.own _ _ rfl hkey'.out ?_
  intro w3 h1 h2
  obtain ⟨hD3, hst3⟩ := hD2.out.delF h2.grown h1
  obtain ⟨es, cl, hmb⟩ := hD2.out.mblk
  have hc3 := Lib.hid (hc2.out.keptM h2.grown hmb)
  have hc32 := Lib.hid (hc22.out.keptM h2.grown hmb)
  have hD3' := Lib.hid hD3
  have hst3' := Lib.hid (hst3.on (hb2.out.mono hB) (Fm.below hb2.out))
  have hfb : FileAt w3 B b (F b) := by
    have hmem := get_mem hg'.out
    have hf := hD2.out.files _ hmem
    exact hf.kept h2.grown (by simp; exact hD2.out.fm hmem) (NoE.of hmb (by intro cs fr e; cases e))
  have hfb' := Lib.hid hfb
  clear h1 h2 hD3 hst3 hmb hfb
  have k1 := hc3.out.bd
  have k3 := hc32.out.bn
  have c1 := hD3'.out.c1
  have hdl : (del s.data.toList L).length < maxLen := by have := List.length_filter_le (fun p : Name × Nat => !(p.1 == s.data.toList)) L; unfold del maxLen; omega
  go_wp2_with fail
  go_still_tail 6, (by kernel_rfl)
  change wpList _ _ _ _ _ w3.drew
  have hD4 := Lib.hid (hD3'.out.below (bD (Below.refl _ w3)))
  have hfb4 := Lib.hid (hfb'.out.kept (grown_of_below (bD (Below.refl w3.heap.size w3))) (by simp) NoE.none)
  have hst4 := Lib.hid ((St.on (tv := tv) (dd := { d with fs := del s.data.toList d.fs }) ⟨bD (Below.refl B w3), Fm.below (bD (Below.refl w3.heap.size w3)), _, _, hD4.out⟩ hst3'.out.1 hst3'.out.2.1))
  generalize w3.drew = w4 at hD4 hfb4 hst4 ⊢
  clear k1 k3 c1
  refine wpList_mapUpdate_own _ rfl _ _ _ 59 rfl 9 58 law_str Tryz.underlying59 ptrElem mb (del s.data.toList L).length (mp (del s.data.toList L)) rfl hD4.out.own hdl _ _ _ rfl rfl hkey2'.out (.lit (.int .i64 (b : Nat))) [] rfl ?_
  intro w5 h1 h2
  have hfr : ∀ p ∈ del s.data.toList L, p.2 ≠ b := fun p hp e => by
    obtain ⟨h3, h4⟩ := del_mem.1 hp
    have := nodup_inj L h'.out.nd p h3 (s.data.toList, b) (get_mem hg'.out) e
    rw [this] at h4
    exact h4 rfl
  have hfin := Lib.hid ((hD4.out.putF hfb4.out rfl hfr h2 h1).on hst4.out.1 hst4.out.2.1)
  clear h1 h2 hfr
  go_wp2_with fail
  go_end0
  exact ⟨rfl, hfin.out⟩
end Go.Proofs.YtjhiihmibleecaaGreatDoor.Dk
