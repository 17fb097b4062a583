/- Append's part and whole; Cut. -/
import Derived.Test.YtfdpnjebhllpkaaGreatDoorMDkConcat
import Derived.Deep.RegionWith
import Derived.Deep.RegionHeld3
section
namespace Go.Proofs.YtfdpnjebhllpkaaGreatDoor.Dk
open Go.RowKit

theorem Cp.lt1 {w : World} {bd bn a : Nat} {s : ByteArray} (h : Cp w bd bn a s) : bd < w.heap.size := by
  rcases Nat.lt_or_ge bd w.heap.size with h1 | h1
  · exact h1
  · have := h.bd
    simp [World.cell?, Array.getElem?_eq_none h1] at this
theorem Cp.lt2 {w : World} {bd bn a : Nat} {s : ByteArray} (h : Cp w bd bn a s) : bn < w.heap.size := by
  rcases Nat.lt_or_ge bn w.heap.size with h1 | h1
  · exact h1
  · have := h.bn
    simp [World.cell?, Array.getElem?_eq_none h1] at this
theorem cell_lt {w : World} {p : Addr} {v : Value} (h : w.cell? p = some v) : p.block < w.heap.size := by
  rcases Nat.lt_or_ge p.block w.heap.size with h1 | h1
  · exact h1
  · simp [World.cell?, Array.getElem?_eq_none h1] at h

/-- The file of a name, its slice. -/
theorem Da.file {w : World} {B a mb : Nat} {L : Al Nat} {F : Nat → Fl} {tv : Value} {d : D} (h : Da w B a mb L F tv d) {nm : Name} {b : Nat} (hg : Dk.get L nm = some b) :
    B ≤ b ∧ b < w.heap.size ∧ ∃ A c, w.heap[b]? = some (.cells #[.slice A (F b).data.length c, .int .i64 ((F b).safe : Nat)] 132) ∧ Bs w A (F b).data.length c (F b).data := by
  have hm := get_mem hg
  have hlt := (h.files _ hm).lt
  obtain ⟨hB, v, h1, h2⟩ := h.files _ hm
  obtain ⟨A, c, rfl, hbs⟩ := OwB.slice h2
  exact ⟨hB, hlt, A, c, h1, hbs⟩

theorem file_noE {w : World} {b : Nat} {cs : Array Value} {E : TypeId} (h : w.heap[b]? = some (.cells cs 132)) (hE : E ≠ 132) : NoE E w (some b) :=
  NoE.of h (by intro cs fr e; injection e with _ e2 _; exact hE e2.symm)
theorem file_fm {w : World} {b i : Nat} {cs : Array Value} (h : w.heap[b]? = some (.cells cs 132)) (x : Value) : Fm w (w.setCell ⟨b, i, none⟩ x) :=
  Fm.grown (grown_set w ⟨b, i, none⟩ x) (fun cs E fr he => by rw [h] at he; injection he with he; injection he with _ he _; exact .inl he.symm)

/-- A file's bytes are others. -/
theorem store_data {W : World} {B a mb : Nat} {L : Al Nat} {F : Nat → Fl} {tv : Value} {d : D} (h : Da W B a mb L F tv d) {nm : Name} {b : Nat} (hg : Dk.get L nm = some b) {v2 : Value} {new : List UInt8} (ho : OwB W B 5 v2 new) {g : Fl → Fl} (hgf : g (F b) = ⟨new, (F b).safe⟩) :
    St B a mb tv { d with fs := upd nm g d.fs } W (W.setCell ⟨b, 0, none⟩ v2) := by
  obtain ⟨hB, hlt, A, c, hb, _⟩ := h.file hg
  refine ⟨below_row (grown_set W ⟨b, 0, none⟩ v2) hB (by omega), file_fm hb v2, L, _, h.setF (get_mem hg) (grown_set W ⟨b, 0, none⟩ v2) (v' := v2) ?_ ?_⟩
  · rw [hgf]
    exact setCell_blk hb v2
  · rw [hgf]
    exact row_kept ho (grown_set W ⟨b, 0, none⟩ v2) (file_noE hb (by decide))
theorem store_safe {W : World} {B a mb : Nat} {L : Al Nat} {F : Nat → Fl} {tv : Value} {d : D} (h : Da W B a mb L F tv d) {nm : Name} {b : Nat} (hg : Dk.get L nm = some b) (n : Nat) {g : Fl → Fl} (hgf : g (F b) = ⟨(F b).data, n⟩) :
    St B a mb tv { d with fs := upd nm g d.fs } W (W.setCell ⟨b, 1, none⟩ (.int .i64 (n : Nat))) := by
  obtain ⟨hB, v, hb, ho⟩ := h.files _ (get_mem hg)
  have hlt := (h.files _ (get_mem hg)).lt
  refine ⟨below_row (grown_set W ⟨b, 1, none⟩ _) hB (by omega), file_fm hb _, L, _, h.setF (get_mem hg) (grown_set W ⟨b, 1, none⟩ _) (v' := v) ?_ ?_⟩
  · rw [hgf]
    exact setCell_blk hb _
  · rw [hgf]
    exact row_kept ho (grown_set W ⟨b, 1, none⟩ _) (file_noE hb (by decide))

set_option maxHeartbeats 1000000 in
set_option maxRecDepth 100000 in
theorem append1 (w : World) (B a mb : Nat) (L : Al Nat) (F : Nat → Fl) (tv : Value) (d : D) (h : Da w B a mb L F tv d) (s : ByteArray) (hs : s.size ≤ 1000000) (bd bn bb : Nat) (hc : Cp w bd bn a s)
    (A : Option Addr) (n c : Nat) (l : List UInt8) (kb : w.cell? ⟨bb, 0, none⟩ = some (.slice A n c)) (hBs : Bs w A n c l) (hn : n ≤ 1000000) (m : Nat) (hm : m ≤ n) (b : Nat) (hg : Dk.get L s.data.toList = some b) (hfl : (F b).data.length ≤ 1000000000) :
    Calls Tryz.prog 130 #[.int .i64 (m : Nat), .pointer (some ⟨bd, 0, none⟩), .pointer (some ⟨bn, 0, none⟩), .pointer (some ⟨bb, 0, none⟩)] w
      fun e w' => e = .returned (.tuple #[]) ∧ St B a mb tv { d with fs := upd s.data.toList (fun f => ⟨f.data ++ l.take m, f.safe⟩) d.fs } w w' := by
  obtain ⟨k1, k2⟩ := hc
  have c1 := h.c1
  have hlk := fun q => (h.below (Joins.below_draws _ w q)).look s (by unfold maxLen; omega)
  rw [hg] at hlk
  simp only [Option.map_some] at hlk
  obtain ⟨hBb, hblt, A0, c0, hfb, hfs⟩ := h.file hg
  have lt3 := cell_lt kb
  have h' := Lib.hid h
  have hg' := Lib.hid hg
  have hfb' := Lib.hid hfb
  have hfs' := Lib.hid hfs
  have hBs' := Lib.hid hBs
  obtain ⟨N, hN⟩ : ∃ N, (F b).data.length = N := ⟨_, rfl⟩
  rw [hN] at hfl hfb' hfs'
  have kf : w.cell? ⟨b, 0, none⟩ = some (.slice A0 N c0) := by simp [World.cell?, hfb'.out]
  clear h hg hfb hfs hBs
  go_enter Tryz.func130, Tryz.ntmps130
  go_wp2_with fail
  go_big_quiet (fail)
  have hbq : Below w.heap.size w (w.drewN nq) := Joins.below_draws _ w nq
  have hD1 := Lib.hid (h'.out.below hbq)
  have hfb1 := Lib.hid ((hbq.block b hblt).trans hfb'.out)
  have hfs1 := Lib.hid (hfs'.out.below hbq)
  have hBs1 := Lib.hid (hBs'.out.below hbq)
  have hbq' := Lib.hid hbq
  have kf1 := (hbq.cell (p := ⟨b, 0, none⟩) hblt).trans kf
  have kb1 := (hbq.cell (p := ⟨bb, 0, none⟩) lt3).trans kb
  have hs1 : (w.drewN nq).heap.size = w.heap.size := by simp
  generalize w.drewN nq = w1 at hbq hD1 hfb1 hfs1 hBs1 hbq' kf1 kb1 hs1 ⊢
  clear hbq kf kb k1 k2 c1 hlk
  have hnc := Rd.le hBs1.out
  have q1 : 0 ≤ (m : Int) ∧ (m : Int) ≤ (c : Int) := ⟨by omega, by omega⟩
  have q2 : (m : Int) ≤ (c : Int) := by omega
  have q3 : m ≤ c := by omega
  have hcut := hBs1.out.cut 0 m (by omega) hm A (by intro b off e _; rw [e]; rfl) (fun e => e) (fun e => e)
  rw [Nat.sub_zero, Nat.sub_zero, List.drop_zero] at hcut
  have hcut' := Lib.hid hcut
  clear hcut
  have hcl : (cat [(F b).data, l.take m]).length ≤ 140737488355328 := by simp [cat]; omega
  have hcat : cat [(F b).data, l.take m] = (F b).data ++ l.take m := by simp [cat]
  have hcl' := Lib.hid hcl
  have hcat' := Lib.hid hcat
  have hblt1 : b < w1.heap.size := by omega
  clear hcl hcat
  have hal := bD (below_alloc w1 (.cells #[.slice A0 N c0, .slice A m c] 22))
  have hcon : Calls Tryz.prog 131 #[.slice (some ⟨w1.heap.size, 0, none⟩) 2 2] (w1.alloc (.cells #[.slice A0 N c0, .slice A m c] 22)).drew fun e w2 => ∃ A2 c2, e = .returned (.slice A2 (cat [(F b).data, l.take m]).length c2) ∧
      Hid (OwB w2 w1.heap.size 5 (.slice A2 (cat [(F b).data, l.take m]).length c2) (cat [(F b).data, l.take m])) ∧ Hid (Below w1.heap.size w1 w2) ∧ w2.cell? ⟨b, 0, none⟩ = some (.slice A0 N c0) ∧ w2.frozen? ⟨b, 0, none⟩ = false := by
    refine (concat_any _ 2 2 [(F b).data, l.take m] _ ((bsl_lit2 w1 22 _ _ _ _ _ _ _ _ hfs1.out hcut'.out).below (Joins.below_draws _ _ 1)) hcl'.out).mono ?_
    rintro e w2 ⟨A2, c2, rfl, ho, hb2⟩
    have hb3 := hal.trans (hb2.mono hal.size)
    have hfb2 := (hb3.block b hblt1).trans hfb1.out
    exact ⟨A2, c2, rfl, Lib.hid (OwB.base ho hal.size), Lib.hid hb3, (hb3.cell (p := ⟨b, 0, none⟩) hblt1).trans kf1, frozen_of_row w2 b 0 _ _ hfb2⟩
  have hcon' := Lib.hid hcon
  clear hal hcon hs1
  go_wp2_with fail
  go_region_with (go_at_call 131; ((with_reducible refine hcon'.out.mono ?_)); rintro e w2 ⟨A2, c2, rfl, ho2, hb3, kf2, f2⟩)
  all_goals
    have hst := Lib.hid ((store_data (hD1.out.below hb3.out) hg'.out (OwB.base ho2.out (by omega)) (g := fun f => ⟨f.data ++ l.take m, f.safe⟩) (by rw [hcat'.out])).on ((hbq'.out.trans (hb3.out.mono hbq'.out.size)).mono (by omega)) (Fm.below (hbq'.out.trans (hb3.out.mono hbq'.out.size))))
    clear kf2 f2
    go_wp2_with fail
    go_end0
    exact ⟨rfl, hst.out⟩
end Go.Proofs.YtfdpnjebhllpkaaGreatDoor.Dk
end

section
namespace Go.Proofs.YtfdpnjebhllpkaaGreatDoor.Dk
open Go.RowKit

/-- NoFile, if there is no such file. -/
def thereC (d : D) (nm : Name) : Int := if (Dk.get d.fs nm).isSome then 0 else 42

set_option maxRecDepth 100000 in
theorem there1 (w : World) (B a mb : Nat) (L : Al Nat) (F : Nat → Fl) (tv : Value) (d : D) (h : Da w B a mb L F tv d) (s : ByteArray) (hs : s.size ≤ 1000000) (bd bn : Nat) (hc : Cp w bd bn a s) :
    Calls Tryz.prog 180 #[.pointer (some ⟨bd, 0, none⟩), .pointer (some ⟨bn, 0, none⟩)] w fun e w' => e = .returned (.int .i64 (thereC d s.data.toList)) ∧ Below w.heap.size w w' := by
  obtain ⟨k1, k2⟩ := hc
  have c1 := h.c1
  have hlk := fun q => (h.below (Joins.below_draws _ w q)).look s (by unfold maxLen; omega)
  have hg := h.get s.data.toList
  obtain ⟨G, hG⟩ : ∃ G, Dk.get L s.data.toList = G := ⟨_, rfl⟩
  rw [hG] at hg hlk
  obtain ⟨X, hX⟩ : ∃ X, thereC d s.data.toList = X := ⟨_, rfl⟩
  rw [hX]
  unfold thereC at hX
  rw [hg] at hX
  have hX' := Lib.hid hX
  clear hg hG h hX
  cases G with
  | none =>
    have hX2 : Hid (X = 42) := Lib.hid hX'.out.symm
    simp only [Option.map_none] at hlk
    clear hX'
    go_enter Tryz.func180, Tryz.ntmps180
    go_wp2_with fail
    go_big_quiet (fail)
    go_wp2_with fail
    go_ret
    exact ⟨ret_int hX2.out.symm, Joins.below_draws _ _ _⟩
  | some b =>
    have hX2 : Hid (X = 0) := Lib.hid hX'.out.symm
    simp only [Option.map_some] at hlk
    clear hX'
    go_enter Tryz.func180, Tryz.ntmps180
    go_wp2_with fail
    go_big_quiet (fail)
    go_wp2_with fail
    go_ret
    exact ⟨ret_int hX2.out.symm, Joins.below_draws _ _ _⟩

theorem there_any (a : Nat) (s : ByteArray) (w : World) :
    Calls Tryz.prog 135 #[.pointer (some ⟨a, 0, none⟩), .string s] w fun e w' =>
      e = .returned (.func (.func 180) #[] #[.pointer (some ⟨w.heap.size, 0, none⟩), .pointer (some ⟨w.heap.size + 1, 0, none⟩)]) ∧
      w' = (w.alloc (.cells #[.pointer (some ⟨a, 0, none⟩)] 39)).alloc (.cells #[.string s] 9) := by
  have hmf := make_func
  go_enter Tryz.func135, Tryz.ntmps135
  go_wp2_with fail
  go_ret
  exact ⟨rfl, rfl⟩

set_option maxHeartbeats 1000000 in
set_option maxRecDepth 100000 in
theorem sync1 (w : World) (B a mb : Nat) (L : Al Nat) (F : Nat → Fl) (tv : Value) (d : D) (h : Da w B a mb L F tv d) (s : ByteArray) (hs : s.size ≤ 1000000) (bd bn : Nat) (hc : Cp w bd bn a s) (b : Nat) (hg : Dk.get L s.data.toList = some b) :
    Calls Tryz.prog 136 #[.pointer (some ⟨bd, 0, none⟩), .pointer (some ⟨bn, 0, none⟩)] w fun e w' => e = .returned (.tuple #[]) ∧ St B a mb tv { d with fs := upd s.data.toList (fun f => ⟨f.data, f.data.length⟩) d.fs } w w' := by
  obtain ⟨k1, k2⟩ := hc
  have c1 := h.c1
  have hlk := (h.below (bD (Below.refl _ w))).look s (by unfold maxLen; omega)
  rw [hg] at hlk
  simp only [Option.map_some] at hlk
  obtain ⟨hBb, hblt, A0, c0, hfb, hfs⟩ := h.file hg
  have hst := Lib.hid ((store_safe (h.below (bD (Below.refl _ w))) hg (F b).data.length (g := fun f => ⟨f.data, f.data.length⟩) rfl).on ((bD (Below.refl _ w)).mono (by have := h.alt; have := h.base; omega)) (Fm.below (bD (Below.refl _ w))))
  have ks : w.cell? ⟨b, 1, none⟩ = some (.int .i64 ((F b).safe : Nat)) := by simp [World.cell?, hfb]
  have kf : w.cell? ⟨b, 0, none⟩ = some (.slice A0 (F b).data.length c0) := by simp [World.cell?, hfb]
  have f1 : w.frozen? ⟨b, 1, none⟩ = false := frozen_of_row w b 1 _ _ hfb
  obtain ⟨N, hN⟩ : ∃ N, (F b).data.length = N := ⟨_, rfl⟩
  rw [hN] at kf hst
  clear h hg hfb hfs hN
  go_enter Tryz.func136, Tryz.ntmps136
  go_wp2_with fail
  go_still_tail 18, (by kernel_rfl)
  change wpList _ _ _ _ _ w.drew
  clear hlk
  go_wp2_with fail
  go_end0
  exact ⟨rfl, hst.out⟩

theorem Cp.keptM {w w' : World} {bd bn a mb : Nat} {s : ByteArray} (h : Cp w bd bn a s) (hg : w.grownBy w' (some mb)) {es : Array MapEntry} {cl : Nat} (hm : w.heap[mb]? = some (.map es cl)) : Cp w' bd bn a s := by
  have h1 : bd ≠ mb := by
    rintro rfl
    have := h.bd
    simp [World.cell?, hm] at this
  have h2 : bn ≠ mb := by
    rintro rfl
    have := h.bn
    simp [World.cell?, hm] at this
  exact ⟨hg.cell h.bd (by simpa using h1), hg.cell h.bn (by simpa using h2)⟩

/-- A name is gone. -/
theorem Da.delF {w w' : World} {B a mb : Nat} {L : Al Nat} {F : Nat → Fl} {tv : Value} {d : D} (h : Da w B a mb L F tv d) {nm : Name} {n : Nat}
    (hg : w.grownBy w' (some mb)) (hown : w'.ownsMap Tryz.prog 9 ptrElem mb n ((mp L).del (.string nm))) : Da w' B a mb (del nm L) F tv { d with fs := del nm d.fs } ∧ St B a mb tv { d with fs := del nm d.fs } w w' := by
  rw [mp_del] at hown
  have hm := h.setM hg (F' := F) hown (del_up h.up) (h.nd.sublist ((List.filter_sublist (l := L) (p := fun p => !(p.1 == nm))).map _)) (fun p hp => .inl ⟨(del_mem.1 hp).1, rfl⟩)
  have e : (del nm L).map (fun p => (p.1, F p.2)) = del nm d.fs := by rw [del_map, h.fs]
  rw [e] at hm
  refine ⟨hm, below_row hg h.base.2 (by have := h.base; have := h.mlt; omega), Fm.grown hg fun cs E fr he => ?_, _, _, hm⟩
  obtain ⟨es, cl, hmb⟩ := h.mblk
  rw [hmb] at he
  cases he

set_option maxHeartbeats 1000000 in
set_option maxRecDepth 100000 in
theorem delete1 (w : World) (B a mb : Nat) (L : Al Nat) (F : Nat → Fl) (tv : Value) (d : D) (h : Da w B a mb L F tv d) (s : ByteArray) (hs : s.size ≤ 1000000) (bd bn : Nat) (hc : Cp w bd bn a s) :
    Calls Tryz.prog 137 #[.pointer (some ⟨bd, 0, none⟩), .pointer (some ⟨bn, 0, none⟩)] w fun e w' => e = .returned (.tuple #[]) ∧ St B a mb tv { d with fs := del s.data.toList d.fs } w w' := by
  obtain ⟨k1, k2⟩ := hc
  have c1 := h.c1
  have hkey := WideMaps.keyOf_string_mk (P := Tryz.prog) Tryz.underlying9 (s := s) (by unfold maxLen; omega)
  have hd := h.below (bD (Below.refl _ w))
  have hst : ∀ w', w'.ownsMap Tryz.prog 9 ptrElem mb L.length ((mp L).del (.string s.data.toList)) → w.drew.mapTurned w' mb → St B a mb tv { d with fs := del s.data.toList d.fs } w w' := fun w' h1 h2 =>
    (hd.delF h2.grown h1).2.on ((bD (Below.refl w.heap.size w)).mono (by have := h.alt; have := h.base; omega)) (Fm.below (bD (Below.refl _ w)))
  have hst' := Lib.hid hst
  have hkey' := Lib.hid hkey
  have hown := Lib.hid hd.own
  clear h hd hst hkey
  go_enter Tryz.func137, Tryz.ntmps137
  go_wp2_with fail
  go_still_tail 5, (by kernel_rfl)
  change wpList _ _ _ _ _ w.drew
  refine wpList_delete_own _ rfl _ _ 111 9 rfl 130 law_str Tryz.underlying111 ptrElem mb L.length (mp L) rfl hown.out _ _ rfl hkey'.out ?_
  intro w' h1 h2
  have hs2 := Lib.hid (hst'.out w' h1 h2)
  clear h1 h2
  go_wp2_with fail
  go_end0
  exact ⟨rfl, hs2.out⟩

/-- A block's name is another. -/
theorem Da.putF {w w' : World} {B a mb : Nat} {L : Al Nat} {F : Nat → Fl} {tv : Value} {d : D} (h : Da w B a mb L F tv d) {nm : Name} {b n : Nat} {f : Fl} (hf : FileAt w B b f) (hF : F b = f) (hfr : ∀ p ∈ L, p.2 ≠ b)
    (hg : w.grownBy w' (some mb)) (hown : w'.ownsMap Tryz.prog 9 ptrElem mb n ((mp L).put (.string nm) (.lit (.int .i64 (b : Nat))))) :
    St B a mb tv { d with fs := ins nm f (del nm d.fs) } w w' := by
  rw [mp_put] at hown
  have hn : ∀ p ∈ del nm L, p.1 ≠ nm := fun p hp => (del_mem.1 hp).2
  have e : (ins nm b (del nm L)).map (fun p => (p.1, F p.2)) = ins nm f (del nm d.fs) := by
    rw [ins_map F, hF, del_map, ← h.fs]
  have hm := h.setM hg (F' := F) hown (ins_up (del_up h.up) hn) ?_ ?_
  · rw [e] at hm
    refine ⟨below_row hg h.base.2 (by have := h.base; have := h.mlt; omega), Fm.grown hg fun cs E fr he => ?_, _, _, hm⟩
    obtain ⟨es, cl, hmb⟩ := h.mblk
    rw [hmb] at he
    cases he
  · have hp : ∀ (l : Al Nat), ((ins nm b l).map (·.2)).Perm (b :: l.map (·.2)) := by
      intro l
      induction l with
      | nil => exact List.Perm.refl _
      | cons p l ih =>
        rw [ins]
        split
        · exact List.Perm.refl _
        · exact (List.Perm.cons _ ih).trans (List.Perm.swap _ _ _)
    refine (hp _).nodup_iff.2 (List.nodup_cons.2 ⟨fun hb => ?_, h.nd.sublist ((List.filter_sublist (l := L) (p := fun p => !(p.1 == nm))).map _)⟩)
    obtain ⟨p, h1, h2⟩ := List.mem_map.1 hb
    exact hfr p (del_mem.1 h1).1 h2
  · intro p hp
    rcases ins_mem.1 hp with rfl | hp
    · exact .inr (by rw [hF]; exact hf)
    · exact .inl ⟨(del_mem.1 hp).1, rfl⟩

theorem nodup_inj : ∀ (l : Al Nat), (l.map (·.2)).Nodup → ∀ p ∈ l, ∀ q ∈ l, p.2 = q.2 → p = q := by
  intro l
  induction l with
  | nil => intro _ p hp; cases hp
  | cons x l ih =>
    intro hn p hp q hq e
    obtain ⟨hx, hn⟩ := List.nodup_cons.1 hn
    rcases List.mem_cons.1 hp with hp1 | hp1 <;> rcases List.mem_cons.1 hq with hq1 | hq1
    · rw [hp1, hq1]
    · exact absurd (List.mem_map.2 ⟨q, hq1, by rw [← e, hp1]⟩) hx
    · exact absurd (List.mem_map.2 ⟨p, hp1, by rw [e, hq1]⟩) hx
    · exact ih hn p hp1 q hq1 e

set_option maxHeartbeats 2000000 in
set_option maxRecDepth 100000 in
theorem rename2 (w : World) (B a mb : Nat) (L : Al Nat) (F : Nat → Fl) (tv : Value) (d : D) (h : Da w B a mb L F tv d) (s s2 : ByteArray) (hs : s.size ≤ 1000000) (hs2 : s2.size ≤ 1000000) (bd bn b2 : Nat) (hc : Cp w bd bn a s) (hc2 : Cp w bd b2 a s2)
    (b : Nat) (hg : Dk.get L s.data.toList = some b) (hfl : d.fs.length ≤ 1000) :
    Calls Tryz.prog 158 #[.pointer (some ⟨bd, 0, none⟩), .pointer (some ⟨bn, 0, none⟩), .pointer (some ⟨b2, 0, none⟩)] w
      fun e w' => e = .returned (.tuple #[]) ∧ St B a mb tv { d with fs := ins s2.data.toList (F b) (del s2.data.toList (del s.data.toList d.fs)) } w w' := by
  obtain ⟨k1, k2⟩ := id hc
  have k3 := hc2.bn
  have c1 := h.c1
  have hB : B ≤ w.heap.size := by have := h.alt; have := h.base; omega
  have hkey := WideMaps.keyOf_string_mk (P := Tryz.prog) Tryz.underlying9 (s := s) (by unfold maxLen; omega)
  have hkey2 := WideMaps.keyOf_string_mk (P := Tryz.prog) Tryz.underlying9 (s := s2) (by unfold maxLen; omega)
  have hlk := fun q => (h.below (Joins.below_draws _ w q)).look s (by unfold maxLen; omega)
  rw [hg] at hlk
  simp only [Option.map_some] at hlk
  have hl := h.len_eq
  have h' := Lib.hid h
  have hg' := Lib.hid hg
  have hcc := Lib.hid hc
  have hcc2 := Lib.hid hc2
  have hkey' := Lib.hid hkey
  have hkey2' := Lib.hid hkey2
  have hll : L.length ≤ 1000 := by omega
  clear h hg hkey hkey2 hl hc hc2
  go_enter Tryz.func158, Tryz.ntmps158
  go_wp2_with fail
  go_big_quiet (fail)
  have hb1 := Lib.hid (Joins.below_draws w.heap.size w nq)
  have hD1 := Lib.hid (h'.out.below hb1.out)
  have hc1 := Lib.hid (hcc.out.below hcc.out.lt1 hcc.out.lt2 hb1.out)
  have hc12 := Lib.hid (hcc2.out.below hcc2.out.lt1 hcc2.out.lt2 hb1.out)
  generalize w.drewN nq = w1 at hb1 hD1 hc1 hc12 ⊢
  clear k1 k2 k3 c1 hlk
  have k1 := hc1.out.bd
  have k2 := hc1.out.bn
  have c1 := hD1.out.c1
  go_wp2_with fail
  go_still_tail 5, (by kernel_rfl)
  change wpList _ _ _ _ _ w1.drew
  have hb2 := Lib.hid (bD hb1.out)
  have hD2 := Lib.hid (hD1.out.below (bD (Below.refl _ w1)))
  have hc2 := Lib.hid (hc1.out.below hc1.out.lt1 hc1.out.lt2 (bD (Below.refl w1.heap.size w1)))
  have hc22 := Lib.hid (hc12.out.below hc12.out.lt1 hc12.out.lt2 (bD (Below.refl w1.heap.size w1)))
  generalize w1.drew = w2 at hb2 hD2 hc2 hc22 ⊢
  clear k1 k2 c1
  refine wpList_delete_own _ rfl _ _ 111 9 rfl 130 law_str Tryz.underlying111 ptrElem mb L.length (mp L) rfl hD2.out.own _ _ rfl hkey'.out ?_
  intro w3 h1 h2
  obtain ⟨hD3, hst3⟩ := hD2.out.delF h2.grown h1
  obtain ⟨es, cl, hmb⟩ := hD2.out.mblk
  have hc3 := Lib.hid (hc2.out.keptM h2.grown hmb)
  have hc32 := Lib.hid (hc22.out.keptM h2.grown hmb)
  have hD3' := Lib.hid hD3
  have hst3' := Lib.hid (hst3.on (hb2.out.mono hB) (Fm.below hb2.out))
  have hfb : FileAt w3 B b (F b) := by
    have hmem := get_mem hg'.out
    have hf := hD2.out.files _ hmem
    exact hf.kept h2.grown (by simp; exact hD2.out.fm hmem) (NoE.of hmb (by intro cs fr e; cases e))
  have hfb' := Lib.hid hfb
  clear h1 h2 hD3 hst3 hmb hfb
  have k1 := hc3.out.bd
  have k3 := hc32.out.bn
  have c1 := hD3'.out.c1
  have hdl : (del s.data.toList L).length < maxLen := by have := List.length_filter_le (fun p : Name × Nat => !(p.1 == s.data.toList)) L; unfold del maxLen; omega
  go_wp2_with fail
  go_still_tail 6, (by kernel_rfl)
  change wpList _ _ _ _ _ w3.drew
  have hD4 := Lib.hid (hD3'.out.below (bD (Below.refl _ w3)))
  have hfb4 := Lib.hid (hfb'.out.kept (grown_of_below (bD (Below.refl w3.heap.size w3))) (by simp) NoE.none)
  have hst4 := Lib.hid ((St.on (tv := tv) (dd := { d with fs := del s.data.toList d.fs }) ⟨bD (Below.refl B w3), Fm.below (bD (Below.refl w3.heap.size w3)), _, _, hD4.out⟩ hst3'.out.1 hst3'.out.2.1))
  generalize w3.drew = w4 at hD4 hfb4 hst4 ⊢
  clear k1 k3 c1
  refine wpList_mapUpdate_own _ rfl _ _ _ 111 rfl 9 130 law_str Tryz.underlying111 ptrElem mb (del s.data.toList L).length (mp (del s.data.toList L)) rfl hD4.out.own hdl _ _ _ rfl rfl hkey2'.out (.lit (.int .i64 (b : Nat))) [] rfl ?_
  intro w5 h1 h2
  have hfr : ∀ p ∈ del s.data.toList L, p.2 ≠ b := fun p hp e => by
    obtain ⟨h3, h4⟩ := del_mem.1 hp
    have := nodup_inj L h'.out.nd p h3 (s.data.toList, b) (get_mem hg'.out) e
    rw [this] at h4
    exact h4 rfl
  have hfin := Lib.hid ((hD4.out.putF hfb4.out rfl hfr h2 h1).on hst4.out.1 hst4.out.2.1)
  clear h1 h2 hfr
  go_wp2_with fail
  go_end0
  exact ⟨rfl, hfin.out⟩
end Go.Proofs.YtfdpnjebhllpkaaGreatDoor.Dk
end

section
namespace Go.Proofs.YtfdpnjebhllpkaaGreatDoor.Dk
open Go.RowKit

set_option maxHeartbeats 1000000 in
set_option maxRecDepth 100000 in
theorem rename1 (w : World) (B a mb : Nat) (L : Al Nat) (F : Nat → Fl) (tv : Value) (d : D) (h : Da w B a mb L F tv d) (s s2 : ByteArray) (hs : s.size ≤ 1000000) (hs2 : s2.size ≤ 1000000) (bd bn b2 : Nat) (hc : Cp w bd bn a s) (hc2 : Cp w bd b2 a s2) (z : Int) (y : List UInt8) :
    Calls Tryz.prog 157 #[.pointer (some ⟨bd, 0, none⟩), .pointer (some ⟨bn, 0, none⟩), .pointer (some ⟨b2, 0, none⟩)] w
      fun e w' => e = .returned (.int .i64 (refuse d 5 s.data.toList s2.data.toList z y)) ∧ Below w.heap.size w w' := by
  obtain ⟨k1, k2⟩ := hc
  have k3 := hc2.bn
  have c1 := h.c1
  have hlk := fun q => (h.below (Joins.below_draws _ w q)).look s (by unfold maxLen; omega)
  have hg := h.get s.data.toList
  cases hG : Dk.get L s.data.toList with
  | none =>
    rw [hG] at hg hlk
    have hX2 : Hid (refuse d 5 s.data.toList s2.data.toList z y = 42) := Lib.hid (by unfold refuse; rw [if_neg (by decide), hg]; rfl)
    obtain ⟨X, hX⟩ : ∃ X, refuse d 5 s.data.toList s2.data.toList z y = X := ⟨_, rfl⟩
    rw [hX] at hX2 ⊢
    clear hg hG h hX hc2
    simp only [Option.map_none] at hlk
    go_enter Tryz.func157, Tryz.ntmps157
    go_wp2_with fail
    go_big_quiet (fail)
    go_wp2_with fail
    go_ret
    exact ⟨ret_int hX2.out.symm, Joins.below_draws _ _ _⟩
  | some b =>
    rw [hG] at hg hlk
    have hX1 : Hid (refuse d 5 s.data.toList s2.data.toList z y = if may s2.data.toList = false then 44 else 0) := Lib.hid (by unfold refuse; rw [if_neg (by decide), hg]; rfl)
    obtain ⟨X, hX⟩ : ∃ X, refuse d 5 s.data.toList s2.data.toList z y = X := ⟨_, rfl⟩
    rw [hX] at hX1 ⊢
    simp only [Option.map_some] at hlk
    clear hg hG h hX hc2
    have hm := fun q => may_any s2 (by omega) (w.drewN q)
    obtain ⟨M, hM⟩ : ∃ M, may s2.data.toList = M := ⟨_, rfl⟩
    rw [hM] at hX1 hm
    clear hM
    go_enter Tryz.func157, Tryz.ntmps157
    go_wp2_with fail
    go_big_quiet (fail)
    go_wp2_with fail
    refine (hm nq).mono ?_
    rintro e w2 ⟨rfl, hb2⟩
    have hb := Lib.hid ((Joins.below_draws w.heap.size w nq).trans (hb2.mono (by simp)))
    clear hb2 hm hlk
    cases M with
    | false =>
      have hX2 : Hid (X = 44) := Lib.hid hX1.out
      clear hX1
      go_wp2_with fail
      go_ret
      exact ⟨ret_int hX2.out.symm, hb.out⟩
    | true =>
      have hX2 : Hid (X = 0) := Lib.hid hX1.out
      clear hX1
      go_wp2_with fail
      go_ret
      exact ⟨ret_int hX2.out.symm, hb.out⟩

set_option maxHeartbeats 1000000 in
set_option maxRecDepth 100000 in
theorem cut1 (w : World) (B a mb : Nat) (L : Al Nat) (F : Nat → Fl) (tv : Value) (d : D) (h : Da w B a mb L F tv d) (s : ByteArray) (hs : s.size ≤ 1000000) (bd bn b2 : Nat) (hc : Cp w bd bn a s) (z : Int) (kz : w.cell? ⟨b2, 0, none⟩ = some (.int .i64 z)) (nt : Name) (y : List UInt8) :
    Calls Tryz.prog 146 #[.pointer (some ⟨bd, 0, none⟩), .pointer (some ⟨bn, 0, none⟩), .pointer (some ⟨b2, 0, none⟩)] w
      fun e w' => e = .returned (.int .i64 (refuse d 3 s.data.toList nt z y)) ∧ Below w.heap.size w w' := by
  obtain ⟨k1, k2⟩ := hc
  have c1 := h.c1
  have hlk := fun q => (h.below (Joins.below_draws _ w q)).look s (by unfold maxLen; omega)
  have hg := h.get s.data.toList
  cases hG : Dk.get L s.data.toList with
  | none =>
    rw [hG] at hg hlk
    have hX2 : Hid (refuse d 3 s.data.toList nt z y = 42) := Lib.hid (by unfold refuse; rw [if_neg (by decide), hg]; rfl)
    obtain ⟨X, hX⟩ : ∃ X, refuse d 3 s.data.toList nt z y = X := ⟨_, rfl⟩
    rw [hX] at hX2 ⊢
    simp only [Option.map_none] at hlk
    clear hg hG h hX
    go_enter Tryz.func146, Tryz.ntmps146
    go_wp2_with fail
    go_big_quiet (fail)
    go_wp2_with fail
    go_ret
    exact ⟨ret_int hX2.out.symm, Joins.below_draws _ _ _⟩
  | some b =>
    obtain ⟨hBb, hblt, A0, c0, hfb, hfs⟩ := h.file hG
    rw [hG] at hg hlk
    have hX1 : refuse d 3 s.data.toList nt z y = if z < 0 ∨ ((F b).data.length : Int) < z then 80 else 0 := by unfold refuse; rw [if_neg (by decide), hg]; rfl
    obtain ⟨X, hX⟩ : ∃ X, refuse d 3 s.data.toList nt z y = X := ⟨_, rfl⟩
    rw [hX] at hX1 ⊢
    simp only [Option.map_some] at hlk
    have kf : w.cell? ⟨b, 0, none⟩ = some (.slice A0 (F b).data.length c0) := by simp [World.cell?, hfb]
    obtain ⟨N, hN⟩ : ∃ N, (F b).data.length = N := ⟨_, rfl⟩
    rw [hN] at kf hX1
    have hX1' := Lib.hid hX1
    clear hg hG h hX hfb hfs hN hX1
    by_cases h0 : z < 0
    · have j0 : decide (z < 0) = true := by simpa using h0
      have hX2 : Hid (X = 80) := Lib.hid (by rw [hX1'.out, if_pos (.inl h0)])
      go_enter Tryz.func146, Tryz.ntmps146
      go_wp2_with fail
      go_big_quiet (fail)
      go_wp2_with fail
      go_big_quiet (fail)
      go_wp2_with fail
      go_ret
      exact ⟨ret_int hX2.out.symm, (Joins.below_draws _ _ _).trans (Joins.below_draws _ _ _)⟩
    · have j0 : decide (z < 0) = false := by simpa using h0
      by_cases h1 : (N : Int) < z
      · have j1 : decide ((N : Int) < z) = true := by simpa using h1
        have hX2 : Hid (X = 80) := Lib.hid (by rw [hX1'.out, if_pos (.inr h1)])
        go_enter Tryz.func146, Tryz.ntmps146
        go_wp2_with fail
        go_big_quiet (fail)
        go_wp2_with fail
        go_big_quiet (fail)
        go_wp2_with fail
        go_ret
        exact ⟨ret_int hX2.out.symm, (Joins.below_draws _ _ _).trans (Joins.below_draws _ _ _)⟩
      · have j1 : decide ((N : Int) < z) = false := by simpa using h1
        have hX2 : Hid (X = 0) := Lib.hid (by rw [hX1'.out, if_neg (by rintro (h | h); exact h0 h; exact h1 h)])
        go_enter Tryz.func146, Tryz.ntmps146
        go_wp2_with fail
        go_big_quiet (fail)
        go_wp2_with fail
        go_big_quiet (fail)
        go_wp2_with fail
        go_ret
        exact ⟨ret_int hX2.out.symm, (Joins.below_draws _ _ _).trans (Joins.below_draws _ _ _)⟩
end Go.Proofs.YtfdpnjebhllpkaaGreatDoor.Dk
end

section
namespace Go.Proofs.YtfdpnjebhllpkaaGreatDoor.Dk
open Go.RowKit

set_option maxHeartbeats 2000000 in
set_option maxRecDepth 100000 in
theorem append2 (w : World) (B a mb : Nat) (L : Al Nat) (F : Nat → Fl) (tv : Value) (d : D) (h : Da w B a mb L F tv d) (s : ByteArray) (hs : s.size ≤ 1000000) (bd bn bb : Nat) (hc : Cp w bd bn a s)
    (A : Option Addr) (n c : Nat) (l : List UInt8) (hl : l.length = n) (kb : w.cell? ⟨bb, 0, none⟩ = some (.slice A n c)) (hn : n ≤ 1000000) (hu : used d.fs ≤ 1000000000) (hroom : d.room ≤ 9223372036854775807) (z : Int) (nt : Name) :
    Calls Tryz.prog 132 #[.pointer (some ⟨bd, 0, none⟩), .pointer (some ⟨bn, 0, none⟩), .pointer (some ⟨bb, 0, none⟩)] w
      fun e w' => e = .returned (.int .i64 (refuse d 2 s.data.toList nt z l)) ∧ Below w.heap.size w w' := by
  obtain ⟨k1, k2⟩ := id hc
  have lt1 := hc.lt1
  have lt3 := cell_lt kb
  have halt := h.alt
  have c1 := h.c1
  have hlk := fun q => (h.below (Joins.below_draws _ w q)).look s (by unfold maxLen; omega)
  have hg := h.get s.data.toList
  cases hG : Dk.get L s.data.toList with
  | none =>
    rw [hG] at hg hlk
    have hX2 : Hid (refuse d 2 s.data.toList nt z l = 42) := Lib.hid (by unfold refuse; rw [if_neg (by decide), hg]; rfl)
    obtain ⟨X, hX⟩ : ∃ X, refuse d 2 s.data.toList nt z l = X := ⟨_, rfl⟩
    rw [hX] at hX2 ⊢
    simp only [Option.map_none] at hlk
    clear hg hG h hX lt1 lt3 halt
    go_enter Tryz.func132, Tryz.ntmps132
    go_wp2_with fail
    go_big_quiet (fail)
    go_wp2_with fail
    go_ret
    exact ⟨ret_int hX2.out.symm, Joins.below_draws _ _ _⟩
  | some b =>
    rw [hG] at hg hlk
    have hX1 : refuse d 2 s.data.toList nt z l = if (d.room : Int) - used d.fs < l.length then 40 else 0 := by unfold refuse; rw [if_neg (by decide), hg]; rfl
    obtain ⟨X, hX⟩ : ∃ X, refuse d 2 s.data.toList nt z l = X := ⟨_, rfl⟩
    rw [hX] at hX1 ⊢
    simp only [Option.map_some] at hlk
    have kr : w.cell? ⟨a, 0, none⟩ = some (.int .i64 (d.room : Nat)) := by simp [World.cell?, h.blk]
    have hX1' := Lib.hid hX1
    have h' := Lib.hid h
    have hbd' := Lib.hid lt1
    obtain ⟨U, hU⟩ : ∃ U, used d.fs = U := ⟨_, rfl⟩
    have hus : ∀ w1, Below w.heap.size w w1 → Calls Tryz.prog 89 #[.pointer (some ⟨a, 0, none⟩)] w1 fun e w2 => e = .returned (.int .i64 (U : Nat)) ∧ Hid (Below w.heap.size w w2) ∧ w2.cell? ⟨bd, 0, none⟩ = some (.pointer (some ⟨a, 0, none⟩)) ∧ w2.cell? ⟨bb, 0, none⟩ = some (.slice A n c) ∧ w2.cell? ⟨a, 0, none⟩ = some (.int .i64 (d.room : Nat)) := fun w1 hb1 => by
      refine (Used_any w1 B a mb L F tv d (h'.out.below hb1) hu).mono ?_
      rintro e w2 ⟨rfl, hb2⟩
      have hb := hb1.trans (hb2.mono hb1.size)
      exact ⟨by rw [hU], Lib.hid hb, (hb.cell (p := ⟨bd, 0, none⟩) lt1).trans k1, (hb.cell (p := ⟨bb, 0, none⟩) lt3).trans kb, (hb.cell (p := ⟨a, 0, none⟩) halt).trans kr⟩
    have hus' := Lib.hid hus
    rw [hU, hl] at hX1
    have hX1' := Lib.hid hX1
    obtain ⟨R, hR⟩ : ∃ R, d.room = R := ⟨_, rfl⟩
    rw [hR] at kr hX1' hroom hus'
    rw [hU] at hu
    have sall : ∀ w', Below w.heap.size w w' → (Below w.heap.size w w' ∧ w'.cell? ⟨bd, 0, none⟩ = some (.pointer (some ⟨a, 0, none⟩)) ∧ w'.cell? ⟨bb, 0, none⟩ = some (.slice A n c) ∧ w'.cell? ⟨a, 0, none⟩ = some (.int .i64 (R : Nat))) := fun w' hb =>
      ⟨hb, (hb.cell (p := ⟨bd, 0, none⟩) lt1).trans k1, (hb.cell (p := ⟨bb, 0, none⟩) lt3).trans kb, (hb.cell (p := ⟨a, 0, none⟩) halt).trans kr⟩
    have sall' := Lib.hid sall
    clear hg hG h hX hX1 hus hbd' lt1 lt3 halt hl hR hU sall
    go_enter Tryz.func132, Tryz.ntmps132
    go_wp2_with fail
    go_big_quiet (fail)
    have hb1 : Below w.heap.size w (w.drewN nq) := Joins.below_draws _ w nq
    obtain ⟨_, g1, g2, g3⟩ := sall'.out _ hb1
    generalize w.drewN nq = w1 at hb1 g1 g2 g3 ⊢
    have wr : IntKind.i64.wrap ((R : Int) - (U : Int)) = (R : Int) - (U : Int) := IntWalk.i64_in _ (by omega)
    clear k1 k2 kb kr c1 hlk
    by_cases hlt : (R : Int) - (U : Int) < (n : Int)
    · have j1 : decide ((R : Int) - (U : Int) < (n : Int)) = true := by simpa using hlt
      have hX2 : Hid (X = 40) := Lib.hid (by rw [hX1'.out, if_pos hlt])
      go_wp2_with fail
      go_region_held3 (fun w' => Below w.heap.size w w' ∧ w'.cell? ⟨bd, 0, none⟩ = some (.pointer (some ⟨a, 0, none⟩)) ∧ w'.cell? ⟨bb, 0, none⟩ = some (.slice A n c) ∧ w'.cell? ⟨a, 0, none⟩ = some (.int .i64 (R : Nat)))
        (first | exact sall'.out _ (by assumption) | exact sall'.out _ hb1 | exact sall'.out _ (Below.drew hb1))
        (first | (go_at_call 89; refine (hus'.out _ (And.left ‹Below w.heap.size w _ ∧ _›)).mono ?_; rintro e w2 ⟨rfl, hb2, _, _, _⟩; have hB' := hb2.out))
      have hh := Lib.hid (And.left ‹Below w.heap.size w _ ∧ _›)
      go_wp2_with fail
      go_ret
      exact ⟨ret_int hX2.out.symm, hh.out⟩
    · have j1 : decide ((R : Int) - (U : Int) < (n : Int)) = false := by simpa using hlt
      have hX2 : Hid (X = 0) := Lib.hid (by rw [hX1'.out, if_neg hlt])
      go_wp2_with fail
      go_region_held3 (fun w' => Below w.heap.size w w' ∧ w'.cell? ⟨bd, 0, none⟩ = some (.pointer (some ⟨a, 0, none⟩)) ∧ w'.cell? ⟨bb, 0, none⟩ = some (.slice A n c) ∧ w'.cell? ⟨a, 0, none⟩ = some (.int .i64 (R : Nat)))
        (first | exact sall'.out _ (by assumption) | exact sall'.out _ hb1 | exact sall'.out _ (Below.drew hb1))
        (first | (go_at_call 89; refine (hus'.out _ (And.left ‹Below w.heap.size w _ ∧ _›)).mono ?_; rintro e w2 ⟨rfl, hb2, _, _, _⟩; have hB' := hb2.out))
      have hh := Lib.hid (And.left ‹Below w.heap.size w _ ∧ _›)
      go_wp2_with fail
      go_ret
      exact ⟨ret_int hX2.out.symm, hh.out⟩
end Go.Proofs.YtfdpnjebhllpkaaGreatDoor.Dk
end

section
namespace Go.Proofs.YtfdpnjebhllpkaaGreatDoor.Dk
open Go.RowKit

/-- What the closures of Append captured: the variable put, the bytes. -/
def PutV (w : World) (bp bd bn bb : Nat) : Prop := w.cell? ⟨bp, 0, none⟩ = some (.func (.func 130) #[] #[.pointer (some ⟨bd, 0, none⟩), .pointer (some ⟨bn, 0, none⟩), .pointer (some ⟨bb, 0, none⟩)])

set_option maxHeartbeats 1000000 in
set_option maxRecDepth 100000 in
theorem append4 (w : World) (B a mb : Nat) (L : Al Nat) (F : Nat → Fl) (tv : Value) (d : D) (h : Da w B a mb L F tv d) (s : ByteArray) (hs : s.size ≤ 1000000) (bd bn bb bp : Nat) (hc : Cp w bd bn a s) (hp : PutV w bp bd bn bb)
    (A : Option Addr) (n c : Nat) (l : List UInt8) (kb : w.cell? ⟨bb, 0, none⟩ = some (.slice A n c)) (hBs : Bs w A n c l) (hn : n ≤ 1000000) (b : Nat) (hg : Dk.get L s.data.toList = some b) (hfl : (F b).data.length ≤ 1000000000) :
    Calls Tryz.prog 134 #[.pointer (some ⟨bp, 0, none⟩), .pointer (some ⟨bb, 0, none⟩)] w
      fun e w' => e = .returned (.tuple #[]) ∧ St B a mb tv { d with fs := upd s.data.toList (fun f => ⟨f.data ++ l, f.safe⟩) d.fs } w w' := by
  have hcon := append1 w B a mb L F tv d h s hs bd bn bb hc A n c l kb hBs hn n (Nat.le_refl _) b hg hfl
  rw [List.take_of_length_le (by rw [hBs.len]; exact Nat.le_refl _)] at hcon
  have hcon' := Lib.hid hcon
  have kp : w.cell? ⟨bp, 0, none⟩ = _ := hp
  have e1 : ∀ args w, (callFunc 130 args).run Tryz.prog w = .ok (.enter 130 args) w := enters_of Tryz.func130 (by kernel_rfl) rfl
  clear hcon h hc hp hBs hg
  go_enter Tryz.func134, Tryz.ntmps134
  go_wp2_with fail
  refine hcon'.out.mono ?_
  rintro e w1 ⟨rfl, hst⟩
  have hst' := Lib.hid hst
  clear hst kp kb
  go_wp2_with fail
  go_end0
  exact ⟨rfl, hst'.out⟩

set_option maxHeartbeats 1000000 in
set_option maxRecDepth 100000 in
theorem append3 (w : World) (B a mb : Nat) (L : Al Nat) (F : Nat → Fl) (tv : Value) (d : D) (h : Da w B a mb L F tv d) (s : ByteArray) (hs : s.size ≤ 1000000) (bd bn bb bp : Nat) (hc : Cp w bd bn a s) (hp : PutV w bp bd bn bb)
    (A : Option Addr) (n c : Nat) (l : List UInt8) (kb : w.cell? ⟨bb, 0, none⟩ = some (.slice A n c)) (hBs : Bs w A n c l) (hn : n ≤ 1000000) (b : Nat) (hg : Dk.get L s.data.toList = some b) (hfl : (F b).data.length ≤ 1000000000) (z : Int) :
    Calls Tryz.prog 133 #[.int .i64 z, .pointer (some ⟨bp, 0, none⟩), .pointer (some ⟨bb, 0, none⟩)] w
      fun e w' => e = .returned (.tuple #[]) ∧ St B a mb tv { d with fs := upd s.data.toList (fun f => ⟨f.data ++ l.take z.toNat, f.safe⟩) d.fs } w w' := by
  obtain ⟨m, hm⟩ : ∃ m : Nat, min (max z 0) (n : Int) = (m : Int) := ⟨(min (max z 0) (n : Int)).toNat, by omega⟩
  have hcon := append1 w B a mb L F tv d h s hs bd bn bb hc A n c l kb hBs hn m (by omega) b hg hfl
  have htk : l.take m = l.take z.toNat := by
    have hl := hBs.len
    rcases Nat.le_total z.toNat n with h1 | h1
    · rw [show m = z.toNat by omega]
    · rw [show m = n by omega, List.take_of_length_le (by omega), List.take_of_length_le (by omega)]
  rw [htk] at hcon
  have hcon' := Lib.hid hcon
  have kp : w.cell? ⟨bp, 0, none⟩ = _ := hp
  have e1 : ∀ args w, (callFunc 130 args).run Tryz.prog w = .ok (.enter 130 args) w := enters_of Tryz.func130 (by kernel_rfl) rfl
  clear hcon h hc hp hBs hg htk
  go_enter Tryz.func133, Tryz.ntmps133
  go_wp2_with fail
  refine hcon'.out.mono ?_
  rintro e w1 ⟨rfl, hst⟩
  have hst' := Lib.hid hst
  clear hst kp kb
  go_wp2_with fail
  go_end0
  exact ⟨rfl, hst'.out⟩
end Go.Proofs.YtfdpnjebhllpkaaGreatDoor.Dk
end
