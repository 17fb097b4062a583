/- slices.Grow and slices.Concat at bytes. -/
import Derived.Test.YtfdpnjebhllpkaaGreatDoorMDkOperate
import Derived.StillTailTactics
import Derived.OwnWalk
import Derived.Deep.DeepCutAuto
import Derived.Deep.AppendLies
import Derived.Lib.AppendZeros
section
namespace Go.Proofs.YtfdpnjebhllpkaaGreatDoor.Dk
open Go.RowKit

/-- What the closures of an operation captured: the disk, a name. -/
structure Cp (w : World) (bd bn a : Nat) (s : ByteArray) : Prop where
  bd : w.cell? ⟨bd, 0, none⟩ = some (.pointer (some ⟨a, 0, none⟩))
  bn : w.cell? ⟨bn, 0, none⟩ = some (.string s)

theorem Da.len_eq {w : World} {B a mb : Nat} {L : Al Nat} {F : Nat → Fl} {tv : Value} {d : D} (h : Da w B a mb L F tv d) : d.fs.length = L.length := by rw [h.fs, List.length_map]
theorem Da.c1 {w : World} {B a mb : Nat} {L : Al Nat} {F : Nat → Fl} {tv : Value} {d : D} (h : Da w B a mb L F tv d) : w.cell? ⟨a, 1, none⟩ = some (.map (some mb)) := by simp [World.cell?, h.blk]

theorem len_run {w : World} {B a mb : Nat} {L : Al Nat} {F : Nat → Fl} {tv : Value} {d : D} (h : Da w B a mb L F tv d) (ty : TypeId) : (Builtin.len_ #[111] ty #[.map (some mb)]).run Tryz.prog w = .ok (.int .i64 (d.fs.length : Nat)) w := by
  rw [h.own.len Tryz.underlying111 ty, mp_size, h.len_eq]

set_option maxHeartbeats 1000000 in
set_option maxRecDepth 100000 in
theorem create1 (w : World) (B a mb : Nat) (L : Al Nat) (F : Nat → Fl) (tv : Value) (d : D) (h : Da w B a mb L F tv d) (s : ByteArray) (hs : s.size ≤ 1000000) (bd bn : Nat) (hc : Cp w bd bn a s) (hbd : bd < w.heap.size) (hfl : d.fs.length ≤ 1000) :
    Calls Tryz.prog 126 #[.pointer (some ⟨bn, 0, none⟩), .pointer (some ⟨bd, 0, none⟩)] w fun e w' => e = .returned (.int .i64 (refuse d 1 s.data.toList [] 0 [])) ∧ Below w.heap.size w w' := by
  obtain ⟨k1, k2⟩ := hc
  have hr : refuse d 1 s.data.toList [] 0 [] = if may s.data.toList = false then 44 else if (Dk.get d.fs s.data.toList).isSome then 43 else if 64 ≤ d.fs.length then 40 else 0 := rfl
  obtain ⟨X, hX⟩ : ∃ X, refuse d 1 s.data.toList [] 0 [] = X := ⟨_, rfl⟩
  rw [hX] at hr ⊢
  have hr' := Lib.hid hr
  have hm := may_any s (by omega) w
  obtain ⟨M, hM⟩ : ∃ M, may s.data.toList = M := ⟨_, rfl⟩
  rw [hM] at hm
  have hM' := Lib.hid hM
  have h' := Lib.hid h
  clear hr hX hM h
  go_enter Tryz.func126, Tryz.ntmps126
  go_wp2_with fail
  refine hm.mono ?_
  rintro e w1 ⟨rfl, hb1⟩
  have hb1' := Lib.hid hb1
  cases M with
  | false =>
    have hX2 : Hid (X = 44) := Lib.hid (by rw [hr'.out, if_pos hM'.out])
    clear hb1 hr'
    go_wp2_with fail
    go_ret
    exact ⟨ret_int hX2.out.symm, hb1'.out⟩
  | true =>
    have h1 := h'.out.below hb1
    have g1 := (hb1.cell (p := ⟨bd, 0, none⟩) hbd).trans k1
    have g2 : w1.cell? ⟨bn, 0, none⟩ = some (.string s) := (hb1.cell (p := ⟨bn, 0, none⟩) (by
      rcases Nat.lt_or_ge bn w.heap.size with h | h
      · exact h
      · simp [World.cell?, Array.getElem?_eq_none h] at k2)).trans k2
    have c1 := h1.c1
    have hlk := fun q => (h1.below (Joins.below_draws _ w1 q)).look s (by unfold maxLen; omega)
    have hln := fun q => len_run (h1.below (Joins.below_draws _ w1 q)) 3
    have hg := h1.get s.data.toList
    obtain ⟨G, hG⟩ : ∃ G, Dk.get L s.data.toList = G := ⟨_, rfl⟩
    rw [hG] at hg hlk
    have hg' := Lib.hid hg
    clear hb1 hG hg h1 k1 k2
    cases G with
    | some b =>
      have hX2 : Hid (X = 43) := Lib.hid (by rw [hr'.out, if_neg (by rw [hM'.out]; decide), hg'.out]; rfl)
      simp only [Option.map_some] at hlk
      clear hr' hln
      go_wp2_with fail
      go_big_quiet (fail)
      go_wp2_with fail
      go_ret
      exact ⟨ret_int hX2.out.symm, hb1'.out.trans ((Joins.below_draws _ _ _).mono hb1'.out.size)⟩
    | none =>
      simp only [Option.map_none] at hlk
      have hX1 : Hid (X = if 64 ≤ d.fs.length then 40 else 0) := Lib.hid (by rw [hr'.out, if_neg (by rw [hM'.out]; decide), hg'.out]; rfl)
      obtain ⟨n, hn⟩ : ∃ n, d.fs.length = n := ⟨_, rfl⟩
      rw [hn] at hln hX1 hfl
      clear hr' hn
      by_cases h64 : 64 ≤ n
      · have j1 : decide ((64 : Int) ≤ (n : Int)) = true := by simp; omega
        have hX2 : Hid (X = 40) := Lib.hid (by rw [hX1.out, if_pos h64])
        go_wp2_with fail
        go_big_quiet (fail)
        go_wp2_with fail
        go_ret
        exact ⟨ret_int hX2.out.symm, hb1'.out.trans ((Joins.below_draws _ _ _).mono hb1'.out.size)⟩
      · have j1 : decide ((64 : Int) ≤ (n : Int)) = false := by simp; omega
        have hX2 : Hid (X = 0) := Lib.hid (by rw [hX1.out, if_neg h64])
        go_wp2_with fail
        go_big_quiet (fail)
        go_wp2_with fail
        go_ret
        exact ⟨ret_int hX2.out.symm, hb1'.out.trans ((Joins.below_draws _ _ _).mono hb1'.out.size)⟩

theorem not_mem_get {l : Al Nat} {nm : Name} (h : Dk.get l nm = none) : del nm l = l := by
  unfold del
  rw [List.filter_eq_self]
  intro p hp
  have := get_none.1 h p hp
  simpa using this

/-- A new file's block is laid, and its name. -/
theorem Da.addF {w w' : World} {B a mb : Nat} {L : Al Nat} {F : Nat → Fl} {tv : Value} {d : D} (h : Da w B a mb L F tv d) {nm : Name} {b n : Nat} {f : Fl} (hf : FileAt w B b f) (hfr : ∀ p ∈ L, p.2 ≠ b) (hno : Dk.get L nm = none)
    (hg : w.grownBy w' (some mb)) (hown : w'.ownsMap Tryz.prog 9 ptrElem mb n ((mp L).put (.string nm) (.lit (.int .i64 (b : Nat))))) :
    Da w' B a mb (ins nm b L) (fun x => if x = b then f else F x) tv { d with fs := ins nm f d.fs } := by
  rw [mp_put, not_mem_get hno] at hown
  have hn := get_none.1 hno
  have e : (ins nm b L).map (fun p => (p.1, if p.2 = b then f else F p.2)) = ins nm f d.fs := by
    rw [h.fs, ins_map (fun x => if x = b then f else F x), if_pos rfl]
    congr 1
    apply List.map_congr_left
    intro p hp
    rw [if_neg (hfr p hp)]
  have hm := h.setM hg (F' := fun x => if x = b then f else F x) hown (ins_up h.up hn) ?_ ?_
  · rw [e] at hm
    exact hm
  · have hp : ((ins nm b L).map (·.2)).Perm (b :: L.map (·.2)) := by
      clear hown hn e hno hfr h
      induction L with
      | nil => exact List.Perm.refl _
      | cons p l ih =>
        rw [ins]
        split
        · exact List.Perm.refl _
        · exact (List.Perm.cons _ ih).trans (List.Perm.swap _ _ _)
    refine hp.nodup_iff.2 (List.nodup_cons.2 ⟨fun hb => ?_, h.nd⟩)
    obtain ⟨p, h1, h2⟩ := List.mem_map.1 hb
    exact hfr p h1 h2
  · intro p hp
    rcases ins_mem.1 hp with rfl | hp
    · exact .inr (by rw [if_pos rfl]; exact hf)
    · exact .inl ⟨hp, by rw [if_neg (hfr p hp)]⟩

theorem bD {B : Nat} {a w : World} (h : Below B a w) : Below B a w.drew := h.trans (Joins.below_draws _ w 1)
theorem bN {B : Nat} {a w : World} (h : Below B a w) (k : Nat) : Below B a (w.drewN k) := h.trans (Joins.below_draws _ w k)
theorem bA {a w : World} (h : Below a.heap.size a w) (o : Obj) : Below a.heap.size a (w.alloc o) := h.alloc h.size o

/-- 'm[k] = v', as a step of a region that draws. -/
theorem step_mapUpdate {H : Type} {P : Program} {ops : Array Oper} {o : Oper} {a : Act} {K : Act → World → Prop} {Q : Exit → Act → World → Prop} {E0 : Prop} (w : World) (hgd : o.guard = none) (m x v : Operand) (t : TypeId) (hop : o.op = Op.mapUpdate t m x v)
    (k e : TypeId) (KK : Maps.Keyed P k) (ht : P.underlying t = some (.map k e)) (R : Value → Option (DataW H × List MemPlace)) (b n : Nat) (D : DataW H)
    (hm : a.eval m = .map (some b)) (hown : w.ownsMap P k R b n D) (hn : n < maxLen) (key val : Value) (kl : Lit) (hx : a.eval x = key) (hv : a.eval v = val) (hkey : keyOf P k key = some kl)
    (d : DataW H) (ps : List MemPlace) (hval : R val = some (d, ps))
    (h : ∀ w', w'.ownsMap P k R b (n + 1) (D.put kl d) → w.grownBy w' (some b) → K (a.put o.dst undef) w') :
    if Region.wanted o (yielded ops a.tmps) = true then Oper.wp P o a w K Q else E0 := by
  have hw : Region.wanted o (yielded ops a.tmps) = true := by simp [Region.wanted, hgd]
  rw [if_pos hw]
  obtain ⟨w', hrun, r1, r2⟩ := hown.update KK ht hn hkey hval
  unfold Oper.wp
  simp [execOp, hop, hm, hx, hv, hrun, Result.andThen]
  exact h w' r1 r2

theorem new_file {w : World} {V : Nat} (h : w.heap.size = V) : (w.alloc (.cells #[.slice none 0 0, .int .i64 0] 132)).heap[V]? = some (.cells #[.slice none 0 0, .int .i64 0] 132) := by
  subst h
  exact heap_alloc_new w _
theorem size_drewN (w : World) (k : Nat) : (w.drewN k).heap.size = w.heap.size := by simp

theorem create_end {w W w' : World} {B a mb n V : Nat} {L : Al Nat} {F : Nat → Fl} {tv : Value} {d : D} (h : Da w B a mb L F tv d) {nm : Name} (hno : Dk.get L nm = none) (hV : w.heap.size = V) (hW : Below w.heap.size w W)
    (hnew : W.heap[V]? = some (.cells #[.slice none 0 0, .int .i64 0] 132)) (hown : w'.ownsMap Tryz.prog 9 ptrElem mb n ((mp L).put (.string nm) (.lit (.int .i64 (V : Nat))))) (hg : W.grownBy w' (some mb)) :
    St B a mb tv { d with fs := act d.fs 1 nm [] 0 [] } w w' := by
  have hB := h.base
  have h1 := h.below hW
  have hm := h.mlt
  have hf : FileAt W B V ⟨[], 0⟩ := ⟨by rw [← hV]; omega, _, hnew, OwB.nil _ _ _⟩
  have h2 := h1.addF (n := n) hf (fun p hp => by have := (h.files p hp).lt; omega) hno hg hown
  refine ⟨(hW.mono (by omega)).trans (below_row hg hB.2 (by have := hW.size; omega)), (Fm.below hW).trans (Fm.grown hg fun cs E fr he => ?_), _, _, h2⟩
  obtain ⟨es, cl, hmb⟩ := h1.mblk
  rw [hmb] at he
  cases he

set_option maxHeartbeats 1000000 in
set_option maxRecDepth 100000 in
theorem create2 (w : World) (B a mb : Nat) (L : Al Nat) (F : Nat → Fl) (tv : Value) (d : D) (h : Da w B a mb L F tv d) (s : ByteArray) (hs : s.size ≤ 1000000) (bd bn : Nat) (hc : Cp w bd bn a s) (hno : Dk.get L s.data.toList = none) (hfl : d.fs.length ≤ 1000) :
    Calls Tryz.prog 129 #[.pointer (some ⟨bd, 0, none⟩), .pointer (some ⟨bn, 0, none⟩)] w fun e w' => e = .returned (.tuple #[]) ∧ St B a mb tv { d with fs := act d.fs 1 s.data.toList [] 0 [] } w w' := by
  obtain ⟨k1, k2⟩ := hc
  have c1 := h.c1
  have hmlt := h.mlt
  have halt := h.alt
  have lt1 : bd < w.heap.size := by
    rcases Nat.lt_or_ge bd w.heap.size with h | h
    · exact h
    · simp [World.cell?, Array.getElem?_eq_none h] at k1
  have lt2 : bn < w.heap.size := by
    rcases Nat.lt_or_ge bn w.heap.size with h | h
    · exact h
    · simp [World.cell?, Array.getElem?_eq_none h] at k2
  have d1 : ∀ o, (w.alloc o).cell? ⟨bd, 0, none⟩ = some (.pointer (some ⟨a, 0, none⟩)) := fun o => ((below_alloc w o).cell (p := ⟨bd, 0, none⟩) lt1).trans k1
  have d2 : ∀ o, (w.alloc o).cell? ⟨bn, 0, none⟩ = some (.string s) := fun o => ((below_alloc w o).cell (p := ⟨bn, 0, none⟩) lt2).trans k2
  have d3 : ∀ o, (w.alloc o).cell? ⟨a, 1, none⟩ = some (.map (some mb)) := fun o => ((below_alloc w o).cell (p := ⟨a, 1, none⟩) halt).trans c1
  have hl := h.len_eq
  have hlm : L.length < maxLen := by unfold maxLen; omega
  have hkey := WideMaps.keyOf_string_mk (P := Tryz.prog) Tryz.underlying9 (s := s) (by unfold maxLen; omega)
  have hbW : Below w.heap.size w (w.alloc (.cells #[.slice none 0 0, .int .i64 0] 132)).drew := bD (below_alloc w _)
  obtain ⟨w', hrun, h1, h2⟩ := (h.below hbW).own.update law_str Tryz.underlying111 hlm hkey (val := .pointer (some ⟨w.heap.size, 0, none⟩)) (d := .lit (.int .i64 (w.heap.size : Nat))) (ps := []) rfl
  have hst := Lib.hid (create_end h hno rfl hbW (heap_alloc_new w _) h1 h2)
  clear h hno hl hkey lt1 lt2 halt hmlt h1 h2 hbW
  go_enter Tryz.func129, Tryz.ntmps129
  go_wp2_with fail
  go_region
  all_goals clear d1 d2 d3 k1 k2 c1 hrun
  all_goals go_wp2_with fail
  all_goals go_end0
  all_goals exact ⟨rfl, hst.out⟩
end Go.Proofs.YtfdpnjebhllpkaaGreatDoor.Dk
end

section
namespace Go.Proofs.YtfdpnjebhllpkaaGreatDoor.Dk
open Go.RowKit

theorem op_eq (d : D) (k : Nat) (nm nt : Name) (n : Int) (b : List UInt8) : op d k nm nt n b = opX d (refuse d k nm nt n b) (fun p => { d with ops := d.ops + 1, fs := part d.fs k nm p b }) { d with ops := d.ops + 1, fs := act d.fs k nm nt n b } := rfl

theorem make_func : ∀ (fn : Fn) (first cap : Array Value) (w : World), (Instr.makeFunc fn first cap).run Tryz.prog w = .ok (.func fn first cap) w := fun _ _ _ _ => rfl

theorem nothing_any (p : Int) (w : World) : Calls Tryz.prog 128 #[.int .i64 p] w fun e w' => e = .returned (.tuple #[]) ∧ w' = w := by
  go_enter Tryz.func128, Tryz.ntmps128
  go_wp2_with fail
  go_end0
  exact ⟨rfl, rfl⟩

theorem St.same {w : World} {B a mb : Nat} {L : Al Nat} {F : Nat → Fl} {tv : Value} {d : D} (h : Da w B a mb L F tv d) : St B a mb tv d w w := ⟨Below.refl _ _, Fm.refl _, L, F, h⟩

theorem Cp.below {w w' : World} {bd bn a : Nat} {s : ByteArray} {N : Nat} (h : Cp w bd bn a s) (h1 : bd < N) (h2 : bn < N) (hb : Below N w w') : Cp w' bd bn a s := ⟨(hb.cell (p := ⟨bd, 0, none⟩) h1).trans h.bd, (hb.cell (p := ⟨bn, 0, none⟩) h2).trans h.bn⟩
theorem Cp.set {w : World} {bd bn a i c : Nat} {s : ByteArray} (h : Cp w bd bn a s) (h1 : bd ≠ c) (h2 : bn ≠ c) (x : Value) : Cp (w.setCell ⟨c, i, none⟩ x) bd bn a s := by
  have hg := grown_set w ⟨c, i, none⟩ x
  exact ⟨hg.cell h.bd (by simp; exact h1), hg.cell h.bn (by simp; exact h2)⟩

/-- The two boxes are laid. -/
theorem boxes (w : World) (a : Nat) (s : ByteArray) : Cp ((w.alloc (.cells #[.pointer (some ⟨a, 0, none⟩)] 39)).alloc (.cells #[.string s] 9)) w.heap.size (w.heap.size + 1) a s ∧
    Below w.heap.size w ((w.alloc (.cells #[.pointer (some ⟨a, 0, none⟩)] 39)).alloc (.cells #[.string s] 9)) ∧
    ((w.alloc (.cells #[.pointer (some ⟨a, 0, none⟩)] 39)).alloc (.cells #[.string s] 9)).heap.size = w.heap.size + 2 := by
  refine ⟨⟨?_, ?_⟩, bA (below_alloc _ _) _, by simp⟩
  · simp
  · simp

set_option maxHeartbeats 1000000 in
set_option maxRecDepth 100000 in
theorem Create_any (w : World) (B a mb : Nat) (L : Al Nat) (F : Nat → Fl) (tv : Value) (d : D) (h : Da w B a mb L F tv d) (hops : d.ops ≤ 1000000) (htl : d.tr.length ≤ 1000000) (hfl : d.fs.length ≤ 1000) (s : ByteArray) (hs : s.size ≤ 1000000) :
    Calls Tryz.prog 70 #[.pointer (some ⟨a, 0, none⟩), .string s] w (OpP B a mb tv (op d 1 s.data.toList [] 0 []) w) := by
  obtain ⟨hcp, hb2, hsz⟩ := boxes w a s
  have hmf := make_func
  have halt := h.alt
  have hB := h.base
  obtain ⟨b0, hb0⟩ : ∃ b0, w.heap.size = b0 := ⟨_, rfl⟩
  rw [hb0] at hcp hsz halt
  have h2 := h.below hb2
  have kd : ((w.alloc (.cells #[.pointer (some ⟨a, 0, none⟩)] 39)).alloc (.cells #[.string s] 9)).cell? ⟨b0, 0, none⟩ = some (.pointer (some ⟨a, 0, none⟩)) := hcp.bd
  obtain ⟨w2, hw2⟩ : ∃ w2, (w.alloc (.cells #[.pointer (some ⟨a, 0, none⟩)] 39)).alloc (.cells #[.string s] 9) = w2 := ⟨_, rfl⟩
  rw [hw2] at hcp hb2 hsz h2 kd
  have hcp' := hcp.set (i := 3) (c := a) (by omega) (by omega) (.int .i64 ((d.ops + 1 : Nat)))
  obtain ⟨hD2, _⟩ := h2.setOps (d.ops + 1)
  have hcode : ∀ n, refuse { d with ops := n } 1 s.data.toList [] 0 [] = refuse d 1 s.data.toList [] 0 [] := fun _ => rfl
  have hop := operate_any w2 B a mb L F tv d h2 hops htl 126 128 129 #[.pointer (some ⟨b0 + 1, 0, none⟩), .pointer (some ⟨b0, 0, none⟩)] #[] #[.pointer (some ⟨b0, 0, none⟩), .pointer (some ⟨b0 + 1, 0, none⟩)]
    (refuse d 1 s.data.toList [] 0 []) (fun p => { d with ops := d.ops + 1, fs := part d.fs 1 s.data.toList p [] }) { d with ops := d.ops + 1, fs := act d.fs 1 s.data.toList [] 0 [] }
    (enters_of Tryz.func126 (by kernel_rfl) rfl) (enters_of Tryz.func128 (by kernel_rfl) rfl) (enters_of Tryz.func129 (by kernel_rfl) rfl)
    (fun w1 hb1 => by
      have hD1 := hD2.below (by rw [set_size]; exact hb1)
      have := create1 w1 B a mb L F tv _ hD1 s hs b0 (b0 + 1) (hcp'.below (by omega) (by omega) hb1) (by have := hb1.size; rw [set_size] at this; omega) hfl
      rw [hcode] at this
      exact this)
    (fun w1 p hb1 _ => (nothing_any p w1).mono (by
      rintro e w3 ⟨rfl, rfl⟩
      exact ⟨rfl, St.same (hD2.below (by rw [set_size]; exact hb1))⟩))
    (fun w1 hb1 hc0 => by
      have hD1 := hD2.below (by rw [set_size]; exact hb1)
      have hno : Dk.get L s.data.toList = none := by
        unfold refuse at hc0
        rw [if_pos rfl] at hc0
        split at hc0
        · omega
        split at hc0
        · omega
        rename_i hns
        rw [h.get] at hns
        cases hg : Dk.get L s.data.toList with
        | none => rfl
        | some b => rw [hg] at hns; exact absurd rfl hns
      exact create2 w1 B a mb L F tv _ hD1 s hs b0 (b0 + 1) (hcp'.below (by omega) (by omega) hb1) hno hfl)
  rw [← op_eq] at hop
  have hop' := Lib.hid hop
  have hb2' := Lib.hid hb2
  have hB' := Lib.hid hB
  clear hop hcp hcp' hD2 h2 h hcode hsz hb2 hB
  go_enter Tryz.func70, Tryz.ntmps70
  go_wp2_with fail
  refine hop'.out.mono ?_
  rintro e w3 ⟨rfl, hst⟩
  have hst' := Lib.hid hst
  clear hst hmf
  go_wp2_with fail
  go_ret
  exact ⟨rfl, hst'.out.on (hb2'.out.mono (by have := hB'.out; omega)) (Fm.below hb2'.out)⟩
end Go.Proofs.YtfdpnjebhllpkaaGreatDoor.Dk
end

section
namespace Go.Proofs.YtfdpnjebhllpkaaGreatDoor.Dk
open Go.RowKit

theorem info_u8 : (Tryz.prog.info? 5).map (fun i => (i.zero, i.size, i.bytes)) = some (some (.int .u8 0), 1, 1) := by kernel_rfl

theorem bsl_lit2 (w : World) (E : TypeId) (A0 A1 : Option Addr) (n0 n1 c0 c1 : Nat) (l0 l1 : List UInt8) (h0 : Bs w A0 n0 c0 l0) (h1 : Bs w A1 n1 c1 l1) :
    BsL (w.alloc (.cells #[.slice A0 n0 c0, .slice A1 n1 c1] E)) (some ⟨w.heap.size, 0, none⟩) 2 2 [l0, l1] := by
  have hb := below_alloc w (.cells #[.slice A0 n0 c0, .slice A1 n1 c1] E)
  refine ⟨[.slice A0 n0 c0, .slice A1 n1 c1], ⟨rfl, by omega, by omega, fun h => by simp at h, fun _ => ⟨_, _, rfl, by simp, fun j u hu => ?_⟩⟩, rfl, fun j u hu => ?_⟩
  · have hh : (w.alloc (.cells #[.slice A0 n0 c0, .slice A1 n1 c1] E)).heap[w.heap.size]? = some (.cells #[.slice A0 n0 c0, .slice A1 n1 c1] E) := heap_alloc_new w _
    simp only [World.cell?, hh, Nat.zero_add]
    simpa using hu
  · match j, hu with
    | 0, hu => simp at hu; subst hu; exact ⟨l0, rfl, El.of_bs (h0.below hb)⟩
    | 1, hu => simp at hu; subst hu; exact ⟨l1, rfl, El.of_bs (h1.below hb)⟩

set_option maxHeartbeats 1000000 in
theorem grow_any (m : Nat) (hm : m ≤ 140737488355328) (w : World) :
    Calls Tryz.prog 179 #[.slice none 0 0, .int .i64 m] w fun e w' => ∃ A' c', e = .returned (.slice A' 0 c') ∧ OwB w' w.heap.size 5 (.slice A' 0 c') [] ∧ Below w.heap.size w w' := by
  by_cases h0 : m = 0
  · subst h0
    go_enter Tryz.func179, Tryz.ntmps179
    go_wp2_with fail
    go_ret
    exact ⟨_, _, rfl, OwB.nil _ _ _, Below.refl _ _⟩
  · have hp : 0 < m := by omega
    go_enter Tryz.func179, Tryz.ntmps179
    go_wp2_with (at_builtin; apply stop_here)
    obtain ⟨i, hi, hz, hsz, hby⟩ := info_parts info_u8
    have hcap := grownCap_ge w m 0 5
    have hcm := grownCap_le_maxLen w m 0 5 (by unfold maxLen; omega)
    have hcm2 : grownCap w m 0 5 ≤ 9223372036854775807 := by unfold maxLen at hcm; omega
    refine Stop.go (Lib.wpList_append_run _ rfl _ _ 22 3 rfl _ _ rfl rfl _ _ (Lib.run_append_nil_zeros w 22 3 _ 5 i (.int .u8 0) .i64 .i64 Tryz.underlying22 Tryz.underlying3 hi hz m hp (by omega) (by omega) (by rw [hby]; omega)) ?_)
    have ho := World.ownsRow_made (base := w.heap.size) (e := 5) (size := 1) w.drew (Builtin.zeroCells (Value.int .u8 0).cells m ++ Builtin.zeroCells (Value.int .u8 0).cells (grownCap w m 0 5 - m)) (grownCap w m 0 5) (Nat.le_refl _) hcm (by
      rw [Array.size_append, size_zeroCells, size_zeroCells]
      simp [Value.cells]
      omega)
    have hb : Below w.heap.size w (w.drew.alloc (.cells (Builtin.zeroCells (Value.int .u8 0).cells m ++ Builtin.zeroCells (Value.int .u8 0).cells (grownCap w m 0 5 - m)) 5)) :=
      (Below.refl _ _).drew.alloc (Nat.le_refl _) _
    generalize w.drew.alloc (.cells (Builtin.zeroCells (Value.int .u8 0).cells m ++ Builtin.zeroCells (Value.int .u8 0).cells (grownCap w m 0 5 - m)) 5) = w1 at *
    go_wp2_with fail
    go_ret
    exact ⟨_, _, rfl, ho, hb⟩

set_option maxHeartbeats 1000000 in
theorem concat_any (A : Option Addr) (n c : Nat) (ls : List (List UInt8)) (w : World) (hBs : BsL w A n c ls) (hsz : (cat ls).length ≤ 140737488355328) :
    Calls Tryz.prog 131 #[.slice A n c] w fun e w' => ∃ A' c', e = .returned (.slice A' (cat ls).length c') ∧ OwB w' w.heap.size 5 (.slice A' (cat ls).length c') (cat ls) ∧ Below w.heap.size w w' := by
  have hn := hBs.le
  have hm := hBs.max
  have HN : Hid (ls.length = n) := hBs.len
  have HF : Hid (cat (ls.take n) = cat ls) := by unfold Hid; rw [List.take_of_length_le (by rw [HN.out]; omega)]
  go_enter Tryz.func131, Tryz.ntmps131
  go_wp2
  go_loop [3, 11] (fun v i => ∃ k : Nat, k ≤ n ∧ i = .int .i64 k ∧ v = .int .i64 ((cat (ls.take k)).length : Nat)) (fun _ i => n - (intOf i).toNat)
  case atStart => exact ⟨0, by omega, rfl, rfl⟩
  case round =>
    obtain ⟨k, hk, rfl, rfl⟩ := hrel
    have hb := cat_take_le ls k
    by_cases hlt : k < n
    · obtain ⟨b, off, A1, n1, c1, l1, rfl, _, hl, hc, hbs⟩ := hBs.at_ hlt
      have hb1 := cat_take_le ls (k + 1)
      have HL : Hid ((cat (ls.take (k + 1))).length = (cat (ls.take k)).length + n1) := by unfold Hid; rw [cat_take hl, List.length_append, hbs.len]
      have hb2 : (cat (ls.take k)).length + n1 ≤ 140737488355328 := by rw [← HL.out]; omega
      clear hl hb1
      generalize (cat (ls.take k)).length = t at *
      have hneg : decide (((t : Int) + (n1 : Int)) < 0) = false := by simp; omega
      go_wp2
      go_round
      case rel => exact ⟨k + 1, by omega, by go_num, val_int (by rw [HL.out]; omega)⟩
      case measure => simp [intOf]; omega
    · obtain rfl : k = n := by omega
      rw [HF.out]
      generalize hT : (cat ls).length = t at *
      have HT := Lib.hid hT
      clear hT
      go_wp2_with fail
      refine (grow_any t hsz _).mono ?_
      rintro e w1 ⟨A1, c1, rfl, ho1, hb1⟩
      go_wp2_with fail
      go_loopw [6, 27] (fun v i wr => ∃ k' A' c', k' ≤ k ∧ i = .int .i64 k' ∧ v = .slice A' (cat (ls.take k')).length c' ∧ OwB wr w.heap.size 5 (.slice A' (cat (ls.take k')).length c') (cat (ls.take k')) ∧ Below w.heap.size w wr) (fun _ i _ => k - (intOf i).toNat)
      case atStart => exact ⟨0, A1, c1, by omega, rfl, rfl, ho1, hb1⟩
      case round =>
        obtain ⟨k', A', c', hk', rfl, rfl, ho, hbw⟩ := hrel
        by_cases hlt : k' < k
        · obtain ⟨b, off, A2, n2, c2, l2, rfl, _, hl, hc, hbs⟩ := (hBs.below hbw).at_ hlt
          have hle := cat_take_le ls (k' + 1)
          have HL : Hid (cat (ls.take (k' + 1)) = cat (ls.take k') ++ l2) := cat_take hl
          have HLn : Hid (l2.length = n2) := hbs.len
          clear hl
          have hwsz := hbw.size
          go_wp2_with (at_builtin; apply stop_here)
          refine Stop.go (append_bytes _ 22 5 Tryz.underlying22 info_u8 rfl _ _ rfl w.heap.size _ _ rfl ho _ _ _ l2 rfl hbs ((cat (ls.take (k' + 1))).length) (by rw [HL.out, List.length_append, HLn.out]) (by have := HT.out; omega) hwsz ?_)
          intro A3 c3 w3 ho3 hg3 hb3
          rw [← HL.out] at ho3
          clear hg3
          go_wp2_with fail
          go_roundw
          case rel => exact ⟨k' + 1, A3, c3, by omega, by go_num, rfl, ho3, hbw.trans hb3⟩
          case measure => simp [intOf]; omega
        · obtain rfl : k' = k := by omega
          rw [HF.out] at ho ⊢
          have ht := HT.out
          subst ht
          go_wp2_with fail
          go_ret
          exact ⟨A', c', rfl, ho, hbw⟩
end Go.Proofs.YtfdpnjebhllpkaaGreatDoor.Dk
end
