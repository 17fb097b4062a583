/- Append's part and whole; Cut. -/
import Derived.Test.YtfdpnjebhllpkaaGreatDoorMDkOperate
import Derived.StillTailTactics
import Derived.OwnWalk
import Derived.Deep.DeepCutAuto
import Derived.Deep.AppendLies
import Derived.Lib.AppendZeros
import Derived.Deep.RegionWith
import Derived.Deep.RegionHeld3
section
namespace Go.Proofs.YtfdpnjebhllpkaaGreatDoor.Dk
open Go.RowKit

/-- What the closures of an operation captured: the disk, a name. -/
structure Cp (w : World) (bd bn a : Nat) (s : ByteArray) : Prop where
  bd : w.cell? ⟨bd, 0, none⟩ = some (.pointer (some ⟨a, 0, none⟩))
  bn : w.cell? ⟨bn, 0, none⟩ = some (.string s)

theorem Da.len_eq {w : World} {B a mb : Nat} {L : Al Nat} {F : Nat → Fl} {tv : Value} {d : D} (h : Da w B a mb L F tv d) : d.fs.length = L.length := by rw [h.fs, List.length_map]
theorem Da.c1 {w : World} {B a mb : Nat} {L : Al Nat} {F : Nat → Fl} {tv : Value} {d : D} (h : Da w B a mb L F tv d) : w.cell? ⟨a, 1, none⟩ = some (.map (some mb)) := by simp [World.cell?, h.blk]

theorem len_run {w : World} {B a mb : Nat} {L : Al Nat} {F : Nat → Fl} {tv : Value} {d : D} (h : Da w B a mb L F tv d) (ty : TypeId) : (Builtin.len_ #[111] ty #[.map (some mb)]).run Tryz.prog w = .ok (.int .i64 (d.fs.length : Nat)) w := by
  rw [h.own.len Tryz.underlying111 ty, mp_size, h.len_eq]

set_option maxHeartbeats 1000000 in
set_option maxRecDepth 100000 in
theorem create1 (w : World) (B a mb : Nat) (L : Al Nat) (F : Nat → Fl) (tv : Value) (d : D) (h : Da w B a mb L F tv d) (s : ByteArray) (hs : s.size ≤ 1000000) (bd bn : Nat) (hc : Cp w bd bn a s) (hbd : bd < w.heap.size) (hfl : d.fs.length ≤ 1000) :
    Calls Tryz.prog 126 #[.pointer (some ⟨bn, 0, none⟩), .pointer (some ⟨bd, 0, none⟩)] w fun e w' => e = .returned (.int .i64 (refuse d 1 s.data.toList [] 0 [])) ∧ Below w.heap.size w w' := by
  obtain ⟨k1, k2⟩ := hc
  have hr : refuse d 1 s.data.toList [] 0 [] = if may s.data.toList = false then 44 else if (Dk.get d.fs s.data.toList).isSome then 43 else if 64 ≤ d.fs.length then 40 else 0 := rfl
  obtain ⟨X, hX⟩ : ∃ X, refuse d 1 s.data.toList [] 0 [] = X := ⟨_, rfl⟩
  rw [hX] at hr ⊢
  have hr' := Lib.hid hr
  have hm := may_any s (by omega) w
  obtain ⟨M, hM⟩ : ∃ M, may s.data.toList = M := ⟨_, rfl⟩
  rw [hM] at hm
  have hM' := Lib.hid hM
  have h' := Lib.hid h
  clear hr hX hM h
  go_enter Tryz.func126, Tryz.ntmps126
  go_wp2_with fail
  refine hm.mono ?_
  rintro e w1 ⟨rfl, hb1⟩
  have hb1' := Lib.hid hb1
  cases M with
  | false =>
    have hX2 : Hid (X = 44) := Lib.hid (by rw [hr'.out, if_pos hM'.out])
    clear hb1 hr'
    go_wp2_with fail
    go_ret
    exact ⟨ret_int hX2.out.symm, hb1'.out⟩
  | true =>
    have h1 := h'.out.below hb1
    have g1 := (hb1.cell (p := ⟨bd, 0, none⟩) hbd).trans k1
    have g2 : w1.cell? ⟨bn, 0, none⟩ = some (.string s) := (hb1.cell (p := ⟨bn, 0, none⟩) (by
      rcases Nat.lt_or_ge bn w.heap.size with h | h
      · exact h
      · simp [World.cell?, Array.getElem?_eq_none h] at k2)).trans k2
    have c1 := h1.c1
    have hlk := fun q => (h1.below (Joins.below_draws _ w1 q)).look s (by unfold maxLen; omega)
    have hln := fun q => len_run (h1.below (Joins.below_draws _ w1 q)) 3
    have hg := h1.get s.data.toList
    obtain ⟨G, hG⟩ : ∃ G, Dk.get L s.data.toList = G := ⟨_, rfl⟩
    rw [hG] at hg hlk
    have hg' := Lib.hid hg
    clear hb1 hG hg h1 k1 k2
    cases G with
    | some b =>
      have hX2 : Hid (X = 43) := Lib.hid (by rw [hr'.out, if_neg (by rw [hM'.out]; decide), hg'.out]; rfl)
      simp only [Option.map_some] at hlk
      clear hr' hln
      go_wp2_with fail
      go_big_quiet (fail)
      go_wp2_with fail
      go_ret
      exact ⟨ret_int hX2.out.symm, hb1'.out.trans ((Joins.below_draws _ _ _).mono hb1'.out.size)⟩
    | none =>
      simp only [Option.map_none] at hlk
      have hX1 : Hid (X = if 64 ≤ d.fs.length then 40 else 0) := Lib.hid (by rw [hr'.out, if_neg (by rw [hM'.out]; decide), hg'.out]; rfl)
      obtain ⟨n, hn⟩ : ∃ n, d.fs.length = n := ⟨_, rfl⟩
      rw [hn] at hln hX1 hfl
      clear hr' hn
      by_cases h64 : 64 ≤ n
      · have j1 : decide ((64 : Int) ≤ (n : Int)) = true := by simp; omega
        have hX2 : Hid (X = 40) := Lib.hid (by rw [hX1.out, if_pos h64])
        go_wp2_with fail
        go_big_quiet (fail)
        go_wp2_with fail
        go_ret
        exact ⟨ret_int hX2.out.symm, hb1'.out.trans ((Joins.below_draws _ _ _).mono hb1'.out.size)⟩
      · have j1 : decide ((64 : Int) ≤ (n : Int)) = false := by simp; omega
        have hX2 : Hid (X = 0) := Lib.hid (by rw [hX1.out, if_neg h64])
        go_wp2_with fail
        go_big_quiet (fail)
        go_wp2_with fail
        go_ret
        exact ⟨ret_int hX2.out.symm, hb1'.out.trans ((Joins.below_draws _ _ _).mono hb1'.out.size)⟩

theorem not_mem_get {l : Al Nat} {nm : Name} (h : Dk.get l nm = none) : del nm l = l := by
  unfold del
  rw [List.filter_eq_self]
  intro p hp
  have := get_none.1 h p hp
  simpa using this

/-- A new file's block is laid, and its name. -/
theorem Da.addF {w w' : World} {B a mb : Nat} {L : Al Nat} {F : Nat → Fl} {tv : Value} {d : D} (h : Da w B a mb L F tv d) {nm : Name} {b n : Nat} {f : Fl} (hf : FileAt w B b f) (hfr : ∀ p ∈ L, p.2 ≠ b) (hno : Dk.get L nm = none)
    (hg : w.grownBy w' (some mb)) (hown : w'.ownsMap Tryz.prog 9 ptrElem mb n ((mp L).put (.string nm) (.lit (.int .i64 (b : Nat))))) :
    Da w' B a mb (ins nm b L) (fun x => if x = b then f else F x) tv { d with fs := ins nm f d.fs } := by
  rw [mp_put, not_mem_get hno] at hown
  have hn := get_none.1 hno
  have e : (ins nm b L).map (fun p => (p.1, if p.2 = b then f else F p.2)) = ins nm f d.fs := by
    rw [h.fs, ins_map (fun x => if x = b then f else F x), if_pos rfl]
    congr 1
    apply List.map_congr_left
    intro p hp
    rw [if_neg (hfr p hp)]
  have hm := h.setM hg (F' := fun x => if x = b then f else F x) hown (ins_up h.up hn) ?_ ?_
  · rw [e] at hm
    exact hm
  · have hp : ((ins nm b L).map (·.2)).Perm (b :: L.map (·.2)) := by
      clear hown hn e hno hfr h
      induction L with
      | nil => exact List.Perm.refl _
      | cons p l ih =>
        rw [ins]
        split
        · exact List.Perm.refl _
        · exact (List.Perm.cons _ ih).trans (List.Perm.swap _ _ _)
    refine hp.nodup_iff.2 (List.nodup_cons.2 ⟨fun hb => ?_, h.nd⟩)
    obtain ⟨p, h1, h2⟩ := List.mem_map.1 hb
    exact hfr p h1 h2
  · intro p hp
    rcases ins_mem.1 hp with rfl | hp
    · exact .inr (by rw [if_pos rfl]; exact hf)
    · exact .inl ⟨hp, by rw [if_neg (hfr p hp)]⟩

theorem bD {B : Nat} {a w : World} (h : Below B a w) : Below B a w.drew := h.trans (Joins.below_draws _ w 1)
theorem bN {B : Nat} {a w : World} (h : Below B a w) (k : Nat) : Below B a (w.drewN k) := h.trans (Joins.below_draws _ w k)
theorem bA {a w : World} (h : Below a.heap.size a w) (o : Obj) : Below a.heap.size a (w.alloc o) := h.alloc h.size o

/-- 'm[k] = v', as a step of a region that draws. -/
theorem step_mapUpdate {H : Type} {P : Program} {ops : Array Oper} {o : Oper} {a : Act} {K : Act → World → Prop} {Q : Exit → Act → World → Prop} {E0 : Prop} (w : World) (hgd : o.guard = none) (m x v : Operand) (t : TypeId) (hop : o.op = Op.mapUpdate t m x v)
    (k e : TypeId) (KK : Maps.Keyed P k) (ht : P.underlying t = some (.map k e)) (R : Value → Option (DataW H × List MemPlace)) (b n : Nat) (D : DataW H)
    (hm : a.eval m = .map (some b)) (hown : w.ownsMap P k R b n D) (hn : n < maxLen) (key val : Value) (kl : Lit) (hx : a.eval x = key) (hv : a.eval v = val) (hkey : keyOf P k key = some kl)
    (d : DataW H) (ps : List MemPlace) (hval : R val = some (d, ps))
    (h : ∀ w', w'.ownsMap P k R b (n + 1) (D.put kl d) → w.grownBy w' (some b) → K (a.put o.dst undef) w') :
    if Region.wanted o (yielded ops a.tmps) = true then Oper.wp P o a w K Q else E0 := by
  have hw : Region.wanted o (yielded ops a.tmps) = true := by simp [Region.wanted, hgd]
  rw [if_pos hw]
  obtain ⟨w', hrun, r1, r2⟩ := hown.update KK ht hn hkey hval
  unfold Oper.wp
  simp [execOp, hop, hm, hx, hv, hrun, Result.andThen]
  exact h w' r1 r2

theorem new_file {w : World} {V : Nat} (h : w.heap.size = V) : (w.alloc (.cells #[.slice none 0 0, .int .i64 0] 132)).heap[V]? = some (.cells #[.slice none 0 0, .int .i64 0] 132) := by
  subst h
  exact heap_alloc_new w _
theorem size_drewN (w : World) (k : Nat) : (w.drewN k).heap.size = w.heap.size := by simp

theorem create_end {w W w' : World} {B a mb n V : Nat} {L : Al Nat} {F : Nat → Fl} {tv : Value} {d : D} (h : Da w B a mb L F tv d) {nm : Name} (hno : Dk.get L nm = none) (hV : w.heap.size = V) (hW : Below w.heap.size w W)
    (hnew : W.heap[V]? = some (.cells #[.slice none 0 0, .int .i64 0] 132)) (hown : w'.ownsMap Tryz.prog 9 ptrElem mb n ((mp L).put (.string nm) (.lit (.int .i64 (V : Nat))))) (hg : W.grownBy w' (some mb)) :
    St B a mb tv { d with fs := act d.fs 1 nm [] 0 [] } w w' := by
  have hB := h.base
  have h1 := h.below hW
  have hm := h.mlt
  have hf : FileAt W B V ⟨[], 0⟩ := ⟨by rw [← hV]; omega, _, hnew, OwB.nil _ _ _⟩
  have h2 := h1.addF (n := n) hf (fun p hp => by have := (h.files p hp).lt; omega) hno hg hown
  refine ⟨(hW.mono (by omega)).trans (below_row hg hB.2 (by have := hW.size; omega)), (Fm.below hW).trans (Fm.grown hg fun cs E fr he => ?_), _, _, h2⟩
  obtain ⟨es, cl, hmb⟩ := h1.mblk
  rw [hmb] at he
  cases he

set_option maxHeartbeats 1000000 in
set_option maxRecDepth 100000 in
theorem create2 (w : World) (B a mb : Nat) (L : Al Nat) (F : Nat → Fl) (tv : Value) (d : D) (h : Da w B a mb L F tv d) (s : ByteArray) (hs : s.size ≤ 1000000) (bd bn : Nat) (hc : Cp w bd bn a s) (hno : Dk.get L s.data.toList = none) (hfl : d.fs.length ≤ 1000) :
    Calls Tryz.prog 129 #[.pointer (some ⟨bd, 0, none⟩), .pointer (some ⟨bn, 0, none⟩)] w fun e w' => e = .returned (.tuple #[]) ∧ St B a mb tv { d with fs := act d.fs 1 s.data.toList [] 0 [] } w w' := by
  obtain ⟨k1, k2⟩ := hc
  have c1 := h.c1
  have hmlt := h.mlt
  have halt := h.alt
  have lt1 : bd < w.heap.size := by
    rcases Nat.lt_or_ge bd w.heap.size with h | h
    · exact h
    · simp [World.cell?, Array.getElem?_eq_none h] at k1
  have lt2 : bn < w.heap.size := by
    rcases Nat.lt_or_ge bn w.heap.size with h | h
    · exact h
    · simp [World.cell?, Array.getElem?_eq_none h] at k2
  have d1 : ∀ o, (w.alloc o).cell? ⟨bd, 0, none⟩ = some (.pointer (some ⟨a, 0, none⟩)) := fun o => ((below_alloc w o).cell (p := ⟨bd, 0, none⟩) lt1).trans k1
  have d2 : ∀ o, (w.alloc o).cell? ⟨bn, 0, none⟩ = some (.string s) := fun o => ((below_alloc w o).cell (p := ⟨bn, 0, none⟩) lt2).trans k2
  have d3 : ∀ o, (w.alloc o).cell? ⟨a, 1, none⟩ = some (.map (some mb)) := fun o => ((below_alloc w o).cell (p := ⟨a, 1, none⟩) halt).trans c1
  have hl := h.len_eq
  have hlm : L.length < maxLen := by unfold maxLen; omega
  have hkey := WideMaps.keyOf_string_mk (P := Tryz.prog) Tryz.underlying9 (s := s) (by unfold maxLen; omega)
  have hbW : Below w.heap.size w (w.alloc (.cells #[.slice none 0 0, .int .i64 0] 132)).drew := bD (below_alloc w _)
  obtain ⟨w', hrun, h1, h2⟩ := (h.below hbW).own.update law_str Tryz.underlying111 hlm hkey (val := .pointer (some ⟨w.heap.size, 0, none⟩)) (d := .lit (.int .i64 (w.heap.size : Nat))) (ps := []) rfl
  have hst := Lib.hid (create_end h hno rfl hbW (heap_alloc_new w _) h1 h2)
  clear h hno hl hkey lt1 lt2 halt hmlt h1 h2 hbW
  go_enter Tryz.func129, Tryz.ntmps129
  go_wp2_with fail
  go_region
  all_goals clear d1 d2 d3 k1 k2 c1 hrun
  all_goals go_wp2_with fail
  all_goals go_end0
  all_goals exact ⟨rfl, hst.out⟩
end Go.Proofs.YtfdpnjebhllpkaaGreatDoor.Dk
end

section
namespace Go.Proofs.YtfdpnjebhllpkaaGreatDoor.Dk
open Go.RowKit

theorem op_eq (d : D) (k : Nat) (nm nt : Name) (n : Int) (b : List UInt8) : op d k nm nt n b = opX d (refuse d k nm nt n b) (fun p => { d with ops := d.ops + 1, fs := part d.fs k nm p b }) { d with ops := d.ops + 1, fs := act d.fs k nm nt n b } := rfl

theorem make_func : ∀ (fn : Fn) (first cap : Array Value) (w : World), (Instr.makeFunc fn first cap).run Tryz.prog w = .ok (.func fn first cap) w := fun _ _ _ _ => rfl

theorem nothing_any (p : Int) (w : World) : Calls Tryz.prog 128 #[.int .i64 p] w fun e w' => e = .returned (.tuple #[]) ∧ w' = w := by
  go_enter Tryz.func128, Tryz.ntmps128
  go_wp2_with fail
  go_end0
  exact ⟨rfl, rfl⟩

theorem St.same {w : World} {B a mb : Nat} {L : Al Nat} {F : Nat → Fl} {tv : Value} {d : D} (h : Da w B a mb L F tv d) : St B a mb tv d w w := ⟨Below.refl _ _, Fm.refl _, L, F, h⟩

theorem Cp.below {w w' : World} {bd bn a : Nat} {s : ByteArray} {N : Nat} (h : Cp w bd bn a s) (h1 : bd < N) (h2 : bn < N) (hb : Below N w w') : Cp w' bd bn a s := ⟨(hb.cell (p := ⟨bd, 0, none⟩) h1).trans h.bd, (hb.cell (p := ⟨bn, 0, none⟩) h2).trans h.bn⟩
theorem Cp.set {w : World} {bd bn a i c : Nat} {s : ByteArray} (h : Cp w bd bn a s) (h1 : bd ≠ c) (h2 : bn ≠ c) (x : Value) : Cp (w.setCell ⟨c, i, none⟩ x) bd bn a s := by
  have hg := grown_set w ⟨c, i, none⟩ x
  exact ⟨hg.cell h.bd (by simp; exact h1), hg.cell h.bn (by simp; exact h2)⟩

/-- The two boxes are laid. -/
theorem boxes (w : World) (a : Nat) (s : ByteArray) : Cp ((w.alloc (.cells #[.pointer (some ⟨a, 0, none⟩)] 39)).alloc (.cells #[.string s] 9)) w.heap.size (w.heap.size + 1) a s ∧
    Below w.heap.size w ((w.alloc (.cells #[.pointer (some ⟨a, 0, none⟩)] 39)).alloc (.cells #[.string s] 9)) ∧
    ((w.alloc (.cells #[.pointer (some ⟨a, 0, none⟩)] 39)).alloc (.cells #[.string s] 9)).heap.size = w.heap.size + 2 := by
  refine ⟨⟨?_, ?_⟩, bA (below_alloc _ _) _, by simp⟩
  · simp
  · simp

set_option maxHeartbeats 1000000 in
set_option maxRecDepth 100000 in
theorem Create_any (w : World) (B a mb : Nat) (L : Al Nat) (F : Nat → Fl) (tv : Value) (d : D) (h : Da w B a mb L F tv d) (hops : d.ops ≤ 1000000) (htl : d.tr.length ≤ 1000000) (hfl : d.fs.length ≤ 1000) (s : ByteArray) (hs : s.size ≤ 1000000) :
    Calls Tryz.prog 70 #[.pointer (some ⟨a, 0, none⟩), .string s] w (OpP B a mb tv (op d 1 s.data.toList [] 0 []) w) := by
  obtain ⟨hcp, hb2, hsz⟩ := boxes w a s
  have hmf := make_func
  have halt := h.alt
  have hB := h.base
  obtain ⟨b0, hb0⟩ : ∃ b0, w.heap.size = b0 := ⟨_, rfl⟩
  rw [hb0] at hcp hsz halt
  have h2 := h.below hb2
  have kd : ((w.alloc (.cells #[.pointer (some ⟨a, 0, none⟩)] 39)).alloc (.cells #[.string s] 9)).cell? ⟨b0, 0, none⟩ = some (.pointer (some ⟨a, 0, none⟩)) := hcp.bd
  obtain ⟨w2, hw2⟩ : ∃ w2, (w.alloc (.cells #[.pointer (some ⟨a, 0, none⟩)] 39)).alloc (.cells #[.string s] 9) = w2 := ⟨_, rfl⟩
  rw [hw2] at hcp hb2 hsz h2 kd
  have hcp' := hcp.set (i := 3) (c := a) (by omega) (by omega) (.int .i64 ((d.ops + 1 : Nat)))
  obtain ⟨hD2, _⟩ := h2.setOps (d.ops + 1)
  have hcode : ∀ n, refuse { d with ops := n } 1 s.data.toList [] 0 [] = refuse d 1 s.data.toList [] 0 [] := fun _ => rfl
  have hop := operate_any w2 B a mb L F tv d h2 hops htl 126 128 129 #[.pointer (some ⟨b0 + 1, 0, none⟩), .pointer (some ⟨b0, 0, none⟩)] #[] #[.pointer (some ⟨b0, 0, none⟩), .pointer (some ⟨b0 + 1, 0, none⟩)]
    (refuse d 1 s.data.toList [] 0 []) (fun p => { d with ops := d.ops + 1, fs := part d.fs 1 s.data.toList p [] }) { d with ops := d.ops + 1, fs := act d.fs 1 s.data.toList [] 0 [] }
    (enters_of Tryz.func126 (by kernel_rfl) rfl) (enters_of Tryz.func128 (by kernel_rfl) rfl) (enters_of Tryz.func129 (by kernel_rfl) rfl)
    (fun w1 hb1 => by
      have hD1 := hD2.below (by rw [set_size]; exact hb1)
      have := create1 w1 B a mb L F tv _ hD1 s hs b0 (b0 + 1) (hcp'.below (by omega) (by omega) hb1) (by have := hb1.size; rw [set_size] at this; omega) hfl
      rw [hcode] at this
      exact this)
    (fun w1 p hb1 _ => (nothing_any p w1).mono (by
      rintro e w3 ⟨rfl, rfl⟩
      exact ⟨rfl, St.same (hD2.below (by rw [set_size]; exact hb1))⟩))
    (fun w1 hb1 hc0 => by
      have hD1 := hD2.below (by rw [set_size]; exact hb1)
      have hno : Dk.get L s.data.toList = none := by
        unfold refuse at hc0
        rw [if_pos rfl] at hc0
        split at hc0
        · omega
        split at hc0
        · omega
        rename_i hns
        rw [h.get] at hns
        cases hg : Dk.get L s.data.toList with
        | none => rfl
        | some b => rw [hg] at hns; exact absurd rfl hns
      exact create2 w1 B a mb L F tv _ hD1 s hs b0 (b0 + 1) (hcp'.below (by omega) (by omega) hb1) hno hfl)
  rw [← op_eq] at hop
  have hop' := Lib.hid hop
  have hb2' := Lib.hid hb2
  have hB' := Lib.hid hB
  clear hop hcp hcp' hD2 h2 h hcode hsz hb2 hB
  go_enter Tryz.func70, Tryz.ntmps70
  go_wp2_with fail
  refine hop'.out.mono ?_
  rintro e w3 ⟨rfl, hst⟩
  have hst' := Lib.hid hst
  clear hst hmf
  go_wp2_with fail
  go_ret
  exact ⟨rfl, hst'.out.on (hb2'.out.mono (by have := hB'.out; omega)) (Fm.below hb2'.out)⟩
end Go.Proofs.YtfdpnjebhllpkaaGreatDoor.Dk
end

section
namespace Go.Proofs.YtfdpnjebhllpkaaGreatDoor.Dk
open Go.RowKit

theorem info_u8 : (Tryz.prog.info? 5).map (fun i => (i.zero, i.size, i.bytes)) = some (some (.int .u8 0), 1, 1) := by kernel_rfl

theorem bsl_lit2 (w : World) (E : TypeId) (A0 A1 : Option Addr) (n0 n1 c0 c1 : Nat) (l0 l1 : List UInt8) (h0 : Bs w A0 n0 c0 l0) (h1 : Bs w A1 n1 c1 l1) :
    BsL (w.alloc (.cells #[.slice A0 n0 c0, .slice A1 n1 c1] E)) (some ⟨w.heap.size, 0, none⟩) 2 2 [l0, l1] := by
  have hb := below_alloc w (.cells #[.slice A0 n0 c0, .slice A1 n1 c1] E)
  refine ⟨[.slice A0 n0 c0, .slice A1 n1 c1], ⟨rfl, by omega, by omega, fun h => by simp at h, fun _ => ⟨_, _, rfl, by simp, fun j u hu => ?_⟩⟩, rfl, fun j u hu => ?_⟩
  · have hh : (w.alloc (.cells #[.slice A0 n0 c0, .slice A1 n1 c1] E)).heap[w.heap.size]? = some (.cells #[.slice A0 n0 c0, .slice A1 n1 c1] E) := heap_alloc_new w _
    simp only [World.cell?, hh, Nat.zero_add]
    simpa using hu
  · match j, hu with
    | 0, hu => simp at hu; subst hu; exact ⟨l0, rfl, El.of_bs (h0.below hb)⟩
    | 1, hu => simp at hu; subst hu; exact ⟨l1, rfl, El.of_bs (h1.below hb)⟩

set_option maxHeartbeats 1000000 in
theorem grow_any (m : Nat) (hm : m ≤ 140737488355328) (w : World) :
    Calls Tryz.prog 179 #[.slice none 0 0, .int .i64 m] w fun e w' => ∃ A' c', e = .returned (.slice A' 0 c') ∧ OwB w' w.heap.size 5 (.slice A' 0 c') [] ∧ Below w.heap.size w w' := by
  by_cases h0 : m = 0
  · subst h0
    go_enter Tryz.func179, Tryz.ntmps179
    go_wp2_with fail
    go_ret
    exact ⟨_, _, rfl, OwB.nil _ _ _, Below.refl _ _⟩
  · have hp : 0 < m := by omega
    go_enter Tryz.func179, Tryz.ntmps179
    go_wp2_with (at_builtin; apply stop_here)
    obtain ⟨i, hi, hz, hsz, hby⟩ := info_parts info_u8
    have hcap := grownCap_ge w m 0 5
    have hcm := grownCap_le_maxLen w m 0 5 (by unfold maxLen; omega)
    have hcm2 : grownCap w m 0 5 ≤ 9223372036854775807 := by unfold maxLen at hcm; omega
    refine Stop.go (Lib.wpList_append_run _ rfl _ _ 22 3 rfl _ _ rfl rfl _ _ (Lib.run_append_nil_zeros w 22 3 _ 5 i (.int .u8 0) .i64 .i64 Tryz.underlying22 Tryz.underlying3 hi hz m hp (by omega) (by omega) (by rw [hby]; omega)) ?_)
    have ho := World.ownsRow_made (base := w.heap.size) (e := 5) (size := 1) w.drew (Builtin.zeroCells (Value.int .u8 0).cells m ++ Builtin.zeroCells (Value.int .u8 0).cells (grownCap w m 0 5 - m)) (grownCap w m 0 5) (Nat.le_refl _) hcm (by
      rw [Array.size_append, size_zeroCells, size_zeroCells]
      simp [Value.cells]
      omega)
    have hb : Below w.heap.size w (w.drew.alloc (.cells (Builtin.zeroCells (Value.int .u8 0).cells m ++ Builtin.zeroCells (Value.int .u8 0).cells (grownCap w m 0 5 - m)) 5)) :=
      (Below.refl _ _).drew.alloc (Nat.le_refl _) _
    generalize w.drew.alloc (.cells (Builtin.zeroCells (Value.int .u8 0).cells m ++ Builtin.zeroCells (Value.int .u8 0).cells (grownCap w m 0 5 - m)) 5) = w1 at *
    go_wp2_with fail
    go_ret
    exact ⟨_, _, rfl, ho, hb⟩

set_option maxHeartbeats 1000000 in
theorem concat_any (A : Option Addr) (n c : Nat) (ls : List (List UInt8)) (w : World) (hBs : BsL w A n c ls) (hsz : (cat ls).length ≤ 140737488355328) :
    Calls Tryz.prog 131 #[.slice A n c] w fun e w' => ∃ A' c', e = .returned (.slice A' (cat ls).length c') ∧ OwB w' w.heap.size 5 (.slice A' (cat ls).length c') (cat ls) ∧ Below w.heap.size w w' := by
  have hn := hBs.le
  have hm := hBs.max
  have HN : Hid (ls.length = n) := hBs.len
  have HF : Hid (cat (ls.take n) = cat ls) := by unfold Hid; rw [List.take_of_length_le (by rw [HN.out]; omega)]
  go_enter Tryz.func131, Tryz.ntmps131
  go_wp2
  go_loop [3, 11] (fun v i => ∃ k : Nat, k ≤ n ∧ i = .int .i64 k ∧ v = .int .i64 ((cat (ls.take k)).length : Nat)) (fun _ i => n - (intOf i).toNat)
  case atStart => exact ⟨0, by omega, rfl, rfl⟩
  case round =>
    obtain ⟨k, hk, rfl, rfl⟩ := hrel
    have hb := cat_take_le ls k
    by_cases hlt : k < n
    · obtain ⟨b, off, A1, n1, c1, l1, rfl, _, hl, hc, hbs⟩ := hBs.at_ hlt
      have hb1 := cat_take_le ls (k + 1)
      have HL : Hid ((cat (ls.take (k + 1))).length = (cat (ls.take k)).length + n1) := by unfold Hid; rw [cat_take hl, List.length_append, hbs.len]
      have hb2 : (cat (ls.take k)).length + n1 ≤ 140737488355328 := by rw [← HL.out]; omega
      clear hl hb1
      generalize (cat (ls.take k)).length = t at *
      have hneg : decide (((t : Int) + (n1 : Int)) < 0) = false := by simp; omega
      go_wp2
      go_round
      case rel => exact ⟨k + 1, by omega, by go_num, val_int (by rw [HL.out]; omega)⟩
      case measure => simp [intOf]; omega
    · obtain rfl : k = n := by omega
      rw [HF.out]
      generalize hT : (cat ls).length = t at *
      have HT := Lib.hid hT
      clear hT
      go_wp2_with fail
      refine (grow_any t hsz _).mono ?_
      rintro e w1 ⟨A1, c1, rfl, ho1, hb1⟩
      go_wp2_with fail
      go_loopw [6, 27] (fun v i wr => ∃ k' A' c', k' ≤ k ∧ i = .int .i64 k' ∧ v = .slice A' (cat (ls.take k')).length c' ∧ OwB wr w.heap.size 5 (.slice A' (cat (ls.take k')).length c') (cat (ls.take k')) ∧ Below w.heap.size w wr) (fun _ i _ => k - (intOf i).toNat)
      case atStart => exact ⟨0, A1, c1, by omega, rfl, rfl, ho1, hb1⟩
      case round =>
        obtain ⟨k', A', c', hk', rfl, rfl, ho, hbw⟩ := hrel
        by_cases hlt : k' < k
        · obtain ⟨b, off, A2, n2, c2, l2, rfl, _, hl, hc, hbs⟩ := (hBs.below hbw).at_ hlt
          have hle := cat_take_le ls (k' + 1)
          have HL : Hid (cat (ls.take (k' + 1)) = cat (ls.take k') ++ l2) := cat_take hl
          have HLn : Hid (l2.length = n2) := hbs.len
          clear hl
          have hwsz := hbw.size
          go_wp2_with (at_builtin; apply stop_here)
          refine Stop.go (append_bytes _ 22 5 Tryz.underlying22 info_u8 rfl _ _ rfl w.heap.size _ _ rfl ho _ _ _ l2 rfl hbs ((cat (ls.take (k' + 1))).length) (by rw [HL.out, List.length_append, HLn.out]) (by have := HT.out; omega) hwsz ?_)
          intro A3 c3 w3 ho3 hg3 hb3
          rw [← HL.out] at ho3
          clear hg3
          go_wp2_with fail
          go_roundw
          case rel => exact ⟨k' + 1, A3, c3, by omega, by go_num, rfl, ho3, hbw.trans hb3⟩
          case measure => simp [intOf]; omega
        · obtain rfl : k' = k := by omega
          rw [HF.out] at ho ⊢
          have ht := HT.out
          subst ht
          go_wp2_with fail
          go_ret
          exact ⟨A', c', rfl, ho, hbw⟩
end Go.Proofs.YtfdpnjebhllpkaaGreatDoor.Dk
end

section
namespace Go.Proofs.YtfdpnjebhllpkaaGreatDoor.Dk
open Go.RowKit

theorem Cp.lt1 {w : World} {bd bn a : Nat} {s : ByteArray} (h : Cp w bd bn a s) : bd < w.heap.size := by
  rcases Nat.lt_or_ge bd w.heap.size with h1 | h1
  · exact h1
  · have := h.bd
    simp [World.cell?, Array.getElem?_eq_none h1] at this
theorem Cp.lt2 {w : World} {bd bn a : Nat} {s : ByteArray} (h : Cp w bd bn a s) : bn < w.heap.size := by
  rcases Nat.lt_or_ge bn w.heap.size with h1 | h1
  · exact h1
  · have := h.bn
    simp [World.cell?, Array.getElem?_eq_none h1] at this
theorem cell_lt {w : World} {p : Addr} {v : Value} (h : w.cell? p = some v) : p.block < w.heap.size := by
  rcases Nat.lt_or_ge p.block w.heap.size with h1 | h1
  · exact h1
  · simp [World.cell?, Array.getElem?_eq_none h1] at h

/-- The file of a name, its slice. -/
theorem Da.file {w : World} {B a mb : Nat} {L : Al Nat} {F : Nat → Fl} {tv : Value} {d : D} (h : Da w B a mb L F tv d) {nm : Name} {b : Nat} (hg : Dk.get L nm = some b) :
    B ≤ b ∧ b < w.heap.size ∧ ∃ A c, w.heap[b]? = some (.cells #[.slice A (F b).data.length c, .int .i64 ((F b).safe : Nat)] 132) ∧ Bs w A (F b).data.length c (F b).data := by
  have hm := get_mem hg
  have hlt := (h.files _ hm).lt
  obtain ⟨hB, v, h1, h2⟩ := h.files _ hm
  obtain ⟨A, c, rfl, hbs⟩ := OwB.slice h2
  exact ⟨hB, hlt, A, c, h1, hbs⟩

theorem file_noE {w : World} {b : Nat} {cs : Array Value} {E : TypeId} (h : w.heap[b]? = some (.cells cs 132)) (hE : E ≠ 132) : NoE E w (some b) :=
  NoE.of h (by intro cs fr e; injection e with _ e2 _; exact hE e2.symm)
theorem file_fm {w : World} {b i : Nat} {cs : Array Value} (h : w.heap[b]? = some (.cells cs 132)) (x : Value) : Fm w (w.setCell ⟨b, i, none⟩ x) :=
  Fm.grown (grown_set w ⟨b, i, none⟩ x) (fun cs E fr he => by rw [h] at he; injection he with he; injection he with _ he _; exact .inl he.symm)

/-- A file's bytes are others. -/
theorem store_data {W : World} {B a mb : Nat} {L : Al Nat} {F : Nat → Fl} {tv : Value} {d : D} (h : Da W B a mb L F tv d) {nm : Name} {b : Nat} (hg : Dk.get L nm = some b) {v2 : Value} {new : List UInt8} (ho : OwB W B 5 v2 new) {g : Fl → Fl} (hgf : g (F b) = ⟨new, (F b).safe⟩) :
    St B a mb tv { d with fs := upd nm g d.fs } W (W.setCell ⟨b, 0, none⟩ v2) := by
  obtain ⟨hB, hlt, A, c, hb, _⟩ := h.file hg
  refine ⟨below_row (grown_set W ⟨b, 0, none⟩ v2) hB (by omega), file_fm hb v2, L, _, h.setF (get_mem hg) (grown_set W ⟨b, 0, none⟩ v2) (v' := v2) ?_ ?_⟩
  · rw [hgf]
    exact setCell_blk hb v2
  · rw [hgf]
    exact row_kept ho (grown_set W ⟨b, 0, none⟩ v2) (file_noE hb (by decide))
theorem store_safe {W : World} {B a mb : Nat} {L : Al Nat} {F : Nat → Fl} {tv : Value} {d : D} (h : Da W B a mb L F tv d) {nm : Name} {b : Nat} (hg : Dk.get L nm = some b) (n : Nat) {g : Fl → Fl} (hgf : g (F b) = ⟨(F b).data, n⟩) :
    St B a mb tv { d with fs := upd nm g d.fs } W (W.setCell ⟨b, 1, none⟩ (.int .i64 (n : Nat))) := by
  obtain ⟨hB, v, hb, ho⟩ := h.files _ (get_mem hg)
  have hlt := (h.files _ (get_mem hg)).lt
  refine ⟨below_row (grown_set W ⟨b, 1, none⟩ _) hB (by omega), file_fm hb _, L, _, h.setF (get_mem hg) (grown_set W ⟨b, 1, none⟩ _) (v' := v) ?_ ?_⟩
  · rw [hgf]
    exact setCell_blk hb _
  · rw [hgf]
    exact row_kept ho (grown_set W ⟨b, 1, none⟩ _) (file_noE hb (by decide))

set_option maxHeartbeats 1000000 in
set_option maxRecDepth 100000 in
theorem append1 (w : World) (B a mb : Nat) (L : Al Nat) (F : Nat → Fl) (tv : Value) (d : D) (h : Da w B a mb L F tv d) (s : ByteArray) (hs : s.size ≤ 1000000) (bd bn bb : Nat) (hc : Cp w bd bn a s)
    (A : Option Addr) (n c : Nat) (l : List UInt8) (kb : w.cell? ⟨bb, 0, none⟩ = some (.slice A n c)) (hBs : Bs w A n c l) (hn : n ≤ 1000000) (m : Nat) (hm : m ≤ n) (b : Nat) (hg : Dk.get L s.data.toList = some b) (hfl : (F b).data.length ≤ 1000000000) :
    Calls Tryz.prog 130 #[.int .i64 (m : Nat), .pointer (some ⟨bd, 0, none⟩), .pointer (some ⟨bn, 0, none⟩), .pointer (some ⟨bb, 0, none⟩)] w
      fun e w' => e = .returned (.tuple #[]) ∧ St B a mb tv { d with fs := upd s.data.toList (fun f => ⟨f.data ++ l.take m, f.safe⟩) d.fs } w w' := by
  obtain ⟨k1, k2⟩ := hc
  have c1 := h.c1
  have hlk := fun q => (h.below (Joins.below_draws _ w q)).look s (by unfold maxLen; omega)
  rw [hg] at hlk
  simp only [Option.map_some] at hlk
  obtain ⟨hBb, hblt, A0, c0, hfb, hfs⟩ := h.file hg
  have lt3 := cell_lt kb
  have h' := Lib.hid h
  have hg' := Lib.hid hg
  have hfb' := Lib.hid hfb
  have hfs' := Lib.hid hfs
  have hBs' := Lib.hid hBs
  obtain ⟨N, hN⟩ : ∃ N, (F b).data.length = N := ⟨_, rfl⟩
  rw [hN] at hfl hfb' hfs'
  have kf : w.cell? ⟨b, 0, none⟩ = some (.slice A0 N c0) := by simp [World.cell?, hfb'.out]
  clear h hg hfb hfs hBs
  go_enter Tryz.func130, Tryz.ntmps130
  go_wp2_with fail
  go_big_quiet (fail)
  have hbq : Below w.heap.size w (w.drewN nq) := Joins.below_draws _ w nq
  have hD1 := Lib.hid (h'.out.below hbq)
  have hfb1 := Lib.hid ((hbq.block b hblt).trans hfb'.out)
  have hfs1 := Lib.hid (hfs'.out.below hbq)
  have hBs1 := Lib.hid (hBs'.out.below hbq)
  have hbq' := Lib.hid hbq
  have kf1 := (hbq.cell (p := ⟨b, 0, none⟩) hblt).trans kf
  have kb1 := (hbq.cell (p := ⟨bb, 0, none⟩) lt3).trans kb
  have hs1 : (w.drewN nq).heap.size = w.heap.size := by simp
  generalize w.drewN nq = w1 at hbq hD1 hfb1 hfs1 hBs1 hbq' kf1 kb1 hs1 ⊢
  clear hbq kf kb k1 k2 c1 hlk
  have hnc := Rd.le hBs1.out
  have q1 : 0 ≤ (m : Int) ∧ (m : Int) ≤ (c : Int) := ⟨by omega, by omega⟩
  have q2 : (m : Int) ≤ (c : Int) := by omega
  have q3 : m ≤ c := by omega
  have hcut := hBs1.out.cut 0 m (by omega) hm A (by intro b off e _; rw [e]; rfl) (fun e => e) (fun e => e)
  rw [Nat.sub_zero, Nat.sub_zero, List.drop_zero] at hcut
  have hcut' := Lib.hid hcut
  clear hcut
  have hcl : (cat [(F b).data, l.take m]).length ≤ 140737488355328 := by simp [cat]; omega
  have hcat : cat [(F b).data, l.take m] = (F b).data ++ l.take m := by simp [cat]
  have hcl' := Lib.hid hcl
  have hcat' := Lib.hid hcat
  have hblt1 : b < w1.heap.size := by omega
  clear hcl hcat
  have hal := bD (below_alloc w1 (.cells #[.slice A0 N c0, .slice A m c] 22))
  have hcon : Calls Tryz.prog 131 #[.slice (some ⟨w1.heap.size, 0, none⟩) 2 2] (w1.alloc (.cells #[.slice A0 N c0, .slice A m c] 22)).drew fun e w2 => ∃ A2 c2, e = .returned (.slice A2 (cat [(F b).data, l.take m]).length c2) ∧
      Hid (OwB w2 w1.heap.size 5 (.slice A2 (cat [(F b).data, l.take m]).length c2) (cat [(F b).data, l.take m])) ∧ Hid (Below w1.heap.size w1 w2) ∧ w2.cell? ⟨b, 0, none⟩ = some (.slice A0 N c0) ∧ w2.frozen? ⟨b, 0, none⟩ = false := by
    refine (concat_any _ 2 2 [(F b).data, l.take m] _ ((bsl_lit2 w1 22 _ _ _ _ _ _ _ _ hfs1.out hcut'.out).below (Joins.below_draws _ _ 1)) hcl'.out).mono ?_
    rintro e w2 ⟨A2, c2, rfl, ho, hb2⟩
    have hb3 := hal.trans (hb2.mono hal.size)
    have hfb2 := (hb3.block b hblt1).trans hfb1.out
    exact ⟨A2, c2, rfl, Lib.hid (OwB.base ho hal.size), Lib.hid hb3, (hb3.cell (p := ⟨b, 0, none⟩) hblt1).trans kf1, frozen_of_row w2 b 0 _ _ hfb2⟩
  have hcon' := Lib.hid hcon
  clear hal hcon hs1
  go_wp2_with fail
  go_region_with (go_at_call 131; ((with_reducible refine hcon'.out.mono ?_)); rintro e w2 ⟨A2, c2, rfl, ho2, hb3, kf2, f2⟩)
  all_goals
    have hst := Lib.hid ((store_data (hD1.out.below hb3.out) hg'.out (OwB.base ho2.out (by omega)) (g := fun f => ⟨f.data ++ l.take m, f.safe⟩) (by rw [hcat'.out])).on ((hbq'.out.trans (hb3.out.mono hbq'.out.size)).mono (by omega)) (Fm.below (hbq'.out.trans (hb3.out.mono hbq'.out.size))))
    clear kf2 f2
    go_wp2_with fail
    go_end0
    exact ⟨rfl, hst.out⟩
end Go.Proofs.YtfdpnjebhllpkaaGreatDoor.Dk
end

section
namespace Go.Proofs.YtfdpnjebhllpkaaGreatDoor.Dk
open Go.RowKit

/-- NoFile, if there is no such file. -/
def thereC (d : D) (nm : Name) : Int := if (Dk.get d.fs nm).isSome then 0 else 42

set_option maxRecDepth 100000 in
theorem there1 (w : World) (B a mb : Nat) (L : Al Nat) (F : Nat → Fl) (tv : Value) (d : D) (h : Da w B a mb L F tv d) (s : ByteArray) (hs : s.size ≤ 1000000) (bd bn : Nat) (hc : Cp w bd bn a s) :
    Calls Tryz.prog 180 #[.pointer (some ⟨bd, 0, none⟩), .pointer (some ⟨bn, 0, none⟩)] w fun e w' => e = .returned (.int .i64 (thereC d s.data.toList)) ∧ Below w.heap.size w w' := by
  obtain ⟨k1, k2⟩ := hc
  have c1 := h.c1
  have hlk := fun q => (h.below (Joins.below_draws _ w q)).look s (by unfold maxLen; omega)
  have hg := h.get s.data.toList
  obtain ⟨G, hG⟩ : ∃ G, Dk.get L s.data.toList = G := ⟨_, rfl⟩
  rw [hG] at hg hlk
  obtain ⟨X, hX⟩ : ∃ X, thereC d s.data.toList = X := ⟨_, rfl⟩
  rw [hX]
  unfold thereC at hX
  rw [hg] at hX
  have hX' := Lib.hid hX
  clear hg hG h hX
  cases G with
  | none =>
    have hX2 : Hid (X = 42) := Lib.hid hX'.out.symm
    simp only [Option.map_none] at hlk
    clear hX'
    go_enter Tryz.func180, Tryz.ntmps180
    go_wp2_with fail
    go_big_quiet (fail)
    go_wp2_with fail
    go_ret
    exact ⟨ret_int hX2.out.symm, Joins.below_draws _ _ _⟩
  | some b =>
    have hX2 : Hid (X = 0) := Lib.hid hX'.out.symm
    simp only [Option.map_some] at hlk
    clear hX'
    go_enter Tryz.func180, Tryz.ntmps180
    go_wp2_with fail
    go_big_quiet (fail)
    go_wp2_with fail
    go_ret
    exact ⟨ret_int hX2.out.symm, Joins.below_draws _ _ _⟩

theorem there_any (a : Nat) (s : ByteArray) (w : World) :
    Calls Tryz.prog 135 #[.pointer (some ⟨a, 0, none⟩), .string s] w fun e w' =>
      e = .returned (.func (.func 180) #[] #[.pointer (some ⟨w.heap.size, 0, none⟩), .pointer (some ⟨w.heap.size + 1, 0, none⟩)]) ∧
      w' = (w.alloc (.cells #[.pointer (some ⟨a, 0, none⟩)] 39)).alloc (.cells #[.string s] 9) := by
  have hmf := make_func
  go_enter Tryz.func135, Tryz.ntmps135
  go_wp2_with fail
  go_ret
  exact ⟨rfl, rfl⟩

set_option maxHeartbeats 1000000 in
set_option maxRecDepth 100000 in
theorem sync1 (w : World) (B a mb : Nat) (L : Al Nat) (F : Nat → Fl) (tv : Value) (d : D) (h : Da w B a mb L F tv d) (s : ByteArray) (hs : s.size ≤ 1000000) (bd bn : Nat) (hc : Cp w bd bn a s) (b : Nat) (hg : Dk.get L s.data.toList = some b) :
    Calls Tryz.prog 136 #[.pointer (some ⟨bd, 0, none⟩), .pointer (some ⟨bn, 0, none⟩)] w fun e w' => e = .returned (.tuple #[]) ∧ St B a mb tv { d with fs := upd s.data.toList (fun f => ⟨f.data, f.data.length⟩) d.fs } w w' := by
  obtain ⟨k1, k2⟩ := hc
  have c1 := h.c1
  have hlk := (h.below (bD (Below.refl _ w))).look s (by unfold maxLen; omega)
  rw [hg] at hlk
  simp only [Option.map_some] at hlk
  obtain ⟨hBb, hblt, A0, c0, hfb, hfs⟩ := h.file hg
  have hst := Lib.hid ((store_safe (h.below (bD (Below.refl _ w))) hg (F b).data.length (g := fun f => ⟨f.data, f.data.length⟩) rfl).on ((bD (Below.refl _ w)).mono (by have := h.alt; have := h.base; omega)) (Fm.below (bD (Below.refl _ w))))
  have ks : w.cell? ⟨b, 1, none⟩ = some (.int .i64 ((F b).safe : Nat)) := by simp [World.cell?, hfb]
  have kf : w.cell? ⟨b, 0, none⟩ = some (.slice A0 (F b).data.length c0) := by simp [World.cell?, hfb]
  have f1 : w.frozen? ⟨b, 1, none⟩ = false := frozen_of_row w b 1 _ _ hfb
  obtain ⟨N, hN⟩ : ∃ N, (F b).data.length = N := ⟨_, rfl⟩
  rw [hN] at kf hst
  clear h hg hfb hfs hN
  go_enter Tryz.func136, Tryz.ntmps136
  go_wp2_with fail
  go_still_tail 18, (by kernel_rfl)
  change wpList _ _ _ _ _ w.drew
  clear hlk
  go_wp2_with fail
  go_end0
  exact ⟨rfl, hst.out⟩

theorem Cp.keptM {w w' : World} {bd bn a mb : Nat} {s : ByteArray} (h : Cp w bd bn a s) (hg : w.grownBy w' (some mb)) {es : Array MapEntry} {cl : Nat} (hm : w.heap[mb]? = some (.map es cl)) : Cp w' bd bn a s := by
  have h1 : bd ≠ mb := by
    rintro rfl
    have := h.bd
    simp [World.cell?, hm] at this
  have h2 : bn ≠ mb := by
    rintro rfl
    have := h.bn
    simp [World.cell?, hm] at this
  exact ⟨hg.cell h.bd (by simpa using h1), hg.cell h.bn (by simpa using h2)⟩

/-- A name is gone. -/
theorem Da.delF {w w' : World} {B a mb : Nat} {L : Al Nat} {F : Nat → Fl} {tv : Value} {d : D} (h : Da w B a mb L F tv d) {nm : Name} {n : Nat}
    (hg : w.grownBy w' (some mb)) (hown : w'.ownsMap Tryz.prog 9 ptrElem mb n ((mp L).del (.string nm))) : Da w' B a mb (del nm L) F tv { d with fs := del nm d.fs } ∧ St B a mb tv { d with fs := del nm d.fs } w w' := by
  rw [mp_del] at hown
  have hm := h.setM hg (F' := F) hown (del_up h.up) (h.nd.sublist ((List.filter_sublist (l := L) (p := fun p => !(p.1 == nm))).map _)) (fun p hp => .inl ⟨(del_mem.1 hp).1, rfl⟩)
  have e : (del nm L).map (fun p => (p.1, F p.2)) = del nm d.fs := by rw [del_map, h.fs]
  rw [e] at hm
  refine ⟨hm, below_row hg h.base.2 (by have := h.base; have := h.mlt; omega), Fm.grown hg fun cs E fr he => ?_, _, _, hm⟩
  obtain ⟨es, cl, hmb⟩ := h.mblk
  rw [hmb] at he
  cases he

set_option maxHeartbeats 1000000 in
set_option maxRecDepth 100000 in
theorem delete1 (w : World) (B a mb : Nat) (L : Al Nat) (F : Nat → Fl) (tv : Value) (d : D) (h : Da w B a mb L F tv d) (s : ByteArray) (hs : s.size ≤ 1000000) (bd bn : Nat) (hc : Cp w bd bn a s) :
    Calls Tryz.prog 137 #[.pointer (some ⟨bd, 0, none⟩), .pointer (some ⟨bn, 0, none⟩)] w fun e w' => e = .returned (.tuple #[]) ∧ St B a mb tv { d with fs := del s.data.toList d.fs } w w' := by
  obtain ⟨k1, k2⟩ := hc
  have c1 := h.c1
  have hkey := WideMaps.keyOf_string_mk (P := Tryz.prog) Tryz.underlying9 (s := s) (by unfold maxLen; omega)
  have hd := h.below (bD (Below.refl _ w))
  have hst : ∀ w', w'.ownsMap Tryz.prog 9 ptrElem mb L.length ((mp L).del (.string s.data.toList)) → w.drew.mapTurned w' mb → St B a mb tv { d with fs := del s.data.toList d.fs } w w' := fun w' h1 h2 =>
    (hd.delF h2.grown h1).2.on ((bD (Below.refl w.heap.size w)).mono (by have := h.alt; have := h.base; omega)) (Fm.below (bD (Below.refl _ w)))
  have hst' := Lib.hid hst
  have hkey' := Lib.hid hkey
  have hown := Lib.hid hd.own
  clear h hd hst hkey
  go_enter Tryz.func137, Tryz.ntmps137
  go_wp2_with fail
  go_still_tail 5, (by kernel_rfl)
  change wpList _ _ _ _ _ w.drew
  refine wpList_delete_own _ rfl _ _ 111 9 rfl 130 law_str Tryz.underlying111 ptrElem mb L.length (mp L) rfl hown.out _ _ rfl hkey'.out ?_
  intro w' h1 h2
  have hs2 := Lib.hid (hst'.out w' h1 h2)
  clear h1 h2
  go_wp2_with fail
  go_end0
  exact ⟨rfl, hs2.out⟩

/-- A block's name is another. -/
theorem Da.putF {w w' : World} {B a mb : Nat} {L : Al Nat} {F : Nat → Fl} {tv : Value} {d : D} (h : Da w B a mb L F tv d) {nm : Name} {b n : Nat} {f : Fl} (hf : FileAt w B b f) (hF : F b = f) (hfr : ∀ p ∈ L, p.2 ≠ b)
    (hg : w.grownBy w' (some mb)) (hown : w'.ownsMap Tryz.prog 9 ptrElem mb n ((mp L).put (.string nm) (.lit (.int .i64 (b : Nat))))) :
    St B a mb tv { d with fs := ins nm f (del nm d.fs) } w w' := by
  rw [mp_put] at hown
  have hn : ∀ p ∈ del nm L, p.1 ≠ nm := fun p hp => (del_mem.1 hp).2
  have e : (ins nm b (del nm L)).map (fun p => (p.1, F p.2)) = ins nm f (del nm d.fs) := by
    rw [ins_map F, hF, del_map, ← h.fs]
  have hm := h.setM hg (F' := F) hown (ins_up (del_up h.up) hn) ?_ ?_
  · rw [e] at hm
    refine ⟨below_row hg h.base.2 (by have := h.base; have := h.mlt; omega), Fm.grown hg fun cs E fr he => ?_, _, _, hm⟩
    obtain ⟨es, cl, hmb⟩ := h.mblk
    rw [hmb] at he
    cases he
  · have hp : ∀ (l : Al Nat), ((ins nm b l).map (·.2)).Perm (b :: l.map (·.2)) := by
      intro l
      induction l with
      | nil => exact List.Perm.refl _
      | cons p l ih =>
        rw [ins]
        split
        · exact List.Perm.refl _
        · exact (List.Perm.cons _ ih).trans (List.Perm.swap _ _ _)
    refine (hp _).nodup_iff.2 (List.nodup_cons.2 ⟨fun hb => ?_, h.nd.sublist ((List.filter_sublist (l := L) (p := fun p => !(p.1 == nm))).map _)⟩)
    obtain ⟨p, h1, h2⟩ := List.mem_map.1 hb
    exact hfr p (del_mem.1 h1).1 h2
  · intro p hp
    rcases ins_mem.1 hp with rfl | hp
    · exact .inr (by rw [hF]; exact hf)
    · exact .inl ⟨(del_mem.1 hp).1, rfl⟩

theorem nodup_inj : ∀ (l : Al Nat), (l.map (·.2)).Nodup → ∀ p ∈ l, ∀ q ∈ l, p.2 = q.2 → p = q := by
  intro l
  induction l with
  | nil => intro _ p hp; cases hp
  | cons x l ih =>
    intro hn p hp q hq e
    obtain ⟨hx, hn⟩ := List.nodup_cons.1 hn
    rcases List.mem_cons.1 hp with hp1 | hp1 <;> rcases List.mem_cons.1 hq with hq1 | hq1
    · rw [hp1, hq1]
    · exact absurd (List.mem_map.2 ⟨q, hq1, by rw [← e, hp1]⟩) hx
    · exact absurd (List.mem_map.2 ⟨p, hp1, by rw [e, hq1]⟩) hx
    · exact ih hn p hp1 q hq1 e

set_option maxHeartbeats 2000000 in
set_option maxRecDepth 100000 in
theorem rename2 (w : World) (B a mb : Nat) (L : Al Nat) (F : Nat → Fl) (tv : Value) (d : D) (h : Da w B a mb L F tv d) (s s2 : ByteArray) (hs : s.size ≤ 1000000) (hs2 : s2.size ≤ 1000000) (bd bn b2 : Nat) (hc : Cp w bd bn a s) (hc2 : Cp w bd b2 a s2)
    (b : Nat) (hg : Dk.get L s.data.toList = some b) (hfl : d.fs.length ≤ 1000) :
    Calls Tryz.prog 158 #[.pointer (some ⟨bd, 0, none⟩), .pointer (some ⟨bn, 0, none⟩), .pointer (some ⟨b2, 0, none⟩)] w
      fun e w' => e = .returned (.tuple #[]) ∧ St B a mb tv { d with fs := ins s2.data.toList (F b) (del s2.data.toList (del s.data.toList d.fs)) } w w' := by
  obtain ⟨k1, k2⟩ := id hc
  have k3 := hc2.bn
  have c1 := h.c1
  have hB : B ≤ w.heap.size := by have := h.alt; have := h.base; omega
  have hkey := WideMaps.keyOf_string_mk (P := Tryz.prog) Tryz.underlying9 (s := s) (by unfold maxLen; omega)
  have hkey2 := WideMaps.keyOf_string_mk (P := Tryz.prog) Tryz.underlying9 (s := s2) (by unfold maxLen; omega)
  have hlk := fun q => (h.below (Joins.below_draws _ w q)).look s (by unfold maxLen; omega)
  rw [hg] at hlk
  simp only [Option.map_some] at hlk
  have hl := h.len_eq
  have h' := Lib.hid h
  have hg' := Lib.hid hg
  have hcc := Lib.hid hc
  have hcc2 := Lib.hid hc2
  have hkey' := Lib.hid hkey
  have hkey2' := Lib.hid hkey2
  have hll : L.length ≤ 1000 := by omega
  clear h hg hkey hkey2 hl hc hc2
  go_enter Tryz.func158, Tryz.ntmps158
  go_wp2_with fail
  go_big_quiet (fail)
  have hb1 := Lib.hid (Joins.below_draws w.heap.size w nq)
  have hD1 := Lib.hid (h'.out.below hb1.out)
  have hc1 := Lib.hid (hcc.out.below hcc.out.lt1 hcc.out.lt2 hb1.out)
  have hc12 := Lib.hid (hcc2.out.below hcc2.out.lt1 hcc2.out.lt2 hb1.out)
  generalize w.drewN nq = w1 at hb1 hD1 hc1 hc12 ⊢
  clear k1 k2 k3 c1 hlk
  have k1 := hc1.out.bd
  have k2 := hc1.out.bn
  have c1 := hD1.out.c1
  go_wp2_with fail
  go_still_tail 5, (by kernel_rfl)
  change wpList _ _ _ _ _ w1.drew
  have hb2 := Lib.hid (bD hb1.out)
  have hD2 := Lib.hid (hD1.out.below (bD (Below.refl _ w1)))
  have hc2 := Lib.hid (hc1.out.below hc1.out.lt1 hc1.out.lt2 (bD (Below.refl w1.heap.size w1)))
  have hc22 := Lib.hid (hc12.out.below hc12.out.lt1 hc12.out.lt2 (bD (Below.refl w1.heap.size w1)))
  generalize w1.drew = w2 at hb2 hD2 hc2 hc22 ⊢
  clear k1 k2 c1
  refine wpList_delete_own _ rfl _ _ 111 9 rfl 130 law_str Tryz.underlying111 ptrElem mb L.length (mp L) rfl hD2.out.own _ _ rfl hkey'.out ?_
  intro w3 h1 h2
  obtain ⟨hD3, hst3⟩ := hD2.out.delF h2.grown h1
  obtain ⟨es, cl, hmb⟩ := hD2.out.mblk
  have hc3 := Lib.hid (hc2.out.keptM h2.grown hmb)
  have hc32 := Lib.hid (hc22.out.keptM h2.grown hmb)
  have hD3' := Lib.hid hD3
  have hst3' := Lib.hid (hst3.on (hb2.out.mono hB) (Fm.below hb2.out))
  have hfb : FileAt w3 B b (F b) := by
    have hmem := get_mem hg'.out
    have hf := hD2.out.files _ hmem
    exact hf.kept h2.grown (by simp; exact hD2.out.fm hmem) (NoE.of hmb (by intro cs fr e; cases e))
  have hfb' := Lib.hid hfb
  clear h1 h2 hD3 hst3 hmb hfb
  have k1 := hc3.out.bd
  have k3 := hc32.out.bn
  have c1 := hD3'.out.c1
  have hdl : (del s.data.toList L).length < maxLen := by have := List.length_filter_le (fun p : Name × Nat => !(p.1 == s.data.toList)) L; unfold del maxLen; omega
  go_wp2_with fail
  go_still_tail 6, (by kernel_rfl)
  change wpList _ _ _ _ _ w3.drew
  have hD4 := Lib.hid (hD3'.out.below (bD (Below.refl _ w3)))
  have hfb4 := Lib.hid (hfb'.out.kept (grown_of_below (bD (Below.refl w3.heap.size w3))) (by simp) NoE.none)
  have hst4 := Lib.hid ((St.on (tv := tv) (dd := { d with fs := del s.data.toList d.fs }) ⟨bD (Below.refl B w3), Fm.below (bD (Below.refl w3.heap.size w3)), _, _, hD4.out⟩ hst3'.out.1 hst3'.out.2.1))
  generalize w3.drew = w4 at hD4 hfb4 hst4 ⊢
  clear k1 k3 c1
  refine wpList_mapUpdate_own _ rfl _ _ _ 111 rfl 9 130 law_str Tryz.underlying111 ptrElem mb (del s.data.toList L).length (mp (del s.data.toList L)) rfl hD4.out.own hdl _ _ _ rfl rfl hkey2'.out (.lit (.int .i64 (b : Nat))) [] rfl ?_
  intro w5 h1 h2
  have hfr : ∀ p ∈ del s.data.toList L, p.2 ≠ b := fun p hp e => by
    obtain ⟨h3, h4⟩ := del_mem.1 hp
    have := nodup_inj L h'.out.nd p h3 (s.data.toList, b) (get_mem hg'.out) e
    rw [this] at h4
    exact h4 rfl
  have hfin := Lib.hid ((hD4.out.putF hfb4.out rfl hfr h2 h1).on hst4.out.1 hst4.out.2.1)
  clear h1 h2 hfr
  go_wp2_with fail
  go_end0
  exact ⟨rfl, hfin.out⟩
end Go.Proofs.YtfdpnjebhllpkaaGreatDoor.Dk
end

section
namespace Go.Proofs.YtfdpnjebhllpkaaGreatDoor.Dk
open Go.RowKit

set_option maxHeartbeats 1000000 in
set_option maxRecDepth 100000 in
theorem rename1 (w : World) (B a mb : Nat) (L : Al Nat) (F : Nat → Fl) (tv : Value) (d : D) (h : Da w B a mb L F tv d) (s s2 : ByteArray) (hs : s.size ≤ 1000000) (hs2 : s2.size ≤ 1000000) (bd bn b2 : Nat) (hc : Cp w bd bn a s) (hc2 : Cp w bd b2 a s2) (z : Int) (y : List UInt8) :
    Calls Tryz.prog 157 #[.pointer (some ⟨bd, 0, none⟩), .pointer (some ⟨bn, 0, none⟩), .pointer (some ⟨b2, 0, none⟩)] w
      fun e w' => e = .returned (.int .i64 (refuse d 5 s.data.toList s2.data.toList z y)) ∧ Below w.heap.size w w' := by
  obtain ⟨k1, k2⟩ := hc
  have k3 := hc2.bn
  have c1 := h.c1
  have hlk := fun q => (h.below (Joins.below_draws _ w q)).look s (by unfold maxLen; omega)
  have hg := h.get s.data.toList
  cases hG : Dk.get L s.data.toList with
  | none =>
    rw [hG] at hg hlk
    have hX2 : Hid (refuse d 5 s.data.toList s2.data.toList z y = 42) := Lib.hid (by unfold refuse; rw [if_neg (by decide), hg]; rfl)
    obtain ⟨X, hX⟩ : ∃ X, refuse d 5 s.data.toList s2.data.toList z y = X := ⟨_, rfl⟩
    rw [hX] at hX2 ⊢
    clear hg hG h hX hc2
    simp only [Option.map_none] at hlk
    go_enter Tryz.func157, Tryz.ntmps157
    go_wp2_with fail
    go_big_quiet (fail)
    go_wp2_with fail
    go_ret
    exact ⟨ret_int hX2.out.symm, Joins.below_draws _ _ _⟩
  | some b =>
    rw [hG] at hg hlk
    have hX1 : Hid (refuse d 5 s.data.toList s2.data.toList z y = if may s2.data.toList = false then 44 else 0) := Lib.hid (by unfold refuse; rw [if_neg (by decide), hg]; rfl)
    obtain ⟨X, hX⟩ : ∃ X, refuse d 5 s.data.toList s2.data.toList z y = X := ⟨_, rfl⟩
    rw [hX] at hX1 ⊢
    simp only [Option.map_some] at hlk
    clear hg hG h hX hc2
    have hm := fun q => may_any s2 (by omega) (w.drewN q)
    obtain ⟨M, hM⟩ : ∃ M, may s2.data.toList = M := ⟨_, rfl⟩
    rw [hM] at hX1 hm
    clear hM
    go_enter Tryz.func157, Tryz.ntmps157
    go_wp2_with fail
    go_big_quiet (fail)
    go_wp2_with fail
    refine (hm nq).mono ?_
    rintro e w2 ⟨rfl, hb2⟩
    have hb := Lib.hid ((Joins.below_draws w.heap.size w nq).trans (hb2.mono (by simp)))
    clear hb2 hm hlk
    cases M with
    | false =>
      have hX2 : Hid (X = 44) := Lib.hid hX1.out
      clear hX1
      go_wp2_with fail
      go_ret
      exact ⟨ret_int hX2.out.symm, hb.out⟩
    | true =>
      have hX2 : Hid (X = 0) := Lib.hid hX1.out
      clear hX1
      go_wp2_with fail
      go_ret
      exact ⟨ret_int hX2.out.symm, hb.out⟩

set_option maxHeartbeats 1000000 in
set_option maxRecDepth 100000 in
theorem cut1 (w : World) (B a mb : Nat) (L : Al Nat) (F : Nat → Fl) (tv : Value) (d : D) (h : Da w B a mb L F tv d) (s : ByteArray) (hs : s.size ≤ 1000000) (bd bn b2 : Nat) (hc : Cp w bd bn a s) (z : Int) (kz : w.cell? ⟨b2, 0, none⟩ = some (.int .i64 z)) (nt : Name) (y : List UInt8) :
    Calls Tryz.prog 146 #[.pointer (some ⟨bd, 0, none⟩), .pointer (some ⟨bn, 0, none⟩), .pointer (some ⟨b2, 0, none⟩)] w
      fun e w' => e = .returned (.int .i64 (refuse d 3 s.data.toList nt z y)) ∧ Below w.heap.size w w' := by
  obtain ⟨k1, k2⟩ := hc
  have c1 := h.c1
  have hlk := fun q => (h.below (Joins.below_draws _ w q)).look s (by unfold maxLen; omega)
  have hg := h.get s.data.toList
  cases hG : Dk.get L s.data.toList with
  | none =>
    rw [hG] at hg hlk
    have hX2 : Hid (refuse d 3 s.data.toList nt z y = 42) := Lib.hid (by unfold refuse; rw [if_neg (by decide), hg]; rfl)
    obtain ⟨X, hX⟩ : ∃ X, refuse d 3 s.data.toList nt z y = X := ⟨_, rfl⟩
    rw [hX] at hX2 ⊢
    simp only [Option.map_none] at hlk
    clear hg hG h hX
    go_enter Tryz.func146, Tryz.ntmps146
    go_wp2_with fail
    go_big_quiet (fail)
    go_wp2_with fail
    go_ret
    exact ⟨ret_int hX2.out.symm, Joins.below_draws _ _ _⟩
  | some b =>
    obtain ⟨hBb, hblt, A0, c0, hfb, hfs⟩ := h.file hG
    rw [hG] at hg hlk
    have hX1 : refuse d 3 s.data.toList nt z y = if z < 0 ∨ ((F b).data.length : Int) < z then 80 else 0 := by unfold refuse; rw [if_neg (by decide), hg]; rfl
    obtain ⟨X, hX⟩ : ∃ X, refuse d 3 s.data.toList nt z y = X := ⟨_, rfl⟩
    rw [hX] at hX1 ⊢
    simp only [Option.map_some] at hlk
    have kf : w.cell? ⟨b, 0, none⟩ = some (.slice A0 (F b).data.length c0) := by simp [World.cell?, hfb]
    obtain ⟨N, hN⟩ : ∃ N, (F b).data.length = N := ⟨_, rfl⟩
    rw [hN] at kf hX1
    have hX1' := Lib.hid hX1
    clear hg hG h hX hfb hfs hN hX1
    by_cases h0 : z < 0
    · have j0 : decide (z < 0) = true := by simpa using h0
      have hX2 : Hid (X = 80) := Lib.hid (by rw [hX1'.out, if_pos (.inl h0)])
      go_enter Tryz.func146, Tryz.ntmps146
      go_wp2_with fail
      go_big_quiet (fail)
      go_wp2_with fail
      go_big_quiet (fail)
      go_wp2_with fail
      go_ret
      exact ⟨ret_int hX2.out.symm, (Joins.below_draws _ _ _).trans (Joins.below_draws _ _ _)⟩
    · have j0 : decide (z < 0) = false := by simpa using h0
      by_cases h1 : (N : Int) < z
      · have j1 : decide ((N : Int) < z) = true := by simpa using h1
        have hX2 : Hid (X = 80) := Lib.hid (by rw [hX1'.out, if_pos (.inr h1)])
        go_enter Tryz.func146, Tryz.ntmps146
        go_wp2_with fail
        go_big_quiet (fail)
        go_wp2_with fail
        go_big_quiet (fail)
        go_wp2_with fail
        go_ret
        exact ⟨ret_int hX2.out.symm, (Joins.below_draws _ _ _).trans (Joins.below_draws _ _ _)⟩
      · have j1 : decide ((N : Int) < z) = false := by simpa using h1
        have hX2 : Hid (X = 0) := Lib.hid (by rw [hX1'.out, if_neg (by rintro (h | h); exact h0 h; exact h1 h)])
        go_enter Tryz.func146, Tryz.ntmps146
        go_wp2_with fail
        go_big_quiet (fail)
        go_wp2_with fail
        go_big_quiet (fail)
        go_wp2_with fail
        go_ret
        exact ⟨ret_int hX2.out.symm, (Joins.below_draws _ _ _).trans (Joins.below_draws _ _ _)⟩
end Go.Proofs.YtfdpnjebhllpkaaGreatDoor.Dk
end

section
namespace Go.Proofs.YtfdpnjebhllpkaaGreatDoor.Dk
open Go.RowKit

set_option maxHeartbeats 2000000 in
set_option maxRecDepth 100000 in
theorem append2 (w : World) (B a mb : Nat) (L : Al Nat) (F : Nat → Fl) (tv : Value) (d : D) (h : Da w B a mb L F tv d) (s : ByteArray) (hs : s.size ≤ 1000000) (bd bn bb : Nat) (hc : Cp w bd bn a s)
    (A : Option Addr) (n c : Nat) (l : List UInt8) (hl : l.length = n) (kb : w.cell? ⟨bb, 0, none⟩ = some (.slice A n c)) (hn : n ≤ 1000000) (hu : used d.fs ≤ 1000000000) (hroom : d.room ≤ 9223372036854775807) (z : Int) (nt : Name) :
    Calls Tryz.prog 132 #[.pointer (some ⟨bd, 0, none⟩), .pointer (some ⟨bn, 0, none⟩), .pointer (some ⟨bb, 0, none⟩)] w
      fun e w' => e = .returned (.int .i64 (refuse d 2 s.data.toList nt z l)) ∧ Below w.heap.size w w' := by
  obtain ⟨k1, k2⟩ := id hc
  have lt1 := hc.lt1
  have lt3 := cell_lt kb
  have halt := h.alt
  have c1 := h.c1
  have hlk := fun q => (h.below (Joins.below_draws _ w q)).look s (by unfold maxLen; omega)
  have hg := h.get s.data.toList
  cases hG : Dk.get L s.data.toList with
  | none =>
    rw [hG] at hg hlk
    have hX2 : Hid (refuse d 2 s.data.toList nt z l = 42) := Lib.hid (by unfold refuse; rw [if_neg (by decide), hg]; rfl)
    obtain ⟨X, hX⟩ : ∃ X, refuse d 2 s.data.toList nt z l = X := ⟨_, rfl⟩
    rw [hX] at hX2 ⊢
    simp only [Option.map_none] at hlk
    clear hg hG h hX lt1 lt3 halt
    go_enter Tryz.func132, Tryz.ntmps132
    go_wp2_with fail
    go_big_quiet (fail)
    go_wp2_with fail
    go_ret
    exact ⟨ret_int hX2.out.symm, Joins.below_draws _ _ _⟩
  | some b =>
    rw [hG] at hg hlk
    have hX1 : refuse d 2 s.data.toList nt z l = if (d.room : Int) - used d.fs < l.length then 40 else 0 := by unfold refuse; rw [if_neg (by decide), hg]; rfl
    obtain ⟨X, hX⟩ : ∃ X, refuse d 2 s.data.toList nt z l = X := ⟨_, rfl⟩
    rw [hX] at hX1 ⊢
    simp only [Option.map_some] at hlk
    have kr : w.cell? ⟨a, 0, none⟩ = some (.int .i64 (d.room : Nat)) := by simp [World.cell?, h.blk]
    have hX1' := Lib.hid hX1
    have h' := Lib.hid h
    have hbd' := Lib.hid lt1
    obtain ⟨U, hU⟩ : ∃ U, used d.fs = U := ⟨_, rfl⟩
    have hus : ∀ w1, Below w.heap.size w w1 → Calls Tryz.prog 89 #[.pointer (some ⟨a, 0, none⟩)] w1 fun e w2 => e = .returned (.int .i64 (U : Nat)) ∧ Hid (Below w.heap.size w w2) ∧ w2.cell? ⟨bd, 0, none⟩ = some (.pointer (some ⟨a, 0, none⟩)) ∧ w2.cell? ⟨bb, 0, none⟩ = some (.slice A n c) ∧ w2.cell? ⟨a, 0, none⟩ = some (.int .i64 (d.room : Nat)) := fun w1 hb1 => by
      refine (Used_any w1 B a mb L F tv d (h'.out.below hb1) hu).mono ?_
      rintro e w2 ⟨rfl, hb2⟩
      have hb := hb1.trans (hb2.mono hb1.size)
      exact ⟨by rw [hU], Lib.hid hb, (hb.cell (p := ⟨bd, 0, none⟩) lt1).trans k1, (hb.cell (p := ⟨bb, 0, none⟩) lt3).trans kb, (hb.cell (p := ⟨a, 0, none⟩) halt).trans kr⟩
    have hus' := Lib.hid hus
    rw [hU, hl] at hX1
    have hX1' := Lib.hid hX1
    obtain ⟨R, hR⟩ : ∃ R, d.room = R := ⟨_, rfl⟩
    rw [hR] at kr hX1' hroom hus'
    rw [hU] at hu
    have sall : ∀ w', Below w.heap.size w w' → (Below w.heap.size w w' ∧ w'.cell? ⟨bd, 0, none⟩ = some (.pointer (some ⟨a, 0, none⟩)) ∧ w'.cell? ⟨bb, 0, none⟩ = some (.slice A n c) ∧ w'.cell? ⟨a, 0, none⟩ = some (.int .i64 (R : Nat))) := fun w' hb =>
      ⟨hb, (hb.cell (p := ⟨bd, 0, none⟩) lt1).trans k1, (hb.cell (p := ⟨bb, 0, none⟩) lt3).trans kb, (hb.cell (p := ⟨a, 0, none⟩) halt).trans kr⟩
    have sall' := Lib.hid sall
    clear hg hG h hX hX1 hus hbd' lt1 lt3 halt hl hR hU sall
    go_enter Tryz.func132, Tryz.ntmps132
    go_wp2_with fail
    go_big_quiet (fail)
    have hb1 : Below w.heap.size w (w.drewN nq) := Joins.below_draws _ w nq
    obtain ⟨_, g1, g2, g3⟩ := sall'.out _ hb1
    generalize w.drewN nq = w1 at hb1 g1 g2 g3 ⊢
    have wr : IntKind.i64.wrap ((R : Int) - (U : Int)) = (R : Int) - (U : Int) := IntWalk.i64_in _ (by omega)
    clear k1 k2 kb kr c1 hlk
    by_cases hlt : (R : Int) - (U : Int) < (n : Int)
    · have j1 : decide ((R : Int) - (U : Int) < (n : Int)) = true := by simpa using hlt
      have hX2 : Hid (X = 40) := Lib.hid (by rw [hX1'.out, if_pos hlt])
      go_wp2_with fail
      go_region_held3 (fun w' => Below w.heap.size w w' ∧ w'.cell? ⟨bd, 0, none⟩ = some (.pointer (some ⟨a, 0, none⟩)) ∧ w'.cell? ⟨bb, 0, none⟩ = some (.slice A n c) ∧ w'.cell? ⟨a, 0, none⟩ = some (.int .i64 (R : Nat)))
        (first | exact sall'.out _ (by assumption) | exact sall'.out _ hb1 | exact sall'.out _ (Below.drew hb1))
        (first | (go_at_call 89; refine (hus'.out _ (And.left ‹Below w.heap.size w _ ∧ _›)).mono ?_; rintro e w2 ⟨rfl, hb2, _, _, _⟩; have hB' := hb2.out))
      have hh := Lib.hid (And.left ‹Below w.heap.size w _ ∧ _›)
      go_wp2_with fail
      go_ret
      exact ⟨ret_int hX2.out.symm, hh.out⟩
    · have j1 : decide ((R : Int) - (U : Int) < (n : Int)) = false := by simpa using hlt
      have hX2 : Hid (X = 0) := Lib.hid (by rw [hX1'.out, if_neg hlt])
      go_wp2_with fail
      go_region_held3 (fun w' => Below w.heap.size w w' ∧ w'.cell? ⟨bd, 0, none⟩ = some (.pointer (some ⟨a, 0, none⟩)) ∧ w'.cell? ⟨bb, 0, none⟩ = some (.slice A n c) ∧ w'.cell? ⟨a, 0, none⟩ = some (.int .i64 (R : Nat)))
        (first | exact sall'.out _ (by assumption) | exact sall'.out _ hb1 | exact sall'.out _ (Below.drew hb1))
        (first | (go_at_call 89; refine (hus'.out _ (And.left ‹Below w.heap.size w _ ∧ _›)).mono ?_; rintro e w2 ⟨rfl, hb2, _, _, _⟩; have hB' := hb2.out))
      have hh := Lib.hid (And.left ‹Below w.heap.size w _ ∧ _›)
      go_wp2_with fail
      go_ret
      exact ⟨ret_int hX2.out.symm, hh.out⟩
end Go.Proofs.YtfdpnjebhllpkaaGreatDoor.Dk
end

section
namespace Go.Proofs.YtfdpnjebhllpkaaGreatDoor.Dk
open Go.RowKit

/-- What the closures of Append captured: the variable put, the bytes. -/
def PutV (w : World) (bp bd bn bb : Nat) : Prop := w.cell? ⟨bp, 0, none⟩ = some (.func (.func 130) #[] #[.pointer (some ⟨bd, 0, none⟩), .pointer (some ⟨bn, 0, none⟩), .pointer (some ⟨bb, 0, none⟩)])

set_option maxHeartbeats 1000000 in
set_option maxRecDepth 100000 in
theorem append4 (w : World) (B a mb : Nat) (L : Al Nat) (F : Nat → Fl) (tv : Value) (d : D) (h : Da w B a mb L F tv d) (s : ByteArray) (hs : s.size ≤ 1000000) (bd bn bb bp : Nat) (hc : Cp w bd bn a s) (hp : PutV w bp bd bn bb)
    (A : Option Addr) (n c : Nat) (l : List UInt8) (kb : w.cell? ⟨bb, 0, none⟩ = some (.slice A n c)) (hBs : Bs w A n c l) (hn : n ≤ 1000000) (b : Nat) (hg : Dk.get L s.data.toList = some b) (hfl : (F b).data.length ≤ 1000000000) :
    Calls Tryz.prog 134 #[.pointer (some ⟨bp, 0, none⟩), .pointer (some ⟨bb, 0, none⟩)] w
      fun e w' => e = .returned (.tuple #[]) ∧ St B a mb tv { d with fs := upd s.data.toList (fun f => ⟨f.data ++ l, f.safe⟩) d.fs } w w' := by
  have hcon := append1 w B a mb L F tv d h s hs bd bn bb hc A n c l kb hBs hn n (Nat.le_refl _) b hg hfl
  rw [List.take_of_length_le (by rw [hBs.len]; exact Nat.le_refl _)] at hcon
  have hcon' := Lib.hid hcon
  have kp : w.cell? ⟨bp, 0, none⟩ = _ := hp
  have e1 : ∀ args w, (callFunc 130 args).run Tryz.prog w = .ok (.enter 130 args) w := enters_of Tryz.func130 (by kernel_rfl) rfl
  clear hcon h hc hp hBs hg
  go_enter Tryz.func134, Tryz.ntmps134
  go_wp2_with fail
  refine hcon'.out.mono ?_
  rintro e w1 ⟨rfl, hst⟩
  have hst' := Lib.hid hst
  clear hst kp kb
  go_wp2_with fail
  go_end0
  exact ⟨rfl, hst'.out⟩

set_option maxHeartbeats 1000000 in
set_option maxRecDepth 100000 in
theorem append3 (w : World) (B a mb : Nat) (L : Al Nat) (F : Nat → Fl) (tv : Value) (d : D) (h : Da w B a mb L F tv d) (s : ByteArray) (hs : s.size ≤ 1000000) (bd bn bb bp : Nat) (hc : Cp w bd bn a s) (hp : PutV w bp bd bn bb)
    (A : Option Addr) (n c : Nat) (l : List UInt8) (kb : w.cell? ⟨bb, 0, none⟩ = some (.slice A n c)) (hBs : Bs w A n c l) (hn : n ≤ 1000000) (b : Nat) (hg : Dk.get L s.data.toList = some b) (hfl : (F b).data.length ≤ 1000000000) (z : Int) :
    Calls Tryz.prog 133 #[.int .i64 z, .pointer (some ⟨bp, 0, none⟩), .pointer (some ⟨bb, 0, none⟩)] w
      fun e w' => e = .returned (.tuple #[]) ∧ St B a mb tv { d with fs := upd s.data.toList (fun f => ⟨f.data ++ l.take z.toNat, f.safe⟩) d.fs } w w' := by
  obtain ⟨m, hm⟩ : ∃ m : Nat, min (max z 0) (n : Int) = (m : Int) := ⟨(min (max z 0) (n : Int)).toNat, by omega⟩
  have hcon := append1 w B a mb L F tv d h s hs bd bn bb hc A n c l kb hBs hn m (by omega) b hg hfl
  have htk : l.take m = l.take z.toNat := by
    have hl := hBs.len
    rcases Nat.le_total z.toNat n with h1 | h1
    · rw [show m = z.toNat by omega]
    · rw [show m = n by omega, List.take_of_length_le (by omega), List.take_of_length_le (by omega)]
  rw [htk] at hcon
  have hcon' := Lib.hid hcon
  have kp : w.cell? ⟨bp, 0, none⟩ = _ := hp
  have e1 : ∀ args w, (callFunc 130 args).run Tryz.prog w = .ok (.enter 130 args) w := enters_of Tryz.func130 (by kernel_rfl) rfl
  clear hcon h hc hp hBs hg htk
  go_enter Tryz.func133, Tryz.ntmps133
  go_wp2_with fail
  refine hcon'.out.mono ?_
  rintro e w1 ⟨rfl, hst⟩
  have hst' := Lib.hid hst
  clear hst kp kb
  go_wp2_with fail
  go_end0
  exact ⟨rfl, hst'.out⟩
end Go.Proofs.YtfdpnjebhllpkaaGreatDoor.Dk
end
