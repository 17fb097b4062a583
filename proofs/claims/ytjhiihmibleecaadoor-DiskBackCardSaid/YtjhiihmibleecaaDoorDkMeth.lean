/- Create, and what the others share. -/
import Derived.Test.YtjhiihmibleecaaDoorDkCreate
namespace Go.Proofs.YtjhiihmibleecaaDoor.Dk
open Go.RowKit

theorem op_eq (d : D) (k : Nat) (nm nt : Name) (n : Int) (b : List UInt8) : op d k nm nt n b = opX d (refuse d k nm nt n b) (fun p => { d with ops := d.ops + 1, fs := part d.fs k nm p b }) { d with ops := d.ops + 1, fs := act d.fs k nm nt n b } := rfl

theorem make_func : ∀ (fn : Fn) (first cap : Array Value) (w : World), (Instr.makeFunc fn first cap).run Tryd.prog w = .ok (.func fn first cap) w := fun _ _ _ _ => rfl

theorem nothing_any (p : Int) (w : World) : Calls Tryd.prog 29 #[.int .i64 p] w fun e w' => e = .returned (.tuple #[]) ∧ w' = w := by
  go_enter Tryd.func29, Tryd.ntmps29
  go_wp2_with fail
  go_end0
  exact ⟨rfl, rfl⟩

theorem St.same {w : World} {B a mb : Nat} {L : Al Nat} {F : Nat → Fl} {tv : Value} {d : D} (h : Da w B a mb L F tv d) : St B a mb tv d w w := ⟨Below.refl _ _, Fm.refl _, L, F, h⟩

theorem Cp.below {w w' : World} {bd bn a : Nat} {s : ByteArray} {N : Nat} (h : Cp w bd bn a s) (h1 : bd < N) (h2 : bn < N) (hb : Below N w w') : Cp w' bd bn a s := ⟨(hb.cell (p := ⟨bd, 0, none⟩) h1).trans h.bd, (hb.cell (p := ⟨bn, 0, none⟩) h2).trans h.bn⟩
theorem Cp.set {w : World} {bd bn a i c : Nat} {s : ByteArray} (h : Cp w bd bn a s) (h1 : bd ≠ c) (h2 : bn ≠ c) (x : Value) : Cp (w.setCell ⟨c, i, none⟩ x) bd bn a s := by
  have hg := grown_set w ⟨c, i, none⟩ x
  exact ⟨hg.cell h.bd (by simp; exact h1), hg.cell h.bn (by simp; exact h2)⟩

/-- The two boxes are laid. -/
theorem boxes (w : World) (a : Nat) (s : ByteArray) : Cp ((w.alloc (.cells #[.pointer (some ⟨a, 0, none⟩)] 25)).alloc (.cells #[.string s] 9)) w.heap.size (w.heap.size + 1) a s ∧
    Below w.heap.size w ((w.alloc (.cells #[.pointer (some ⟨a, 0, none⟩)] 25)).alloc (.cells #[.string s] 9)) ∧
    ((w.alloc (.cells #[.pointer (some ⟨a, 0, none⟩)] 25)).alloc (.cells #[.string s] 9)).heap.size = w.heap.size + 2 := by
  refine ⟨⟨?_, ?_⟩, bA (below_alloc _ _) _, by simp⟩
  · simp
  · simp

set_option maxHeartbeats 1000000 in
set_option maxRecDepth 100000 in
theorem Create_any (w : World) (B a mb : Nat) (L : Al Nat) (F : Nat → Fl) (tv : Value) (d : D) (h : Da w B a mb L F tv d) (hops : d.ops ≤ 1000000) (htl : d.tr.length ≤ 1000000) (hfl : d.fs.length ≤ 1000) (s : ByteArray) (hs : s.size ≤ 1000000) :
    Calls Tryd.prog 17 #[.pointer (some ⟨a, 0, none⟩), .string s] w (OpP B a mb tv (op d 1 s.data.toList [] 0 []) w) := by
  obtain ⟨hcp, hb2, hsz⟩ := boxes w a s
  have hmf := make_func
  have halt := h.alt
  have hB := h.base
  obtain ⟨b0, hb0⟩ : ∃ b0, w.heap.size = b0 := ⟨_, rfl⟩
  rw [hb0] at hcp hsz halt
  have h2 := h.below hb2
  have kd : ((w.alloc (.cells #[.pointer (some ⟨a, 0, none⟩)] 25)).alloc (.cells #[.string s] 9)).cell? ⟨b0, 0, none⟩ = some (.pointer (some ⟨a, 0, none⟩)) := hcp.bd
  obtain ⟨w2, hw2⟩ : ∃ w2, (w.alloc (.cells #[.pointer (some ⟨a, 0, none⟩)] 25)).alloc (.cells #[.string s] 9) = w2 := ⟨_, rfl⟩
  rw [hw2] at hcp hb2 hsz h2 kd
  have hcp' := hcp.set (i := 3) (c := a) (by omega) (by omega) (.int .i64 ((d.ops + 1 : Nat)))
  obtain ⟨hD2, _⟩ := h2.setOps (d.ops + 1)
  have hcode : ∀ n, refuse { d with ops := n } 1 s.data.toList [] 0 [] = refuse d 1 s.data.toList [] 0 [] := fun _ => rfl
  have hop := operate_any w2 B a mb L F tv d h2 hops htl 31 29 32 #[.pointer (some ⟨b0 + 1, 0, none⟩), .pointer (some ⟨b0, 0, none⟩)] #[] #[.pointer (some ⟨b0, 0, none⟩), .pointer (some ⟨b0 + 1, 0, none⟩)]
    (refuse d 1 s.data.toList [] 0 []) (fun p => { d with ops := d.ops + 1, fs := part d.fs 1 s.data.toList p [] }) { d with ops := d.ops + 1, fs := act d.fs 1 s.data.toList [] 0 [] }
    (enters_of Tryd.func31 (by kernel_rfl) rfl) (enters_of Tryd.func29 (by kernel_rfl) rfl) (enters_of Tryd.func32 (by kernel_rfl) rfl)
    (fun w1 hb1 => by
      have hD1 := hD2.below (by rw [set_size]; exact hb1)
      have := create1 w1 B a mb L F tv _ hD1 s hs b0 (b0 + 1) (hcp'.below (by omega) (by omega) hb1) (by have := hb1.size; rw [set_size] at this; omega) hfl
      rw [hcode] at this
      exact this)
    (fun w1 p hb1 _ => (nothing_any p w1).mono (by
      rintro e w3 ⟨rfl, rfl⟩
      exact ⟨rfl, St.same (hD2.below (by rw [set_size]; exact hb1))⟩))
    (fun w1 hb1 hc0 => by
      have hD1 := hD2.below (by rw [set_size]; exact hb1)
      have hno : Dk.get L s.data.toList = none := by
        unfold refuse at hc0
        rw [if_pos rfl] at hc0
        split at hc0
        · omega
        split at hc0
        · omega
        rename_i hns
        rw [h.get] at hns
        cases hg : Dk.get L s.data.toList with
        | none => rfl
        | some b => rw [hg] at hns; exact absurd rfl hns
      exact create2 w1 B a mb L F tv _ hD1 s hs b0 (b0 + 1) (hcp'.below (by omega) (by omega) hb1) hno hfl)
  rw [← op_eq] at hop
  have hop' := Lib.hid hop
  have hb2' := Lib.hid hb2
  have hB' := Lib.hid hB
  clear hop hcp hcp' hD2 h2 h hcode hsz hb2 hB
  go_enter Tryd.func17, Tryd.ntmps17
  go_wp2_with fail
  refine hop'.out.mono ?_
  rintro e w3 ⟨rfl, hst⟩
  have hst' := Lib.hid hst
  clear hst hmf
  go_wp2_with fail
  go_ret
  exact ⟨rfl, hst'.out.on (hb2'.out.mono (by have := hB'.out; omega)) (Fm.below hb2'.out)⟩
end Go.Proofs.YtjhiihmibleecaaDoor.Dk
