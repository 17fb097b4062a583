/- How large a disk may be, behind what segments and manifests do to it. -/
import Derived.Test.YtfdpnjebhllpkaaGreatDoorMDkMay
import Derived.Test.YtfdpnjebhllpkaaGreatDoorMMnMath
namespace Go.Proofs.YtfdpnjebhllpkaaGreatDoor.Sg
open Go Dk

structure Bd (d : D) (N U : Nat) : Prop where
  inv : Dk.Inv d
  ops : d.ops ≤ N
  tr : d.tr.length ≤ 1000
  used : Dk.used d.fs ≤ U
  room : d.room ≤ 9223372036854775807

section
variable {d : D} {N U N' U' : Nat}
theorem Bd.mono (h : Bd d N U) (hN : N ≤ N') (hU : U ≤ U') : Bd d N' U' := ⟨h.inv, Nat.le_trans h.ops hN, h.tr, Nat.le_trans h.used hU, h.room⟩
theorem Bd.good (h : Bd d N U) (hN : N ≤ 1000) (hU : U ≤ 1000000) : Dk.Good d 1000 1000 1000000 := ⟨h.inv, Nat.le_trans h.ops hN, h.tr, Nat.le_trans h.used hU⟩
theorem Bd.op (h : Bd d N U) (k : Nat) (nm nt : Name) (n : Int) (b : List UInt8) : Bd (Dk.op d k nm nt n b).2 (N + 1) (U + b.length) := by
  obtain ⟨h1, h2, h3⟩ := op_ops d k nm nt n b
  have h4 := used_op h.inv k nm nt n b
  exact ⟨inv_op h.inv .., by have := h.ops; omega, by rw [h2]; exact h.tr, by have := h.used; omega, by rw [h3]; exact h.room⟩
theorem Bd.op0 (h : Bd d N U) (k : Nat) (nm nt : Name) (n : Int) : Bd (Dk.op d k nm nt n []).2 (N + 1) U := h.op k nm nt n []
theorem Bd.appB (h : Bd d N U) (nm : Name) (b : List UInt8) : Bd (Sg.appB d nm b).2 (N + 2) (U + b.length) := by
  unfold Sg.appB
  split
  · exact (h.op 2 nm [] 0 b).op0 ..
  · exact (h.op 2 nm [] 0 b).mono (by omega) (by omega)
theorem Bd.create (h : Bd d N U) (nm : Name) (hd : List UInt8) : Bd (Sg.create d nm hd).2 (N + 4) (U + hd.length) := by
  unfold Sg.create
  split
  · exact (h.op0 ..).mono (by omega) (by omega)
  · have h1 := (h.op0 1 nm [] 0).appB nm hd
    unfold createC
    split
    · exact (h1.op0 ..).mono (by omega) (by omega)
    · exact h1.mono (by omega) (by omega)
theorem Bd.append (h : Bd d N U) (nm : Name) (s : S) (l : List (List UInt8)) : Bd (Sg.append d nm s l).2 (N + 3) (U + (Fr.puts l).length) ∧ (Sg.append d nm s l).1.2.size ≤ s.size + (Fr.puts l).length := by
  unfold Sg.append
  split
  · exact ⟨h.mono (by omega) (by omega), by simp⟩
  split
  · exact ⟨h.mono (by omega) (by omega), by simp⟩
  · have h1 := h.appB nm (Fr.puts l)
    unfold appC
    split
    · exact ⟨(h1.op0 ..).mono (by omega) (by omega), by simp [undo]⟩
    · exact ⟨h1.mono (by omega) (by omega), by simp⟩
theorem scan_good (hd b : List UInt8) : (scan hd b).2.1 ≤ b.length := by
  unfold scan
  split
  · exact Nat.zero_le _
  split
  · exact Nat.zero_le _
  · have := Fr.all_le (b.drop 12)
    rw [List.length_drop] at this
    simp only
    omega
theorem len_le_used_ {fs : Fs} {nm : Name} {f : Fl} (h : get fs nm = some f) : f.data.length ≤ Dk.used fs := len_le_used (get_mem h)
theorem Bd.open_ (h : Bd d N U) (nm : Name) (hd : List UInt8) : Bd (Sg.open_ d nm hd).2 (N + 2) U ∧ (Sg.open_ d nm hd).1.2.2 ≤ U := by
  unfold Sg.open_
  cases hf : get d.fs nm with
  | none => exact ⟨h.mono (by omega) (Nat.le_refl _), Nat.zero_le _⟩
  | some f =>
    have hl := len_le_used_ hf
    have hg := scan_good hd f.data
    have hu := h.used
    simp only
    unfold openS
    split
    · exact ⟨h.mono (by omega) (Nat.le_refl _), Nat.zero_le _⟩
    · have h1 : Bd (openA d nm (scan hd f.data)).2 (N + 1) U := by
        unfold openA
        split
        · exact h.op0 ..
        · exact h.mono (by omega) (Nat.le_refl _)
      have h2 : Bd (openB (openA d nm (scan hd f.data)) nm).2 (N + 2) U := by
        unfold openB
        split
        · exact h1.op0 ..
        · exact h1.mono (by omega) (Nat.le_refl _)
      unfold openC
      split
      · exact ⟨h2, Nat.zero_le _⟩
      · exact ⟨h2, by simp only; omega⟩
theorem Bd.crash (h : Bd d N U) (tails : List Int) : Bd (Dk.crash d tails) N U :=
  ⟨inv_crash h.inv tails, h.ops, Nat.zero_le _, Nat.le_trans (crashF_used tails 0 d.fs h.inv.safe) h.used, h.room⟩
theorem Bd.arm (h : Bd d N U) (tr : List Tr) (ht : tr.length ≤ 1000) : Bd (Dk.arm d tr) 0 U := ⟨h.inv.ops_ 0 d.down tr, Nat.zero_le _, ht, h.used, h.room⟩
theorem Bd.new (room : Int) (hr : room ≤ 9223372036854775807) : Bd (Dk.new room) 0 0 := ⟨inv_new room, Nat.le_refl _, Nat.zero_le _, Nat.le_refl _, by show room.toNat ≤ _; omega⟩
theorem Bd.write (h : Bd d N U) (b : List UInt8) (nm : Name) : Bd (Mn.write d b nm).2 (N + 5) (U + b.length) := by
  have hs : ∀ {d : D} {N U : Nat}, Bd d N U → Bd (Mn.runW (Mn.wOps b nm) d).2 (N + 4) (U + b.length) := by
    intro d N U h
    unfold Mn.wOps Mn.runW
    simp only
    split
    · exact (h.op0 ..).mono (by omega) (by omega)
    have h1 := h.op0 1 Mn.tmp [] 0
    unfold Mn.runW
    simp only
    split
    · exact (h1.op ..).mono (by omega) (by omega)
    have h2 := h1.op 2 Mn.tmp [] 0 b
    unfold Mn.runW
    simp only
    split
    · exact (h2.op0 ..).mono (by omega) (by omega)
    have h3 := h2.op0 4 Mn.tmp [] 0
    unfold Mn.runW
    simp only
    split
    · exact (h3.op0 ..).mono (by omega) (by omega)
    · unfold Mn.runW
      exact (h3.op0 ..).mono (by omega) (by omega)
  unfold Mn.write Mn.dOps
  split
  · rw [List.cons_append, List.nil_append]
    unfold Mn.runW
    simp only
    split
    · exact (h.op0 ..).mono (by omega) (by omega)
    · exact (hs (h.op0 6 Mn.tmp [] 0)).mono (by omega) (by omega)
  · exact (hs h).mono (by omega) (by omega)
theorem Bd.clean : ∀ (l : List Name) {d : D} {N : Nat}, Bd d N U → Bd (Mn.clean l d).2 (N + l.length) U
  | [], _, _, h => h
  | x :: l, d, N, h => by
    unfold Mn.clean
    have h1 := h.op0 6 x [] 0
    split
    · exact h1.mono (by rw [List.length_cons]; omega) (Nat.le_refl _)
    · exact (Bd.clean l h1).mono (by rw [List.length_cons]; omega) (Nat.le_refl _)
end
end Go.Proofs.YtfdpnjebhllpkaaGreatDoor.Sg
