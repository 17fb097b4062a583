/- The plain laws of key specifications: what is written is read as it; frontiers. No program stands here. -/
import Derived.Test.YtdnfnkicmfkkmaaGreatDoorVKyMath
set_option linter.unusedVariables false
set_option linter.unusedSimpArgs false
namespace Go.Proofs.YtdnfnkicmfkkmaaGreatDoor.Ky
def okb (b : UInt8) : Bool := !([47, 123, 125, 44, 32, 9, 10, 13, 35, 64].contains b)
def Names (nm : Tx -> Bool) : Prop := ∀ s, nm s = true -> s ≠ [] /\ ∀ b ∈ s, okb b = true
theorem ok_ne {b : UInt8} (h : okb b = true) : b ≠ 47 /\ b ≠ 123 /\ b ≠ 125 /\ b ≠ 44 /\ b ≠ 10 /\ b ≠ 35 /\ b ≠ 64 /\ b ≠ 13 /\ blank b = false := by
 unfold okb at h;simp only [List.contains_cons, List.contains_nil, Bool.or_false, Bool.not_eq_true', Bool.or_eq_false_iff, beq_eq_false_iff_ne] at h;obtain ⟨h1, h2, h3, h4, h5, h6, h7, h8, h9, h10⟩ := h;refine ⟨h1, h2, h3, h4, h7, h9, h10, h8, ?_⟩;unfold blank;simp [h5, h6, h7, h8]
theorem strip_ways (x : Tx) : (∃ r, x = 64 :: r /\ strip x = r) \/ strip x = x := by
 unfold strip
 split
 ·exact .inl ⟨_, rfl, rfl⟩
 ·exact .inr rfl
section
variable {nm : Tx -> Bool} (hn : Names nm)
include hn
/-! ### What is written is read -/
omit hn in
theorem mayP_rules : ∀ {l acc : List Rl}, mayP nm acc l = true -> ∀ r ∈ l, ruleB nm r = true
 | [], _, _, r, hr => by cases hr
 | x :: l, acc, h, r, hr => by
  rw [mayP, Bool.and_eq_true, Bool.and_eq_true] at h;rcases List.mem_cons.1 hr with rfl | hr
  ·exact h.1.1
  ·exact mayP_rules h.2 r hr
/-! ### Frontiers -/
omit hn in
theorem has_iff {l : List Rl} {p : List Tx} : hasB l p = true ↔ ∃ r ∈ l, r.1 = p := by
 unfold hasB;rw [List.any_eq_true];exact ⟨fun ⟨r, h1, h2⟩ => ⟨r, h1, of_decide_eq_true h2⟩, fun ⟨r, h1, h2⟩ => ⟨r, h1, decide_eq_true h2⟩⟩
end
end Go.Proofs.YtdnfnkicmfkkmaaGreatDoor.Ky
