/- Of what is read: its place, its bounds. No program stands here. -/
import Derived.Test.YtjofkodncplhaaaGreatDoorMKyPcs
namespace Go.Proofs.YtjofkodncplhaaaGreatDoor.Ky
section
variable {nm : Tx → Bool}
theorem parse_at : ∀ {l : List Tx} {n : Nat} {out : List Rl}, (parseL nm l n out).2.1 = 0 → (parseL nm l n out).2.2 = 0
  | [], n, out, h => by
    rw [parseL] at h ⊢
    split
    · rfl
    · rfl
  | s :: l, n, out, h => by
    rw [parseL] at h ⊢
    split
    · rename_i h1
      rw [if_pos h1] at h
      exact parse_at h
    · rename_i h1
      rw [if_neg h1] at h
      cases hx : lineR nm (trim s) with
      | none => rw [hx] at h; cases h
      | some x =>
        rw [hx] at h
        simp only at h ⊢
        split
        · rename_i h2; rw [if_pos h2] at h; cases h
        · rename_i h2
          rw [if_neg h2] at h
          split
          · rename_i h3
            rw [if_pos h3] at h
            exact parse_at h
          · rename_i h3; rw [if_neg h3] at h; cases h
theorem parse_small {M : Nat} : ∀ {l : List Tx} {n : Nat} {out : List Rl}, (∀ x ∈ l, x.length ≤ M) → (∀ r ∈ out, Smr M r) → ∀ r ∈ (parseL nm l n out).1, Smr M r
  | [], n, out, _, ho => by
    rw [parseL]
    split
    · intro r hr; cases hr
    · exact ho
  | s :: l, n, out, hl, ho => by
    rw [parseL]
    have hl2 : ∀ x ∈ l, x.length ≤ M := fun x hx => hl x (List.mem_cons_of_mem _ hx)
    split
    · exact parse_small hl2 ho
    · cases hx : lineR nm (trim s) with
      | none => intro r hr; cases hr
      | some x =>
        simp only
        split
        · intro r hr; cases hr
        · split
          · refine parse_small hl2 fun r hr => ?_
            rcases List.mem_append.1 hr with hr | hr
            · exact ho r hr
            · rw [List.mem_singleton.1 hr]
              have h1 := line_small nm hx
              have h2 := trim_small s
              have h3 := hl s (List.mem_cons_self ..)
              exact ⟨by have := h1.1; omega, by have := h1.2.1; omega, fun t ht => by have := h1.2.2.1 t ht; omega, fun t ht => by have := h1.2.2.2 t ht; omega⟩
          · intro r hr; cases hr
end
end Go.Proofs.YtjofkodncplhaaaGreatDoor.Ky
