/- The newest manifest: from the back, or from the front. Plain. -/
import Derived.Test.YtfdpnjebhllpkaaGreatDoorMMnCod
namespace Go.Proofs.YtfdpnjebhllpkaaGreatDoor.Mn
open Go Dk Ma

/-- The newest one of a row of files. -/
def NewL (l : Fs) (r : Option Mf) : Prop := match r with
  | none => ∀ p ∈ l, cand p.1 p.2.data = none
  | some m => (∃ p ∈ l, cand p.1 p.2.data = some m) ∧ ∀ q ∈ l, ∀ m', cand q.1 q.2.data = some m' → m'.1 ≤ m.1
def bestV (r : Option Mf) : Mf := r.getD (0, 0, [])

theorem cand_gen {x : Name} {b : List UInt8} {m : Mf} (h : cand x b = some m) : 1 ≤ m.1 := by
  obtain ⟨h1, _, _⟩ := cand_name h
  unfold okN at h1
  rw [decide_eq_true_eq] at h1
  omega
theorem NewL.new {fs : Fs} (hU : Up fs) : ∀ {r : Option Mf}, NewL fs r → New cod fs r
  | none, h => fun x f hf => h (x, f) (get_mem hf)
  | some m, ⟨⟨p, hp, hc⟩, h2⟩ => ⟨p.1, p.2, get_of_mem hU hp, hc, fun y g m' hg hm => h2 (y, g) (get_mem hg) m' hm⟩
theorem NewL.nil : NewL [] none := fun _ h => by cases h
theorem NewL.gen {l : Fs} : ∀ {r : Option Mf}, NewL l r → (0 < (bestV r).1 ↔ r.isSome = true) ∧ 0 ≤ (bestV r).1
  | none, _ => by simp [bestV]
  | some m, ⟨⟨p, _, hc⟩, _⟩ => by
    have := cand_gen hc
    simp [bestV]
    omega
/-- One file more, at the end. -/
theorem NewL.next {l : Fs} {p : Name × Fl} : ∀ {r : Option Mf}, NewL l r → NewL (l ++ [p]) (match cand p.1 p.2.data with | none => r | some m => if (bestV r).1 < m.1 then some m else r)
  | none, h => by
    cases hc : cand p.1 p.2.data with
    | none =>
      intro q hq
      rcases List.mem_append.1 hq with hq | hq
      · exact h q hq
      · rw [List.mem_singleton] at hq
        subst hq
        exact hc
    | some m =>
      have := cand_gen hc
      simp only
      rw [if_pos (show (bestV none).1 < m.1 by simp [bestV]; omega)]
      refine ⟨⟨p, by simp, hc⟩, fun q hq m' hm => ?_⟩
      rcases List.mem_append.1 hq with hq | hq
      · rw [h q hq] at hm
        cases hm
      · rw [List.mem_singleton] at hq
        subst hq
        rw [hc] at hm
        injection hm with hm
        rw [hm]
        exact Int.le_refl _
  | some m0, ⟨⟨p0, h0, hc0⟩, h2⟩ => by
    cases hc : cand p.1 p.2.data with
    | none =>
      refine ⟨⟨p0, List.mem_append_left _ h0, hc0⟩, fun q hq m' hm => ?_⟩
      rcases List.mem_append.1 hq with hq | hq
      · exact h2 q hq m' hm
      · rw [List.mem_singleton] at hq
        subst hq
        rw [hc] at hm
        cases hm
    | some m =>
      simp only
      have hb : (bestV (some m0)).1 = m0.1 := rfl
      rw [hb]
      by_cases hlt : m0.1 < m.1
      · rw [if_pos hlt]
        refine ⟨⟨p, by simp, hc⟩, fun q hq m' hm => ?_⟩
        rcases List.mem_append.1 hq with hq | hq
        · have := h2 q hq m' hm
          omega
        · rw [List.mem_singleton] at hq
          subst hq
          rw [hc] at hm
          injection hm with hm
          rw [hm]
          exact Int.le_refl _
      · rw [if_neg hlt]
        refine ⟨⟨p0, List.mem_append_left _ h0, hc0⟩, fun q hq m' hm => ?_⟩
        rcases List.mem_append.1 hq with hq | hq
        · exact h2 q hq m' hm
        · rw [List.mem_singleton] at hq
          subst hq
          rw [hc] at hm
          injection hm with hm
          rw [← hm]
          omega
/-- From the back: the first one that is one. -/
theorem newL_back {fs : Fs} (hU : Up fs) {k : Nat} {p : Name × Fl} {m : Mf} (hp : fs[k]? = some p) (hc : cand p.1 p.2.data = some m) (hno : ∀ j q, k < j → fs[j]? = some q → cand q.1 q.2.data = none) : NewL fs (some m) := by
  refine ⟨⟨p, List.mem_of_getElem? hp, hc⟩, fun q hq m' hm => ?_⟩
  obtain ⟨j, hj⟩ := List.mem_iff_getElem?.1 hq
  rcases Nat.lt_trichotomy j k with h | h | h
  · have hpw := List.pairwise_iff_getElem.1 hU
    obtain ⟨hj1, hj2⟩ := List.getElem?_eq_some_iff.1 hj
    obtain ⟨hk1, hk2⟩ := List.getElem?_eq_some_iff.1 hp
    have hb := hpw j k hj1 hk1 h
    rw [hj2, hk2] at hb
    have : m'.1 < m.1 := good.rise _ _ _ _ _ _ hm hc hb
    omega
  · subst h
    rw [hp] at hj
    injection hj with hj
    subst hj
    rw [hc] at hm
    injection hm with hm
    rw [hm]
    exact Int.le_refl _
  · rw [hno j q h hj] at hm
    cases hm
end Go.Proofs.YtfdpnjebhllpkaaGreatDoor.Mn
