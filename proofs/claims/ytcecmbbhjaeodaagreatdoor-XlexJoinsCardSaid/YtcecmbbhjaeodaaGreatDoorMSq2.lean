/- Pieces of slices of structs. No program stands here. -/
import Derived.Test.YtcecmbbhjaeodaaGreatDoorMRowS
namespace Go.Proofs.YtcecmbbhjaeodaaGreatDoor
open Go.RowKit

theorem Sq.cut {α : Type} {El : World → List Value → α → Prop} {k : Nat} {w : World} {A : Option Addr} {n c : Nat} {l : List α} (h : Sq El k w A n c l) (lo hi : Nat) (h1 : lo ≤ hi) (h2 : hi ≤ n) (A' : Option Addr)
    (hA : ∀ b off, A = some ⟨b, off, none⟩ → lo < c → A' = some ⟨b, off + lo * k, none⟩) (hA1 : A ≠ none → A' ≠ none) :
    Sq El k w A' (hi - lo) (c - lo) ((l.drop lo).take (hi - lo)) := by
  have hl := h.len
  have hle := h.le
  have hm := h.max
  refine ⟨by simp; omega, by omega, by omega, fun h0 => ?_, fun hn => ?_⟩
  · have hAn : A = none := by
      apply Classical.byContradiction
      intro hne
      exact hA1 hne h0
    have := h.nil hAn
    omega
  · obtain ⟨b, off, rfl, hb, hc⟩ := h.cell (by omega)
    refine ⟨b, off + lo * k, hA b off rfl (by omega), hb, fun i x hx => ?_⟩
    rw [List.getElem?_take] at hx
    split at hx
    · rw [List.getElem?_drop] at hx
      obtain ⟨vs, g1, g2, g3⟩ := hc (lo + i) x hx
      refine ⟨vs, g1, g2, fun j v hv => ?_⟩
      have := g3 j v hv
      rw [Nat.add_mul, ← Nat.add_assoc] at this
      exact this
    · cases hx
theorem Sq.empty_ {α : Type} {El : World → List Value → α → Prop} {k : Nat} {w : World} {A : Option Addr} {c : Nat} (hc : c ≤ 9223372036854775807) (h : A = none → c = 0) : Sq El k w A 0 c [] :=
  ⟨rfl, by omega, hc, fun h0 => ⟨rfl, h h0⟩, fun h => absurd h (by omega)⟩
end Go.Proofs.YtcecmbbhjaeodaaGreatDoor
