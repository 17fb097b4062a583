/- Rows of records of the call's own, which stay whatever is done to disks. -/
import Derived.Test.YtfdpnjebhllpkaaGreatDoorMDkMay
import Derived.Test.YtfdpnjebhllpkaaGreatDoorMDkRa
import Derived.Test.YtfdpnjebhllpkaaGreatDoorMFrameOps2
namespace Go.Proofs.YtfdpnjebhllpkaaGreatDoor.Sg
open Go.RowKit Dk

/-- A record's cell, its bytes in memory of the call's own. -/
def RcEl (B : Nat) (w : World) (vs : List Value) (r : List UInt8) : Prop := ∃ v, vs = [v] ∧ OwB w B 5 v r
theorem RcEl.one {B : Nat} (w : World) : ∀ (vs : List Value) (t : List UInt8), RcEl B w vs t → ∀ u ∈ vs, u.oneCell' = true := by
  rintro vs t ⟨v, rfl, h⟩ u hu
  obtain ⟨A, c, rfl, _⟩ := OwB.slice h
  rw [List.mem_singleton.1 hu]
  rfl
theorem RcEl.kept {B : Nat} {w w' : World} {row : Option Nat} (hg : w.grownBy w' row) (hn : NoE 5 w row) : ∀ vs x, RcEl B w vs x → RcEl B w' vs x := by
  rintro vs x ⟨v, rfl, h2⟩
  exact ⟨v, rfl, row_kept h2 hg hn⟩
theorem RcEl.below {B : Nat} {w w' : World} (hb : Below w.heap.size w w') : ∀ vs x, RcEl B w vs x → RcEl B w' vs x := RcEl.kept (grown_of_below hb) NoE.none
theorem RcEl.fm {B : Nat} {w w' : World} (hb : Fm w w') : ∀ vs x, RcEl B w vs x → RcEl B w' vs x := by
  rintro vs x ⟨v, rfl, h2⟩
  exact ⟨v, rfl, hb.owb h2⟩
theorem RcEl.rm {B : Nat} {w w' : World} (hb : Rm w w') : ∀ vs x, RcEl B w vs x → RcEl B w' vs x := by
  rintro vs x ⟨v, rfl, h2⟩
  exact ⟨v, rfl, hb.row h2 (by decide) (by decide)⟩
theorem RcEl.base {B B' : Nat} {w : World} (hB : B' ≤ B) : ∀ vs x, RcEl B w vs x → RcEl B' w vs x := by
  rintro vs x ⟨v, rfl, h2⟩
  exact ⟨v, rfl, OwB.base h2 hB⟩
abbrev OwR (w : World) (B : Nat) (v : Value) (ls : List (List UInt8)) : Prop := OwS (RcEl B) 1 w B 22 v ls
theorem OwR.below {w w' : World} {B : Nat} {v : Value} {l : List (List UInt8)} (h : OwR w B v l) (hb : Below w.heap.size w w') : OwR w' B v l := OwS.below h hb (RcEl.below hb)
theorem OwR.fm {w w' : World} {B : Nat} {v : Value} {l : List (List UInt8)} (h : OwR w B v l) (hb : Fm w w') : OwR w' B v l := ows_fm h hb (by decide) (by decide) (RcEl.fm hb)
theorem OwR.rm {w w' : World} {B : Nat} {v : Value} {l : List (List UInt8)} (h : OwR w B v l) (hb : Rm w w') : OwR w' B v l := by
  obtain ⟨xs, h3, h4⟩ := h
  exact ⟨xs, hb.row h3 (by decide) (by decide), h4.mono (RcEl.rm hb)⟩
theorem OwR.base {w : World} {B B' : Nat} {v : Value} {l : List (List UInt8)} (h : OwR w B v l) (hB : B' ≤ B) : OwR w B' v l := by
  obtain ⟨xs, h1, h2⟩ := h
  exact ⟨xs, ownsRow_base h1 hB, h2.mono (RcEl.base hB)⟩
theorem OwR.bsl {w : World} {B n c : Nat} {A : Option Addr} {ls : List (List UInt8)} (h : OwR w B (.slice A n c) ls) : BsL w A n c ls := by
  obtain ⟨xs, h1, h2⟩ := h
  have hn : n = ls.length := by
    rcases h1.2 with ⟨hv, h0⟩ | ⟨g, cap, cur, hv, _⟩
    · injection hv with _ h2 _; omega
    · injection hv
  subst hn
  refine ⟨xs, rd_of_own h1, rfl, fun j u hu => ?_⟩
  have hj : j < ls.length := by
    have := (List.getElem?_eq_some_iff.1 hu).1
    have := h2.len
    omega
  obtain ⟨vs, hk, ⟨v, rfl, ho⟩, hc⟩ := h2.at_ (List.getElem?_eq_getElem hj)
  have h0 := hc 0 v rfl
  rw [Nat.mul_one, Nat.add_zero, hu] at h0
  injection h0 with h0
  subst h0
  obtain ⟨A', c', rfl, hbs⟩ := OwB.slice ho
  exact ⟨_, List.getElem?_eq_getElem hj, El.of_bs hbs⟩
end Go.Proofs.YtfdpnjebhllpkaaGreatDoor.Sg
