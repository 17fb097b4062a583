/- What the frame of ManBack calls. -/
import Derived.Test.YtpolobklcgfciaaDoorManBackLaw
import Derived.Test.YtpolobklcgfciaaDoorManLaid
import Derived.Test.YtpolobklcgfciaaDoorInts
namespace Go.Proofs.YtpolobklcgfciaaDoor
open Go.RowKit

theorem u8_of {n : Int} (h : (Lit.int .u8 n).wf) : ∃ x : UInt8, n = (x.toNat : Int) := by
  have h1 : IntKind.u8.min ≤ n ∧ n ≤ IntKind.u8.max := by simpa [Lit.wf] using h
  have h2 : 0 ≤ n ∧ n ≤ 255 := h1
  exact ⟨UInt8.ofNat n.toNat, by rw [UInt8.toNat_ofNat']; omega⟩

theorem manBackW.walk (g la : Int) (A : Option Addr) (n c : Nat) (ss : List Int) (x : Int) (W : World) (hL : laidMetH Tryd.prog Ma.laidList W) (_w0 : (Lit.int .i64 g).wf) (_w1 : (Lit.int .i64 la).wf)
    (hI : Rd W A n c (ss.map (Value.int .i64))) (_hz : ∀ z ∈ ss, (Lit.int .i64 z).wf = true) (wx : (Lit.int .u8 x).wf) :
    Calls Tryd.prog 3 #[.agg #[.int .i64 g, .int .i64 la, .slice A n c], .int .u8 x] W fun e w' => e = .returned (.bool true) ∧ Below W.heap.size W w' := by
  obtain ⟨x, rfl⟩ := u8_of wx
  exact Ma.back_law g la A n c ss x W (Ma.tens_of_laid hL) hI
end Go.Proofs.YtpolobklcgfciaaDoor
