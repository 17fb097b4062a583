/- Numbers as texts: strconv.Itoa by the library's contract; eight digits. -/
import Derived.Shelf.Strconv.Itoa3
import Derived.Shelf.Lay
import Derived.Ground.NamesProg
import Derived.Test.YtfdpnjebhllpkaaGreatDoorProg
import Derived.Test.YtfdpnjebhllpkaaGreatDoorMStrLaws
import Derived.WalkKit
import Derived.Below
import Derived.Lib.AppendIntMem
import Derived.Lib.SmallJoins
import Derived.Lib.ItoaLen
import Derived.Laws.Concat
namespace Go.Proofs
open Go.Shelf Go.RowKit

shelf_lay LaysM.n171 Nm 171 at Tryz as Tryz.lays171

end Go.Proofs
namespace Go.Proofs.YtfdpnjebhllpkaaGreatDoor.Nu
open Go.RowKit Go.Shelf

/-- What the library's table of tens holds. -/
def Tens (w : World) : Prop := Lib.TabBelow Tryz.prog w.heap.size w "internal/strconv.uint64pow10" .u64 Lib.pow10Tab

theorem Tens.below {w w' : World} (h : Tens w) (hb : Below w.heap.size w w') : Tens w' := fun w'' h' => h w'' (hb.trans (h'.mono hb.size))
theorem Tens.of_tab {w : World} (h : Lib.TabIs Tryz.prog w "internal/strconv.uint64pow10" .u64 Lib.pow10Tab) : Tens w := Lib.tabBelow_of_tabIs h

theorem strconv_Itoa (n : Int) (h0 : -9223372036854775808 ≤ n) (h1 : n ≤ 9223372036854775807) (w : World) (htab : Tens w) :
    Calls Tryz.prog 65 #[.int .i64 n] w fun e w' => e = .returned (.string (strOf (Lib.itoa n))) ∧ Below w.heap.size w w' := by
  refine (Any.strconv_Itoa Tryz.lays171 n h0 h1 w htab.here).mono ?_
  rintro e w' ⟨rfl, k, os, rfl⟩
  exact ⟨rfl, Lib.below_grow _ _ (Nat.le_refl _) _ _⟩

theorem itoa_nat (n : Nat) : Lib.itoa (n : Int) = Lib.decDigits n := by
  unfold Lib.itoa
  rw [if_neg (by omega)]
  rfl

/-- The last k digits. -/
def digitsK : Nat → Nat → List UInt8
  | 0, _ => []
  | k + 1, n => digitsK k (n / 10) ++ [UInt8.ofNat (48 + n % 10)]

theorem digitsK_len (k n : Nat) : (digitsK k n).length = k := by
  induction k generalizing n with
  | zero => rfl
  | succ k ih => simp [digitsK, ih]

theorem digitsK_zero (k : Nat) : digitsK k 0 = List.replicate k 48 := by
  induction k with
  | zero => rfl
  | succ k ih =>
    rw [digitsK, show 0 / 10 = 0 from rfl, ih, List.replicate_succ']
    rfl

theorem pad_digits : ∀ k n, 1 ≤ n → n < 10 ^ k → (Lib.decDigits n).length ≤ k ∧ List.replicate (k - (Lib.decDigits n).length) 48 ++ Lib.decDigits n = digitsK k n := by
  intro k
  induction k with
  | zero =>
    intro n h1 h2
    simp at h2
    omega
  | succ k ih =>
    intro n h1 h2
    rw [Lib.decDigits]
    by_cases h : n < 10
    · rw [dif_pos h, digitsK, show n / 10 = 0 by omega, digitsK_zero, Nat.mod_eq_of_lt h]
      exact ⟨by simp, by simp⟩
    · obtain ⟨i1, i2⟩ := ih (n / 10) (by omega) (by rw [Nat.pow_succ] at h2; omega)
      rw [dif_neg h, digitsK, ← i2]
      refine ⟨by simp; omega, ?_⟩
      rw [List.length_append, List.append_assoc]
      congr 2
      simp

/-- A number in eight digits. -/
def eight (n : Nat) : List UInt8 := digitsK 8 n

theorem eight_len (n : Nat) : (eight n).length = 8 := digitsK_len 8 n

theorem eight_pad {n : Nat} (h1 : 1 ≤ n) (h2 : n ≤ 99999999) : (List.replicate 8 48 ++ Lib.decDigits n).drop (Lib.decDigits n).length = eight n := by
  obtain ⟨i1, i2⟩ := pad_digits 8 n h1 (by omega)
  unfold eight
  rw [← i2, List.drop_append_of_le_length (by simpa using i1), List.drop_replicate]
end Go.Proofs.YtfdpnjebhllpkaaGreatDoor.Nu
