/- The walks of the layer utf, first part: single runes. -/
import Derived.Test.YthiikldjngamaaaDoorUtfMath
import Derived.Test.YthiikldjngamaaaDoorProg
import Derived.Test.YthiikldjngamaaaDoorWords
import Derived.WalkKit
namespace Go.Proofs.YthiikldjngamaaaDoor.UtfW
open Go.RowKit

theorem char_any (r : Int) (w : World) :
    Calls Tryd.prog 28 #[.int .i32 r] w fun e w' => e = .returned (.bool (Utf.Char r)) ∧ w' = w := by
  go_enter Tryd.func28, Tryd.ntmps28
  go_wp2
  all_goals go_ret
  all_goals refine ⟨ret_bool ?_, rfl⟩
  all_goals (try simp only [Bool.or_eq_true, beq_iff_eq, Bool.or_eq_false_iff, beq_eq_false_iff_ne, ne_eq] at *)
  all_goals unfold Utf.Char
  all_goals rw [Bool.eq_iff_iff]
  all_goals (try simp only [Bool.or_eq_true, decide_eq_true_eq, beq_iff_eq, true_iff, iff_true, Bool.false_eq_true, false_iff])
  all_goals omega

theorem refchar_any (r : Int) (w : World) :
    Calls Tryd.prog 26 #[.int .i32 r] w fun e w' => e = .returned (.bool (Utf.Char r)) ∧ w' = w := by
  go_enter Tryd.func26, Tryd.ntmps26
  go_wp2
  all_goals go_ret
  all_goals refine ⟨ret_bool ?_, rfl⟩
  all_goals (try simp only [Bool.or_eq_true, beq_iff_eq, Bool.or_eq_false_iff, beq_eq_false_iff_ne, ne_eq] at *)
  all_goals unfold Utf.Char
  all_goals rw [Bool.eq_iff_iff]
  all_goals (try simp only [Bool.or_eq_true, decide_eq_true_eq, beq_iff_eq, true_iff, iff_true, Bool.false_eq_true, false_iff])
  all_goals omega

/-- Whether a rune is a blank. -/
def Blank (r : Int) : Bool := decide (r = 9 ∨ r = 10 ∨ r = 13 ∨ r = 32)

theorem blank_any (r : Int) (w : World) :
    Calls Tryd.prog 29 #[.int .i32 r] w fun e w' => e = .returned (.bool (Blank r)) ∧ w' = w := by
  go_enter Tryd.func29, Tryd.ntmps29
  go_wp2
  all_goals go_ret
  all_goals refine ⟨ret_bool ?_, rfl⟩
  all_goals (try simp only [Bool.or_eq_true, beq_iff_eq, Bool.or_eq_false_iff, beq_eq_false_iff_ne, ne_eq] at *)
  all_goals unfold Blank
  all_goals rw [Bool.eq_iff_iff]
  all_goals (try simp only [Bool.or_eq_true, decide_eq_true_eq, beq_iff_eq, true_iff, iff_true, Bool.false_eq_true, false_iff])
  all_goals omega


end Go.Proofs.YthiikldjngamaaaDoor.UtfW
