/- The walks of the layer utf, first part: single runes. -/
import Derived.Test.YtfbhcjjnkahmhaaDoorUtfMath
import Derived.Test.YtfbhcjjnkahmhaaDoorProg
import Derived.Test.YtfbhcjjnkahmhaaDoorWords
import Derived.WalkKit
namespace Go.Proofs.YtfbhcjjnkahmhaaDoor.UtfW
open Go.RowKit

theorem char_any (r : Int) (w : World) :
    Calls Tryd.prog 13 #[.int .i32 r] w fun e w' => e = .returned (.bool (Utf.Char r)) ∧ w' = w := by
  go_enter Tryd.func13, Tryd.ntmps13
  go_wp2
  all_goals go_ret
  all_goals refine ⟨ret_bool ?_, rfl⟩
  all_goals (try simp only [Bool.or_eq_true, beq_iff_eq, Bool.or_eq_false_iff, beq_eq_false_iff_ne, ne_eq] at *)
  all_goals unfold Utf.Char
  all_goals rw [Bool.eq_iff_iff]
  all_goals (try simp only [Bool.or_eq_true, decide_eq_true_eq, beq_iff_eq, true_iff, iff_true, Bool.false_eq_true, false_iff])
  all_goals omega

theorem refchar_any (r : Int) (w : World) :
    Calls Tryd.prog 14 #[.int .i32 r] w fun e w' => e = .returned (.bool (Utf.Char r)) ∧ w' = w := by
  go_enter Tryd.func14, Tryd.ntmps14
  go_wp2
  all_goals go_ret
  all_goals refine ⟨ret_bool ?_, rfl⟩
  all_goals (try simp only [Bool.or_eq_true, beq_iff_eq, Bool.or_eq_false_iff, beq_eq_false_iff_ne, ne_eq] at *)
  all_goals unfold Utf.Char
  all_goals rw [Bool.eq_iff_iff]
  all_goals (try simp only [Bool.or_eq_true, decide_eq_true_eq, beq_iff_eq, true_iff, iff_true, Bool.false_eq_true, false_iff])
  all_goals omega

/-- Whether a rune is a blank. -/
def Blank (r : Int) : Bool := decide (r = 9 ∨ r = 10 ∨ r = 13 ∨ r = 32)

theorem blank_any (r : Int) (w : World) :
    Calls Tryd.prog 15 #[.int .i32 r] w fun e w' => e = .returned (.bool (Blank r)) ∧ w' = w := by
  go_enter Tryd.func15, Tryd.ntmps15
  go_wp2
  all_goals go_ret
  all_goals refine ⟨ret_bool ?_, rfl⟩
  all_goals (try simp only [Bool.or_eq_true, beq_iff_eq, Bool.or_eq_false_iff, beq_eq_false_iff_ne, ne_eq] at *)
  all_goals unfold Blank
  all_goals rw [Bool.eq_iff_iff]
  all_goals (try simp only [Bool.or_eq_true, decide_eq_true_eq, beq_iff_eq, true_iff, iff_true, Bool.false_eq_true, false_iff])
  all_goals omega

theorem refblank_any (r : Int) (w : World) :
    Calls Tryd.prog 16 #[.int .i32 r] w fun e w' => e = .returned (.bool (Blank r)) ∧ w' = w := by
  go_enter Tryd.func16, Tryd.ntmps16
  go_wp2
  all_goals go_ret
  all_goals refine ⟨ret_bool ?_, rfl⟩
  all_goals (try simp only [Bool.or_eq_true, beq_iff_eq, Bool.or_eq_false_iff, beq_eq_false_iff_ne, ne_eq] at *)
  all_goals unfold Blank
  all_goals rw [Bool.eq_iff_iff]
  all_goals (try simp only [Bool.or_eq_true, decide_eq_true_eq, beq_iff_eq, true_iff, iff_true, Bool.false_eq_true, false_iff])
  all_goals omega

theorem in_any (r a b : Int) (w : World) :
    Calls Tryd.prog 33 #[.int .i32 r, .int .i32 a, .int .i32 b] w fun e w' => e = .returned (.bool (decide (a ≤ r ∧ r ≤ b))) ∧ w' = w := by
  go_enter Tryd.func33, Tryd.ntmps33
  go_wp2
  all_goals go_ret
  all_goals refine ⟨ret_bool ?_, rfl⟩
  all_goals (try simp only [Bool.or_eq_true, beq_iff_eq, Bool.or_eq_false_iff, beq_eq_false_iff_ne, ne_eq] at *)
  all_goals rw [Bool.eq_iff_iff]
  all_goals (try simp only [Bool.or_eq_true, decide_eq_true_eq, beq_iff_eq, true_iff, iff_true, Bool.false_eq_true, false_iff])
  all_goals first | omega | (simp; omega) | (simp; done)
end Go.Proofs.YtfbhcjjnkahmhaaDoor.UtfW
