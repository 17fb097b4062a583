/- The walks of the layer utf, second part: with what a name begins. -/
import Derived.Test.YtfbhcjjnkahmhaaDoorUtfWalk
namespace Go.Proofs.YtfbhcjjnkahmhaaDoor.UtfW
open Go.RowKit

def inb (a b r : Int) : Bool := decide (a ≤ r ∧ r ≤ b)
theorem in_any' (r a b : Int) (w : World) :
    Calls Tryd.prog 33 #[.int .i32 r, .int .i32 a, .int .i32 b] w fun e w' => e = .returned (.bool (inb a b r)) ∧ w' = w := in_any r a b w

def Begins (r : Int) : Bool := inb 65 90 r || (r == 95) || inb 97 122 r || inb 192 214 r || inb 216 246 r || inb 248 767 r || inb 880 893 r || inb 895 8191 r || inb 8204 8205 r || inb 8304 8591 r || inb 11264 12271 r || inb 12289 55295 r || inb 63744 64975 r || inb 65008 65533 r || inb 65536 983039 r

set_option maxHeartbeats 1000000 in
theorem refbegins_any (r : Int) (w : World) :
    Calls Tryd.prog 18 #[.int .i32 r] w fun e w' => e = .returned (.bool (Begins r)) ∧ w' = w := by
  go_enter Tryd.func18, Tryd.ntmps18
  go_wp2_with (go_at_call 33; refine (in_any' _ _ _ _).mono ?_; rintro e w' ⟨rfl, rfl⟩)
  all_goals go_ret
  all_goals refine ⟨ret_bool ?_, rfl⟩
  all_goals unfold Begins
  all_goals simp_all

def GoesOn (r : Int) : Bool := Begins r || (r == 45) || (r == 46) || inb 48 57 r || (r == 183) || inb 768 879 r || (r == 8255) || (r == 8256)

set_option maxHeartbeats 1000000 in
theorem refgoeson_any (r : Int) (w : World) :
    Calls Tryd.prog 20 #[.int .i32 r] w fun e w' => e = .returned (.bool (GoesOn r)) ∧ w' = w := by
  go_enter Tryd.func20, Tryd.ntmps20
  go_wp2_with (first | (go_at_call 33; refine (in_any' _ _ _ _).mono ?_; rintro e w' ⟨rfl, rfl⟩) | (go_at_call 18; refine (refbegins_any _ _).mono ?_; rintro e w' ⟨rfl, rfl⟩))
  all_goals go_ret
  all_goals refine ⟨ret_bool ?_, rfl⟩
  all_goals unfold GoesOn
  all_goals simp_all
end Go.Proofs.YtfbhcjjnkahmhaaDoor.UtfW
