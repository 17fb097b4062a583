/- The walks of the layer utf, fourth part: GoesOn. -/
import Derived.Test.YthiikldjngamaaaDoorUtfWalk3
namespace Go.Proofs.YthiikldjngamaaaDoor.UtfW
open Go.RowKit

theorem anyIn_goesOn (r : Int) : (Begins r || anyIn goesOnL r) = GoesOn r := by
  have e1 : inb 45 46 r = (r == 45 || r == 46) := by
    rw [Bool.eq_iff_iff]
    simp [inb]
    omega
  have e2 : inb 183 183 r = (r == 183) := by
    rw [Bool.eq_iff_iff]
    simp [inb]
    omega
  have e3 : inb 8255 8256 r = (r == 8255 || r == 8256) := by
    rw [Bool.eq_iff_iff]
    simp [inb]
    omega
  unfold GoesOn
  simp [anyIn, goesOnL, e1, e2, e3, Bool.or_assoc]

theorem utfGoesOn_any (r : Int) (w : World) :
    Calls Tryd.prog 46 #[.int .i32 r] w fun e w' => e = .returned (.bool (GoesOn r)) ∧ Below w.heap.size w w' := by
  have hg := anyIn_goesOn r
  cases hB : Begins r with
  | true =>
    rw [hB, Bool.true_or] at hg
    rw [← hg]
    go_enter Tryd.func46, Tryd.ntmps46
    go_wp2_with fail
    refine (utfBegins_any _ _).mono ?_
    rw [hB]
    rintro e w1 ⟨rfl, hb⟩
    have hb' := Lib.hid hb
    clear hb hB hg
    go_wp2_with fail
    go_ret
    exact ⟨rfl, hb'⟩
  | false =>
    rw [hB, Bool.false_or] at hg
    have hg' := Lib.hid hg
    clear hg
    go_enter Tryd.func46, Tryd.ntmps46
    go_wp2_with fail
    refine (utfBegins_any _ _).mono ?_
    rw [hB]
    rintro e w1 ⟨rfl, hb⟩
    have hb' := Lib.hid hb
    clear hb hB
    go_wp2_with fail
    refine (goesOn_any _).mono ?_
    rintro e w2 ⟨b, rfl, hP, hb2⟩
    have hP' := Lib.hid hP
    have hb2' := Lib.hid (hb'.out.trans (hb2.mono hb'.out.size))
    clear hP hb2 hb'
    go_wp2_with fail
    refine (within_any r b 5 goesOnL rfl (by omega) _ hP'.out).mono ?_
    rintro e w3 ⟨rfl, hb3⟩
    have hb3' := Lib.hid (hb2'.out.trans (hb3.mono hb2'.out.size))
    clear hb3 hb2'
    rw [hg'.out]
    go_wp2_with fail
    go_ret
    exact ⟨rfl, hb3'⟩
end Go.Proofs.YthiikldjngamaaaDoor.UtfW
