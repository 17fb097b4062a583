/- A plan's step by a law on a list of operations. -/
import Derived.Test.YtfdpnjebhllpkaaGreatDoorMPlan
import Derived.Tactics
namespace Go.Proofs.YtfdpnjebhllpkaaGreatDoor.Pl
open Go

section
variable {P : Program} {ops : Array Oper} {Q Q' : Exit → Act → World → Prop} {o : Oper} {a : Act} {w : World} {K : Act → World → Prop}

/-- What follows is K; nothing is outgrown. -/
def QK (K : Act → World → Prop) (Q : Exit → Act → World → Prop) : Exit → Act → World → Prop
  | .normal, a, w => K a w
  | .panic c, a, w => Q (.panic c) a w
  | _, _, _ => False

theorem letsOut_QK : ¬ LetsOut (QK K Q) := by
  rintro ⟨a, w, h⟩
  exact h

theorem wp_of_QK (h : o.wp P a w K (QK K Q)) : o.wp P a w K Q := by
  unfold Oper.wp at *
  generalize (execOp a.eval o).run P w = r at *
  cases r with
  | ok n w' =>
    cases n <;> simp only [Oper.upon] at h ⊢ <;> first
      | exact h
      | (refine Calls.mono h fun e w'' he => ?_
         cases e with
         | returned v => exact he
         | panicked c => exact he
         | outgrown => exact (letsOut_QK he).elim)
  | halt x w' => cases x <;> simp only [Oper.upon] at h ⊢ <;> exact h

theorem runs_of_list (h : wpList P ops (QK K Q) [o] a w) : if Region.wanted o (yielded ops a.tmps) = true then Oper.wp P o a w K Q else K (a.put o.dst undef) w := by
  unfold wpList at h
  split
  · rename_i hw
    rw [if_pos hw] at h
    rcases h with h | ⟨_, h⟩
    · exact wp_of_QK h
    · exact (letsOut_QK h).elim
  · rename_i hw
    rw [if_neg hw] at h
    exact h

theorem run_list {T : Act → World → Prop} {S : World → Prop} {p : Plan (Option Oper)} (h : ∀ K' : Act → World → Prop, Shut (∀ a w, More S (wpPlan P ops Q T p) a w → K' a w) → wpList P ops (QK K' Q) [o] a w) :
    wpPlan P ops Q T (.run (some o) p) S a w := run_go fun K hK => runs_of_list (h K hK)
end
end Go.Proofs.YtfdpnjebhllpkaaGreatDoor.Pl
