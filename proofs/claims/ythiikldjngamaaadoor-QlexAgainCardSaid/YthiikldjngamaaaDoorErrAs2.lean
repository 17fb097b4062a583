/- errors.as, the target **fault.wrapped. -/
import Derived.Test.YthiikldjngamaaaDoorErrAs
namespace Go.Proofs.YthiikldjngamaaaDoor.Er
open Go.RowKit Go.Extern.Stop Go.Stop Go.Extern

theorem frozen_set (w : World) (a b : Addr) (v : Value) : (w.setCell a v).frozen? b = w.frozen? b := by
  unfold World.frozen? World.setCell
  by_cases h : a.block = b.block
  · simp only [Array.getElem?_modify, h, if_true]
    cases w.heap[b.block]? with
    | none => rfl
    | some o => cases o <;> rfl
  · simp only [Array.getElem?_modify, h, if_false]


end Go.Proofs.YthiikldjngamaaaDoor.Er
