/- Proved: the statement of the law ManSwitches: whatever the input, the call returns true, and each argument reads afterwards as before. No condition. -/
import Derived.Test.YtfdpnjebhllpkaaGreatDoorMMnWalks2
import Derived.Test.YtfdpnjebhllpkaaGreatDoorMStrLaws
import Derived.ProofKit
import Derived.OpenShut
import Derived.ShutString
import Derived.ChangeOld
import Derived.Handed
import Derived.SevenTiedAt
import Derived.Test.YtfdpnjebhllpkaaGreatDoorCards
import Derived.Test.YtfdpnjebhllpkaaGreatDoorTie
import Derived.Test.YtfdpnjebhllpkaaGreatDoorMSgLaid
import Derived.Lib.SmallJoins
namespace Go.Proofs.YtfdpnjebhllpkaaGreatDoor.manSwitches
open Go.ChangeShapes Go.WideShapes Go.ChangeAt Go.RowKit
open Go.ChangeMaps (open_string shut_string)
set_option linter.unusedVariables false

theorem own : ownKnob Tryz.prog.godebug = none := by kernel_rfl
theorem laidOut : laidOutB Tryz.prog = true := by kernel_rfl

set_option maxRecDepth 100000 in
theorem lifted (os : Os) (started : os.Started) (H : Type) (enc : TypeId × Value → H) :
    ReturnsInHanded {} Tryz.checked os 9 .any (fun w args => (Rows.manSwitchesSpec.pre enc Tryz.prog Tryz.f9 Rows.manSwitchesRow.domain false w args ∧ laidMetH Tryz.prog Slm.laidList w) ∧ sizedMet enc Tryz.prog Tryz.f9 (OpenSpec.ofChange Rows.manSwitchesSpec) false w args) (Rows.manSwitchesSpec.post enc Tryz.prog Tryz.f9 false true false false) := by
  refine returnsInHanded_of_change_and (C := Tryz.checked) (X := fun w _ => laidMetH Tryz.prog Slm.laidList w) (fun _ _ _ hh h => h.of_heap hh) own started (by kernel_rfl) Tryz.func9
    (ChangeSpec.witness_at (enc := enc) (C := Tryz.checked) (os := os) (X := fun w _ => laidMetH Tryz.prog Slm.laidList w) false (Slm.laidWorld os) #[.agg #[.int .i64 0, .int .i64 0, .slice none 0 0], .agg #[.int .i64 0, .int .i64 0, .slice none 0 0], .agg #[.slice none 0 0, .slice none 0 0]] 8 rfl (by kernel_rfl) (by kernel_rfl) (by kernel_rfl) (by kernel_rfl) (by kernel_rfl) (Slm.laidWorld_met os _)) ?_
  intro W base args ds gs before hval0 hW hcnd hsz0 hL _
  have hval : ∀ (j : Nat) t v, Tryz.f9.params[j]? = some t → args[j]? = some v → Value.okWide Tryz.prog W .any base t v := hval0
  have hW' := hW
  obtain ⟨p, q, hA0, hV, rfl, hfz, hnd⟩ := hW
  have hA : DataW.TrodAll enc Tryz.prog W 0 (fun _ => true) true Tryz.f9.params.toList args.toList ds p := hA0
  have hsz : (DataW.weightsEach Tryz.prog (Tryz.f9.params.toList ++ Rows.manSwitchesSpec.plain.varTypes Tryz.prog) (ds ++ gs)).all (· ≤ reachBytes) = true := hsz0
  rw [Tryz.params9] at hA hval hsz
  obtain ⟨v0, vs0, d0, ds0, p0, q0, hargs, rfl, rfl, h0, r0⟩ := trodAll_cons hA
  obtain ⟨v1, vs1, d1, ds1, p1, q1, rfl, rfl, rfl, h1, r1⟩ := trodAll_cons r0
  obtain ⟨v2, vs2, d2, ds2, p2, q2, rfl, rfl, rfl, h2, r2⟩ := trodAll_cons r1
  obtain ⟨rfl, rfl, rfl⟩ := trodAll_nil r2
  obtain rfl : args = #[v0, v1, v2] := by cases args; simp_all
  obtain ⟨rfl, rfl⟩ := trodVars_none hV
  have k0 := h0
  have lt0 : ∀ x ∈ p0, x.block < W.heap.size := by obtain ⟨m, hm⟩ := k0; exact DataW.trod_lt m _ _ _ hm
  obtain ⟨c0_0, c1_0, c2_0, y0_0, y1_0, y2_0, m0, rfl, rfl, rfl, hy0_0, hy1_0, hy2_0⟩ := Joins.open_agg3 Tryz.underlying75 (by kernel_rfl) (by kernel_rfl) (hval 0 75 v0 rfl rfl) h0
  obtain ⟨a0, e0_0, rfl, w0_0⟩ := DataW.trod_int Tryz.underlying3 hy0_0
  obtain ⟨b0, e1_0, rfl, w1_0⟩ := DataW.trod_int Tryz.underlying3 hy1_0
  simp at e0_0 e1_0
  subst e0_0 e1_0
  obtain ⟨s0, n0, q0, l0, rfl, z0_0, z1_0⟩ := is_of_trod1 (k := .i64) Tryz.underlying37 Tryz.underlying3 (by kernel_rfl) hy2_0
  have k1 := h1
  have lt1 : ∀ x ∈ p1, x.block < W.heap.size := by obtain ⟨m, hm⟩ := k1; exact DataW.trod_lt m _ _ _ hm
  obtain ⟨c0_1, c1_1, c2_1, y0_1, y1_1, y2_1, m1, rfl, rfl, rfl, hy0_1, hy1_1, hy2_1⟩ := Joins.open_agg3 Tryz.underlying75 (by kernel_rfl) (by kernel_rfl) (hval 1 75 v1 rfl rfl) h1
  obtain ⟨a1, e0_1, rfl, w0_1⟩ := DataW.trod_int Tryz.underlying3 hy0_1
  obtain ⟨b1, e1_1, rfl, w1_1⟩ := DataW.trod_int Tryz.underlying3 hy1_1
  simp at e0_1 e1_1
  subst e0_1 e1_1
  obtain ⟨s1, n1, q1, l1, rfl, z0_1, z1_1⟩ := is_of_trod1 (k := .i64) Tryz.underlying37 Tryz.underlying3 (by kernel_rfl) hy2_1
  have k2 := h2
  have lt2 : ∀ x ∈ p2, x.block < W.heap.size := by obtain ⟨m, hm⟩ := k2; exact DataW.trod_lt m _ _ _ hm
  obtain ⟨s2, n2, q2, l2, s2', n2', q2', l2', rfl, z0_2, z1_2⟩ := Mn.tr2_of_trod (hval 2 91 v2 rfl rfl) h2 (sized_each hsz (j := 2) rfl rfl)
  clear hA0 hval0
  refine (manSwitchesW.walk a0 b0 s0 n0 q0 l0 a1 b1 s1 n1 q1 l1 s2 n2 q2 l2 s2' n2' q2' l2' W hL w0_0 w1_0 z0_0 z1_0 w0_1 w1_1 z0_1 z1_1 z0_2 z1_2).mono fun e W' ⟨he, bel⟩ => ?_
  subst he
  exact ⟨_, rfl, _, _, _, [], _, [], hW', trodAll_mk1 (shut_bool Tryz.underlying4 _), (trodAll_cons_mk (Below.trod laidOut (by kernel_rfl) (of_decide_eq_true (by kernel_rfl)) k0 bel lt0) (trodAll_cons_mk (Below.trod laidOut (by kernel_rfl) (of_decide_eq_true (by kernel_rfl)) k1 bel lt1) (trodAll_cons_mk (Below.trod laidOut (by kernel_rfl) (of_decide_eq_true (by kernel_rfl)) k2 bel lt2) trodAll_mk0))), rfl, bel.frame _, fun h => by cases h⟩

theorem over : Rows.manSwitchesRow.holds Tryz.pinned (OpenSpec.ofChange Rows.manSwitchesSpec) :=
  OpenClaim.holds_of_wide 9 Tryz.f9 rfl rfl rfl rfl rfl rfl rfl ⟨rfl, rfl, rfl, rfl, rfl⟩ rfl rfl rfl rfl rfl (by kernel_rfl) Tryz.func9 (by kernel_rfl)
    (of_decide_eq_true (by kernel_rfl)) (by unfold Func.isWrapper; first | (rw [if_pos (by decide +kernel)]; kernel_rfl) | (rw [if_neg (by decide +kernel)]; exact ⟨rfl, rfl⟩))
    (fun os started H enc _ => lifted os started H enc)

/-- No parameter wants a stand-in; the program's own looks are off. -/
theorem plain (f : FuncId) (fn : Func) (hf : Tryz.pinned.checked.prog.funcNamed "recension/recensionlaw08.ManSwitches" = some f) (hfn : Tryz.pinned.checked.prog.funcs[f]? = some fn) :
    true = Tryz.pinned.checked.prog.looks [] ∧ ∀ (j : Nat) t, fn.params[j]? = some t → Tryz.pinned.checked.prog.wantsStandIn t = false := by
  obtain rfl : f = 9 := Option.some.inj ((show Tryz.prog.funcNamed "recension/recensionlaw08.ManSwitches" = some 9 by kernel_rfl).symm.trans hf) |>.symm
  obtain rfl : fn = Tryz.f9 := (Option.some.inj (Tryz.func9.symm.trans hfn)).symm
  refine ⟨by kernel_rfl, fun j t ht => ?_⟩
  rw [Tryz.params9] at ht
  have hm := Array.mem_of_getElem? ht
  simp only [List.mem_toArray, List.mem_cons, List.not_mem_nil, or_false] at hm
  rcases hm with rfl | rfl | rfl
  · exact (show Tryz.prog.wantsStandIn 75 = false by kernel_rfl)
  · exact (show Tryz.prog.wantsStandIn 75 = false by kernel_rfl)
  · exact (show Tryz.prog.wantsStandIn 91 = false by kernel_rfl)

/-- The statement: the card. -/
theorem proved : Rows.ManSwitchesCardSaid :=
  Claim7.holds_tied_plain_at .later [] _ _ _ _ over (fun _ h => by cases h) (by kernel_rfl) (fun _ h => by cases h) manSwitches_row_tie rfl ⟨rfl, rfl⟩ (by kernel_rfl) rfl plain (by kernel_rfl)
#print axioms proved
end Go.Proofs.YtfdpnjebhllpkaaGreatDoor.manSwitches
