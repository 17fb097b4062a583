/- Proved: the statement of the law XoutBack where what it reads is of bulk at most 1048576: the call returns true, and the argument reads afterwards as before. -/
import Derived.Test.YtokdnhdfmgfkeaaGreatDoorWXpWalks3
import Derived.Test.YtokdnhdfmgfkeaaGreatDoorWRowS
import Derived.ProofKit
import Derived.OpenShut
import Derived.ShutString
import Derived.ChangeOld
import Derived.Handed
import Derived.SevenTiedAt
import Derived.Deep.DeepHandedRow
import Derived.Deep.DeepWitnessRowRef
import Derived.Test.YtokdnhdfmgfkeaaGreatDoorCards
import Derived.Test.YtokdnhdfmgfkeaaGreatDoorTie
import Derived.Test.YtokdnhdfmgfkeaaGreatDoorWShape
set_option linter.unusedVariables false
set_option linter.unusedSimpArgs false
namespace Go.Proofs.YtokdnhdfmgfkeaaGreatDoor.xoutBack
open Go.ChangeShapes Go.WideShapes Go.ChangeAt Go.RowKit
set_option linter.unusedVariables false
theorem own : ownKnob Tryz.prog.godebug = none := by kernel_rfl
theorem laidOut : laidOutB Tryz.prog = true := by kernel_rfl
set_option maxRecDepth 100000 in
theorem contract (H : Type) (enc : TypeId × Value -> H) (W : World) (base : Nat) (args : Array Value) (ds gs : List (DataW H)) (before : List MemPlace)
  (hval0 : ∀ (j : Nat) t v, Tryz.f8.params[j]? = some t -> args[j]? = some v -> Value.okWide Tryz.prog W .any base t v)
  (hW : DataW.Whole enc Tryz.prog Tryz.f8.params.toList Rows.xoutBackSpec.vars false W args.toList ds gs before) (hk : Rows.uptoSmall H (ds ++ gs) = true)
  (hsz0 : (DataW.weightsEach Tryz.prog (Tryz.f8.params.toList ++ Rows.xoutBackSpec.plain.varTypes Tryz.prog) (ds ++ gs)).all (· <= reachBytes) = true)
  (hL : laidMetH Tryz.prog Xl.laidList W) (hsh : W.ShapedOpen Tryz.prog) :
  Calls Tryz.prog 8 args W fun e W' => ∃ v, e = .returned v /\ Rows.xoutBackSpec.post enc Tryz.prog Tryz.f8 false true false false W args v W' := by
 have hval : ∀ (j : Nat) t v, Tryz.f8.params[j]? = some t -> args[j]? = some v -> Value.okWide Tryz.prog W .any base t v := hval0;have hW' := hW;obtain ⟨p, q, hA0, hV, rfl, hfz, hnd⟩ := hW;have hA : DataW.TrodAll enc Tryz.prog W 0 (fun _ => true) true Tryz.f8.params.toList args.toList ds p := hA0;have hsz : (DataW.weightsEach Tryz.prog (Tryz.f8.params.toList ++ Rows.xoutBackSpec.plain.varTypes Tryz.prog) (ds ++ gs)).all (· <= reachBytes) = true := hsz0;rw [Tryz.params8] at hA hval hsz;obtain ⟨v0, vs0, d0, ds0, p0, q0, hargs, rfl, rfl, h0, r0⟩ := trodAll_cons hA;obtain ⟨rfl, rfl, rfl⟩ := trodAll_nil r0;obtain rfl : args = #[v0] := by cases args; simp_all
 obtain ⟨rfl, rfl⟩ := trodVars_none hV;have hb := of_decide_eq_true hk;have k0 := h0;have lt0 : ∀ x ∈ p0, x.block < W.heap.size := by obtain ⟨m, hm⟩ := k0; exact DataW.trod_lt m _ _ _ hm
 obtain ⟨x0, w0, z0⟩ := Xt.doc_of_trod (hval 0 27 v0 rfl rfl) h0 (sized_each hsz (j := 0) rfl rfl)
 have z1 : Xt.wL x0.before + Xt.wN x0.root + Xt.wL x0.after <= 576460752303423488 := by
  simp only [List.append_nil, Rows.uptoBulkAll] at hb;omega
 clear hA0 hval0 hb;refine (xoutBackW.walk v0 x0 W hL hsh w0 z1).mono fun e W' ⟨he, bel⟩ => ?_
 subst he;exact ⟨_, rfl, _, _, _, [], _, [], hW', trodAll_mk1 (shut_bool Tryz.underlying4 _), (trodAll_cons_mk (Below.trod laidOut (by kernel_rfl) (of_decide_eq_true (by kernel_rfl)) k0 bel lt0) trodAll_mk0), rfl, bel.frame _, fun h => by cases h⟩
theorem reads (os : Os) {H : Type} (enc : TypeId × Value -> H) : ∃ places, DataW.whole enc Tryz.prog ((Xl.laidWorld os).forCall (fun _ _ => 0) ⟨#[], #[.agg #[.slice none 0 0, .int .i64 0, .string ⟨#[]⟩, .string ⟨#[]⟩, .slice none 0 0, .slice none 0 0, .slice none 0 0]], []⟩).memory Tryz.f8.params.toList Rows.xoutBackSpec.vars false #[.agg #[.slice none 0 0, .int .i64 0, .string ⟨#[]⟩, .string ⟨#[]⟩, .slice none 0 0, .slice none 0 0, .slice none 0 0]].toList 8 = some ([.agg [.nil, .agg [.lit (.int .i64 0), .lit (.string []), .lit (.string []), .nil, .nil], .nil]], [], places) :=
 ⟨[], by kernel_rfl⟩
set_option maxRecDepth 100000 in
theorem liftedUpto (os : Os) (started : os.Started) (H : Type) (enc : TypeId × Value -> H) (F : Stop.Interp) :
  ReturnsInHanded {} Tryz.checked os 8 .any ((Rows.OpenSpec.upto Rows.xoutBackSpec).preRow enc Tryz.prog Tryz.f8 Rows.xoutBackUptoRow.domain false Rows.xoutBackUptoRow.laid) (((Rows.OpenSpec.upto Rows.xoutBackSpec).at F).post enc Tryz.prog Tryz.f8 false true false false) := by
 obtain ⟨places, hx⟩ := reads os enc
 refine returnsInHanded_of_row (C := Tryz.checked) (s := Rows.OpenSpec.upto Rows.xoutBackSpec) own started (by kernel_rfl) Tryz.func8
  (witness_row_atRef (enc := enc) (C := Tryz.checked) false (Xl.laidWorld os) #[.agg #[.slice none 0 0, .int .i64 0, .string ⟨#[]⟩, .string ⟨#[]⟩, .slice none 0 0, .slice none 0 0, .slice none 0 0]] rfl (by kernel_rfl) (by kernel_rfl) (by kernel_rfl)
   (OpenSpec.preRow_of_cond 8 hx (by kernel_rfl) (fun k hk => by cases hk; kernel_rfl) (by kernel_rfl) (Xl.laidWorld_met os _))) ?_
 intro W base args ds gs before hval hW _ hcond hsz hL hsh _;exact contract H enc W base args ds gs before hval hW (hcond _ rfl) hsz hL hsh
theorem saidUpto : Rows.XoutBackUptoSaid :=
 OpenClaim.holds_of_cond 8 Tryz.f8 rfl rfl rfl rfl rfl rfl rfl ⟨rfl, rfl, rfl, rfl, rfl⟩ rfl rfl rfl rfl rfl (by kernel_rfl) Tryz.func8 (by kernel_rfl)
  (of_decide_eq_true (by kernel_rfl)) (by unfold Func.isWrapper; first | (rw [if_pos (by decide +kernel)]; kernel_rfl) | (rw [if_neg (by decide +kernel)]; exact ⟨rfl, rfl⟩))
  (fun os started H enc _ F => by rw [OpenClaim.pre_eq_preRow]; exact liftedUpto os started H enc F)
theorem plain (f : FuncId) (fn : Func) (hf : Tryz.pinned.checked.prog.funcNamed "recension/recensionlaw11.XoutBack" = some f) (hfn : Tryz.pinned.checked.prog.funcs[f]? = some fn) :
  true = Tryz.pinned.checked.prog.looks [] /\ ∀ (j : Nat) t, fn.params[j]? = some t -> Tryz.pinned.checked.prog.wantsStandIn t = false := by
 obtain rfl : f = 8 := Option.some.inj ((show Tryz.prog.funcNamed "recension/recensionlaw11.XoutBack" = some 8 by kernel_rfl).symm.trans hf) |>.symm
 obtain rfl : fn = Tryz.f8 := (Option.some.inj (Tryz.func8.symm.trans hfn)).symm;refine ⟨by kernel_rfl, fun j t ht => ?_⟩;rw [Tryz.params8] at ht;obtain rfl : t = 27 := by simpa using Array.mem_of_getElem? ht
 exact (show Tryz.prog.wantsStandIn 27 = false by kernel_rfl)
theorem proved : Rows.XoutBackUptoCardSaid :=
 Claim7.holds_tied_plain_at .later [] _ _ _ _ saidUpto (fun _ h => by cases h) (by kernel_rfl) (fun _ h => by cases h) xoutBackUpto_row_tie rfl ⟨rfl, rfl⟩ (by kernel_rfl) rfl plain (by kernel_rfl)
#print axioms proved
end Go.Proofs.YtokdnhdfmgfkeaaGreatDoor.xoutBack
