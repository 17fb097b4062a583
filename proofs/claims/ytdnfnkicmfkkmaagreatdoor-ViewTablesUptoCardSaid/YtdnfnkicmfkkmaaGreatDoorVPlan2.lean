/- A plan's step by a law on a list of operations. -/
import Derived.OrdersHeld
import Derived.StillTail
import Derived.RegionTactic
import Derived.Deep.RegionHeld3
import Derived.Tactics
set_option linter.unusedVariables false
set_option linter.unusedSimpArgs false
section
namespace Go.Proofs.YtdnfnkicmfkkmaaGreatDoor.Pl
open Go
section
variable {P : Program} {ops : Array Oper} {Q : Exit -> Act -> World -> Prop} {md : Region.Mode}
def wpAnyT (P : Program) (md : Region.Mode) (ops : Array Oper) (Q : Exit -> Act -> World -> Prop) (n : Nat) (S : World -> Prop) : Nat -> Array Bool -> Act -> World -> Prop
 | 0, listed, a, w => Region.ready md ops listed = [] /\ Q .normal a w
 | fuel + 1, listed, a, w =>
  (Region.ready md ops listed = [] -> Q .normal a w) ∧
  ∀ i ∈ Region.ready md ops listed, wpOp P ops Q i (fun a' w' => (i < n -> S w') /\ wpAnyT P md ops Q n S fuel (listed.setIfInBounds i true) a' w') a w
theorem wpAny_of_T {n : Nat} {S : World -> Prop} : ∀ (fuel : Nat) (listed : Array Bool) (a : Act) (w : World), wpAnyT P md ops Q n S fuel listed a w -> wpAny P md ops Q fuel listed a w
 | 0, _, _, _, h => h
 | fuel + 1, _, _, _, h => ⟨h.1, fun i hi => wpOp_mono (fun a' w' h' => wpAny_of_T fuel _ a' w' h'.2) (h.2 i hi)⟩
theorem wpAnyT_mono {n : Nat} {S S' : World -> Prop} (hS : ∀ x, S' x -> S x) : ∀ (fuel : Nat) (listed : Array Bool) (a : Act) (w : World), wpAnyT P md ops Q n S' fuel listed a w -> wpAnyT P md ops Q n S fuel listed a w
 | 0, _, _, _, h => h
 | fuel + 1, _, _, _, h => ⟨h.1, fun i hi => wpOp_mono (fun a' w' h' => ⟨fun hin => hS _ (h'.1 hin), wpAnyT_mono hS fuel _ a' w' h'.2⟩) (h.2 i hi)⟩
def waits (md : Region.Mode) (ops : Array Oper) (n : Nat) : Bool := decide (n = ops.size) || (decide (n < ops.size) && Region.sinkB md ops n && Region.chainB md ops n)
theorem ready_head {n i j : Nat} {listed : Array Bool} (hw : waits md ops n = true) (inv : HeadInv md ops n listed) (hin : i < n) (hun : listed.getD i true = false) (hj : j ∈ Region.ready md ops listed) : j < n := by
 simp only [waits, Bool.or_eq_true, Bool.and_eq_true, decide_eq_true_eq] at hw;obtain ⟨_, oj, hoj, _⟩ := mem_ready.1 hj;have hlt : j < ops.size := (Array.getElem?_eq_some_iff.1 hoj).1;rcases hw with hw | ⟨⟨hn, hs⟩, hc⟩
 ·omega
 ·rcases Nat.lt_or_ge j n with h | h
  ·exact h
  ·exact absurd hj (tail_waits hs hc hn inv _ i rfl hin hun j h)
theorem wpAnyT_first {n i : Nat} {oi : Oper} {v : Value} {S : World -> Prop} (hi : ops[i]? = some oi) (hsel : ∀ (j : Nat) (o : Oper) cs b, ops[j]? = some o -> o.op ≠ .select cs b)
  (hQ : ∀ c a w, Q (.panic c) (a.put oi.dst v) w -> Q (.panic c) a w) (hw : waits md ops n = true) (hin : i < n) :
  ∀ (fuel : Nat) (listed : Array Bool) (a : Act) (w : World), HeadInv md ops n listed →
   (∀ j oj, ops[j]? = some oj -> j ≠ i -> listed.getD j true = false -> (∀ e ∈ oj.after, Region.binds md e = true -> e.on ≠ i) -> oi.apart ops oj = true) →
   i ∈ Region.ready md ops listed -> YieldsIf P ops S oi v a -> S w →
   wpAnyT P md ops Q n S fuel (listed.setIfInBounds i true) (a.put oi.dst v) w -> wpAnyT P md ops Q n S (fuel + 1) listed a w := by
 intro fuel
 induction fuel with
 | zero =>
  intro listed a w _ _ hr hy hS H;refine ⟨fun h => (by rw [h] at hr; cases hr), fun j hj => ?_⟩
  by_cases hji : j = i
  ·subst hji; exact hy.wpOp hi hS ⟨fun _ => hS, H⟩
  ·have := ready_mono hj hji;rw [H.1] at this
   cases this
 | succ fuel ih =>
  intro listed a w inv hfree hr hy hS H;refine ⟨fun h => (by rw [h] at hr; cases hr), fun j hj => ?_⟩
  by_cases hji : j = i
  ·subst hji; exact hy.wpOp hi hS ⟨fun _ => hS, H⟩
  ·have h1 := H.2 j (ready_mono hj hji);have hjn : j < n := ready_head hw inv hin (mem_ready.1 hr).1 hj;obtain ⟨hjun, oj, hoj, hall⟩ := mem_ready.1 hj
   have hnot : ∀ e ∈ oj.after, Region.binds md e = true -> e.on ≠ i := fun e he hb heq => by
    have h1 := hall e he hb;have h0 := (mem_ready.1 hr).1;rw [heq, getD_both h0] at h1;cases h1
   have h2 := wpOp_putIf hoj (hfree j oj hoj hji hjun hnot) (fun cs b => hsel i oi cs b hi) (fun cs b => hsel j oj cs b hoj) hQ hy h1
   have hfree' : ∀ k ok, ops[k]? = some ok -> k ≠ i -> (listed.setIfInBounds j true).getD k true = false →
     (∀ e ∈ ok.after, Region.binds md e = true -> e.on ≠ i) -> oi.apart ops ok = true := fun k ok hk hki hun hno => by
    refine hfree k ok hk hki ?_ hno
    by_cases hjk : j = k
    ·subst hjk; exact hjun
    ·rw [getD_set_ne true hjk] at hun; exact hun
   refine wpOp_mono (fun a' w' h3 => ⟨fun _ => h3.2.1 hjn, ih (listed.setIfInBounds j true) a' w' (inv.set hj hjn) hfree' (ready_mono hr (Ne.symm hji)) h3.1 (h3.2.1 hjn) ?_⟩) h2;rw [Array.setIfInBounds_comm _ _ hji];exact h3.2.2
theorem wpAnyT_of_seq {n : Nat} {S : World -> Prop} : ∀ (l : List Oper) (k : Nat) (listed : Array Bool) (a : Act) (w : World), n <= k -> (∀ j, l[j]? = ops[k + j]?) →
  Region.seqB md ops l.length k listed = true -> wpList P ops Q l a w -> wpAnyT P md ops Q n S l.length listed a w
 | [], _, _, _, _, _, _, hB, h => ⟨by simpa [Region.seqB] using hB, h⟩
 | o :: l, k, listed, a, w, hk, hl, hB, h => by
  have h0 : ops[k]? = some o := by simpa using (hl 0).symm
  simp only [List.length_cons, Region.seqB, Bool.and_eq_true, decide_eq_true_eq] at hB;refine ⟨fun h1 => (by rw [hB.1] at h1; cases h1), fun i hi => ?_⟩;rw [hB.1] at hi;have hik : i = k := by simpa using hi
  subst hik;have hw : wpOp P ops Q i (wpList P ops Q l) a w := by unfold wpOp; simp only [h0]; exact h
  exact wpOp_mono (fun a' w' h' => ⟨fun h => absurd h (by omega), wpAnyT_of_seq l (i + 1) _ a' w' (by omega) (fun j => by have := hl (j + 1); simpa [Nat.add_assoc, Nat.add_comm 1 j] using this) hB.2 h'⟩) hw
inductive Plan (α : Type) where
 | done
 | take (i : α) (p : Plan α)
 | run (i : α) (p : Plan α)
 | two (i : α) (p : Plan α) (j : α) (q : Plan α)
def fill (l : List Oper) : Plan Nat -> Plan (Option Oper)
 | .done => .done
 | .take i p => .take l[i]? (fill l p)
 | .run i p => .run l[i]? (fill l p)
 | .two i p j q => .two l[i]? (fill l p) l[j]? (fill l q)
def planB (md : Region.Mode) (ops : Array Oper) (n g : Nat) : Plan Nat -> Nat -> Array Bool -> Bool
 | .done, f, listed => decide (f = g) && Region.seqB md ops g n listed
 | .take i p, f + 1, listed => decide (i < n) && (Region.ready md ops listed).contains i && Region.free md ops listed i && planB md ops n g p f (listed.setIfInBounds i true)
 | .run i p, f + 1, listed => decide (i < n) && decide (Region.ready md ops listed = [i]) && planB md ops n g p f (listed.setIfInBounds i true)
 | .two i p j q, f + 1, listed => decide (i < n) && decide (j < n) && decide (Region.ready md ops listed = [i, j]) && planB md ops n g p f (listed.setIfInBounds i true) && planB md ops n g q f (listed.setIfInBounds j true)
 | _, _, _ => false
def More (S : World -> Prop) (W : (World -> Prop) -> Act -> World -> Prop) (a : Act) (w : World) : Prop := ∃ S' : World -> Prop, (∀ x, S' x -> S x) /\ S' w /\ W S' a w
def runs (P : Program) (ops : Array Oper) (Q : Exit -> Act -> World -> Prop) (o : Oper) (K : Act -> World -> Prop) (a : Act) (w : World) : Prop :=
 if Region.wanted o (yielded ops a.tmps) then o.wp P a w K Q else K (a.put o.dst undef) w
def wpPlan (P : Program) (ops : Array Oper) (Q : Exit -> Act -> World -> Prop) (T : Act -> World -> Prop) : Plan (Option Oper) -> (World -> Prop) -> Act -> World -> Prop
 | .done, _, a, w => T a w
 | .take none _, _, _, _ => False
 | .take (some o) p, S, a, w => ∃ v, YieldsIf P ops S o v a /\ (∀ c a w, Q (.panic c) (a.put o.dst v) w -> Q (.panic c) a w) /\ wpPlan P ops Q T p S (a.put o.dst v) w
 | .run none _, _, _, _ => False
 | .run (some o) p, S, a, w => runs P ops Q o (More S (wpPlan P ops Q T p)) a w
 | .two (some o) p (some o') q, S, a, w => runs P ops Q o (More S (wpPlan P ops Q T p)) a w /\ runs P ops Q o' (More S (wpPlan P ops Q T q)) a w
 | .two _ _ _ _, _, _, _ => False
theorem wpOp_of_runs {i : Nat} {o : Oper} (ho : ops[i]? = some o) {K K' : Act -> World -> Prop} {a : Act} {w : World} (hK : ∀ a w, K a w -> K' a w) (h : runs P ops Q o K a w) : wpOp P ops Q i K' a w := by
 refine wpOp_mono hK ?_;unfold runs at h;unfold wpOp;simp only [ho]
 split
 ·rename_i hw; rw [if_pos hw] at h; exact .inl h
 ·rename_i hw; rw [if_neg hw] at h; exact h
theorem wpAnyT_plan {l : List Oper} {n g : Nat} (hsel : Region.noSelect l.toArray = true) (hwt : waits md l.toArray n = true) (hg : (l.drop n).length = g) :
  ∀ (p : Plan Nat) (S : World -> Prop) (f : Nat) (listed : Array Bool) (a : Act) (w : World), HeadInv md l.toArray n listed -> planB md l.toArray n g p f listed = true -> S w →
   wpPlan P l.toArray Q (fun a w => wpList P l.toArray Q (l.drop n) a w) (fill l p) S a w -> wpAnyT P md l.toArray Q n S f listed a w := by
 intro p
 induction p with
 | done =>
  intro S f listed a w inv hB hS h;simp only [planB, Bool.and_eq_true, decide_eq_true_eq] at hB;obtain ⟨rfl, hB⟩ := hB;have := wpAnyT_of_seq (md := md) (Q := Q) (S := S) (n := n) (l.drop n) n listed a w (Nat.le_refl _) (fun j => by simp [List.getElem?_drop]) (by rw [hg]; exact hB) h
  rwa [hg] at this
 | take i p ih =>
  intro S f listed a w inv hB hS h
  cases f with
  | zero => simp [planB] at hB
  | succ f =>
   simp only [planB, Bool.and_eq_true, decide_eq_true_eq] at hB;obtain ⟨⟨⟨hin, hr⟩, hf⟩, hB⟩ := hB;simp only [fill] at h
   cases ho : l[i]? with
   | none => rw [ho] at h; exact h.elim
   | some o =>
    rw [ho] at h;obtain ⟨v, hy, hQ, h⟩ := h;have ho' : l.toArray[i]? = some o := (by simpa using ho);have hr' : i ∈ Region.ready md l.toArray listed := (by simpa using hr);exact wpAnyT_first ho' (Region.noSelect_spec hsel) hQ hwt hin f listed a w inv (Region.free_spec ho' hf) hr' hy hS (ih S f _ _ w (inv.set hr' hin) hB hS h)
 | run i p ih =>
  intro S f listed a w inv hB hS h
  cases f with
  | zero => simp [planB] at hB
  | succ f =>
   simp only [planB, Bool.and_eq_true, decide_eq_true_eq] at hB;obtain ⟨⟨hin, hr⟩, hB⟩ := hB;simp only [fill] at h
   cases ho : l[i]? with
   | none => rw [ho] at h; exact h.elim
   | some o =>
    rw [ho] at h;have ho' : l.toArray[i]? = some o := (by simpa using ho);refine ⟨fun h0 => (by rw [hr] at h0; cases h0), fun j hj => ?_⟩;have hj' := hj;rw [hr] at hj;obtain rfl : j = i := by simpa using hj
    refine wpOp_of_runs ho' (fun a' w' hm => ?_) h;obtain ⟨S', h1, h2, h3⟩ := hm;exact ⟨fun _ => h1 _ h2, wpAnyT_mono h1 f _ a' w' (ih S' f _ a' w' (inv.set hj' hin) hB h2 h3)⟩
 | two i p j q ihp ihq =>
  intro S f listed a w inv hB hS h
  cases f with
  | zero => simp [planB] at hB
  | succ f =>
   simp only [planB, Bool.and_eq_true, decide_eq_true_eq] at hB;obtain ⟨⟨⟨⟨hin, hjn⟩, hr⟩, hBp⟩, hBq⟩ := hB;simp only [fill] at h
   cases ho : l[i]? with
   | none => rw [ho] at h; exact h.elim
   | some o =>
    cases hoj : l[j]? with
    | none => rw [ho, hoj] at h; exact h.elim
    | some oj =>
     rw [ho, hoj] at h;have ho' : l.toArray[i]? = some o := (by simpa using ho);have hoj' : l.toArray[j]? = some oj := (by simpa using hoj);refine ⟨fun h0 => (by rw [hr] at h0; cases h0), fun k hk => ?_⟩;have hk' := hk;rw [hr] at hk;rcases List.mem_cons.1 hk with rfl | hk
     ·refine wpOp_of_runs ho' (fun a' w' hm => ?_) h.1;obtain ⟨S', h1, h2, h3⟩ := hm;exact ⟨fun _ => h1 _ h2, wpAnyT_mono h1 f _ a' w' (ihp S' f _ a' w' (inv.set hk' hin) hBp h2 h3)⟩
     ·obtain rfl : k = j := by simpa using hk
      refine wpOp_of_runs hoj' (fun a' w' hm => ?_) h.2;obtain ⟨S', h1, h2, h3⟩ := hm;exact ⟨fun _ => h1 _ h2, wpAnyT_mono h1 f _ a' w' (ihq S' f _ a' w' (inv.set hk' hjn) hBq h2 h3)⟩
def okB (l : List Oper) (n : Nat) (p : Plan Nat) : Bool := Region.noSelect l.toArray && waits .any l.toArray n && planB .any l.toArray n (l.length - n) p l.length (Array.replicate l.length false)
theorem wp_region_plan {id : Nat} {l : List Oper} {a : Act} {w : World} (n : Nat) (p : Plan Nat) (S : World -> Prop) (hm : P.follows .mixedOrders = true) (hB : okB l n p = true) (hS : S w.drew)
  (h : wpPlan P l.toArray Q (fun a w => wpList P l.toArray Q (l.drop n) a w) (fill l p) S a w.drew) : (Code.region id l.toArray true).wp P Q a w := by
 simp only [okB, Bool.and_eq_true] at hB;obtain ⟨⟨hsel, hw⟩, hp⟩ := hB
 have hn : n <= l.length := by
  simp only [waits, Bool.or_eq_true, Bool.and_eq_true, decide_eq_true_eq, List.size_toArray] at hw;omega
 have inv0 : HeadInv .any l.toArray n (Array.replicate l.length false) :=
  ⟨by simp, fun j oj _ hl => (by rw [getD_replicate_false] at hl; cases hl), fun t _ ht => getD_in (by simpa using ht) (getD_replicate_false _ _)⟩
 refine wp_region_any hm ?_;have := wpAnyT_plan (md := .any) hsel hw (by simp) p S l.length _ a w.drew inv0 hp hS h;have h2 := wpAny_of_T _ _ _ _ this
 simpa using h2
/-! ### The steps -/
variable {T : Act -> World -> Prop} {S : World -> Prop} {a : Act} {w : World} {o : Oper} {p q : Plan (Option Oper)}
theorem take_go (v : Value) (hw : Region.wanted o (yielded ops a.tmps) = true) (hQ : ∀ c a w, Q (.panic c) (a.put o.dst v) w -> Q (.panic c) a w)
  (hy : ∀ x, S x -> (execOp a.eval o).run P x = .ok (.value v) x) (h : wpPlan P ops Q T p S (a.put o.dst v) w) : wpPlan P ops Q T (.take (some o) p) S a w := ⟨v, .inl ⟨hw, hy⟩, hQ, h⟩
theorem take_skip (hw : Region.wanted o (yielded ops a.tmps) = false) (hQ : ∀ c a w, Q (.panic c) (a.put o.dst undef) w -> Q (.panic c) a w)
  (h : wpPlan P ops Q T p S (a.put o.dst undef) w) : wpPlan P ops Q T (.take (some o) p) S a w := ⟨undef, .inr ⟨hw, rfl⟩, hQ, h⟩
theorem run_go (h : ∀ K' : Act -> World -> Prop, Shut (∀ a w, More S (wpPlan P ops Q T p) a w -> K' a w) -> if Region.wanted o (yielded ops a.tmps) = true then Oper.wp P o a w K' Q else K' (a.put o.dst undef) w) :
  wpPlan P ops Q T (.run (some o) p) S a w := h _ (fun _ _ h => h)
theorem done_go (h : T a w) : wpPlan P ops Q T .done S a w := h
theorem two_go {o' : Oper} (h1 : wpPlan P ops Q T (.run (some o) p) S a w) (h2 : wpPlan P ops Q T (.run (some o') q) S a w) : wpPlan P ops Q T (.two (some o) p (some o') q) S a w := ⟨h1, h2⟩
theorem more_go {W : (World -> Prop) -> Act -> World -> Prop} (S' : World -> Prop) (h1 : ∀ x, S' x -> S x) (h2 : S' w) (h3 : W S' a w) : More S W a w := ⟨S', h1, h2, h3⟩
end
end Go.Proofs.YtdnfnkicmfkkmaaGreatDoor.Pl
end

section
namespace Go.Proofs.YtdnfnkicmfkkmaaGreatDoor.Pl
open Go
section
variable {P : Program} {ops : Array Oper} {Q Q' : Exit -> Act -> World -> Prop} {o : Oper} {a : Act} {w : World} {K : Act -> World -> Prop}
def QK (K : Act -> World -> Prop) (Q : Exit -> Act -> World -> Prop) : Exit -> Act -> World -> Prop
 | .normal, a, w => K a w
 | .panic c, a, w => Q (.panic c) a w
 | _, _, _ => False
theorem letsOut_QK : ¬ LetsOut (QK K Q) := by
 rintro ⟨a, w, h⟩;exact h
theorem wp_of_QK (h : o.wp P a w K (QK K Q)) : o.wp P a w K Q := by
  unfold Oper.wp at *;generalize (execOp a.eval o).run P w = r at *
  cases r with
  | ok n w' =>
    cases n <;> simp only [Oper.upon] at h ⊢ <;> first
      | exact h
      | (refine Calls.mono h fun e w'' he => ?_
         cases e with
         | returned v => exact he
         | panicked c => exact he
         | outgrown => exact (letsOut_QK he).elim)
  | halt x w' => cases x <;> simp only [Oper.upon] at h ⊢ <;> exact h
theorem runs_of_list (h : wpList P ops (QK K Q) [o] a w) : if Region.wanted o (yielded ops a.tmps) = true then Oper.wp P o a w K Q else K (a.put o.dst undef) w := by
 unfold wpList at h
 split
 ·rename_i hw
  rw [if_pos hw] at h;rcases h with h | ⟨_, h⟩
  ·exact wp_of_QK h
  ·exact (letsOut_QK h).elim
 ·rename_i hw
  rw [if_neg hw] at h;exact h
theorem run_list {T : Act -> World -> Prop} {S : World -> Prop} {p : Plan (Option Oper)} (h : ∀ K' : Act -> World -> Prop, Shut (∀ a w, More S (wpPlan P ops Q T p) a w -> K' a w) -> wpList P ops (QK K' Q) [o] a w) :
  wpPlan P ops Q T (.run (some o) p) S a w := run_go fun K hK => runs_of_list (h K hK)
end
end Go.Proofs.YtdnfnkicmfkkmaaGreatDoor.Pl
end
