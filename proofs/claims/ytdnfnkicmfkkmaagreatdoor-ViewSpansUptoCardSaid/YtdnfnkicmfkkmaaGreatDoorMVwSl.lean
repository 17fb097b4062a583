/- The program's siblings. Printed by vw_sl.py. -/
import Derived.Test.YtdnfnkicmfkkmaaGreatDoorMItoaS
import Derived.Test.YtdnfnkicmfkkmaaGreatDoorMErrItoa
import Derived.Test.YtdnfnkicmfkkmaaGreatDoorMKyLine
import Derived.Test.YtdnfnkicmfkkmaaGreatDoorMStrLaws
import Derived.Test.YtdnfnkicmfkkmaaGreatDoorMKyRb
import Derived.Shelf.Strings.OnBuilder
import Derived.Shelf.Slices.Reverse
import Derived.Sort.OwnSortedInts
import Derived.Shelf.Lay
import Derived.Ground.NamesProg
set_option linter.unusedVariables false
set_option linter.unusedSimpArgs false
section
namespace Go.Proofs.YtdnfnkicmfkkmaaGreatDoor.Vw
open Go.RowKit UtfW Xl Xt Xo No
open Go.Proofs.YtdnfnkicmfkkmaaGreatDoor (Ky.frontB Ky.Rl)
open Go.Proofs.YtdnfnkicmfkkmaaGreatDoor.Ky (Ts OwX tv join Rs)

theorem wrap_id {x : Int} (h0 : 0 ≤ x) (h1 : x < 9223372036854775808) : IntKind.i64.wrap x = x := by
 have e : x % 2 ^ 64 = x := Int.emod_eq_of_lt h0 (by omega)
 simp only [IntKind.wrap, IntKind.bits, IntKind.signed, e]
 rw [if_neg]
 simp
 omega
end Go.Proofs.YtdnfnkicmfkkmaaGreatDoor.Vw
end

section
namespace Go.Proofs.YtdnfnkicmfkkmaaGreatDoor.Vw
open Go.RowKit UtfW Xl Xt Xo No
open Go.Proofs.YtdnfnkicmfkkmaaGreatDoor (Ky.frontB Ky.Rl)
open Go.Proofs.YtdnfnkicmfkkmaaGreatDoor.Ky (Ts OwX tv join Rs)

end Go.Proofs.YtdnfnkicmfkkmaaGreatDoor.Vw
end

section
namespace Go.Proofs.YtdnfnkicmfkkmaaGreatDoor.Vw
open Go.RowKit UtfW Xl Xt

def below (t : List Q) (i k : Nat) : Bool := decide (i < k ∧ k < finAt t i)
section
variable {t : List Q} (h : Tab t)
include h
theorem Tab.fin_gt {i : Nat} (hi : i < t.length) : i < finAt t i := by
 rcases Nat.eq_zero_or_pos i with rfl | h0
 ·rw [h.root.2.1]; exact h.pos
 ·obtain ⟨j, _, _, _, e, _⟩ := h.up i h0 hi
  exact e
theorem Tab.fin_le : ∀ {i : Nat}, i < t.length → finAt t i ≤ t.length := by
 intro i
 induction i using Nat.strongRecOn with
 | ind i ih =>
  intro hi
  rcases Nat.eq_zero_or_pos i with rfl | h0
  ·rw [h.root.2.1]; exact Nat.le_refl _
  ·obtain ⟨j, _, e1, e2, _, _⟩ := h.up i h0 hi
   exact Nat.le_trans e2 (ih j e1 (by omega))
theorem Tab.par_pos {i : Nat} (hi : i < t.length) (hp : 0 ≤ parAt t i) : 0 < i := by
 rcases Nat.eq_zero_or_pos i with rfl | h0
 ·rw [h.root.1] at hp; omega
 ·exact h0
theorem Tab.par_neg {i : Nat} (hi : i < t.length) (hp : parAt t i < 0) : i = 0 := by
 rcases Nat.eq_zero_or_pos i with rfl | h0
 ·rfl
 ·obtain ⟨j, e, _⟩ := h.up i h0 hi
  rw [e] at hp; omega
theorem Tab.par_is {i j : Nat} (hi : i < t.length) (hp : parAt t i = (j : Int)) : j < i ∧ finAt t i ≤ finAt t j ∧ kindAt t j ≠ 5 := by
 obtain ⟨j', e, e1, e2, _, e4⟩ := h.up i (h.par_pos hi (by omega)) hi
 obtain rfl : j' = j := by rw [hp] at e; omega
 exact ⟨e1, e2, e4⟩
theorem Tab.nest {i : Nat} : ∀ {k : Nat}, i < k → k < finAt t i → k < t.length → finAt t k ≤ finAt t i := by
 intro k
 induction k using Nat.strongRecOn with
 | ind k ih =>
  intro h1 h2 h3
  have h4 := h.within i k h1 h2 h3
  obtain ⟨j, e, e1, e2, _, _⟩ := h.up k (by omega) h3
  rcases Nat.eq_or_lt_of_le (show i ≤ j by rw [e] at h4; omega) with rfl | hij
  ·exact e2
  ·exact Nat.le_trans e2 (ih j e1 hij (by omega) (by omega))
theorem Tab.below_step {a b j : Nat} (hb : b < t.length) (hp : parAt t b = (j : Int)) : below t a b = (decide (j = a) || below t a j) := by
 obtain ⟨e1, e2, _⟩ := h.par_is hb hp
 have hg := h.fin_gt hb
 unfold below
 by_cases hj : j = a
 ·subst hj
  simp only [decide_true, Bool.true_or]
  exact decide_eq_true ⟨e1, by omega⟩
 ·simp only [hj, decide_false, Bool.false_or]
  refine decide_eq_decide.2 ⟨fun ⟨h1, h2⟩ => ?_, fun ⟨h1, h2⟩ => ?_⟩
  ·have := h.within a b h1 h2 hb
   rw [hp] at this
   omega
  ·have := h.nest h1 h2 (by omega)
   omega
omit h in
theorem below_zero (a : Nat) : below t a 0 = false := by
 unfold below
 exact decide_eq_false (by omega)
end

/-! ### Lists of places -/
def spanQ (a b : Nat) (p : Nat → Bool) : List Nat := (List.range' a (b - a)).filter p
theorem filter_range {n a b : Nat} {p : Nat → Bool} (hp : ∀ k, k < n → p k = true → a ≤ k ∧ k < b) (hb : b ≤ n) : (List.range n).filter p = spanQ a b p := by
 unfold spanQ
 rcases Nat.le_total a b with hab | hab
 ·have e : List.range n = List.range' 0 a ++ (List.range' a (b - a) ++ List.range' b (n - b)) := by
   have e1 := List.range'_append_1 (s := a) (m := b - a) (n := n - b)
   rw [show a + (b - a) = b by omega, show b - a + (n - b) = n - a by omega] at e1
   have e2 := List.range'_append_1 (s := 0) (m := a) (n := n - a)
   rw [Nat.zero_add, show a + (n - a) = n by omega] at e2
   rw [List.range_eq_range', e1, e2]
  rw [e, List.filter_append, List.filter_append]
  have h1 : (List.range' 0 a).filter p = [] := by
   rw [List.filter_eq_nil_iff]
   intro k hk hpk
   rw [List.mem_range'_1] at hk
   have := hp k (by omega) hpk
   omega
  have h2 : (List.range' b (n - b)).filter p = [] := by
   rw [List.filter_eq_nil_iff]
   intro k hk hpk
   rw [List.mem_range'_1] at hk
   have := hp k (by omega) hpk
   omega
  rw [h1, h2, List.nil_append, List.append_nil]
 ·rw [show b - a = 0 by omega]
  simp only [List.range'_zero, List.filter_nil]
  rw [List.filter_eq_nil_iff]
  intro k hk hpk
  have := hp k (List.mem_range.1 hk) hpk
  omega
theorem spanQ_congr {a b : Nat} {p q : Nat → Bool} (hpq : ∀ k, a ≤ k → k < b → p k = q k) : spanQ a b p = spanQ a b q := by
 unfold spanQ
 refine List.filter_congr fun k hk => ?_
 rw [List.mem_range'_1] at hk
 exact hpq k hk.1 (by omega)
def ancL (t : List Q) (i : Nat) : List Nat := ((List.range i).filter fun k => below t k i).reverse
theorem Tab.anc_step {t : List Q} (h : Tab t) {i p : Nat} (hi : i < t.length) (hp : parAt t i = (p : Int)) : ancL t i = p :: ancL t p := by
 have hpi := (h.par_is hi hp).1
 unfold ancL
 have e : List.range i = List.range p ++ ([p] ++ List.range' (p + 1) (i - p - 1)) := by
  rw [List.range_eq_range', List.range_eq_range', show [p] = List.range' p 1 from rfl, List.range'_append_1]
  have := List.range'_append_1 (s := 0) (m := p) (n := 1 + (i - p - 1))
  rw [Nat.zero_add] at this
  rw [this]
  congr 1
  omega
 rw [e, List.filter_append, List.filter_append]
 have h1 : (List.range' (p + 1) (i - p - 1)).filter (fun k => below t k i) = [] := by
  rw [List.filter_eq_nil_iff]
  intro k hk hpk
  rw [List.mem_range'_1] at hk
  simp only [h.below_step hi hp] at hpk
  unfold below at hpk
  simp at hpk
  omega
 have h2 : [p].filter (fun k => below t k i) = [p] := by
  simp [h.below_step hi hp]
 have h3 : (List.range p).filter (fun k => below t k i) = (List.range p).filter (fun k => below t k p) := by
  refine List.filter_congr fun k hk => ?_
  rw [h.below_step hi hp]
  have := List.mem_range.1 hk
  rw [decide_eq_false (show ¬ p = k by omega), Bool.false_or]
 rw [h1, h2, h3, List.append_nil, List.reverse_append]
 rfl
theorem Tab.anc_end {t : List Q} (h : Tab t) {i : Nat} (hi : i < t.length) (hp : parAt t i < 0) : ancL t i = [] := by
 obtain rfl := h.par_neg hi hp
 rfl

/-! ### Values -/
def valQ (t : List Q) (i : Int) : Tx :=
 if i < 0 ∨ (t.length : Int) ≤ i then []
 else if kindAt t i.toNat ≠ 6 ∧ kindAt t i.toNat ≠ 1 then textAt t i.toNat
 else ((List.range t.length).filter fun k => decide (kindAt t k = 2) && below t i.toNat k).flatMap (textAt t)
def valP (t : List Q) (i : Int) : Tx :=
 if i < 0 ∨ (t.length : Int) ≤ i then []
 else if kindAt t i.toNat ≠ 6 ∧ kindAt t i.toNat ≠ 1 then textAt t i.toNat
 else (spanQ i.toNat (finAt t i.toNat) fun k => decide (kindAt t k = 2)).flatMap (textAt t)
theorem val_eq {t : List Q} (h : Tab t) (i : Int) : valP t i = valQ t i := by
 unfold valP valQ
 split
 ·rfl
 ·rename_i hi
  split
  ·rfl
  ·rename_i hk
   have hl : i.toNat < t.length := by omega
   rw [filter_range (a := i.toNat) (b := finAt t i.toNat) (fun k _ hp => by
    simp only [Bool.and_eq_true] at hp
    have := of_decide_eq_true hp.2
    omega) (h.fin_le hl)]
   congr 1
   refine spanQ_congr fun k h1 h2 => ?_
   rcases Nat.eq_or_lt_of_le h1 with rfl | h1
   ·have : ¬ kindAt t i.toNat = 2 := by omega
    simp [this]
   ·unfold below
    simp [h1, h2]

/-! ### Axes -/
def xSelf : Tx := [115, 101, 108, 102]
def xChild : Tx := [99, 104, 105, 108, 100]
def xParent : Tx := [112, 97, 114, 101, 110, 116]
def xAnc : Tx := [97, 110, 99, 101, 115, 116, 111, 114]
def xOrSelf : Tx := [45, 111, 114, 45, 115, 101, 108, 102]
def xAncS : Tx := xAnc ++ xOrSelf
def xDesc : Tx := [100, 101, 115, 99, 101, 110, 100, 97, 110, 116]
def xDescS : Tx := xDesc ++ xOrSelf
def xAttr : Tx := [97, 116, 116, 114, 105, 98, 117, 116, 101]
def xFoll : Tx := [102, 111, 108, 108, 111, 119, 105, 110, 103]
def xPrec : Tx := [112, 114, 101, 99, 101, 100, 105, 110, 103]
def xSib : Tx := [45, 115, 105, 98, 108, 105, 110, 103]
def xFollS : Tx := xFoll ++ xSib
def xPrecS : Tx := xPrec ++ xSib
def plainQ (t : List Q) (k : Nat) : Bool := decide (kindAt t k ≠ 5)
def sibQ (t : List Q) (i k : Nat) : Bool := decide (kindAt t i ≠ 5 ∧ parAt t i = parAt t k ∧ 0 ≤ parAt t i)
def inQ (t : List Q) (axis : Tx) (i k : Nat) : Bool :=
 if axis = xSelf then decide (k = i)
 else if axis = xAncS then decide (k = i) || below t k i
 else if axis = xDescS then decide (k = i) || (plainQ t k && below t i k)
 else if axis = xAttr then !plainQ t k && decide (parAt t k = i)
 else plainQ t k && (
 if axis = xChild then decide (parAt t k = i)
 else if axis = xParent then decide (parAt t i = k)
 else if axis = xAnc then below t k i
 else if axis = xDesc then below t i k
 else if axis = xFoll then decide (i < k) && !below t i k
 else if axis = xPrec then decide (k < i) && !below t k i
 else if axis = xFollS then decide (i < k) && sibQ t i k
 else if axis = xPrecS then decide (k < i) && sibQ t i k
 else false)
def backQ (axis : Tx) : Bool := decide (axis = xAnc ∨ axis = xAncS ∨ axis = xPrec ∨ axis = xPrecS)
def axisR (t : List Q) (axis : Tx) (i : Nat) : List Nat :=
 let l := (List.range t.length).filter (inQ t axis i)
 if backQ axis then l.reverse else l
def sibP (t : List Q) (i a b : Nat) : List Nat := if kindAt t i = 5 ∨ parAt t i < 0 then [] else spanQ a b fun k => plainQ t k && decide (parAt t k = parAt t i)
def axisP (t : List Q) (axis : Tx) (i : Nat) : List Nat :=
 if axis = xSelf then [i]
 else if axis = xChild then spanQ (i + 1) (finAt t i) fun k => plainQ t k && decide (parAt t k = i)
 else if axis = xAttr then spanQ (i + 1) (finAt t i) fun k => !plainQ t k && decide (parAt t k = i)
 else if axis = xParent then (ancL t i).take 1
 else if axis = xAnc then ancL t i
 else if axis = xAncS then i :: ancL t i
 else if axis = xDesc then spanQ (i + 1) (finAt t i) (plainQ t)
 else if axis = xDescS then i :: spanQ (i + 1) (finAt t i) (plainQ t)
 else if axis = xFoll then spanQ (finAt t i) t.length (plainQ t)
 else if axis = xFollS then sibP t i (finAt t i) t.length
 else if axis = xPrec then (spanQ 0 i fun k => plainQ t k && decide (finAt t k ≤ i)).reverse
 else if axis = xPrecS then (sibP t i 0 i).reverse
 else []
section
variable {t : List Q} (h : Tab t) {i : Nat} (hi : i < t.length)
include h hi
omit h in
theorem anc_all : (List.range t.length).filter (fun k => below t k i) = (ancL t i).reverse := by
 unfold ancL
 rw [List.reverse_reverse, filter_range (a := 0) (b := i) (fun k _ hp => by unfold below at hp; simp at hp; omega) (by omega)]
 unfold spanQ
 rw [Nat.sub_zero, ← List.range_eq_range']
theorem anc_plain {k : Nat} (hk : below t k i = true) : plainQ t k = true := by
 have hm : ∀ i, i < t.length → below t k i = true → plainQ t k = true := by
  intro i
  induction i using Nat.strongRecOn with
  | ind i ih =>
   intro hi hb
   have h0 : 0 < i := by unfold below at hb; simp at hb; omega
   obtain ⟨j, e, e1, _, _, e4⟩ := h.up i h0 hi
   rw [h.below_step hi e, Bool.or_eq_true] at hb
   rcases hb with hb | hb
   ·obtain rfl := of_decide_eq_true hb
    exact decide_eq_true e4
   ·exact ih j e1 (by omega) hb
 exact hm i hi hk
omit hi in
theorem in_child (k : Nat) (hk : k < t.length) (hp : parAt t k = (i : Int)) : i + 1 ≤ k ∧ k < finAt t i := by
 have h1 := h.par_is hk hp
 have := h.fin_gt hk
 omega
theorem axis_eq (axis : Tx) : axisP t axis i = axisR t axis i := by
 have hfl := h.fin_le hi
 have hfg := h.fin_gt hi
 by_cases a1 : axis = xSelf
 ·subst a1
  have e : ∀ k, inQ t xSelf i k = decide (k = i) := fun k => by unfold inQ; rw [if_pos rfl]
  unfold axisP axisR
  rw [if_pos rfl, if_neg (by decide), funext e, filter_range (a := i) (b := i + 1) (fun k _ hp => by have := of_decide_eq_true hp; omega) (by omega)]
  unfold spanQ
  rw [show i + 1 - i = 1 by omega]
  simp
 by_cases a2 : axis = xChild
 ·subst a2
  have e : ∀ k, inQ t xChild i k = (plainQ t k && decide (parAt t k = i)) := fun k => by
   unfold inQ
   rw [if_neg (by decide), if_neg (by decide), if_neg (by decide), if_neg (by decide), if_pos rfl]
  unfold axisP axisR
  rw [if_neg (by decide), if_pos rfl, if_neg (by decide), funext e]
  exact (filter_range (fun k hk hp => by
   simp only [Bool.and_eq_true] at hp
   exact in_child h k hk (of_decide_eq_true hp.2)) hfl).symm
 by_cases a3 : axis = xAttr
 ·subst a3
  have e : ∀ k, inQ t xAttr i k = (!plainQ t k && decide (parAt t k = i)) := fun k => by
   unfold inQ
   rw [if_neg (by decide), if_neg (by decide), if_neg (by decide), if_pos rfl]
  unfold axisP axisR
  rw [if_neg (by decide), if_neg (by decide), if_pos rfl, if_neg (by decide), funext e]
  exact (filter_range (fun k hk hp => by
   simp only [Bool.and_eq_true] at hp
   exact in_child h k hk (of_decide_eq_true hp.2)) hfl).symm
 by_cases a4 : axis = xParent
 ·subst a4
  have e : ∀ k, inQ t xParent i k = (plainQ t k && decide (parAt t i = k)) := fun k => by
   unfold inQ
   rw [if_neg (by decide), if_neg (by decide), if_neg (by decide), if_neg (by decide), if_neg (by decide), if_pos rfl]
  unfold axisP axisR
  rw [if_neg (by decide), if_neg (by decide), if_neg (by decide), if_pos rfl, if_neg (by decide), funext e]
  rcases Nat.eq_zero_or_pos i with rfl | h0
  ·rw [h.anc_end hi (by rw [h.root.1]; omega), List.take_nil]
   symm
   rw [List.filter_eq_nil_iff]
   intro k _ hp
   simp only [Bool.and_eq_true] at hp
   have := of_decide_eq_true hp.2
   rw [h.root.1] at this
   omega
  ·obtain ⟨j, e0, e1, _, _, e4⟩ := h.up i h0 hi
   rw [h.anc_step hi e0, filter_range (a := j) (b := j + 1) (fun k _ hp => by
    simp only [Bool.and_eq_true] at hp
    have := of_decide_eq_true hp.2
    rw [e0] at this
    omega) (by omega)]
   unfold spanQ
   rw [show j + 1 - j = 1 by omega]
   have hpl : plainQ t j = true := decide_eq_true e4
   simp [hpl, e0]
 by_cases a5 : axis = xAnc
 ·subst a5
  have e : ∀ k, inQ t xAnc i k = below t k i := fun k => by
   unfold inQ
   rw [if_neg (by decide), if_neg (by decide), if_neg (by decide), if_neg (by decide), if_neg (by decide : ¬ xAnc = xChild), if_neg (by decide), if_pos rfl]
   cases hb : below t k i
   ·simp
   ·rw [anc_plain h hi hb]; rfl
  unfold axisP axisR
  rw [if_neg (by decide), if_neg (by decide), if_neg (by decide), if_neg (by decide), if_pos rfl, if_pos (by decide), funext e]
  show _ = List.reverse (List.filter (fun k => below t k i) (List.range t.length))
  rw [anc_all hi, List.reverse_reverse]
 by_cases a6 : axis = xAncS
 ·subst a6
  have e : ∀ k, inQ t xAncS i k = (decide (k = i) || below t k i) := fun k => by
   unfold inQ
   rw [if_neg (by decide), if_pos rfl]
  unfold axisP axisR
  rw [if_neg (by decide), if_neg (by decide), if_neg (by decide), if_neg (by decide), if_neg (by decide), if_pos rfl, if_pos (by decide), funext e]
  show _ = List.reverse (List.filter (fun k => decide (k = i) || below t k i) (List.range t.length))
  rw [filter_range (a := 0) (b := i + 1) (fun k _ hp => by
   rw [Bool.or_eq_true] at hp
   rcases hp with hp | hp
   ·have := of_decide_eq_true hp
    omega
   ·unfold below at hp; simp at hp; omega) (by omega)]
  unfold spanQ ancL
  rw [Nat.sub_zero, ← List.range_eq_range', List.range_succ, List.filter_append, List.reverse_append]
  have h1 : [i].filter (fun k => decide (k = i) || below t k i) = [i] := by simp
  have h2 : (List.range i).filter (fun k => decide (k = i) || below t k i) = (List.range i).filter (fun k => below t k i) := List.filter_congr fun k hk => by
   have := List.mem_range.1 hk
   rw [decide_eq_false (show ¬ k = i by omega), Bool.false_or]
  rw [h1, h2]
  rfl
 by_cases a7 : axis = xDesc
 ·subst a7
  have e : ∀ k, inQ t xDesc i k = (plainQ t k && below t i k) := fun k => by
   unfold inQ
   rw [if_neg (by decide), if_neg (by decide), if_neg (by decide), if_neg (by decide), if_neg (by decide : ¬ xDesc = xChild), if_neg (by decide), if_neg (by decide), if_pos rfl]
  unfold axisP axisR
  rw [if_neg (by decide), if_neg (by decide), if_neg (by decide), if_neg (by decide), if_neg (by decide), if_neg (by decide), if_pos rfl, if_neg (by decide), funext e]
  show _ = List.filter (fun k => plainQ t k && below t i k) (List.range t.length)
  rw [filter_range (a := i + 1) (b := finAt t i) (fun k _ hp => by
   simp only [Bool.and_eq_true] at hp
   have := of_decide_eq_true hp.2
   omega) hfl]
  refine spanQ_congr fun k h1 h2 => ?_
  unfold below
  rw [decide_eq_true (show i < k ∧ k < finAt t i by omega), Bool.and_true]
 by_cases a8 : axis = xDescS
 ·subst a8
  have e : ∀ k, inQ t xDescS i k = (decide (k = i) || (plainQ t k && below t i k)) := fun k => by
   unfold inQ
   rw [if_neg (by decide), if_neg (by decide), if_pos rfl]
  unfold axisP axisR
  rw [if_neg (by decide), if_neg (by decide), if_neg (by decide), if_neg (by decide), if_neg (by decide), if_neg (by decide), if_neg (by decide), if_pos rfl, if_neg (by decide), funext e]
  show _ = List.filter (fun k => decide (k = i) || (plainQ t k && below t i k)) (List.range t.length)
  rw [filter_range (a := i) (b := finAt t i) (fun k _ hp => by
   rw [Bool.or_eq_true, Bool.and_eq_true] at hp
   rcases hp with hp | hp
   ·have := of_decide_eq_true hp
    omega
   ·have := of_decide_eq_true hp.2
    omega) hfl]
  unfold spanQ
  rw [show finAt t i - i = (finAt t i - (i + 1)) + 1 by omega, List.range'_succ, List.filter_cons, if_pos (by simp)]
  congr 1
  refine List.filter_congr fun k hk => ?_
  rw [List.mem_range'_1] at hk
  unfold below
  rw [decide_eq_false (show ¬ k = i by omega), decide_eq_true (show i < k ∧ k < finAt t i by omega), Bool.and_true, Bool.false_or]
 by_cases a9 : axis = xFoll
 ·subst a9
  have e : ∀ k, inQ t xFoll i k = (plainQ t k && (decide (i < k) && !below t i k)) := fun k => by
   unfold inQ
   rw [if_neg (by decide), if_neg (by decide), if_neg (by decide), if_neg (by decide), if_neg (by decide : ¬ xFoll = xChild), if_neg (by decide), if_neg (by decide), if_neg (by decide), if_pos rfl]
  unfold axisP axisR
  rw [if_neg (by decide), if_neg (by decide), if_neg (by decide), if_neg (by decide), if_neg (by decide), if_neg (by decide), if_neg (by decide), if_neg (by decide), if_pos rfl, if_neg (by decide), funext e]
  show _ = List.filter (fun k => plainQ t k && (decide (i < k) && !below t i k)) (List.range t.length)
  rw [filter_range (a := finAt t i) (b := t.length) (fun k hk hp => by
   simp only [Bool.and_eq_true, Bool.not_eq_true'] at hp
   have h1 := of_decide_eq_true hp.2.1
   have h2 := of_decide_eq_false hp.2.2
   omega) (Nat.le_refl _)]
  refine spanQ_congr fun k h1 h2 => ?_
  unfold below
  rw [decide_eq_true (show i < k by omega), decide_eq_false (show ¬ (i < k ∧ k < finAt t i) by omega)]
  simp
 by_cases a10 : axis = xFollS
 ·subst a10
  have e : ∀ k, inQ t xFollS i k = (plainQ t k && (decide (i < k) && sibQ t i k)) := fun k => by
   unfold inQ
   rw [if_neg (by decide), if_neg (by decide), if_neg (by decide), if_neg (by decide), if_neg (by decide : ¬ xFollS = xChild), if_neg (by decide), if_neg (by decide), if_neg (by decide), if_neg (by decide), if_neg (by decide), if_pos rfl]
  unfold axisP axisR
  rw [if_neg (by decide), if_neg (by decide), if_neg (by decide), if_neg (by decide), if_neg (by decide), if_neg (by decide), if_neg (by decide), if_neg (by decide), if_neg (by decide), if_pos rfl, if_neg (by decide), funext e]
  show _ = List.filter (fun k => plainQ t k && (decide (i < k) && sibQ t i k)) (List.range t.length)
  unfold sibP
  split
  ·rename_i hn
   symm
   rw [List.filter_eq_nil_iff]
   intro k _ hp
   simp only [Bool.and_eq_true] at hp
   have := of_decide_eq_true hp.2.2
   omega
  ·rename_i hn
   rw [filter_range (a := finAt t i) (b := t.length) (fun k hk hp => by
    simp only [Bool.and_eq_true] at hp
    have h1 := of_decide_eq_true hp.2.1
    have h2 := of_decide_eq_true hp.2.2
    rcases Nat.lt_or_ge k (finAt t i) with hlt | hge
    ·have h3 := h.within i k h1 hlt hk
     obtain ⟨j, e0, e1, _⟩ := h.up i (h.par_pos hi (by omega)) hi
     omega
    ·exact ⟨hge, hk⟩) (Nat.le_refl _)]
   refine spanQ_congr fun k h1 h2 => ?_
   unfold sibQ
   rw [decide_eq_true (show i < k by omega), Bool.true_and]
   congr 1
   refine decide_eq_decide.2 ⟨fun e => ⟨by omega, e.symm, by omega⟩, fun e => e.2.1.symm⟩
 by_cases a11 : axis = xPrec
 ·subst a11
  have e : ∀ k, inQ t xPrec i k = (plainQ t k && (decide (k < i) && !below t k i)) := fun k => by
   unfold inQ
   rw [if_neg (by decide), if_neg (by decide), if_neg (by decide), if_neg (by decide), if_neg (by decide : ¬ xPrec = xChild), if_neg (by decide), if_neg (by decide), if_neg (by decide), if_neg (by decide), if_pos rfl]
  unfold axisP axisR
  rw [if_neg (by decide), if_neg (by decide), if_neg (by decide), if_neg (by decide), if_neg (by decide), if_neg (by decide), if_neg (by decide), if_neg (by decide), if_neg (by decide), if_neg (by decide), if_pos rfl, if_pos (by decide), funext e]
  congr 1
  show _ = List.filter (fun k => plainQ t k && (decide (k < i) && !below t k i)) (List.range t.length)
  rw [filter_range (a := 0) (b := i) (fun k hk hp => by
   simp only [Bool.and_eq_true] at hp
   have h1 := of_decide_eq_true hp.2.1
   omega) (by omega)]
  refine spanQ_congr fun k h1 h2 => ?_
  unfold below
  rw [decide_eq_true h2, Bool.true_and]
  congr 1
  rw [← decide_not]
  exact decide_eq_decide.2 (by omega)
 by_cases a12 : axis = xPrecS
 ·subst a12
  have e : ∀ k, inQ t xPrecS i k = (plainQ t k && (decide (k < i) && sibQ t i k)) := fun k => by
   unfold inQ
   rw [if_neg (by decide), if_neg (by decide), if_neg (by decide), if_neg (by decide), if_neg (by decide : ¬ xPrecS = xChild), if_neg (by decide), if_neg (by decide), if_neg (by decide), if_neg (by decide), if_neg (by decide), if_neg (by decide), if_pos rfl]
  unfold axisP axisR
  rw [if_neg (by decide), if_neg (by decide), if_neg (by decide), if_neg (by decide), if_neg (by decide), if_neg (by decide), if_neg (by decide), if_neg (by decide), if_neg (by decide), if_neg (by decide), if_neg (by decide), if_pos rfl, if_pos (by decide), funext e]
  congr 1
  show _ = List.filter (fun k => plainQ t k && (decide (k < i) && sibQ t i k)) (List.range t.length)
  unfold sibP
  split
  ·rename_i hn
   symm
   rw [List.filter_eq_nil_iff]
   intro k _ hp
   simp only [Bool.and_eq_true] at hp
   have := of_decide_eq_true hp.2.2
   omega
  ·rename_i hn
   rw [filter_range (a := 0) (b := i) (fun k hk hp => by
    simp only [Bool.and_eq_true] at hp
    have h1 := of_decide_eq_true hp.2.1
    omega) (by omega)]
   refine spanQ_congr fun k h1 h2 => ?_
   unfold sibQ
   rw [decide_eq_true h2, Bool.true_and]
   congr 1
   refine decide_eq_decide.2 ⟨fun e => ⟨by omega, e.symm, by omega⟩, fun e => e.2.1.symm⟩
 ·have e : ∀ k, inQ t axis i k = false := fun k => by
   unfold inQ
   rw [if_neg a1, if_neg a6, if_neg a8, if_neg a3, if_neg a2, if_neg a4, if_neg a5, if_neg a7, if_neg a9, if_neg a11, if_neg a10, if_neg a12, Bool.and_false]
  unfold axisP axisR
  rw [if_neg a1, if_neg a2, if_neg a3, if_neg a4, if_neg a5, if_neg a6, if_neg a7, if_neg a8, if_neg a9, if_neg a10, if_neg a11, if_neg a12]
  rw [show inQ t axis i = fun _ => false from funext e]
  have hn : (List.range t.length).filter (fun _ => false) = [] := by simp
  simp only [hn, List.reverse_nil, ite_self]
end
end Go.Proofs.YtdnfnkicmfkkmaaGreatDoor.Vw
end

section
-- wanted: tabD_tab val_eq axis_eq count_axis five pair val_root tabD_paths
namespace Go.Proofs.YtdnfnkicmfkkmaaGreatDoor.Vw
open Go.RowKit UtfW Xl Xt Xo No
open Go.Proofs.YtdnfnkicmfkkmaaGreatDoor (Ky.frontB Ky.Rl)
open Go.Proofs.YtdnfnkicmfkkmaaGreatDoor.Ky (Ts OwX tv join Rs)

theorem q_adr {w : World} {A : Option Addr} {n c : Nat} {t : List Q} (h : Sq QEl 6 w A n c t) (hn : 0 < n) : ∃ b o, A = some ⟨b, o, none⟩ := by
 obtain ⟨b, o, _, _, e, _⟩ := h.at_ hn
 exact ⟨b, o, e⟩
theorem q_row {w : World} {b o n c : Nat} {t : List Q} (h : Sq QEl 6 w (some ⟨b, o, none⟩) n c t) {k : Nat} (hk : k < n) : ∃ q, t[k]? = some q ∧ w.cell? ⟨b, o + k * 6, none⟩ = some (.int .i64 q.kind) ∧ w.cell? ⟨b, o + k * 6 + 1, none⟩ = some (.string (strOf q.name)) ∧ w.cell? ⟨b, o + k * 6 + 2, none⟩ = some (.string (strOf q.text)) ∧ w.cell? ⟨b, o + k * 6 + 3, none⟩ = some (.int .i64 q.parent) ∧ w.cell? ⟨b, o + k * 6 + 4, none⟩ = some (.int .i64 (q.fin : Nat)) ∧ w.cell? ⟨b, o + k * 6 + 5, none⟩ = some (.string (strOf q.path)) := by
 obtain ⟨b', o', q, vs, e, _, hq, _, hv, hc⟩ := h.at_ hk
 injection e with e
 injection e with e1 e2
 subst e1 e2
 obtain rfl : vs = _ := hv
 exact ⟨q, hq, hc 0 _ rfl, hc 1 _ rfl, hc 2 _ rfl, hc 3 _ rfl, hc 4 _ rfl, hc 5 _ rfl⟩

def txS (t : List Q) : Nat := (t.map fun q => q.text.length).sum
theorem txS_append (a b : List Q) : txS (a ++ b) = txS a + txS b := by
 unfold txS
 rw [List.map_append, List.sum_append]
theorem txS_cons (q : Q) (b : List Q) : txS (q :: b) = q.text.length + txS b := by
 unfold txS
 rw [List.map_cons, List.sum_cons]
theorem attr_txS (a : Nat) (path : Tx) : ∀ (n : Nat) (as_ : List At), txS (attrRows a path n as_) ≤ wA as_
 | n, [] => by unfold attrRows; exact Nat.zero_le _
 | n, x :: l => by
  unfold attrRows
  have := attr_txS a path (n + 1) l
  rw [txS_cons, wA]
  simp only
  omega
mutual
theorem tabN_txS (l : List Ky.Rl) : ∀ (n : Nd) (names : List Tx) (a p : Nat) (path : Tx), txS (tabN l names a p path n) ≤ wN n
 | .mk k nm tx as_ ks, names, a, p, path => by
  unfold tabN
  have h1 := tabL_txS l ks names (decide (names ≠ []) && !Ky.frontB l names) (a + 1 + as_.length) a path 0
  have h2 := attr_txS a path (a + 1) as_
  simp only [txS_cons, txS_append]
  rw [wN]
  omega
theorem tabL_txS (l : List Ky.Rl) : ∀ (ks : List Nd) (names : List Tx) (keyed : Bool) (a p : Nat) (path : Tx) (i : Nat), txS (tabL l names keyed a p path i ks) ≤ wL ks
 | [], _, _, _, _, _, _ => by unfold tabL; exact Nat.zero_le _
 | x :: xs, names, keyed, a, p, path, i => by
  unfold tabL
  have h1 := tabN_txS l x (if keyed then names ++ [x.name] else []) a p (path ++ 47 :: (if keyed then endS (stepK l names x) else 35 :: Lib.decDigits (i + 1)))
  have h2 := tabL_txS l xs names keyed (a + (tabN l (if keyed then names ++ [x.name] else []) a p (path ++ 47 :: (if keyed then endS (stepK l names x) else 35 :: Lib.decDigits (i + 1))) x).length) p path (i + 1)
  simp only [txS_append]
  rw [wL]
  omega
end
set_option maxHeartbeats 20000000 in
set_option maxRecDepth 100000 in
theorem above_any {t : List Q} (hT : Tab t) (A : Option Addr) (n c : Nat) (w : World) (h : Sq QEl 6 w A n c t) (a b : Nat) (hb : b < n) :
  Calls Tryz.prog 34 #[.slice A n c, .int .i64 (a : Nat), .int .i64 (b : Nat)] w fun e w' => e = .returned (.bool (below t a b)) ∧ w' = w := by
 have hl := h.len
 have l1 := h.le
 have l2 := h.max
 obtain ⟨R, hR⟩ : ∃ R, below t a b = R := ⟨_, rfl⟩
 rw [hR]
 obtain ⟨b0, o0, rfl⟩ := q_adr h (by omega)
 have h' := Lib.hid h
 have hlH := Lib.hid hl
 have hRH := Lib.hid hR
 have hTH := Lib.hid hT
 clear h hl hR hT
 go_enter Tryz.func34, Tryz.ntmps34
 go_wp2_with fail
 go_loopw [2] (fun v wr => Hid (wr = w) ∧ ∃ B : Int, v = .int .i64 B ∧ Hid ((B = -1 ∧ R = false) ∨ ∃ k : Nat, k < n ∧ B = k ∧ below t a k = R)) (fun v _ => (intOf v + 1).toNat)
 case atStart => exact ⟨Lib.hid rfl, _, rfl, Lib.hid (.inr ⟨b, hb, rfl, hRH.out⟩)⟩
 case round =>
  obtain ⟨hw0, B, rfl, hB⟩ := hrel
  obtain rfl := hw0.out
  rcases hB.out with ⟨rfl, hRf⟩ | ⟨k, hk, rfl, hRk⟩
  ·have hRfH := Lib.hid hRf
   clear hRf hB
   go_wp2_with fail
   go_ret
   exact ⟨by rw [hRfH.out]; rfl, rfl⟩
  ·obtain ⟨q, hq, m0, m1, m2, m3, m4, m5⟩ := q_row h'.out hk
   have hqH := Lib.hid hq
   have hRkH := Lib.hid hRk
   have ek := Lib.hid (at_some hq)
   clear m0 m1 m2 m4 m5 hq hRk hB
   have e1 : decide ((0 : Int) ≤ (k : Int)) = true := by rw [decide_eq_true_eq]; omega
   have e3 : (k : Int) < (n : Int) := by omega
   by_cases hk0 : k = 0
   ·have hp : q.parent = -1 := by
     rw [← ek.out.2.1, hk0, hTH.out.root.1]
    have hno : Hid (R = false) := Lib.hid (by rw [← hRkH.out, hk0, below_zero])
    have e4 : ((-1 : Int) == (a : Int)) = false := by rw [beq_eq_false_iff_ne]; omega
    rw [hp] at m3
    clear hp hk0
    go_wp2_with fail
    go_roundw
    case rel => exact ⟨Lib.hid (by simp), -1, rfl, Lib.hid (.inl ⟨rfl, hno.out⟩)⟩
    case measure => simp [intOf]
   ·obtain ⟨j, hj, hjk, _, _, _⟩ := hTH.out.up k (by omega) (by rw [hlH.out]; exact hk)
    have hp : q.parent = (j : Int) := by rw [← ek.out.2.1, hj]
    have hst := Lib.hid (hTH.out.below_step (a := a) (by rw [hlH.out]; exact hk) hj)
    rw [hp] at m3
    have e4 : decide ((0 : Int) ≤ (j : Int)) = true := by rw [decide_eq_true_eq]; omega
    clear hp hk0 hj
    by_cases hja : j = a
    ·have e5 : ((j : Int) == (a : Int)) = true := by rw [beq_iff_eq]; omega
     have hyes : Hid (R = true) := Lib.hid (by rw [← hRkH.out, hst.out, hja]; simp)
     clear hst hja
     go_wp2_with fail
     go_ret
     exact ⟨by rw [hyes.out]; rfl, rfl⟩
    ·have e5 : ((j : Int) == (a : Int)) = false := by rw [beq_eq_false_iff_ne]; omega
     have hnext : Hid (below t a j = R) := Lib.hid (by rw [← hRkH.out, hst.out]; simp [hja])
     clear hst hja
     go_wp2_with fail
     go_roundw
     case rel => exact ⟨Lib.hid (by simp), _, rfl, Lib.hid (.inr ⟨j, by omega, rfl, hnext.out⟩)⟩
     case measure => simp [intOf]; omega
end Go.Proofs.YtdnfnkicmfkkmaaGreatDoor.Vw
end

section
namespace Go.Proofs.YtdnfnkicmfkkmaaGreatDoor.Vw
open Go.RowKit UtfW Xl Xt Xo No
open Go.Proofs.YtdnfnkicmfkkmaaGreatDoor (Ky.frontB Ky.Rl)
open Go.Proofs.YtdnfnkicmfkkmaaGreatDoor.Ky (Ts OwX tv join Rs)

def valK (t : List Q) (i k : Nat) : Tx := ((List.range k).filter fun j => decide (kindAt t j = 2) && below t i j).flatMap (textAt t)
theorem valK_succ {t : List Q} (i : Nat) {k : Nat} {q : Q} (hq : t[k]? = some q) : valK t i (k + 1) = valK t i k ++ (if q.kind = 2 ∧ below t i k = true then q.text else []) := by
 unfold valK
 rw [List.range_succ, List.filter_append, List.flatMap_append]
 congr 1
 have e := at_some hq
 by_cases h1 : q.kind = 2 ∧ below t i k = true
 ·rw [if_pos h1]
  have h2 : (decide (kindAt t k = 2) && below t i k) = true := by rw [e.1, h1.2]; simpa using h1.1
  simp [h2, e.2.2.2]
 ·rw [if_neg h1]
  have h2 : (decide (kindAt t k = 2) && below t i k) = false := by
   rw [Bool.eq_false_iff]
   intro h3
   simp only [Bool.and_eq_true, decide_eq_true_eq] at h3
   exact h1 ⟨by rw [← e.1]; exact h3.1, h3.2⟩
  simp [h2]
theorem valK_len {t : List Q} (i : Nat) {k : Nat} (hk : k ≤ t.length) : (valK t i k).length ≤ txS t := by
 have h1 : ∀ k, k ≤ t.length → (valK t i k).length ≤ txS (t.take k) := by
  intro k
  induction k with
  | zero => intro _; unfold valK; simp
  | succ k ih =>
   intro hk
   obtain ⟨q, hq⟩ : ∃ q, t[k]? = some q := ⟨_, List.getElem?_eq_getElem (by omega)⟩
   have := ih (by omega)
   rw [valK_succ i hq, take_snoc hq, txS_append, List.length_append, txS_cons]
   split <;> simp <;> omega
 refine Nat.le_trans (h1 k hk) ?_
 have h2 : txS t = txS (t.take k) + txS (t.drop k) := by rw [← txS_append, List.take_append_drop]
 omega

set_option maxHeartbeats 20000000 in
set_option maxRecDepth 100000 in
theorem rvalue_any {t : List Q} (hT : Tab t) (A : Option Addr) (n c : Nat) (w : World) (h : Sq QEl 6 w A n c t) (hz : txS t ≤ 100000000) (i : Int) :
  Calls Tryz.prog 15 #[.slice A n c, .int .i64 i] w fun e w' => e = .returned (.string (strOf (valQ t i))) ∧ w' = w := by
 have hl := h.len
 have l1 := h.le
 have l2 := h.max
 have hl0 := hT.pos
 obtain ⟨b0, o0, rfl⟩ := q_adr h (by omega)
 have h' := Lib.hid h
 have hlH := Lib.hid hl
 have hTH := Lib.hid hT
 have hzH := Lib.hid hz
 clear h hT hz
 by_cases hi0 : i < 0
 ·have hv : valQ t i = [] := by unfold valQ; rw [if_pos (.inl hi0)]
  rw [hv]
  have e1 : decide (i < 0) = true := by rw [decide_eq_true_eq]; exact hi0
  clear hl hl0 hv
  go_enter Tryz.func15, Tryz.ntmps15
  go_wp2_with fail
  go_ret
  exact ⟨rfl, rfl⟩
 have e1 : decide (i < 0) = false := by rw [decide_eq_false_iff_not]; exact hi0
 by_cases hin : (n : Int) ≤ i
 ·have hv : valQ t i = [] := by unfold valQ; rw [if_pos (.inr (by omega))]
  rw [hv]
  have e2 : decide ((n : Int) ≤ i) = true := by rw [decide_eq_true_eq]; exact hin
  clear hl hl0 hv
  go_enter Tryz.func15, Tryz.ntmps15
  go_wp2_with fail
  go_ret
  exact ⟨rfl, rfl⟩
 have e2 : decide ((n : Int) ≤ i) = false := by rw [decide_eq_false_iff_not]; exact hin
 obtain ⟨m, rfl⟩ : ∃ m : Nat, i = (m : Int) := ⟨i.toNat, by omega⟩
 have hm : m < n := by omega
 have e3 : (m : Int) < (n : Int) := by omega
 obtain ⟨q, hq, m0, m1, m2, m3, m4, m5⟩ := q_row h'.out hm
 have ek := at_some hq
 by_cases hkd : q.kind = 6 ∨ q.kind = 1
 ·have hv : valQ t m = valK t m n := by
   unfold valQ valK
   rw [if_neg (by omega), if_neg (by rw [Int.toNat_natCast, ek.1]; omega), Int.toNat_natCast, hl]
  rw [hv]
  clear hl hl0 hv ek hq m1 m2 m3 m4 m5
  rcases hkd with hkd | hkd
  ·rw [hkd] at m0
   clear hkd
   go_enter Tryz.func15, Tryz.ntmps15
   go_wp2_with fail
   go_loopw [5, 6] (fun v5 v6 wr => ∃ (k : Nat) (S : ByteArray), k ≤ n ∧ v6 = .int .i64 (k : Nat) ∧ v5 = .string S ∧ Hid (S = strOf (valK t m k)) ∧ Hid (wr = w)) (fun _ v6 _ => n - (intOf v6).toNat)
   case atStart => exact ⟨0, _, by omega, rfl, rfl, Lib.hid rfl, Lib.hid rfl⟩
   case round =>
    obtain ⟨k, S, hk, rfl, rfl, hS, hw0⟩ := hrel
    obtain rfl := hw0.out
    by_cases hlt : k < n
    ·have i1 : decide ((k : Int) < (n : Int)) = true := by rw [decide_eq_true_eq]; omega
     have i2 : decide (k < n) = true := by rw [decide_eq_true_eq]; omega
     have i3 : (k : Int) < (n : Int) := by omega
     obtain ⟨q, hq, g0, g1, g2, g3, g4, g5⟩ := q_row h'.out hlt
     have hst := Lib.hid (valK_succ m hq)
     have hsz := Lib.hid (valK_len m (k := k + 1) (Nat.le_trans (Nat.le_of_eq rfl) (show k + 1 ≤ t.length by rw [hlH.out]; exact hlt)))
     clear hq g1 g3 g4 g5
     by_cases hk2 : q.kind = 2
     ·rw [hk2] at g0
      have hcall := Lib.hid (above_any hTH.out (some ⟨b0, o0, none⟩) n c wr h'.out m k hlt)
      by_cases hbl : below t m k = true
      ·have hnext' : valK t m (k + 1) = valK t m k ++ q.text := by rw [hst.out, if_pos ⟨hk2, hbl⟩]
       have e5 := fun w => add_txt w (valK t m k) q.text (by
        have h1 := hsz.out
        rw [hnext', List.length_append] at h1
        have h2 := hzH.out
        omega)
       obtain ⟨S1, hS1⟩ : ∃ S, strOf (valK t m k ++ q.text) = S := ⟨_, rfl⟩
       obtain ⟨S2, hS2⟩ : ∃ S, strOf q.text = S := ⟨_, rfl⟩
       rw [hS1, hS2, ← hS.out] at e5
       rw [hS2] at g2
       have hnext : Hid (S1 = strOf (valK t m (k + 1))) := Lib.hid (by rw [← hS1, hnext'])
       rw [hbl] at hcall
       clear hnext' hst hsz hk2 hbl hS1 hS2
       go_wp2_with fail
       refine hcall.out.mono ?_
       rintro e w' ⟨rfl, rfl⟩
       go_wp2_with fail
       go_roundw
       case rel => exact ⟨k + 1, _, by omega, by go_num, rfl, hnext, Lib.hid (by simp)⟩
       case measure => simp [intOf]; omega
      ·have hnext : Hid (S = strOf (valK t m (k + 1))) := Lib.hid (by rw [hS.out, hst.out, if_neg (fun h => hbl h.2), List.append_nil])
       rw [show below t m k = false by simpa using hbl] at hcall
       clear hst hsz hk2 hbl
       go_wp2_with fail
       refine hcall.out.mono ?_
       rintro e w' ⟨rfl, rfl⟩
       go_wp2_with fail
       go_roundw
       case rel => exact ⟨k + 1, _, by omega, by go_num, rfl, hnext, Lib.hid (by simp)⟩
       case measure => simp [intOf]; omega
     ·have hnext : Hid (S = strOf (valK t m (k + 1))) := Lib.hid (by rw [hS.out, hst.out, if_neg (fun h => hk2 h.1), List.append_nil])
      have e5 : (q.kind == 2) = false := by rw [beq_eq_false_iff_ne]; exact hk2
      clear hst hsz hk2
      go_wp2_with fail
      go_roundw
      case rel => exact ⟨k + 1, _, by omega, by go_num, rfl, hnext, Lib.hid (by simp)⟩
      case measure => simp [intOf]; omega
    ·have i1 : decide ((k : Int) < (n : Int)) = false := by rw [decide_eq_false_iff_not]; omega
     have i2 : decide (k < n) = false := by rw [decide_eq_false_iff_not]; omega
     obtain rfl : k = n := by omega
     go_wp2_with fail
     go_ret
     exact ⟨by rw [hS.out]; rfl, rfl⟩
  ·rw [hkd] at m0
   clear hkd
   go_enter Tryz.func15, Tryz.ntmps15
   go_wp2_with fail
   go_loopw [5, 6] (fun v5 v6 wr => ∃ (k : Nat) (S : ByteArray), k ≤ n ∧ v6 = .int .i64 (k : Nat) ∧ v5 = .string S ∧ Hid (S = strOf (valK t m k)) ∧ Hid (wr = w)) (fun _ v6 _ => n - (intOf v6).toNat)
   case atStart => exact ⟨0, _, by omega, rfl, rfl, Lib.hid rfl, Lib.hid rfl⟩
   case round =>
    obtain ⟨k, S, hk, rfl, rfl, hS, hw0⟩ := hrel
    obtain rfl := hw0.out
    by_cases hlt : k < n
    ·have i1 : decide ((k : Int) < (n : Int)) = true := by rw [decide_eq_true_eq]; omega
     have i2 : decide (k < n) = true := by rw [decide_eq_true_eq]; omega
     have i3 : (k : Int) < (n : Int) := by omega
     obtain ⟨q, hq, g0, g1, g2, g3, g4, g5⟩ := q_row h'.out hlt
     have hst := Lib.hid (valK_succ m hq)
     have hsz := Lib.hid (valK_len m (k := k + 1) (Nat.le_trans (Nat.le_of_eq rfl) (show k + 1 ≤ t.length by rw [hlH.out]; exact hlt)))
     clear hq g1 g3 g4 g5
     by_cases hk2 : q.kind = 2
     ·rw [hk2] at g0
      have hcall := Lib.hid (above_any hTH.out (some ⟨b0, o0, none⟩) n c wr h'.out m k hlt)
      by_cases hbl : below t m k = true
      ·have hnext' : valK t m (k + 1) = valK t m k ++ q.text := by rw [hst.out, if_pos ⟨hk2, hbl⟩]
       have e5 := fun w => add_txt w (valK t m k) q.text (by
        have h1 := hsz.out
        rw [hnext', List.length_append] at h1
        have h2 := hzH.out
        omega)
       obtain ⟨S1, hS1⟩ : ∃ S, strOf (valK t m k ++ q.text) = S := ⟨_, rfl⟩
       obtain ⟨S2, hS2⟩ : ∃ S, strOf q.text = S := ⟨_, rfl⟩
       rw [hS1, hS2, ← hS.out] at e5
       rw [hS2] at g2
       have hnext : Hid (S1 = strOf (valK t m (k + 1))) := Lib.hid (by rw [← hS1, hnext'])
       rw [hbl] at hcall
       clear hnext' hst hsz hk2 hbl hS1 hS2
       go_wp2_with fail
       refine hcall.out.mono ?_
       rintro e w' ⟨rfl, rfl⟩
       go_wp2_with fail
       go_roundw
       case rel => exact ⟨k + 1, _, by omega, by go_num, rfl, hnext, Lib.hid (by simp)⟩
       case measure => simp [intOf]; omega
      ·have hnext : Hid (S = strOf (valK t m (k + 1))) := Lib.hid (by rw [hS.out, hst.out, if_neg (fun h => hbl h.2), List.append_nil])
       rw [show below t m k = false by simpa using hbl] at hcall
       clear hst hsz hk2 hbl
       go_wp2_with fail
       refine hcall.out.mono ?_
       rintro e w' ⟨rfl, rfl⟩
       go_wp2_with fail
       go_roundw
       case rel => exact ⟨k + 1, _, by omega, by go_num, rfl, hnext, Lib.hid (by simp)⟩
       case measure => simp [intOf]; omega
     ·have hnext : Hid (S = strOf (valK t m (k + 1))) := Lib.hid (by rw [hS.out, hst.out, if_neg (fun h => hk2 h.1), List.append_nil])
      have e5 : (q.kind == 2) = false := by rw [beq_eq_false_iff_ne]; exact hk2
      clear hst hsz hk2
      go_wp2_with fail
      go_roundw
      case rel => exact ⟨k + 1, _, by omega, by go_num, rfl, hnext, Lib.hid (by simp)⟩
      case measure => simp [intOf]; omega
    ·have i1 : decide ((k : Int) < (n : Int)) = false := by rw [decide_eq_false_iff_not]; omega
     have i2 : decide (k < n) = false := by rw [decide_eq_false_iff_not]; omega
     obtain rfl : k = n := by omega
     go_wp2_with fail
     go_ret
     exact ⟨by rw [hS.out]; rfl, rfl⟩
 ·have hv : valQ t m = q.text := by
   unfold valQ
   rw [if_neg (by omega), if_pos (by rw [Int.toNat_natCast, ek.1]; omega), Int.toNat_natCast, ek.2.2.2]
  rw [hv]
  have e4 : (q.kind != 6) = true := by rw [bne_iff_ne]; omega
  have e5 : (q.kind != 1) = true := by rw [bne_iff_ne]; omega
  clear hl hl0 hv ek hq m1 m3 m4 m5 hkd
  go_enter Tryz.func15, Tryz.ntmps15
  go_wp2_with fail
  go_ret
  exact ⟨rfl, rfl⟩
end Go.Proofs.YtdnfnkicmfkkmaaGreatDoor.Vw
end

section
namespace Go.Proofs.YtdnfnkicmfkkmaaGreatDoor.Ky
open Go.RowKit Go.Shelf UtfW

abbrev Bd (B b : Nat) (l : List UInt8) (w : World) : Prop := Lib.IsBuilder 83 5 B b (Lib.byteCells l) w
theorem Bd.below {B b : Nat} {l : List UInt8} {w w' : World} (h : Bd B b l w) (hb : Below w.heap.size w w') : Bd B b l w' := by
 have key : ∀ p, Lib.BuilderAt 83 5 B b p (Lib.byteCells l) w → Lib.BuilderAt 83 5 B b p (Lib.byteCells l) w' := fun p h => by
  have hlt := h.lt
  obtain ⟨hB, v, hv, hown, hne⟩ := h
  exact ⟨hB, v, (hb.block b hlt).trans hv, hown.kept (row := none) (grown_of_below hb) (Classical.em _), hne⟩
 exact h.elim (fun x => .inl (key _ x)) (fun x => .inr (key _ x))
theorem bd_new (w : World) (B : Nat) (hB : B ≤ w.heap.size) : Bd B w.heap.size [] (w.alloc (.cells #[.pointer none, .slice none 0 0] 83)) :=
 .inl ⟨hB, _, heap_alloc_new w _, World.ownsRow_nil _ B _ 1, by simp [Value.ownBlock]⟩
theorem write_any (B b : Nat) (l : List UInt8) (s : ByteArray) (w : World) (h : Bd B b l w) (hlen : l.length + s.size ≤ 1000000) (hBw : B ≤ w.heap.size) :
  Calls Tryz.prog 32 #[.pointer (some ⟨b, 0, none⟩), .string s] w fun e w' => e = .returned (.tuple #[.int .i64 s.size, .nilIface]) ∧ Bd B b (l ++ s.data.toList) w' ∧ Below B w w' := by
 refine (Any.Builder_WriteString { Tryz.lays156 with } Tryz.extra156 B b (Lib.byteCells l) s w h (by simp [Lib.byteCells]; omega) hBw).mono ?_
 rintro e w' ⟨rfl, h1, h2⟩
 refine ⟨rfl, .inr ?_, h2⟩
 have e : Lib.byteCells (l ++ s.data.toList) = Lib.byteCells l ++ Lib.strCells s := by simp [Lib.byteCells, Lib.strCells]
 rw [e]
 exact h1
theorem string_any (B b : Nat) (l : List UInt8) (w : World) (h : Bd B b l w) (hBw : B ≤ w.heap.size) :
  Calls Tryz.prog 33 #[.pointer (some ⟨b, 0, none⟩)] w fun e w' => e = .returned (.string (strOf l)) ∧ Below B w w' :=
 Any.Builder_String_any { Tryz.lays156 with } Tryz.extra156 B b l w h hBw

end Go.Proofs.YtdnfnkicmfkkmaaGreatDoor.Ky
end

section
namespace Go.Proofs.YtdnfnkicmfkkmaaGreatDoor.Vw
open Go.RowKit UtfW Xl Xt Xo No
open Go.Proofs.YtdnfnkicmfkkmaaGreatDoor (Ky.frontB Ky.Rl)
open Go.Proofs.YtdnfnkicmfkkmaaGreatDoor.Ky (Ts OwX tv join Rs)

def valS (t : List Q) (i k : Nat) : Tx := ((List.range' i k).filter fun j => decide (kindAt t j = 2)).flatMap (textAt t)
theorem valS_succ {t : List Q} (i : Nat) {k : Nat} {q : Q} (hq : t[i + k]? = some q) : valS t i (k + 1) = valS t i k ++ (if q.kind = 2 then q.text else []) := by
 unfold valS
 rw [List.range'_1_concat, List.filter_append, List.flatMap_append]
 congr 1
 have e := at_some hq
 by_cases h1 : q.kind = 2
 ·rw [if_pos h1]
  have h2 : decide (kindAt t (i + k) = 2) = true := by rw [e.1]; simpa using h1
  simp [h2, e.2.2.2]
 ·rw [if_neg h1]
  have h2 : decide (kindAt t (i + k) = 2) = false := by rw [e.1]; simpa using h1
  simp [h2]
theorem valS_len {t : List Q} (i : Nat) {k : Nat} (hk : i + k ≤ t.length) : (valS t i k).length ≤ txS t := by
 have h1 : ∀ k, i + k ≤ t.length → (valS t i k).length ≤ txS (t.take (i + k)) := by
  intro k
  induction k with
  | zero => intro _; unfold valS; simp
  | succ k ih =>
   intro hk
   obtain ⟨q, hq⟩ : ∃ q, t[i + k]? = some q := ⟨_, List.getElem?_eq_getElem (by omega)⟩
   have := ih (by omega)
   rw [valS_succ i hq, ← Nat.add_assoc, take_snoc hq, txS_append, List.length_append, txS_cons]
   split <;> simp <;> omega
 refine Nat.le_trans (h1 k hk) ?_
 have h2 : txS t = txS (t.take (i + k)) + txS (t.drop (i + k)) := by rw [← txS_append, List.take_append_drop]
 omega

set_option maxHeartbeats 20000000 in
set_option maxRecDepth 100000 in
theorem pvalue_any {t : List Q} (hT : Tab t) (A : Option Addr) (n c : Nat) (w : World) (h : Sq QEl 6 w A n c t) (hz : txS t ≤ 1000000) (i : Int) :
  Calls Tryz.prog 14 #[.slice A n c, .int .i64 i] w fun e w' => e = .returned (.string (strOf (valP t i))) ∧ Below w.heap.size w w' := by
 have hl := h.len
 have l1 := h.le
 have l2 := h.max
 have hl0 := hT.pos
 obtain ⟨b0, o0, rfl⟩ := q_adr h (by omega)
 have h' := Lib.hid h
 have hlH := Lib.hid hl
 have hzH := Lib.hid hz
 clear h hz
 by_cases hi0 : i < 0
 ·have hv : valP t i = [] := by unfold valP; rw [if_pos (.inl hi0)]
  rw [hv]
  have e1 : decide (i < 0) = true := by rw [decide_eq_true_eq]; exact hi0
  clear hl hl0 hv hT
  go_enter Tryz.func14, Tryz.ntmps14
  go_wp2_with fail
  go_ret
  exact ⟨rfl, Below.refl _ _⟩
 have e1 : decide (i < 0) = false := by rw [decide_eq_false_iff_not]; exact hi0
 by_cases hin : (n : Int) ≤ i
 ·have hv : valP t i = [] := by unfold valP; rw [if_pos (.inr (by omega))]
  rw [hv]
  have e2 : decide ((n : Int) ≤ i) = true := by rw [decide_eq_true_eq]; exact hin
  clear hl hl0 hv hT
  go_enter Tryz.func14, Tryz.ntmps14
  go_wp2_with fail
  go_ret
  exact ⟨rfl, Below.refl _ _⟩
 have e2 : decide ((n : Int) ≤ i) = false := by rw [decide_eq_false_iff_not]; exact hin
 obtain ⟨m, rfl⟩ : ∃ m : Nat, i = (m : Int) := ⟨i.toNat, by omega⟩
 have hm : m < n := by omega
 have e3 : (m : Int) < (n : Int) := by omega
 obtain ⟨q, hq, m0, m1, m2, m3, m4, m5⟩ := q_row h'.out hm
 have ek := at_some hq
 have hfg := hT.fin_gt (i := m) (by omega)
 have hfl := hT.fin_le (i := m) (by omega)
 rw [ek.2.2.1] at hfg hfl
 rw [hl] at hfl
 by_cases hkd : q.kind = 6 ∨ q.kind = 1
 ·obtain ⟨F, hF⟩ : ∃ F, q.fin - m = F := ⟨_, rfl⟩
  have hfe : q.fin = m + F := by omega
  have hv : valP t m = valS t m F := by
   unfold valP valS spanQ
   rw [if_neg (by omega), if_neg (by rw [Int.toNat_natCast, ek.1]; omega), Int.toNat_natCast, ek.2.2.1, hF]
  rw [hv]
  rw [hfe] at m4 hfl hfg
  have q0 : ((m + F : Nat) : Int) ≤ (c : Int) := by omega
  have q1 : (0 : Int) ≤ ((m + F : Nat) : Int) ∧ ((m + F : Nat) : Int) ≤ (c : Int) := ⟨by omega, by omega⟩
  have q2 : (0 : Int) ≤ (m : Int) ∧ (m : Int) ≤ ((m + F : Nat) : Int) := ⟨by omega, by omega⟩
  have q3 : m + F ≤ c := by omega
  have q4 : (m : Int) ≤ ((m + F : Nat) : Int) := by omega
  have q5 : ¬ c = m := by omega
  have hnb := Ky.bd_new w w.heap.size (Nat.le_refl _)
  have hb1 := below_alloc w (.cells #[.pointer none, .slice none 0 0] 83)
  obtain ⟨T, hT⟩ : ∃ T, w.heap.size = T := ⟨_, rfl⟩
  obtain ⟨w1, hw1⟩ : ∃ w1, w.alloc (.cells #[.pointer none, .slice none 0 0] 83) = w1 := ⟨_, rfl⟩
  obtain ⟨r, hr, u0, u1, u2, u3, u4, u5⟩ := q_row (h'.out.below QEl.to hb1) hm
  obtain rfl : q = r := by rw [hq] at hr; exact Option.some.inj hr
  rw [hw1] at hb1 hnb u4
  rw [hT] at hnb
  rw [hfe] at u4
  have hnb := Lib.hid hnb
  have hb1 := Lib.hid hb1
  have hTH := Lib.hid hT
  clear hl hl0 hv ek hq m1 m2 m3 m4 m5 hF hfe u0 u1 u2 u3 u5 hr
  rcases hkd with hkd | hkd
  ·rw [hkd] at m0
   clear hkd
   go_enter Tryz.func14, Tryz.ntmps14
   go_wp2_with fail
   clear hw1 hT
   go_loopw [44] (fun vi wr => ∃ k : Nat, k ≤ F ∧ vi = .int .i64 (k : Nat) ∧ Hid (Ky.Bd T T (valS t m k) wr) ∧ Hid (Below w.heap.size w wr)) (fun vi _ => F - (intOf vi).toNat)
   case atStart => exact ⟨0, by omega, rfl, hnb, hb1⟩
   case round =>
    obtain ⟨k, hk, rfl, hbd, hb⟩ := hrel
    have hTr : T ≤ wr.heap.size := by have := hb.out.size; have := hTH.out; omega
    by_cases hlt : k < F
    ·have i1 : decide ((k : Int) < (F : Int)) = true := by rw [decide_eq_true_eq]; omega
     have i2 : decide (k < F) = true := by rw [decide_eq_true_eq]; omega
     have i3 : (k : Int) < (F : Int) := by omega
     obtain ⟨q, hq, g0, g1, g2, g3, g4, g5⟩ := q_row (h'.out.below QEl.to hb.out) (k := m + k) (by omega)
     rw [Nat.add_mul, ← Nat.add_assoc] at g0 g1 g2 g3 g4 g5
     have hst := Lib.hid (valS_succ m hq)
     have hsz := Lib.hid (valS_len m (k := k + 1) (show m + (k + 1) ≤ t.length by rw [hlH.out]; omega))
     obtain ⟨S2, hS2⟩ : ∃ S, strOf q.text = S := ⟨_, rfl⟩
     rw [hS2] at g2
     obtain ⟨w7, hw7⟩ : ∃ w7, wr.alloc (.cells #[.int .i64 q.kind, .string (strOf q.name), .string S2, .int .i64 q.parent, .int .i64 (q.fin : Nat), .string (strOf q.path)] 41) = w7 := ⟨_, rfl⟩
     have hb7 := below_alloc wr (.cells #[.int .i64 q.kind, .string (strOf q.name), .string S2, .int .i64 q.parent, .int .i64 (q.fin : Nat), .string (strOf q.path)] 41)
     have hk7 := heap_alloc_new wr (.cells #[.int .i64 q.kind, .string (strOf q.name), .string S2, .int .i64 q.parent, .int .i64 (q.fin : Nat), .string (strOf q.path)] 41)
     rw [hw7] at hb7 hk7
     have hbd7 := Lib.hid (hbd.out.below hb7)
     have hb7' := Lib.hid (hb.out.trans (hb7.mono hb.out.size))
     have hT7 : T ≤ w7.heap.size := by have := hb7.size; omega
     obtain ⟨p7, hp7⟩ : ∃ p7, wr.heap.size = p7 := ⟨_, rfl⟩
     rw [hp7] at hk7
     have c0 := Xp.cell_blk hk7 (i := 0) rfl
     have c2 := Xp.cell_blk hk7 (i := 2) rfl
     clear hq hb7 hk7
     by_cases hk2 : q.kind = 2
     ·have hnext' : valS t m (k + 1) = valS t m k ++ q.text := by rw [hst.out, if_pos hk2]
      have hcall := Lib.hid (Ky.write_any T T (valS t m k) S2 w7 hbd7.out (by
       have h1 := hsz.out
       rw [hnext', List.length_append] at h1
       have h2 := hzH.out
       rw [← hS2, strOf_size']
       omega) hT7)
      have hnx : Hid (valS t m k ++ S2.data.toList = valS t m (k + 1)) := Lib.hid (by rw [hnext', ← hS2]; simp [strOf])
      have e5 : (q.kind == 2) = true := by rw [beq_iff_eq]; exact hk2
      clear hnext' hst hsz hk2
      go_wp2_with fail
      refine hcall.out.mono ?_
      rintro e w' ⟨rfl, hn, hb8⟩
      have hnext := Lib.hid (show Ky.Bd T T (valS t m (k + 1)) w' by rw [← hnx.out]; exact hn)
      have hb8 := Lib.hid (hb7'.out.trans (hb8.mono (by have := hb1.out.size; have := hTH.out; omega)))
      clear hn
      go_wp2_with fail
      go_roundw
      case rel => exact ⟨k + 1, by omega, by go_num, hnext, hb8⟩
      case measure => simp [intOf]; omega
     ·have hnext := Lib.hid (show Ky.Bd T T (valS t m (k + 1)) w7 by rw [hst.out, if_neg hk2, List.append_nil]; exact hbd7.out)
      have e5 : (q.kind == 2) = false := by rw [beq_eq_false_iff_ne]; exact hk2
      have hb8 := hb7'
      clear hst hsz hk2
      go_wp2_with fail
      go_roundw
      case rel => exact ⟨k + 1, by omega, by go_num, hnext, hb8⟩
      case measure => simp [intOf]; omega
    ·have i1 : decide ((k : Int) < (F : Int)) = false := by rw [decide_eq_false_iff_not]; omega
     have i2 : decide (k < F) = false := by rw [decide_eq_false_iff_not]; omega
     obtain rfl : k = F := by omega
     have hcall := Lib.hid (Ky.string_any T T (valS t m k) wr hbd.out hTr)
     go_wp2_with fail
     refine hcall.out.mono ?_
     rintro e w' ⟨rfl, hb9⟩
     have hb9 := Lib.hid (hb.out.trans (hb9.mono (by have := hb1.out.size; have := hTH.out; omega)))
     go_wp2_with fail
     go_ret
     exact ⟨rfl, hb9.out⟩
  ·rw [hkd] at m0
   clear hkd
   go_enter Tryz.func14, Tryz.ntmps14
   go_wp2_with fail
   clear hw1 hT
   go_loopw [44] (fun vi wr => ∃ k : Nat, k ≤ F ∧ vi = .int .i64 (k : Nat) ∧ Hid (Ky.Bd T T (valS t m k) wr) ∧ Hid (Below w.heap.size w wr)) (fun vi _ => F - (intOf vi).toNat)
   case atStart => exact ⟨0, by omega, rfl, hnb, hb1⟩
   case round =>
    obtain ⟨k, hk, rfl, hbd, hb⟩ := hrel
    have hTr : T ≤ wr.heap.size := by have := hb.out.size; have := hTH.out; omega
    by_cases hlt : k < F
    ·have i1 : decide ((k : Int) < (F : Int)) = true := by rw [decide_eq_true_eq]; omega
     have i2 : decide (k < F) = true := by rw [decide_eq_true_eq]; omega
     have i3 : (k : Int) < (F : Int) := by omega
     obtain ⟨q, hq, g0, g1, g2, g3, g4, g5⟩ := q_row (h'.out.below QEl.to hb.out) (k := m + k) (by omega)
     rw [Nat.add_mul, ← Nat.add_assoc] at g0 g1 g2 g3 g4 g5
     have hst := Lib.hid (valS_succ m hq)
     have hsz := Lib.hid (valS_len m (k := k + 1) (show m + (k + 1) ≤ t.length by rw [hlH.out]; omega))
     obtain ⟨S2, hS2⟩ : ∃ S, strOf q.text = S := ⟨_, rfl⟩
     rw [hS2] at g2
     obtain ⟨w7, hw7⟩ : ∃ w7, wr.alloc (.cells #[.int .i64 q.kind, .string (strOf q.name), .string S2, .int .i64 q.parent, .int .i64 (q.fin : Nat), .string (strOf q.path)] 41) = w7 := ⟨_, rfl⟩
     have hb7 := below_alloc wr (.cells #[.int .i64 q.kind, .string (strOf q.name), .string S2, .int .i64 q.parent, .int .i64 (q.fin : Nat), .string (strOf q.path)] 41)
     have hk7 := heap_alloc_new wr (.cells #[.int .i64 q.kind, .string (strOf q.name), .string S2, .int .i64 q.parent, .int .i64 (q.fin : Nat), .string (strOf q.path)] 41)
     rw [hw7] at hb7 hk7
     have hbd7 := Lib.hid (hbd.out.below hb7)
     have hb7' := Lib.hid (hb.out.trans (hb7.mono hb.out.size))
     have hT7 : T ≤ w7.heap.size := by have := hb7.size; omega
     obtain ⟨p7, hp7⟩ : ∃ p7, wr.heap.size = p7 := ⟨_, rfl⟩
     rw [hp7] at hk7
     have c0 := Xp.cell_blk hk7 (i := 0) rfl
     have c2 := Xp.cell_blk hk7 (i := 2) rfl
     clear hq hb7 hk7
     by_cases hk2 : q.kind = 2
     ·have hnext' : valS t m (k + 1) = valS t m k ++ q.text := by rw [hst.out, if_pos hk2]
      have hcall := Lib.hid (Ky.write_any T T (valS t m k) S2 w7 hbd7.out (by
       have h1 := hsz.out
       rw [hnext', List.length_append] at h1
       have h2 := hzH.out
       rw [← hS2, strOf_size']
       omega) hT7)
      have hnx : Hid (valS t m k ++ S2.data.toList = valS t m (k + 1)) := Lib.hid (by rw [hnext', ← hS2]; simp [strOf])
      have e5 : (q.kind == 2) = true := by rw [beq_iff_eq]; exact hk2
      clear hnext' hst hsz hk2
      go_wp2_with fail
      refine hcall.out.mono ?_
      rintro e w' ⟨rfl, hn, hb8⟩
      have hnext := Lib.hid (show Ky.Bd T T (valS t m (k + 1)) w' by rw [← hnx.out]; exact hn)
      have hb8 := Lib.hid (hb7'.out.trans (hb8.mono (by have := hb1.out.size; have := hTH.out; omega)))
      clear hn
      go_wp2_with fail
      go_roundw
      case rel => exact ⟨k + 1, by omega, by go_num, hnext, hb8⟩
      case measure => simp [intOf]; omega
     ·have hnext := Lib.hid (show Ky.Bd T T (valS t m (k + 1)) w7 by rw [hst.out, if_neg hk2, List.append_nil]; exact hbd7.out)
      have e5 : (q.kind == 2) = false := by rw [beq_eq_false_iff_ne]; exact hk2
      have hb8 := hb7'
      clear hst hsz hk2
      go_wp2_with fail
      go_roundw
      case rel => exact ⟨k + 1, by omega, by go_num, hnext, hb8⟩
      case measure => simp [intOf]; omega
    ·have i1 : decide ((k : Int) < (F : Int)) = false := by rw [decide_eq_false_iff_not]; omega
     have i2 : decide (k < F) = false := by rw [decide_eq_false_iff_not]; omega
     obtain rfl : k = F := by omega
     have hcall := Lib.hid (Ky.string_any T T (valS t m k) wr hbd.out hTr)
     go_wp2_with fail
     refine hcall.out.mono ?_
     rintro e w' ⟨rfl, hb9⟩
     have hb9 := Lib.hid (hb.out.trans (hb9.mono (by have := hb1.out.size; have := hTH.out; omega)))
     go_wp2_with fail
     go_ret
     exact ⟨rfl, hb9.out⟩
 ·have hv : valP t m = q.text := by
   unfold valP
   rw [if_neg (by omega), if_pos (by rw [Int.toNat_natCast, ek.1]; omega), Int.toNat_natCast, ek.2.2.2]
  rw [hv]
  have e4 : (q.kind != 6) = true := by rw [bne_iff_ne]; omega
  have e5 : (q.kind != 1) = true := by rw [bne_iff_ne]; omega
  clear hl hl0 hv ek hq m1 m3 m4 m5 hkd hfl hfg hT
  go_enter Tryz.func14, Tryz.ntmps14
  go_wp2_with fail
  go_ret
  exact ⟨rfl, Below.refl _ _⟩
end Go.Proofs.YtdnfnkicmfkkmaaGreatDoor.Vw
end

section
namespace Go.Proofs.YtdnfnkicmfkkmaaGreatDoor.Vw
open Go.RowKit UtfW Xl Xt

theorem count_axis (t : List Q) (axis : Tx) (i k : Nat) (hk : k < t.length) : (axisR t axis i).count k = if inQ t axis i k = true then 1 else 0 := by
 have h : ((List.range t.length).filter (inQ t axis i)).count k = if inQ t axis i k = true then 1 else 0 := by
  split
  ·rename_i hp
   rw [List.count_filter hp]
   rw [List.Nodup.count List.nodup_range, if_pos (List.mem_range.2 hk)]
  ·rename_i hp
   rw [List.count_eq_zero]
   intro hm
   exact hp (List.mem_filter.1 hm).2
 unfold axisR
 split
 ·rw [List.count_reverse]; exact h
 ·exact h
section
variable (t : List Q) (i k : Nat)
theorem in_self : inQ t xSelf i k = decide (k = i) := by unfold inQ; rw [if_pos rfl]
theorem in_child_ : inQ t xChild i k = (plainQ t k && decide (parAt t k = i)) := by
 unfold inQ
 rw [if_neg (by decide), if_neg (by decide), if_neg (by decide), if_neg (by decide), if_pos rfl]
theorem in_parent : inQ t xParent i k = (plainQ t k && decide (parAt t i = k)) := by
 unfold inQ
 rw [if_neg (by decide), if_neg (by decide), if_neg (by decide), if_neg (by decide), if_neg (by decide), if_pos rfl]
theorem in_anc : inQ t xAnc i k = (plainQ t k && below t k i) := by
 unfold inQ
 rw [if_neg (by decide), if_neg (by decide), if_neg (by decide), if_neg (by decide), if_neg (by decide : ¬ xAnc = xChild), if_neg (by decide), if_pos rfl]
theorem in_desc : inQ t xDesc i k = (plainQ t k && below t i k) := by
 unfold inQ
 rw [if_neg (by decide), if_neg (by decide), if_neg (by decide), if_neg (by decide), if_neg (by decide : ¬ xDesc = xChild), if_neg (by decide), if_neg (by decide), if_pos rfl]
theorem in_foll : inQ t xFoll i k = (plainQ t k && (decide (i < k) && !below t i k)) := by
 unfold inQ
 rw [if_neg (by decide), if_neg (by decide), if_neg (by decide), if_neg (by decide), if_neg (by decide : ¬ xFoll = xChild), if_neg (by decide), if_neg (by decide), if_neg (by decide), if_pos rfl]
theorem in_prec : inQ t xPrec i k = (plainQ t k && (decide (k < i) && !below t k i)) := by
 unfold inQ
 rw [if_neg (by decide), if_neg (by decide), if_neg (by decide), if_neg (by decide), if_neg (by decide : ¬ xPrec = xChild), if_neg (by decide), if_neg (by decide), if_neg (by decide), if_neg (by decide), if_pos rfl]
theorem in_follS : inQ t xFollS i k = (plainQ t k && (decide (i < k) && sibQ t i k)) := by
 unfold inQ
 rw [if_neg (by decide), if_neg (by decide), if_neg (by decide), if_neg (by decide), if_neg (by decide : ¬ xFollS = xChild), if_neg (by decide), if_neg (by decide), if_neg (by decide), if_neg (by decide), if_neg (by decide), if_pos rfl]
theorem in_precS : inQ t xPrecS i k = (plainQ t k && (decide (k < i) && sibQ t i k)) := by
 unfold inQ
 rw [if_neg (by decide), if_neg (by decide), if_neg (by decide), if_neg (by decide), if_neg (by decide : ¬ xPrecS = xChild), if_neg (by decide), if_neg (by decide), if_neg (by decide), if_neg (by decide), if_neg (by decide), if_neg (by decide), if_pos rfl]
end
theorem five {t : List Q} (i k : Nat) (hk : k < t.length) : (axisR t xSelf i).count k + ((axisR t xAnc i).count k + ((axisR t xDesc i).count k + ((axisR t xPrec i).count k + (axisR t xFoll i).count k))) = if kindAt t k = 5 ∧ k ≠ i then 0 else 1 := by
 rw [count_axis t _ i k hk, count_axis t _ i k hk, count_axis t _ i k hk, count_axis t _ i k hk, count_axis t _ i k hk, in_self, in_anc, in_desc, in_prec, in_foll]
 unfold plainQ below
 by_cases hp : kindAt t k = 5
 ·by_cases hi : k = i
  ·subst hi; simp [hp]
  ·simp [hp, hi]
 ·rcases Nat.lt_trichotomy k i with h | h | h
  ·by_cases hb : i < finAt t k
   ·simp [hp, h, hb, show ¬ k = i by omega, show ¬ i < k by omega]
   ·simp [hp, h, hb, show ¬ k = i by omega, show ¬ i < k by omega]
  ·subst h; simp [hp]
  ·by_cases hb : k < finAt t i
   ·simp [hp, h, hb, show ¬ k = i by omega, show ¬ k < i by omega]
   ·simp [hp, h, hb, show ¬ k = i by omega, show ¬ k < i by omega]
theorem pair {t : List Q} (i k : Nat) (hi : i < t.length) (hk : k < t.length) (h1 : kindAt t i ≠ 5) (h2 : kindAt t k ≠ 5) :
  (axisR t xChild i).count k = (axisR t xParent k).count i ∧ (axisR t xDesc i).count k = (axisR t xAnc k).count i ∧ (axisR t xFollS i).count k = (axisR t xPrecS k).count i ∧ (axisR t xFoll i).count k = (axisR t xPrec k).count i := by
 have p1 : plainQ t i = true := decide_eq_true h1
 have p2 : plainQ t k = true := decide_eq_true h2
 have hs : sibQ t i k = sibQ t k i := by
  unfold sibQ
  exact decide_eq_decide.2 ⟨fun h => ⟨h2, h.2.1.symm, by rw [← h.2.1]; exact h.2.2⟩, fun h => ⟨h1, h.2.1.symm, by rw [← h.2.1]; exact h.2.2⟩⟩
 refine ⟨?_, ?_, ?_, ?_⟩ <;> rw [count_axis t _ i k hk, count_axis t _ k i hi]
 ·rw [in_child_, in_parent, p1, p2]
 ·rw [in_desc, in_anc, p1, p2]
 ·rw [in_follS, in_precS, p1, p2, hs]
 ·rw [in_foll, in_prec, p1, p2]
theorem val_root {t : List Q} (h : Tab t) : valQ t 0 = ((List.range t.length).filter fun k => decide (kindAt t k = 2)).flatMap (textAt t) := by
 rw [← val_eq h]
 unfold valP
 have := h.pos
 rw [if_neg (by omega), if_neg (by rw [show (0 : Int).toNat = 0 from rfl, h.root.2.2]; omega)]
 rw [show (0 : Int).toNat = 0 from rfl, h.root.2.1]
 unfold spanQ
 rw [Nat.sub_zero, ← List.range_eq_range']
end Go.Proofs.YtdnfnkicmfkkmaaGreatDoor.Vw
end

section
namespace Go.Proofs.YtdnfnkicmfkkmaaGreatDoor.Vw
open Go.RowKit UtfW Xl Xt Xo No
open Go.Proofs.YtdnfnkicmfkkmaaGreatDoor (Ky.frontB Ky.Rl)
open Go.Proofs.YtdnfnkicmfkkmaaGreatDoor.Ky (Ts OwX tv join Rs)

theorem axq (a c : Tx) : ((strOf a).toList == c) = decide (a = c) := by
 rw [Lib.toList_data, show (strOf a).data.toList = a by simp [strOf], Bool.eq_iff_iff]
 simp

end Go.Proofs.YtdnfnkicmfkkmaaGreatDoor.Vw
end

section
namespace Go.Proofs.YtdnfnkicmfkkmaaGreatDoor.Vw
open Go.RowKit UtfW Xl Xt Xo No
open Go.Proofs.YtdnfnkicmfkkmaaGreatDoor (Ky.frontB Ky.Rl)
open Go.Proofs.YtdnfnkicmfkkmaaGreatDoor.Ky (Ts OwX tv join Rs)

def IEl (_ : World) (vs : List Value) (x : Nat) : Prop := vs = [.int .i64 (x : Nat)]
theorem IEl.one {w : World} : ∀ vs x, IEl w vs x → ∀ u ∈ vs, u.oneCell' = true := by
 rintro vs x rfl u hu
 simp at hu
 rw [hu]
 rfl
theorem IEl.to {w w' : World} : ∀ vs x, IEl w vs x → IEl w' vs x := fun _ _ h => h
theorem i_adr {w : World} {A : Option Addr} {n c : Nat} {t : List Nat} (h : Sq IEl 1 w A n c t) (hn : 0 < n) : ∃ b o, A = some ⟨b, o, none⟩ := by
 obtain ⟨b, o, _, _, e, _⟩ := h.at_ hn
 exact ⟨b, o, e⟩
theorem i_row {w : World} {b o n c : Nat} {t : List Nat} (h : Sq IEl 1 w (some ⟨b, o, none⟩) n c t) {k : Nat} (hk : k < n) : ∃ q, t[k]? = some q ∧ w.cell? ⟨b, o + k, none⟩ = some (.int .i64 (q : Nat)) := by
 obtain ⟨b', o', q, vs, e, _, hq, _, hv, hc⟩ := h.at_ hk
 injection e with e
 injection e with e1 e2
 subst e1 e2
 obtain rfl : vs = _ := hv
 have := hc 0 _ rfl
 rw [Nat.mul_one, Nat.add_zero] at this
 exact ⟨q, hq, this⟩

set_option maxHeartbeats 20000000 in
set_option maxRecDepth 100000 in
theorem ints_any (A : Option Addr) (n c : Nat) (xs : List Nat) (A2 : Option Addr) (n2 c2 : Nat) (ys : List Nat) (w : World) (h : Sq IEl 1 w A n c xs) (h2 : Sq IEl 1 w A2 n2 c2 ys) :
    Calls Tryz.prog 16 #[.slice A n c, .slice A2 n2 c2] w fun e w' => e = .returned (.bool (decide (xs = ys))) ∧ Below w.heap.size w w' := by
  have hl := h.len
  have hl2 := h2.len
  have l1 := h.le
  have l2 := h.max
  have l3 := h2.le
  have l4 := h2.max
  obtain ⟨R, hR⟩ : ∃ R, decide (xs = ys) = R := ⟨_, rfl⟩
  rw [hR]
  by_cases hn : n = n2
  · subst hn
    have h' := Lib.hid h
    have h2' := Lib.hid h2
    have hlH := Lib.hid hl
    have hl2H := Lib.hid hl2
    have hRH := Lib.hid hR
    clear h h2 hl hl2 hR
    go_enter Tryz.func16, Tryz.ntmps16
    go_wp2_with fail
    go_loopw [5] (fun vi wr => ∃ k : Nat, k ≤ n ∧ vi = .int .i64 (k : Nat) ∧ Hid (xs.take k = ys.take k) ∧ Hid (Below w.heap.size w wr)) (fun vi _ => n - (intOf vi).toNat)
    case atStart => exact ⟨0, by omega, rfl, Lib.hid rfl, Lib.hid (Below.refl _ _)⟩
    case round =>
      obtain ⟨k, hk, rfl, hsame, hb⟩ := hrel
      by_cases hlt : k < n
      · have i1 : decide ((k : Int) < (n : Int)) = true := by rw [decide_eq_true_eq]; omega
        have i2 : decide (k < n) = true := by rw [decide_eq_true_eq]; omega
        have i3 : (k : Int) < (n : Int) := by omega
        obtain ⟨b1, o1, rfl⟩ := i_adr h'.out (by omega)
        obtain ⟨b2, o2, rfl⟩ := i_adr h2'.out (by omega)
        obtain ⟨qa, hx1, m0⟩ := i_row (h'.out.below IEl.to hb.out) hlt
        obtain ⟨qb, hx2, u0⟩ := i_row (h2'.out.below IEl.to hb.out) hlt
        have hbd := Lib.hid (hb.out.trans ((Joins.below_draws wr.heap.size wr 1).mono hb.out.size))
        have hx1H := Lib.hid hx1
        have hx2H := Lib.hid hx2
        clear hx1 hx2
        go_wp2_with fail
        refine Pl.wp_region_plan 8 (.take 0 (.take 1 (.take 2 (.take 3 (.take 4 (.take 5 (.take 6 (.take 7 .done)))))))) (fun x => x.cell? ⟨b1, o1 + k, none⟩ = some (.int .i64 (qa : Nat)) ∧ x.cell? ⟨b2, o2 + k, none⟩ = some (.int .i64 (qb : Nat))) (by kernel_rfl) (by kernel_rfl) (by exact ⟨m0, u0⟩) ?_
        simp only [Pl.fill, List.getElem?_cons_zero, List.getElem?_cons_succ, List.drop_succ_cons, List.drop_zero]
        iterate 8
          first
          | (refine Pl.take_go ?_ (by rfl) (fun _ _ _ h => h) ?_ ?_
             rotate_left
             · (intro x hSw; (try (dsimp only at hSw)); go_simp; try with_reducible rfl)
             (try simp only [Act.put, List.setIfInBounds_toArray, List.set_cons_zero, List.set_cons_succ]))
          | (refine Pl.take_skip (by rfl) (fun _ _ _ h => h) ?_
             (try simp only [Act.put, List.setIfInBounds_toArray, List.set_cons_zero, List.set_cons_succ]))
        refine Pl.done_go ?_
        clear m0 u0
        by_cases hxy : qa = qb
        · have hnext : Hid (xs.take (k + 1) = ys.take (k + 1)) := Lib.hid (by rw [take_snoc hx1H.out, take_snoc hx2H.out, hsame.out, hxy])
          have hd : ((qa : Int) != (qb : Int)) = false := by rw [bne_eq_false_iff_eq]; omega
          have hd2 : (qa != qb) = false := by rw [bne_eq_false_iff_eq]; exact hxy
          clear hxy
          go_wp2_with fail
          go_roundw
          case rel => exact ⟨k + 1, by omega, by go_num, hnext, hbd⟩
          case measure => simp [intOf]; omega
        · have hd : ((qa : Int) != (qb : Int)) = true := by rw [bne_iff_ne]; omega
          have hd2 : (qa != qb) = true := by rw [bne_iff_ne]; exact hxy
          have hno : Hid (R = false) := Lib.hid (by
            rw [← hRH.out]
            refine decide_eq_false fun e => ?_
            have h3 := hx1H.out
            rw [e, hx2H.out] at h3
            injection h3 with h3
            exact hxy h3.symm)
          clear hxy
          go_wp2_with fail
          go_ret
          exact ⟨by rw [hno.out]; rfl, hbd.out⟩
      · have i1 : decide ((k : Int) < (n : Int)) = false := by rw [decide_eq_false_iff_not]; omega
        have i2 : decide (k < n) = false := by rw [decide_eq_false_iff_not]; omega
        have e1 : k = n := by omega
        subst e1
        have hyes : Hid (R = true) := Lib.hid (by
          rw [← hRH.out]
          refine decide_eq_true ?_
          have h1 := hsame.out
          rw [List.take_of_length_le (by rw [hlH.out]; exact Nat.le_refl _), List.take_of_length_le (by rw [hl2H.out]; exact Nat.le_refl _)] at h1
          exact h1)
        go_wp2_with fail
        go_ret
        exact ⟨by rw [hyes.out]; rfl, hb.out⟩
  · have hno : Hid (R = false) := Lib.hid (by
      rw [← hR]
      refine decide_eq_false fun e => hn ?_
      rw [← hl, ← hl2, e])
    have e1 : ((n : Int) != (n2 : Int)) = true := by rw [bne_iff_ne]; omega
    have e2 : (n != n2) = true := by rw [bne_iff_ne]; exact hn
    clear h h2 hl hl2 hR hn
    go_enter Tryz.func16, Tryz.ntmps16
    go_wp2_with fail
    go_ret
    exact ⟨by rw [hno.out]; rfl, Below.refl _ _⟩
end Go.Proofs.YtdnfnkicmfkkmaaGreatDoor.Vw
end

section
namespace Go.Proofs.YtdnfnkicmfkkmaaGreatDoor.Vw
open Go.RowKit UtfW Xl Xt Xo No
open Go.Proofs.YtdnfnkicmfkkmaaGreatDoor (Ky.frontB Ky.Rl)
open Go.Proofs.YtdnfnkicmfkkmaaGreatDoor.Ky (Ts OwX tv join Rs)

theorem info_i : (Tryz.prog.info? 3).map (fun i => (i.zero, i.size, i.bytes)) = some (some (.int .i64 0), 1, 8) := by kernel_rfl
end Go.Proofs.YtdnfnkicmfkkmaaGreatDoor.Vw
end

section
namespace Go.Proofs.YtdnfnkicmfkkmaaGreatDoor.Vw
open Go.RowKit UtfW Xl Xt Xo No
open Go.Proofs.YtdnfnkicmfkkmaaGreatDoor (Ky.frontB Ky.Rl)
open Go.Proofs.YtdnfnkicmfkkmaaGreatDoor.Ky (Ts OwX tv join Rs)

set_option maxHeartbeats 20000000 in
set_option maxRecDepth 100000 in
theorem vplain_any (q : Q) (w : World) :
  Calls Tryz.prog 37 #[.agg #[.int .i64 q.kind, .string (strOf q.name), .string (strOf q.text), .int .i64 q.parent, .int .i64 (q.fin : Nat), .string (strOf q.path)]] w fun e w' => e = .returned (.bool (q.kind != 5)) ∧ Below w.heap.size w w' := by
 have hb1 := below_alloc w (.cells #[.int .i64 q.kind, .string (strOf q.name), .string (strOf q.text), .int .i64 q.parent, .int .i64 (q.fin : Nat), .string (strOf q.path)] 41)
 have hk1 := heap_alloc_new w (.cells #[.int .i64 q.kind, .string (strOf q.name), .string (strOf q.text), .int .i64 q.parent, .int .i64 (q.fin : Nat), .string (strOf q.path)] 41)
 obtain ⟨T, hT⟩ : ∃ T, w.heap.size = T := ⟨_, rfl⟩
 obtain ⟨w1, hw1⟩ : ∃ w1, w.alloc (.cells #[.int .i64 q.kind, .string (strOf q.name), .string (strOf q.text), .int .i64 q.parent, .int .i64 (q.fin : Nat), .string (strOf q.path)] 41) = w1 := ⟨_, rfl⟩
 rw [hw1] at hb1 hk1
 have g0 := Xp.cell_blk hk1 (i := 0) rfl
 rw [hT] at g0
 have hb1H := Lib.hid hb1
 clear hk1 hb1
 go_enter Tryz.func37, Tryz.ntmps37
 go_wp2_with fail
 go_ret
 exact ⟨rfl, hb1H.out⟩
set_option maxHeartbeats 20000000 in
set_option maxRecDepth 100000 in
theorem axis1_any (q : Q) (w : World) (bi i : Nat) (hi : w.cell? ⟨bi, 0, none⟩ = some (.int .i64 (i : Nat))) (hbi : bi < w.heap.size) :
  Calls Tryz.prog 36 #[.agg #[.int .i64 q.kind, .string (strOf q.name), .string (strOf q.text), .int .i64 q.parent, .int .i64 (q.fin : Nat), .string (strOf q.path)], .pointer (some ⟨bi, 0, none⟩)] w fun e w' => e = .returned (.bool ((q.kind != 5) && (q.parent == (i : Int)))) ∧ Below w.heap.size w w' := by
 have hb1 := below_alloc w (.cells #[.int .i64 q.kind, .string (strOf q.name), .string (strOf q.text), .int .i64 q.parent, .int .i64 (q.fin : Nat), .string (strOf q.path)] 41)
 have hk1 := heap_alloc_new w (.cells #[.int .i64 q.kind, .string (strOf q.name), .string (strOf q.text), .int .i64 q.parent, .int .i64 (q.fin : Nat), .string (strOf q.path)] 41)
 have c0 := (hb1.cell (p := ⟨bi, 0, none⟩) hbi).trans hi
 obtain ⟨T, hT⟩ : ∃ T, w.heap.size = T := ⟨_, rfl⟩
 obtain ⟨w1, hw1⟩ : ∃ w1, w.alloc (.cells #[.int .i64 q.kind, .string (strOf q.name), .string (strOf q.text), .int .i64 q.parent, .int .i64 (q.fin : Nat), .string (strOf q.path)] 41) = w1 := ⟨_, rfl⟩
 rw [hw1] at hb1 hk1 c0
 have g0 := Xp.cell_blk hk1 (i := 0) rfl
 have g1 := Xp.cell_blk hk1 (i := 1) rfl
 have g2 := Xp.cell_blk hk1 (i := 2) rfl
 have g3 := Xp.cell_blk hk1 (i := 3) rfl
 have g4 := Xp.cell_blk hk1 (i := 4) rfl
 have g5 := Xp.cell_blk hk1 (i := 5) rfl
 rw [hT] at g0 g1 g2 g3 g4 g5
 have hp := Lib.hid (vplain_any q w1)
 have hT1 : Hid (T < w1.heap.size) := Lib.hid (by rw [← hT]; exact (Array.getElem?_eq_some_iff.1 hk1).1)
 have hbi1 : Hid (bi < w1.heap.size) := Lib.hid (Nat.lt_of_lt_of_le hbi hb1.size)
 have hb1H := Lib.hid hb1
 clear hk1 hb1 hi hbi
 go_enter Tryz.func36, Tryz.ntmps36
 go_wp2_with fail
 clear hw1 hT
 refine hp.out.mono ?_
 rintro e w2 ⟨rfl, hb2⟩
 have d0 := (hb2.cell (p := ⟨bi, 0, none⟩) hbi1.out).trans c0
 have d3 := (hb2.cell (p := ⟨T, 3, none⟩) hT1.out).trans g3
 have hb := Lib.hid (hb1H.out.trans (hb2.mono hb1H.out.size))
 clear hb2 c0 g0 g1 g2 g3 g4 g5 hp
 cases hk : (q.kind != 5) with
 | true =>
  have hkH := Lib.hid hk
  go_wp2_with fail
  go_ret
  exact ⟨by (try rw [hkH.out]); first | rfl | (simp; done), hb.out⟩
 | false =>
  have hkH := Lib.hid hk
  go_wp2_with fail
  go_ret
  exact ⟨by (try rw [hkH.out]); first | rfl | (simp; done), hb.out⟩
set_option maxHeartbeats 20000000 in
set_option maxRecDepth 100000 in
theorem axis2_any (q : Q) (w : World) (bi i : Nat) (hi : w.cell? ⟨bi, 0, none⟩ = some (.int .i64 (i : Nat))) (hbi : bi < w.heap.size) :
  Calls Tryz.prog 38 #[.agg #[.int .i64 q.kind, .string (strOf q.name), .string (strOf q.text), .int .i64 q.parent, .int .i64 (q.fin : Nat), .string (strOf q.path)], .pointer (some ⟨bi, 0, none⟩)] w fun e w' => e = .returned (.bool (!(q.kind != 5) && (q.parent == (i : Int)))) ∧ Below w.heap.size w w' := by
 have hb1 := below_alloc w (.cells #[.int .i64 q.kind, .string (strOf q.name), .string (strOf q.text), .int .i64 q.parent, .int .i64 (q.fin : Nat), .string (strOf q.path)] 41)
 have hk1 := heap_alloc_new w (.cells #[.int .i64 q.kind, .string (strOf q.name), .string (strOf q.text), .int .i64 q.parent, .int .i64 (q.fin : Nat), .string (strOf q.path)] 41)
 have c0 := (hb1.cell (p := ⟨bi, 0, none⟩) hbi).trans hi
 obtain ⟨T, hT⟩ : ∃ T, w.heap.size = T := ⟨_, rfl⟩
 obtain ⟨w1, hw1⟩ : ∃ w1, w.alloc (.cells #[.int .i64 q.kind, .string (strOf q.name), .string (strOf q.text), .int .i64 q.parent, .int .i64 (q.fin : Nat), .string (strOf q.path)] 41) = w1 := ⟨_, rfl⟩
 rw [hw1] at hb1 hk1 c0
 have g0 := Xp.cell_blk hk1 (i := 0) rfl
 have g1 := Xp.cell_blk hk1 (i := 1) rfl
 have g2 := Xp.cell_blk hk1 (i := 2) rfl
 have g3 := Xp.cell_blk hk1 (i := 3) rfl
 have g4 := Xp.cell_blk hk1 (i := 4) rfl
 have g5 := Xp.cell_blk hk1 (i := 5) rfl
 rw [hT] at g0 g1 g2 g3 g4 g5
 have hp := Lib.hid (vplain_any q w1)
 have hT1 : Hid (T < w1.heap.size) := Lib.hid (by rw [← hT]; exact (Array.getElem?_eq_some_iff.1 hk1).1)
 have hbi1 : Hid (bi < w1.heap.size) := Lib.hid (Nat.lt_of_lt_of_le hbi hb1.size)
 have hb1H := Lib.hid hb1
 clear hk1 hb1 hi hbi
 go_enter Tryz.func38, Tryz.ntmps38
 go_wp2_with fail
 clear hw1 hT
 refine hp.out.mono ?_
 rintro e w2 ⟨rfl, hb2⟩
 have d0 := (hb2.cell (p := ⟨bi, 0, none⟩) hbi1.out).trans c0
 have d3 := (hb2.cell (p := ⟨T, 3, none⟩) hT1.out).trans g3
 have hb := Lib.hid (hb1H.out.trans (hb2.mono hb1H.out.size))
 clear hb2 c0 g0 g1 g2 g3 g4 g5 hp
 cases hk : (q.kind != 5) with
 | true =>
  have hkH := Lib.hid hk
  go_wp2_with fail
  go_ret
  exact ⟨by (try rw [hkH.out]); first | rfl | (simp; done), hb.out⟩
 | false =>
  have hkH := Lib.hid hk
  go_wp2_with fail
  go_ret
  exact ⟨by (try rw [hkH.out]); first | rfl | (simp; done), hb.out⟩
set_option maxHeartbeats 20000000 in
set_option maxRecDepth 100000 in
theorem axis3_any (q : Q) (w : World) (bi i : Nat) (hi : w.cell? ⟨bi, 0, none⟩ = some (.int .i64 (i : Nat))) (hbi : bi < w.heap.size) :
  Calls Tryz.prog 42 #[.agg #[.int .i64 q.kind, .string (strOf q.name), .string (strOf q.text), .int .i64 q.parent, .int .i64 (q.fin : Nat), .string (strOf q.path)], .pointer (some ⟨bi, 0, none⟩)] w fun e w' => e = .returned (.bool ((q.kind != 5) && (decide (q.fin ≤ i)))) ∧ Below w.heap.size w w' := by
 have hb1 := below_alloc w (.cells #[.int .i64 q.kind, .string (strOf q.name), .string (strOf q.text), .int .i64 q.parent, .int .i64 (q.fin : Nat), .string (strOf q.path)] 41)
 have hk1 := heap_alloc_new w (.cells #[.int .i64 q.kind, .string (strOf q.name), .string (strOf q.text), .int .i64 q.parent, .int .i64 (q.fin : Nat), .string (strOf q.path)] 41)
 have c0 := (hb1.cell (p := ⟨bi, 0, none⟩) hbi).trans hi
 obtain ⟨T, hT⟩ : ∃ T, w.heap.size = T := ⟨_, rfl⟩
 obtain ⟨w1, hw1⟩ : ∃ w1, w.alloc (.cells #[.int .i64 q.kind, .string (strOf q.name), .string (strOf q.text), .int .i64 q.parent, .int .i64 (q.fin : Nat), .string (strOf q.path)] 41) = w1 := ⟨_, rfl⟩
 rw [hw1] at hb1 hk1 c0
 have g0 := Xp.cell_blk hk1 (i := 0) rfl
 have g1 := Xp.cell_blk hk1 (i := 1) rfl
 have g2 := Xp.cell_blk hk1 (i := 2) rfl
 have g3 := Xp.cell_blk hk1 (i := 3) rfl
 have g4 := Xp.cell_blk hk1 (i := 4) rfl
 have g5 := Xp.cell_blk hk1 (i := 5) rfl
 rw [hT] at g0 g1 g2 g3 g4 g5
 have hp := Lib.hid (vplain_any q w1)
 have hT1 : Hid (T < w1.heap.size) := Lib.hid (by rw [← hT]; exact (Array.getElem?_eq_some_iff.1 hk1).1)
 have hbi1 : Hid (bi < w1.heap.size) := Lib.hid (Nat.lt_of_lt_of_le hbi hb1.size)
 have hb1H := Lib.hid hb1
 clear hk1 hb1 hi hbi
 go_enter Tryz.func42, Tryz.ntmps42
 go_wp2_with fail
 clear hw1 hT
 refine hp.out.mono ?_
 rintro e w2 ⟨rfl, hb2⟩
 have d0 := (hb2.cell (p := ⟨bi, 0, none⟩) hbi1.out).trans c0
 have d4 := (hb2.cell (p := ⟨T, 4, none⟩) hT1.out).trans g4
 have hb := Lib.hid (hb1H.out.trans (hb2.mono hb1H.out.size))
 clear hb2 c0 g0 g1 g2 g3 g4 g5 hp
 cases hk : (q.kind != 5) with
 | true =>
  have hkH := Lib.hid hk
  go_wp2_with fail
  go_ret
  exact ⟨by (try rw [hkH.out]); first | rfl | (simp; done), hb.out⟩
 | false =>
  have hkH := Lib.hid hk
  go_wp2_with fail
  go_ret
  exact ⟨by (try rw [hkH.out]); first | rfl | (simp; done), hb.out⟩
end Go.Proofs.YtdnfnkicmfkkmaaGreatDoor.Vw
end

section
namespace Go.Proofs.YtdnfnkicmfkkmaaGreatDoor.Vw
open Go.RowKit UtfW Xl Xt Xo No
open Go.Proofs.YtdnfnkicmfkkmaaGreatDoor (Ky.frontB Ky.Rl)
open Go.Proofs.YtdnfnkicmfkkmaaGreatDoor.Ky (Ts OwX tv join Rs)

theorem spanQ_succ {a k : Nat} (h : a ≤ k) (p : Nat → Bool) : spanQ a (k + 1) p = spanQ a k p ++ (if p k then [k] else []) := by
 unfold spanQ
 rw [show k + 1 - a = (k - a) + 1 by omega, List.range'_1_concat, List.filter_append, show a + (k - a) = k by omega]
 congr 1
 cases h : p k <;> simp [List.filter, h]
theorem spanQ_nil {a k : Nat} (h : k ≤ a) (p : Nat → Bool) : spanQ a k p = [] := by
 unfold spanQ
 rw [show k - a = 0 by omega]
 rfl

set_option maxHeartbeats 20000000 in
set_option maxRecDepth 100000 in
theorem span_any {t : List Q} (A : Option Addr) (n c : Nat) (w : World) (h : Sq QEl 6 w A n c t) (hn : n ≤ 1000000) (a b : Nat) (hbn : b ≤ n) (fn : FuncId) (cap : Array Value) (p : Nat → Bool)
  (eF : ∀ args w, (callFunc fn args).run Tryz.prog w = .ok (.enter fn args) w)
  (hF : ∀ (k : Nat) (q : Q) (w1 : World), t[k]? = some q → Below w.heap.size w w1 → Calls Tryz.prog fn (#[.agg #[.int .i64 q.kind, .string (strOf q.name), .string (strOf q.text), .int .i64 q.parent, .int .i64 (q.fin : Nat), .string (strOf q.path)]] ++ cap) w1 fun e w2 => e = .returned (.bool (p k)) ∧ Below w1.heap.size w1 w2) :
  Calls Tryz.prog 35 #[.slice A n c, .int .i64 (a : Nat), .int .i64 (b : Nat), .func (.func fn) #[] cap] w fun e w' => ∃ A' m c', e = .returned (.slice A' m c') ∧ OwS IEl 1 w' w.heap.size 3 (.slice A' m c') (spanQ a b p) ∧ Below w.heap.size w w' := by
 have hl := h.len
 have l1 := h.le
 have l2 := h.max
 have h' := Lib.hid h
 have hFH := Lib.hid hF
 clear h hF
 go_enter Tryz.func35, Tryz.ntmps35
 go_wp2_with fail
 go_loopw [9, 10] (fun v vi wr => ∃ (k : Nat) (Ao : Option Addr) (m co : Nat), a ≤ k ∧ (k ≤ b ∨ k = a) ∧ m ≤ k ∧ vi = .int .i64 (k : Nat) ∧ v = .slice Ao m co ∧ Hid ((spanQ a k p).length = m) ∧ Hid (OwS IEl 1 wr w.heap.size 3 (.slice Ao m co) (spanQ a k p)) ∧ Hid (Below w.heap.size w wr)) (fun _ vi _ => b - (intOf vi).toNat)
 case atStart => exact ⟨a, none, 0, 0, by omega, .inr rfl, by omega, rfl, rfl, Lib.hid (by rw [spanQ_nil (Nat.le_refl _)]; rfl), Lib.hid (by rw [spanQ_nil (Nat.le_refl _)]; exact OwS.nil _ _ _), Lib.hid (Below.refl _ _)⟩
 case round =>
  obtain ⟨k, Ao, m, co, hak, hkb, hmk, rfl, rfl, hm, how, hb⟩ := hrel
  by_cases hlt : k < b
  ·have i1 : decide ((k : Int) < (b : Int)) = true := by rw [decide_eq_true_eq]; omega
   have i2 : decide (k < b) = true := by rw [decide_eq_true_eq]; omega
   have i3 : (k : Int) < (b : Int) := by omega
   have hkn : k < n := by omega
   have i4 : (k : Int) < (n : Int) := by omega
   obtain ⟨b0, o0, rfl⟩ := q_adr h'.out (by omega)
   obtain ⟨q, hq, g0, g1, g2, g3, g4, g5⟩ := q_row (h'.out.below QEl.to hb.out) hkn
   have hcall := Lib.hid (hFH.out k q wr hq hb.out)
   have hpt := Lib.hid (spanQ_succ hak p)
   clear hq
   cases hin : p k with
   | false =>
    rw [hin] at hcall
    have hnext : Hid (spanQ a (k + 1) p = spanQ a k p) := Lib.hid (by rw [hpt.out, hin]; simp)
    clear hin hpt
    go_wp2_with fail
    refine hcall.out.mono ?_
    rintro e w4 ⟨rfl, hb4⟩
    have hb4H := Lib.hid (hb.out.trans (hb4.mono hb.out.size))
    have how4 : Hid (OwS IEl 1 w4 w.heap.size 3 (.slice Ao m co) (spanQ a (k + 1) p)) := Lib.hid (by rw [hnext.out]; exact how.out.below hb4 IEl.to)
    have hm4 : Hid ((spanQ a (k + 1) p).length = m) := Lib.hid (by rw [hnext.out]; exact hm.out)
    clear hb4 hcall g0 g1 g2 g3 g4 g5
    go_wp2_with fail
    go_roundw
    case rel => exact ⟨k + 1, Ao, m, co, by omega, .inl (by omega), by omega, by go_num, rfl, hm4, how4, hb4H⟩
    case measure => simp [intOf]; omega
   | true =>
    rw [hin] at hcall
    have hnext : Hid (spanQ a (k + 1) p = spanQ a k p ++ [k]) := Lib.hid (by rw [hpt.out, hin]; simp)
    clear hin hpt
    go_wp2_with fail
    refine hcall.out.mono ?_
    rintro e w4 ⟨rfl, hb4⟩
    have hb4H := Lib.hid (hb.out.trans (hb4.mono hb.out.size))
    have how4 := how.out.below hb4 IEl.to
    have hbl4 := below_alloc w4 (.cells #[.int .i64 (k : Nat)] 3)
    have hlit := Lib.hid (ows_lit (El := IEl) (k := 1) w4 [.int .i64 (k : Nat)] k 3 rfl (by decide) rfl)
    have how5 := Lib.hid (how4.below hbl4 IEl.to)
    have hb5 := Lib.hid (hb4H.out.trans (hbl4.mono hb4H.out.size))
    clear hb4 how4 hbl4 hcall g0 g1 g2 g3 g4 g5
    go_wp2_with (at_builtin; apply stop_here)
    refine Stop.go (append_sq (El := IEl) (k := 1) _ 37 3 (.int .i64 0) 8 Tryz.underlying37 info_i rfl (by omega) rfl _ _ rfl w.heap.size (.slice Ao m co) (spanQ a k p) rfl how5.out _ 1 1 [k] rfl (hlit.out.sq' (by omega)) IEl.one (fun _ _ => IEl.to) (m + 1) (by rw [hm.out]) (by omega) (by omega) hb5.out.size ?_)
    intro A8 c8 x8 ho8 hg8 hb8 hv8
    have hb9 := Lib.hid (hb5.out.trans hb8)
    have ho9 : Hid (OwS IEl 1 x8 w.heap.size 3 (.slice A8 (m + 1) c8) (spanQ a (k + 1) p)) := Lib.hid (by rw [hnext.out]; exact ho8)
    have hm9 : Hid ((spanQ a (k + 1) p).length = m + 1) := Lib.hid (by rw [hnext.out, List.length_append, hm.out]; rfl)
    clear ho8 hg8 hb8 hv8
    go_wp2_with fail
    go_roundw
    case rel => exact ⟨k + 1, A8, m + 1, c8, by omega, .inl (by omega), by omega, by go_num, rfl, hm9, ho9, hb9⟩
    case measure => simp [intOf]; omega
  ·have i1 : decide ((k : Int) < (b : Int)) = false := by rw [decide_eq_false_iff_not]; omega
   have i2 : decide (k < b) = false := by rw [decide_eq_false_iff_not]; omega
   have he : Hid (spanQ a k p = spanQ a b p) := Lib.hid (by
    rcases Nat.eq_or_lt_of_le (show b ≤ k by omega) with e | e
    ·rw [e]
    ·rw [spanQ_nil (show k ≤ a by omega), spanQ_nil (show b ≤ a by omega)])
   go_wp2_with fail
   go_ret
   exact ⟨_, _, _, rfl, by rw [← he.out]; exact how.out, hb.out⟩
end Go.Proofs.YtdnfnkicmfkkmaaGreatDoor.Vw
end

section
namespace Go.Proofs.YtdnfnkicmfkkmaaGreatDoor.Vw
open Go.RowKit UtfW Xl Xt Xo No
open Go.Proofs.YtdnfnkicmfkkmaaGreatDoor (Ky.frontB Ky.Rl)
open Go.Proofs.YtdnfnkicmfkkmaaGreatDoor.Ky (Ts OwX tv join Rs)

theorem anc_len (t : List Q) (i : Nat) : (ancL t i).length ≤ i := by
 unfold ancL
 rw [List.length_reverse]
 refine Nat.le_trans (List.length_filter_le _ _) ?_
 simp
def AncR (t : List Q) (n : Nat) (i : Nat) (done : List Nat) (P : Int) : Prop := (P = -1 ∧ done = ancL t i) ∨ ∃ k : Nat, k < n ∧ P = (k : Int) ∧ done ++ k :: ancL t k = ancL t i
theorem AncR.start {t : List Q} (hT : Tab t) {n i : Nat} (hn : t.length = n) (hi : i < n) : AncR t n i [] (parAt t i) := by
 rcases Nat.eq_zero_or_pos i with rfl | h0
 ·exact .inl ⟨hT.root.1, (hT.anc_end (by omega) (by rw [hT.root.1]; omega)).symm⟩
 ·obtain ⟨j, e, e1, _⟩ := hT.up i h0 (by omega)
  exact .inr ⟨j, by omega, e, (hT.anc_step (by omega) e).symm⟩
theorem AncR.step {t : List Q} (hT : Tab t) {n i k : Nat} {done : List Nat} (hn : t.length = n) (hk : k < n) (h : done ++ k :: ancL t k = ancL t i) : AncR t n i (done ++ [k]) (parAt t k) := by
 rcases Nat.eq_zero_or_pos k with rfl | h0
 ·exact .inl ⟨hT.root.1, by rw [← h, hT.anc_end (i := 0) (by omega) (by rw [hT.root.1]; omega)]⟩
 ·obtain ⟨j, e, e1, _⟩ := hT.up k h0 (by omega)
  exact .inr ⟨j, by omega, e, by rw [← h, hT.anc_step (i := k) (by omega) e]; simp⟩

set_option maxHeartbeats 20000000 in
set_option maxRecDepth 100000 in
theorem anc_any {t : List Q} (hT : Tab t) (A : Option Addr) (n c : Nat) (w : World) (h : Sq QEl 6 w A n c t) (hn : n ≤ 1000000) (i : Nat) (hi : i < n) :
  Calls Tryz.prog 39 #[.slice A n c, .int .i64 (i : Nat)] w fun e w' => ∃ A' m c', e = .returned (.slice A' m c') ∧ OwS IEl 1 w' w.heap.size 3 (.slice A' m c') (ancL t i) ∧ Below w.heap.size w w' := by
 have hl := h.len
 have l1 := h.le
 have l2 := h.max
 obtain ⟨b0, o0, rfl⟩ := q_adr h (by omega)
 have h' := Lib.hid h
 have hlH := Lib.hid hl
 have hTH := Lib.hid hT
 obtain ⟨q, hq, m0, m1, m2, m3, m4, m5⟩ := q_row h hi
 have hst : Hid (AncR t n i [] q.parent) := Lib.hid (by rw [← (at_some hq).2.1]; exact AncR.start hT hl hi)
 obtain ⟨P0, hP0⟩ : ∃ P, q.parent = P := ⟨_, rfl⟩
 rw [hP0] at m3 hst
 have e3 : (i : Int) < (n : Int) := by omega
 have hal := Lib.hid (anc_len t i)
 clear h hl hT m0 m1 m2 m4 m5 hq hP0
 go_enter Tryz.func39, Tryz.ntmps39
 go_wp2_with fail
 go_loopw [5, 6] (fun v vi wr => ∃ (done : List Nat) (Ao : Option Addr) (m co : Nat) (P : Int), vi = .int .i64 P ∧ v = .slice Ao m co ∧ Hid (done.length = m) ∧ Hid (AncR t n i done P) ∧ Hid (OwS IEl 1 wr w.heap.size 3 (.slice Ao m co) done) ∧ Hid (Below w.heap.size w wr)) (fun _ vi _ => (intOf vi + 1).toNat)
 case atStart => exact ⟨[], none, 0, 0, P0, rfl, rfl, Lib.hid rfl, hst, Lib.hid (OwS.nil _ _ _), Lib.hid (Below.refl _ _)⟩
 case round =>
  obtain ⟨done, Ao, m, co, P, rfl, rfl, hm, hr, how, hb⟩ := hrel
  rcases hr.out with ⟨rfl, hdn⟩ | ⟨k, hk, rfl, hdn⟩
  ·have hdnH := Lib.hid hdn
   clear hr hdn
   go_wp2_with fail
   go_ret
   exact ⟨_, _, _, rfl, by rw [← hdnH.out]; exact how.out, hb.out⟩
  ·have hnx := Lib.hid (AncR.step hTH.out hlH.out hk hdn)
   have hmb : m + 1 ≤ 1000000 := by
    have h1 := congrArg List.length hdn
    have h2 := hal.out
    have h3 := hm.out
    simp at h1
    omega
   clear hr hdn
   have e1 : decide ((0 : Int) ≤ (k : Int)) = true := by rw [decide_eq_true_eq]; omega
   have e4 : (k : Int) < (n : Int) := by omega
   have hbl := below_alloc wr (.cells #[.int .i64 (k : Nat)] 3)
   have hlit := Lib.hid (ows_lit (El := IEl) (k := 1) wr [.int .i64 (k : Nat)] k 3 rfl (by decide) rfl)
   have how5 := Lib.hid (how.out.below hbl IEl.to)
   have hb5 := Lib.hid (hb.out.trans (hbl.mono hb.out.size))
   clear hbl
   go_wp2_with (at_builtin; apply stop_here)
   refine Stop.go (append_sq (El := IEl) (k := 1) _ 37 3 (.int .i64 0) 8 Tryz.underlying37 info_i rfl (by omega) rfl _ _ rfl w.heap.size (.slice Ao m co) done rfl how5.out _ 1 1 [k] rfl (hlit.out.sq' (by omega)) IEl.one (fun _ _ => IEl.to) (m + 1) (by rw [hm.out]) (by omega) (by omega) hb5.out.size ?_)
   intro A8 c8 x8 ho8 hg8 hb8 hv8
   have hb9 := Lib.hid (hb5.out.trans hb8)
   have ho9 := Lib.hid ho8
   have hm9 : Hid ((done ++ [k]).length = m + 1) := Lib.hid (by rw [List.length_append, hm.out]; rfl)
   clear ho8 hg8 hb8 hv8
   obtain ⟨q, hq, m0, m1, m2, m3, m4, m5⟩ := q_row (h'.out.below QEl.to hb9.out) hk
   have hpq : parAt t k = q.parent := (at_some hq).2.1
   have hlt9 : Hid (q.parent < (k : Int)) := Lib.hid (by
    rw [← hpq]
    rcases Nat.eq_zero_or_pos k with rfl | h0
    ·rw [hTH.out.root.1]; omega
    ·obtain ⟨j, e, e1, _⟩ := hTH.out.up k h0 (by rw [hlH.out]; exact hk)
     rw [e]; omega)
   rw [hpq] at hnx
   clear hq hpq m0 m1 m2 m4 m5
   go_wp2_with fail
   go_roundw
   case rel => exact ⟨done ++ [k], A8, m + 1, c8, q.parent, rfl, rfl, hm9, hnx, ho9, hb9⟩
   case measure => have := hlt9.out; simp [intOf]; omega
end Go.Proofs.YtdnfnkicmfkkmaaGreatDoor.Vw
end

section
namespace Go.Proofs
open Go.Shelf Go.RowKit
shelf_lay Lays.n112 Nm 112 at Tryz as Tryz.lays112
end Go.Proofs
namespace Go.Proofs.YtdnfnkicmfkkmaaGreatDoor.Vw
open Go.RowKit UtfW Xl Xt Xo No
open Go.Proofs.YtdnfnkicmfkkmaaGreatDoor (Ky.frontB Ky.Rl)
open Go.Proofs.YtdnfnkicmfkkmaaGreatDoor.Ky (Ts OwX tv join Rs)

def iv (x : Nat) : Value := .int .i64 (x : Nat)
theorem reads_i {w : World} {xs : List Value} {l : List Nat} (h : Reads IEl 1 w xs l) : xs = l.map iv := by
 obtain ⟨V, rfl, h1, h2, h3⟩ := h
 have hV : V = l.map fun x => [iv x] := by
  apply List.ext_getElem (by simpa using h1)
  intro j hj hj2
  rw [List.getElem_map]
  exact h3 j V[j] (l[j]'(by simpa using hj2)) (List.getElem?_eq_getElem hj) (List.getElem?_eq_getElem (by simpa using hj2))
 rw [hV]
 clear h1 h2 h3 hV
 induction l with
 | nil => rfl
 | cons x l ih => simp [ih]
theorem i_reads (w : World) (l : List Nat) : Reads IEl 1 w (l.map iv) l := by
 refine ⟨l.map fun x => [iv x], ?_, by simp, fun v hv => ?_, fun i vs x hi hx => ?_⟩
 ·induction l with
  | nil => rfl
  | cons x l ih => simpa using ih
 ·obtain ⟨x, _, rfl⟩ := List.mem_map.1 hv
  rfl
 ·rw [List.getElem?_map, hx] at hi
  simp at hi
  rw [← hi]
  rfl
def zi (l : List Nat) : List Int := l.map Int.ofNat
theorem ows_rev {w : World} {B E : Nat} {A : Option Addr} {m c : Nat} {l : List Nat} (h : OwS IEl 1 w B E (.slice A m c) l) (hB : B ≤ w.heap.size) : (m = 0 ∧ l = []) ∨ ∃ g, A = some ⟨g, 0, none⟩ ∧ l.length = m ∧ Go.Sort.Holds (Value.int .i64) w g 0 (zi l).toArray ∧
  ∀ n, OwS IEl 1 (Go.Sort.putRow (Value.int .i64) (Go.Sort.ahead w n) g 0 (zi l).reverse.toArray) B E (.slice A m c) l.reverse ∧ Below B w (Go.Sort.putRow (Value.int .i64) (Go.Sort.ahead w n) g 0 (zi l).reverse.toArray) := by
 obtain ⟨xs, h1, h2⟩ := h
 obtain rfl := reads_i h2
 obtain ⟨e1, e2⟩ := h1
 rcases e2 with ⟨hv, hx⟩ | ⟨g, cap, cur, hv, hg, hb, hn, hcap, hsz, htk⟩
 ·injection hv with _ hm _
  exact .inl ⟨hm, List.eq_nil_of_length_eq_zero hx⟩
 ·injection hv with hv1 hv2 hv3
  subst hv1 hv2 hv3
  have hzl : (zi l).length = l.length := List.length_map _
  refine .inr ⟨g, rfl, rfl, fun j hj => ⟨?_, frozen_of_row w g _ _ _ hb⟩, fun n => ⟨?_, ?_⟩⟩
  ·have hjl : j < l.length := by simpa [hzl] using hj
   have h5 : (cur.toList.take (l.length * 1))[j]? = some (iv l[j]) := by rw [htk, List.getElem?_map, List.getElem?_eq_getElem hjl]; rfl
   rw [Nat.mul_one, List.getElem?_take_of_lt hjl, Array.getElem?_toList] at h5
   simp only [World.cell?, hb, Nat.zero_add]
   rw [h5]
   simp [iv, zi, hjl]
  ·have h6 := ownsRow_sortedI (n := n) (os := #[]) (ss := zi l) (ts := (zi l).reverse) (by simp) hg hb (by rw [hzl]; exact hn) hcap hsz
   rw [Go.Sort.grow_empty, hzl, show (zi l).reverse.map (Value.int .i64) = l.reverse.map iv by simp [zi, iv]] at h6
   refine ⟨_, ?_, i_reads _ _⟩
   rw [List.length_reverse]
   exact h6
  ·have h7 := grownBy_sortedI (w := w) (g := g) (n := n) (os := #[]) (zi l).reverse.toArray
   rw [Go.Sort.grow_empty] at h7
   exact (Below.refl B w).grown h7 hB (fun k hk => by injection hk with hk; omega)
set_option maxHeartbeats 2000000 in
set_option maxRecDepth 100000 in
theorem back_any {B : Nat} {A : Option Addr} {m c : Nat} {l : List Nat} (w : World) (h : OwS IEl 1 w B 3 (.slice A m c) l) (hB : B ≤ w.heap.size) (hm : m ≤ 1000000) :
  Calls Tryz.prog 41 #[.slice A m c] w fun e w' => e = .returned (.slice A m c) ∧ OwS IEl 1 w' B 3 (.slice A m c) l.reverse ∧ Below B w w' := by
 rcases ows_rev h hB with ⟨rfl, rfl⟩ | ⟨g, rfl, rfl, hH, hr⟩
 ·have hcall := Lib.hid (Any.slices_Reverse_int_empty Tryz.lays112 A c w)
  have hH := Lib.hid h
  clear h
  go_enter Tryz.func41, Tryz.ntmps41
  go_wp2_with fail
  refine hcall.out.mono ?_
  rintro e w' ⟨rfl, rfl⟩
  go_wp2_with fail
  go_ret
  exact ⟨rfl, hH.out, Below.refl _ _⟩
 ·have hc := Any.slices_Reverse_int Tryz.lays112 g 0 c (zi l) w hH (by rw [show (zi l).length = l.length from List.length_map _]; omega)
  rw [show (zi l).length = l.length from List.length_map _] at hc
  have hcall := Lib.hid hc
  have hrH := Lib.hid hr
  clear h hH hc hr
  go_enter Tryz.func41, Tryz.ntmps41
  go_wp2_with fail
  refine hcall.out.mono ?_
  rintro e w' ⟨rfl, n, rfl⟩
  go_wp2_with fail
  go_ret
  exact ⟨rfl, (hrH.out n).1, (hrH.out n).2⟩
end Go.Proofs.YtdnfnkicmfkkmaaGreatDoor.Vw
end

section
namespace Go.Proofs.YtdnfnkicmfkkmaaGreatDoor.Vw
open Go.RowKit UtfW Xl Xt Xo No
open Go.Proofs.YtdnfnkicmfkkmaaGreatDoor (Ky.frontB Ky.Rl)
open Go.Proofs.YtdnfnkicmfkkmaaGreatDoor.Ky (Ts OwX tv join Rs)

set_option maxHeartbeats 20000000 in
set_option maxRecDepth 100000 in
theorem sib1_any {t : List Q} (q : Q) (A : Option Addr) (n c : Nat) (w : World) (h : Sq QEl 6 w A n c t) (i : Nat) (hi : i < n) (bt bi : Nat) (ht : w.cell? ⟨bt, 0, none⟩ = some (.slice A n c)) (hi0 : w.cell? ⟨bi, 0, none⟩ = some (.int .i64 (i : Nat))) (hbt : bt < w.heap.size) (hbi : bi < w.heap.size) :
    Calls Tryz.prog 67 #[.agg #[.int .i64 q.kind, .string (strOf q.name), .string (strOf q.text), .int .i64 q.parent, .int .i64 (q.fin : Nat), .string (strOf q.path)], .pointer (some ⟨bt, 0, none⟩), .pointer (some ⟨bi, 0, none⟩)] w fun e w' => e = .returned (.bool ((q.kind != 5) && (q.parent == parAt t i))) ∧ Below w.heap.size w w' := by
  have hl := h.len
  have l1 := h.le
  have l2 := h.max
  obtain ⟨b0, o0, rfl⟩ := q_adr h (by omega)
  have hb0l : b0 < w.heap.size := h.lt _ rfl (by omega)
  have hb1 := below_alloc w (.cells #[.int .i64 q.kind, .string (strOf q.name), .string (strOf q.text), .int .i64 q.parent, .int .i64 (q.fin : Nat), .string (strOf q.path)] 41)
  have hk1 := heap_alloc_new w (.cells #[.int .i64 q.kind, .string (strOf q.name), .string (strOf q.text), .int .i64 q.parent, .int .i64 (q.fin : Nat), .string (strOf q.path)] 41)
  have hbd : Below w.heap.size w (w.alloc (.cells #[.int .i64 q.kind, .string (strOf q.name), .string (strOf q.text), .int .i64 q.parent, .int .i64 (q.fin : Nat), .string (strOf q.path)] 41)).drew := hb1.trans ((Joins.below_draws w.heap.size _ 1))
  obtain ⟨r, hr, u0, u1, u2, u3, u4, u5⟩ := q_row (h.below QEl.to hbd) hi
  have hpr : parAt t i = r.parent := (at_some hr).2.1
  rw [hpr]
  have c0 := (hbd.cell (p := ⟨bt, 0, none⟩) hbt).trans ht
  have c1 := (hbd.cell (p := ⟨bi, 0, none⟩) hbi).trans hi0
  have hlT : w.heap.size < (w.alloc (.cells #[.int .i64 q.kind, .string (strOf q.name), .string (strOf q.text), .int .i64 q.parent, .int .i64 (q.fin : Nat), .string (strOf q.path)] 41)).drew.heap.size := by
    have h1 : (w.alloc (.cells #[.int .i64 q.kind, .string (strOf q.name), .string (strOf q.text), .int .i64 q.parent, .int .i64 (q.fin : Nat), .string (strOf q.path)] 41)).heap.size = w.heap.size + 1 := World.size_alloc _ _
    have h2 := (Joins.below_draws w.heap.size (w.alloc (.cells #[.int .i64 q.kind, .string (strOf q.name), .string (strOf q.text), .int .i64 q.parent, .int .i64 (q.fin : Nat), .string (strOf q.path)] 41)) 1).size
    exact Nat.lt_of_lt_of_le (by omega) h2
  obtain ⟨T, hT⟩ : ∃ T, w.heap.size = T := ⟨_, rfl⟩
  obtain ⟨w1, hw1⟩ : ∃ w1, w.alloc (.cells #[.int .i64 q.kind, .string (strOf q.name), .string (strOf q.text), .int .i64 q.parent, .int .i64 (q.fin : Nat), .string (strOf q.path)] 41) = w1 := ⟨_, rfl⟩
  rw [hw1] at hbd hk1 c0 c1 u3 hlT
  rw [hT] at hk1 hlT
  have g0 := Xp.cell_blk hk1 (i := 0) rfl
  have g1 := Xp.cell_blk hk1 (i := 1) rfl
  have g2 := Xp.cell_blk hk1 (i := 2) rfl
  have g3 := Xp.cell_blk hk1 (i := 3) rfl
  have g4 := Xp.cell_blk hk1 (i := 4) rfl
  have g5 := Xp.cell_blk hk1 (i := 5) rfl
  have hp := Lib.hid (vplain_any q w1.drew)
  have hbdH := Lib.hid hbd
  have hlTH := Lib.hid hlT
  have hS2 : Hid (∀ x, Below w1.drew.heap.size w1.drew x → (x.cell? ⟨T, 0, none⟩ = some (.int .i64 q.kind) ∧ x.cell? ⟨T, 1, none⟩ = some (.string (strOf q.name)) ∧ x.cell? ⟨T, 2, none⟩ = some (.string (strOf q.text)) ∧ x.cell? ⟨T, 3, none⟩ = some (.int .i64 q.parent) ∧ x.cell? ⟨T, 4, none⟩ = some (.int .i64 (q.fin : Nat)) ∧ x.cell? ⟨T, 5, none⟩ = some (.string (strOf q.path)) ∧ x.cell? ⟨bt, 0, none⟩ = some (.slice (some ⟨b0, o0, none⟩) n c) ∧ x.cell? ⟨bi, 0, none⟩ = some (.int .i64 (i : Nat)) ∧ x.cell? ⟨b0, o0 + i * 6 + 3, none⟩ = some (.int .i64 r.parent))) := Lib.hid fun x hb => ⟨(hb.cell (p := ⟨T, 0, none⟩) hlT).trans g0, (hb.cell (p := ⟨T, 1, none⟩) hlT).trans g1, (hb.cell (p := ⟨T, 2, none⟩) hlT).trans g2, (hb.cell (p := ⟨T, 3, none⟩) hlT).trans g3, (hb.cell (p := ⟨T, 4, none⟩) hlT).trans g4, (hb.cell (p := ⟨T, 5, none⟩) hlT).trans g5, (hb.cell (p := ⟨bt, 0, none⟩) (Nat.lt_of_lt_of_le hbt hbd.size)).trans c0, (hb.cell (p := ⟨bi, 0, none⟩) (Nat.lt_of_lt_of_le hbi hbd.size)).trans c1, (hb.cell (p := ⟨b0, o0 + i * 6 + 3, none⟩) (Nat.lt_of_lt_of_le hb0l hbd.size)).trans u3⟩
  have e3 : (i : Int) < (n : Int) := by omega
  clear hb1 hk1 hbd h hr ht hi0 hbt hbi hb0l u0 u1 u2 u3 u4 u5 c0 c1 hlT hpr hl
  cases hk : (q.kind != 5) with
  | true =>
    rw [hk] at hp
    have hkH := Lib.hid hk
    clear hk
    go_enter Tryz.func67, Tryz.ntmps67
    go_wp2_with fail
    clear hw1 hT
    refine Pl.wp_region_plan 10 (.take 0 (.run 1 (.take 2 (.take 3 (.take 4 (.take 5 (.take 6 (.take 7 (.take 8 (.take 9 .done)))))))))) (fun x => x.cell? ⟨T, 0, none⟩ = some (.int .i64 q.kind) ∧ x.cell? ⟨T, 1, none⟩ = some (.string (strOf q.name)) ∧ x.cell? ⟨T, 2, none⟩ = some (.string (strOf q.text)) ∧ x.cell? ⟨T, 3, none⟩ = some (.int .i64 q.parent) ∧ x.cell? ⟨T, 4, none⟩ = some (.int .i64 (q.fin : Nat)) ∧ x.cell? ⟨T, 5, none⟩ = some (.string (strOf q.path)) ∧ x.cell? ⟨bt, 0, none⟩ = some (.slice (some ⟨b0, o0, none⟩) n c) ∧ x.cell? ⟨bi, 0, none⟩ = some (.int .i64 (i : Nat)) ∧ x.cell? ⟨b0, o0 + i * 6 + 3, none⟩ = some (.int .i64 r.parent)) (by kernel_rfl) (by kernel_rfl) (by exact hS2.out _ (Below.refl _ _)) ?_
    simp only [Pl.fill, List.getElem?_cons_zero, List.getElem?_cons_succ, List.drop_succ_cons, List.drop_zero]
    iterate 1
      first
      | (refine Pl.take_go ?_ (by rfl) (fun _ _ _ h => h) ?_ ?_
         rotate_left
         · (intro x hSw; (try (dsimp only at hSw)); go_simp; try with_reducible rfl)
         (try simp only [Act.put, List.setIfInBounds_toArray, List.set_cons_zero, List.set_cons_succ]))
      | (refine Pl.take_skip (by rfl) (fun _ _ _ h => h) ?_
         (try simp only [Act.put, List.setIfInBounds_toArray, List.set_cons_zero, List.set_cons_succ]))
    refine Pl.run_go (fun K hK => ?_)
    go_simp
    refine hp.out.mono ?_
    rintro e w2 ⟨rfl, hb2⟩
    have hb := Lib.hid (hbdH.out.trans (hb2.mono hbdH.out.size))
    have hs2 := hS2.out w2 hb2
    clear hb2 hp
    dsimp only
    refine hK.out _ _ (Pl.more_go (fun x => x.cell? ⟨T, 0, none⟩ = some (.int .i64 q.kind) ∧ x.cell? ⟨T, 1, none⟩ = some (.string (strOf q.name)) ∧ x.cell? ⟨T, 2, none⟩ = some (.string (strOf q.text)) ∧ x.cell? ⟨T, 3, none⟩ = some (.int .i64 q.parent) ∧ x.cell? ⟨T, 4, none⟩ = some (.int .i64 (q.fin : Nat)) ∧ x.cell? ⟨T, 5, none⟩ = some (.string (strOf q.path)) ∧ x.cell? ⟨bt, 0, none⟩ = some (.slice (some ⟨b0, o0, none⟩) n c) ∧ x.cell? ⟨bi, 0, none⟩ = some (.int .i64 (i : Nat)) ∧ x.cell? ⟨b0, o0 + i * 6 + 3, none⟩ = some (.int .i64 r.parent)) (fun _ h => h) (by exact hs2) ?_)
    clear hK K
    try simp only [Act.put, List.setIfInBounds_toArray, List.set_cons_zero, List.set_cons_succ]
    iterate 8
      first
      | (refine Pl.take_go ?_ (by rfl) (fun _ _ _ h => h) ?_ ?_
         rotate_left
         · (intro x hSw; (try (dsimp only at hSw)); go_simp; try with_reducible rfl)
         (try simp only [Act.put, List.setIfInBounds_toArray, List.set_cons_zero, List.set_cons_succ]))
      | (refine Pl.take_skip (by rfl) (fun _ _ _ h => h) ?_
         (try simp only [Act.put, List.setIfInBounds_toArray, List.set_cons_zero, List.set_cons_succ]))
    refine Pl.done_go ?_
    go_wp2_with fail
    go_ret
    exact ⟨by (try rw [hkH.out]); first | rfl | (simp; done), hb.out⟩
  | false =>
    rw [hk] at hp
    have hkH := Lib.hid hk
    clear hk
    go_enter Tryz.func67, Tryz.ntmps67
    go_wp2_with fail
    clear hw1 hT
    refine Pl.wp_region_plan 10 (.take 0 (.run 1 (.take 2 (.take 3 (.take 4 (.take 5 (.take 6 (.take 7 (.take 8 (.take 9 .done)))))))))) (fun x => x.cell? ⟨T, 0, none⟩ = some (.int .i64 q.kind) ∧ x.cell? ⟨T, 1, none⟩ = some (.string (strOf q.name)) ∧ x.cell? ⟨T, 2, none⟩ = some (.string (strOf q.text)) ∧ x.cell? ⟨T, 3, none⟩ = some (.int .i64 q.parent) ∧ x.cell? ⟨T, 4, none⟩ = some (.int .i64 (q.fin : Nat)) ∧ x.cell? ⟨T, 5, none⟩ = some (.string (strOf q.path)) ∧ x.cell? ⟨bt, 0, none⟩ = some (.slice (some ⟨b0, o0, none⟩) n c) ∧ x.cell? ⟨bi, 0, none⟩ = some (.int .i64 (i : Nat)) ∧ x.cell? ⟨b0, o0 + i * 6 + 3, none⟩ = some (.int .i64 r.parent)) (by kernel_rfl) (by kernel_rfl) (by exact hS2.out _ (Below.refl _ _)) ?_
    simp only [Pl.fill, List.getElem?_cons_zero, List.getElem?_cons_succ, List.drop_succ_cons, List.drop_zero]
    iterate 1
      first
      | (refine Pl.take_go ?_ (by rfl) (fun _ _ _ h => h) ?_ ?_
         rotate_left
         · (intro x hSw; (try (dsimp only at hSw)); go_simp; try with_reducible rfl)
         (try simp only [Act.put, List.setIfInBounds_toArray, List.set_cons_zero, List.set_cons_succ]))
      | (refine Pl.take_skip (by rfl) (fun _ _ _ h => h) ?_
         (try simp only [Act.put, List.setIfInBounds_toArray, List.set_cons_zero, List.set_cons_succ]))
    refine Pl.run_go (fun K hK => ?_)
    go_simp
    refine hp.out.mono ?_
    rintro e w2 ⟨rfl, hb2⟩
    have hb := Lib.hid (hbdH.out.trans (hb2.mono hbdH.out.size))
    have hs2 := hS2.out w2 hb2
    clear hb2 hp
    dsimp only
    refine hK.out _ _ (Pl.more_go (fun x => x.cell? ⟨T, 0, none⟩ = some (.int .i64 q.kind) ∧ x.cell? ⟨T, 1, none⟩ = some (.string (strOf q.name)) ∧ x.cell? ⟨T, 2, none⟩ = some (.string (strOf q.text)) ∧ x.cell? ⟨T, 3, none⟩ = some (.int .i64 q.parent) ∧ x.cell? ⟨T, 4, none⟩ = some (.int .i64 (q.fin : Nat)) ∧ x.cell? ⟨T, 5, none⟩ = some (.string (strOf q.path)) ∧ x.cell? ⟨bt, 0, none⟩ = some (.slice (some ⟨b0, o0, none⟩) n c) ∧ x.cell? ⟨bi, 0, none⟩ = some (.int .i64 (i : Nat)) ∧ x.cell? ⟨b0, o0 + i * 6 + 3, none⟩ = some (.int .i64 r.parent)) (fun _ h => h) (by exact hs2) ?_)
    clear hK K
    try simp only [Act.put, List.setIfInBounds_toArray, List.set_cons_zero, List.set_cons_succ]
    iterate 8
      first
      | (refine Pl.take_go ?_ (by rfl) (fun _ _ _ h => h) ?_ ?_
         rotate_left
         · (intro x hSw; (try (dsimp only at hSw)); go_simp; try with_reducible rfl)
         (try simp only [Act.put, List.setIfInBounds_toArray, List.set_cons_zero, List.set_cons_succ]))
      | (refine Pl.take_skip (by rfl) (fun _ _ _ h => h) ?_
         (try simp only [Act.put, List.setIfInBounds_toArray, List.set_cons_zero, List.set_cons_succ]))
    refine Pl.done_go ?_
    go_wp2_with fail
    go_ret
    exact ⟨by (try rw [hkH.out]); first | rfl | (simp; done), hb.out⟩
end Go.Proofs.YtdnfnkicmfkkmaaGreatDoor.Vw
end

section
namespace Go.Proofs.YtdnfnkicmfkkmaaGreatDoor.Vw
open Go.RowKit UtfW Xl Xt Xo No
open Go.Proofs.YtdnfnkicmfkkmaaGreatDoor (Ky.frontB Ky.Rl)
open Go.Proofs.YtdnfnkicmfkkmaaGreatDoor.Ky (Ts OwX tv join Rs)

set_option maxHeartbeats 20000000 in
set_option maxRecDepth 100000 in
theorem sib_any {t : List Q} (A : Option Addr) (n c : Nat) (w : World) (h : Sq QEl 6 w A n c t) (hn : n ≤ 1000000) (i : Nat) (hi : i < n) (a b : Nat) (hbn : b ≤ n) :
  Calls Tryz.prog 40 #[.slice A n c, .int .i64 (i : Nat), .int .i64 (a : Nat), .int .i64 (b : Nat)] w fun e w' => ∃ A' m c', e = .returned (.slice A' m c') ∧ OwS IEl 1 w' w.heap.size 3 (.slice A' m c') (sibP t i a b) ∧ Below w.heap.size w w' := by
 have hl := h.len
 have l1 := h.le
 have l2 := h.max
 obtain ⟨b0, o0, rfl⟩ := q_adr h (by omega)
 have hb1 := below_alloc w (.cells #[.slice (some ⟨b0, o0, none⟩) n c] 30)
 have hk1 := heap_alloc_new w (.cells #[.slice (some ⟨b0, o0, none⟩) n c] 30)
 obtain ⟨T, hT⟩ : ∃ T, w.heap.size = T := ⟨_, rfl⟩
 obtain ⟨w1, hw1⟩ : ∃ w1, w.alloc (.cells #[.slice (some ⟨b0, o0, none⟩) n c] 30) = w1 := ⟨_, rfl⟩
 rw [hw1] at hb1 hk1
 rw [hT] at hk1
 have hT1 : T < w1.heap.size := (Array.getElem?_eq_some_iff.1 hk1).1
 have hb2 := below_alloc w1 (.cells #[.int .i64 (i : Nat)] 3)
 have hk2 := heap_alloc_new w1 (.cells #[.int .i64 (i : Nat)] 3)
 obtain ⟨U, hU⟩ : ∃ T, w1.heap.size = T := ⟨_, rfl⟩
 obtain ⟨w2, hw2⟩ : ∃ w2, w1.alloc (.cells #[.int .i64 (i : Nat)] 3) = w2 := ⟨_, rfl⟩
 rw [hw2] at hb2 hk2
 rw [hU] at hk2
 have hU2 : U < w2.heap.size := (Array.getElem?_eq_some_iff.1 hk2).1
 have hT2 : T < w2.heap.size := Nat.lt_of_lt_of_le hT1 hb2.size
 have g1 := (hb2.cell (p := ⟨T, 0, none⟩) hT1).trans (Xp.cell_blk hk1 (i := 0) rfl)
 have g2 := Xp.cell_blk hk2 (i := 0) rfl
 have hb12 := hb1.trans (hb2.mono hb1.size)
 have h2 := h.below QEl.to hb12
 obtain ⟨q, hq, u0, u1, u2, u3, u4, u5⟩ := q_row h2 hi
 have hat := at_some hq
 have e3 : (i : Int) < (n : Int) := by omega
 have hspan := Lib.hid (span_any _ n c w2 h2 hn a b hbn 67 #[.pointer (some ⟨T, 0, none⟩), .pointer (some ⟨U, 0, none⟩)] (fun k => plainQ t k && decide (parAt t k = parAt t i)) (fun args w => by kernel_rfl) (fun k x w3 hx hb3 => by
  have hxk := at_some hx
  have e : (plainQ t k && decide (parAt t k = parAt t i)) = ((x.kind != 5) && (x.parent == parAt t i)) := by
   unfold plainQ
   rw [hxk.1, hxk.2.1]
   congr 1
   ·rw [Bool.eq_iff_iff, decide_eq_true_eq, bne_iff_ne]
  rw [e]
  exact sib1_any x _ n c w3 (h2.below QEl.to hb3) i hi T U ((hb3.cell (p := ⟨T, 0, none⟩) hT2).trans g1) ((hb3.cell (p := ⟨U, 0, none⟩) hU2).trans g2) (Nat.lt_of_lt_of_le hT2 hb3.size) (Nat.lt_of_lt_of_le hU2 hb3.size)))
 have hb12H := Lib.hid hb12
 have hatH := Lib.hid hat
 clear h h2 hb1 hb2 hk1 hk2 hb12 hT1 hU2 hT2 hq hat u1 u2 u4 u5 hl
 by_cases hk5 : q.kind = 5
 ·have hz : Hid (sibP t i a b = []) := Lib.hid (by unfold sibP; rw [if_pos (.inl (by rw [hatH.out.1]; exact hk5))])
  have k5 : (q.kind == 5) = true := by rw [beq_iff_eq]; exact hk5
  clear hk5 hspan
  go_enter Tryz.func40, Tryz.ntmps40
  go_wp2_with fail
  go_ret
  exact ⟨_, _, _, rfl, by rw [hz.out]; exact OwS.nil _ _ _, hb12H.out⟩
 have k5 : (q.kind == 5) = false := by rw [beq_eq_false_iff_ne]; exact hk5
 by_cases hp0 : q.parent < 0
 ·have hz : Hid (sibP t i a b = []) := Lib.hid (by unfold sibP; rw [if_pos (.inr (by rw [hatH.out.2.1]; exact hp0))])
  have k6 : decide (q.parent < 0) = true := decide_eq_true hp0
  clear hk5 hspan hp0
  go_enter Tryz.func40, Tryz.ntmps40
  go_wp2_with fail
  go_ret
  exact ⟨_, _, _, rfl, by rw [hz.out]; exact OwS.nil _ _ _, hb12H.out⟩
 have k6 : decide (q.parent < 0) = false := decide_eq_false hp0
 have hz : Hid (sibP t i a b = spanQ a b fun k => plainQ t k && decide (parAt t k = parAt t i)) := Lib.hid (by unfold sibP; rw [if_neg (by rw [hatH.out.1, hatH.out.2.1]; exact fun h => h.elim hk5 hp0)])
 clear hk5 hp0
 go_enter Tryz.func40, Tryz.ntmps40
 go_wp2_with fail
 refine hspan.out.mono ?_
 rintro e w3 ⟨A', m, c', rfl, ho, hb⟩
 have hoH := Lib.hid ho
 have hbH := Lib.hid hb
 clear ho hb hspan
 go_wp2_with fail
 go_ret
 exact ⟨_, _, _, rfl, by rw [hz.out]; exact hoH.out.down hb12H.out.size, hb12H.out.trans (hbH.out.mono hb12H.out.size)⟩
end Go.Proofs.YtdnfnkicmfkkmaaGreatDoor.Vw
end
