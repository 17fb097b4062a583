/- Rows of structs of the call's own; appended to. No program stands here. -/
import Derived.Test.YtokdnhdfmgfkeaaGreatDoorWUtfEnc
import Derived.SizedLaws
import Derived.Deep.Slices
import Derived.Deep.Fields
import Derived.ChangeSame
import Derived.Maps.AppendAt
set_option linter.unusedVariables false
set_option linter.unusedSimpArgs false
section
namespace Go.Proofs.YtokdnhdfmgfkeaaGreatDoor
open Go.RowKit
def Sized {H : Type} (P : Program) (t : TypeId) (d : DataW H) : Prop := ∀ x ∈ d.weights P t, x <= 140737488351232
theorem sized_each {H : Type} {P : Program} {ts : List TypeId} {ds : List (DataW H)} (h : (DataW.weightsEach P ts ds).all (· <= reachBytes) = true)
  {j : Nat} {t : TypeId} {d : DataW H} (ht : ts[j]? = some t) (hd : ds[j]? = some d) : Sized P t d := by
 intro x hx;have := List.all_eq_true.1 h _ (DataW.weights_mem_each ht hd x hx);exact of_decide_eq_true this
theorem range_get {n j i : Nat} (h : (List.range n)[j]? = some i) : j < n /\ i = j := by
 obtain ⟨h1, h2⟩ := List.getElem?_eq_some_iff.1 h;rw [List.getElem_range] at h2;exact ⟨by simpa using h1, h2.symm⟩
theorem weights_mem_all {H : Type} {P : Program} {e : TypeId} {d : DataW H} {l : List (DataW H)} (hd : d ∈ l) {x : Nat} (hx : x ∈ d.weights P e) : x ∈ DataW.weightsAll P e l := by
 induction l with
 | nil => simp at hd
 | cons d' l ih =>
  simp only [DataW.weightsAll, List.mem_append];rcases List.mem_cons.1 hd with rfl | h
  ·exact .inl hx
  ·exact .inr (ih h)
theorem Sized.elem {H : Type} {P : Program} {t e : TypeId} {elems spare : List (DataW H)} (ht : P.underlying t = some (.slice e)) (h : Sized P t (.slice elems spare)) {d : DataW H} (hd : d ∈ elems) : Sized P e d := by
 intro x hx;refine h x ?_;simp only [DataW.weights, ht];exact List.mem_cons_of_mem _ (List.mem_append_left _ (weights_mem_all hd hx))
theorem Sized.row {H : Type} {P : Program} {t e : TypeId} {elems spare : List (DataW H)} (ht : P.underlying t = some (.slice e)) (h : Sized P t (.slice elems spare)) : (elems.length + spare.length) * P.bytesOf e <= 140737488351232 :=
 h _ (by simp [DataW.weights, ht])
section
variable {H : Type} {enc : TypeId × Value -> H} {P : Program} {w : World} {t e q : TypeId}
end
end Go.Proofs.YtokdnhdfmgfkeaaGreatDoor
end

section
namespace Go.Proofs.YtokdnhdfmgfkeaaGreatDoor
open Go.RowKit
open Go.Deep (oneCellFields)
structure Sq {α : Type} (El : World -> List Value -> α -> Prop) (k : Nat) (w : World) (A : Option Addr) (n c : Nat) (l : List α) : Prop where
 len : l.length = n
 le : n <= c
 max : c <= 9223372036854775807
 nil : A = none -> n = 0 /\ c = 0
 cell : 0 < n -> ∃ b off, A = some ⟨b, off, none⟩ /\ b < w.heap.size /\ ∀ i x, l[i]? = some x -> ∃ vs : List Value, vs.length = k /\ El w vs x /\ ∀ j v, vs[j]? = some v -> w.cell? ⟨b, off + i * k + j, none⟩ = some v
section
variable {α : Type} {El : World -> List Value -> α -> Prop} {k : Nat} {w w' : World} {A : Option Addr} {n c : Nat} {l : List α}
theorem Sq.none_ (w : World) : Sq El k w none 0 0 [] := ⟨rfl, Nat.le_refl _, by omega, fun _ => ⟨rfl, rfl⟩, fun h => absurd h (by omega)⟩
theorem Sq.below (h : Sq El k w A n c l) (hE : ∀ vs x, El w vs x -> El w' vs x) (hb : Below w.heap.size w w') : Sq El k w' A n c l :=
 ⟨h.len, h.le, h.max, h.nil, fun hn => by
  obtain ⟨b, off, e, hlt, hc⟩ := h.cell hn;refine ⟨b, off, e, Nat.lt_of_lt_of_le hlt hb.size, fun i x hi => ?_⟩;obtain ⟨vs, h1, h2, h3⟩ := hc i x hi
  exact ⟨vs, h1, hE _ _ h2, fun j v hj => (hb.cell (p := ⟨b, off + i * k + j, none⟩) hlt).trans (h3 j v hj)⟩⟩
theorem Sq.at_ {i : Nat} (h : Sq El k w A n c l) (hi : i < n) : ∃ b off x vs, A = some ⟨b, off, none⟩ /\ b < w.heap.size /\ l[i]? = some x /\ vs.length = k /\ El w vs x /\ ∀ j v, vs[j]? = some v -> w.cell? ⟨b, off + i * k + j, none⟩ = some v := by
 obtain ⟨b, off, e, hb, hc⟩ := h.cell (by omega);have hl : i < l.length := by have := h.len; omega
 obtain ⟨vs, h1, h2, h3⟩ := hc i l[i] (List.getElem?_eq_getElem hl);exact ⟨b, off, l[i], vs, e, hb, List.getElem?_eq_getElem hl, h1, h2, h3⟩
theorem sq_of_own {B E : Nat} {v : Value} {xs : List Value} (h : w.ownsRow B E k v n xs) (hk : 0 < k) (hl : l.length = n) (hx : ∀ i x, l[i]? = some x -> ∃ vs : List Value, vs.length = k /\ El w vs x /\ ∀ j u, vs[j]? = some u -> xs[i * k + j]? = some u) :
  ∃ A c, v = .slice A n c /\ Sq El k w A n c l := by
 obtain ⟨hxl, h⟩ := h;rcases h with ⟨rfl, h0⟩ | ⟨g, cap, cur, rfl, hB, hh, hnc, hm, hs, ht⟩
 ·subst h0;have : l = [] := List.eq_nil_of_length_eq_zero hl;subst this;exact ⟨_, _, rfl, Sq.none_ w⟩
 ·have hg : g < w.heap.size := (Array.getElem?_eq_some_iff.1 hh).1;refine ⟨_, _, rfl, hl, hnc, by unfold maxLen at hm; omega, fun h => by simp at h, fun _ => ⟨g, 0, rfl, hg, fun i x hi => ?_⟩⟩;obtain ⟨vs, h1, h2, h3⟩ := hx i x hi;refine ⟨vs, h1, h2, fun j u hu => ?_⟩;have := h3 j u hu;rw [<- ht, List.getElem?_take] at this
  split at this
  ·simp only [World.cell?, hh, Nat.zero_add]
   simpa using this
  ·cases this
end
section
variable {H : Type} {enc : TypeId × Value -> H} {P : Program} {w : World}
theorem Sized.field {t : TypeId} {fs : Array Field} {parts : List (DataW H)} {j : Nat} {f : Field} {d : DataW H} (hs : P.underlying t = some (.struct fs)) (h : Sized P t (.agg parts)) (hf : fs[j]? = some f) (hd : parts[j]? = some d) : Sized P f.type d := by
 intro x hx;refine h x ?_;simp only [DataW.weights, hs];exact DataW.weights_mem_each (j := j) (by simp [hf]) hd x hx
section
open Go.ChangeShapes Go.WideShapes Go.Deep
end
theorem cell_add {a : Addr} {v : Value} {k : Nat} (h : w.cell? (a.add k) = some v) (hs : a.spot = none) : w.cell? ⟨a.block, a.off + k, none⟩ = some v := by
 obtain ⟨b, off, spot⟩ := a;simp only at hs;subst hs;unfold Addr.add at h
 split at h
 ·rename_i h0; subst h0; exact h
 ·exact h
end
end Go.Proofs.YtokdnhdfmgfkeaaGreatDoor
end

section
namespace Go.Proofs.YtokdnhdfmgfkeaaGreatDoor
open Go.RowKit
theorem flat_at_k {k : Nat} : ∀ {L : List (List Value)}, (∀ v ∈ L, v.length = k) -> ∀ {i j : Nat} {v : List Value}, L[i]? = some v -> j < k -> L.flatten[i * k + j]? = v[j]?
 | [], _, i, j, v, h, _ => by simp at h
 | a :: L, hL, 0, j, v, h, hj => by
  simp at h;subst h;have := hL a (List.mem_cons_self ..);rw [List.flatten_cons, Nat.zero_mul, Nat.zero_add, List.getElem?_append_left (by omega)]
 | a :: L, hL, i + 1, j, v, h, hj => by
  simp at h;have ha := hL a (List.mem_cons_self ..);have hm : (i + 1) * k + j = a.length + (i * k + j) := by rw [Nat.succ_mul]; omega
  rw [List.flatten_cons, hm, List.getElem?_append_right (by omega), Nat.add_sub_cancel_left];exact flat_at_k (fun v hv => hL v (List.mem_cons_of_mem _ hv)) h hj
theorem flat_len_k {k : Nat} : ∀ {L : List (List Value)}, (∀ v ∈ L, v.length = k) -> L.flatten.length = L.length * k
 | [], _ => by simp
 | a :: L, hL => by
  rw [List.flatten_cons, List.length_append, flat_len_k fun v hv => hL v (List.mem_cons_of_mem _ hv), hL a (List.mem_cons_self ..), List.length_cons, Nat.succ_mul, Nat.add_comm]
def Reads {α : Type} (El : World -> List Value -> α -> Prop) (k : Nat) (w : World) (xs : List Value) (l : List α) : Prop :=
 ∃ L : List (List Value), xs = L.flatten /\ L.length = l.length /\ (∀ v ∈ L, v.length = k) /\ ∀ (i : Nat) vs x, L[i]? = some vs -> l[i]? = some x -> El w vs x
section
variable {α : Type} {El El' : World -> List Value -> α -> Prop} {k : Nat} {w w' : World} {xs ys : List Value} {l la lb : List α}
theorem Reads.nil (w : World) : Reads El k w [] [] := ⟨[], rfl, rfl, fun v h => (by cases h), fun i vs x h => by simp at h⟩
theorem Reads.len (h : Reads El k w xs l) : xs.length = l.length * k := by
 obtain ⟨L, rfl, h1, h2, _⟩ := h;rw [flat_len_k h2, h1]
theorem Reads.mono (h : Reads El k w xs l) (hE : ∀ vs x, El w vs x -> El' w' vs x) : Reads El' k w' xs l := by
 obtain ⟨L, h0, h1, h2, h3⟩ := h;exact ⟨L, h0, h1, h2, fun i vs x hi hx => hE _ _ (h3 i vs x hi hx)⟩
theorem Reads.append (ha : Reads El k w xs la) (hb : Reads El k w ys lb) : Reads El k w (xs ++ ys) (la ++ lb) := by
 obtain ⟨L, rfl, h1, h2, h3⟩ := ha;obtain ⟨M, rfl, g1, g2, g3⟩ := hb;refine ⟨L ++ M, by simp, by simp [h1, g1], fun v hv => (List.mem_append.1 hv).elim (h2 v) (g2 v), fun i vs x hi hx => ?_⟩;rcases Nat.lt_or_ge i L.length with h | h
 ·rw [List.getElem?_append_left h] at hi;rw [List.getElem?_append_left (by omega)] at hx;exact h3 i vs x hi hx
 ·rw [List.getElem?_append_right h] at hi;rw [List.getElem?_append_right (by omega), <- h1] at hx;exact g3 _ vs x hi hx
theorem Reads.at_ (h : Reads El k w xs l) {i : Nat} {x : α} (hi : l[i]? = some x) : ∃ vs, vs.length = k /\ El w vs x /\ ∀ j u, vs[j]? = some u -> xs[i * k + j]? = some u := by
 obtain ⟨L, rfl, h1, h2, h3⟩ := h;have hlt : i < L.length := by have := (List.getElem?_eq_some_iff.1 hi).1; omega
 have hL : L[i]? = some L[i] := List.getElem?_eq_getElem hlt;have hlen := h2 L[i] (List.getElem_mem hlt);refine ⟨L[i], hlen, h3 i _ x hL hi, fun j u hu => ?_⟩;have hj : j < k := by have := (List.getElem?_eq_some_iff.1 hu).1; omega
 rw [flat_at_k h2 hL hj, hu]
theorem Reads.all (h : Reads El k w xs l) (h1 : ∀ vs x, El w vs x -> ∀ u ∈ vs, u.oneCell' = true) : ∀ u ∈ xs, u.oneCell' = true := by
 obtain ⟨L, rfl, g1, _, g3⟩ := h;intro u hu;obtain ⟨vs, hvs, huv⟩ := List.mem_flatten.1 hu;obtain ⟨i, hi⟩ := List.mem_iff_getElem?.1 hvs;have hlt : i < l.length := by have := (List.getElem?_eq_some_iff.1 hi).1; omega
 exact h1 vs _ (g3 i vs l[i] hi (List.getElem?_eq_getElem hlt)) u huv
def OwS (El : World -> List Value -> α -> Prop) (k : Nat) (w : World) (B E : Nat) (v : Value) (l : List α) : Prop := ∃ xs, w.ownsRow B E k v l.length xs /\ Reads El k w xs l
theorem OwS.nil (w : World) (B E : Nat) : OwS El k w B E (.slice none 0 0) [] := ⟨[], World.ownsRow_nil w B E k, Reads.nil w⟩
theorem OwS.sq {B E : Nat} {v : Value} (h : OwS El k w B E v l) (hk : 0 < k) : ∃ A c, v = .slice A l.length c /\ Sq El k w A l.length c l := by
 obtain ⟨xs, h1, h2⟩ := h;exact sq_of_own h1 hk rfl fun i x hi => h2.at_ hi
theorem OwS.form {B E : Nat} {v : Value} (h : OwS El k w B E v l) : ∃ A c, v = .slice A l.length c := by
 obtain ⟨xs, ⟨_, h1⟩, _⟩ := h;rcases h1 with ⟨rfl, h0⟩ | ⟨g, cap, cur, rfl, _⟩
 ·exact ⟨_, _, by rw [h0]⟩
 ·exact ⟨_, _, rfl⟩
theorem OwS.sq' {B E n c : Nat} {A : Option Addr} (h : OwS El k w B E (.slice A n c) l) (hk : 0 < k) : Sq El k w A n c l := by
 obtain ⟨A', c', e, h1⟩ := h.sq hk;injection e with e1 e2 e3;subst e1; subst e2; subst e3
 exact h1
theorem OwS.kept {B E : Nat} {v : Value} {row : Option Nat} (h : OwS El k w B E v l) (hg : w.grownBy w' row) (hne : v.ownBlock = none \/ v.ownBlock ≠ row) (hE : ∀ vs x, El w vs x -> El w' vs x) : OwS El k w' B E v l := by
 obtain ⟨xs, h1, h2⟩ := h;exact ⟨xs, h1.kept hg hne, h2.mono hE⟩
theorem OwS.below {B E : Nat} {v : Value} (h : OwS El k w B E v l) (hb : Below w.heap.size w w') (hE : ∀ vs x, El w vs x -> El w' vs x) : OwS El k w' B E v l :=
 h.kept (grown_of_below hb) (by cases hv : v.ownBlock with | none => exact .inl rfl | some b => exact .inr (by simp)) hE
theorem OwS.lt {B E : Nat} {v : Value} (h : OwS El k w B E v l) : ∀ b, v.ownBlock = some b -> B <= b /\ b < w.heap.size := by
 obtain ⟨xs, h1, _⟩ := h;exact World.ownsRow.lt h1
theorem Sq.cells {A : Option Addr} {n c : Nat} (h : Sq El k w A n c l) : ∃ xs, Reads El k w xs l /\ (0 < n -> ∃ b off, A = some ⟨b, off, none⟩ /\ b < w.heap.size /\ (0 < k -> ∀ j u, xs[j]? = some u -> w.cell? ⟨b, off + j, none⟩ = some u)) := by
 rcases Nat.eq_zero_or_pos n with h0 | hn
 ·have : l = [] := List.eq_nil_of_length_eq_zero (by rw [h.len, h0]);subst this;exact ⟨[], Reads.nil w, fun hp => by omega⟩
 ·obtain ⟨b, off, e, hb, hc⟩ := h.cell hn;have hl := h.len
  have hV : ∀ i, i < n -> ∃ vs : List Value, vs.length = k /\ (∀ x, l[i]? = some x -> El w vs x) /\ ∀ j v, vs[j]? = some v -> w.cell? ⟨b, off + i * k + j, none⟩ = some v := fun i hi => by
   obtain ⟨vs, h1, h2, h3⟩ := hc i l[i] (List.getElem?_eq_getElem (by omega));refine ⟨vs, h1, fun x hx => ?_, h3⟩;rw [List.getElem?_eq_getElem (by omega)] at hx;injection hx with hx;rw [<- hx]; exact h2
  obtain ⟨V, hV⟩ := Deep.choose_lt hV;refine ⟨((List.range n).map V).flatten, ⟨_, rfl, by simp [hl], fun v hv => ?_, fun i vs x hi hx => ?_⟩, fun _ => ⟨b, off, e, hb, fun hk j u hu => ?_⟩⟩
  ·obtain ⟨i, hi, rfl⟩ := List.mem_map.1 hv;exact (hV i (by simpa using hi)).1
  ·rw [List.getElem?_map, Option.map_eq_some_iff] at hi;obtain ⟨i', hi', rfl⟩ := hi;obtain ⟨hil, rfl⟩ := range_get hi';exact (hV i' hil).2.1 x hx
  ·have hall : ∀ v ∈ (List.range n).map V, v.length = k := fun v hv => by
    obtain ⟨i, hi, rfl⟩ := List.mem_map.1 hv;exact (hV i (by simpa using hi)).1
   have hj : j < n * k := by
    have := (List.getElem?_eq_some_iff.1 hu).1;rw [flat_len_k hall] at this
    simpa using this
   have hq : j / k < n := (Nat.div_lt_iff_lt_mul hk).2 hj;have hm : j % k < k := Nat.mod_lt _ hk;have hjj : j / k * k + j % k = j := by rw [Nat.mul_comm]; exact Nat.div_add_mod j k
   have hget : ((List.range n).map V)[j / k]? = some (V (j / k)) := by simp [hq]
   have h1 := flat_at_k hall hget hm;rw [hjj, hu] at h1;have h2 := (hV (j / k) hq).2.2 (j % k) u h1.symm;rw [Nat.add_assoc, hjj] at h2;exact h2
end
section
variable {P : Program} {ops : Array Oper} {rest : List Oper} {o : Oper} {a : Act} {Q : Exit -> Act -> World -> Prop}
theorem append_sq {α : Type} {El : World -> List Value -> α -> Prop} {k : Nat} (w : World) (t e : TypeId) (z : Value) (by_ : Nat) (ht : P.underlying t = some (.slice e))
  (hinfo : (P.info? e).map (fun i => (i.zero, i.size, i.bytes)) = some (some z, k, by_)) (hzs : z.cells.size = k) (hk : 0 < k)
  (hgd : o.guard = none) (s x : Operand)
  (ho : o.op = .call { callee := .builtin .append, args := #[s, x], argTypes := #[t, t] })
  (B : Nat) (v : Value) (la : List α) (hs : a.eval s = v) (hown : OwS El k w B e v la)
  (A : Option Addr) (m c : Nat) (lb : List α) (hx : a.eval x = .slice A m c) (hr : Sq El k w A m c lb)
  (h1 : ∀ vs x, El w vs x -> ∀ u ∈ vs, u.oneCell' = true) (hE : ∀ w', w.grownBy w' v.ownBlock -> ∀ vs x, El w vs x -> El w' vs x)
  (N : Nat) (hN : la.length + m = N) (hsz : N * by_ <= 140737488355328) (hsz2 : N <= 140737488355328) (hB : B <= w.heap.size)
  (h : ∀ A' c' w', OwS El k w' B e (.slice A' N c') (la ++ lb) -> w.grownBy w' v.ownBlock -> Below B w w' -> ((Value.slice A' N c').ownBlock = v.ownBlock \/ (Value.slice A' N c').ownBlock = some w.heap.size) -> wpList P ops Q rest (a.put o.dst (.slice A' N c')) w') :
  wpList P ops Q (o :: rest) a w := by
 obtain ⟨xs, hown, hra⟩ := hown;obtain ⟨ys, hrb, hyc⟩ := hr.cells;obtain ⟨i, hi, hz, hsz', hby⟩ := info_parts hinfo;have hbel : ∀ w', w.grownBy w' v.ownBlock -> Below B w w' := fun w' hg => (Below.refl B w).grown hg hB (fun k hk => (World.ownsRow.lt hown k hk).1)
 rcases A with _ | ad
 ·obtain ⟨rfl, rfl⟩ := hr.nil rfl;have hn : lb = [] := List.eq_nil_of_length_eq_zero hr.len;subst hn;refine wpList_append_own_none hgd s x t ho B e i k ht hi v la.length xs hs hown hx ?_;have h2 : OwS El k w B e v la := ⟨xs, hown, hra⟩;obtain ⟨A', c', rfl⟩ := h2.form;have h0 : la.length = N := by omega
  rw [h0] at h2 ⊢;refine h A' c' w ?_ (World.grownBy.refl _ _) (Below.refl _ _) (.inl ?_)
  ·rw [List.append_nil]; exact h2
  ·rw [h0]
 ·refine wpList_append_own_at w hgd s x t ho B e i z k by_ ht hi hz hsz' hby hzs hk v la.length xs hs hown ad m c ys hx (by rw [hrb.len, hr.len]) ?_ (hrb.all h1) (by unfold maxLen; omega) (by rw [hN]; exact hsz) hB ?_
  ·intro j u hu
   have hm : 0 < m := by
    have h1 := (List.getElem?_eq_some_iff.1 hu).1;rw [hrb.len, hr.len] at h1;rcases Nat.eq_zero_or_pos m with h0 | h0
    ·rw [h0] at h1; omega
    ·exact h0
   obtain ⟨b, off, he, _, hc⟩ := hyc hm;injection he with he;subst he;have := hc hk j u hu;unfold Addr.add
   split
   ·rename_i h0; subst h0; simpa using this
   ·exact this
  ·intro v' w' hown' hg _ hob;have h2 : OwS El k w' B e v' (la ++ lb) := ⟨xs ++ ys, by rw [List.length_append, hr.len]; exact hown', (hra.append hrb).mono (hE w' hg)⟩;obtain ⟨A', c', rfl⟩ := h2.form;have h0 : (la ++ lb).length = N := by rw [List.length_append, hr.len]; exact hN
   rw [h0] at h2 hob ⊢;exact h A' c' w' h2 hg (hbel w' hg) hob
end
theorem sq_one {α : Type} {El : World -> List Value -> α -> Prop} {k : Nat} (w : World) (vs : List Value) (x : α) (E : TypeId) (fr : Nat × Nat) (hk : vs.length = k) (h : El (w.alloc (.cells vs.toArray E fr)) vs x) :
  Sq El k (w.alloc (.cells vs.toArray E fr)) (some ⟨w.heap.size, 0, none⟩) 1 1 [x] := by
 have hn : (w.alloc (.cells vs.toArray E fr)).heap[w.heap.size]? = some (.cells vs.toArray E fr) := heap_alloc_new w _;refine ⟨rfl, Nat.le_refl _, by omega, fun h => by simp at h, fun _ => ⟨_, _, rfl, (Array.getElem?_eq_some_iff.1 hn).1, fun i y hi => ?_⟩⟩
 cases i with
 | succ i => simp at hi
 | zero =>
  simp at hi;subst hi;refine ⟨vs, hk, h, fun j v hj => ?_⟩;simp only [World.cell?, hn]
  simpa using hj
end Go.Proofs.YtokdnhdfmgfkeaaGreatDoor
end
