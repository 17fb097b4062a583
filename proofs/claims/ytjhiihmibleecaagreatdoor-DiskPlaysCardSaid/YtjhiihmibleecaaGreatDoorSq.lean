/- Slices of structs (of one-celled fields) that read as lists; what came in so. No program stands here. -/
import Derived.Test.YtjhiihmibleecaaGreatDoorWords
import Derived.Test.YtjhiihmibleecaaGreatDoorOpen
import Derived.Deep.Slices
import Derived.Deep.Fields
import Derived.ChangeSame
namespace Go.Proofs.YtjhiihmibleecaaGreatDoor
open Go.RowKit
open Go.Deep (oneCellFields)

/-- The slice value '.slice A n c' reads in w as the list l: each element lies as k cells, which El reads. -/
structure Sq {α : Type} (El : World → List Value → α → Prop) (k : Nat) (w : World) (A : Option Addr) (n c : Nat) (l : List α) : Prop where
  len : l.length = n
  le : n ≤ c
  max : c ≤ 9223372036854775807
  nil : A = none → n = 0 ∧ c = 0
  cell : 0 < n → ∃ b off, A = some ⟨b, off, none⟩ ∧ b < w.heap.size ∧ ∀ i x, l[i]? = some x → ∃ vs : List Value, vs.length = k ∧ El w vs x ∧ ∀ j v, vs[j]? = some v → w.cell? ⟨b, off + i * k + j, none⟩ = some v

section
variable {α : Type} {El : World → List Value → α → Prop} {k : Nat} {w w' : World} {A : Option Addr} {n c : Nat} {l : List α}

theorem Sq.none_ (w : World) : Sq El k w none 0 0 [] := ⟨rfl, Nat.le_refl _, by omega, fun _ => ⟨rfl, rfl⟩, fun h => absurd h (by omega)⟩
theorem Sq.below (h : Sq El k w A n c l) (hE : ∀ vs x, El w vs x → El w' vs x) (hb : Below w.heap.size w w') : Sq El k w' A n c l :=
  ⟨h.len, h.le, h.max, h.nil, fun hn => by
    obtain ⟨b, off, e, hlt, hc⟩ := h.cell hn
    refine ⟨b, off, e, Nat.lt_of_lt_of_le hlt hb.size, fun i x hi => ?_⟩
    obtain ⟨vs, h1, h2, h3⟩ := hc i x hi
    exact ⟨vs, h1, hE _ _ h2, fun j v hj => (hb.cell (p := ⟨b, off + i * k + j, none⟩) hlt).trans (h3 j v hj)⟩⟩
theorem Sq.at_ {i : Nat} (h : Sq El k w A n c l) (hi : i < n) : ∃ b off x vs, A = some ⟨b, off, none⟩ ∧ b < w.heap.size ∧ l[i]? = some x ∧ vs.length = k ∧ El w vs x ∧ ∀ j v, vs[j]? = some v → w.cell? ⟨b, off + i * k + j, none⟩ = some v := by
  obtain ⟨b, off, e, hb, hc⟩ := h.cell (by omega)
  have hl : i < l.length := by have := h.len; omega
  obtain ⟨vs, h1, h2, h3⟩ := hc i l[i] (List.getElem?_eq_getElem hl)
  exact ⟨b, off, l[i], vs, e, hb, List.getElem?_eq_getElem hl, h1, h2, h3⟩
theorem Sq.lt (h : Sq El k w A n c l) : ∀ x, A = some x → 0 < n → x.block < w.heap.size := fun x e hn => by
  obtain ⟨b, off, e', hb, _⟩ := h.cell hn
  rw [e] at e'
  injection e' with e'
  rw [e']
  exact hb

/-- A row of the call's own reads so. -/
theorem sq_of_own {B E : Nat} {v : Value} {xs : List Value} (h : w.ownsRow B E k v n xs) (hk : 0 < k) (hl : l.length = n) (hx : ∀ i x, l[i]? = some x → ∃ vs : List Value, vs.length = k ∧ El w vs x ∧ ∀ j u, vs[j]? = some u → xs[i * k + j]? = some u) :
    ∃ A c, v = .slice A n c ∧ Sq El k w A n c l := by
  obtain ⟨hxl, h⟩ := h
  rcases h with ⟨rfl, h0⟩ | ⟨g, cap, cur, rfl, hB, hh, hnc, hm, hs, ht⟩
  · subst h0
    have : l = [] := List.eq_nil_of_length_eq_zero hl
    subst this
    exact ⟨_, _, rfl, Sq.none_ w⟩
  · have hg : g < w.heap.size := (Array.getElem?_eq_some_iff.1 hh).1
    refine ⟨_, _, rfl, hl, hnc, by unfold maxLen at hm; omega, fun h => by simp at h, fun _ => ⟨g, 0, rfl, hg, fun i x hi => ?_⟩⟩
    obtain ⟨vs, h1, h2, h3⟩ := hx i x hi
    refine ⟨vs, h1, h2, fun j u hu => ?_⟩
    have := h3 j u hu
    rw [← ht, List.getElem?_take] at this
    split at this
    · simp only [World.cell?, hh, Nat.zero_add]
      simpa using this
    · cases this
end

section
variable {H : Type} {enc : TypeId × Value → H} {P : Program} {w : World}

theorem Sized.field {t : TypeId} {fs : Array Field} {parts : List (DataW H)} {j : Nat} {f : Field} {d : DataW H} (hs : P.underlying t = some (.struct fs)) (h : Sized P t (.agg parts)) (hf : fs[j]? = some f) (hd : parts[j]? = some d) : Sized P f.type d := by
  intro x hx
  refine h x ?_
  simp only [DataW.weights, hs]
  exact DataW.weights_mem_each (j := j) (by simp [hf]) hd x hx

section
open Go.ChangeShapes Go.WideShapes Go.Deep
/-- The guide's law on a slice of structs (howto/extra-structs.md, 1), at a whole reading. -/
theorem open_slice_fields' {t e : TypeId} {fs : Array Field} {fuel : Nat} {cs : List Value} {x : DataW H × List MemPlace} (ht : P.underlying t = some (.slice e)) (he : P.underlying e = some (.struct fs))
    (hone : oneCellFields P fs = true) (hC : P.cellsOf e = fs.size) (h : DataW.trod enc P w 0 (fun _ => true) true fuel t cs = some x) :
    (cs = [.slice none 0 0] ∧ x = (.nil, [])) ∨
    ∃ (a : Addr) (len cap : Nat) (D : Nat → DataW H) (Pl : Nat → List MemPlace), cs = [.slice (some a) len cap] ∧ len ≤ cap ∧ cap ≤ maxLen ∧
      x = (.slice ((List.range len).map D) ((List.range (cap - len)).map fun j => D (len + j)), MemPlace.row a (cap * fs.size) ++ (List.range cap).flatMap Pl) ∧
      ∀ i, i < cap → ∃ (ys : List (DataW H × List MemPlace)) (n : Nat), D i = .agg (ys.map (·.1)) ∧ ys.length = fs.size ∧
        ∀ (j : Nat) (f : Field), fs[j]? = some f → ∃ (v : Value) (y : DataW H × List MemPlace), w.cell? (a.add (i * fs.size + j)) = some v ∧ ys[j]? = some y ∧ DataW.trod enc P w 0 (fun _ => true) true n f.type [v] = some y := by
  rcases open_slice ht h with h0 | ⟨a, len, cap, m, n, D, Pl, hcs, hb, hl, hm, hmm, hx, hi⟩
  · exact .inl h0
  · simp only [if_true] at hmm
    subst hmm
    refine .inr ⟨a, len, m, D, Pl, hcs, hl, hm, by rw [hC] at hx; exact hx, fun i him => ?_⟩
    obtain ⟨cs', hc, ht'⟩ := hi i him
    rw [hC] at hc
    obtain ⟨ys, n', hn', hy, hlen, hyl, hf⟩ := DataW.trod_struct he ht'
    obtain ⟨_, hcl, hat⟩ := World.cells?_some hc
    simp only [Prod.mk.injEq] at hy
    refine ⟨ys, n', hy.1, hyl, fun j f hj => ?_⟩
    obtain ⟨ho, hk⟩ := hone_of hone j f hj
    have hjl : j < fs.size := (Array.getElem?_eq_some_iff.1 hj).1
    have hcell := hat j hjl
    have hv : cs'[j]? = some (cs'[j]'(by omega)) := List.getElem?_eq_getElem (by omega)
    have h1 := hf j f hj
    rw [ho, hk] at h1
    have hone' : (cs'.drop j).take 1 = [cs'[j]'(by omega)] := by
      rw [List.drop_eq_getElem_cons (by omega)]
      rfl
    rw [hone'] at h1
    have hys : ys[j]? = some (ys[j]'(by omega)) := List.getElem?_eq_getElem (by omega)
    refine ⟨_, _, ?_, hys, h1.trans hys⟩
    rw [← Go.Deep.add_add, hcell, hv]
end

theorem cell_add {a : Addr} {v : Value} {k : Nat} (h : w.cell? (a.add k) = some v) (hs : a.spot = none) : w.cell? ⟨a.block, a.off + k, none⟩ = some v := by
  obtain ⟨b, off, spot⟩ := a
  simp only at hs
  subst hs
  unfold Addr.add at h
  split at h
  · rename_i h0; subst h0; exact h
  · exact h

/-- What one element reads as: its fields, each with its datum and that one's size. -/
def Fields {H : Type} (enc : TypeId × Value → H) (P : Program) (w : World) (fs : Array Field) (m : Nat) (vs : List Value) : Prop :=
  vs.length = fs.size ∧ ∀ (j : Nat) (f : Field), fs[j]? = some f → ∃ (v : Value) (y : DataW H × List MemPlace), vs[j]? = some v ∧ DataW.trod enc P w 0 (fun _ => true) true m f.type [v] = some y ∧ Sized P f.type y.1

theorem sq_of_trod' {α : Type} {El : World → List Value → α → Prop} {t e : TypeId} {fs : Array Field} {fuel : Nat} {v : Value} {d : DataW H} {p : List MemPlace} (ht : P.underlying t = some (.slice e)) (he : P.underlying e = some (.struct fs)) (hone : oneCellFields P fs = true) (hC : P.cellsOf e = fs.size) (hpos : 0 < fs.size)
    (h : DataW.trod enc P w 0 (fun _ => true) true fuel t [v] = some (d, p)) (hz : Sized P t d)
    (each : ∀ m vs, Fields enc P w fs m vs → ∃ x, El w vs x) : ∃ A n c l, v = .slice A n c ∧ Sq El fs.size w A n c l ∧ (n = 0 ∨ n * P.bytesOf e ≤ 140737488351232) := by
  rcases open_slice_fields' ht he hone hC h with ⟨hcs, _⟩ | ⟨a, len, cap, D, Pl, hcs, hl, hm, hx, hall⟩
  · injection hcs with hcs _
    exact ⟨_, _, _, [], hcs, Sq.none_ w, .inl rfl⟩
  · injection hcs with hcs _
    injection hx with hx _
    subst hx
    have hrow := hz.row ht
    simp only [List.length_map, List.length_range] at hrow
    have hel : ∀ i, i < len → ∃ q : α × List Value, q.2.length = fs.size ∧ El w q.2 q.1 ∧ ∀ j u, q.2[j]? = some u → w.cell? (a.add (i * fs.size + j)) = some u := fun i hi => by
      obtain ⟨ys, m, hD, hyl, hf⟩ := hall i (by omega)
      have hzi : Sized P e (D i) := hz.elem ht (List.mem_map.2 ⟨i, by simpa using hi, rfl⟩)
      rw [hD] at hzi
      have hV : ∀ j, j < fs.size → ∃ u : Value, w.cell? (a.add (i * fs.size + j)) = some u ∧ ∀ f, fs[j]? = some f → ∃ y : DataW H × List MemPlace, DataW.trod enc P w 0 (fun _ => true) true m f.type [u] = some y ∧ Sized P f.type y.1 := fun j hj => by
        obtain ⟨u, y, h1, h2, h3⟩ := hf j fs[j] (by simp [hj])
        refine ⟨u, h1, fun f hfj => ?_⟩
        have : fs[j] = f := by simpa [hj] using hfj
        subst this
        exact ⟨y, h3, hzi.field he hfj (d := y.1) (by rw [List.getElem?_map, h2]; rfl)⟩
      obtain ⟨V, hV⟩ := Deep.choose_lt hV
      obtain ⟨x, hx⟩ := each m ((List.range fs.size).map V) ⟨by simp, fun j f hfj => by
        have hj : j < fs.size := (Array.getElem?_eq_some_iff.1 hfj).1
        obtain ⟨y, h1, h2⟩ := (hV j hj).2 f hfj
        exact ⟨V j, y, by simp [hj], h1, h2⟩⟩
      refine ⟨(x, (List.range fs.size).map V), by simp, hx, fun j u hu => ?_⟩
      rw [List.getElem?_map, Option.map_eq_some_iff] at hu
      obtain ⟨j', hj', rfl⟩ := hu
      obtain ⟨hjl, rfl⟩ := range_get hj'
      exact (hV j' hjl).1
    rcases Nat.eq_zero_or_pos len with h0 | hlpos
    · subst h0
      exact ⟨some a, 0, cap, [], hcs, { len := rfl, le := hl, max := by unfold maxLen at hm; omega, nil := fun h => (by simp at h), cell := fun hn => absurd hn (by omega) }, .inl rfl⟩
    haveI : Inhabited (α × List Value) := ⟨(hel 0 hlpos).choose⟩
    obtain ⟨L, hL⟩ := Deep.choose_lt hel
    refine ⟨some a, len, cap, (List.range len).map fun i => (L i).1, hcs, { len := by simp, le := hl, max := by unfold maxLen at hm; omega, nil := fun h => (by simp at h), cell := fun hn => ?_ }, .inr ?_⟩
    · have h00 : ∃ u, w.cell? (a.add 0) = some u := by
        obtain ⟨h1, _, h3⟩ := hL 0 (by omega)
        have hu : (L 0).2[0]? = some ((L 0).2[0]'(by omega)) := List.getElem?_eq_getElem (by omega)
        exact ⟨_, by simpa using h3 0 _ hu⟩
      obtain ⟨u0, hu0⟩ := h00
      have hspot : a.spot = none := by
        obtain ⟨b, off, spot⟩ := a
        simpa [Addr.add] using World.cell?_spot hu0
      have hae : a = ⟨a.block, a.off, none⟩ := by
        obtain ⟨b, off, spot⟩ := a
        simp only at hspot
        subst hspot
        rfl
      refine ⟨a.block, a.off, by rw [← hae], World.block_lt_of_cell? w ⟨a.block, a.off + 0, none⟩ (cell_add hu0 hspot), fun i x hi => ?_⟩
      rw [List.getElem?_map, Option.map_eq_some_iff] at hi
      obtain ⟨i', hi', rfl⟩ := hi
      obtain ⟨hil, rfl⟩ := range_get hi'
      obtain ⟨h1, h2, h3⟩ := hL i' hil
      refine ⟨(L i').2, h1, h2, fun j v hj => ?_⟩
      rw [Nat.add_assoc]
      exact cell_add (h3 j v hj) hspot
    · exact Nat.le_trans (Nat.mul_le_mul_right _ (by omega)) hrow

theorem sq_of_trod {α : Type} {El : World → List Value → α → Prop} {t e : TypeId} {fs : Array Field} {a : Option Addr} {n c : Nat} {d : DataW H} {p : List MemPlace} (ht : P.underlying t = some (.slice e)) (he : P.underlying e = some (.struct fs)) (hone : oneCellFields P fs = true) (hC : P.cellsOf e = fs.size) (hpos : 0 < fs.size)
    (each : ∀ m vs, Fields enc P w fs m vs → ∃ x, El w vs x)
    (h : DataW.Trod enc P w 0 (fun _ => true) true t (.slice a n c) d p) (hz : Sized P t d) : ∃ l, Sq El fs.size w a n c l ∧ (n = 0 ∨ n * P.bytesOf e ≤ 140737488351232) := by
  obtain ⟨fuel, hf⟩ := h
  obtain ⟨A, n', c', l, hv, h1, h2⟩ := sq_of_trod' ht he hone hC hpos (v := .slice a n c) hf hz each
  injection hv with e1 e2 e3
  subst e1; subst e2; subst e3
  exact ⟨l, h1, h2⟩
end
end Go.Proofs.YtjhiihmibleecaaGreatDoor
