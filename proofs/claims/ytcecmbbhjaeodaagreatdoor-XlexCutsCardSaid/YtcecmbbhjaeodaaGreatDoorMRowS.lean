/- Rows of structs of the call's own; appended to. No program stands here. -/
import Derived.Test.YtcecmbbhjaeodaaGreatDoorMWords
import Derived.SizedLaws
import Derived.Deep.Slices
import Derived.Deep.Fields
import Derived.ChangeSame
import Derived.Maps.AppendAt
section
namespace Go.Proofs.YtcecmbbhjaeodaaGreatDoor
open Go.RowKit

/-- All that was read below a datum takes at most the form's reach. -/
def Sized {H : Type} (P : Program) (t : TypeId) (d : DataW H) : Prop := ∀ x ∈ d.weights P t, x ≤ 140737488351232

theorem sized_each {H : Type} {P : Program} {ts : List TypeId} {ds : List (DataW H)} (h : (DataW.weightsEach P ts ds).all (· ≤ reachBytes) = true)
    {j : Nat} {t : TypeId} {d : DataW H} (ht : ts[j]? = some t) (hd : ds[j]? = some d) : Sized P t d := by
  intro x hx
  have := List.all_eq_true.1 h _ (DataW.weights_mem_each ht hd x hx)
  exact of_decide_eq_true this

theorem range_get {n j i : Nat} (h : (List.range n)[j]? = some i) : j < n ∧ i = j := by
  obtain ⟨h1, h2⟩ := List.getElem?_eq_some_iff.1 h
  rw [List.getElem_range] at h2
  exact ⟨by simpa using h1, h2.symm⟩

theorem weights_mem_all {H : Type} {P : Program} {e : TypeId} {d : DataW H} {l : List (DataW H)} (hd : d ∈ l) {x : Nat} (hx : x ∈ d.weights P e) : x ∈ DataW.weightsAll P e l := by
  induction l with
  | nil => simp at hd
  | cons d' l ih =>
    simp only [DataW.weightsAll, List.mem_append]
    rcases List.mem_cons.1 hd with rfl | h
    · exact .inl hx
    · exact .inr (ih h)

theorem Sized.elem {H : Type} {P : Program} {t e : TypeId} {elems spare : List (DataW H)} (ht : P.underlying t = some (.slice e)) (h : Sized P t (.slice elems spare)) {d : DataW H} (hd : d ∈ elems) : Sized P e d := by
  intro x hx
  refine h x ?_
  simp only [DataW.weights, ht]
  exact List.mem_cons_of_mem _ (List.mem_append_left _ (weights_mem_all hd hx))

theorem Sized.row {H : Type} {P : Program} {t e : TypeId} {elems spare : List (DataW H)} (ht : P.underlying t = some (.slice e)) (h : Sized P t (.slice elems spare)) : (elems.length + spare.length) * P.bytesOf e ≤ 140737488351232 :=
  h _ (by simp [DataW.weights, ht])

section
variable {H : Type} {enc : TypeId × Value → H} {P : Program} {w : World} {t e q : TypeId}

/-- One element of bytes. -/
theorem el_of_trod {fuel : Nat} {v : Value} {d : DataW H} {p : List MemPlace} (ht : P.underlying e = some (.slice q)) (he : P.underlying q = some (.int .u8)) (hc : P.cellsOf q = 1) (hby : P.bytesOf q = 1)
    (h : DataW.trod enc P w 0 (fun _ => true) true fuel e [v] = some (d, p)) (hz : Sized P e d) :
    ∃ A n c, ∃ l : List UInt8, v = .slice A n c ∧ Bs w A n c l ∧ c ≤ 140737488351232 := by
  rcases ChangeShapes.open_ints ht he hc h with ⟨hcs, _⟩ | ⟨x, l, cc, zs, hcs, _, hl, hm, hzl, hx, hcell, hwz⟩
  · injection hcs with hcs _
    subst hcs
    exact ⟨none, 0, 0, [], rfl, Rd.none_ w, by omega⟩
  · injection hcs with hcs _
    subst hcs
    injection hx with hx _
    subst hx
    have hr := hz.row ht
    rw [hby] at hr
    simp only [if_true] at hzl
    simp only [ChangeShapes.lits, List.length_map, List.length_take, List.length_drop] at hr
    obtain ⟨l', hbs⟩ := bs_of_ints hl hm hzl hcell hwz
    exact ⟨_, _, _, l', rfl, hbs, by omega⟩

theorem bs_of_trod' {a : Option Addr} {n c : Nat} {d : DataW H} {p : List MemPlace}
    (ht : P.underlying t = some (.slice e)) (he : P.underlying e = some (.int .u8)) (hc : P.cellsOf e = 1) (hby : P.bytesOf e = 1)
    (h : DataW.Trod enc P w 0 (fun _ => true) true t (.slice a n c) d p) (hz : Sized P t d) : ∃ l : List UInt8, Bs w a n c l ∧ c ≤ 140737488351232 := by
  obtain ⟨fuel, hf⟩ := h
  obtain ⟨A, n', c', l, hv, hbs, hle⟩ := el_of_trod ht he hc hby (v := .slice a n c) hf hz
  injection hv with h1 h2 h3
  subst h1; subst h2; subst h3
  exact ⟨l, hbs, hle⟩

theorem bss_of_trod {a : Option Addr} {n c : Nat} {d : DataW H} {p : List MemPlace}
    (ht : P.underlying t = some (.slice e)) (ce : P.cellsOf e = 1) (he : P.underlying e = some (.slice q)) (hq : P.underlying q = some (.int .u8)) (cq : P.cellsOf q = 1) (hby : P.bytesOf q = 1)
    (h : DataW.Trod enc P w 0 (fun _ => true) true t (.slice a n c) d p) (hz : Sized P t d) :
    ∃ ls : List (List UInt8), BsL w a n c ls ∧ ∀ l ∈ ls, l.length ≤ 140737488351232 := by
  obtain ⟨fuel, hf⟩ := h
  rcases Deep.open_slice1 ht ce hf with ⟨hcs, _⟩ | ⟨x, len, cap, m, k, V, D, Pl, hcs, _, hl, hm, hmm, hx, hall⟩
  · simp [Value.cells] at hcs
    obtain ⟨rfl, rfl, rfl⟩ := hcs
    exact ⟨[], BsL.nil w, fun l hl => by simp at hl⟩
  · simp [Value.cells] at hcs
    obtain ⟨rfl, rfl, rfl⟩ := hcs
    simp only [if_true] at hmm
    subst hmm
    injection hx with hx _
    subst hx
    have each : ∀ i, i < n → ∃ l : List UInt8, El w none (V i) l ∧ l.length ≤ 140737488351232 := fun i hi => by
      obtain ⟨_, htr⟩ := hall i (by omega)
      have hzi : Sized P e (D i) := hz.elem ht (List.mem_map.2 ⟨i, by simpa using hi, rfl⟩)
      obtain ⟨A, n', c', l, hv, hbs, hle⟩ := el_of_trod he hq cq hby htr hzi
      refine ⟨l, hv ▸ El.of_bs hbs, ?_⟩
      have := hbs.len
      have := Rd.le hbs
      omega
    obtain ⟨L, hL⟩ := Deep.choose_lt each
    refine ⟨(List.range n).map L, ⟨(List.range n).map V, ⟨by simp, hl, by unfold maxLen at hm; omega, fun h => by simp at h, fun hn => ?_⟩, by simp, fun j u hu => ?_⟩, fun l hl => ?_⟩
    · obtain ⟨b, off, spot⟩ := x
      have h0 := (hall 0 (by omega)).1
      have hspot : spot = none := by simpa [Addr.add] using World.cell?_spot h0
      subst hspot
      refine ⟨b, off, rfl, World.block_lt_of_cell? w _ h0, fun j u hu => ?_⟩
      rw [List.getElem?_map, Option.map_eq_some_iff] at hu
      obtain ⟨i, hi, rfl⟩ := hu
      obtain ⟨hjn, rfl⟩ := range_get hi
      have := (hall i (by omega)).1
      unfold Addr.add at this
      split at this
      · rename_i h0; subst h0; simpa using this
      · exact this
    · rw [List.getElem?_map, Option.map_eq_some_iff] at hu
      obtain ⟨i, hi, rfl⟩ := hu
      obtain ⟨hjn, rfl⟩ := range_get hi
      exact ⟨L i, by rw [List.getElem?_map, hi]; rfl, (hL i hjn).1⟩
    · obtain ⟨i, hi, rfl⟩ := List.mem_map.1 hl
      exact (hL i (by simpa using hi)).2
end

end Go.Proofs.YtcecmbbhjaeodaaGreatDoor
end

section
namespace Go.Proofs.YtcecmbbhjaeodaaGreatDoor
open Go.RowKit
open Go.Deep (oneCellFields)

/-- The slice value '.slice A n c' reads in w as the list l: each element lies as k cells, which El reads. -/
structure Sq {α : Type} (El : World → List Value → α → Prop) (k : Nat) (w : World) (A : Option Addr) (n c : Nat) (l : List α) : Prop where
  len : l.length = n
  le : n ≤ c
  max : c ≤ 9223372036854775807
  nil : A = none → n = 0 ∧ c = 0
  cell : 0 < n → ∃ b off, A = some ⟨b, off, none⟩ ∧ b < w.heap.size ∧ ∀ i x, l[i]? = some x → ∃ vs : List Value, vs.length = k ∧ El w vs x ∧ ∀ j v, vs[j]? = some v → w.cell? ⟨b, off + i * k + j, none⟩ = some v

section
variable {α : Type} {El : World → List Value → α → Prop} {k : Nat} {w w' : World} {A : Option Addr} {n c : Nat} {l : List α}

theorem Sq.none_ (w : World) : Sq El k w none 0 0 [] := ⟨rfl, Nat.le_refl _, by omega, fun _ => ⟨rfl, rfl⟩, fun h => absurd h (by omega)⟩
theorem Sq.below (h : Sq El k w A n c l) (hE : ∀ vs x, El w vs x → El w' vs x) (hb : Below w.heap.size w w') : Sq El k w' A n c l :=
  ⟨h.len, h.le, h.max, h.nil, fun hn => by
    obtain ⟨b, off, e, hlt, hc⟩ := h.cell hn
    refine ⟨b, off, e, Nat.lt_of_lt_of_le hlt hb.size, fun i x hi => ?_⟩
    obtain ⟨vs, h1, h2, h3⟩ := hc i x hi
    exact ⟨vs, h1, hE _ _ h2, fun j v hj => (hb.cell (p := ⟨b, off + i * k + j, none⟩) hlt).trans (h3 j v hj)⟩⟩
theorem Sq.at_ {i : Nat} (h : Sq El k w A n c l) (hi : i < n) : ∃ b off x vs, A = some ⟨b, off, none⟩ ∧ b < w.heap.size ∧ l[i]? = some x ∧ vs.length = k ∧ El w vs x ∧ ∀ j v, vs[j]? = some v → w.cell? ⟨b, off + i * k + j, none⟩ = some v := by
  obtain ⟨b, off, e, hb, hc⟩ := h.cell (by omega)
  have hl : i < l.length := by have := h.len; omega
  obtain ⟨vs, h1, h2, h3⟩ := hc i l[i] (List.getElem?_eq_getElem hl)
  exact ⟨b, off, l[i], vs, e, hb, List.getElem?_eq_getElem hl, h1, h2, h3⟩
theorem Sq.lt (h : Sq El k w A n c l) : ∀ x, A = some x → 0 < n → x.block < w.heap.size := fun x e hn => by
  obtain ⟨b, off, e', hb, _⟩ := h.cell hn
  rw [e] at e'
  injection e' with e'
  rw [e']
  exact hb

/-- A row of the call's own reads so. -/
theorem sq_of_own {B E : Nat} {v : Value} {xs : List Value} (h : w.ownsRow B E k v n xs) (hk : 0 < k) (hl : l.length = n) (hx : ∀ i x, l[i]? = some x → ∃ vs : List Value, vs.length = k ∧ El w vs x ∧ ∀ j u, vs[j]? = some u → xs[i * k + j]? = some u) :
    ∃ A c, v = .slice A n c ∧ Sq El k w A n c l := by
  obtain ⟨hxl, h⟩ := h
  rcases h with ⟨rfl, h0⟩ | ⟨g, cap, cur, rfl, hB, hh, hnc, hm, hs, ht⟩
  · subst h0
    have : l = [] := List.eq_nil_of_length_eq_zero hl
    subst this
    exact ⟨_, _, rfl, Sq.none_ w⟩
  · have hg : g < w.heap.size := (Array.getElem?_eq_some_iff.1 hh).1
    refine ⟨_, _, rfl, hl, hnc, by unfold maxLen at hm; omega, fun h => by simp at h, fun _ => ⟨g, 0, rfl, hg, fun i x hi => ?_⟩⟩
    obtain ⟨vs, h1, h2, h3⟩ := hx i x hi
    refine ⟨vs, h1, h2, fun j u hu => ?_⟩
    have := h3 j u hu
    rw [← ht, List.getElem?_take] at this
    split at this
    · simp only [World.cell?, hh, Nat.zero_add]
      simpa using this
    · cases this
end

section
variable {H : Type} {enc : TypeId × Value → H} {P : Program} {w : World}

theorem Sized.field {t : TypeId} {fs : Array Field} {parts : List (DataW H)} {j : Nat} {f : Field} {d : DataW H} (hs : P.underlying t = some (.struct fs)) (h : Sized P t (.agg parts)) (hf : fs[j]? = some f) (hd : parts[j]? = some d) : Sized P f.type d := by
  intro x hx
  refine h x ?_
  simp only [DataW.weights, hs]
  exact DataW.weights_mem_each (j := j) (by simp [hf]) hd x hx

section
open Go.ChangeShapes Go.WideShapes Go.Deep
/-- The guide's law on a slice of structs (howto/extra-structs.md, 1), at a whole reading. -/
theorem open_slice_fields' {t e : TypeId} {fs : Array Field} {fuel : Nat} {cs : List Value} {x : DataW H × List MemPlace} (ht : P.underlying t = some (.slice e)) (he : P.underlying e = some (.struct fs))
    (hone : oneCellFields P fs = true) (hC : P.cellsOf e = fs.size) (h : DataW.trod enc P w 0 (fun _ => true) true fuel t cs = some x) :
    (cs = [.slice none 0 0] ∧ x = (.nil, [])) ∨
    ∃ (a : Addr) (len cap : Nat) (D : Nat → DataW H) (Pl : Nat → List MemPlace), cs = [.slice (some a) len cap] ∧ len ≤ cap ∧ cap ≤ maxLen ∧
      x = (.slice ((List.range len).map D) ((List.range (cap - len)).map fun j => D (len + j)), MemPlace.row a (cap * fs.size) ++ (List.range cap).flatMap Pl) ∧
      ∀ i, i < cap → ∃ (ys : List (DataW H × List MemPlace)) (n : Nat), D i = .agg (ys.map (·.1)) ∧ ys.length = fs.size ∧
        ∀ (j : Nat) (f : Field), fs[j]? = some f → ∃ (v : Value) (y : DataW H × List MemPlace), w.cell? (a.add (i * fs.size + j)) = some v ∧ ys[j]? = some y ∧ DataW.trod enc P w 0 (fun _ => true) true n f.type [v] = some y := by
  rcases open_slice ht h with h0 | ⟨a, len, cap, m, n, D, Pl, hcs, hb, hl, hm, hmm, hx, hi⟩
  · exact .inl h0
  · simp only [if_true] at hmm
    subst hmm
    refine .inr ⟨a, len, m, D, Pl, hcs, hl, hm, by rw [hC] at hx; exact hx, fun i him => ?_⟩
    obtain ⟨cs', hc, ht'⟩ := hi i him
    rw [hC] at hc
    obtain ⟨ys, n', hn', hy, hlen, hyl, hf⟩ := DataW.trod_struct he ht'
    obtain ⟨_, hcl, hat⟩ := World.cells?_some hc
    simp only [Prod.mk.injEq] at hy
    refine ⟨ys, n', hy.1, hyl, fun j f hj => ?_⟩
    obtain ⟨ho, hk⟩ := hone_of hone j f hj
    have hjl : j < fs.size := (Array.getElem?_eq_some_iff.1 hj).1
    have hcell := hat j hjl
    have hv : cs'[j]? = some (cs'[j]'(by omega)) := List.getElem?_eq_getElem (by omega)
    have h1 := hf j f hj
    rw [ho, hk] at h1
    have hone' : (cs'.drop j).take 1 = [cs'[j]'(by omega)] := by
      rw [List.drop_eq_getElem_cons (by omega)]
      rfl
    rw [hone'] at h1
    have hys : ys[j]? = some (ys[j]'(by omega)) := List.getElem?_eq_getElem (by omega)
    refine ⟨_, _, ?_, hys, h1.trans hys⟩
    rw [← Go.Deep.add_add, hcell, hv]
end

theorem cell_add {a : Addr} {v : Value} {k : Nat} (h : w.cell? (a.add k) = some v) (hs : a.spot = none) : w.cell? ⟨a.block, a.off + k, none⟩ = some v := by
  obtain ⟨b, off, spot⟩ := a
  simp only at hs
  subst hs
  unfold Addr.add at h
  split at h
  · rename_i h0; subst h0; exact h
  · exact h

/-- What one element reads as: its fields, each with its datum and that one's size. -/
def Fields {H : Type} (enc : TypeId × Value → H) (P : Program) (w : World) (fs : Array Field) (m : Nat) (vs : List Value) : Prop :=
  vs.length = fs.size ∧ ∀ (j : Nat) (f : Field), fs[j]? = some f → ∃ (v : Value) (y : DataW H × List MemPlace), vs[j]? = some v ∧ DataW.trod enc P w 0 (fun _ => true) true m f.type [v] = some y ∧ Sized P f.type y.1

theorem sq_of_trod' {α : Type} {El : World → List Value → α → Prop} {t e : TypeId} {fs : Array Field} {fuel : Nat} {v : Value} {d : DataW H} {p : List MemPlace} (ht : P.underlying t = some (.slice e)) (he : P.underlying e = some (.struct fs)) (hone : oneCellFields P fs = true) (hC : P.cellsOf e = fs.size) (hpos : 0 < fs.size)
    (h : DataW.trod enc P w 0 (fun _ => true) true fuel t [v] = some (d, p)) (hz : Sized P t d)
    (each : ∀ m vs, Fields enc P w fs m vs → ∃ x, El w vs x) : ∃ A n c l, v = .slice A n c ∧ Sq El fs.size w A n c l ∧ (n = 0 ∨ n * P.bytesOf e ≤ 140737488351232) := by
  rcases open_slice_fields' ht he hone hC h with ⟨hcs, _⟩ | ⟨a, len, cap, D, Pl, hcs, hl, hm, hx, hall⟩
  · injection hcs with hcs _
    exact ⟨_, _, _, [], hcs, Sq.none_ w, .inl rfl⟩
  · injection hcs with hcs _
    injection hx with hx _
    subst hx
    have hrow := hz.row ht
    simp only [List.length_map, List.length_range] at hrow
    have hel : ∀ i, i < len → ∃ q : α × List Value, q.2.length = fs.size ∧ El w q.2 q.1 ∧ ∀ j u, q.2[j]? = some u → w.cell? (a.add (i * fs.size + j)) = some u := fun i hi => by
      obtain ⟨ys, m, hD, hyl, hf⟩ := hall i (by omega)
      have hzi : Sized P e (D i) := hz.elem ht (List.mem_map.2 ⟨i, by simpa using hi, rfl⟩)
      rw [hD] at hzi
      have hV : ∀ j, j < fs.size → ∃ u : Value, w.cell? (a.add (i * fs.size + j)) = some u ∧ ∀ f, fs[j]? = some f → ∃ y : DataW H × List MemPlace, DataW.trod enc P w 0 (fun _ => true) true m f.type [u] = some y ∧ Sized P f.type y.1 := fun j hj => by
        obtain ⟨u, y, h1, h2, h3⟩ := hf j fs[j] (by simp [hj])
        refine ⟨u, h1, fun f hfj => ?_⟩
        have : fs[j] = f := by simpa [hj] using hfj
        subst this
        exact ⟨y, h3, hzi.field he hfj (d := y.1) (by rw [List.getElem?_map, h2]; rfl)⟩
      obtain ⟨V, hV⟩ := Deep.choose_lt hV
      obtain ⟨x, hx⟩ := each m ((List.range fs.size).map V) ⟨by simp, fun j f hfj => by
        have hj : j < fs.size := (Array.getElem?_eq_some_iff.1 hfj).1
        obtain ⟨y, h1, h2⟩ := (hV j hj).2 f hfj
        exact ⟨V j, y, by simp [hj], h1, h2⟩⟩
      refine ⟨(x, (List.range fs.size).map V), by simp, hx, fun j u hu => ?_⟩
      rw [List.getElem?_map, Option.map_eq_some_iff] at hu
      obtain ⟨j', hj', rfl⟩ := hu
      obtain ⟨hjl, rfl⟩ := range_get hj'
      exact (hV j' hjl).1
    rcases Nat.eq_zero_or_pos len with h0 | hlpos
    · subst h0
      exact ⟨some a, 0, cap, [], hcs, { len := rfl, le := hl, max := by unfold maxLen at hm; omega, nil := fun h => (by simp at h), cell := fun hn => absurd hn (by omega) }, .inl rfl⟩
    haveI : Inhabited (α × List Value) := ⟨(hel 0 hlpos).choose⟩
    obtain ⟨L, hL⟩ := Deep.choose_lt hel
    refine ⟨some a, len, cap, (List.range len).map fun i => (L i).1, hcs, { len := by simp, le := hl, max := by unfold maxLen at hm; omega, nil := fun h => (by simp at h), cell := fun hn => ?_ }, .inr ?_⟩
    · have h00 : ∃ u, w.cell? (a.add 0) = some u := by
        obtain ⟨h1, _, h3⟩ := hL 0 (by omega)
        have hu : (L 0).2[0]? = some ((L 0).2[0]'(by omega)) := List.getElem?_eq_getElem (by omega)
        exact ⟨_, by simpa using h3 0 _ hu⟩
      obtain ⟨u0, hu0⟩ := h00
      have hspot : a.spot = none := by
        obtain ⟨b, off, spot⟩ := a
        simpa [Addr.add] using World.cell?_spot hu0
      have hae : a = ⟨a.block, a.off, none⟩ := by
        obtain ⟨b, off, spot⟩ := a
        simp only at hspot
        subst hspot
        rfl
      refine ⟨a.block, a.off, by rw [← hae], World.block_lt_of_cell? w ⟨a.block, a.off + 0, none⟩ (cell_add hu0 hspot), fun i x hi => ?_⟩
      rw [List.getElem?_map, Option.map_eq_some_iff] at hi
      obtain ⟨i', hi', rfl⟩ := hi
      obtain ⟨hil, rfl⟩ := range_get hi'
      obtain ⟨h1, h2, h3⟩ := hL i' hil
      refine ⟨(L i').2, h1, h2, fun j v hj => ?_⟩
      rw [Nat.add_assoc]
      exact cell_add (h3 j v hj) hspot
    · exact Nat.le_trans (Nat.mul_le_mul_right _ (by omega)) hrow

theorem sq_of_trod {α : Type} {El : World → List Value → α → Prop} {t e : TypeId} {fs : Array Field} {a : Option Addr} {n c : Nat} {d : DataW H} {p : List MemPlace} (ht : P.underlying t = some (.slice e)) (he : P.underlying e = some (.struct fs)) (hone : oneCellFields P fs = true) (hC : P.cellsOf e = fs.size) (hpos : 0 < fs.size)
    (each : ∀ m vs, Fields enc P w fs m vs → ∃ x, El w vs x)
    (h : DataW.Trod enc P w 0 (fun _ => true) true t (.slice a n c) d p) (hz : Sized P t d) : ∃ l, Sq El fs.size w a n c l ∧ (n = 0 ∨ n * P.bytesOf e ≤ 140737488351232) := by
  obtain ⟨fuel, hf⟩ := h
  obtain ⟨A, n', c', l, hv, h1, h2⟩ := sq_of_trod' ht he hone hC hpos (v := .slice a n c) hf hz each
  injection hv with e1 e2 e3
  subst e1; subst e2; subst e3
  exact ⟨l, h1, h2⟩
end
end Go.Proofs.YtcecmbbhjaeodaaGreatDoor
end

section
namespace Go.Proofs.YtcecmbbhjaeodaaGreatDoor
open Go.RowKit

theorem flat_at_k {k : Nat} : ∀ {L : List (List Value)}, (∀ v ∈ L, v.length = k) → ∀ {i j : Nat} {v : List Value}, L[i]? = some v → j < k → L.flatten[i * k + j]? = v[j]?
  | [], _, i, j, v, h, _ => by simp at h
  | a :: L, hL, 0, j, v, h, hj => by
    simp at h
    subst h
    have := hL a (List.mem_cons_self ..)
    rw [List.flatten_cons, Nat.zero_mul, Nat.zero_add, List.getElem?_append_left (by omega)]
  | a :: L, hL, i + 1, j, v, h, hj => by
    simp at h
    have ha := hL a (List.mem_cons_self ..)
    have hm : (i + 1) * k + j = a.length + (i * k + j) := by rw [Nat.succ_mul]; omega
    rw [List.flatten_cons, hm, List.getElem?_append_right (by omega), Nat.add_sub_cancel_left]
    exact flat_at_k (fun v hv => hL v (List.mem_cons_of_mem _ hv)) h hj
theorem flat_len_k {k : Nat} : ∀ {L : List (List Value)}, (∀ v ∈ L, v.length = k) → L.flatten.length = L.length * k
  | [], _ => by simp
  | a :: L, hL => by
    rw [List.flatten_cons, List.length_append, flat_len_k fun v hv => hL v (List.mem_cons_of_mem _ hv), hL a (List.mem_cons_self ..), List.length_cons, Nat.succ_mul, Nat.add_comm]

/-- The cells xs read as the list l, k cells each. -/
def Reads {α : Type} (El : World → List Value → α → Prop) (k : Nat) (w : World) (xs : List Value) (l : List α) : Prop :=
  ∃ L : List (List Value), xs = L.flatten ∧ L.length = l.length ∧ (∀ v ∈ L, v.length = k) ∧ ∀ (i : Nat) vs x, L[i]? = some vs → l[i]? = some x → El w vs x

section
variable {α : Type} {El El' : World → List Value → α → Prop} {k : Nat} {w w' : World} {xs ys : List Value} {l la lb : List α}
theorem Reads.nil (w : World) : Reads El k w [] [] := ⟨[], rfl, rfl, fun v h => (by cases h), fun i vs x h => by simp at h⟩
theorem Reads.len (h : Reads El k w xs l) : xs.length = l.length * k := by
  obtain ⟨L, rfl, h1, h2, _⟩ := h
  rw [flat_len_k h2, h1]
theorem Reads.mono (h : Reads El k w xs l) (hE : ∀ vs x, El w vs x → El' w' vs x) : Reads El' k w' xs l := by
  obtain ⟨L, h0, h1, h2, h3⟩ := h
  exact ⟨L, h0, h1, h2, fun i vs x hi hx => hE _ _ (h3 i vs x hi hx)⟩
theorem Reads.append (ha : Reads El k w xs la) (hb : Reads El k w ys lb) : Reads El k w (xs ++ ys) (la ++ lb) := by
  obtain ⟨L, rfl, h1, h2, h3⟩ := ha
  obtain ⟨M, rfl, g1, g2, g3⟩ := hb
  refine ⟨L ++ M, by simp, by simp [h1, g1], fun v hv => (List.mem_append.1 hv).elim (h2 v) (g2 v), fun i vs x hi hx => ?_⟩
  rcases Nat.lt_or_ge i L.length with h | h
  · rw [List.getElem?_append_left h] at hi
    rw [List.getElem?_append_left (by omega)] at hx
    exact h3 i vs x hi hx
  · rw [List.getElem?_append_right h] at hi
    rw [List.getElem?_append_right (by omega), ← h1] at hx
    exact g3 _ vs x hi hx
theorem Reads.one {vs : List Value} {x : α} (hk : vs.length = k) (h : El w vs x) : Reads El k w vs [x] :=
  ⟨[vs], by simp, rfl, fun v hv => by rw [List.mem_singleton.1 hv]; exact hk, fun i us y hi hy => by
    cases i with
    | zero => simp at hi hy; subst hi; subst hy; exact h
    | succ i => simp at hi⟩
theorem Reads.at_ (h : Reads El k w xs l) {i : Nat} {x : α} (hi : l[i]? = some x) : ∃ vs, vs.length = k ∧ El w vs x ∧ ∀ j u, vs[j]? = some u → xs[i * k + j]? = some u := by
  obtain ⟨L, rfl, h1, h2, h3⟩ := h
  have hlt : i < L.length := by have := (List.getElem?_eq_some_iff.1 hi).1; omega
  have hL : L[i]? = some L[i] := List.getElem?_eq_getElem hlt
  have hlen := h2 L[i] (List.getElem_mem hlt)
  refine ⟨L[i], hlen, h3 i _ x hL hi, fun j u hu => ?_⟩
  have hj : j < k := by have := (List.getElem?_eq_some_iff.1 hu).1; omega
  rw [flat_at_k h2 hL hj, hu]
theorem Reads.all (h : Reads El k w xs l) (h1 : ∀ vs x, El w vs x → ∀ u ∈ vs, u.oneCell' = true) : ∀ u ∈ xs, u.oneCell' = true := by
  obtain ⟨L, rfl, g1, _, g3⟩ := h
  intro u hu
  obtain ⟨vs, hvs, huv⟩ := List.mem_flatten.1 hu
  obtain ⟨i, hi⟩ := List.mem_iff_getElem?.1 hvs
  have hlt : i < l.length := by have := (List.getElem?_eq_some_iff.1 hi).1; omega
  exact h1 vs _ (g3 i vs l[i] hi (List.getElem?_eq_getElem hlt)) u huv

/-- A row of the call's own that reads as a list. -/
def OwS (El : World → List Value → α → Prop) (k : Nat) (w : World) (B E : Nat) (v : Value) (l : List α) : Prop := ∃ xs, w.ownsRow B E k v l.length xs ∧ Reads El k w xs l
theorem OwS.nil (w : World) (B E : Nat) : OwS El k w B E (.slice none 0 0) [] := ⟨[], World.ownsRow_nil w B E k, Reads.nil w⟩
theorem OwS.sq {B E : Nat} {v : Value} (h : OwS El k w B E v l) (hk : 0 < k) : ∃ A c, v = .slice A l.length c ∧ Sq El k w A l.length c l := by
  obtain ⟨xs, h1, h2⟩ := h
  exact sq_of_own h1 hk rfl fun i x hi => h2.at_ hi
theorem OwS.form {B E : Nat} {v : Value} (h : OwS El k w B E v l) : ∃ A c, v = .slice A l.length c := by
  obtain ⟨xs, ⟨_, h1⟩, _⟩ := h
  rcases h1 with ⟨rfl, h0⟩ | ⟨g, cap, cur, rfl, _⟩
  · exact ⟨_, _, by rw [h0]⟩
  · exact ⟨_, _, rfl⟩
theorem OwS.sq' {B E n c : Nat} {A : Option Addr} (h : OwS El k w B E (.slice A n c) l) (hk : 0 < k) : Sq El k w A n c l := by
  obtain ⟨A', c', e, h1⟩ := h.sq hk
  injection e with e1 e2 e3
  subst e1; subst e2; subst e3
  exact h1
theorem OwS.kept {B E : Nat} {v : Value} {row : Option Nat} (h : OwS El k w B E v l) (hg : w.grownBy w' row) (hne : v.ownBlock = none ∨ v.ownBlock ≠ row) (hE : ∀ vs x, El w vs x → El w' vs x) : OwS El k w' B E v l := by
  obtain ⟨xs, h1, h2⟩ := h
  exact ⟨xs, h1.kept hg hne, h2.mono hE⟩
theorem OwS.below {B E : Nat} {v : Value} (h : OwS El k w B E v l) (hb : Below w.heap.size w w') (hE : ∀ vs x, El w vs x → El w' vs x) : OwS El k w' B E v l :=
  h.kept (grown_of_below hb) (by cases hv : v.ownBlock with | none => exact .inl rfl | some b => exact .inr (by simp)) hE
theorem OwS.lt {B E : Nat} {v : Value} (h : OwS El k w B E v l) : ∀ b, v.ownBlock = some b → B ≤ b ∧ b < w.heap.size := by
  obtain ⟨xs, h1, _⟩ := h
  exact World.ownsRow.lt h1

/-- The cells of a slice that reads as a list. -/
theorem Sq.cells {A : Option Addr} {n c : Nat} (h : Sq El k w A n c l) : ∃ xs, Reads El k w xs l ∧ (0 < n → ∃ b off, A = some ⟨b, off, none⟩ ∧ b < w.heap.size ∧ (0 < k → ∀ j u, xs[j]? = some u → w.cell? ⟨b, off + j, none⟩ = some u)) := by
  rcases Nat.eq_zero_or_pos n with h0 | hn
  · have : l = [] := List.eq_nil_of_length_eq_zero (by rw [h.len, h0])
    subst this
    exact ⟨[], Reads.nil w, fun hp => by omega⟩
  · obtain ⟨b, off, e, hb, hc⟩ := h.cell hn
    have hl := h.len
    have hV : ∀ i, i < n → ∃ vs : List Value, vs.length = k ∧ (∀ x, l[i]? = some x → El w vs x) ∧ ∀ j v, vs[j]? = some v → w.cell? ⟨b, off + i * k + j, none⟩ = some v := fun i hi => by
      obtain ⟨vs, h1, h2, h3⟩ := hc i l[i] (List.getElem?_eq_getElem (by omega))
      refine ⟨vs, h1, fun x hx => ?_, h3⟩
      rw [List.getElem?_eq_getElem (by omega)] at hx
      injection hx with hx
      rw [← hx]; exact h2
    obtain ⟨V, hV⟩ := Deep.choose_lt hV
    refine ⟨((List.range n).map V).flatten, ⟨_, rfl, by simp [hl], fun v hv => ?_, fun i vs x hi hx => ?_⟩, fun _ => ⟨b, off, e, hb, fun hk j u hu => ?_⟩⟩
    · obtain ⟨i, hi, rfl⟩ := List.mem_map.1 hv
      exact (hV i (by simpa using hi)).1
    · rw [List.getElem?_map, Option.map_eq_some_iff] at hi
      obtain ⟨i', hi', rfl⟩ := hi
      obtain ⟨hil, rfl⟩ := range_get hi'
      exact (hV i' hil).2.1 x hx
    · have hall : ∀ v ∈ (List.range n).map V, v.length = k := fun v hv => by
        obtain ⟨i, hi, rfl⟩ := List.mem_map.1 hv
        exact (hV i (by simpa using hi)).1
      have hj : j < n * k := by
        have := (List.getElem?_eq_some_iff.1 hu).1
        rw [flat_len_k hall] at this
        simpa using this
      have hq : j / k < n := (Nat.div_lt_iff_lt_mul hk).2 hj
      have hm : j % k < k := Nat.mod_lt _ hk
      have hjj : j / k * k + j % k = j := by rw [Nat.mul_comm]; exact Nat.div_add_mod j k
      have hget : ((List.range n).map V)[j / k]? = some (V (j / k)) := by simp [hq]
      have h1 := flat_at_k hall hget hm
      rw [hjj, hu] at h1
      have h2 := (hV (j / k) hq).2.2 (j % k) u h1.symm
      rw [Nat.add_assoc, hjj] at h2
      exact h2
end

section
variable {P : Program} {ops : Array Oper} {rest : List Oper} {o : Oper} {a : Act} {Q : Exit → Act → World → Prop}
/-- 'append(x, y...)' at structs, x a row of the call's own, y any slice that reads as a list. -/
theorem append_sq {α : Type} {El : World → List Value → α → Prop} {k : Nat} (w : World) (t e : TypeId) (z : Value) (by_ : Nat) (ht : P.underlying t = some (.slice e))
    (hinfo : (P.info? e).map (fun i => (i.zero, i.size, i.bytes)) = some (some z, k, by_)) (hzs : z.cells.size = k) (hk : 0 < k)
    (hgd : o.guard = none) (s x : Operand)
    (ho : o.op = .call { callee := .builtin .append, args := #[s, x], argTypes := #[t, t] })
    (B : Nat) (v : Value) (la : List α) (hs : a.eval s = v) (hown : OwS El k w B e v la)
    (A : Option Addr) (m c : Nat) (lb : List α) (hx : a.eval x = .slice A m c) (hr : Sq El k w A m c lb)
    (h1 : ∀ vs x, El w vs x → ∀ u ∈ vs, u.oneCell' = true) (hE : ∀ w', w.grownBy w' v.ownBlock → ∀ vs x, El w vs x → El w' vs x)
    (N : Nat) (hN : la.length + m = N) (hsz : N * by_ ≤ 140737488355328) (hsz2 : N ≤ 140737488355328) (hB : B ≤ w.heap.size)
    (h : ∀ A' c' w', OwS El k w' B e (.slice A' N c') (la ++ lb) → w.grownBy w' v.ownBlock → Below B w w' → ((Value.slice A' N c').ownBlock = v.ownBlock ∨ (Value.slice A' N c').ownBlock = some w.heap.size) → wpList P ops Q rest (a.put o.dst (.slice A' N c')) w') :
    wpList P ops Q (o :: rest) a w := by
  obtain ⟨xs, hown, hra⟩ := hown
  obtain ⟨ys, hrb, hyc⟩ := hr.cells
  obtain ⟨i, hi, hz, hsz', hby⟩ := info_parts hinfo
  have hbel : ∀ w', w.grownBy w' v.ownBlock → Below B w w' := fun w' hg => (Below.refl B w).grown hg hB (fun k hk => (World.ownsRow.lt hown k hk).1)
  rcases A with _ | ad
  · obtain ⟨rfl, rfl⟩ := hr.nil rfl
    have hn : lb = [] := List.eq_nil_of_length_eq_zero hr.len
    subst hn
    refine wpList_append_own_none hgd s x t ho B e i k ht hi v la.length xs hs hown hx ?_
    have h2 : OwS El k w B e v la := ⟨xs, hown, hra⟩
    obtain ⟨A', c', rfl⟩ := h2.form
    have h0 : la.length = N := by omega
    rw [h0] at h2 ⊢
    refine h A' c' w ?_ (World.grownBy.refl _ _) (Below.refl _ _) (.inl ?_)
    · rw [List.append_nil]; exact h2
    · rw [h0]
  · refine wpList_append_own_at w hgd s x t ho B e i z k by_ ht hi hz hsz' hby hzs hk v la.length xs hs hown ad m c ys hx (by rw [hrb.len, hr.len]) ?_ (hrb.all h1) (by unfold maxLen; omega) (by rw [hN]; exact hsz) hB ?_
    · intro j u hu
      have hm : 0 < m := by
        have h1 := (List.getElem?_eq_some_iff.1 hu).1
        rw [hrb.len, hr.len] at h1
        rcases Nat.eq_zero_or_pos m with h0 | h0
        · rw [h0] at h1; omega
        · exact h0
      obtain ⟨b, off, he, _, hc⟩ := hyc hm
      injection he with he
      subst he
      have := hc hk j u hu
      unfold Addr.add
      split
      · rename_i h0; subst h0; simpa using this
      · exact this
    · intro v' w' hown' hg _ hob
      have h2 : OwS El k w' B e v' (la ++ lb) := ⟨xs ++ ys, by rw [List.length_append, hr.len]; exact hown', (hra.append hrb).mono (hE w' hg)⟩
      obtain ⟨A', c', rfl⟩ := h2.form
      have h0 : (la ++ lb).length = N := by rw [List.length_append, hr.len]; exact hN
      rw [h0] at h2 hob ⊢
      exact h A' c' w' h2 hg (hbel w' hg) hob
end

/-- A literal of one struct, laid as new memory. -/
theorem sq_one {α : Type} {El : World → List Value → α → Prop} {k : Nat} (w : World) (vs : List Value) (x : α) (E : TypeId) (fr : Nat × Nat) (hk : vs.length = k) (h : El (w.alloc (.cells vs.toArray E fr)) vs x) :
    Sq El k (w.alloc (.cells vs.toArray E fr)) (some ⟨w.heap.size, 0, none⟩) 1 1 [x] := by
  have hn : (w.alloc (.cells vs.toArray E fr)).heap[w.heap.size]? = some (.cells vs.toArray E fr) := heap_alloc_new w _
  refine ⟨rfl, Nat.le_refl _, by omega, fun h => by simp at h, fun _ => ⟨_, _, rfl, (Array.getElem?_eq_some_iff.1 hn).1, fun i y hi => ?_⟩⟩
  cases i with
  | succ i => simp at hi
  | zero =>
    simp at hi
    subst hi
    refine ⟨vs, hk, h, fun j v hj => ?_⟩
    simp only [World.cell?, hn]
    simpa using hj
end Go.Proofs.YtcecmbbhjaeodaaGreatDoor
end
