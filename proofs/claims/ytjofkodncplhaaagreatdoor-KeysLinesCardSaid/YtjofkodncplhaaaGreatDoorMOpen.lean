/- What came in, opened: slices of bytes, and slices of these, read as lists, and how long they are at most. No program stands here. -/
import Derived.Test.YtjofkodncplhaaaGreatDoorMWords
import Derived.SizedLaws
import Derived.Deep.Slices
namespace Go.Proofs.YtjofkodncplhaaaGreatDoor
open Go.RowKit

/-- All that was read below a datum takes at most the form's reach. -/
def Sized {H : Type} (P : Program) (t : TypeId) (d : DataW H) : Prop := ∀ x ∈ d.weights P t, x ≤ 140737488351232

theorem sized_each {H : Type} {P : Program} {ts : List TypeId} {ds : List (DataW H)} (h : (DataW.weightsEach P ts ds).all (· ≤ reachBytes) = true)
    {j : Nat} {t : TypeId} {d : DataW H} (ht : ts[j]? = some t) (hd : ds[j]? = some d) : Sized P t d := by
  intro x hx
  have := List.all_eq_true.1 h _ (DataW.weights_mem_each ht hd x hx)
  exact of_decide_eq_true this

theorem range_get {n j i : Nat} (h : (List.range n)[j]? = some i) : j < n ∧ i = j := by
  obtain ⟨h1, h2⟩ := List.getElem?_eq_some_iff.1 h
  rw [List.getElem_range] at h2
  exact ⟨by simpa using h1, h2.symm⟩

theorem weights_mem_all {H : Type} {P : Program} {e : TypeId} {d : DataW H} {l : List (DataW H)} (hd : d ∈ l) {x : Nat} (hx : x ∈ d.weights P e) : x ∈ DataW.weightsAll P e l := by
  induction l with
  | nil => simp at hd
  | cons d' l ih =>
    simp only [DataW.weightsAll, List.mem_append]
    rcases List.mem_cons.1 hd with rfl | h
    · exact .inl hx
    · exact .inr (ih h)

theorem Sized.elem {H : Type} {P : Program} {t e : TypeId} {elems spare : List (DataW H)} (ht : P.underlying t = some (.slice e)) (h : Sized P t (.slice elems spare)) {d : DataW H} (hd : d ∈ elems) : Sized P e d := by
  intro x hx
  refine h x ?_
  simp only [DataW.weights, ht]
  exact List.mem_cons_of_mem _ (List.mem_append_left _ (weights_mem_all hd hx))

theorem Sized.row {H : Type} {P : Program} {t e : TypeId} {elems spare : List (DataW H)} (ht : P.underlying t = some (.slice e)) (h : Sized P t (.slice elems spare)) : (elems.length + spare.length) * P.bytesOf e ≤ 140737488351232 :=
  h _ (by simp [DataW.weights, ht])

section
variable {H : Type} {enc : TypeId × Value → H} {P : Program} {w : World} {t e q : TypeId}

/-- One element of bytes. -/
theorem el_of_trod {fuel : Nat} {v : Value} {d : DataW H} {p : List MemPlace} (ht : P.underlying e = some (.slice q)) (he : P.underlying q = some (.int .u8)) (hc : P.cellsOf q = 1) (hby : P.bytesOf q = 1)
    (h : DataW.trod enc P w 0 (fun _ => true) true fuel e [v] = some (d, p)) (hz : Sized P e d) :
    ∃ A n c, ∃ l : List UInt8, v = .slice A n c ∧ Bs w A n c l ∧ c ≤ 140737488351232 := by
  rcases ChangeShapes.open_ints ht he hc h with ⟨hcs, _⟩ | ⟨x, l, cc, zs, hcs, _, hl, hm, hzl, hx, hcell, hwz⟩
  · injection hcs with hcs _
    subst hcs
    exact ⟨none, 0, 0, [], rfl, Rd.none_ w, by omega⟩
  · injection hcs with hcs _
    subst hcs
    injection hx with hx _
    subst hx
    have hr := hz.row ht
    rw [hby] at hr
    simp only [if_true] at hzl
    simp only [ChangeShapes.lits, List.length_map, List.length_take, List.length_drop] at hr
    obtain ⟨l', hbs⟩ := bs_of_ints hl hm hzl hcell hwz
    exact ⟨_, _, _, l', rfl, hbs, by omega⟩

theorem bs_of_trod' {a : Option Addr} {n c : Nat} {d : DataW H} {p : List MemPlace}
    (ht : P.underlying t = some (.slice e)) (he : P.underlying e = some (.int .u8)) (hc : P.cellsOf e = 1) (hby : P.bytesOf e = 1)
    (h : DataW.Trod enc P w 0 (fun _ => true) true t (.slice a n c) d p) (hz : Sized P t d) : ∃ l : List UInt8, Bs w a n c l ∧ c ≤ 140737488351232 := by
  obtain ⟨fuel, hf⟩ := h
  obtain ⟨A, n', c', l, hv, hbs, hle⟩ := el_of_trod ht he hc hby (v := .slice a n c) hf hz
  injection hv with h1 h2 h3
  subst h1; subst h2; subst h3
  exact ⟨l, hbs, hle⟩

theorem bss_of_trod {a : Option Addr} {n c : Nat} {d : DataW H} {p : List MemPlace}
    (ht : P.underlying t = some (.slice e)) (ce : P.cellsOf e = 1) (he : P.underlying e = some (.slice q)) (hq : P.underlying q = some (.int .u8)) (cq : P.cellsOf q = 1) (hby : P.bytesOf q = 1)
    (h : DataW.Trod enc P w 0 (fun _ => true) true t (.slice a n c) d p) (hz : Sized P t d) :
    ∃ ls : List (List UInt8), BsL w a n c ls ∧ ∀ l ∈ ls, l.length ≤ 140737488351232 := by
  obtain ⟨fuel, hf⟩ := h
  rcases Deep.open_slice1 ht ce hf with ⟨hcs, _⟩ | ⟨x, len, cap, m, k, V, D, Pl, hcs, _, hl, hm, hmm, hx, hall⟩
  · simp [Value.cells] at hcs
    obtain ⟨rfl, rfl, rfl⟩ := hcs
    exact ⟨[], BsL.nil w, fun l hl => by simp at hl⟩
  · simp [Value.cells] at hcs
    obtain ⟨rfl, rfl, rfl⟩ := hcs
    simp only [if_true] at hmm
    subst hmm
    injection hx with hx _
    subst hx
    have each : ∀ i, i < n → ∃ l : List UInt8, El w none (V i) l ∧ l.length ≤ 140737488351232 := fun i hi => by
      obtain ⟨_, htr⟩ := hall i (by omega)
      have hzi : Sized P e (D i) := hz.elem ht (List.mem_map.2 ⟨i, by simpa using hi, rfl⟩)
      obtain ⟨A, n', c', l, hv, hbs, hle⟩ := el_of_trod he hq cq hby htr hzi
      refine ⟨l, hv ▸ El.of_bs hbs, ?_⟩
      have := hbs.len
      have := Rd.le hbs
      omega
    obtain ⟨L, hL⟩ := Deep.choose_lt each
    refine ⟨(List.range n).map L, ⟨(List.range n).map V, ⟨by simp, hl, by unfold maxLen at hm; omega, fun h => by simp at h, fun hn => ?_⟩, by simp, fun j u hu => ?_⟩, fun l hl => ?_⟩
    · obtain ⟨b, off, spot⟩ := x
      have h0 := (hall 0 (by omega)).1
      have hspot : spot = none := by simpa [Addr.add] using World.cell?_spot h0
      subst hspot
      refine ⟨b, off, rfl, World.block_lt_of_cell? w _ h0, fun j u hu => ?_⟩
      rw [List.getElem?_map, Option.map_eq_some_iff] at hu
      obtain ⟨i, hi, rfl⟩ := hu
      obtain ⟨hjn, rfl⟩ := range_get hi
      have := (hall i (by omega)).1
      unfold Addr.add at this
      split at this
      · rename_i h0; subst h0; simpa using this
      · exact this
    · rw [List.getElem?_map, Option.map_eq_some_iff] at hu
      obtain ⟨i, hi, rfl⟩ := hu
      obtain ⟨hjn, rfl⟩ := range_get hi
      exact ⟨L i, by rw [List.getElem?_map, hi]; rfl, (hL i hjn).1⟩
    · obtain ⟨i, hi, rfl⟩ := List.mem_map.1 hl
      exact (hL i (by simpa using hi)).2
end

end Go.Proofs.YtjofkodncplhaaaGreatDoor
