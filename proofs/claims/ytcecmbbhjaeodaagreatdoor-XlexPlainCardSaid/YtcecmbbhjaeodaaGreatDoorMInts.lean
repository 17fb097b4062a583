/- A slice of integers that came in, as a list. -/
import Derived.Test.YtcecmbbhjaeodaaGreatDoorMUtfEnc
import Derived.Test.YtcecmbbhjaeodaaGreatDoorMRowS
namespace Go.Proofs.YtcecmbbhjaeodaaGreatDoor
open Go.RowKit

theorem rd_of_ints {w : World} {x : Addr} {len cap : Nat} {zs : List Int} {k : IntKind} (hl : len ≤ cap) (hm : cap ≤ maxLen) (hz : zs.length = cap)
    (hc : ∀ i, i < zs.length → w.cell? (x.add i) = some (.int k (zs.getD i 0))) :
    Rd w (some x) len cap ((zs.take len).map (Value.int k)) := by
  refine { len := by simp; omega, le := hl, max := by unfold maxLen at hm; omega, nil := fun h => by simp at h, cell := fun hn => ?_ }
  obtain ⟨b, off, spot⟩ := x
  have h0 := hc 0 (by omega)
  have hspot : spot = none := by simpa [Addr.add] using World.cell?_spot h0
  subst hspot
  refine ⟨b, off, rfl, World.block_lt_of_cell? w _ h0, fun j u hu => ?_⟩
  rw [List.getElem?_map, Option.map_eq_some_iff] at hu
  obtain ⟨z, hz', rfl⟩ := hu
  rw [List.getElem?_take] at hz'
  split at hz'
  · rename_i hj
    have h2 := hc j (by omega)
    have hget : zs.getD j 0 = z := by rw [List.getD_eq_getElem?_getD, hz']; rfl
    rw [hget] at h2
    unfold Addr.add at h2
    split at h2
    · rename_i h0; subst h0; simpa using h2
    · exact h2
  · cases hz'

/-- What came in as a slice of integers reads as a list. -/
theorem is_of_trod {H : Type} {enc : TypeId × Value → H} {P : Program} {w : World} {t e : TypeId} {k : IntKind} {a : Option Addr} {n c : Nat} {d : DataW H} {p : List MemPlace}
    (ht : P.underlying t = some (.slice e)) (he : P.underlying e = some (.int k)) (hc : P.cellsOf e = 1)
    (h : DataW.Trod enc P w 0 (fun _ => true) true t (.slice a n c) d p) (_hz : Sized P t d) : ∃ l : List Int, Rd w a n c (l.map (Value.int k)) ∧ ∀ z ∈ l, (Lit.int k z).wf = true := by
  obtain ⟨fuel, hf⟩ := h
  rcases ChangeShapes.open_ints ht he hc hf with ⟨hcs, _⟩ | ⟨x, l, cc, zs, hcs, _, hl, hm, hz, _, hcell, hwz⟩
  · simp [Value.cells] at hcs
    obtain ⟨rfl, rfl, rfl⟩ := hcs
    exact ⟨[], Rd.none_ w, fun z hz => by cases hz⟩
  · simp [Value.cells] at hcs
    obtain ⟨rfl, rfl, rfl⟩ := hcs
    exact ⟨zs.take n, rd_of_ints hl hm (by simpa using hz) hcell, fun z hz => hwz z (List.mem_of_mem_take hz)⟩

/-- The same, of a field. -/
theorem is_of_trod1 {H : Type} {enc : TypeId × Value → H} {P : Program} {w : World} {t e : TypeId} {k : IntKind} {fuel : Nat} {v : Value} {x : DataW H × List MemPlace}
    (ht : P.underlying t = some (.slice e)) (he : P.underlying e = some (.int k)) (hc : P.cellsOf e = 1)
    (h : DataW.trod enc P w 0 (fun _ => true) true fuel t [v] = some x) : ∃ (a : Option Addr) (n c : Nat) (l : List Int), v = .slice a n c ∧ Rd w a n c (l.map (Value.int k)) ∧ ∀ z ∈ l, (Lit.int k z).wf = true := by
  rcases ChangeShapes.open_ints ht he hc h with ⟨hcs, _⟩ | ⟨y, l, cc, zs, hcs, _, hl, hm, hz, _, hcell, hwz⟩
  · injection hcs with hcs _
    subst hcs
    exact ⟨none, 0, 0, [], rfl, Rd.none_ w, fun z hz => by cases hz⟩
  · injection hcs with hcs _
    subst hcs
    exact ⟨some y, l, cc, zs.take l, rfl, rd_of_ints hl hm (by simpa using hz) hcell, fun z hz => hwz z (List.mem_of_mem_take hz)⟩
end Go.Proofs.YtcecmbbhjaeodaaGreatDoor
