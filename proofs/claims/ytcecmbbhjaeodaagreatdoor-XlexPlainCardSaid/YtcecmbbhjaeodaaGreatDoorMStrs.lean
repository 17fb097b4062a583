/- Slices of strings that read as lists. -/
import Derived.Test.YtcecmbbhjaeodaaGreatDoorMRowS
import Derived.SliceStrings
namespace Go.Proofs.YtcecmbbhjaeodaaGreatDoor
open Go.RowKit Go.ChangeShapes

/-- A slice of strings that reads as a list. -/
def Ss (w : World) (A : Option Addr) (n c : Nat) (ss : List ByteArray) : Prop := Rd w A n c (ss.map Value.string)

section
variable {w w' : World} {A : Option Addr} {n c : Nat} {ss : List ByteArray}
theorem Ss.len (h : Ss w A n c ss) : ss.length = n := by simpa using Rd.len h
theorem Ss.below (h : Ss w A n c ss) (hb : Below w.heap.size w w') : Ss w' A n c ss := Rd.below h hb
theorem Ss.at_ {k : Nat} (h : Ss w A n c ss) (hk : k < n) :
    ∃ b off s, A = some ⟨b, off, none⟩ ∧ b < w.heap.size ∧ ss[k]? = some s ∧ w.cell? ⟨b, off + k, none⟩ = some (.string s) := by
  obtain ⟨b, off, u, e, hb, hx, hc⟩ := Rd.at_ h hk
  rw [List.getElem?_map, Option.map_eq_some_iff] at hx
  obtain ⟨s, hs, rfl⟩ := hx
  exact ⟨b, off, s, e, hb, hs, hc⟩
theorem Ss.nil (w : World) : Ss w none 0 0 [] := Rd.none_ w
end

section
variable {H : Type} {enc : TypeId × Value → H} {P : Program} {w : World} {t e : TypeId}

theorem Sized.string {s : ByteArray} (h : Sized P t (DataW.lit (H := H) (.string s.data.toList))) : s.size ≤ 140737488351232 := h s.size (by
  show s.size ∈ [s.data.toList.length]
  rw [Array.length_toList]
  exact List.mem_singleton.2 rfl)

theorem ss_of_trod {a : Option Addr} {n c : Nat} {d : DataW H} {p : List MemPlace}
    (ht : P.underlying t = some (.slice e)) (he : P.underlying e = some .string) (hc : P.cellsOf e = 1)
    (h : DataW.Trod enc P w 0 (fun _ => true) true t (.slice a n c) d p) (hz : Sized P t d) :
    ∃ ss : List ByteArray, Ss w a n c ss ∧ ∀ s ∈ ss, s.size ≤ 140737488351232 := by
  obtain ⟨fuel, hf⟩ := h
  rcases open_strings ht he hc hf with ⟨hcs, _⟩ | ⟨x, len, cap, zs, hcs, _, hl, hm, hzl, hx, hcell, hsz⟩
  · simp [Value.cells] at hcs
    obtain ⟨rfl, rfl, rfl⟩ := hcs
    exact ⟨[], Ss.nil w, fun s hs => by simp at hs⟩
  · simp [Value.cells] at hcs
    obtain ⟨rfl, rfl, rfl⟩ := hcs
    simp only [if_true] at hzl
    injection hx with hx _
    subst hx
    have hlen : (zs.take n).length = n := by rw [List.length_take]; omega
    refine ⟨zs.take n, ⟨by simpa using hlen, hl, by unfold maxLen at hm; omega, fun h => by simp at h, fun hn => ?_⟩, fun s hs => ?_⟩
    · obtain ⟨b, off, spot⟩ := x
      have h0 := hcell 0 (by omega)
      have hspot : spot = none := by simpa [Addr.add] using World.cell?_spot h0
      subst hspot
      refine ⟨b, off, rfl, World.block_lt_of_cell? w _ h0, fun j u hu => ?_⟩
      rw [List.getElem?_map, Option.map_eq_some_iff] at hu
      obtain ⟨s, hs, rfl⟩ := hu
      have hj : j < n := by
        have := (List.getElem?_eq_some_iff.1 hs).1
        omega
      rw [List.getElem?_take, if_pos hj] at hs
      have := hcell j (by omega)
      rw [List.getD_eq_getElem?_getD, hs, Option.getD_some] at this
      unfold Addr.add at this
      split at this
      · rename_i h0; subst h0; simpa using this
      · exact this
    · have hmem : (DataW.lit (H := H) (.string s.data.toList)) ∈ strs (zs.take n) := by
        unfold strs
        exact List.mem_map.2 ⟨s, hs, rfl⟩
      have := hz.elem ht hmem s.size (by
        show s.size ∈ [s.data.toList.length]
        rw [Array.length_toList]
        exact List.mem_singleton.2 rfl)
      exact this
end
end Go.Proofs.YtcecmbbhjaeodaaGreatDoor
