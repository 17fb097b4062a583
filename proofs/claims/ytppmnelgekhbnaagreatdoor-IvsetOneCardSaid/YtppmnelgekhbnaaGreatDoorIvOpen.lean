/- What came in as a slice of spans, read as a list. -/
import Derived.Test.YtppmnelgekhbnaaGreatDoorIvRow
import Derived.Test.YtppmnelgekhbnaaGreatDoorOpen
import Derived.Deep.SlicePairs
namespace Go.Proofs.YtppmnelgekhbnaaGreatDoor
open Go.RowKit

theorem addr_spot {w : World} {a : Addr} {v : Value} {k : Nat} (h : w.cell? (a.add k) = some v) (hs : a.spot = none) : a.add k = ⟨a.block, a.off + k, none⟩ := by
  obtain ⟨b, off, spot⟩ := a
  simp only at hs
  subst hs
  unfold Addr.add
  split
  · rename_i h0; subst h0; rfl
  · rfl

theorem flat_at : ∀ {l : List Iv.Span} {j : Nat} {u : Value}, (flat l)[j]? = some u → ∃ p, l[j / 2]? = some p ∧ (j % 2 = 0 ∧ u = .int .i64 p.1 ∨ j % 2 = 1 ∧ u = .int .i64 p.2)
  | [], j, u, h => by simp [flat] at h
  | p :: l, 0, u, h => by rw [flat_cons] at h; simp at h; exact ⟨p, rfl, .inl ⟨rfl, h.symm⟩⟩
  | p :: l, 1, u, h => by rw [flat_cons] at h; simp at h; exact ⟨p, rfl, .inr ⟨rfl, h.symm⟩⟩
  | p :: l, j + 2, u, h => by
    rw [flat_cons] at h
    simp at h
    obtain ⟨q, h1, h2⟩ := flat_at h
    refine ⟨q, ?_, ?_⟩
    · rw [show (j + 2) / 2 = j / 2 + 1 by omega]
      simpa using h1
    · rw [show (j + 2) % 2 = j % 2 by omega]
      exact h2

theorem rp_of_trod {H : Type} {enc : TypeId × Value → H} {P : Program} {w : World} {t e ti : TypeId} {f0 f1 : Field} {a : Option Addr} {n c : Nat} {d : DataW H} {p : List MemPlace}
    (ht : P.underlying t = some (.slice e)) (he : P.underlying e = some (.struct #[f0, f1])) (ce : P.cellsOf e = 2) (o0 : f0.offset = 0) (o1 : f1.offset = 1) (c0 : P.cellsOf f0.type = 1) (c1 : P.cellsOf f1.type = 1)
    (t0 : f0.type = ti) (t1 : f1.type = ti) (hi : P.underlying ti = some (.int .i64))
    (h : DataW.Trod enc P w 0 (fun _ => true) true t (.slice a n c) d p) : ∃ l : List Iv.Span, Rp w a n c l := by
  obtain ⟨fuel, hf⟩ := h
  rcases Deep.open_slice_pairs ht he ce o0 o1 c0 c1 hf with ⟨hcs, _⟩ | ⟨x, len, cap, m, k, V0, V1, D0, D1, P0, P1, hcs, _, hl, hm, hmm, hx, hall⟩
  · simp [Value.cells] at hcs
    obtain ⟨rfl, rfl, rfl⟩ := hcs
    exact ⟨[], Rp.none_ w⟩
  · simp [Value.cells] at hcs
    obtain ⟨rfl, rfl, rfl⟩ := hcs
    simp only [if_true] at hmm
    subst hmm
    have each : ∀ i, i < n → ∃ q : Iv.Span, V0 i = .int .i64 q.1 ∧ V1 i = .int .i64 q.2 := fun i hi' => by
      obtain ⟨_, _, h0, h1⟩ := hall i (by omega)
      rw [t0] at h0
      rw [t1] at h1
      obtain ⟨z0, e0, _, _⟩ := DataW.trod_int hi h0
      obtain ⟨z1, e1, _, _⟩ := DataW.trod_int hi h1
      simp at e0 e1
      exact ⟨(z0, z1), e0, e1⟩
    obtain ⟨L, hL⟩ := Deep.choose_lt each
    refine ⟨(List.range n).map L, { len := by simp, le := hl, max := by unfold maxLen at hm; omega, nil := (fun h => by cases h), cell := fun hn => ?_ }⟩
    have hspot : x.spot = none := by
      obtain ⟨b, off, spot⟩ := x
      have h0 := (hall 0 (by omega)).1
      simpa [Addr.add] using World.cell?_spot h0
    have hxe : x = ⟨x.block, x.off, none⟩ := by
      obtain ⟨b, off, spot⟩ := x
      simp only at hspot
      subst hspot
      rfl
    refine ⟨x.block, x.off, by rw [← hxe], ?_, fun j u hu => ?_⟩
    · have h0 := (hall 0 (by omega)).1
      rw [addr_spot h0 hspot] at h0
      exact World.block_lt_of_cell? w ⟨x.block, x.off + 0 * 2, none⟩ h0
    · obtain ⟨q, h1, h2⟩ := flat_at hu
      rw [List.getElem?_map, Option.map_eq_some_iff] at h1
      obtain ⟨i, hi', rfl⟩ := h1
      obtain ⟨hjn, rfl⟩ := range_get hi'
      obtain ⟨g0, g1, _, _⟩ := hall (j / 2) (by omega)
      obtain ⟨e0, e1⟩ := hL (j / 2) hjn
      rcases h2 with ⟨hm2, rfl⟩ | ⟨hm2, rfl⟩
      · have g := addr_spot g0 hspot
        rw [g, e0] at g0
        have e : j / 2 * 2 = j := by omega
        rw [e] at g0
        exact g0
      · have g := addr_spot g1 hspot
        rw [g, e1] at g1
        have e : j / 2 * 2 + 1 = j := by omega
        rw [e] at g1
        exact g1

theorem rps_of_trod {H : Type} {enc : TypeId × Value → H} {P : Program} {w : World} {t e ti : TypeId} {f0 f1 : Field} {a : Option Addr} {n c : Nat} {d : DataW H} {p : List MemPlace}
    (ht : P.underlying t = some (.slice e)) (he : P.underlying e = some (.struct #[f0, f1])) (ce : P.cellsOf e = 2) (o0 : f0.offset = 0) (o1 : f1.offset = 1) (c0 : P.cellsOf f0.type = 1) (c1 : P.cellsOf f1.type = 1)
    (t0 : f0.type = ti) (t1 : f1.type = ti) (hi : P.underlying ti = some (.int .i64))
    (h : DataW.Trod enc P w 0 (fun _ => true) true t (.slice a n c) d p) (_hz : Sized P t d) : ∃ l : List Iv.Span, Rp w a n c l ∧ True := by
  obtain ⟨l, hl⟩ := rp_of_trod ht he ce o0 o1 c0 c1 t0 t1 hi h
  exact ⟨l, hl, trivial⟩
end Go.Proofs.YtppmnelgekhbnaaGreatDoor
