/- What came in: files, steps. -/
import Derived.Test.YtfdpnjebhllpkaaGreatDoorMDkRa
import Derived.Test.YtfdpnjebhllpkaaGreatDoorMInts
import Derived.Test.YtfdpnjebhllpkaaGreatDoorMStrLaws
import Derived.Lib.SmallJoins
namespace Go.Proofs.YtfdpnjebhllpkaaGreatDoor
open Go.RowKit
open Go.Deep (oneCellFields)

/-- A struct by value. -/
theorem open_struct {H : Type} {enc : TypeId × Value → H} {P : Program} {w : World} {r : Reach} {b0 : Nat} {t : TypeId} {fs : Array Field} {v : Value} {d : DataW H} {p : List MemPlace} (hs : P.underlying t = some (.struct fs)) (hone : oneCellFields P fs = true) (hC : P.cellsOf t = fs.size)
    (hv : Value.okWide P w r b0 t v) (h : DataW.Trod enc P w 0 (fun _ => true) true t v d p) (hz : Sized P t d) : ∃ vs m, v = .agg vs.toArray ∧ Fields enc P w fs m vs := by
  obtain ⟨cs, rfl, hsz⟩ := WideShapes.okWide_struct hs hv
  obtain ⟨l⟩ := cs
  have hl : l.length = fs.size := by have := hsz.trans hC; simpa using this
  obtain ⟨fuel, hf⟩ := h
  obtain ⟨xs, n, _, hx, _, hlen, hg⟩ := DataW.trod_struct hs hf
  simp only [Prod.mk.injEq] at hx
  refine ⟨l, n, rfl, hl, fun j f hj => ?_⟩
  have hjl : j < fs.size := (Array.getElem?_eq_some_iff.1 hj).1
  obtain ⟨ho, hk⟩ := Deep.hone_of hone j f hj
  have h1 := hg j f hj
  rw [ho, hk] at h1
  have hv : l[j]? = some (l[j]'(by omega)) := List.getElem?_eq_getElem (by omega)
  have hone' : ((Value.agg ⟨l⟩).cells.toList.drop j).take 1 = [l[j]'(by omega)] := by
    show (l.drop j).take 1 = _
    rw [List.drop_eq_getElem_cons (by omega)]
    rfl
  have h1' := h1
  have e : ((Value.agg ⟨l⟩).cells.toList.drop j).take 1 = [l[j]'(by omega)] := hone'
  rw [e] at h1'
  have hys : xs[j]? = some (xs[j]'(by omega)) := List.getElem?_eq_getElem (by omega)
  refine ⟨l[j]'(by omega), xs[j]'(by omega), hv, h1'.trans hys, ?_⟩
  have hd : d = .agg (xs.map (·.1)) := hx.1
  rw [hd] at hz
  exact hz.field hs hj (d := (xs[j]'(by omega)).1) (by rw [List.getElem?_map, hys]; rfl)

namespace Dk
theorem list3 {vs : List Value} (h : vs.length = 3) {a b c : Value} (h0 : vs[0]? = some a) (h1 : vs[1]? = some b) (h2 : vs[2]? = some c) : vs = [a, b, c] := by
  match vs, h with
  | [x, y, z], _ => simp at h0 h1 h2; rw [h0, h1, h2]
theorem list7 {vs : List Value} (h : vs.length = 7) {a b c d e f g : Value} (h0 : vs[0]? = some a) (h1 : vs[1]? = some b) (h2 : vs[2]? = some c) (h3 : vs[3]? = some d) (h4 : vs[4]? = some e) (h5 : vs[5]? = some f) (h6 : vs[6]? = some g) : vs = [a, b, c, d, e, f, g] := by
  match vs, h with
  | [x0, x1, x2, x3, x4, x5, x6], _ => simp at h0 h1 h2 h3 h4 h5 h6; rw [h0, h1, h2, h3, h4, h5, h6]

def FeB (w : World) (vs : List Value) (f : In) : Prop := FeEl w vs f ∧ f.nm.length ≤ 140737488351232 ∧ f.data.length ≤ 140737488351232

section
variable {H : Type} {enc : TypeId × Value → H} {w : World}
theorem trouble_each (m : Nat) (vs : List Value) {fs : Array Field} (hs : Tryz.prog.underlying 121 = some (.struct fs)) (h : Fields enc Tryz.prog w fs m vs) : ∃ t, TrEl w vs t := by
  have e := Tryz.underlying121
  rw [hs] at e
  injection e with e
  injection e with e
  subst e
  obtain ⟨hl, hf⟩ := h
  obtain ⟨v0, y0, e0, t0, _⟩ := hf 0 _ rfl
  obtain ⟨v1, y1, e1, t1, _⟩ := hf 1 _ rfl
  obtain ⟨v2, y2, e2, t2, _⟩ := hf 2 _ rfl
  obtain ⟨z0, c0, _, _⟩ := DataW.trod_int Tryz.underlying3 t0
  obtain ⟨z1, c1, _, _⟩ := DataW.trod_int Tryz.underlying3 t1
  obtain ⟨z2, c2, _, _⟩ := DataW.trod_int Tryz.underlying3 t2
  injection c0 with c0; injection c1 with c1; injection c2 with c2
  subst c0; subst c1; subst c2
  exact ⟨(z0, z1, z2), list3 hl e0 e1 e2⟩

set_option maxRecDepth 100000 in
theorem file_each (m : Nat) (vs : List Value) {fs : Array Field} (hs : Tryz.prog.underlying 84 = some (.struct fs)) (h : Fields enc Tryz.prog w fs m vs) : ∃ f, FeB w vs f := by
  have e := Tryz.underlying84
  rw [hs] at e
  injection e with e
  injection e with e
  subst e
  obtain ⟨hl, hf⟩ := h
  obtain ⟨v0, y0, e0, t0, s0⟩ := hf 0 _ rfl
  obtain ⟨v1, y1, e1, t1, s1⟩ := hf 1 _ rfl
  obtain ⟨v2, y2, e2, t2, _⟩ := hf 2 _ rfl
  obtain ⟨s, c0, rfl, _⟩ := DataW.trod_string Tryz.underlying9 t0
  obtain ⟨A, n, c, l, rfl, hbs, hle⟩ := el_of_trod Tryz.underlying22 Tryz.underlying5 (by kernel_rfl) (by kernel_rfl) (d := y1.1) (p := y1.2) t1 s1
  obtain ⟨z2, c2, _, _⟩ := DataW.trod_int Tryz.underlying3 t2
  injection c0 with c0; injection c2 with c2
  subst c0; subst c2
  refine ⟨⟨s.data.toList, l, z2⟩, ⟨s, A, n, c, list3 hl e0 e1 e2, rfl, hbs⟩, ?_, ?_⟩
  · have := Sized.string s0
    rw [Array.length_toList]
    exact this
  · have := hbs.len
    have := Rd.le hbs
    simp only
    omega


set_option maxRecDepth 100000 in
theorem files_of_trod {a : Option Addr} {n c : Nat} {d : DataW H} {p : List MemPlace} (h : DataW.Trod enc Tryz.prog w 0 (fun _ => true) true 63 (.slice a n c) d p) (hz : Sized Tryz.prog 63 d) :
    ∃ l, Sq FeEl 3 w a n c l ∧ ∀ f ∈ l, f.nm.length ≤ 140737488351232 ∧ f.data.length ≤ 140737488351232 := by
  obtain ⟨l, hl, _⟩ := sq_of_trod (El := FeB) Tryz.underlying63 Tryz.underlying84 (by kernel_rfl) (by kernel_rfl) (by decide) (fun m vs h => file_each m vs Tryz.underlying84 h) h hz
  refine ⟨l, ⟨hl.len, hl.le, hl.max, hl.nil, fun hn => ?_⟩, fun f hf => ?_⟩
  · obtain ⟨b, off, e, hb, hc⟩ := hl.cell hn
    refine ⟨b, off, e, hb, fun i x hi => ?_⟩
    obtain ⟨vs, h1, h2, h3⟩ := hc i x hi
    exact ⟨vs, h1, h2.1, h3⟩
  · obtain ⟨i, hi⟩ := List.mem_iff_getElem?.1 hf
    have hn : 0 < n := by have := (List.getElem?_eq_some_iff.1 hi).1; have := hl.len; omega
    obtain ⟨b, off, e, hb, hc⟩ := hl.cell hn
    obtain ⟨vs, h1, h2, h3⟩ := hc i f hi
    exact h2.2
end
end Dk
end Go.Proofs.YtfdpnjebhllpkaaGreatDoor
