/- The law XtreeTells. Printed by xt_lawt.py. -/
import Derived.Test.YtokdnhdfmgfkeaaGreatDoorMXnP
import Derived.Test.YtokdnhdfmgfkeaaGreatDoorMRowS
import Derived.Test.YtokdnhdfmgfkeaaGreatDoorMStrs
import Derived.Test.YtokdnhdfmgfkeaaGreatDoorRows
import Derived.Lib.SmallJoins
import Derived.OpenShut
import Derived.Test.YtokdnhdfmgfkeaaGreatDoorMXtPsame
import Derived.Test.YtokdnhdfmgfkeaaGreatDoorMXlValues
section
namespace Go.Proofs.YtokdnhdfmgfkeaaGreatDoor.Xt
open Go.RowKit UtfW Xl
open Go.Deep (oneCellFields)

section
variable {H : Type} {enc : TypeId × Value → H} {P : Program} {w : World}
theorem open_rows {t e : TypeId} {fs : Array Field} {fuel : Nat} {cs : List Value} {x : DataW H × List MemPlace} (ht : P.underlying t = some (.slice e)) (he : P.underlying e = some (.struct fs))
    (hone : oneCellFields P fs = true) (hC : P.cellsOf e = fs.size) (h : DataW.trod enc P w 0 (fun _ => true) true fuel t cs = some x) :
    (cs = [.slice none 0 0] ∧ x = (.nil, [])) ∨
    ∃ (a : Addr) (len cap : Nat) (elems rest : List (DataW H × List MemPlace)), cs = [.slice (some a) len cap] ∧ len ≤ cap ∧ cap ≤ maxLen ∧
      x.1 = .slice (elems.map (·.1)) (rest.map (·.1)) ∧ elems.length = len ∧ rest.length = cap - len ∧
      ∀ i, i < len → ∃ (ys : List (DataW H × List MemPlace)) (y : DataW H × List MemPlace) (n : Nat), n < fuel ∧ elems[i]? = some y ∧ y.1 = .agg (ys.map (·.1)) ∧ ys.length = fs.size ∧
        ∀ (j : Nat) (f : Field), fs[j]? = some f → ∃ (v : Value) (y : DataW H × List MemPlace), w.cell? (a.add (i * fs.size + j)) = some v ∧ ys[j]? = some y ∧ DataW.trod enc P w 0 (fun _ => true) true n f.type [v] = some y := by
  rcases DataW.trod_slice ht h with h0 | ⟨a, len, cap, elems, rest, n, hfu, rfl, rfl, hb, hl, hm, hlen, hel, hsp, hns⟩
  · exact .inl h0
  · refine .inr ⟨a, len, cap, elems, rest, rfl, hl, hm, rfl, hlen, (hsp rfl).1, fun i hi => ?_⟩
    have hy : elems[i]? = some (elems[i]'(by omega)) := List.getElem?_eq_getElem (by omega)
    have h1 := hel i hi
    rw [hy, Option.bind_eq_some_iff] at h1
    obtain ⟨cs', hc, ht'⟩ := h1
    rw [hC] at hc
    obtain ⟨ys, n', hn', hy', hlen', hyl, hf⟩ := DataW.trod_struct he ht'
    obtain ⟨_, hcl, hat⟩ := World.cells?_some hc
    refine ⟨ys, _, n', by omega, hy, by rw [hy'], hyl, fun j f hj => ?_⟩
    obtain ⟨ho, hk⟩ := Deep.hone_of hone j f hj
    have hjl : j < fs.size := (Array.getElem?_eq_some_iff.1 hj).1
    have hcell := hat j hjl
    have hv : cs'[j]? = some (cs'[j]'(by omega)) := List.getElem?_eq_getElem (by omega)
    have h1 := hf j f hj
    rw [ho, hk] at h1
    have hone' : (cs'.drop j).take 1 = [cs'[j]'(by omega)] := by
      rw [List.drop_eq_getElem_cons (by omega)]
      rfl
    rw [hone'] at h1
    have hys : ys[j]? = some (ys[j]'(by omega)) := List.getElem?_eq_getElem (by omega)
    refine ⟨_, _, ?_, hys, h1.trans hys⟩
    rw [← Go.Deep.add_add, hcell, hv]

def FieldsD {H : Type} (enc : TypeId × Value → H) (P : Program) (w : World) (fs : Array Field) (m : Nat) (vs : List Value) (ds : List (DataW H)) : Prop :=
  vs.length = fs.size ∧ ds.length = fs.size ∧ ∀ (j : Nat) (f : Field), fs[j]? = some f → ∃ (v : Value) (y : DataW H × List MemPlace), vs[j]? = some v ∧ ds[j]? = some y.1 ∧ DataW.trod enc P w 0 (fun _ => true) true m f.type [v] = some y ∧ Sized P f.type y.1

theorem sq_of_rows {α : Type} {El : World → List Value → α → Prop} {R : α → DataW H → Prop} {t e : TypeId} {fs : Array Field} {fuel : Nat} {v : Value} {d : DataW H} {p : List MemPlace} (ht : P.underlying t = some (.slice e)) (he : P.underlying e = some (.struct fs)) (hone : oneCellFields P fs = true) (hC : P.cellsOf e = fs.size) (hpos : 0 < fs.size)
    (h : DataW.trod enc P w 0 (fun _ => true) true fuel t [v] = some (d, p)) (hz : Sized P t d)
    (each : ∀ m vs ds, m < fuel → FieldsD enc P w fs m vs ds → ∃ x, El w vs x ∧ R x (.agg ds)) :
    ∃ A n c, ∃ l : List α, ∃ es sp : List (DataW H), v = .slice A n c ∧ Sq El fs.size w A n c l ∧ (n = 0 ∨ n * P.bytesOf e ≤ 140737488351232) ∧ (d = .slice es sp ∨ (d = .nil ∧ es = [])) ∧ es.length = n ∧ ∀ (i : Nat) x, l[i]? = some x → ∃ y, es[i]? = some y ∧ R x y := by
  rcases open_rows ht he hone hC h with ⟨hcs, hx⟩ | ⟨a, len, cap, elems, rest, hcs, hl, hm, hx, hlen, hrl, hall⟩
  · injection hcs with hcs _
    injection hx with hx _
    exact ⟨_, _, _, [], [], [], hcs, Sq.none_ w, .inl rfl, .inr ⟨hx, rfl⟩, rfl, fun i x hi => by simp at hi⟩
  · injection hcs with hcs _
    simp only at hx
    subst hx
    have hrow := hz.row ht
    simp only [List.length_map, hlen, hrl] at hrow
    have hel : ∀ i, i < len → ∃ q : α × List Value × DataW H, q.2.1.length = fs.size ∧ El w q.2.1 q.1 ∧ (∀ j u, q.2.1[j]? = some u → w.cell? (a.add (i * fs.size + j)) = some u) ∧ (elems.map (·.1))[i]? = some q.2.2 ∧ R q.1 q.2.2 := fun i hi => by
      obtain ⟨ys, y, m, hmf, hey, hya, hyl, hf⟩ := hall i hi
      have hzi : Sized P e y.1 := hz.elem ht (List.mem_map.2 ⟨y, List.mem_of_getElem? hey, rfl⟩)
      rw [hya] at hzi
      have hV : ∀ j, j < fs.size → ∃ u : Value, w.cell? (a.add (i * fs.size + j)) = some u ∧ ∀ f, fs[j]? = some f → ∃ y : DataW H × List MemPlace, (ys.map (·.1))[j]? = some y.1 ∧ DataW.trod enc P w 0 (fun _ => true) true m f.type [u] = some y ∧ Sized P f.type y.1 := fun j hj => by
        obtain ⟨u, y, h1, h2, h3⟩ := hf j fs[j] (by simp [hj])
        refine ⟨u, h1, fun f hfj => ?_⟩
        have : fs[j] = f := by simpa [hj] using hfj
        subst this
        exact ⟨y, by rw [List.getElem?_map, h2]; rfl, h3, hzi.field he hfj (d := y.1) (by rw [List.getElem?_map, h2]; rfl)⟩
      obtain ⟨V, hV⟩ := Deep.choose_lt hV
      obtain ⟨x, hx, hR⟩ := each m ((List.range fs.size).map V) (ys.map (·.1)) hmf ⟨by simp, by simpa using hyl, fun j f hfj => by
        have hj : j < fs.size := (Array.getElem?_eq_some_iff.1 hfj).1
        obtain ⟨y, h0, h1, h2⟩ := (hV j hj).2 f hfj
        exact ⟨V j, y, by simp [hj], h0, h1, h2⟩⟩
      refine ⟨(x, (List.range fs.size).map V, y.1), by simp, hx, fun j u hu => ?_, by rw [List.getElem?_map, hey]; rfl, by rw [hya]; exact hR⟩
      rw [List.getElem?_map, Option.map_eq_some_iff] at hu
      obtain ⟨j', hj', rfl⟩ := hu
      obtain ⟨hjl, rfl⟩ := range_get hj'
      exact (hV j' hjl).1
    rcases Nat.eq_zero_or_pos len with h0 | hlpos
    · subst h0
      exact ⟨some a, 0, cap, [], [], _, hcs, { len := rfl, le := hl, max := by unfold maxLen at hm; omega, nil := fun h => (by simp at h), cell := fun hn => absurd hn (by omega) }, .inl rfl, .inl (by rw [List.eq_nil_of_length_eq_zero hlen]; rfl), rfl, fun i x hi => by simp at hi⟩
    haveI : Inhabited (α × List Value × DataW H) := ⟨(hel 0 hlpos).choose⟩
    obtain ⟨L, hL⟩ := Deep.choose_lt hel
    refine ⟨some a, len, cap, (List.range len).map fun i => (L i).1, _, _, hcs, { len := by simp, le := hl, max := by unfold maxLen at hm; omega, nil := fun h => (by simp at h), cell := fun hn => ?_ }, .inr ?_, .inl rfl, by simpa using hlen, fun i x hi => ?_⟩
    · have h00 : ∃ u, w.cell? (a.add 0) = some u := by
        obtain ⟨h1, _, h3, _⟩ := hL 0 (by omega)
        have hu : (L 0).2.1[0]? = some ((L 0).2.1[0]'(by omega)) := List.getElem?_eq_getElem (by omega)
        exact ⟨_, by simpa using h3 0 _ hu⟩
      obtain ⟨u0, hu0⟩ := h00
      have hspot : a.spot = none := by
        obtain ⟨b, off, spot⟩ := a
        simpa [Addr.add] using World.cell?_spot hu0
      have hae : a = ⟨a.block, a.off, none⟩ := by
        obtain ⟨b, off, spot⟩ := a
        simp only at hspot
        subst hspot
        rfl
      refine ⟨a.block, a.off, by rw [← hae], World.block_lt_of_cell? w ⟨a.block, a.off + 0, none⟩ (cell_add hu0 hspot), fun i x hi => ?_⟩
      rw [List.getElem?_map, Option.map_eq_some_iff] at hi
      obtain ⟨i', hi', rfl⟩ := hi
      obtain ⟨hil, rfl⟩ := range_get hi'
      obtain ⟨h1, h2, h3, _⟩ := hL i' hil
      refine ⟨(L i').2.1, h1, h2, fun j v hj => ?_⟩
      rw [Nat.add_assoc]
      exact cell_add (h3 j v hj) hspot
    · exact Nat.le_trans (Nat.mul_le_mul_right _ (by omega)) hrow
    · rw [List.getElem?_map, Option.map_eq_some_iff] at hi
      obtain ⟨i', hi', rfl⟩ := hi
      obtain ⟨hil, rfl⟩ := range_get hi'
      obtain ⟨_, _, _, h4, h5⟩ := hL i' hil
      exact ⟨_, h4, h5⟩
end
end Go.Proofs.YtokdnhdfmgfkeaaGreatDoor.Xt
end

section
namespace Go.Proofs.YtokdnhdfmgfkeaaGreatDoor.Xt
open Go.RowKit UtfW Xl
open Go.Deep (oneCellFields)

/-! ### How much a tree holds -/
def wA : List At → Nat
  | [] => 0
  | a :: r => 1 + a.1.length + a.2.length + wA r
mutual
def wN : Nd → Nat
  | .mk _ nm tx as_ ks => 1 + nm.length + tx.length + wA as_ + wL ks
def wL : List Nd → Nat
  | [] => 0
  | x :: xs => wN x + wL xs
end
def bA (as_ : List At) : Prop := as_.length ≤ 140737488351232 ∧ ∀ a ∈ as_, a.1.length ≤ 140737488351232 ∧ a.2.length ≤ 140737488351232
mutual
def bN : Nd → Prop
  | .mk _ nm tx as_ ks => nm.length ≤ 140737488351232 ∧ tx.length ≤ 140737488351232 ∧ bA as_ ∧ bL ks
def bL : List Nd → Prop
  | [] => True
  | x :: xs => bN x ∧ bL xs
end
theorem bL_mem : ∀ {l : List Nd} {i : Nat} {x : Nd}, bL l → l[i]? = some x → bN x
  | [], i, x, _, h => by simp at h
  | y :: l, 0, x, hb, h => by
    rw [bL] at hb
    injection h with h
    rw [← h]
    exact hb.1
  | y :: l, i + 1, x, hb, h => by
    rw [bL] at hb
    exact bL_mem hb.2 h
theorem bL_of : ∀ {l : List Nd}, (∀ (i : Nat) x, l[i]? = some x → bN x) → bL l
  | [], _ => by rw [bL]; trivial
  | y :: l, h => by
    rw [bL]
    exact ⟨h 0 y rfl, bL_of fun i x hi => h (i + 1) x hi⟩
section
variable {H : Type}
theorem wL_bulk : ∀ {l : List Nd} {es : List (DataW H)}, es.length = l.length → (∀ (i : Nat) x, l[i]? = some x → ∃ y, es[i]? = some y ∧ wN x ≤ Rows.uptoBulk y) → wL l ≤ Rows.uptoBulkAll es
  | [], es, _, _ => by rw [wL]; exact Nat.zero_le _
  | x :: l, [], h, _ => by simp at h
  | x :: l, y :: es, h, hi => by
    obtain ⟨y', h1, h2⟩ := hi 0 x rfl
    injection h1 with h1
    subst h1
    have := wL_bulk (l := l) (es := es) (by simpa using h) fun i z hz => hi (i + 1) z hz
    rw [wL, Rows.uptoBulkAll]
    omega
theorem wA_bulk : ∀ {l : List At} {es : List (DataW H)}, es.length = l.length → (∀ (i : Nat) x, l[i]? = some x → ∃ y, es[i]? = some y ∧ 1 + x.1.length + x.2.length ≤ Rows.uptoBulk y) → wA l ≤ Rows.uptoBulkAll es
  | [], es, _, _ => by rw [wA]; exact Nat.zero_le _
  | x :: l, [], h, _ => by simp at h
  | x :: l, y :: es, h, hi => by
    obtain ⟨y', h1, h2⟩ := hi 0 x rfl
    injection h1 with h1
    subst h1
    have := wA_bulk (l := l) (es := es) (by simpa using h) fun i z hz => hi (i + 1) z hz
    rw [wA, Rows.uptoBulkAll]
    omega
end
theorem list5 {α : Type} {vs : List α} (h : vs.length = 5) {a b c d e : α} (h0 : vs[0]? = some a) (h1 : vs[1]? = some b) (h2 : vs[2]? = some c) (h3 : vs[3]? = some d) (h4 : vs[4]? = some e) : vs = [a, b, c, d, e] := by
  match vs, h with
  | [x0, x1, x2, x3, x4], _ => simp at h0 h1 h2 h3 h4; rw [h0, h1, h2, h3, h4]
theorem list2 {α : Type} {vs : List α} (h : vs.length = 2) {a b : α} (h0 : vs[0]? = some a) (h1 : vs[1]? = some b) : vs = [a, b] := by
  match vs, h with
  | [x0, x1], _ => simp at h0 h1; rw [h0, h1]
theorem sq_blk {α : Type} {El : World → List Value → α → Prop} {k : Nat} {w : World} {A : Option Addr} {n c : Nat} {l : List α} (h : Sq El k w A n c l) : ∀ a, A = some a → 0 < n → a.block < w.heap.size := fun a e hn => by
  obtain ⟨b, off, e2, hlt, _⟩ := h.cell hn
  rw [e] at e2
  injection e2 with e2
  rw [e2]
  exact hlt

section
variable {H : Type} {enc : TypeId × Value → H} {w : World}
set_option maxRecDepth 100000 in
theorem attr_each (m : Nat) (vs : List Value) (ds : List (DataW H)) {fs : Array Field} (hs : Tryz.prog.underlying 55 = some (.struct fs)) (h : FieldsD enc Tryz.prog w fs m vs ds) :
    ∃ a : At, AtEl w vs a ∧ (a.1.length ≤ 140737488351232 ∧ a.2.length ≤ 140737488351232) ∧ 1 + a.1.length + a.2.length ≤ Rows.uptoBulk (DataW.agg ds) := by
  have e := Tryz.underlying55
  rw [hs] at e
  injection e with e
  injection e with e
  subst e
  obtain ⟨hl, hd, hf⟩ := h
  obtain ⟨v0, y0, e0, d0, t0, z0⟩ := hf 0 _ rfl
  obtain ⟨v1, y1, e1, d1, t1, z1⟩ := hf 1 _ rfl
  obtain ⟨s0, c0, rfl, _⟩ := DataW.trod_string Tryz.underlying9 t0
  obtain ⟨s1, c1, rfl, _⟩ := DataW.trod_string Tryz.underlying9 t1
  injection c0 with c0; injection c1 with c1
  subst c0; subst c1
  have g0 := Sized.string z0
  have g1 := Sized.string z1
  refine ⟨(s0.data.toList, s1.data.toList), list2 hl e0 e1, ⟨by rw [Array.length_toList]; exact g0, by rw [Array.length_toList]; exact g1⟩, ?_⟩
  rw [list2 hd d0 d1]
  simp only [Rows.uptoBulk, Rows.uptoBulkAll]
  omega
set_option maxRecDepth 100000 in
set_option maxHeartbeats 1000000 in
theorem node_each : ∀ (k m : Nat) (vs : List Value) (ds : List (DataW H)) {fs : Array Field}, m ≤ k → Tryz.prog.underlying 25 = some (.struct fs) → FieldsD enc Tryz.prog w fs m vs ds →
    ∃ n, NdI (fun j => j < w.heap.size) w vs n ∧ bN n ∧ wN n ≤ Rows.uptoBulk (DataW.agg ds) := by
  intro k
  induction k using Nat.strongRecOn with
  | _ k ih =>
  intro m vs ds fs hk hs h
  have e := Tryz.underlying25
  have hs0 := hs
  rw [hs] at e
  injection e with e
  injection e with e
  subst e
  obtain ⟨hl, hd, hf⟩ := h
  obtain ⟨v0, y0, e0, d0, t0, z0⟩ := hf 0 _ rfl
  obtain ⟨v1, y1, e1, d1, t1, z1⟩ := hf 1 _ rfl
  obtain ⟨v2, y2, e2, d2, t2, z2⟩ := hf 2 _ rfl
  obtain ⟨v3, y3, e3, d3, t3, z3⟩ := hf 3 _ rfl
  obtain ⟨v4, y4, e4, d4, t4, z4⟩ := hf 4 _ rfl
  obtain ⟨n0, c0, rfl, _⟩ := DataW.trod_int Tryz.underlying3 t0
  obtain ⟨s1, c1, rfl, _⟩ := DataW.trod_string Tryz.underlying9 t1
  obtain ⟨s2, c2, rfl, _⟩ := DataW.trod_string Tryz.underlying9 t2
  injection c0 with c0; injection c1 with c1; injection c2 with c2
  subst c0; subst c1; subst c2
  obtain ⟨A3, n3, c3, l3, es3, sp3, rfl, q3, r3, f3, g3, h3⟩ := sq_of_rows (El := AtEl) (R := fun a d => (a.1.length ≤ 140737488351232 ∧ a.2.length ≤ 140737488351232) ∧ 1 + a.1.length + a.2.length ≤ Rows.uptoBulk d) Tryz.underlying23 Tryz.underlying55 (by kernel_rfl) (by kernel_rfl) (by decide) (d := y3.1) (p := y3.2) t3 z3
    (fun m' vs' ds' _ h => attr_each m' vs' ds' Tryz.underlying55 h)
  obtain ⟨A4, n4, c4, l4, es4, sp4, rfl, q4, r4, f4, g4, h4⟩ := sq_of_rows (El := NdE (fun j => j < w.heap.size)) (R := fun n d => bN n ∧ wN n ≤ Rows.uptoBulk d) Tryz.underlying22 hs0 (by kernel_rfl) (by kernel_rfl) (by decide) (d := y4.1) (p := y4.2) t4 z4
    (fun m' vs' ds' hm h => ih m' (by omega) m' vs' ds' (Nat.le_refl _) hs0 h)
  have hl3 := q3.len
  have hl4 := q4.len
  subst hl3
  subst hl4
  have b1 := Sized.string z1
  have b2 := Sized.string z2
  refine ⟨.mk n0 s1.data.toList s2.data.toList l3 l4, ?_, ?_, ?_⟩
  · rw [list5 hl e0 e1 e2 e3 e4]
    exact NdI.make (nm := s1.data.toList) (tx := s2.data.toList) q3 (sq_blk q3) q4 (sq_blk q4)
  · rw [bN]
    refine ⟨by rw [Array.length_toList]; exact b1, by rw [Array.length_toList]; exact b2, ⟨?_, fun a ha => ?_⟩, bL_of fun i x hi => ?_⟩
    · have hb : Tryz.prog.bytesOf 55 = 32 := by kernel_rfl
      rw [hb] at r3
      omega
    · obtain ⟨i, hi⟩ := List.getElem?_of_mem ha
      obtain ⟨y, _, h5, _⟩ := h3 i a hi
      exact h5
    · obtain ⟨y, _, h5, _⟩ := h4 i x hi
      exact h5
  · have w3 := wA_bulk (l := l3) (es := es3) g3 fun i x hi => by
      obtain ⟨y, h5, _, h6⟩ := h3 i x hi
      exact ⟨y, h5, h6⟩
    have w4 := wL_bulk (l := l4) (es := es4) g4 fun i x hi => by
      obtain ⟨y, h5, _, h6⟩ := h4 i x hi
      exact ⟨y, h5, h6⟩
    have u3 : Rows.uptoBulkAll es3 ≤ Rows.uptoBulk y3.1 := by
      rcases f3 with f3 | ⟨f3, rfl⟩
      · rw [f3, Rows.uptoBulk]; omega
      · rw [Rows.uptoBulkAll]; exact Nat.zero_le _
    have u4 : Rows.uptoBulkAll es4 ≤ Rows.uptoBulk y4.1 := by
      rcases f4 with f4 | ⟨f4, rfl⟩
      · rw [f4, Rows.uptoBulk]; omega
      · rw [Rows.uptoBulkAll]; exact Nat.zero_le _
    rw [list5 hd d0 d1 d2 d3 d4]
    simp only [Rows.uptoBulk, Rows.uptoBulkAll, wN]
    omega
theorem open_structD {P : Program} {r : Reach} {b0 : Nat} {t : TypeId} {fs : Array Field} {v : Value} {d : DataW H} {p : List MemPlace} (hs : P.underlying t = some (.struct fs)) (hone : oneCellFields P fs = true) (hC : P.cellsOf t = fs.size)
    (hv : Value.okWide P w r b0 t v) (h : DataW.Trod enc P w 0 (fun _ => true) true t v d p) (hz : Sized P t d) : ∃ vs m ds, v = .agg vs.toArray ∧ d = .agg ds ∧ FieldsD enc P w fs m vs ds := by
  obtain ⟨cs, rfl, hsz⟩ := WideShapes.okWide_struct hs hv
  obtain ⟨l⟩ := cs
  have hl : l.length = fs.size := by have := hsz.trans hC; simpa using this
  obtain ⟨fuel, hf⟩ := h
  obtain ⟨xs, n, _, hx, _, hlen, hg⟩ := DataW.trod_struct hs hf
  simp only [Prod.mk.injEq] at hx
  refine ⟨l, n, xs.map (·.1), rfl, hx.1, hl, by simpa using hlen, fun j f hj => ?_⟩
  have hjl : j < fs.size := (Array.getElem?_eq_some_iff.1 hj).1
  obtain ⟨ho, hk⟩ := Deep.hone_of hone j f hj
  have h1 := hg j f hj
  rw [ho, hk] at h1
  have hv : l[j]? = some (l[j]'(by omega)) := List.getElem?_eq_getElem (by omega)
  have e : ((Value.agg ⟨l⟩).cells.toList.drop j).take 1 = [l[j]'(by omega)] := by
    show (l.drop j).take 1 = _
    rw [List.drop_eq_getElem_cons (by omega)]
    rfl
  rw [e] at h1
  have hys : xs[j]? = some (xs[j]'(by omega)) := List.getElem?_eq_getElem (by omega)
  refine ⟨l[j]'(by omega), xs[j]'(by omega), hv, by rw [List.getElem?_map, hys]; rfl, h1.trans hys, ?_⟩
  have hd : d = .agg (xs.map (·.1)) := hx.1
  rw [hd] at hz
  exact hz.field hs hj (d := (xs[j]'(by omega)).1) (by rw [List.getElem?_map, hys]; rfl)
set_option maxRecDepth 100000 in
theorem node_of_trod {r : Reach} {b0 : Nat} {v : Value} {d : DataW H} {p : List MemPlace} (hv : Value.okWide Tryz.prog w r b0 25 v) (h : DataW.Trod enc Tryz.prog w 0 (fun _ => true) true 25 v d p) (hz : Sized Tryz.prog 25 d) :
    ∃ vs n, v = .agg vs.toArray ∧ NdI (fun j => j < w.heap.size) w vs n ∧ bN n ∧ wN n ≤ Rows.uptoBulk d := by
  obtain ⟨vs, m, ds, rfl, rfl, hF⟩ := open_structD Tryz.underlying25 (by kernel_rfl) (by kernel_rfl) hv h hz
  obtain ⟨n, h1, h2, h3⟩ := node_each m m vs ds (Nat.le_refl _) Tryz.underlying25 hF
  exact ⟨vs, n, rfl, h1, h2, h3⟩
end
end Go.Proofs.YtokdnhdfmgfkeaaGreatDoor.Xt
end

section
namespace Go.Proofs.YtokdnhdfmgfkeaaGreatDoor.Xt
open Go.RowKit UtfW Xl

mutual
def depthI : Nd → Int
  | .mk k _ _ _ ks => if k = 1 then wrap64 (depthF 0 ks + 1) else 0
def depthF : Int → List Nd → Int
  | a, [] => a
  | a, x :: xs => depthF (max a (depthI x)) xs
end
mutual
def countI : Nd → Int
  | .mk _ _ _ as_ ks => countF (1 + as_.length) ks
def countF : Int → List Nd → Int
  | a, [] => a
  | a, x :: xs => countF (wrap64 (a + countI x)) xs
end
theorem depthF_snoc : ∀ (l : List Nd) (a : Int) (x : Nd), depthF a (l ++ [x]) = max (depthF a l) (depthI x)
  | [], a, x => rfl
  | y :: l, a, x => by
    rw [List.cons_append, depthF, depthF_snoc l, depthF]
theorem countF_snoc : ∀ (l : List Nd) (a : Int) (x : Nd), countF a (l ++ [x]) = wrap64 (countF a l + countI x)
  | [], a, x => rfl
  | y :: l, a, x => by
    rw [List.cons_append, countF, countF_snoc l, countF]
set_option maxHeartbeats 4000000 in
set_option maxRecDepth 100000 in
theorem pdepthI_any : ∀ (k : Nat) (X : Nat → Prop) (w : World) (vs : List Value) (n : Nd), SizeOf.sizeOf n ≤ k → NdI X w vs n → (∀ j, X j → j < w.heap.size) → 
    Calls Tryz.prog 33 #[.agg vs.toArray] w fun e w' => e = .returned (.int .i64 (depthI n)) ∧ Below w.heap.size w w' := by
  intro k
  induction k with
  | zero =>
    intro X w vs n hk
    obtain ⟨kd, nm, tx, as_, ks⟩ := n
    simp at hk
  | succ k ih =>
    intro X w vs n hk hn hX
    obtain ⟨kd, nm, tx, as_, ks⟩ := n
    obtain ⟨A, ca, A2, c2, rfl, hA, hK, -, -⟩ := hn.cells
    have hlen : ks.length ≤ 9223372036854775807 := Nat.le_trans hK.le hK.max
    have hba := below_alloc w (.cells #[.int .i64 kd, .string (strOf nm), .string (strOf tx), .slice A as_.length ca, .slice A2 ks.length c2] 25)
    have hnb := heap_alloc_new w (.cells #[.int .i64 kd, .string (strOf nm), .string (strOf tx), .slice A as_.length ca, .slice A2 ks.length c2] 25)
    have ih := Lib.hid ih
    obtain ⟨T, hT⟩ : ∃ T, w.heap.size = T := ⟨_, rfl⟩
    obtain ⟨w1, hw1⟩ : ∃ w1, w.alloc (.cells #[.int .i64 kd, .string (strOf nm), .string (strOf tx), .slice A as_.length ca, .slice A2 ks.length c2] 25) = w1 := ⟨_, rfl⟩
    rw [hw1] at hba hnb
    rw [hT] at hnb
    have x0 : w1.cell? ⟨T, 0, none⟩ = some (.int .i64 kd) := cell_blk hnb rfl
    have x3 : w1.cell? ⟨T, 3, none⟩ = some (.slice A as_.length ca) := cell_blk hnb rfl
    have x4 : w1.cell? ⟨T, 4, none⟩ = some (.slice A2 ks.length c2) := cell_blk hnb rfl
    have hkid : Hid (∀ i x, ks[i]? = some x → SizeOf.sizeOf x ≤ k) := Lib.hid fun i x hx => by
      have := kid_lt (k := kd) (nm := nm) (tx := tx) (as_ := as_) hx
      omega
    obtain ⟨m, hm⟩ : ∃ m, ks.length = m := ⟨_, rfl⟩
    rw [hm] at x4 hK hlen
    obtain ⟨la, hla⟩ : ∃ la, as_.length = la := ⟨_, rfl⟩
    rw [hla] at x3
    have hnbH := Lib.hid hnb
    have hXH := Lib.hid hX
    replace hK := Lib.hid hK
    replace hba := Lib.hid hba
    replace hm := Lib.hid hm
    replace hla := Lib.hid hla
    clear hnb hX hA hn hk
    by_cases hk1 : kd = 1
    · subst hk1
      go_enter Tryz.func33, Tryz.ntmps33
      go_wp2_with fail
      go_loopw [3, 12] (fun va vi wr => ∃ (i : Nat) (a : Int), i ≤ m ∧ vi = .int .i64 (i : Nat) ∧ va = .int .i64 a ∧ Hid (a = depthF 0 (ks.take i)) ∧ Hid (Below w.heap.size w wr)) (fun _ vi _ => m - (intOf vi).toNat)
      case atStart => exact ⟨0, 0, Nat.zero_le _, rfl, rfl, Lib.hid (by simp [depthF]), hba⟩
      case round =>
        obtain ⟨i, a, hi, rfl, rfl, ha, hb⟩ := hrel
        by_cases hlt : i < m
        · have i1 : decide ((i : Int) < (m : Int)) = true := by simp; omega
          have q1 : (i : Int) < (m : Int) := by omega
          have hKr := Sq.kept_ hK.out hb.out (fun vs x h => NdI.later h hXH.out hb.out)
          obtain ⟨b1, off1, x, vs1, rfl, _, hx1, _, hv1, hc1⟩ := hKr.at_ hlt
          have hszx := hkid.out i x hx1
          have hX1 : ∀ j, X j → j < wr.heap.size := fun j hj => Nat.lt_of_lt_of_le (hXH.out j hj) hb.out.size
          obtain ⟨kx, nx_, tx_, ax, kx_⟩ := x
          obtain ⟨Ax, cax, A2x, c2x, rfl, -⟩ := hv1.cells
          have m0 := hc1 0 _ rfl
          have m1 := hc1 1 _ rfl
          have m2 := hc1 2 _ rfl
          have m3 := hc1 3 _ rfl
          have m4 := hc1 4 _ rfl
          rw [Nat.add_zero] at m0
          have hbt := below_alloc wr (.cells #[.int .i64 kx, .string (strOf nx_), .string (strOf tx_), .slice Ax ax.length cax, .slice A2x kx_.length c2x] 25)
          have hrec := Lib.hid (ih.out X (wr.alloc (.cells #[.int .i64 kx, .string (strOf nx_), .string (strOf tx_), .slice Ax ax.length cax, .slice A2x kx_.length c2x] 25)) _ _ hszx (NdI.later hv1 hX1 hbt) (fun j hj => Nat.lt_of_lt_of_le (hX1 j hj) hbt.size))
          have hbb := Lib.hid (hb.out.trans (hbt.mono hb.out.size))
          have hnext : Hid (max a (depthI (.mk kx nx_ tx_ ax kx_)) = depthF 0 (ks.take (i + 1))) := Lib.hid (by
            rw [take_snoc hx1, depthF_snoc, ha.out])
          obtain ⟨dx, hdx⟩ : ∃ dx, depthI (.mk kx nx_ tx_ ax kx_) = dx := ⟨_, rfl⟩
          rw [hdx] at hrec hnext
          clear hdx hszx hKr hv1 hx1 hc1 hX1 hbt
          go_wp2_with fail
          refine hrec.out.mono ?_
          rintro e w5 ⟨rfl, hb5⟩
          have hw5 := Lib.hid (hbb.out.trans (hb5.mono hbb.out.size))
          clear hb5 m0 m1 m2 m3 m4
          go_wp2_with fail
          go_roundw
          case rel => exact ⟨i + 1, _, by omega, by go_num, rfl, hnext, hw5⟩
          case measure => simp [intOf]; omega
        · have hie : i = m := by omega
          subst hie
          have i1 : decide ((i : Int) < (i : Int)) = false := by simp
          have hfin : Hid (depthI (.mk 1 nm tx as_ ks) = wrap64 (a + 1)) := Lib.hid (by
            rw [depthI, if_pos rfl, ha.out, ← hm.out, List.take_length])
          go_wp2_with fail
          go_ret
          exact ⟨by rw [hfin.out]; rfl, hb.out⟩
    · have k1 : (kd != 1) = true := by simpa using hk1
      have hz : Hid (depthI (.mk kd nm tx as_ ks) = 0) := Lib.hid (by rw [depthI, if_neg hk1])
      go_enter Tryz.func33, Tryz.ntmps33
      go_wp2_with fail
      go_ret
      exact ⟨by rw [hz.out]; rfl, hba.out⟩
set_option maxHeartbeats 4000000 in
set_option maxRecDepth 100000 in
theorem pcountI_any : ∀ (k : Nat) (X : Nat → Prop) (w : World) (vs : List Value) (n : Nd), SizeOf.sizeOf n ≤ k → NdI X w vs n → (∀ j, X j → j < w.heap.size) → bN n → 
    Calls Tryz.prog 34 #[.agg vs.toArray] w fun e w' => e = .returned (.int .i64 (countI n)) ∧ Below w.heap.size w w' := by
  intro k
  induction k with
  | zero =>
    intro X w vs n hk
    obtain ⟨kd, nm, tx, as_, ks⟩ := n
    simp at hk
  | succ k ih =>
    intro X w vs n hk hn hX hc
    obtain ⟨kd, nm, tx, as_, ks⟩ := n
    obtain ⟨A, ca, A2, c2, rfl, hA, hK, -, -⟩ := hn.cells
    have hcl : as_.length ≤ 140737488351232 ∧ bL ks := by rw [bN] at hc; exact ⟨hc.2.2.1.1, hc.2.2.2⟩
    obtain ⟨hcl, hbl⟩ := hcl
    replace hbl := Lib.hid hbl
    have hlen : ks.length ≤ 9223372036854775807 := Nat.le_trans hK.le hK.max
    have hba := below_alloc w (.cells #[.int .i64 kd, .string (strOf nm), .string (strOf tx), .slice A as_.length ca, .slice A2 ks.length c2] 25)
    have hnb := heap_alloc_new w (.cells #[.int .i64 kd, .string (strOf nm), .string (strOf tx), .slice A as_.length ca, .slice A2 ks.length c2] 25)
    have ih := Lib.hid ih
    obtain ⟨T, hT⟩ : ∃ T, w.heap.size = T := ⟨_, rfl⟩
    obtain ⟨w1, hw1⟩ : ∃ w1, w.alloc (.cells #[.int .i64 kd, .string (strOf nm), .string (strOf tx), .slice A as_.length ca, .slice A2 ks.length c2] 25) = w1 := ⟨_, rfl⟩
    rw [hw1] at hba hnb
    rw [hT] at hnb
    have x0 : w1.cell? ⟨T, 0, none⟩ = some (.int .i64 kd) := cell_blk hnb rfl
    have x3 : w1.cell? ⟨T, 3, none⟩ = some (.slice A as_.length ca) := cell_blk hnb rfl
    have x4 : w1.cell? ⟨T, 4, none⟩ = some (.slice A2 ks.length c2) := cell_blk hnb rfl
    have hkid : Hid (∀ i x, ks[i]? = some x → SizeOf.sizeOf x ≤ k) := Lib.hid fun i x hx => by
      have := kid_lt (k := kd) (nm := nm) (tx := tx) (as_ := as_) hx
      omega
    obtain ⟨m, hm⟩ : ∃ m, ks.length = m := ⟨_, rfl⟩
    rw [hm] at x4 hK hlen
    obtain ⟨la, hla⟩ : ∃ la, as_.length = la := ⟨_, rfl⟩
    rw [hla] at x3 hcl
    have hnbH := Lib.hid hnb
    have hXH := Lib.hid hX
    replace hK := Lib.hid hK
    replace hba := Lib.hid hba
    replace hm := Lib.hid hm
    replace hla := Lib.hid hla
    clear hnb hX hA hn hk hc
    go_enter Tryz.func34, Tryz.ntmps34
    go_wp2_with fail
    go_loopw [3, 13] (fun va vi wr => ∃ (i : Nat) (a : Int), i ≤ m ∧ vi = .int .i64 (i : Nat) ∧ va = .int .i64 a ∧ Hid (a = countF (1 + la) (ks.take i)) ∧ Hid (Below w.heap.size w wr)) (fun _ vi _ => m - (intOf vi).toNat)
    case atStart => exact ⟨0, 1 + la, Nat.zero_le _, rfl, rfl, Lib.hid (by simp [countF]), hba⟩
    case round =>
      obtain ⟨i, a, hi, rfl, rfl, ha, hb⟩ := hrel
      by_cases hlt : i < m
      · have i1 : decide ((i : Int) < (m : Int)) = true := by simp; omega
        have q1 : (i : Int) < (m : Int) := by omega
        have hKr := Sq.kept_ hK.out hb.out (fun vs x h => NdI.later h hXH.out hb.out)
        obtain ⟨b1, off1, x, vs1, rfl, _, hx1, _, hv1, hc1⟩ := hKr.at_ hlt
        have hszx := hkid.out i x hx1
        have hbx := bL_mem hbl.out hx1
        have hX1 : ∀ j, X j → j < wr.heap.size := fun j hj => Nat.lt_of_lt_of_le (hXH.out j hj) hb.out.size
        obtain ⟨kx, nx_, tx_, ax, kx_⟩ := x
        obtain ⟨Ax, cax, A2x, c2x, rfl, -⟩ := hv1.cells
        have m0 := hc1 0 _ rfl
        have m1 := hc1 1 _ rfl
        have m2 := hc1 2 _ rfl
        have m3 := hc1 3 _ rfl
        have m4 := hc1 4 _ rfl
        rw [Nat.add_zero] at m0
        have hbt := below_alloc wr (.cells #[.int .i64 kx, .string (strOf nx_), .string (strOf tx_), .slice Ax ax.length cax, .slice A2x kx_.length c2x] 25)
        have hrec := Lib.hid (ih.out X (wr.alloc (.cells #[.int .i64 kx, .string (strOf nx_), .string (strOf tx_), .slice Ax ax.length cax, .slice A2x kx_.length c2x] 25)) _ _ hszx (NdI.later hv1 hX1 hbt) (fun j hj => Nat.lt_of_lt_of_le (hX1 j hj) hbt.size) hbx)
        have hbb := Lib.hid (hb.out.trans (hbt.mono hb.out.size))
        have hnext : Hid (wrap64 (a + countI (.mk kx nx_ tx_ ax kx_)) = countF (1 + la) (ks.take (i + 1))) := Lib.hid (by
          rw [take_snoc hx1, countF_snoc, ha.out])
        obtain ⟨dx, hdx⟩ : ∃ dx, countI (.mk kx nx_ tx_ ax kx_) = dx := ⟨_, rfl⟩
        rw [hdx] at hrec hnext
        clear hdx hszx hKr hv1 hx1 hc1 hX1 hbx hbt
        go_wp2_with fail
        refine hrec.out.mono ?_
        rintro e w5 ⟨rfl, hb5⟩
        have hw5 := Lib.hid (hbb.out.trans (hb5.mono hbb.out.size))
        clear hb5 m0 m1 m2 m3 m4
        go_wp2_with fail
        go_roundw
        case rel => exact ⟨i + 1, _, by omega, by go_num, rfl, hnext, hw5⟩
        case measure => simp [intOf]; omega
      · have hie : i = m := by omega
        subst hie
        have i1 : decide ((i : Int) < (i : Int)) = false := by simp
        have hfin : Hid (countI (.mk kd nm tx as_ ks) = a) := Lib.hid (by
          rw [countI, ha.out, ← hm.out, List.take_length, ← hla.out])
        go_wp2_with fail
        go_ret
        exact ⟨by rw [hfin.out]; rfl, hb.out⟩
set_option maxHeartbeats 4000000 in
set_option maxRecDepth 100000 in
theorem rdepthI_any : ∀ (k : Nat) (X : Nat → Prop) (w : World) (vs : List Value) (n : Nd), SizeOf.sizeOf n ≤ k → NdI X w vs n → (∀ j, X j → j < w.heap.size) → 
    Calls Tryz.prog 32 #[.agg vs.toArray] w fun e w' => e = .returned (.int .i64 (depthI n)) ∧ Below w.heap.size w w' := by
  intro k
  induction k with
  | zero =>
    intro X w vs n hk
    obtain ⟨kd, nm, tx, as_, ks⟩ := n
    simp at hk
  | succ k ih =>
    intro X w vs n hk hn hX
    obtain ⟨kd, nm, tx, as_, ks⟩ := n
    obtain ⟨A, ca, A2, c2, rfl, hA, hK, -, -⟩ := hn.cells
    have hlen : ks.length ≤ 9223372036854775807 := Nat.le_trans hK.le hK.max
    have hba := below_alloc w (.cells #[.int .i64 kd, .string (strOf nm), .string (strOf tx), .slice A as_.length ca, .slice A2 ks.length c2] 25)
    have hnb := heap_alloc_new w (.cells #[.int .i64 kd, .string (strOf nm), .string (strOf tx), .slice A as_.length ca, .slice A2 ks.length c2] 25)
    have ih := Lib.hid ih
    obtain ⟨T, hT⟩ : ∃ T, w.heap.size = T := ⟨_, rfl⟩
    obtain ⟨w1, hw1⟩ : ∃ w1, w.alloc (.cells #[.int .i64 kd, .string (strOf nm), .string (strOf tx), .slice A as_.length ca, .slice A2 ks.length c2] 25) = w1 := ⟨_, rfl⟩
    rw [hw1] at hba hnb
    rw [hT] at hnb
    have x0 : w1.cell? ⟨T, 0, none⟩ = some (.int .i64 kd) := cell_blk hnb rfl
    have x3 : w1.cell? ⟨T, 3, none⟩ = some (.slice A as_.length ca) := cell_blk hnb rfl
    have x4 : w1.cell? ⟨T, 4, none⟩ = some (.slice A2 ks.length c2) := cell_blk hnb rfl
    have hkid : Hid (∀ i x, ks[i]? = some x → SizeOf.sizeOf x ≤ k) := Lib.hid fun i x hx => by
      have := kid_lt (k := kd) (nm := nm) (tx := tx) (as_ := as_) hx
      omega
    obtain ⟨m, hm⟩ : ∃ m, ks.length = m := ⟨_, rfl⟩
    rw [hm] at x4 hK hlen
    obtain ⟨la, hla⟩ : ∃ la, as_.length = la := ⟨_, rfl⟩
    rw [hla] at x3
    have hnbH := Lib.hid hnb
    have hXH := Lib.hid hX
    replace hK := Lib.hid hK
    replace hba := Lib.hid hba
    replace hm := Lib.hid hm
    replace hla := Lib.hid hla
    clear hnb hX hA hn hk
    by_cases hk1 : kd = 1
    · subst hk1
      go_enter Tryz.func32, Tryz.ntmps32
      go_wp2_with fail
      go_loopw [3, 4] (fun va vi wr => ∃ (i : Nat) (a : Int), i ≤ m ∧ vi = .int .i64 (i : Nat) ∧ va = .int .i64 a ∧ Hid (a = depthF 0 (ks.take i)) ∧ Hid (Below w1.heap.size w1 wr)) (fun _ vi _ => m - (intOf vi).toNat)
      case atStart => exact ⟨0, 0, Nat.zero_le _, rfl, rfl, Lib.hid (by simp [depthF]), Lib.hid (Below.refl _ _)⟩
      case round =>
        obtain ⟨i, a, hi, rfl, rfl, ha, hb1⟩ := hrel
        have hb := Lib.hid (hba.out.trans (hb1.out.mono hba.out.size))
        have y4 := cell_keep x4 hb1.out
        by_cases hlt : i < m
        · have i1 : decide ((i : Int) < (m : Int)) = true := by simp; omega
          have q1 : (i : Int) < (m : Int) := by omega
          have hKr := Sq.kept_ hK.out hb.out (fun vs x h => NdI.later h hXH.out hb.out)
          obtain ⟨b1, off1, x, vs1, rfl, _, hx1, _, hv1, hc1⟩ := hKr.at_ hlt
          have hszx := hkid.out i x hx1
          have hX1 : ∀ j, X j → j < wr.heap.size := fun j hj => Nat.lt_of_lt_of_le (hXH.out j hj) hb.out.size
          obtain ⟨kx, nx_, tx_, ax, kx_⟩ := x
          obtain ⟨Ax, cax, A2x, c2x, rfl, -⟩ := hv1.cells
          have m0 := hc1 0 _ rfl
          have m1 := hc1 1 _ rfl
          have m2 := hc1 2 _ rfl
          have m3 := hc1 3 _ rfl
          have m4 := hc1 4 _ rfl
          rw [Nat.add_zero] at m0
          have hrec := Lib.hid (ih.out X wr _ _ hszx hv1 hX1)
          have hbb := Lib.hid hb1.out
          have hnext : Hid (max a (depthI (.mk kx nx_ tx_ ax kx_)) = depthF 0 (ks.take (i + 1))) := Lib.hid (by
            rw [take_snoc hx1, depthF_snoc, ha.out])
          obtain ⟨dx, hdx⟩ : ∃ dx, depthI (.mk kx nx_ tx_ ax kx_) = dx := ⟨_, rfl⟩
          rw [hdx] at hrec hnext
          clear hdx hszx hKr hv1 hx1 hc1 hX1
          go_wp2_with fail
          refine hrec.out.mono ?_
          rintro e w5 ⟨rfl, hb5⟩
          have hw5 := Lib.hid (hbb.out.trans (hb5.mono hbb.out.size))
          clear hb5 m0 m1 m2 m3 m4
          go_wp2_with fail
          go_roundw
          case rel => exact ⟨i + 1, _, by omega, by go_num, rfl, hnext, hw5⟩
          case measure => simp [intOf]; omega
        · have hie : i = m := by omega
          subst hie
          have i1 : decide ((i : Int) < (i : Int)) = false := by simp
          have hfin : Hid (depthI (.mk 1 nm tx as_ ks) = wrap64 (a + 1)) := Lib.hid (by
            rw [depthI, if_pos rfl, ha.out, ← hm.out, List.take_length])
          go_wp2_with fail
          go_ret
          exact ⟨by rw [hfin.out]; rfl, hb.out⟩
    · have k1 : (kd != 1) = true := by simpa using hk1
      have hz : Hid (depthI (.mk kd nm tx as_ ks) = 0) := Lib.hid (by rw [depthI, if_neg hk1])
      go_enter Tryz.func32, Tryz.ntmps32
      go_wp2_with fail
      go_ret
      exact ⟨by rw [hz.out]; rfl, hba.out⟩
set_option maxHeartbeats 4000000 in
set_option maxRecDepth 100000 in
theorem rcountI_any : ∀ (k : Nat) (X : Nat → Prop) (w : World) (vs : List Value) (n : Nd), SizeOf.sizeOf n ≤ k → NdI X w vs n → (∀ j, X j → j < w.heap.size) → bN n → 
    Calls Tryz.prog 30 #[.agg vs.toArray] w fun e w' => e = .returned (.int .i64 (countI n)) ∧ Below w.heap.size w w' := by
  intro k
  induction k with
  | zero =>
    intro X w vs n hk
    obtain ⟨kd, nm, tx, as_, ks⟩ := n
    simp at hk
  | succ k ih =>
    intro X w vs n hk hn hX hc
    obtain ⟨kd, nm, tx, as_, ks⟩ := n
    obtain ⟨A, ca, A2, c2, rfl, hA, hK, -, -⟩ := hn.cells
    have hcl : as_.length ≤ 140737488351232 ∧ bL ks := by rw [bN] at hc; exact ⟨hc.2.2.1.1, hc.2.2.2⟩
    obtain ⟨hcl, hbl⟩ := hcl
    replace hbl := Lib.hid hbl
    have hlen : ks.length ≤ 9223372036854775807 := Nat.le_trans hK.le hK.max
    have hba := below_alloc w (.cells #[.int .i64 kd, .string (strOf nm), .string (strOf tx), .slice A as_.length ca, .slice A2 ks.length c2] 25)
    have hnb := heap_alloc_new w (.cells #[.int .i64 kd, .string (strOf nm), .string (strOf tx), .slice A as_.length ca, .slice A2 ks.length c2] 25)
    have ih := Lib.hid ih
    obtain ⟨T, hT⟩ : ∃ T, w.heap.size = T := ⟨_, rfl⟩
    obtain ⟨w1, hw1⟩ : ∃ w1, w.alloc (.cells #[.int .i64 kd, .string (strOf nm), .string (strOf tx), .slice A as_.length ca, .slice A2 ks.length c2] 25) = w1 := ⟨_, rfl⟩
    rw [hw1] at hba hnb
    rw [hT] at hnb
    have x0 : w1.cell? ⟨T, 0, none⟩ = some (.int .i64 kd) := cell_blk hnb rfl
    have x3 : w1.cell? ⟨T, 3, none⟩ = some (.slice A as_.length ca) := cell_blk hnb rfl
    have x4 : w1.cell? ⟨T, 4, none⟩ = some (.slice A2 ks.length c2) := cell_blk hnb rfl
    have hkid : Hid (∀ i x, ks[i]? = some x → SizeOf.sizeOf x ≤ k) := Lib.hid fun i x hx => by
      have := kid_lt (k := kd) (nm := nm) (tx := tx) (as_ := as_) hx
      omega
    obtain ⟨m, hm⟩ : ∃ m, ks.length = m := ⟨_, rfl⟩
    rw [hm] at x4 hK hlen
    obtain ⟨la, hla⟩ : ∃ la, as_.length = la := ⟨_, rfl⟩
    rw [hla] at x3 hcl
    have hnbH := Lib.hid hnb
    have hXH := Lib.hid hX
    replace hK := Lib.hid hK
    replace hba := Lib.hid hba
    replace hm := Lib.hid hm
    replace hla := Lib.hid hla
    clear hnb hX hA hn hk hc
    go_enter Tryz.func30, Tryz.ntmps30
    go_wp2_with fail
    go_loopw [3, 4] (fun va vi wr => ∃ (i : Nat) (a : Int), i ≤ m ∧ vi = .int .i64 (i : Nat) ∧ va = .int .i64 a ∧ Hid (a = countF (1 + la) (ks.take i)) ∧ Hid (Below w1.heap.size w1 wr)) (fun _ vi _ => m - (intOf vi).toNat)
    case atStart => exact ⟨0, 1 + la, Nat.zero_le _, rfl, rfl, Lib.hid (by simp [countF]), Lib.hid (Below.refl _ _)⟩
    case round =>
      obtain ⟨i, a, hi, rfl, rfl, ha, hb1⟩ := hrel
      have hb := Lib.hid (hba.out.trans (hb1.out.mono hba.out.size))
      have y4 := cell_keep x4 hb1.out
      by_cases hlt : i < m
      · have i1 : decide ((i : Int) < (m : Int)) = true := by simp; omega
        have q1 : (i : Int) < (m : Int) := by omega
        have hKr := Sq.kept_ hK.out hb.out (fun vs x h => NdI.later h hXH.out hb.out)
        obtain ⟨b1, off1, x, vs1, rfl, _, hx1, _, hv1, hc1⟩ := hKr.at_ hlt
        have hszx := hkid.out i x hx1
        have hbx := bL_mem hbl.out hx1
        have hX1 : ∀ j, X j → j < wr.heap.size := fun j hj => Nat.lt_of_lt_of_le (hXH.out j hj) hb.out.size
        obtain ⟨kx, nx_, tx_, ax, kx_⟩ := x
        obtain ⟨Ax, cax, A2x, c2x, rfl, -⟩ := hv1.cells
        have m0 := hc1 0 _ rfl
        have m1 := hc1 1 _ rfl
        have m2 := hc1 2 _ rfl
        have m3 := hc1 3 _ rfl
        have m4 := hc1 4 _ rfl
        rw [Nat.add_zero] at m0
        have hrec := Lib.hid (ih.out X wr _ _ hszx hv1 hX1 hbx)
        have hbb := Lib.hid hb1.out
        have hnext : Hid (wrap64 (a + countI (.mk kx nx_ tx_ ax kx_)) = countF (1 + la) (ks.take (i + 1))) := Lib.hid (by
          rw [take_snoc hx1, countF_snoc, ha.out])
        obtain ⟨dx, hdx⟩ : ∃ dx, countI (.mk kx nx_ tx_ ax kx_) = dx := ⟨_, rfl⟩
        rw [hdx] at hrec hnext
        clear hdx hszx hKr hv1 hx1 hc1 hX1 hbx
        go_wp2_with fail
        refine hrec.out.mono ?_
        rintro e w5 ⟨rfl, hb5⟩
        have hw5 := Lib.hid (hbb.out.trans (hb5.mono hbb.out.size))
        clear hb5 m0 m1 m2 m3 m4
        go_wp2_with fail
        go_roundw
        case rel => exact ⟨i + 1, _, by omega, by go_num, rfl, hnext, hw5⟩
        case measure => simp [intOf]; omega
      · have hie : i = m := by omega
        subst hie
        have i1 : decide ((i : Int) < (i : Int)) = false := by simp
        have hfin : Hid (countI (.mk kd nm tx as_ ks) = a) := Lib.hid (by
          rw [countI, ha.out, ← hm.out, List.take_length, ← hla.out])
        go_wp2_with fail
        go_ret
        exact ⟨by rw [hfin.out]; rfl, hb.out⟩
end Go.Proofs.YtokdnhdfmgfkeaaGreatDoor.Xt
end

section
namespace Go.Proofs.YtokdnhdfmgfkeaaGreatDoor.Xt
open Go.RowKit UtfW Xl

theorem wL_append : ∀ a b, wL (a ++ b) = wL a + wL b
  | [], b => by simp [wL]
  | x :: a, b => by simp only [List.cons_append, wL, wL_append a b]; omega
theorem wA_append : ∀ a b, wA (a ++ b) = wA a + wA b
  | [], b => by simp [wA]
  | x :: a, b => by simp only [List.cons_append, wA, wA_append a b]; omega
theorem wL_take : ∀ (l : List Nd) (i : Nat), wL (l.take i) ≤ wL l
  | [], i => by simp
  | x :: l, 0 => by simp [wL]
  | x :: l, i + 1 => by
    have := wL_take l i
    rw [List.take_succ_cons, wL, wL]
    omega
theorem wA_take : ∀ (l : List At) (i : Nat), wA (l.take i) ≤ wA l
  | [], i => by simp
  | x :: l, 0 => by simp [wA]
  | x :: l, i + 1 => by
    have := wA_take l i
    rw [List.take_succ_cons, wA, wA]
    omega
theorem wL_next {ks : List Nd} {i : Nat} {x : Nd} (h : ks[i]? = some x) : wL (ks.take (i + 1)) = wL (ks.take i) + wN x := by
  rw [take_snoc h, wL_append]
  simp [wL]
theorem wA_next {l : List At} {i : Nat} {x : At} (h : l[i]? = some x) : wA (l.take (i + 1)) = wA (l.take i) + (1 + x.1.length + x.2.length) := by
  rw [take_snoc h, wA_append]
  simp [wA]
theorem wrap_in {x : Int} (h0 : -9223372036854775808 ≤ x) (h1 : x < 9223372036854775808) : wrap64 x = x := by
  unfold wrap64
  omega
def SmP (n : Nd) (most c : Int) : Prop := wN n ≤ 1152921504606846976 → 0 ≤ c ∧ c ≤ (wN n : Nat) ∧ (c ≤ most → c = (wN n : Nat))
set_option maxHeartbeats 8000000 in
set_option maxRecDepth 100000 in
theorem rsmall_any : ∀ (k : Nat) (X : Nat → Prop) (w : World) (vs : List Value) (n : Nd) (most : Int), SizeOf.sizeOf n ≤ k → NdI X w vs n → (∀ j, X j → j < w.heap.size) →
    Calls Tryz.prog 67 #[.agg vs.toArray, .int .i64 most] w fun e w' => (∃ c : Int, e = .returned (.int .i64 c) ∧ SmP n most c) ∧ Below w.heap.size w w' := by
  intro k
  induction k with
  | zero =>
    intro X w vs n most hk
    obtain ⟨kd, nm, tx, as_, ks⟩ := n
    simp at hk
  | succ k ih =>
    intro X w vs n most hk hn hX
    obtain ⟨kd, nm, tx, as_, ks⟩ := n
    obtain ⟨A, ca, A2, c2, rfl, hA, hK, -, -⟩ := hn.cells
    have hlen : ks.length ≤ 9223372036854775807 := Nat.le_trans hK.le hK.max
    have hlea : as_.length ≤ 9223372036854775807 := Nat.le_trans hA.le hA.max
    obtain ⟨m, hm⟩ : ∃ m, ks.length = m := ⟨_, rfl⟩
    obtain ⟨la, hla⟩ : ∃ la, as_.length = la := ⟨_, rfl⟩
    obtain ⟨S1, hS1⟩ : ∃ S, strOf nm = S := ⟨_, rfl⟩
    obtain ⟨S2, hS2⟩ : ∃ S, strOf tx = S := ⟨_, rfl⟩
    have hz1 : S1.size = nm.length := by rw [← hS1]; exact strOf_size nm
    have hz2 : S2.size = tx.length := by rw [← hS2]; exact strOf_size tx
    obtain ⟨z1, hzz1⟩ : ∃ z, S1.size = z := ⟨_, rfl⟩
    obtain ⟨z2, hzz2⟩ : ∃ z, S2.size = z := ⟨_, rfl⟩
    have hW : wN (.mk kd nm tx as_ ks) = 1 + z1 + z2 + wA as_ + wL ks := by rw [wN, ← hzz1, ← hzz2, hz1, hz2]
    rw [hm] at hK hlen
    rw [hla] at hA hlea
    rw [hm, hla, hS1, hS2]
    have hba := below_alloc w (.cells #[.int .i64 kd, .string S1, .string S2, .slice A la ca, .slice A2 m c2] 25)
    have hnb := heap_alloc_new w (.cells #[.int .i64 kd, .string S1, .string S2, .slice A la ca, .slice A2 m c2] 25)
    have ih := Lib.hid ih
    obtain ⟨T, hT⟩ : ∃ T, w.heap.size = T := ⟨_, rfl⟩
    obtain ⟨w1, hw1⟩ : ∃ w1, w.alloc (.cells #[.int .i64 kd, .string S1, .string S2, .slice A la ca, .slice A2 m c2] 25) = w1 := ⟨_, rfl⟩
    rw [hw1] at hba hnb
    rw [hT] at hnb
    have x1 : w1.cell? ⟨T, 1, none⟩ = some (.string S1) := cell_blk hnb rfl
    have x2 : w1.cell? ⟨T, 2, none⟩ = some (.string S2) := cell_blk hnb rfl
    have x3 : w1.cell? ⟨T, 3, none⟩ = some (.slice A la ca) := cell_blk hnb rfl
    have x4 : w1.cell? ⟨T, 4, none⟩ = some (.slice A2 m c2) := cell_blk hnb rfl
    have hkid : Hid (∀ i x, ks[i]? = some x → SizeOf.sizeOf x ≤ k) := Lib.hid fun i x hx => by
      have := kid_lt (k := kd) (nm := nm) (tx := tx) (as_ := as_) hx
      omega
    have hXH := Lib.hid hX
    replace hK := Lib.hid hK
    replace hA := Lib.hid (hA.below AtEl.to hba)
    replace hba := Lib.hid hba
    replace hm := Lib.hid hm
    replace hla := Lib.hid hla
    have h0 : Hid (wN (.mk kd nm tx as_ ks) ≤ 1152921504606846976 → wrap64 (wrap64 (1 + (z1 : Int)) + (z2 : Int)) = ((1 + z1 + z2 + wA (as_.take 0) : Nat) : Int)) := Lib.hid fun hB => by
      rw [hW] at hB
      rw [wrap_in (x := 1 + (z1 : Int)) (by omega) (by omega), wrap_in (by omega) (by omega)]
      simp [wA]
    replace hW := Lib.hid hW
    clear hnb hX hn hk hz1 hz2 hS1 hS2
    go_enter Tryz.func67, Tryz.ntmps67
    go_wp2_with fail
    go_loopw [5, 6] (fun vc vi wr => ∃ (i : Nat) (c : Int), i ≤ la ∧ vi = .int .i64 (i : Nat) ∧ vc = .int .i64 c ∧ Hid (wN (.mk kd nm tx as_ ks) ≤ 1152921504606846976 → c = ((1 + z1 + z2 + wA (as_.take i) : Nat) : Int)) ∧ Hid (Below w1.heap.size w1 wr)) (fun _ vi _ => la - (intOf vi).toNat)
    case atStart => exact ⟨0, _, Nat.zero_le _, rfl, rfl, h0, Lib.hid (Below.refl _ _)⟩
    case round =>
      obtain ⟨i, c, hi, rfl, rfl, hc, hb1⟩ := hrel
      have y3 := cell_keep x3 hb1.out
      have y4 := cell_keep x4 hb1.out
      by_cases hlt : i < la
      · have i1 : decide ((i : Int) < (la : Int)) = true := by simp; omega
        have q1 : (i : Int) < (la : Int) := by omega
        by_cases hcm : c ≤ most
        · have i2 : decide (c ≤ most) = true := by simpa using hcm
          obtain ⟨b1, off1, ax, vs1, rfl, _, hx1, _, hv1, hc1⟩ := (hA.out.below AtEl.to hb1.out).at_ hlt
          unfold AtEl at hv1
          subst hv1
          obtain ⟨a1, a2⟩ := ax
          obtain ⟨s1, hs1⟩ : ∃ S, strOf a1 = S := ⟨_, rfl⟩
          obtain ⟨s2, hs2⟩ : ∃ S, strOf a2 = S := ⟨_, rfl⟩
          have g1 : s1.size = a1.length := by rw [← hs1]; exact strOf_size a1
          have g2 : s2.size = a2.length := by rw [← hs2]; exact strOf_size a2
          simp only [hs1, hs2] at hc1
          obtain ⟨u1, hu1⟩ : ∃ z, s1.size = z := ⟨_, rfl⟩
          obtain ⟨u2, hu2⟩ : ∃ z, s2.size = z := ⟨_, rfl⟩
          have m0 := hc1 0 _ rfl
          have m1 := hc1 1 _ rfl
          rw [Nat.add_zero] at m0
          have hnext : Hid (wN (.mk kd nm tx as_ ks) ≤ 1152921504606846976 → wrap64 (wrap64 (wrap64 (c + 1) + (u1 : Int)) + (u2 : Int)) = ((1 + z1 + z2 + wA (as_.take (i + 1)) : Nat) : Int)) := Lib.hid fun hB => by
            have e := hc.out hB
            rw [hW.out] at hB
            have e2 := wA_next hx1
            have e3 := wA_take as_ (i + 1)
            simp only at e2
            rw [← g1, ← g2, hu1, hu2] at e2
            rw [e2] at e3
            rw [e2, e, wrap_in (x := _ + 1) (by omega) (by omega), wrap_in (x := _ + (u1 : Int)) (by omega) (by omega), wrap_in (by omega) (by omega)]
            omega
          have hbd := Lib.hid (hb1.out.trans ((Joins.below_draws wr.heap.size wr 1).mono hb1.out.size))
          clear hc1 hx1 g1 g2 hs1 hs2 hcm
          go_wp2_with fail
          refine Pl.wp_region_plan 17 (.take 0 (.take 1 (.take 2 (.take 3 (.take 4 (.take 5 (.take 6 (.take 7 (.take 8 (.take 9 (.take 10 (.take 11 (.take 12 (.take 13 (.take 14 (.take 15 (.take 16 .done))))))))))))))))) (fun x => x.cell? ⟨T, 3, none⟩ = some (.slice (some ⟨b1, off1, none⟩) la ca) ∧ x.cell? ⟨b1, off1 + i * 2, none⟩ = some (.string s1) ∧ x.cell? ⟨b1, off1 + i * 2 + 1, none⟩ = some (.string s2)) (by kernel_rfl) (by kernel_rfl) (by exact ⟨y3, m0, m1⟩) ?_
          simp only [Pl.fill, List.getElem?_cons_zero, List.getElem?_cons_succ, List.drop_succ_cons, List.drop_zero]
          iterate 17
            refine Pl.take_go ?_ (by rfl) (fun _ _ _ h => h) ?_ ?_
            rotate_left
            · (intro x hSw; (try dsimp only at hSw); go_simp; try with_reducible rfl)
            try simp only [Act.put, List.setIfInBounds_toArray, List.set_cons_zero, List.set_cons_succ]
          refine Pl.done_go ?_
          go_wp2_with fail
          go_roundw
          case rel => exact ⟨i + 1, _, by omega, by go_num, rfl, hnext, hbd⟩
          case measure => simp [intOf]; omega
        · have i2 : decide (c ≤ most) = false := by simpa using hcm
          have hJ : Hid (wN (.mk kd nm tx as_ ks) ≤ 1152921504606846976 → c = ((1 + z1 + z2 + wA as_ + wL (ks.take 0) : Nat) : Int) ∨ (most < c ∧ 0 ≤ c ∧ c ≤ ((wN (.mk kd nm tx as_ ks) : Nat) : Int))) := Lib.hid fun hB => by
            have e := hc.out hB
            have e3 := wA_take as_ i
            rw [hW.out]
            refine .inr ⟨by omega, by omega, by omega⟩
          have hb0 := hb1
          clear hcm hc hb1
          go_wp2_with fail
          clear i1 i2
          go_loopw [5, 7] (fun vc vi wr => ∃ (j : Nat) (c : Int), j ≤ m ∧ vi = .int .i64 (j : Nat) ∧ vc = .int .i64 c ∧ Hid (wN (.mk kd nm tx as_ ks) ≤ 1152921504606846976 → c = ((1 + z1 + z2 + wA as_ + wL (ks.take j) : Nat) : Int) ∨ (most < c ∧ 0 ≤ c ∧ c ≤ ((wN (.mk kd nm tx as_ ks) : Nat) : Int))) ∧ Hid (Below w1.heap.size w1 wr)) (fun _ vi _ => m - (intOf vi).toNat)
          case atStart => exact ⟨0, _, Nat.zero_le _, rfl, rfl, hJ, hb0⟩
          case round =>
            clear hJ hb0 y3 y4
            obtain ⟨j, c, hj, rfl, rfl, hJ, hb1⟩ := hrel
            have y4 := cell_keep x4 hb1.out
            have hb := Lib.hid (hba.out.trans (hb1.out.mono hba.out.size))
            by_cases hlt : j < m
            · have i1 : decide ((j : Int) < (m : Int)) = true := by simp; omega
              have q1 : (j : Int) < (m : Int) := by omega
              by_cases hcm : c ≤ most
              · have i2 : decide (c ≤ most) = true := by simpa using hcm
                have hKr := Sq.kept_ hK.out hb.out (fun vs x h => NdI.later h hXH.out hb.out)
                obtain ⟨b1, off1, x, vs1, rfl, _, hx1, _, hv1, hc1⟩ := hKr.at_ hlt
                have hszx := hkid.out j x hx1
                have hX1 : ∀ j, X j → j < wr.heap.size := fun j hj => Nat.lt_of_lt_of_le (hXH.out j hj) hb.out.size
                have hrec := Lib.hid (ih.out X wr _ _ most hszx hv1 hX1)
                replace hx1 := Lib.hid hx1
                obtain ⟨kx, nx_, tx_, ax, kx_⟩ := x
                obtain ⟨Ax, cax, A2x, c2x, rfl, -⟩ := hv1.cells
                have m0 := hc1 0 _ rfl
                have m1 := hc1 1 _ rfl
                have m2 := hc1 2 _ rfl
                have m3 := hc1 3 _ rfl
                have m4 := hc1 4 _ rfl
                rw [Nat.add_zero] at m0
                replace hcm := Lib.hid hcm
                clear hszx hKr hv1 hc1 hX1
                go_wp2_with fail
                refine hrec.out.mono ?_
                rintro e w5 ⟨⟨d, rfl, hd⟩, hb5⟩
                have hw5 := Lib.hid (hb1.out.trans (hb5.mono hb1.out.size))
                have hnext : Hid (wN (.mk kd nm tx as_ ks) ≤ 1152921504606846976 → wrap64 (c + d) = ((1 + z1 + z2 + wA as_ + wL (ks.take (j + 1)) : Nat) : Int) ∨ (most < wrap64 (c + d) ∧ 0 ≤ wrap64 (c + d) ∧ wrap64 (c + d) ≤ ((wN (.mk kd nm tx as_ ks) : Nat) : Int))) := Lib.hid fun hB => by
                  have e := hJ.out hB
                  have e1 := hcm.out
                  have e2 := wL_next hx1.out
                  have e3 := wL_take ks (j + 1)
                  have hB' := hB
                  rw [hW.out] at hB'
                  rw [e2] at e3
                  obtain ⟨d0, d1, d2⟩ := hd (by omega)
                  rw [e2]
                  have e : c = ((1 + z1 + z2 + wA as_ + wL (ks.take j) : Nat) : Int) := by
                    rcases e with e | e
                    · exact e
                    · omega
                  rw [wrap_in (by omega) (by omega), hW.out]
                  by_cases hdm : d ≤ most
                  · have := d2 hdm
                    exact .inl (by omega)
                  · exact .inr ⟨by omega, by omega, by omega⟩
                clear hb5 m0 m1 m2 m3 m4 hd
                go_wp2_with fail
                go_roundw
                case rel => exact ⟨j + 1, _, by omega, by go_num, rfl, hnext, hw5⟩
                case measure => simp [intOf]; omega
              · have i2 : decide (c ≤ most) = false := by simpa using hcm
                have hres : Hid (SmP (.mk kd nm tx as_ ks) most c) := Lib.hid fun hB => by
                  have e := hJ.out hB
                  have e3 := wL_take ks j
                  rw [hW.out] at e ⊢
                  refine ⟨by omega, by omega, fun h => absurd h hcm⟩
                clear hJ hcm
                go_wp2_with fail
                (try simp only [Exit.inBlock, Exit.then])
                go_ret
                exact ⟨⟨_, rfl, hres.out⟩, hb.out⟩
            · have i1 : decide ((j : Int) < (m : Int)) = false := by simp; omega
              have hres : Hid (SmP (.mk kd nm tx as_ ks) most c) := Lib.hid fun hB => by
                have e := hJ.out hB
                rw [List.take_of_length_le (by rw [hm.out]; omega)] at e
                rw [hW.out] at e ⊢
                refine ⟨by omega, by omega, fun h => by omega⟩
              clear hJ
              go_wp2_with fail
              (try simp only [Exit.inBlock, Exit.then])
              go_ret
              exact ⟨⟨_, rfl, hres.out⟩, hb.out⟩
      · have hie : i = la := by omega
        subst hie
        have i1 : decide ((i : Int) < (i : Int)) = false := by simp
        have hJ : Hid (wN (.mk kd nm tx as_ ks) ≤ 1152921504606846976 → c = ((1 + z1 + z2 + wA as_ + wL (ks.take 0) : Nat) : Int) ∨ (most < c ∧ 0 ≤ c ∧ c ≤ ((wN (.mk kd nm tx as_ ks) : Nat) : Int))) := Lib.hid fun hB => by
          have e := hc.out hB
          rw [List.take_of_length_le (by rw [hla.out]; exact Nat.le_refl _)] at e
          rw [e]
          simp [wL]
        have hb0 := hb1
        clear hc hb1 hlt
        go_wp2_with fail
        clear i1
        go_loopw [5, 7] (fun vc vi wr => ∃ (j : Nat) (c : Int), j ≤ m ∧ vi = .int .i64 (j : Nat) ∧ vc = .int .i64 c ∧ Hid (wN (.mk kd nm tx as_ ks) ≤ 1152921504606846976 → c = ((1 + z1 + z2 + wA as_ + wL (ks.take j) : Nat) : Int) ∨ (most < c ∧ 0 ≤ c ∧ c ≤ ((wN (.mk kd nm tx as_ ks) : Nat) : Int))) ∧ Hid (Below w1.heap.size w1 wr)) (fun _ vi _ => m - (intOf vi).toNat)
        case atStart => exact ⟨0, _, Nat.zero_le _, rfl, rfl, hJ, hb0⟩
        case round =>
          clear hJ hb0 y3 y4
          obtain ⟨j, c, hj, rfl, rfl, hJ, hb1⟩ := hrel
          have y4 := cell_keep x4 hb1.out
          have hb := Lib.hid (hba.out.trans (hb1.out.mono hba.out.size))
          by_cases hlt : j < m
          · have i1 : decide ((j : Int) < (m : Int)) = true := by simp; omega
            have q1 : (j : Int) < (m : Int) := by omega
            by_cases hcm : c ≤ most
            · have i2 : decide (c ≤ most) = true := by simpa using hcm
              have hKr := Sq.kept_ hK.out hb.out (fun vs x h => NdI.later h hXH.out hb.out)
              obtain ⟨b1, off1, x, vs1, rfl, _, hx1, _, hv1, hc1⟩ := hKr.at_ hlt
              have hszx := hkid.out j x hx1
              have hX1 : ∀ j, X j → j < wr.heap.size := fun j hj => Nat.lt_of_lt_of_le (hXH.out j hj) hb.out.size
              have hrec := Lib.hid (ih.out X wr _ _ most hszx hv1 hX1)
              replace hx1 := Lib.hid hx1
              obtain ⟨kx, nx_, tx_, ax, kx_⟩ := x
              obtain ⟨Ax, cax, A2x, c2x, rfl, -⟩ := hv1.cells
              have m0 := hc1 0 _ rfl
              have m1 := hc1 1 _ rfl
              have m2 := hc1 2 _ rfl
              have m3 := hc1 3 _ rfl
              have m4 := hc1 4 _ rfl
              rw [Nat.add_zero] at m0
              replace hcm := Lib.hid hcm
              clear hszx hKr hv1 hc1 hX1
              go_wp2_with fail
              refine hrec.out.mono ?_
              rintro e w5 ⟨⟨d, rfl, hd⟩, hb5⟩
              have hw5 := Lib.hid (hb1.out.trans (hb5.mono hb1.out.size))
              have hnext : Hid (wN (.mk kd nm tx as_ ks) ≤ 1152921504606846976 → wrap64 (c + d) = ((1 + z1 + z2 + wA as_ + wL (ks.take (j + 1)) : Nat) : Int) ∨ (most < wrap64 (c + d) ∧ 0 ≤ wrap64 (c + d) ∧ wrap64 (c + d) ≤ ((wN (.mk kd nm tx as_ ks) : Nat) : Int))) := Lib.hid fun hB => by
                have e := hJ.out hB
                have e1 := hcm.out
                have e2 := wL_next hx1.out
                have e3 := wL_take ks (j + 1)
                have hB' := hB
                rw [hW.out] at hB'
                rw [e2] at e3
                obtain ⟨d0, d1, d2⟩ := hd (by omega)
                rw [e2]
                have e : c = ((1 + z1 + z2 + wA as_ + wL (ks.take j) : Nat) : Int) := by
                  rcases e with e | e
                  · exact e
                  · omega
                rw [wrap_in (by omega) (by omega), hW.out]
                by_cases hdm : d ≤ most
                · have := d2 hdm
                  exact .inl (by omega)
                · exact .inr ⟨by omega, by omega, by omega⟩
              clear hb5 m0 m1 m2 m3 m4 hd
              go_wp2_with fail
              go_roundw
              case rel => exact ⟨j + 1, _, by omega, by go_num, rfl, hnext, hw5⟩
              case measure => simp [intOf]; omega
            · have i2 : decide (c ≤ most) = false := by simpa using hcm
              have hres : Hid (SmP (.mk kd nm tx as_ ks) most c) := Lib.hid fun hB => by
                have e := hJ.out hB
                have e3 := wL_take ks j
                rw [hW.out] at e ⊢
                refine ⟨by omega, by omega, fun h => absurd h hcm⟩
              clear hJ hcm
              go_wp2_with fail
              (try simp only [Exit.inBlock, Exit.then])
              go_ret
              exact ⟨⟨_, rfl, hres.out⟩, hb.out⟩
          · have i1 : decide ((j : Int) < (m : Int)) = false := by simp; omega
            have hres : Hid (SmP (.mk kd nm tx as_ ks) most c) := Lib.hid fun hB => by
              have e := hJ.out hB
              rw [List.take_of_length_le (by rw [hm.out]; omega)] at e
              rw [hW.out] at e ⊢
              refine ⟨by omega, by omega, fun h => by omega⟩
            clear hJ
            go_wp2_with fail
            (try simp only [Exit.inBlock, Exit.then])
            go_ret
            exact ⟨⟨_, rfl, hres.out⟩, hb.out⟩
set_option maxHeartbeats 1000000 in
set_option maxRecDepth 100000 in
theorem rSmall_any (X : Nat → Prop) (w : World) (vs : List Value) (n : Nd) (most : Int) (hn : NdI X w vs n) (hX : ∀ j, X j → j < w.heap.size) :
    Calls Tryz.prog 35 #[.agg vs.toArray, .int .i64 most] w fun e w' => (∃ c : Int, e = .returned (.bool (decide (c ≤ most))) ∧ SmP n most c) ∧ Below w.heap.size w w' := by
  obtain ⟨kd, nm, tx, as_, ks⟩ := n
  obtain ⟨A, ca, A2, c2, rfl, -⟩ := hn.cells
  have hba := below_alloc w (.cells #[.int .i64 kd, .string (strOf nm), .string (strOf tx), .slice A as_.length ca, .slice A2 ks.length c2] 25)
  have hnb := heap_alloc_new w (.cells #[.int .i64 kd, .string (strOf nm), .string (strOf tx), .slice A as_.length ca, .slice A2 ks.length c2] 25)
  have hrec := Lib.hid (rsmall_any _ X (w.alloc (.cells #[.int .i64 kd, .string (strOf nm), .string (strOf tx), .slice A as_.length ca, .slice A2 ks.length c2] 25)) _ _ most (Nat.le_refl _) (NdI.later hn hX hba) (fun j hj => Nat.lt_of_lt_of_le (hX j hj) hba.size))
  have x0 := cell_blk hnb (i := 0) rfl
  have x1 := cell_blk hnb (i := 1) rfl
  have x2 := cell_blk hnb (i := 2) rfl
  have x3 := cell_blk hnb (i := 3) rfl
  have x4 := cell_blk hnb (i := 4) rfl
  have hbaH := Lib.hid hba
  clear hnb hn hX hba
  go_enter Tryz.func35, Tryz.ntmps35
  go_wp2_with fail
  refine hrec.out.mono ?_
  rintro e w5 ⟨⟨c, rfl, hd⟩, hb5⟩
  have hw5 := Lib.hid (hbaH.out.trans (hb5.mono hbaH.out.size))
  replace hd := Lib.hid hd
  clear hb5 x0 x1 x2 x3 x4
  go_wp2_with fail
  go_ret
  exact ⟨⟨c, rfl, hd.out⟩, hw5.out⟩
end Go.Proofs.YtokdnhdfmgfkeaaGreatDoor.Xt
end

section
namespace Go.Proofs.YtokdnhdfmgfkeaaGreatDoor.Xt
open Xl UtfW
open Go.Proofs.YtokdnhdfmgfkeaaGreatDoor.Qx (V)

/-! ### The builder over them -/
end Go.Proofs.YtokdnhdfmgfkeaaGreatDoor.Xt
end

section
namespace Go.Proofs.YtokdnhdfmgfkeaaGreatDoor.Xt
open Go.RowKit UtfW Xl Er

theorem ParP.ok {S : Tx} {w w' : World} {e : Ending} {p : Nat} {d : Doc} (h : ParP S w e w') (hr : parseF S = (0, p, d)) : Below w.heap.size w w' ∧ ∃ vd, e = .returned (.tuple #[vd, .nilIface]) ∧ DocI (fun k => w.heap.size ≤ k ∧ k < w'.heap.size) w' vd d := by
  obtain ⟨h1, vd, ev, rfl, h2⟩ := h
  rw [hr] at h2
  rcases h2 with ⟨_, rfl, h3⟩ | ⟨h3, _⟩
  · exact ⟨h1, vd, rfl, h3⟩
  · exact absurd rfl h3
theorem ParP.no {S : Tx} {w w' : World} {e : Ending} {cd : Int} {p : Nat} {d : Doc} (h : ParP S w e w') (hr : parseF S = (cd, p, d)) (hc : cd ≠ 0) : Below w.heap.size w w' ∧ d = noDoc ∧ ∃ v, e = .returned (.tuple #[zeroDoc, v]) ∧ Er.Fe w' w'.heap.size cd (p : Nat) [xmlB] v := by
  obtain ⟨h1, vd, ev, rfl, h2⟩ := h
  rw [hr] at h2
  rcases h2 with ⟨h3, _⟩ | ⟨_, h3, rfl, h4⟩
  · exact absurd h3 hc
  · exact ⟨h1, h3, ev, rfl, h4⟩
theorem DocI.open_ {X : Nat → Prop} {w : World} {v : Value} {d : Doc} (h : DocI X w v d) : ∃ A1 c1 Ar cr Ak ck A2 c2, v = .agg #[.slice A1 d.before.length c1, .int .i64 d.root.kind, .string (strOf d.root.name), .string (strOf d.root.text), .slice Ar d.root.attrs.length cr, .slice Ak d.root.kids.length ck, .slice A2 d.after.length c2] ∧
    NdI X w [.int .i64 d.root.kind, .string (strOf d.root.name), .string (strOf d.root.text), .slice Ar d.root.attrs.length cr, .slice Ak d.root.kids.length ck] d.root ∧ Sq (NdE X) 5 w Ak d.root.kids.length ck d.root.kids ∧ Sq (NdE X) 5 w A1 d.before.length c1 d.before ∧ Sq (NdE X) 5 w A2 d.after.length c2 d.after := by
  obtain ⟨A1, c1, r0, r1, r2, r3, r4, A2, c2, rfl, h1, _, h2, h3, _⟩ := h
  obtain ⟨bf, rt, af⟩ := d
  obtain ⟨kd, nm, tx, as_, ks⟩ := rt
  obtain ⟨Ar, cr, Ak, ck, e, g1, g2, _⟩ := h2.cells
  injection e with e0 e
  injection e with e1 e
  injection e with e2 e
  injection e with e3 e
  injection e with e4 e
  subst e0; subst e1; subst e2; subst e3; subst e4
  exact ⟨A1, c1, Ar, cr, Ak, ck, A2, c2, rfl, h2, g2, h1, h3⟩
def aw1 : Tx := [60, 97, 62, 120, 60, 33, 91, 67, 68, 65, 84, 65, 91, 121, 93, 93, 62, 60, 98, 47, 62, 60, 47, 97, 62]
def aw2 : Tx := [60, 97, 62, 60, 47, 98, 62]
def awD : Doc := ⟨[], .mk 1 [97] [] [] [textN [120, 121], .mk 1 [98] [] [] []], []⟩
theorem aw1_all : Xl.allF aw1 = (0, 0, [⟨1, 0, [97], [], []⟩, ⟨4, 3, [], [120], []⟩, ⟨5, 4, [], [121], []⟩, ⟨2, 17, [98], [], []⟩, ⟨3, 21, [97], [], []⟩]) := by decide +kernel
theorem aw2_all : Xl.allF aw2 = (0, 0, [⟨1, 0, [97], [], []⟩, ⟨3, 3, [98], [], []⟩]) := by decide +kernel
theorem aw1_eq : parseF aw1 = (0, 0, awD) := by
  unfold parseF
  rw [aw1_all]
  rfl
theorem aw2_eq : parseF aw2 = (3, 3, noDoc) := by
  unfold parseF
  rw [aw2_all]
  rfl
set_option maxHeartbeats 4000000 in
set_option maxRecDepth 100000 in
theorem awake10 (w : World) (hU : Un w) (hE : En w.heap.size w) :
    Calls Tryz.prog 24 #[] w fun e w' => e = .returned (.bool true) ∧ Below w.heap.size w w' := by
  have kc := fun (w : World) (C : Array Value) (n c : Nat) => Lib.run_convert_bytes_const (P := Tryz.prog) w 41 5 C n c Tryz.underlying41 Tryz.underlying5
  go_enter Tryz.func24, Tryz.ntmps24
  go_wp2_with fail
  refine (parse_any _ (hU.below (below_alloc _ _)) _ 25 25 aw1 (bs_lit _ _ _ _ _ _ rfl (by decide) rfl) (by decide)).mono ?_
  intro e w1 h1
  obtain ⟨hb1, vd, rfl, hd⟩ := h1.ok aw1_eq
  obtain ⟨A1, c1, Ar, cr, Ak, ck, A2, c2, rfl, -, hk, -, -⟩ := hd.open_
  have hx1 := (below_alloc w _).trans (hb1.mono (below_alloc w _).size)
  have hba := below_alloc w1 (.cells #[.slice A1 0 c1, .int .i64 1, .string (strOf [97]), .string (strOf []), .slice Ar 0 cr, .slice Ak 2 ck, .slice A2 0 c2] 27)
  have hnb := heap_alloc_new w1 (.cells #[.slice A1 0 c1, .int .i64 1, .string (strOf [97]), .string (strOf []), .slice Ar 0 cr, .slice Ak 2 ck, .slice A2 0 c2] 27)
  change Sq _ 5 w1 Ak 2 ck [textN [120, 121], .mk 1 [98] [] [] []] at hk
  have hk2 := Lib.hid (Sq.stay (w' := w1.alloc (.cells #[.slice A1 0 c1, .int .i64 1, .string (strOf [97]), .string (strOf []), .slice Ar 0 cr, .slice Ak 2 ck, .slice A2 0 c2] 27)) hk (fun ad e hn => by
      obtain ⟨b, off, e2, hbl, _⟩ := hk.cell hn
      rw [e] at e2
      injection e2 with e2
      rw [e2]
      exact hba.block b hbl) (fun vs x h => NdI.later h (fun k hk => hk.2) hba))
  replace hx1 := Lib.hid (hx1.trans (hba.mono hx1.size))
  replace hnb := Lib.hid hnb
  clear hb1 h1 hd hk hba
  go_upto_region 2 with fail
  change Code.wp _ _ _ _ (w1.alloc (.cells #[.slice A1 0 c1, .int .i64 1, .string (strOf [97]), .string (strOf []), .slice Ar 0 cr, .slice Ak 2 ck, .slice A2 0 c2] 27))
  generalize w1.alloc (.cells #[.slice A1 0 c1, .int .i64 1, .string (strOf [97]), .string (strOf []), .slice Ar 0 cr, .slice Ak 2 ck, .slice A2 0 c2] 27) = w2 at hx1 hnb hk2 ⊢
  generalize w1.heap.size = D at hnb ⊢
  go_wp2_with fail
  refine (parse_any _ ((hU.below hx1.out).below (below_alloc _ _)) _ 7 7 aw2 (bs_lit _ _ _ _ _ _ rfl (by decide) rfl) (by decide)).mono ?_
  intro e w3 h3
  obtain ⟨hb3, -, v, rfl, f3⟩ := h3.no aw2_eq (by decide)
  unfold zeroDoc
  obtain ⟨T2, a2, rfl⟩ := f3.iface
  have hb23 := (below_alloc w2 _).trans (hb3.mono (below_alloc w2 _).size)
  have hbz := below_alloc w3 (.cells #[.slice none 0 0, .int .i64 0, .string ⟨#[]⟩, .string ⟨#[]⟩, .slice none 0 0, .slice none 0 0, .slice none 0 0] 27)
  have hb24 := hb23.trans (hbz.mono hb23.size)
  have hx4 := Lib.hid (hx1.out.trans (hb24.mono hx1.out.size))
  have f4 := Lib.hid (Fe.later f3 hbz)
  have hD4 := (hb24.block D (Array.getElem?_eq_some_iff.1 hnb.out).1).trans hnb.out
  obtain ⟨b5, off5, x5, vs5, rfl, _, hx5, _, hv5, hc5⟩ := (hk2.out.at_ (i := 0) (by decide))
  injection hx5 with hx5
  subst hx5
  obtain ⟨A5, c5, A6, c6, rfl, -⟩ := hv5.cells
  have k5 := cell_keep (hc5 2 _ rfl) hb24
  have z5 := cell_blk hD4 (i := 5) rfl
  have str1 : ((strOf [120, 121]).toList == [120, 121]) = true := by rw [str_eqL]; decide
  replace hbz := Lib.hid hbz
  clear hb3 h3 f3 hb23 hb24 hv5 hc5 hnb hk2 hD4
  go_wp2_with fail
  refine (Code_any 3 3 _ _ w.heap.size (w3.alloc (.cells #[.slice none 0 0, .int .i64 0, .string ⟨#[]⟩, .string ⟨#[]⟩, .slice none 0 0, .slice none 0 0, .slice none 0 0] 27)) (hE.on hx4.out) f4.out).mono ?_
  rintro e w5 ⟨rfl, hb5⟩
  have f5 := Lib.hid (Fe.later f4.out hb5)
  have hx5 := Lib.hid (hx4.out.trans (hb5.mono hx4.out.size))
  clear hb5 f4
  go_wp2_with fail
  refine (At_any 3 3 _ _ w.heap.size w5 (hE.on hx5.out) f5.out).mono ?_
  rintro e w6 ⟨rfl, hb6⟩
  have hx6 := Lib.hid (hx5.out.trans (hb6.mono hx5.out.size))
  clear hb6 f5
  go_wp2_with fail
  go_ret
  exact ⟨rfl, hx6.out⟩
end Go.Proofs.YtokdnhdfmgfkeaaGreatDoor.Xt
end

section
namespace Go.Proofs.YtokdnhdfmgfkeaaGreatDoor.Xt
open Go.RowKit UtfW Xl Er

theorem En_up {B B' : Nat} {w : World} (h : En B w) (h1 : B ≤ B') (h2 : B' ≤ w.heap.size) : En B' w := { et := h.et, lt := Nat.lt_of_lt_of_le h.lt h1, le := h2 }
section
variable (w : World)
set_option maxHeartbeats 8000000 in
set_option maxRecDepth 100000 in
theorem tells_law (hU : Un w) (hE : En w.heap.size w) (va vb : List Value) (na nb : Nd) (hna : NdI (fun j => j < w.heap.size) w va na) (hnb : NdI (fun j => j < w.heap.size) w vb nb) (bna : bN na) :
    Calls Tryz.prog 7 #[.agg va.toArray, .agg vb.toArray] w fun e w' => e = .returned (.bool true) ∧ Below w.heap.size w w' := by
  obtain ⟨kd, nm, tx, as_, ks⟩ := na
  obtain ⟨kd', nm', tx', as', ks'⟩ := nb
  obtain ⟨A, ca, A2, c2, rfl, -⟩ := hna.cells
  obtain ⟨B, cb, B2, d2, rfl, -⟩ := hnb.cells
  obtain ⟨ND, hND⟩ : ∃ n, Nd.mk kd nm tx as_ ks = n := ⟨_, rfl⟩
  obtain ⟨NE, hNE⟩ : ∃ n, Nd.mk kd' nm' tx' as' ks' = n := ⟨_, rfl⟩
  rw [hND] at hna bna
  rw [hNE] at hnb
  have hba := below_alloc w (.cells #[.int .i64 kd, .string (strOf nm), .string (strOf tx), .slice A as_.length ca, .slice A2 ks.length c2] 25)
  have hb1 := heap_alloc_new w (.cells #[.int .i64 kd, .string (strOf nm), .string (strOf tx), .slice A as_.length ca, .slice A2 ks.length c2] 25)
  obtain ⟨T, hT⟩ : ∃ T, w.heap.size = T := ⟨_, rfl⟩
  obtain ⟨w1, hw1⟩ : ∃ w1, w.alloc (.cells #[.int .i64 kd, .string (strOf nm), .string (strOf tx), .slice A as_.length ca, .slice A2 ks.length c2] 25) = w1 := ⟨_, rfl⟩
  rw [hw1] at hba hb1
  rw [hT] at hb1
  have hbb := below_alloc w1 (.cells #[.int .i64 kd', .string (strOf nm'), .string (strOf tx'), .slice B as'.length cb, .slice B2 ks'.length d2] 25)
  have hb2 := heap_alloc_new w1 (.cells #[.int .i64 kd', .string (strOf nm'), .string (strOf tx'), .slice B as'.length cb, .slice B2 ks'.length d2] 25)
  obtain ⟨U, hU'⟩ : ∃ U, w1.heap.size = U := ⟨_, rfl⟩
  obtain ⟨w2, hw2⟩ : ∃ w2, w1.alloc (.cells #[.int .i64 kd', .string (strOf nm'), .string (strOf tx'), .slice B as'.length cb, .slice B2 ks'.length d2] 25) = w2 := ⟨_, rfl⟩
  rw [hw2] at hbb hb2
  rw [hU'] at hb2
  have hb02 := hba.trans (hbb.mono hba.size)
  have hT2 := (hbb.block T (Array.getElem?_eq_some_iff.1 hb1).1).trans hb1
  have haw := Lib.hid (awake10 w2 (hU.below hb02) (En_up (En.on hE hb02) hb02.size (Nat.le_refl _)))
  have hsa := Lib.hid (fun (x : World) (hx : Below w.heap.size w x) => rSmall_any _ x _ ND 5000 (NdI.later hna (fun k hk => hk) hx) (fun j hj => Nat.lt_of_lt_of_le hj hx.size))
  have hsb := Lib.hid (fun (x : World) (hx : Below w.heap.size w x) => rSmall_any _ x _ NE 5000 (NdI.later hnb (fun k hk => hk) hx) (fun j hj => Nat.lt_of_lt_of_le hj hx.size))
  have hpd := Lib.hid (fun (x : World) (hx : Below w.heap.size w x) => pdepthI_any _ _ x _ ND (Nat.le_refl _) (NdI.later hna (fun k hk => hk) hx) (fun j hj => Nat.lt_of_lt_of_le hj hx.size))
  have hrd := Lib.hid (fun (x : World) (hx : Below w.heap.size w x) => rdepthI_any _ _ x _ ND (Nat.le_refl _) (NdI.later hna (fun k hk => hk) hx) (fun j hj => Nat.lt_of_lt_of_le hj hx.size))
  have hpc := Lib.hid (fun (x : World) (hx : Below w.heap.size w x) => pcountI_any _ _ x _ ND (Nat.le_refl _) (NdI.later hna (fun k hk => hk) hx) (fun j hj => Nat.lt_of_lt_of_le hj hx.size) bna)
  have hrc := Lib.hid (fun (x : World) (hx : Below w.heap.size w x) => rcountI_any _ _ x _ ND (Nat.le_refl _) (NdI.later hna (fun k hk => hk) hx) (fun j hj => Nat.lt_of_lt_of_le hj hx.size) bna)
  have hps := Lib.hid (fun (x : World) (hx : Below w.heap.size w x) => psame_any _ _ _ x _ _ ND NE (Nat.le_refl _) (NdI.later hna (fun k hk => hk) hx) (NdI.later hnb (fun k hk => hk) hx) (fun j hj => Nat.lt_of_lt_of_le hj hx.size) (fun j hj => Nat.lt_of_lt_of_le hj hx.size))
  have hrs := Lib.hid (fun (x : World) (hx : Below w.heap.size w x) => rsame_any _ _ _ x _ _ ND NE (Nat.le_refl _) (NdI.later hna (fun k hk => hk) hx) (NdI.later hnb (fun k hk => hk) hx) (fun j hj => Nat.lt_of_lt_of_le hj hx.size) (fun j hj => Nat.lt_of_lt_of_le hj hx.size))
  have hpa := Lib.hid (fun (x : World) (hx : Below w.heap.size w x) => psame_any _ _ _ x _ _ ND ND (Nat.le_refl _) (NdI.later hna (fun k hk => hk) hx) (NdI.later hna (fun k hk => hk) hx) (fun j hj => Nat.lt_of_lt_of_le hj hx.size) (fun j hj => Nat.lt_of_lt_of_le hj hx.size))
  have hTH := Lib.hid hT2
  have hUH := Lib.hid hb2
  have hb02H := Lib.hid hb02
  clear hba hbb hb1 hb2 hT2 hU hE hna hnb bna hb02 hND hNE
  obtain ⟨la, hla⟩ : ∃ la, as_.length = la := ⟨_, rfl⟩
  obtain ⟨lb, hlb⟩ : ∃ lb, as'.length = lb := ⟨_, rfl⟩
  obtain ⟨ma, hma⟩ : ∃ ma, ks.length = ma := ⟨_, rfl⟩
  obtain ⟨mb, hmb⟩ : ∃ mb, ks'.length = mb := ⟨_, rfl⟩
  simp only [hla, hlb, hma, hmb] at *
  clear hla hlb hma hmb
  obtain ⟨dA, hdA⟩ : ∃ d, depthI ND = d := ⟨_, rfl⟩
  obtain ⟨cA, hcA⟩ : ∃ d, countI ND = d := ⟨_, rfl⟩
  rw [hdA] at hpd hrd
  rw [hcA] at hpc hrc
  clear hdA hcA
  have jd : (dA == dA) = true := by simp
  have jc : (cA == cA) = true := by simp
  go_enter Tryz.func7, Tryz.ntmps7
  go_wp2_with fail
  refine haw.out.mono ?_
  rintro e9 w3 ⟨rfl, hb3⟩
  have hx3 := Lib.hid (hb02H.out.trans (hb3.mono hb02H.out.size))
  have hT3 := (hb3.block T (Array.getElem?_eq_some_iff.1 hTH.out).1).trans hTH.out
  have hU3 := (hb3.block U (Array.getElem?_eq_some_iff.1 hUH.out).1).trans hUH.out
  have y0 := cell_blk hT3 (i := 0) rfl
  have y1 := cell_blk hT3 (i := 1) rfl
  have y2 := cell_blk hT3 (i := 2) rfl
  have y3 := cell_blk hT3 (i := 3) rfl
  have y4 := cell_blk hT3 (i := 4) rfl
  have z0 := cell_blk hU3 (i := 0) rfl
  have z1 := cell_blk hU3 (i := 1) rfl
  have z2 := cell_blk hU3 (i := 2) rfl
  have z3 := cell_blk hU3 (i := 3) rfl
  have z4 := cell_blk hU3 (i := 4) rfl
  have hT3H := Lib.hid hT3
  have hU3H := Lib.hid hU3
  have hc3 := Lib.hid (hsa.out w3 hx3.out)
  clear hT3 hU3 haw hb3
  go_wp2_with fail
  refine hc3.out.mono ?_
  rintro e9 w4 ⟨⟨s1, rfl, -⟩, hb4⟩
  have hx4 := Lib.hid (hx3.out.trans (hb4.mono hx3.out.size))
  have hT4 := (hb4.block T (Array.getElem?_eq_some_iff.1 hT3H.out).1).trans hT3H.out
  have hU4 := (hb4.block U (Array.getElem?_eq_some_iff.1 hU3H.out).1).trans hU3H.out
  clear y0 z0 y1 z1 y2 z2 y3 z3 y4 z4
  have y0 := cell_blk hT4 (i := 0) rfl
  have y1 := cell_blk hT4 (i := 1) rfl
  have y2 := cell_blk hT4 (i := 2) rfl
  have y3 := cell_blk hT4 (i := 3) rfl
  have y4 := cell_blk hT4 (i := 4) rfl
  have z0 := cell_blk hU4 (i := 0) rfl
  have z1 := cell_blk hU4 (i := 1) rfl
  have z2 := cell_blk hU4 (i := 2) rfl
  have z3 := cell_blk hU4 (i := 3) rfl
  have z4 := cell_blk hU4 (i := 4) rfl
  have hT4H := Lib.hid hT4
  have hU4H := Lib.hid hU4
  have hc4 := Lib.hid (hsb.out w4 hx4.out)
  clear hT4 hU4 hc3 hb4
  by_cases hs1 : s1 ≤ 5000
  case' neg =>
    have i1 : decide (s1 ≤ 5000) = false := by simpa using hs1
    go_wp2_with fail
    go_ret
    exact ⟨rfl, hx4.out⟩
  have i1 : decide (s1 ≤ 5000) = true := by simpa using hs1
  go_wp2_with fail
  refine hc4.out.mono ?_
  rintro e9 w5 ⟨⟨s2, rfl, -⟩, hb5⟩
  have hx5 := Lib.hid (hx4.out.trans (hb5.mono hx4.out.size))
  have hT5 := (hb5.block T (Array.getElem?_eq_some_iff.1 hT4H.out).1).trans hT4H.out
  have hU5 := (hb5.block U (Array.getElem?_eq_some_iff.1 hU4H.out).1).trans hU4H.out
  clear y0 z0 y1 z1 y2 z2 y3 z3 y4 z4 hc4 hb5
  have y0 := cell_blk hT5 (i := 0) rfl
  have y1 := cell_blk hT5 (i := 1) rfl
  have y2 := cell_blk hT5 (i := 2) rfl
  have y3 := cell_blk hT5 (i := 3) rfl
  have y4 := cell_blk hT5 (i := 4) rfl
  have z0 := cell_blk hU5 (i := 0) rfl
  have z1 := cell_blk hU5 (i := 1) rfl
  have z2 := cell_blk hU5 (i := 2) rfl
  have z3 := cell_blk hU5 (i := 3) rfl
  have z4 := cell_blk hU5 (i := 4) rfl
  by_cases hs2 : s2 ≤ 5000
  case' neg =>
    have i2 : decide (s2 ≤ 5000) = false := by simpa using hs2
    go_wp2_with fail
    go_ret
    exact ⟨rfl, hx5.out⟩
  have i2 : decide (s2 ≤ 5000) = true := by simpa using hs2
  clear hT5 hU5 hs1 hs2
  have hdr : Below w5.heap.size w5 w5.drew := Joins.below_draws w5.heap.size w5 1
  go_upto_region 5 with fail
  refine Pl.wp_region_plan 24 (.take 0 (.take 2 (.run 1 (.run 3 (.take 4 (.take 5 (.take 6 (.take 8 (.run 7 (.run 9 (.take 10 (.take 11 (.take 12 (.take 13 (.take 14 (.take 16 (.take 17 (.run 15 (.run 18 (.take 19 (.take 20 (.take 21 (.take 22 (.take 23 .done)))))))))))))))))))))))) (fun x => Below w5.heap.size w5 x) (by kernel_rfl) (by kernel_rfl) (by exact hdr) ?_
  simp only [Pl.fill, List.getElem?_cons_zero, List.getElem?_cons_succ, List.drop_succ_cons, List.drop_zero]
  iterate 2
    refine Pl.take_go ?_ (by rfl) (fun _ _ _ h => h) ?_ ?_
    rotate_left
    · (intro x hSw; have a0 := cell_keep y0 (hSw); have a1 := cell_keep y1 (hSw); have a2 := cell_keep y2 (hSw); have a3 := cell_keep y3 (hSw); have a4 := cell_keep y4 (hSw); have b0 := cell_keep z0 (hSw); have b1 := cell_keep z1 (hSw); have b2 := cell_keep z2 (hSw); have b3 := cell_keep z3 (hSw); have b4 := cell_keep z4 (hSw); go_simp; try with_reducible rfl)
    (try simp only [Act.put, List.setIfInBounds_toArray, List.set_cons_zero, List.set_cons_succ])
  refine Pl.run_go (fun K hK => ?_)
  go_simp
  refine (hpd.out w5.drew (hx5.out.trans (hdr.mono hx5.out.size))).mono ?_
  rintro e wa ⟨rfl, hbwa⟩
  have hqwa : Hid (Below w5.heap.size w5 wa) := Lib.hid (hdr.trans (hbwa.mono (hdr).size))
  dsimp only
  refine hK.out _ _ (Pl.more_go (fun x => Below wa.heap.size wa x) (fun x hx => hqwa.out.trans (hx.mono hqwa.out.size)) (Below.refl _ _) ?_)
  clear hK K
  try simp only [Act.put, List.setIfInBounds_toArray, List.set_cons_zero, List.set_cons_succ]
  refine Pl.run_go (fun K hK => ?_)
  go_simp
  refine (hrd.out wa (hx5.out.trans (hqwa.out.mono hx5.out.size))).mono ?_
  rintro e wb ⟨rfl, hbwb⟩
  have hqwb : Hid (Below w5.heap.size w5 wb) := Lib.hid (hqwa.out.trans (hbwb.mono (hqwa.out).size))
  dsimp only
  refine hK.out _ _ (Pl.more_go (fun x => Below wb.heap.size wb x) (fun x hx => hbwb.trans (hx.mono hbwb.size)) (Below.refl _ _) ?_)
  clear hK K
  try simp only [Act.put, List.setIfInBounds_toArray, List.set_cons_zero, List.set_cons_succ]
  iterate 4
    refine Pl.take_go ?_ (by rfl) (fun _ _ _ h => h) ?_ ?_
    rotate_left
    · (intro x hSw; have a0 := cell_keep y0 (hqwb.out.trans (hSw.mono hqwb.out.size)); have a1 := cell_keep y1 (hqwb.out.trans (hSw.mono hqwb.out.size)); have a2 := cell_keep y2 (hqwb.out.trans (hSw.mono hqwb.out.size)); have a3 := cell_keep y3 (hqwb.out.trans (hSw.mono hqwb.out.size)); have a4 := cell_keep y4 (hqwb.out.trans (hSw.mono hqwb.out.size)); have b0 := cell_keep z0 (hqwb.out.trans (hSw.mono hqwb.out.size)); have b1 := cell_keep z1 (hqwb.out.trans (hSw.mono hqwb.out.size)); have b2 := cell_keep z2 (hqwb.out.trans (hSw.mono hqwb.out.size)); have b3 := cell_keep z3 (hqwb.out.trans (hSw.mono hqwb.out.size)); have b4 := cell_keep z4 (hqwb.out.trans (hSw.mono hqwb.out.size)); go_simp; try with_reducible rfl)
    (try simp only [Act.put, List.setIfInBounds_toArray, List.set_cons_zero, List.set_cons_succ])
  refine Pl.run_go (fun K hK => ?_)
  go_simp
  refine (hpc.out wb (hx5.out.trans (hqwb.out.mono hx5.out.size))).mono ?_
  rintro e wc ⟨rfl, hbwc⟩
  have hqwc : Hid (Below w5.heap.size w5 wc) := Lib.hid (hqwb.out.trans (hbwc.mono (hqwb.out).size))
  dsimp only
  refine hK.out _ _ (Pl.more_go (fun x => Below wc.heap.size wc x) (fun x hx => hbwc.trans (hx.mono hbwc.size)) (Below.refl _ _) ?_)
  clear hK K
  try simp only [Act.put, List.setIfInBounds_toArray, List.set_cons_zero, List.set_cons_succ]
  refine Pl.run_go (fun K hK => ?_)
  go_simp
  refine (hrc.out wc (hx5.out.trans (hqwc.out.mono hx5.out.size))).mono ?_
  rintro e wd ⟨rfl, hbwd⟩
  have hqwd : Hid (Below w5.heap.size w5 wd) := Lib.hid (hqwc.out.trans (hbwd.mono (hqwc.out).size))
  dsimp only
  refine hK.out _ _ (Pl.more_go (fun x => Below wd.heap.size wd x) (fun x hx => hbwd.trans (hx.mono hbwd.size)) (Below.refl _ _) ?_)
  clear hK K
  try simp only [Act.put, List.setIfInBounds_toArray, List.set_cons_zero, List.set_cons_succ]
  iterate 7
    refine Pl.take_go ?_ (by rfl) (fun _ _ _ h => h) ?_ ?_
    rotate_left
    · (intro x hSw; have a0 := cell_keep y0 (hqwd.out.trans (hSw.mono hqwd.out.size)); have a1 := cell_keep y1 (hqwd.out.trans (hSw.mono hqwd.out.size)); have a2 := cell_keep y2 (hqwd.out.trans (hSw.mono hqwd.out.size)); have a3 := cell_keep y3 (hqwd.out.trans (hSw.mono hqwd.out.size)); have a4 := cell_keep y4 (hqwd.out.trans (hSw.mono hqwd.out.size)); have b0 := cell_keep z0 (hqwd.out.trans (hSw.mono hqwd.out.size)); have b1 := cell_keep z1 (hqwd.out.trans (hSw.mono hqwd.out.size)); have b2 := cell_keep z2 (hqwd.out.trans (hSw.mono hqwd.out.size)); have b3 := cell_keep z3 (hqwd.out.trans (hSw.mono hqwd.out.size)); have b4 := cell_keep z4 (hqwd.out.trans (hSw.mono hqwd.out.size)); go_simp; try with_reducible rfl)
    (try simp only [Act.put, List.setIfInBounds_toArray, List.set_cons_zero, List.set_cons_succ])
  refine Pl.run_go (fun K hK => ?_)
  go_simp
  refine (hps.out wd (hx5.out.trans (hqwd.out.mono hx5.out.size))).mono ?_
  rintro e we ⟨⟨S1, rfl, hS1⟩, hbwe⟩
  have hqwe : Hid (Below w5.heap.size w5 we) := Lib.hid (hqwd.out.trans (hbwe.mono (hqwd.out).size))
  dsimp only
  refine hK.out _ _ (Pl.more_go (fun x => Below we.heap.size we x) (fun x hx => hbwe.trans (hx.mono hbwe.size)) (Below.refl _ _) ?_)
  clear hK K
  try simp only [Act.put, List.setIfInBounds_toArray, List.set_cons_zero, List.set_cons_succ]
  refine Pl.run_go (fun K hK => ?_)
  go_simp
  refine (hrs.out we (hx5.out.trans (hqwe.out.mono hx5.out.size))).mono ?_
  rintro e wf ⟨⟨S2, rfl, hS2⟩, hbwf⟩
  have hqwf : Hid (Below w5.heap.size w5 wf) := Lib.hid (hqwe.out.trans (hbwf.mono (hqwe.out).size))
  have hSS : S2 = S1 := by
    cases S1 <;> cases S2 <;> simp_all
  subst hSS
  dsimp only
  refine hK.out _ _ (Pl.more_go (fun x => Below wf.heap.size wf x) (fun x hx => hbwf.trans (hx.mono hbwf.size)) (Below.refl _ _) ?_)
  clear hK K
  try simp only [Act.put, List.setIfInBounds_toArray, List.set_cons_zero, List.set_cons_succ]
  have jS : (S2 == S2) = true := by simp
  iterate 5
    refine Pl.take_go ?_ (by rfl) (fun _ _ _ h => h) ?_ ?_
    rotate_left
    · (intro x hSw; have a0 := cell_keep y0 (hqwf.out.trans (hSw.mono hqwf.out.size)); have a1 := cell_keep y1 (hqwf.out.trans (hSw.mono hqwf.out.size)); have a2 := cell_keep y2 (hqwf.out.trans (hSw.mono hqwf.out.size)); have a3 := cell_keep y3 (hqwf.out.trans (hSw.mono hqwf.out.size)); have a4 := cell_keep y4 (hqwf.out.trans (hSw.mono hqwf.out.size)); have b0 := cell_keep z0 (hqwf.out.trans (hSw.mono hqwf.out.size)); have b1 := cell_keep z1 (hqwf.out.trans (hSw.mono hqwf.out.size)); have b2 := cell_keep z2 (hqwf.out.trans (hSw.mono hqwf.out.size)); have b3 := cell_keep z3 (hqwf.out.trans (hSw.mono hqwf.out.size)); have b4 := cell_keep z4 (hqwf.out.trans (hSw.mono hqwf.out.size)); go_simp; try with_reducible rfl)
    (try simp only [Act.put, List.setIfInBounds_toArray, List.set_cons_zero, List.set_cons_succ])
  refine Pl.done_go ?_
  have hca := Lib.hid (hpa.out wf (hx5.out.trans (hqwf.out.mono hx5.out.size)))
  clear hpd hrd hpc hrc hps hrs hpa y0 z0 y1 z1 y2 z2 y3 z3 y4 z4
  go_wp2_with fail
  refine hca.out.mono ?_
  rintro e wg ⟨⟨S3, rfl, hS3⟩, hbwg⟩
  have hfin := Lib.hid (hx5.out.trans ((hqwf.out.trans (hbwg.mono hqwf.out.size)).mono hx5.out.size))
  have hS3t : S3 = true := by simpa using hS3
  subst hS3t
  clear hS3 hbwg
  go_wp2_with fail
  go_ret
  exact ⟨rfl, hfin.out⟩
end
end Go.Proofs.YtokdnhdfmgfkeaaGreatDoor.Xt
end
