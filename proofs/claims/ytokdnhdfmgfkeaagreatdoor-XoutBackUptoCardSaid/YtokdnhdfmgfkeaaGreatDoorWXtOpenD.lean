/- A document that came in. -/
import Derived.Test.YtokdnhdfmgfkeaaGreatDoorWUtfEnc2
import Derived.Test.YtokdnhdfmgfkeaaGreatDoorWRowS
import Derived.Test.YtokdnhdfmgfkeaaGreatDoorWStrs
import Derived.Test.YtokdnhdfmgfkeaaGreatDoorRows
import Derived.Lib.SmallJoins
import Derived.OpenShut
import Derived.Test.YtokdnhdfmgfkeaaGreatDoorWUtfMath
import Derived.Test.YtokdnhdfmgfkeaaGreatDoorWXoSize
import Derived.Test.YtokdnhdfmgfkeaaGreatDoorWXoBack
import Derived.Test.YtokdnhdfmgfkeaaGreatDoorWXpRc
set_option linter.unusedVariables false
set_option linter.unusedSimpArgs false
section
namespace Go.Proofs.YtokdnhdfmgfkeaaGreatDoor.Xt
open Go.RowKit UtfW Xl
open Go.Deep (oneCellFields)
section
variable {H : Type} {enc : TypeId × Value -> H} {P : Program} {w : World}
theorem open_rows {t e : TypeId} {fs : Array Field} {fuel : Nat} {cs : List Value} {x : DataW H × List MemPlace} (ht : P.underlying t = some (.slice e)) (he : P.underlying e = some (.struct fs))
  (hone : oneCellFields P fs = true) (hC : P.cellsOf e = fs.size) (h : DataW.trod enc P w 0 (fun _ => true) true fuel t cs = some x) :
  (cs = [.slice none 0 0] /\ x = (.nil, [])) ∨
  ∃ (a : Addr) (len cap : Nat) (elems rest : List (DataW H × List MemPlace)), cs = [.slice (some a) len cap] /\ len <= cap /\ cap <= maxLen ∧
   x.1 = .slice (elems.map (·.1)) (rest.map (·.1)) /\ elems.length = len /\ rest.length = cap - len ∧
   ∀ i, i < len -> ∃ (ys : List (DataW H × List MemPlace)) (y : DataW H × List MemPlace) (n : Nat), n < fuel /\ elems[i]? = some y /\ y.1 = .agg (ys.map (·.1)) /\ ys.length = fs.size ∧
    ∀ (j : Nat) (f : Field), fs[j]? = some f -> ∃ (v : Value) (y : DataW H × List MemPlace), w.cell? (a.add (i * fs.size + j)) = some v /\ ys[j]? = some y /\ DataW.trod enc P w 0 (fun _ => true) true n f.type [v] = some y := by
 rcases DataW.trod_slice ht h with h0 | ⟨a, len, cap, elems, rest, n, hfu, rfl, rfl, hb, hl, hm, hlen, hel, hsp, hns⟩
 ·exact .inl h0
 ·refine .inr ⟨a, len, cap, elems, rest, rfl, hl, hm, rfl, hlen, (hsp rfl).1, fun i hi => ?_⟩;have hy : elems[i]? = some (elems[i]'(by omega)) := List.getElem?_eq_getElem (by omega);have h1 := hel i hi;rw [hy, Option.bind_eq_some_iff] at h1;obtain ⟨cs', hc, ht'⟩ := h1;rw [hC] at hc;obtain ⟨ys, n', hn', hy', hlen', hyl, hf⟩ := DataW.trod_struct he ht';obtain ⟨_, hcl, hat⟩ := World.cells?_some hc;refine ⟨ys, _, n', by omega, hy, by rw [hy'], hyl, fun j f hj => ?_⟩;obtain ⟨ho, hk⟩ := Deep.hone_of hone j f hj;have hjl : j < fs.size := (Array.getElem?_eq_some_iff.1 hj).1;have hcell := hat j hjl;have hv : cs'[j]? = some (cs'[j]'(by omega)) := List.getElem?_eq_getElem (by omega);have h1 := hf j f hj;rw [ho, hk] at h1
  have hone' : (cs'.drop j).take 1 = [cs'[j]'(by omega)] := by
   rw [List.drop_eq_getElem_cons (by omega)];rfl
  rw [hone'] at h1;have hys : ys[j]? = some (ys[j]'(by omega)) := List.getElem?_eq_getElem (by omega);refine ⟨_, _, ?_, hys, h1.trans hys⟩;rw [<- Go.Deep.add_add, hcell, hv]
def FieldsD {H : Type} (enc : TypeId × Value -> H) (P : Program) (w : World) (fs : Array Field) (m : Nat) (vs : List Value) (ds : List (DataW H)) : Prop :=
 vs.length = fs.size /\ ds.length = fs.size /\ ∀ (j : Nat) (f : Field), fs[j]? = some f -> ∃ (v : Value) (y : DataW H × List MemPlace), vs[j]? = some v /\ ds[j]? = some y.1 /\ DataW.trod enc P w 0 (fun _ => true) true m f.type [v] = some y /\ Sized P f.type y.1
theorem sq_of_rows {α : Type} {El : World -> List Value -> α -> Prop} {R : α -> DataW H -> Prop} {t e : TypeId} {fs : Array Field} {fuel : Nat} {v : Value} {d : DataW H} {p : List MemPlace} (ht : P.underlying t = some (.slice e)) (he : P.underlying e = some (.struct fs)) (hone : oneCellFields P fs = true) (hC : P.cellsOf e = fs.size) (hpos : 0 < fs.size)
  (h : DataW.trod enc P w 0 (fun _ => true) true fuel t [v] = some (d, p)) (hz : Sized P t d)
  (each : ∀ m vs ds, m < fuel -> FieldsD enc P w fs m vs ds -> ∃ x, El w vs x /\ R x (.agg ds)) :
  ∃ A n c, ∃ l : List α, ∃ es sp : List (DataW H), v = .slice A n c /\ Sq El fs.size w A n c l /\ (n = 0 \/ n * P.bytesOf e <= 140737488351232) /\ (d = .slice es sp \/ (d = .nil /\ es = [])) /\ es.length = n /\ ∀ (i : Nat) x, l[i]? = some x -> ∃ y, es[i]? = some y /\ R x y := by
 rcases open_rows ht he hone hC h with ⟨hcs, hx⟩ | ⟨a, len, cap, elems, rest, hcs, hl, hm, hx, hlen, hrl, hall⟩
 ·injection hcs with hcs _;injection hx with hx _;exact ⟨_, _, _, [], [], [], hcs, Sq.none_ w, .inl rfl, .inr ⟨hx, rfl⟩, rfl, fun i x hi => by simp at hi⟩
 ·injection hcs with hcs _;simp only at hx;subst hx;have hrow := hz.row ht;simp only [List.length_map, hlen, hrl] at hrow
  have hel : ∀ i, i < len -> ∃ q : α × List Value × DataW H, q.2.1.length = fs.size /\ El w q.2.1 q.1 /\ (∀ j u, q.2.1[j]? = some u -> w.cell? (a.add (i * fs.size + j)) = some u) /\ (elems.map (·.1))[i]? = some q.2.2 /\ R q.1 q.2.2 := fun i hi => by
   obtain ⟨ys, y, m, hmf, hey, hya, hyl, hf⟩ := hall i hi;have hzi : Sized P e y.1 := hz.elem ht (List.mem_map.2 ⟨y, List.mem_of_getElem? hey, rfl⟩);rw [hya] at hzi
   have hV : ∀ j, j < fs.size -> ∃ u : Value, w.cell? (a.add (i * fs.size + j)) = some u /\ ∀ f, fs[j]? = some f -> ∃ y : DataW H × List MemPlace, (ys.map (·.1))[j]? = some y.1 /\ DataW.trod enc P w 0 (fun _ => true) true m f.type [u] = some y /\ Sized P f.type y.1 := fun j hj => by
    obtain ⟨u, y, h1, h2, h3⟩ := hf j fs[j] (by simp [hj]);refine ⟨u, h1, fun f hfj => ?_⟩;have : fs[j] = f := (by simpa [hj] using hfj);subst this;exact ⟨y, by rw [List.getElem?_map, h2]; rfl, h3, hzi.field he hfj (d := y.1) (by rw [List.getElem?_map, h2]; rfl)⟩
   obtain ⟨V, hV⟩ := Deep.choose_lt hV
   obtain ⟨x, hx, hR⟩ := each m ((List.range fs.size).map V) (ys.map (·.1)) hmf ⟨by simp, by simpa using hyl, fun j f hfj => by
    have hj : j < fs.size := (Array.getElem?_eq_some_iff.1 hfj).1;obtain ⟨y, h0, h1, h2⟩ := (hV j hj).2 f hfj
    exact ⟨V j, y, by simp [hj], h0, h1, h2⟩⟩
   refine ⟨(x, (List.range fs.size).map V, y.1), by simp, hx, fun j u hu => ?_, by rw [List.getElem?_map, hey]; rfl, by rw [hya]; exact hR⟩;rw [List.getElem?_map, Option.map_eq_some_iff] at hu;obtain ⟨j', hj', rfl⟩ := hu;obtain ⟨hjl, rfl⟩ := range_get hj';exact (hV j' hjl).1
  rcases Nat.eq_zero_or_pos len with h0 | hlpos
  ·subst h0;exact ⟨some a, 0, cap, [], [], _, hcs, { len := rfl, le := hl, max := by unfold maxLen at hm; omega, nil := fun h => (by simp at h), cell := fun hn => absurd hn (by omega) }, .inl rfl, .inl (by rw [List.eq_nil_of_length_eq_zero hlen]; rfl), rfl, fun i x hi => by simp at hi⟩
  haveI : Inhabited (α × List Value × DataW H) := ⟨(hel 0 hlpos).choose⟩
  obtain ⟨L, hL⟩ := Deep.choose_lt hel;refine ⟨some a, len, cap, (List.range len).map fun i => (L i).1, _, _, hcs, { len := by simp, le := hl, max := by unfold maxLen at hm; omega, nil := fun h => (by simp at h), cell := fun hn => ?_ }, .inr ?_, .inl rfl, by simpa using hlen, fun i x hi => ?_⟩
  ·have h00 : ∃ u, w.cell? (a.add 0) = some u := by
    obtain ⟨h1, _, h3, _⟩ := hL 0 (by omega);have hu : (L 0).2.1[0]? = some ((L 0).2.1[0]'(by omega)) := List.getElem?_eq_getElem (by omega);exact ⟨_, by simpa using h3 0 _ hu⟩
   obtain ⟨u0, hu0⟩ := h00
   have hspot : a.spot = none := by
    obtain ⟨b, off, spot⟩ := a
    simpa [Addr.add] using World.cell?_spot hu0
   have hae : a = ⟨a.block, a.off, none⟩ := by
    obtain ⟨b, off, spot⟩ := a;simp only at hspot;subst hspot;rfl
   refine ⟨a.block, a.off, by rw [<- hae], World.block_lt_of_cell? w ⟨a.block, a.off + 0, none⟩ (cell_add hu0 hspot), fun i x hi => ?_⟩;rw [List.getElem?_map, Option.map_eq_some_iff] at hi;obtain ⟨i', hi', rfl⟩ := hi;obtain ⟨hil, rfl⟩ := range_get hi';obtain ⟨h1, h2, h3, _⟩ := hL i' hil;refine ⟨(L i').2.1, h1, h2, fun j v hj => ?_⟩;rw [Nat.add_assoc];exact cell_add (h3 j v hj) hspot
  ·exact Nat.le_trans (Nat.mul_le_mul_right _ (by omega)) hrow
  ·rw [List.getElem?_map, Option.map_eq_some_iff] at hi;obtain ⟨i', hi', rfl⟩ := hi;obtain ⟨hil, rfl⟩ := range_get hi';obtain ⟨_, _, _, h4, h5⟩ := hL i' hil;exact ⟨_, h4, h5⟩
end
end Go.Proofs.YtokdnhdfmgfkeaaGreatDoor.Xt
end

section
namespace Go.Proofs.YtokdnhdfmgfkeaaGreatDoor.Xt
open Go.RowKit UtfW Xl
open Go.Deep (oneCellFields)
/-! ### How much a tree holds -/
def wA : List At -> Nat
 | [] => 0
 | a :: r => 1 + a.1.length + a.2.length + wA r
mutual
def wN : Nd -> Nat
 | .mk _ nm tx as_ ks => 1 + nm.length + tx.length + wA as_ + wL ks
def wL : List Nd -> Nat
 | [] => 0
 | x :: xs => wN x + wL xs
end
def bA (as_ : List At) : Prop := as_.length <= 140737488351232 /\ ∀ a ∈ as_, a.1.length <= 140737488351232 /\ a.2.length <= 140737488351232
mutual
def bN : Nd -> Prop
 | .mk _ nm tx as_ ks => nm.length <= 140737488351232 /\ tx.length <= 140737488351232 /\ bA as_ /\ bL ks
def bL : List Nd -> Prop
 | [] => True
 | x :: xs => bN x /\ bL xs
end
theorem bL_of : ∀ {l : List Nd}, (∀ (i : Nat) x, l[i]? = some x -> bN x) -> bL l
 | [], _ => by rw [bL]; trivial
 | y :: l, h => by
  rw [bL];exact ⟨h 0 y rfl, bL_of fun i x hi => h (i + 1) x hi⟩
section
variable {H : Type}
theorem wL_bulk : ∀ {l : List Nd} {es : List (DataW H)}, es.length = l.length -> (∀ (i : Nat) x, l[i]? = some x -> ∃ y, es[i]? = some y /\ wN x <= Rows.uptoBulk y) -> wL l <= Rows.uptoBulkAll es
 | [], es, _, _ => by rw [wL]; exact Nat.zero_le _
 | x :: l, [], h, _ => by simp at h
 | x :: l, y :: es, h, hi => by
  obtain ⟨y', h1, h2⟩ := hi 0 x rfl;injection h1 with h1;subst h1;have := wL_bulk (l := l) (es := es) (by simpa using h) fun i z hz => hi (i + 1) z hz
  rw [wL, Rows.uptoBulkAll];omega
theorem wA_bulk : ∀ {l : List At} {es : List (DataW H)}, es.length = l.length -> (∀ (i : Nat) x, l[i]? = some x -> ∃ y, es[i]? = some y /\ 1 + x.1.length + x.2.length <= Rows.uptoBulk y) -> wA l <= Rows.uptoBulkAll es
 | [], es, _, _ => by rw [wA]; exact Nat.zero_le _
 | x :: l, [], h, _ => by simp at h
 | x :: l, y :: es, h, hi => by
  obtain ⟨y', h1, h2⟩ := hi 0 x rfl;injection h1 with h1;subst h1;have := wA_bulk (l := l) (es := es) (by simpa using h) fun i z hz => hi (i + 1) z hz
  rw [wA, Rows.uptoBulkAll];omega
end
theorem list5 {α : Type} {vs : List α} (h : vs.length = 5) {a b c d e : α} (h0 : vs[0]? = some a) (h1 : vs[1]? = some b) (h2 : vs[2]? = some c) (h3 : vs[3]? = some d) (h4 : vs[4]? = some e) : vs = [a, b, c, d, e] := by
 match vs, h with
 | [x0, x1, x2, x3, x4], _ => simp at h0 h1 h2 h3 h4; rw [h0, h1, h2, h3, h4]
theorem list2 {α : Type} {vs : List α} (h : vs.length = 2) {a b : α} (h0 : vs[0]? = some a) (h1 : vs[1]? = some b) : vs = [a, b] := by
 match vs, h with
 | [x0, x1], _ => simp at h0 h1; rw [h0, h1]
theorem sq_blk {α : Type} {El : World -> List Value -> α -> Prop} {k : Nat} {w : World} {A : Option Addr} {n c : Nat} {l : List α} (h : Sq El k w A n c l) : ∀ a, A = some a -> 0 < n -> a.block < w.heap.size := fun a e hn => by
 obtain ⟨b, off, e2, hlt, _⟩ := h.cell hn;rw [e] at e2;injection e2 with e2;rw [e2];exact hlt
section
variable {H : Type} {enc : TypeId × Value -> H} {w : World}
set_option maxRecDepth 100000 in
theorem attr_each (m : Nat) (vs : List Value) (ds : List (DataW H)) {fs : Array Field} (hs : Tryz.prog.underlying 55 = some (.struct fs)) (h : FieldsD enc Tryz.prog w fs m vs ds) :
  ∃ a : At, AtEl w vs a /\ (a.1.length <= 140737488351232 /\ a.2.length <= 140737488351232) /\ 1 + a.1.length + a.2.length <= Rows.uptoBulk (DataW.agg ds) := by
 have e := Tryz.underlying55;rw [hs] at e;injection e with e;injection e with e;subst e;obtain ⟨hl, hd, hf⟩ := h;obtain ⟨v0, y0, e0, d0, t0, z0⟩ := hf 0 _ rfl;obtain ⟨v1, y1, e1, d1, t1, z1⟩ := hf 1 _ rfl;obtain ⟨s0, c0, rfl, _⟩ := DataW.trod_string Tryz.underlying9 t0;obtain ⟨s1, c1, rfl, _⟩ := DataW.trod_string Tryz.underlying9 t1;injection c0 with c0; injection c1 with c1
 subst c0; subst c1
 have g0 := Sized.string z0;have g1 := Sized.string z1;refine ⟨(s0.data.toList, s1.data.toList), list2 hl e0 e1, ⟨by rw [Array.length_toList]; exact g0, by rw [Array.length_toList]; exact g1⟩, ?_⟩;rw [list2 hd d0 d1];simp only [Rows.uptoBulk, Rows.uptoBulkAll];omega
set_option maxRecDepth 100000 in
set_option maxHeartbeats 1000000 in
theorem node_each : ∀ (k m : Nat) (vs : List Value) (ds : List (DataW H)) {fs : Array Field}, m <= k -> Tryz.prog.underlying 25 = some (.struct fs) -> FieldsD enc Tryz.prog w fs m vs ds →
  ∃ n, NdI (fun j => j < w.heap.size) w vs n /\ bN n /\ wN n <= Rows.uptoBulk (DataW.agg ds) := by
 intro k
 induction k using Nat.strongRecOn with
 | _ k ih =>
 intro m vs ds fs hk hs h;have e := Tryz.underlying25;have hs0 := hs;rw [hs] at e;injection e with e;injection e with e;subst e;obtain ⟨hl, hd, hf⟩ := h;obtain ⟨v0, y0, e0, d0, t0, z0⟩ := hf 0 _ rfl;obtain ⟨v1, y1, e1, d1, t1, z1⟩ := hf 1 _ rfl;obtain ⟨v2, y2, e2, d2, t2, z2⟩ := hf 2 _ rfl;obtain ⟨v3, y3, e3, d3, t3, z3⟩ := hf 3 _ rfl;obtain ⟨v4, y4, e4, d4, t4, z4⟩ := hf 4 _ rfl;obtain ⟨n0, c0, rfl, _⟩ := DataW.trod_int Tryz.underlying3 t0;obtain ⟨s1, c1, rfl, _⟩ := DataW.trod_string Tryz.underlying9 t1;obtain ⟨s2, c2, rfl, _⟩ := DataW.trod_string Tryz.underlying9 t2;injection c0 with c0; injection c1 with c1; injection c2 with c2
 subst c0; subst c1; subst c2
 obtain ⟨A3, n3, c3, l3, es3, sp3, rfl, q3, r3, f3, g3, h3⟩ := sq_of_rows (El := AtEl) (R := fun a d => (a.1.length <= 140737488351232 /\ a.2.length <= 140737488351232) /\ 1 + a.1.length + a.2.length <= Rows.uptoBulk d) Tryz.underlying23 Tryz.underlying55 (by kernel_rfl) (by kernel_rfl) (by decide) (d := y3.1) (p := y3.2) t3 z3
  (fun m' vs' ds' _ h => attr_each m' vs' ds' Tryz.underlying55 h)
 obtain ⟨A4, n4, c4, l4, es4, sp4, rfl, q4, r4, f4, g4, h4⟩ := sq_of_rows (El := NdE (fun j => j < w.heap.size)) (R := fun n d => bN n /\ wN n <= Rows.uptoBulk d) Tryz.underlying22 hs0 (by kernel_rfl) (by kernel_rfl) (by decide) (d := y4.1) (p := y4.2) t4 z4
  (fun m' vs' ds' hm h => ih m' (by omega) m' vs' ds' (Nat.le_refl _) hs0 h)
 have hl3 := q3.len;have hl4 := q4.len;subst hl3;subst hl4;have b1 := Sized.string z1;have b2 := Sized.string z2;refine ⟨.mk n0 s1.data.toList s2.data.toList l3 l4, ?_, ?_, ?_⟩
 ·rw [list5 hl e0 e1 e2 e3 e4];exact NdI.make (nm := s1.data.toList) (tx := s2.data.toList) q3 (sq_blk q3) q4 (sq_blk q4)
 ·rw [bN];refine ⟨by rw [Array.length_toList]; exact b1, by rw [Array.length_toList]; exact b2, ⟨?_, fun a ha => ?_⟩, bL_of fun i x hi => ?_⟩
  ·have hb : Tryz.prog.bytesOf 55 = 32 := by kernel_rfl
   rw [hb] at r3;omega
  ·obtain ⟨i, hi⟩ := List.getElem?_of_mem ha;obtain ⟨y, _, h5, _⟩ := h3 i a hi;exact h5
  ·obtain ⟨y, _, h5, _⟩ := h4 i x hi;exact h5
 ·have w3 := wA_bulk (l := l3) (es := es3) g3 fun i x hi => by
   obtain ⟨y, h5, _, h6⟩ := h3 i x hi;exact ⟨y, h5, h6⟩
  have w4 := wL_bulk (l := l4) (es := es4) g4 fun i x hi => by
   obtain ⟨y, h5, _, h6⟩ := h4 i x hi;exact ⟨y, h5, h6⟩
  have u3 : Rows.uptoBulkAll es3 <= Rows.uptoBulk y3.1 := by
   rcases f3 with f3 | ⟨f3, rfl⟩
   ·rw [f3, Rows.uptoBulk]; omega
   ·rw [Rows.uptoBulkAll]; exact Nat.zero_le _
  have u4 : Rows.uptoBulkAll es4 <= Rows.uptoBulk y4.1 := by
   rcases f4 with f4 | ⟨f4, rfl⟩
   ·rw [f4, Rows.uptoBulk]; omega
   ·rw [Rows.uptoBulkAll]; exact Nat.zero_le _
  rw [list5 hd d0 d1 d2 d3 d4];simp only [Rows.uptoBulk, Rows.uptoBulkAll, wN];omega
end
end Go.Proofs.YtokdnhdfmgfkeaaGreatDoor.Xt
end

section
namespace Go.Proofs.YtokdnhdfmgfkeaaGreatDoor.Xt
open Go.RowKit UtfW Xl
end Go.Proofs.YtokdnhdfmgfkeaaGreatDoor.Xt
end

section
namespace Go.Proofs.YtokdnhdfmgfkeaaGreatDoor.Xt
open Go.RowKit UtfW Xl
theorem wL_append : ∀ a b, wL (a ++ b) = wL a + wL b
 | [], b => by simp [wL]
 | x :: a, b => by simp only [List.cons_append, wL, wL_append a b]; omega
theorem wA_append : ∀ a b, wA (a ++ b) = wA a + wA b
 | [], b => by simp [wA]
 | x :: a, b => by simp only [List.cons_append, wA, wA_append a b]; omega
theorem wL_take : ∀ (l : List Nd) (i : Nat), wL (l.take i) <= wL l
 | [], i => by simp
 | x :: l, 0 => by simp [wL]
 | x :: l, i + 1 => by
  have := wL_take l i;rw [List.take_succ_cons, wL, wL];omega
theorem wA_take : ∀ (l : List At) (i : Nat), wA (l.take i) <= wA l
 | [], i => by simp
 | x :: l, 0 => by simp [wA]
 | x :: l, i + 1 => by
  have := wA_take l i;rw [List.take_succ_cons, wA, wA];omega
theorem wL_next {ks : List Nd} {i : Nat} {x : Nd} (h : ks[i]? = some x) : wL (ks.take (i + 1)) = wL (ks.take i) + wN x := by
 rw [take_snoc h, wL_append];simp [wL]
theorem wA_next {l : List At} {i : Nat} {x : At} (h : l[i]? = some x) : wA (l.take (i + 1)) = wA (l.take i) + (1 + x.1.length + x.2.length) := by
 rw [take_snoc h, wA_append];simp [wA]
theorem wrap_in {x : Int} (h0 : -9223372036854775808 <= x) (h1 : x < 9223372036854775808) : wrap64 x = x := by
 unfold wrap64;omega
def SmP (n : Nd) (most c : Int) : Prop := wN n <= 1152921504606846976 -> 0 <= c /\ c <= (wN n : Nat) /\ (c <= most -> c = (wN n : Nat))
set_option maxHeartbeats 8000000 in
set_option maxRecDepth 100000 in
theorem rsmall_any : ∀ (k : Nat) (X : Nat -> Prop) (w : World) (vs : List Value) (n : Nd) (most : Int), SizeOf.sizeOf n <= k -> NdI X w vs n -> (∀ j, X j -> j < w.heap.size) →
  Calls Tryz.prog 67 #[.agg vs.toArray, .int .i64 most] w fun e w' => (∃ c : Int, e = .returned (.int .i64 c) /\ SmP n most c) /\ Below w.heap.size w w' := by
 intro k
 induction k with
 | zero =>
  intro X w vs n most hk;obtain ⟨kd, nm, tx, as_, ks⟩ := n;simp at hk
 | succ k ih =>
  intro X w vs n most hk hn hX;obtain ⟨kd, nm, tx, as_, ks⟩ := n;obtain ⟨A, ca, A2, c2, rfl, hA, hK, -, -⟩ := hn.cells;have hlen : ks.length <= 9223372036854775807 := Nat.le_trans hK.le hK.max;have hlea : as_.length <= 9223372036854775807 := Nat.le_trans hA.le hA.max;obtain ⟨m, hm⟩ : ∃ m, ks.length = m := ⟨_, rfl⟩;obtain ⟨la, hla⟩ : ∃ la, as_.length = la := ⟨_, rfl⟩;obtain ⟨S1, hS1⟩ : ∃ S, strOf nm = S := ⟨_, rfl⟩;obtain ⟨S2, hS2⟩ : ∃ S, strOf tx = S := ⟨_, rfl⟩;have hz1 : S1.size = nm.length := by rw [<- hS1]; exact strOf_size nm
  have hz2 : S2.size = tx.length := by rw [<- hS2]; exact strOf_size tx
  obtain ⟨z1, hzz1⟩ : ∃ z, S1.size = z := ⟨_, rfl⟩;obtain ⟨z2, hzz2⟩ : ∃ z, S2.size = z := ⟨_, rfl⟩;have hW : wN (.mk kd nm tx as_ ks) = 1 + z1 + z2 + wA as_ + wL ks := by rw [wN, <- hzz1, <- hzz2, hz1, hz2]
  rw [hm] at hK hlen;rw [hla] at hA hlea;rw [hm, hla, hS1, hS2];have hba := below_alloc w (.cells #[.int .i64 kd, .string S1, .string S2, .slice A la ca, .slice A2 m c2] 25);have hnb := heap_alloc_new w (.cells #[.int .i64 kd, .string S1, .string S2, .slice A la ca, .slice A2 m c2] 25);have ih := Hd ih;obtain ⟨T, hT⟩ : ∃ T, w.heap.size = T := ⟨_, rfl⟩;obtain ⟨w1, hw1⟩ : ∃ w1, w.alloc (.cells #[.int .i64 kd, .string S1, .string S2, .slice A la ca, .slice A2 m c2] 25) = w1 := ⟨_, rfl⟩;rw [hw1] at hba hnb;rw [hT] at hnb;have x1 : w1.cell? ⟨T, 1, none⟩ = some (.string S1) := cell_blk hnb rfl;have x2 : w1.cell? ⟨T, 2, none⟩ = some (.string S2) := cell_blk hnb rfl;have x3 : w1.cell? ⟨T, 3, none⟩ = some (.slice A la ca) := cell_blk hnb rfl;have x4 : w1.cell? ⟨T, 4, none⟩ = some (.slice A2 m c2) := cell_blk hnb rfl
  have hkid : Hid (∀ i x, ks[i]? = some x -> SizeOf.sizeOf x <= k) := Hd fun i x hx => by
   have := kid_lt (k := kd) (nm := nm) (tx := tx) (as_ := as_) hx;omega
  have hXH := Hd hX;replace hK := Hd hK;replace hA := Hd (hA.below AtEl.to hba);replace hba := Hd hba;replace hm := Hd hm;replace hla := Hd hla
  have h0 : Hid (wN (.mk kd nm tx as_ ks) <= 1152921504606846976 -> wrap64 (wrap64 (1 + (z1 : Int)) + (z2 : Int)) = ((1 + z1 + z2 + wA (as_.take 0) : Nat) : Int)) := Hd fun hB => by
   rw [hW] at hB;rw [wrap_in (x := 1 + (z1 : Int)) (by omega) (by omega), wrap_in (by omega) (by omega)];simp [wA]
  replace hW := Hd hW;clear hnb hX hn hk hz1 hz2 hS1 hS2
  go_enter Tryz.func67, Tryz.ntmps67
  go_wp2_with fail
  go_loopw [5, 6] (fun vc vi wr => ∃ (i : Nat) (c : Int), i <= la /\ vi = .int .i64 (i : Nat) /\ vc = .int .i64 c /\ Hid (wN (.mk kd nm tx as_ ks) <= 1152921504606846976 -> c = ((1 + z1 + z2 + wA (as_.take i) : Nat) : Int)) /\ Hid (Below w1.heap.size w1 wr)) (fun _ vi _ => la - (intOf vi).toNat)
  case atStart => exact ⟨0, _, Nat.zero_le _, rfl, rfl, h0, Hd (Below.refl _ _)⟩
  case round =>
   obtain ⟨i, c, hi, rfl, rfl, hc, hb1⟩ := hrel;have y3 := cell_keep x3 hb1.out;have y4 := cell_keep x4 hb1.out
   by_cases hlt : i < la
   ·have i1 : decide ((i : Int) < (la : Int)) = true := by simp; omega
    have q1 : (i : Int) < (la : Int) := by omega
    by_cases hcm : c <= most
    ·have i2 : decide (c <= most) = true := (by simpa using hcm);obtain ⟨b1, off1, ax, vs1, rfl, _, hx1, _, hv1, hc1⟩ := (hA.out.below AtEl.to hb1.out).at_ hlt;unfold AtEl at hv1;subst hv1;obtain ⟨a1, a2⟩ := ax;obtain ⟨s1, hs1⟩ : ∃ S, strOf a1 = S := ⟨_, rfl⟩;obtain ⟨s2, hs2⟩ : ∃ S, strOf a2 = S := ⟨_, rfl⟩;have g1 : s1.size = a1.length := by rw [<- hs1]; exact strOf_size a1
     have g2 : s2.size = a2.length := by rw [<- hs2]; exact strOf_size a2
     simp only [hs1, hs2] at hc1;obtain ⟨u1, hu1⟩ : ∃ z, s1.size = z := ⟨_, rfl⟩;obtain ⟨u2, hu2⟩ : ∃ z, s2.size = z := ⟨_, rfl⟩;have m0 := hc1 0 _ rfl;have m1 := hc1 1 _ rfl;rw [Nat.add_zero] at m0
     have hnext : Hid (wN (.mk kd nm tx as_ ks) <= 1152921504606846976 -> wrap64 (wrap64 (wrap64 (c + 1) + (u1 : Int)) + (u2 : Int)) = ((1 + z1 + z2 + wA (as_.take (i + 1)) : Nat) : Int)) := Hd fun hB => by
      have e := hc.out hB;rw [hW.out] at hB;have e2 := wA_next hx1;have e3 := wA_take as_ (i + 1);simp only at e2;rw [<- g1, <- g2, hu1, hu2] at e2;rw [e2] at e3;rw [e2, e, wrap_in (x := _ + 1) (by omega) (by omega), wrap_in (x := _ + (u1 : Int)) (by omega) (by omega), wrap_in (by omega) (by omega)];omega
     have hbd := Hd (hb1.out.trans ((Joins.below_draws wr.heap.size wr 1).mono hb1.out.size));clear hc1 hx1 g1 g2 hs1 hs2 hcm;go_wp2_with fail;refine Pl.wp_region_plan 17 (.take 0 (.take 1 (.take 2 (.take 3 (.take 4 (.take 5 (.take 6 (.take 7 (.take 8 (.take 9 (.take 10 (.take 11 (.take 12 (.take 13 (.take 14 (.take 15 (.take 16 .done))))))))))))))))) (fun x => x.cell? ⟨T, 3, none⟩ = some (.slice (some ⟨b1, off1, none⟩) la ca) /\ x.cell? ⟨b1, off1 + i * 2, none⟩ = some (.string s1) /\ x.cell? ⟨b1, off1 + i * 2 + 1, none⟩ = some (.string s2)) (by kernel_rfl) (by kernel_rfl) (by exact ⟨y3, m0, m1⟩) ?_;simp only [Pl.fill, Al_4, Al_5, Al_6, Al_7]
     iterate 17
      refine Pl.take_go ?_ (by rfl) (fun _ _ _ h => h) ?_ ?_
      rotate_left
      ·(intro x hSw; (try dsimp only at hSw); go_simp; try with_reducible rfl)
      try simp only [Act.put, Al_1, Al_2, Al_3]
     refine Pl.done_go ?_;go_wp2_with fail;go_roundw
     case rel => exact ⟨i + 1, _, by omega, by go_num, rfl, hnext, hbd⟩
     case measure => simp [intOf]; omega
    ·have i2 : decide (c <= most) = false := by simpa using hcm
     have hJ : Hid (wN (.mk kd nm tx as_ ks) <= 1152921504606846976 -> c = ((1 + z1 + z2 + wA as_ + wL (ks.take 0) : Nat) : Int) \/ (most < c /\ 0 <= c /\ c <= ((wN (.mk kd nm tx as_ ks) : Nat) : Int))) := Hd fun hB => by
      have e := hc.out hB;have e3 := wA_take as_ i;rw [hW.out];refine .inr ⟨by omega, by omega, by omega⟩
     have hb0 := hb1;clear hcm hc hb1;go_wp2_with fail;clear i1 i2
     go_loopw [5, 7] (fun vc vi wr => ∃ (j : Nat) (c : Int), j <= m /\ vi = .int .i64 (j : Nat) /\ vc = .int .i64 c /\ Hid (wN (.mk kd nm tx as_ ks) <= 1152921504606846976 -> c = ((1 + z1 + z2 + wA as_ + wL (ks.take j) : Nat) : Int) \/ (most < c /\ 0 <= c /\ c <= ((wN (.mk kd nm tx as_ ks) : Nat) : Int))) /\ Hid (Below w1.heap.size w1 wr)) (fun _ vi _ => m - (intOf vi).toNat)
     case atStart => exact ⟨0, _, Nat.zero_le _, rfl, rfl, hJ, hb0⟩
     case round =>
      clear hJ hb0 y3 y4;obtain ⟨j, c, hj, rfl, rfl, hJ, hb1⟩ := hrel;have y4 := cell_keep x4 hb1.out;have hb := Hd (hba.out.trans (hb1.out.mono hba.out.size))
      by_cases hlt : j < m
      ·have i1 : decide ((j : Int) < (m : Int)) = true := by simp; omega
       have q1 : (j : Int) < (m : Int) := by omega
       by_cases hcm : c <= most
       ·have i2 : decide (c <= most) = true := (by simpa using hcm);have hKr := Sq.kept_ hK.out hb.out (fun vs x h => NdI.later h hXH.out hb.out);obtain ⟨b1, off1, x, vs1, rfl, _, hx1, _, hv1, hc1⟩ := hKr.at_ hlt;have hszx := hkid.out j x hx1;have hX1 : ∀ j, X j -> j < wr.heap.size := fun j hj => Nat.lt_of_lt_of_le (hXH.out j hj) hb.out.size
        have hrec := Hd (ih.out X wr _ _ most hszx hv1 hX1);replace hx1 := Hd hx1;obtain ⟨kx, nx_, tx_, ax, kx_⟩ := x;obtain ⟨Ax, cax, A2x, c2x, rfl, -⟩ := hv1.cells;have m0 := hc1 0 _ rfl;have m1 := hc1 1 _ rfl;have m2 := hc1 2 _ rfl;have m3 := hc1 3 _ rfl;have m4 := hc1 4 _ rfl;rw [Nat.add_zero] at m0;replace hcm := Hd hcm;clear hszx hKr hv1 hc1 hX1;go_wp2_with fail;refine hrec.out.mono ?_;rintro e w5 ⟨⟨d, rfl, hd⟩, hb5⟩;have hw5 := Hd (hb1.out.trans (hb5.mono hb1.out.size))
        have hnext : Hid (wN (.mk kd nm tx as_ ks) <= 1152921504606846976 -> wrap64 (c + d) = ((1 + z1 + z2 + wA as_ + wL (ks.take (j + 1)) : Nat) : Int) \/ (most < wrap64 (c + d) /\ 0 <= wrap64 (c + d) /\ wrap64 (c + d) <= ((wN (.mk kd nm tx as_ ks) : Nat) : Int))) := Hd fun hB => by
         have e := hJ.out hB;have e1 := hcm.out;have e2 := wL_next hx1.out;have e3 := wL_take ks (j + 1);have hB' := hB;rw [hW.out] at hB';rw [e2] at e3;obtain ⟨d0, d1, d2⟩ := hd (by omega);rw [e2]
         have e : c = ((1 + z1 + z2 + wA as_ + wL (ks.take j) : Nat) : Int) := by
          rcases e with e | e
          ·exact e
          ·omega
         rw [wrap_in (by omega) (by omega), hW.out]
         by_cases hdm : d <= most
         ·have := d2 hdm;exact .inl (by omega)
         ·exact .inr ⟨by omega, by omega, by omega⟩
        clear hb5 m0 m1 m2 m3 m4 hd;go_wp2_with fail;go_roundw
        case rel => exact ⟨j + 1, _, by omega, by go_num, rfl, hnext, hw5⟩
        case measure => simp [intOf]; omega
       ·have i2 : decide (c <= most) = false := by simpa using hcm
        have hres : Hid (SmP (.mk kd nm tx as_ ks) most c) := Hd fun hB => by
         have e := hJ.out hB;have e3 := wL_take ks j;rw [hW.out] at e ⊢;refine ⟨by omega, by omega, fun h => absurd h hcm⟩
        clear hJ hcm;go_wp2_with fail
        (try simp only [Exit.inBlock, Exit.then])
        go_ret;exact ⟨⟨_, rfl, hres.out⟩, hb.out⟩
      ·have i1 : decide ((j : Int) < (m : Int)) = false := by simp; omega
       have hres : Hid (SmP (.mk kd nm tx as_ ks) most c) := Hd fun hB => by
        have e := hJ.out hB;rw [List.take_of_length_le (by rw [hm.out]; omega)] at e;rw [hW.out] at e ⊢;refine ⟨by omega, by omega, fun h => by omega⟩
       clear hJ;go_wp2_with fail
       (try simp only [Exit.inBlock, Exit.then])
       go_ret;exact ⟨⟨_, rfl, hres.out⟩, hb.out⟩
   ·have hie : i = la := (by omega);subst hie;have i1 : decide ((i : Int) < (i : Int)) = false := by simp
    have hJ : Hid (wN (.mk kd nm tx as_ ks) <= 1152921504606846976 -> c = ((1 + z1 + z2 + wA as_ + wL (ks.take 0) : Nat) : Int) \/ (most < c /\ 0 <= c /\ c <= ((wN (.mk kd nm tx as_ ks) : Nat) : Int))) := Hd fun hB => by
     have e := hc.out hB;rw [List.take_of_length_le (by rw [hla.out]; exact Nat.le_refl _)] at e;rw [e];simp [wL]
    have hb0 := hb1;clear hc hb1 hlt;go_wp2_with fail;clear i1
    go_loopw [5, 7] (fun vc vi wr => ∃ (j : Nat) (c : Int), j <= m /\ vi = .int .i64 (j : Nat) /\ vc = .int .i64 c /\ Hid (wN (.mk kd nm tx as_ ks) <= 1152921504606846976 -> c = ((1 + z1 + z2 + wA as_ + wL (ks.take j) : Nat) : Int) \/ (most < c /\ 0 <= c /\ c <= ((wN (.mk kd nm tx as_ ks) : Nat) : Int))) /\ Hid (Below w1.heap.size w1 wr)) (fun _ vi _ => m - (intOf vi).toNat)
    case atStart => exact ⟨0, _, Nat.zero_le _, rfl, rfl, hJ, hb0⟩
    case round =>
     clear hJ hb0 y3 y4;obtain ⟨j, c, hj, rfl, rfl, hJ, hb1⟩ := hrel;have y4 := cell_keep x4 hb1.out;have hb := Hd (hba.out.trans (hb1.out.mono hba.out.size))
     by_cases hlt : j < m
     ·have i1 : decide ((j : Int) < (m : Int)) = true := by simp; omega
      have q1 : (j : Int) < (m : Int) := by omega
      by_cases hcm : c <= most
      ·have i2 : decide (c <= most) = true := (by simpa using hcm);have hKr := Sq.kept_ hK.out hb.out (fun vs x h => NdI.later h hXH.out hb.out);obtain ⟨b1, off1, x, vs1, rfl, _, hx1, _, hv1, hc1⟩ := hKr.at_ hlt;have hszx := hkid.out j x hx1;have hX1 : ∀ j, X j -> j < wr.heap.size := fun j hj => Nat.lt_of_lt_of_le (hXH.out j hj) hb.out.size
       have hrec := Hd (ih.out X wr _ _ most hszx hv1 hX1);replace hx1 := Hd hx1;obtain ⟨kx, nx_, tx_, ax, kx_⟩ := x;obtain ⟨Ax, cax, A2x, c2x, rfl, -⟩ := hv1.cells;have m0 := hc1 0 _ rfl;have m1 := hc1 1 _ rfl;have m2 := hc1 2 _ rfl;have m3 := hc1 3 _ rfl;have m4 := hc1 4 _ rfl;rw [Nat.add_zero] at m0;replace hcm := Hd hcm;clear hszx hKr hv1 hc1 hX1;go_wp2_with fail;refine hrec.out.mono ?_;rintro e w5 ⟨⟨d, rfl, hd⟩, hb5⟩;have hw5 := Hd (hb1.out.trans (hb5.mono hb1.out.size))
       have hnext : Hid (wN (.mk kd nm tx as_ ks) <= 1152921504606846976 -> wrap64 (c + d) = ((1 + z1 + z2 + wA as_ + wL (ks.take (j + 1)) : Nat) : Int) \/ (most < wrap64 (c + d) /\ 0 <= wrap64 (c + d) /\ wrap64 (c + d) <= ((wN (.mk kd nm tx as_ ks) : Nat) : Int))) := Hd fun hB => by
        have e := hJ.out hB;have e1 := hcm.out;have e2 := wL_next hx1.out;have e3 := wL_take ks (j + 1);have hB' := hB;rw [hW.out] at hB';rw [e2] at e3;obtain ⟨d0, d1, d2⟩ := hd (by omega);rw [e2]
        have e : c = ((1 + z1 + z2 + wA as_ + wL (ks.take j) : Nat) : Int) := by
         rcases e with e | e
         ·exact e
         ·omega
        rw [wrap_in (by omega) (by omega), hW.out]
        by_cases hdm : d <= most
        ·have := d2 hdm;exact .inl (by omega)
        ·exact .inr ⟨by omega, by omega, by omega⟩
       clear hb5 m0 m1 m2 m3 m4 hd;go_wp2_with fail;go_roundw
       case rel => exact ⟨j + 1, _, by omega, by go_num, rfl, hnext, hw5⟩
       case measure => simp [intOf]; omega
      ·have i2 : decide (c <= most) = false := by simpa using hcm
       have hres : Hid (SmP (.mk kd nm tx as_ ks) most c) := Hd fun hB => by
        have e := hJ.out hB;have e3 := wL_take ks j;rw [hW.out] at e ⊢;refine ⟨by omega, by omega, fun h => absurd h hcm⟩
       clear hJ hcm;go_wp2_with fail
       (try simp only [Exit.inBlock, Exit.then])
       go_ret;exact ⟨⟨_, rfl, hres.out⟩, hb.out⟩
     ·have i1 : decide ((j : Int) < (m : Int)) = false := by simp; omega
      have hres : Hid (SmP (.mk kd nm tx as_ ks) most c) := Hd fun hB => by
       have e := hJ.out hB;rw [List.take_of_length_le (by rw [hm.out]; omega)] at e;rw [hW.out] at e ⊢;refine ⟨by omega, by omega, fun h => by omega⟩
      clear hJ;go_wp2_with fail
      (try simp only [Exit.inBlock, Exit.then])
      go_ret;exact ⟨⟨_, rfl, hres.out⟩, hb.out⟩
set_option maxHeartbeats 1000000 in
set_option maxRecDepth 100000 in
theorem rSmall_any (X : Nat -> Prop) (w : World) (vs : List Value) (n : Nd) (most : Int) (hn : NdI X w vs n) (hX : ∀ j, X j -> j < w.heap.size) :
  Calls Tryz.prog 35 #[.agg vs.toArray, .int .i64 most] w fun e w' => (∃ c : Int, e = .returned (.bool (decide (c <= most))) /\ SmP n most c) /\ Below w.heap.size w w' := by
 obtain ⟨kd, nm, tx, as_, ks⟩ := n;obtain ⟨A, ca, A2, c2, rfl, -⟩ := hn.cells;have hba := below_alloc w (.cells #[.int .i64 kd, .string (strOf nm), .string (strOf tx), .slice A as_.length ca, .slice A2 ks.length c2] 25);have hnb := heap_alloc_new w (.cells #[.int .i64 kd, .string (strOf nm), .string (strOf tx), .slice A as_.length ca, .slice A2 ks.length c2] 25);have hrec := Hd (rsmall_any _ X (w.alloc (.cells #[.int .i64 kd, .string (strOf nm), .string (strOf tx), .slice A as_.length ca, .slice A2 ks.length c2] 25)) _ _ most (Nat.le_refl _) (NdI.later hn hX hba) (fun j hj => Nat.lt_of_lt_of_le (hX j hj) hba.size));have x0 := cell_blk hnb (i := 0) rfl;have x1 := cell_blk hnb (i := 1) rfl;have x2 := cell_blk hnb (i := 2) rfl;have x3 := cell_blk hnb (i := 3) rfl;have x4 := cell_blk hnb (i := 4) rfl;have hbaH := Hd hba;clear hnb hn hX hba
 go_enter Tryz.func35, Tryz.ntmps35
 go_wp2_with fail;refine hrec.out.mono ?_;rintro e w5 ⟨⟨c, rfl, hd⟩, hb5⟩;have hw5 := Hd (hbaH.out.trans (hb5.mono hbaH.out.size));replace hd := Hd hd;clear hb5 x0 x1 x2 x3 x4;go_wp2_with fail;go_ret;exact ⟨⟨c, rfl, hd.out⟩, hw5.out⟩
end Go.Proofs.YtokdnhdfmgfkeaaGreatDoor.Xt
end

section
namespace Go.Proofs.YtokdnhdfmgfkeaaGreatDoor.Xp
open Go.RowKit UtfW Xl Xo Xt
def SmD (d : Doc) (most : Int) (b : Bool) : Prop := wL d.before + wN d.root + wL d.after <= 576460752303423488 -> b = true -> (wL d.before : Int) <= most /\ (wN d.root : Int) <= most /\ (wL d.after : Int) <= most
theorem wN_kids (ks : List Nd) : wN (.mk 0 [] [] [] ks) = 1 + wL ks := by
 rw [wN];simp [wA]
set_option maxHeartbeats 8000000 in
set_option maxRecDepth 100000 in
theorem rSmallD_any (X : Nat -> Prop) (w : World) (v : Value) (d : Doc) (most : Int) (hd : DocI X w v d) (hX : ∀ j, X j -> j < w.heap.size) :
  Calls Tryz.prog 12 #[v, .int .i64 most] w fun e w' => (∃ b, e = .returned (.bool b) /\ SmD d most b) /\ Below w.heap.size w w' := by
 obtain ⟨A1, n1, c1, kd, nm, tx, Ar, n5, cr, Ak, n6, ck, A2, n2, c2, hv, hSb, hxb, hNd, hSa, hxa, -⟩ := doc_parts hd;subst hv;have hn1 := hSb.len;have hn2 := hSa.len;obtain ⟨S1, hS1⟩ : ∃ S, strOf nm = S := ⟨_, rfl⟩;obtain ⟨S2, hS2⟩ : ∃ S, strOf tx = S := ⟨_, rfl⟩;rw [hS1, hS2] at hNd;rw [hS1, hS2];have hba := below_alloc w (.cells #[.slice A1 n1 c1, .int .i64 kd, .string S1, .string S2, .slice Ar n5 cr, .slice Ak n6 ck, .slice A2 n2 c2] 27);have hnb := heap_alloc_new w (.cells #[.slice A1 n1 c1, .int .i64 kd, .string S1, .string S2, .slice Ar n5 cr, .slice Ak n6 ck, .slice A2 n2 c2] 27);obtain ⟨T, hT⟩ : ∃ T, w.heap.size = T := ⟨_, rfl⟩;obtain ⟨w1, hw1⟩ : ∃ w1, w.alloc (.cells #[.slice A1 n1 c1, .int .i64 kd, .string S1, .string S2, .slice Ar n5 cr, .slice Ak n6 ck, .slice A2 n2 c2] 27) = w1 := ⟨_, rfl⟩;rw [hw1] at hba hnb;rw [hT] at hnb;have hlow : ∀ x, Below w1.heap.size w1 x -> Below w.heap.size w x := fun x hx => hba.trans (hx.mono hba.size)
 have hbX : ∀ x, Below w1.heap.size w1 x -> ∀ j, X j -> j < x.heap.size := fun x hx j hj => Nat.lt_of_lt_of_le (hX j hj) (hlow x hx).size
 have hTb : Hid (∀ x, Below w1.heap.size w1 x -> x.heap[T]? = some (.cells #[.slice A1 n1 c1, .int .i64 kd, .string S1, .string S2, .slice Ar n5 cr, .slice Ak n6 ck, .slice A2 n2 c2] 27)) := Hd fun x hx => (hx.block T (Array.getElem?_eq_some_iff.1 hnb).1).trans hnb
 have hcB : Hid (∀ x, Below w1.heap.size w1 x -> Calls Tryz.prog 35 #[.agg #[.int .i64 0, .string ⟨#[]⟩, .string ⟨#[]⟩, .slice none 0 0, .slice A1 n1 c1], .int .i64 most] x fun e w' => (∃ c : Int, e = .returned (.bool (decide (c <= most))) /\ SmP (.mk 0 [] [] [] d.before) most c) /\ Below x.heap.size x w') := Hd fun x hx => by
  have h9 := sq_keep hSb (hlow x hx) (fun vs y h => NdI.later h hX (hlow x hx));rw [<- hn1] at h9 hxb ⊢;exact rSmall_any X x _ (.mk 0 [] [] [] d.before) most (NdI.make (nm := []) (tx := []) (as_ := []) (ks := d.before) (Sq.none_ _) (fun a e => by cases e) h9 hxb) (hbX x hx)
 have hcA : Hid (∀ x, Below w1.heap.size w1 x -> Calls Tryz.prog 35 #[.agg #[.int .i64 0, .string ⟨#[]⟩, .string ⟨#[]⟩, .slice none 0 0, .slice A2 n2 c2], .int .i64 most] x fun e w' => (∃ c : Int, e = .returned (.bool (decide (c <= most))) /\ SmP (.mk 0 [] [] [] d.after) most c) /\ Below x.heap.size x w') := Hd fun x hx => by
  have h9 := sq_keep hSa (hlow x hx) (fun vs y h => NdI.later h hX (hlow x hx));rw [<- hn2] at h9 hxa ⊢;exact rSmall_any X x _ (.mk 0 [] [] [] d.after) most (NdI.make (nm := []) (tx := []) (as_ := []) (ks := d.after) (Sq.none_ _) (fun a e => by cases e) h9 hxa) (hbX x hx)
 have hcR := Hd (fun (x : World) (hx : Below w1.heap.size w1 x) => rSmall_any X x _ d.root most (NdI.later hNd hX (hlow x hx)) (hbX x hx));have hbaH := Hd hba;have hqw1 : Hid (Below w1.heap.size w1 w1) := Hd (Below.refl _ _);clear hd hX hNd hSb hSa hxb hxa hS1 hS2 hba hnb hlow hbX hn1 hn2;obtain ⟨y0, y1, y2, y3, y4, y5, y6⟩ := Xp.cz7 (hTb.out w1 hqw1.out)
 go_enter Tryz.func12, Tryz.ntmps12
 go_wp2_with fail;refine (hcB.out w1 hqw1.out).mono ?_;rintro e w2 ⟨⟨Bc, rfl, hP1⟩, hbw2⟩;have hqw2 := Xp.tr_ hqw1 hbw2;clear hbw2 hcB y0 y1 y2 y3 y4 y5 y6;obtain ⟨y0, y1, y2, y3, y4, y5, y6⟩ := Xp.cz7 (hTb.out w2 hqw2.out);replace hP1 := Hd hP1
 by_cases hb1 : Bc <= most
 case' neg =>
  have g1 : decide (Bc <= most) = false := decide_eq_false hb1;rw [g1];have hv : Hid (SmD d most false) := Hd (fun _ h => by cases h);clear hb1 g1;have hfin := Xp.tu_ hbaH hqw2;go_wp2_with fail
  (try simp only [Exit.inBlock, Exit.then])
  go_ret;exact ⟨⟨false, rfl, hv.out⟩, by first | exact hfin.out | (have h9 := hfin.out; rw [hT] at h9; exact h9)⟩
 have g1 : decide (Bc <= most) = true := decide_eq_true hb1;rw [g1];replace hb1 := Hd hb1;clear g1;go_wp2_with fail;refine (hcR.out w2 hqw2.out).mono ?_;rintro e w3 ⟨⟨Rc, rfl, hP2⟩, hbw3⟩;have hqw3 := Xp.tr_ hqw2 hbw3;clear hbw3 hcR y0 y1 y2 y3 y4 y5 y6;obtain ⟨y0, y1, y2, y3, y4, y5, y6⟩ := Xp.cz7 (hTb.out w3 hqw3.out);replace hP2 := Hd hP2
 by_cases hb2 : Rc <= most
 case' neg =>
  have g1 : decide (Rc <= most) = false := decide_eq_false hb2;rw [g1];have hv : Hid (SmD d most false) := Hd (fun _ h => by cases h);clear hb2 g1;have hfin := Xp.tu_ hbaH hqw3;go_wp2_with fail
  (try simp only [Exit.inBlock, Exit.then])
  go_ret;exact ⟨⟨false, rfl, hv.out⟩, by first | exact hfin.out | (have h9 := hfin.out; rw [hT] at h9; exact h9)⟩
 have g1 : decide (Rc <= most) = true := decide_eq_true hb2;rw [g1];replace hb2 := Hd hb2;clear g1;go_wp2_with fail;refine (hcA.out w3 hqw3.out).mono ?_;rintro e w4 ⟨⟨Ac, rfl, hP3⟩, hbw4⟩;have hqw4 := Xp.tr_ hqw3 hbw4;clear hbw4 hcA y0 y1 y2 y3 y4 y5 y6;obtain ⟨y0, y1, y2, y3, y4, y5, y6⟩ := Xp.cz7 (hTb.out w4 hqw4.out);replace hP3 := Hd hP3
 by_cases hb3 : Ac <= most
 case' neg =>
  have g1 : decide (Ac <= most) = false := decide_eq_false hb3;rw [g1];have hv : Hid (SmD d most false) := Hd (fun _ h => by cases h);clear hb3 g1;have hfin := Xp.tu_ hbaH hqw4;go_wp2_with fail
  (try simp only [Exit.inBlock, Exit.then])
  go_ret;exact ⟨⟨false, rfl, hv.out⟩, by first | exact hfin.out | (have h9 := hfin.out; rw [hT] at h9; exact h9)⟩
 have g1 : decide (Ac <= most) = true := decide_eq_true hb3;rw [g1]
 have hv : Hid (SmD d most true) := Hd (fun hz _ => by
  have h1 := hP1.out (by rw [wN_kids]; omega);have h2 := hP2.out (by omega);have h3 := hP3.out (by rw [wN_kids]; omega);have e1 := h1.2.2 hb1.out;have e2 := h2.2.2 hb2.out;have e3 := h3.2.2 hb3;have f1 := hb1.out;have f2 := hb2.out;rw [wN_kids] at e1 e3
  refine ⟨?_, ?_, ?_⟩ <;> omega)
 clear hb3 g1;have hfin := Xp.tu_ hbaH hqw4;go_wp2_with fail
 (try simp only [Exit.inBlock, Exit.then])
 go_ret;exact ⟨⟨true, rfl, hv.out⟩, by first | exact hfin.out | (have h9 := hfin.out; rw [hT] at h9; exact h9)⟩
end Go.Proofs.YtokdnhdfmgfkeaaGreatDoor.Xp
end

section
namespace Go.Proofs.YtokdnhdfmgfkeaaGreatDoor.Xt
open Xl UtfW
open Go.Proofs.YtokdnhdfmgfkeaaGreatDoor.Qx (V)
/-! ### The builder over them -/
end Go.Proofs.YtokdnhdfmgfkeaaGreatDoor.Xt
end

section
namespace Go.Proofs.YtokdnhdfmgfkeaaGreatDoor.Xt
open Go.RowKit UtfW Xl Er
theorem ParP.ok {S : Tx} {w w' : World} {e : Ending} {p : Nat} {d : Doc} (h : ParP S w e w') (hr : parseF S = (0, p, d)) : Below w.heap.size w w' /\ ∃ vd, e = .returned (.tuple #[vd, .nilIface]) /\ DocI (fun k => w.heap.size <= k /\ k < w'.heap.size) w' vd d := by
 obtain ⟨h1, vd, ev, rfl, h2⟩ := h;rw [hr] at h2;rcases h2 with ⟨_, rfl, h3⟩ | ⟨h3, _⟩
 ·exact ⟨h1, vd, rfl, h3⟩
 ·exact absurd rfl h3
theorem ParP.no {S : Tx} {w w' : World} {e : Ending} {cd : Int} {p : Nat} {d : Doc} (h : ParP S w e w') (hr : parseF S = (cd, p, d)) (hc : cd ≠ 0) : Below w.heap.size w w' /\ d = noDoc /\ ∃ v, e = .returned (.tuple #[zeroDoc, v]) /\ Er.Fe w' w'.heap.size cd (p : Nat) [xmlB] v := by
 obtain ⟨h1, vd, ev, rfl, h2⟩ := h;rw [hr] at h2;rcases h2 with ⟨h3, _⟩ | ⟨_, h3, rfl, h4⟩
 ·exact absurd h3 hc
 ·exact ⟨h1, h3, ev, rfl, h4⟩
end Go.Proofs.YtokdnhdfmgfkeaaGreatDoor.Xt
end

section
namespace Go.Proofs.YtokdnhdfmgfkeaaGreatDoor.Xp
open Go.RowKit UtfW Xl Xo Xt Er
def aw1 : Doc := ⟨[], .mk 1 [97] [] [([120], [49, 32, 60, 32, 50])] [.mk 2 [] [97, 32, 38, 32, 98] [] []], []⟩
set_option maxRecDepth 100000 in
theorem aw1_may : mayD aw1 = true := by decide +kernel
set_option maxRecDepth 100000 in
theorem aw1_wr : writeD aw1 = [60, 97, 32, 120, 61, 34, 49, 32, 38, 108, 116, 59, 32, 50, 34, 62, 97, 32, 38, 97, 109, 112, 59, 32, 98, 60, 47, 97, 62] := by decide +kernel
set_option maxRecDepth 100000 in
theorem aw2_may : mayD noDoc = false := by decide +kernel
theorem docB_no : DocB noDoc := ⟨by decide, by decide, by decide, by decide +kernel, by
 show smN zero
 unfold zero;rw [smN]
 exact ⟨by simp, by simp, ⟨by simp, fun a ha => by cases ha⟩, by rw [smL]; trivial⟩, by
 show smL []
 rw [smL]; trivial, by
 show smL []
 rw [smL]; trivial⟩
theorem DocP.ok {d : Doc} {w w' : World} {e : Ending} (h : DocP d w e w') (hm : mayD d = true) : Below w.heap.size w w' /\ e = .returned (.tuple #[.string (strOf (writeD d)), .nilIface]) := by
 obtain ⟨h1, h2 | h2⟩ := h
 ·exact ⟨h1, h2.2⟩
 ·rw [hm] at h2
  cases h2.1
theorem DocP.no {d : Doc} {w w' : World} {e : Ending} (h : DocP d w e w') (hm : mayD d = false) : Below w.heap.size w w' /\ ∃ v, e = .returned (.tuple #[.string ⟨#[]⟩, v]) /\ Er.Fe w' w'.heap.size 80 0 [writeB] v := by
 obtain ⟨h1, h2 | h2⟩ := h
 ·rw [hm] at h2
  cases h2.1
 ·exact ⟨h1, h2.2⟩
set_option maxHeartbeats 4000000 in
set_option maxRecDepth 100000 in
theorem awake11 (w : World) (hU : Uv w) (hE : En w.heap.size w) :
  Calls Tryz.prog 11 #[] w fun e w' => e = .returned (.bool true) /\ Below w.heap.size w w' := by
 obtain ⟨b, hb⟩ : ∃ b, w.heap.size = b := ⟨_, rfl⟩;have hb1 := below_alloc w (.cells #[.string ⟨#[120]⟩, .string ⟨#[49, 32, 60, 32, 50]⟩] 55)
 have hs1 : Sq AtEl 2 (w.alloc (.cells #[.string ⟨#[120]⟩, .string ⟨#[49, 32, 60, 32, 50]⟩] 55)) (some ⟨w.heap.size, 0, none⟩) 1 1 [([120], [49, 32, 60, 32, 50])] :=
  sq_one w [.string ⟨#[120]⟩, .string ⟨#[49, 32, 60, 32, 50]⟩] ([120], [49, 32, 60, 32, 50]) 55 (0, 0) rfl rfl
 have hz1 : (w.alloc (.cells #[.string ⟨#[120]⟩, .string ⟨#[49, 32, 60, 32, 50]⟩] 55)).heap.size = w.heap.size + 1 := World.size_alloc _ _;obtain ⟨w1, hw1⟩ : ∃ w1, w.alloc (.cells #[.string ⟨#[120]⟩, .string ⟨#[49, 32, 60, 32, 50]⟩] 55) = w1 := ⟨_, rfl⟩;rw [hw1] at hb1 hs1 hz1;have hb2 := below_alloc w1 (.cells #[.int .i64 2, .string ⟨#[]⟩, .string ⟨#[97, 32, 38, 32, 98]⟩, .slice none 0 0, .slice none 0 0] 25)
 have hs2 : Sq (NdE (fun k => k < b + 2)) 5 (w1.alloc (.cells #[.int .i64 2, .string ⟨#[]⟩, .string ⟨#[97, 32, 38, 32, 98]⟩, .slice none 0 0, .slice none 0 0] 25)) (some ⟨w1.heap.size, 0, none⟩) 1 1 [Nd.mk 2 [] [97, 32, 38, 32, 98] [] []] :=
  sq_one w1 [.int .i64 2, .string ⟨#[]⟩, .string ⟨#[97, 32, 38, 32, 98]⟩, .slice none 0 0, .slice none 0 0] (Nd.mk 2 [] [97, 32, 38, 32, 98] [] []) 25 (0, 0) rfl (NdI.make (nm := []) (tx := [97, 32, 38, 32, 98]) (as_ := []) (ks := []) (Sq.none_ _) (fun a e => by cases e) (Sq.none_ _) (fun a e => by cases e))
 have hz2 : (w1.alloc (.cells #[.int .i64 2, .string ⟨#[]⟩, .string ⟨#[97, 32, 38, 32, 98]⟩, .slice none 0 0, .slice none 0 0] 25)).heap.size = w1.heap.size + 1 := World.size_alloc _ _;obtain ⟨w2, hw2⟩ : ∃ w2, w1.alloc (.cells #[.int .i64 2, .string ⟨#[]⟩, .string ⟨#[97, 32, 38, 32, 98]⟩, .slice none 0 0, .slice none 0 0] 25) = w2 := ⟨_, rfl⟩;rw [hw2] at hb2 hs2 hz2;rw [hz1] at hs2 hz2;have hb3 := below_alloc w2 (.cells #[.int .i64 1, .string ⟨#[97]⟩, .string ⟨#[]⟩, .slice (some ⟨w.heap.size, 0, none⟩) 1 1, .slice (some ⟨w.heap.size + 1, 0, none⟩) 1 1] 25);have hz3 : (w2.alloc (.cells #[.int .i64 1, .string ⟨#[97]⟩, .string ⟨#[]⟩, .slice (some ⟨w.heap.size, 0, none⟩) 1 1, .slice (some ⟨w.heap.size + 1, 0, none⟩) 1 1] 25)).heap.size = w2.heap.size + 1 := World.size_alloc _ _;obtain ⟨w3, hw3⟩ : ∃ w3, w2.alloc (.cells #[.int .i64 1, .string ⟨#[97]⟩, .string ⟨#[]⟩, .slice (some ⟨w.heap.size, 0, none⟩) 1 1, .slice (some ⟨w.heap.size + 1, 0, none⟩) 1 1] 25) = w3 := ⟨_, rfl⟩;rw [hw3] at hb3 hz3;have h13 := hb2.trans (hb3.mono hb2.size);have hx3 := hb1.trans (h13.mono hb1.size)
 have q1 : ∀ a, (some ⟨w.heap.size, 0, none⟩ : Option Addr) = some a -> 0 < 1 -> a.block < b + 2 := fun a e _ => by
  injection e with e;rw [<- e, <- hb]
  show w.heap.size < w.heap.size + 2
  omega
 have q2 : ∀ a, (some ⟨w.heap.size + 1, 0, none⟩ : Option Addr) = some a -> 0 < 1 -> a.block < b + 2 := fun a e _ => by
  injection e with e;rw [<- e, <- hb]
  show w.heap.size + 1 < w.heap.size + 2
  omega
 have hn3 : NdI (fun k => k < b + 2) w3 [.int .i64 1, .string ⟨#[97]⟩, .string ⟨#[]⟩, .slice (some ⟨w.heap.size, 0, none⟩) 1 1, .slice (some ⟨w.heap.size + 1, 0, none⟩) 1 1] (Nd.mk 1 [97] [] [([120], [49, 32, 60, 32, 50])] [Nd.mk 2 [] [97, 32, 38, 32, 98] [] []]) :=
  NdI.make (nm := [97]) (tx := []) (as_ := [([120], [49, 32, 60, 32, 50])]) (ks := [Nd.mk 2 [] [97, 32, 38, 32, 98] [] []]) (hs1.below AtEl.to h13) q1 (sq_keep hs2 hb3 (fun vs x h => NdI.later h (fun k hk => by rw [hz2, hb]; omega) hb3)) q2
 have hd3 : DocI (fun k => k < b + 2) w3 (.agg #[.slice none 0 0, .int .i64 1, .string ⟨#[97]⟩, .string ⟨#[]⟩, .slice (some ⟨w.heap.size, 0, none⟩) 1 1, .slice (some ⟨w.heap.size + 1, 0, none⟩) 1 1, .slice none 0 0]) aw1 :=
  ⟨none, 0, _, _, _, _, _, none, 0, rfl, Sq.none_ _, fun a e => (by cases e), hn3, Sq.none_ _, fun a e => (by cases e)⟩
 have hdc := Hd (Doc_any _ w3 (hU.below hx3) _ aw1 hd3 (fun j hj => by rw [hz3, hz2, hb]; omega) (may_docB aw1_may).1);have hx3H := Hd hx3;have hUH := Hd hU;have hEH := Hd hE;clear q1 q2 hb1 hs1 hz1 hb2 hs2 hz2 hb3 hz3 h13 hx3 hn3 hd3 hU hE hb;subst hw3;subst hw2;subst hw1
 go_enter Tryz.func11, Tryz.ntmps11
 go_wp2_with fail;refine hdc.out.mono ?_;intro e4 w4 h4;obtain ⟨hb4, rfl⟩ := h4.ok aw1_may;have hx4 := Xp.tr_ hx3H hb4;rw [aw1_wr];have str1 : ((strOf [60, 97, 32, 120, 61, 34, 49, 32, 38, 108, 116, 59, 32, 50, 34, 62, 97, 32, 38, 97, 109, 112, 59, 32, 98, 60, 47, 97, 62]).toList == [60, 97, 32, 120, 61, 34, 49, 32, 38, 108, 116, 59, 32, 50, 34, 62, 97, 32, 38, 97, 109, 112, 59, 32, 98, 60, 47, 97, 62]) = true := by rw [str_eqL]; decide
 clear h4 hb4 hdc;generalize strOf [60, 97, 32, 120, 61, 34, 49, 32, 38, 108, 116, 59, 32, 50, 34, 62, 97, 32, 38, 97, 109, 112, 59, 32, 98, 60, 47, 97, 62] = ST at str1 ⊢;have hd2 := Hd (Doc_any (fun _ => False) w4 (hUH.out.below hx4.out) _ noDoc (DocI.zero _ _) (fun j h => h.elim) docB_no);unfold zeroDoc at hd2;go_wp2_with fail;refine hd2.out.mono ?_;intro e5 w5 h5;obtain ⟨hb5, v, rfl, hf⟩ := h5.no aw2_may;obtain ⟨T5, a5, rfl⟩ := hf.iface;have hx5 := Xp.tr_ hx4 hb5;have hcc := Hd (Code_any 80 0 _ _ w.heap.size w5 (hEH.out.on hx5.out) hf);clear h5 hb5 hf hd2;go_wp2_with fail;refine hcc.out.mono ?_;rintro e w6 ⟨rfl, hb6⟩;have hfin := Xp.tr_ hx5 hb6;clear hb6 hcc;go_wp2_with fail;go_ret;exact ⟨rfl, hfin.out⟩
end Go.Proofs.YtokdnhdfmgfkeaaGreatDoor.Xp
end

section
namespace Go.Proofs.YtokdnhdfmgfkeaaGreatDoor.Xt
open Go.RowKit UtfW Xl Xo
section
variable {X Y : Nat -> Prop} (w : World)
set_option maxHeartbeats 2000000 in
theorem rnodes_any (A1 A2 : Option Addr) (n1 n2 c1 c2 : Nat) (l1 l2 : List Nd) (h1 : Sq (NdE X) 5 w A1 n1 c1 l1) (h2 : Sq (NdE Y) 5 w A2 n2 c2 l2) (hX1 : ∀ a, A1 = some a -> 0 < n1 -> X a.block) (hY1 : ∀ a, A2 = some a -> 0 < n2 -> Y a.block)
  (hX : ∀ j, X j -> j < w.heap.size) (hY : ∀ j, Y j -> j < w.heap.size) :
  Calls Tryz.prog 66 #[.slice A1 n1 c1, .slice A2 n2 c2] w fun e w' => (∃ B : Bool, e = .returned (.bool B) /\ (B = true ↔ l1 = l2)) /\ Below w.heap.size w w' := by
 have hl1 := h1.len;have hl2 := h2.len;subst hl1;subst hl2;have m1 : NdI X w [.int .i64 0, .string (strOf []), .string (strOf []), .slice none 0 0, .slice A1 l1.length c1] (.mk 0 [] [] [] l1) := NdI.make (as_ := []) (Sq.none_ w) (fun a e => by cases e) h1 hX1;have m2 : NdI Y w [.int .i64 0, .string (strOf []), .string (strOf []), .slice none 0 0, .slice A2 l2.length c2] (.mk 0 [] [] [] l2) := NdI.make (as_ := []) (Sq.none_ w) (fun a e => by cases e) h2 hY1;have hs := Hd (rsame_any _ X Y w _ _ _ _ (Nat.le_refl _) m1 m2 hX hY);clear h1 h2 m1 m2 hX hY hX1 hY1
 go_enter Tryz.func66, Tryz.ntmps66
 go_wp2_with fail;refine hs.out.mono ?_;rintro e w1 ⟨⟨B, rfl, hB⟩, hb⟩;have hb' := Hd hb;have hB' : Hid (B = true ↔ l1 = l2) := Hd ⟨fun h => by have := hB.1 h; injection this, fun h => hB.2 (by rw [h])⟩;clear hb hB;go_wp2_with fail;go_ret;exact ⟨⟨B, rfl, hB'.out⟩, hb'.out⟩
end
structure DocS (X : Nat -> Prop) (w : World) (A1 : Option Addr) (c1 : Nat) (kd : Int) (nm tx : Tx) (as_ : List At) (ks : List Nd) (Ar : Option Addr) (cr : Nat) (Ak : Option Addr) (ck : Nat) (A2 : Option Addr) (c2 : Nat) (bf af : List Nd) : Prop where
 bef : Sq (NdE X) 5 w A1 bf.length c1 bf
 befX : ∀ a, A1 = some a -> 0 < bf.length -> X a.block
 root : NdI X w [.int .i64 kd, .string (strOf nm), .string (strOf tx), .slice Ar as_.length cr, .slice Ak ks.length ck] (.mk kd nm tx as_ ks)
 aft : Sq (NdE X) 5 w A2 af.length c2 af
 aftX : ∀ a, A2 = some a -> 0 < af.length -> X a.block
theorem DocI.parts {X : Nat -> Prop} {w : World} {v : Value} {d : Doc} (h : DocI X w v d) : ∃ A1 c1 kd nm tx as_ ks Ar cr Ak ck A2 c2, v = .agg #[.slice A1 d.before.length c1, .int .i64 kd, .string (strOf nm), .string (strOf tx), .slice Ar as_.length cr, .slice Ak ks.length ck, .slice A2 d.after.length c2] /\ d.root = .mk kd nm tx as_ ks ∧
  DocS X w A1 c1 kd nm tx as_ ks Ar cr Ak ck A2 c2 d.before d.after := by
 obtain ⟨A1, c1, r0, r1, r2, r3, r4, A2, c2, rfl, h1, h1x, h2, h3, h3x⟩ := h;obtain ⟨bf, rt, af⟩ := d;obtain ⟨kd, nm, tx, as_, ks⟩ := rt;obtain ⟨Ar, cr, Ak, ck, e, g1, g2, _⟩ := h2.cells;injection e with e0 e;injection e with e1 e;injection e with e2 e;injection e with e3 e;injection e with e4 e;subst e0; subst e1; subst e2; subst e3; subst e4
 exact ⟨A1, c1, kd, nm, tx, as_, ks, Ar, cr, Ak, ck, A2, c2, rfl, rfl, h1, h1x, h2, h3, h3x⟩
theorem DocS.later {X : Nat -> Prop} {w w' : World} {A1 : Option Addr} {c1 : Nat} {kd : Int} {nm tx : Tx} {as_ : List At} {ks : List Nd} {Ar : Option Addr} {cr : Nat} {Ak : Option Addr} {ck : Nat} {A2 : Option Addr} {c2 : Nat} {bf af : List Nd} (h : DocS X w A1 c1 kd nm tx as_ ks Ar cr Ak ck A2 c2 bf af) (hX : ∀ j, X j -> j < w.heap.size) (hb : Below w.heap.size w w') :
  DocS X w' A1 c1 kd nm tx as_ ks Ar cr Ak ck A2 c2 bf af :=
 ⟨Sq.kept_ h.bef hb (fun _ _ hx => NdI.later hx hX hb), h.befX, NdI.later h.root hX hb, Sq.kept_ h.aft hb (fun _ _ hx => NdI.later hx hX hb), h.aftX⟩
set_option maxHeartbeats 8000000 in
set_option maxRecDepth 100000 in
theorem rdocs_any {X Y : Nat -> Prop} (w : World) (v u : Value) (d d' : Doc) (h1 : DocI X w v d) (h2 : DocI Y w u d') (hX : ∀ j, X j -> j < w.heap.size) (hY : ∀ j, Y j -> j < w.heap.size) :
  Calls Tryz.prog 28 #[v, u] w fun e w' => (∃ B : Bool, e = .returned (.bool B) /\ (B = true ↔ d = d')) /\ Below w.heap.size w w' := by
 obtain ⟨A1, c1, kd, nm, tx, as_, ks, Ar, cr, Ak, ck, A2, c2, rfl, hr, hS⟩ := h1.parts;obtain ⟨B1, d1, kd', nm', tx', as', ks', Br, dr, Bk, dk, B2, d2, rfl, hr', hS'⟩ := h2.parts;obtain ⟨bf, rt, af⟩ := d;obtain ⟨bf', rt', af'⟩ := d';simp only at hr hr' hS hS';subst hr;subst hr';clear h1 h2;obtain ⟨n1, hn1⟩ : ∃ n1, bf.length = n1 := ⟨_, rfl⟩;obtain ⟨n2, hn2⟩ : ∃ n2, af.length = n2 := ⟨_, rfl⟩;obtain ⟨n3, hn3⟩ : ∃ n3, bf'.length = n3 := ⟨_, rfl⟩;obtain ⟨n4, hn4⟩ : ∃ n4, af'.length = n4 := ⟨_, rfl⟩;obtain ⟨n5, hn5⟩ : ∃ n5, as_.length = n5 := ⟨_, rfl⟩;obtain ⟨n6, hn6⟩ : ∃ n6, ks.length = n6 := ⟨_, rfl⟩;obtain ⟨n7, hn7⟩ : ∃ n7, as'.length = n7 := ⟨_, rfl⟩;obtain ⟨n8, hn8⟩ : ∃ n8, ks'.length = n8 := ⟨_, rfl⟩;simp only [hn1, hn2, hn3, hn4, hn5, hn6, hn7, hn8];have hba := below_alloc w (.cells #[.slice A1 n1 c1, .int .i64 kd, .string (strOf nm), .string (strOf tx), .slice Ar n5 cr, .slice Ak n6 ck, .slice A2 n2 c2] 27);have hnb := heap_alloc_new w (.cells #[.slice A1 n1 c1, .int .i64 kd, .string (strOf nm), .string (strOf tx), .slice Ar n5 cr, .slice Ak n6 ck, .slice A2 n2 c2] 27);obtain ⟨T, hT⟩ : ∃ T, w.heap.size = T := ⟨_, rfl⟩;obtain ⟨w1, hw1⟩ : ∃ w1, w.alloc (.cells #[.slice A1 n1 c1, .int .i64 kd, .string (strOf nm), .string (strOf tx), .slice Ar n5 cr, .slice Ak n6 ck, .slice A2 n2 c2] 27) = w1 := ⟨_, rfl⟩;rw [hw1] at hba hnb;rw [hT] at hnb;have hbb := below_alloc w1 (.cells #[.slice B1 n3 d1, .int .i64 kd', .string (strOf nm'), .string (strOf tx'), .slice Br n7 dr, .slice Bk n8 dk, .slice B2 n4 d2] 27);have hnc := heap_alloc_new w1 (.cells #[.slice B1 n3 d1, .int .i64 kd', .string (strOf nm'), .string (strOf tx'), .slice Br n7 dr, .slice Bk n8 dk, .slice B2 n4 d2] 27);obtain ⟨U, hU⟩ : ∃ U, w1.heap.size = U := ⟨_, rfl⟩
 obtain ⟨w2, hw2⟩ : ∃ w2, w1.alloc (.cells #[.slice B1 n3 d1, .int .i64 kd', .string (strOf nm'), .string (strOf tx'), .slice Br n7 dr, .slice Bk n8 dk, .slice B2 n4 d2] 27) = w2 := ⟨_, rfl⟩;rw [hw2] at hbb hnc;rw [hU] at hnc;have hb02 := hba.trans (hbb.mono hba.size);have hnb2 := (hbb.block T (Array.getElem?_eq_some_iff.1 hnb).1).trans hnb;have hX2 : ∀ j, X j -> j < w2.heap.size := fun j hj => Nat.lt_of_lt_of_le (hX j hj) hb02.size
 have hY2 : ∀ j, Y j -> j < w2.heap.size := fun j hj => Nat.lt_of_lt_of_le (hY j hj) hb02.size
 have hS2 := hS.later hX hb02;have hS2' := hS'.later hY hb02;have cN := rnodes_any w2 A1 B1 _ _ c1 d1 bf bf' hS2.bef hS2'.bef hS2.befX hS2'.befX hX2 hY2;have cS := fun z (hz : Below w2.heap.size w2 z) => rsame_any _ X Y z _ _ _ _ (Nat.le_refl _) (hS2.later hX2 hz).root (hS2'.later hY2 hz).root (fun j hj => Nat.lt_of_lt_of_le (hX2 j hj) hz.size) (fun j hj => Nat.lt_of_lt_of_le (hY2 j hj) hz.size)
 have cM := fun z (hz : Below w2.heap.size w2 z) => rnodes_any z A2 B2 _ _ c2 d2 af af' (hS2.later hX2 hz).aft (hS2'.later hY2 hz).aft hS2.aftX hS2'.aftX (fun j hj => Nat.lt_of_lt_of_le (hX2 j hj) hz.size) (fun j hj => Nat.lt_of_lt_of_le (hY2 j hj) hz.size)
 rw [hn1, hn3] at cN;rw [hn5, hn6, hn7, hn8] at cS;rw [hn2, hn4] at cM;have x0 : w2.cell? ⟨T, 0, none⟩ = some (.slice A1 n1 c1) := cell_blk hnb2 rfl;have y0 : w2.cell? ⟨U, 0, none⟩ = some (.slice B1 n3 d1) := cell_blk hnc rfl;replace cN := Hd cN;replace cS := Hd cS;replace cM := Hd cM;replace hnb2 := Hd hnb2;replace hnc := Hd hnc;replace hb02 := Hd hb02;clear hS hS' hS2 hS2' hX2 hY2 hX hY hba hbb hnb hn1 hn2 hn3 hn4 hn5 hn6 hn7 hn8
 go_enter Tryz.func28, Tryz.ntmps28
 go_wp2_with fail;refine cN.out.mono ?_;rintro e w3 ⟨⟨b1, rfl, hB1⟩, hb3⟩;have hT3 := (hb3.block T (Array.getElem?_eq_some_iff.1 hnb2.out).1).trans hnb2.out;have hU3 := (hb3.block U (Array.getElem?_eq_some_iff.1 hnc.out).1).trans hnc.out;have hb03 := Hd (hb02.out.trans (hb3.mono hb02.out.size))
 cases b1 with
 | false =>
  have hno : Hid (Doc.mk bf (.mk kd nm tx as_ ks) af ≠ Doc.mk bf' (.mk kd' nm' tx' as' ks') af') := Hd fun e => by
   injection e with e1 _ _;exact absurd (hB1.2 e1) (by decide)
  clear hb3 hB1 hT3 hU3;go_wp2_with fail;go_ret;exact ⟨⟨false, rfl, by simpa using hno.out⟩, hb03.out⟩
 | true =>
  have e1 := Hd (hB1.1 rfl);have p1 := cell_blk hT3 (i := 1) rfl;have p2 := cell_blk hT3 (i := 2) rfl;have p3 := cell_blk hT3 (i := 3) rfl;have p4 := cell_blk hT3 (i := 4) rfl;have p5 := cell_blk hT3 (i := 5) rfl;have r1 := cell_blk hU3 (i := 1) rfl;have r2 := cell_blk hU3 (i := 2) rfl;have r3 := cell_blk hU3 (i := 3) rfl;have r4 := cell_blk hU3 (i := 4) rfl;have r5 := cell_blk hU3 (i := 5) rfl;have cS3 := Hd (cS.out w3 hb3);replace hb3 := Hd hb3;clear hB1 hT3 hU3;go_wp2_with fail;refine cS3.out.mono ?_;rintro e w4 ⟨⟨b2, rfl, hB2⟩, hb4⟩;have hb24 := hb3.out.trans (hb4.mono hb3.out.size);have hT4 := (hb24.block T (Array.getElem?_eq_some_iff.1 hnb2.out).1).trans hnb2.out;have hU4 := (hb24.block U (Array.getElem?_eq_some_iff.1 hnc.out).1).trans hnc.out;have hb04 := Hd (hb03.out.trans (hb4.mono hb03.out.size))
  cases b2 with
  | false =>
   have hno : Hid (Doc.mk bf (.mk kd nm tx as_ ks) af ≠ Doc.mk bf' (.mk kd' nm' tx' as' ks') af') := Hd fun e => by
    injection e with _ e1 _;exact absurd (hB2.2 e1) (by decide)
   clear hb4 hB2 hT4 hU4 hb24;go_wp2_with fail;go_ret;exact ⟨⟨false, rfl, by simpa using hno.out⟩, hb04.out⟩
  | true =>
   have e2 := Hd (hB2.1 rfl);have p6 := cell_blk hT4 (i := 6) rfl;have r6 := cell_blk hU4 (i := 6) rfl;have cM4 := Hd (cM.out w4 hb24);clear hb4 hB2 hT4 hU4 hb24;go_wp2_with fail;refine cM4.out.mono ?_;rintro e w5 ⟨⟨b3, rfl, hB3⟩, hb5⟩;have hb05 := Hd (hb04.out.trans (hb5.mono hb04.out.size))
   have hfin : Hid (b3 = true ↔ Doc.mk bf (.mk kd nm tx as_ ks) af = Doc.mk bf' (.mk kd' nm' tx' as' ks') af') := Hd ⟨fun h => by rw [e1.out, e2.out, hB3.1 h], fun h => by
    injection h with _ _ h
    exact hB3.2 h⟩
   clear hb5 hB3;go_wp2_with fail;go_ret;exact ⟨⟨b3, rfl, hfin.out⟩, hb05.out⟩
end Go.Proofs.YtokdnhdfmgfkeaaGreatDoor.Xt
end

section
namespace Go.Proofs.YtokdnhdfmgfkeaaGreatDoor.Xp
open Go.RowKit UtfW Xl Xo Xt Er
theorem par_both {w0 w w' : World} {S : Tx} {e : Ending} {cd : Int} {p : Nat} {d : Doc} (hE : En w0.heap.size w0) (hb0 : Below w0.heap.size w0 w) (h : ParP S w e w') (hr : parseF S = (cd, p, d)) :
  Below w.heap.size w w' /\ ∃ vd ev, e = .returned (.tuple #[vd, ev]) /\ DocI (fun k => k < w'.heap.size) w' vd d ∧
   (∀ y, Below w'.heap.size w' y -> Calls Tryz.prog 22 #[ev] y fun e z => e = .returned (.int .i64 cd) /\ Below y.heap.size y z) := by
 by_cases hc : cd = 0
 ·subst hc;obtain ⟨hb, vd, rfl, hd⟩ := h.ok hr;obtain ⟨A1, c1, r0, r1, r2, r3, r4, A2, c2, rfl, h1, h2, h3, h4, h5⟩ := hd;refine ⟨hb, _, _, rfl, ⟨A1, c1, r0, r1, r2, r3, r4, A2, c2, rfl, ?_, fun a e hn => (h2 a e hn).2, NdI.stay h3 fun k hk => ⟨hk.2, rfl⟩, ?_, fun a e hn => (h5 a e hn).2⟩, fun y _ => Code_ok y⟩
  ·exact Sq.stay2 h1 (fun a e hn => rfl) fun vs x hx => NdI.stay hx fun k hk => ⟨hk.2, rfl⟩
  ·exact Sq.stay2 h4 (fun a e hn => rfl) fun vs x hx => NdI.stay hx fun k hk => ⟨hk.2, rfl⟩
 ·obtain ⟨hb, rfl, v, rfl, hf⟩ := h.no hr hc;refine ⟨hb, _, _, rfl, DocI.zero _ _, fun y hy => ?_⟩;exact Code_any cd p _ _ w0.heap.size y (hE.on (hb0.trans ((hb.trans (hy.mono hb.size)).mono hb0.size))) (Fe.later hf hy)
end Go.Proofs.YtokdnhdfmgfkeaaGreatDoor.Xp
end

section
namespace Go.Proofs.YtokdnhdfmgfkeaaGreatDoor.Xp
open Go.RowKit UtfW Xl Xo Xt Er
theorem wA_mem : ∀ {l : List At} {a : At}, a ∈ l -> 1 + a.1.length + a.2.length <= wA l
 | b :: l, a, h => by
  rw [wA];rcases List.mem_cons.1 h with rfl | h
  ·omega
  ·have := wA_mem h;omega
theorem wA_len : ∀ l : List At, l.length <= wA l
 | [] => Nat.le_refl _
 | b :: l => by
  have := wA_len l;rw [wA, List.length_cons];omega
theorem wA_sm {l : List At} (h : wA l <= 1000000) : smA l := ⟨Nat.le_trans (wA_len l) h, fun a ha => by have := wA_mem ha; omega⟩
theorem esc_le6b (v : Bool) : ∀ s : Tx, (esc v s).length <= 6 * s.length
 | [] => by simp [esc]
 | c :: s => by
  have h1 := esc_le6b v s
  have h2 : (esc1 v c).length <= 6 := by
   unfold esc1
   repeat' split
   all_goals simp
  rw [esc, List.length_append, List.length_cons];omega
theorem wA_wr : ∀ l : List At, (writeA l).length <= 10 * wA l
 | [] => by simp [writeA]
 | a :: l => by
  have h1 := wA_wr l;have h2 := esc_le6b true a.2;rw [writeA, wA];simp;omega
mutual
theorem wN_sm : ∀ n : Nd, wN n <= 1000000 -> smN n
 | .mk k nm tx as_ ks, h => by
  rw [wN] at h;rw [smN];exact ⟨by omega, by omega, wA_sm (by omega), wL_sm ks (by omega)⟩
theorem wL_sm : ∀ l : List Nd, wL l <= 1000000 -> smL l
 | [], _ => by rw [smL]; trivial
 | x :: xs, h => by
  rw [wL] at h;rw [smL];exact ⟨wN_sm x (by omega), wL_sm xs (by omega)⟩
end
mutual
theorem wN_wr : ∀ n : Nd, (writeN n).length <= 10 * wN n
 | .mk k nm tx as_ ks => by
  have h1 := wL_wr ks;have h2 := wA_wr as_;have h3 := esc_le6b false tx;rw [writeN, wN]
  split
  ·split
   ·simp;omega
   ·simp;omega
  ·split
   ·omega
   ·split
    ·simp;omega
    ·split
     ·split
      ·simp;omega
      ·simp;omega
     ·simp
theorem wL_wr : ∀ l : List Nd, (writeL l).length <= 10 * wL l
 | [] => by rw [writeL]; simp
 | x :: xs => by
  have h1 := wN_wr x;have h2 := wL_wr xs;rw [writeL, wL, List.length_append];omega
end
mutual
theorem wN_cnt : ∀ n : Nd, countN n <= wN n
 | .mk k nm tx as_ ks => by
  have h1 := wL_cnt ks;have h2 := wA_len as_;rw [countN, wN];omega
theorem wL_cnt : ∀ l : List Nd, countL l <= wL l
 | [] => by rw [countL]; exact Nat.zero_le _
 | x :: xs => by
  have h1 := wN_cnt x;have h2 := wL_cnt xs;rw [countL, wL];omega
end
theorem small_docB {d : Doc} (h1 : wL d.before <= 3000) (h2 : wN d.root <= 3000) (h3 : wL d.after <= 3000) : DocB d :=
 {
  cnt := Nat.le_trans (wN_cnt d.root) (by omega)
  bl := Nat.le_trans (len_count d.before) (Nat.le_trans (wL_cnt d.before) (by omega))
  al := Nat.le_trans (len_count d.after) (Nat.le_trans (wL_cnt d.after) (by omega))
  wr := by
   have e1 := wL_wr d.before;have e2 := wN_wr d.root;have e3 := wL_wr d.after;unfold writeD;rw [List.length_append, List.length_append];omega
  rs := wN_sm d.root (by omega)
  bs := wL_sm d.before (by omega)
  as_ := wL_sm d.after (by omega) }
theorem SmD.docB {d : Doc} (h : SmD d 3000 true) (hz : wL d.before + wN d.root + wL d.after <= 576460752303423488) : DocB d := by
 obtain ⟨h1, h2, h3⟩ := h hz rfl;exact small_docB (by omega) (by omega) (by omega)
theorem En.up {B B' : Nat} {w : World} (h : En B w) (h1 : B <= B') (h2 : B' <= w.heap.size) : En B' w := ⟨h.et, Nat.lt_of_lt_of_le h.lt h1, h2⟩
end Go.Proofs.YtokdnhdfmgfkeaaGreatDoor.Xp
end

section
namespace Go.Proofs.YtokdnhdfmgfkeaaGreatDoor.Xp
open Go.RowKit UtfW Xl Xo Xt Er
set_option maxHeartbeats 8000000 in
set_option maxRecDepth 100000 in
theorem back_law (X : Nat -> Prop) (w : World) (hU : Un w) (hE : En w.heap.size w) (v : Value) (d : Doc) (hd : DocI X w v d) (hX : ∀ j, X j -> j < w.heap.size) (hz : wL d.before + wN d.root + wL d.after <= 576460752303423488) :
  Calls Tryz.prog 8 #[v] w fun e w' => e = .returned (.bool true) /\ Below w.heap.size w w' := by
 obtain ⟨A1, n1, c1, kd, nm, tx, Ar, n5, cr, Ak, n6, ck, A2, n2, c2, hv, -⟩ := doc_parts hd;subst hv;obtain ⟨S1, hS1⟩ : ∃ S, strOf nm = S := ⟨_, rfl⟩;obtain ⟨S2, hS2⟩ : ∃ S, strOf tx = S := ⟨_, rfl⟩;rw [hS1, hS2] at hd;rw [hS1, hS2];have hba := below_alloc w (.cells #[.slice A1 n1 c1, .int .i64 kd, .string S1, .string S2, .slice Ar n5 cr, .slice Ak n6 ck, .slice A2 n2 c2] 27);have hnb := heap_alloc_new w (.cells #[.slice A1 n1 c1, .int .i64 kd, .string S1, .string S2, .slice Ar n5 cr, .slice Ak n6 ck, .slice A2 n2 c2] 27);obtain ⟨T, hT⟩ : ∃ T, w.heap.size = T := ⟨_, rfl⟩;obtain ⟨w1, hw1⟩ : ∃ w1, w.alloc (.cells #[.slice A1 n1 c1, .int .i64 kd, .string S1, .string S2, .slice Ar n5 cr, .slice Ak n6 ck, .slice A2 n2 c2] 27) = w1 := ⟨_, rfl⟩;rw [hw1] at hba hnb;rw [hT] at hnb;have hlow : ∀ x, Below w1.heap.size w1 x -> Below w.heap.size w x := fun x hx => hba.trans (hx.mono hba.size)
 have hTb : Hid (∀ x, Below w1.heap.size w1 x -> x.heap[T]? = some (.cells #[.slice A1 n1 c1, .int .i64 kd, .string S1, .string S2, .slice Ar n5 cr, .slice Ak n6 ck, .slice A2 n2 c2] 27)) := Hd fun x hx => (hx.block T (Array.getElem?_eq_some_iff.1 hnb).1).trans hnb
 have hbX : Hid (∀ x, Below w1.heap.size w1 x -> ∀ j, X j -> j < x.heap.size) := Hd fun x hx j hj => Nat.lt_of_lt_of_le (hX j hj) (hlow x hx).size
 have hdx : Hid (∀ x, Below w1.heap.size w1 x -> DocI X x (.agg #[.slice A1 n1 c1, .int .i64 kd, .string S1, .string S2, .slice Ar n5 cr, .slice Ak n6 ck, .slice A2 n2 c2]) d) := Hd fun x hx => Xp.DocI.keep hd fun k hk => (hlow x hx).block k (hX k hk)
 have hUx : Hid (∀ x, Below w1.heap.size w1 x -> Un x) := Hd fun x hx => hU.below (hlow x hx)
 have hE1 : En w1.heap.size w1 := Xp.En.up (hE.sz hba) hba.size (Nat.le_refl _);have haw := Hd (awake11 w1 (uv_of (hU.below hba)) hE1);have hEH := Hd hE1;have hbaH := Hd hba;have hzH := Hd hz;clear hd hX hU hE hE1 hS1 hS2 hba hnb hlow hz
 go_enter Tryz.func8, Tryz.ntmps8
 go_wp2_with fail;refine haw.out.mono ?_;rintro e w2 ⟨rfl, hb2⟩;have hq2 := Hd hb2;have hqw2 := hq2;clear hb2 haw;obtain ⟨y0, y1, y2, y3, y4, y5, y6⟩ := Xp.cz7 (hTb.out w2 hq2.out);have hsc := Hd (rSmallD_any X w2 _ d 3000 (hdx.out w2 hq2.out) (hbX.out w2 hq2.out));go_wp2_with fail;refine hsc.out.mono ?_;rintro e w3 ⟨⟨b, rfl, hsm⟩, hb3⟩;have hqw3 := Xp.tr_ hq2 hb3;clear hb3 y0 y1 y2 y3 y4 y5 y6 ;obtain ⟨y0, y1, y2, y3, y4, y5, y6⟩ := Xp.cz7 (hTb.out w3 hqw3.out)
 cases b with
 | false =>
  have hfin := Xp.tu_ hbaH hqw3;go_wp2_with fail
  (try simp only [Exit.inBlock, Exit.then])
  go_ret;exact ⟨rfl, by first | exact hfin.out | (have h9 := hfin.out; rw [hT] at h9; exact h9)⟩
 | true =>
  have hDB := hsm.docB hzH.out;have hmc := Hd (rMay_any X w3 _ d (hdx.out w3 hqw3.out) (hbX.out w3 hqw3.out) hDB);replace hDB := Hd hDB;clear hsm;obtain ⟨MB, hMB⟩ : ∃ b, mayD d = b := ⟨_, rfl⟩;rw [hMB] at hmc;replace hMB := Hd hMB;go_wp2_with fail;refine hmc.out.mono ?_;rintro e w4 ⟨rfl, hb4⟩;have hqw4 := Xp.tr_ hqw3 hb4;clear hb4 y0 y1 y2 y3 y4 y5 y6 ;obtain ⟨y0, y1, y2, y3, y4, y5, y6⟩ := Xp.cz7 (hTb.out w4 hqw4.out)
  cases MB with
  | false =>
   have hfin := Xp.tu_ hbaH hqw4;go_wp2_with fail
   (try simp only [Exit.inBlock, Exit.then])
   go_ret;exact ⟨rfl, by first | exact hfin.out | (have h9 := hfin.out; rw [hT] at h9; exact h9)⟩
  | true =>
   have hbk := may_back hMB.out;have hwl := (may_docB hMB.out).2;have hdc := Hd (Doc_any X w4 (uv_of (hUx.out w4 hqw4.out)) _ d (hdx.out w4 hqw4.out) (hbX.out w4 hqw4.out) hDB.out);obtain ⟨Z, hZ⟩ : ∃ Z, writeD d = Z := ⟨_, rfl⟩;rw [hZ] at hwl hbk;replace hbk := Hd hbk;replace hwl := Hd hwl;replace hZ := Hd hZ;go_wp2_with fail;refine hdc.out.mono ?_;intro e5 w5 h5;obtain ⟨hb5, rfl⟩ := h5.ok hMB.out;rw [hZ.out];have hqw5 := Xp.tr_ hqw4 hb5;clear h5 hb5 hdc y0 y1 y2 y3 y4 y5 y6;have e1 : (strOf Z).data.toList = Z := by simp [strOf]
   have hsz : (strOf Z).size = Z.length := strOf_size' Z;obtain ⟨hbs, hbl⟩ := bs_convert w5 (strOf Z) (by rw [hsz]; have := hwl.out; omega);rw [e1] at hbs;have hcv := Lib.run_convert_string_bytes (P := Tryz.prog) w5 9 41 5 (strOf Z) Tryz.underlying9 Tryz.underlying41 Tryz.underlying5;have hqw6 := Xp.tr_ hqw5 hbl;have hpc := Hd (parse_any (Lib.bytesWorld w5 5 (strOf Z)) (hUx.out _ hqw6.out) _ _ _ Z hbs (by rw [hsz]; have := hwl.out; omega));clear hbs hbl e1 hsz;go_wp2_with fail;refine hpc.out.mono ?_;intro e9 w9 h9;obtain ⟨hb9, vd', ev', rfl, hdo', hco'⟩ := par_both hEH.out hqw6.out h9 hbk.out;obtain ⟨A1', n1', c1', kd', nm', tx', Ar', n5', cr', Ak', n6', ck', A2', n2', c2', hv', -⟩ := doc_parts hdo';subst hv';have hba := below_alloc w9 (.cells #[.slice A1' n1' c1', .int .i64 kd', .string (strOf nm'), .string (strOf tx'), .slice Ar' n5' cr', .slice Ak' n6' ck', .slice A2' n2' c2'] 27);have hnb2 := heap_alloc_new w9 (.cells #[.slice A1' n1' c1', .int .i64 kd', .string (strOf nm'), .string (strOf tx'), .slice Ar' n5' cr', .slice Ak' n6' ck', .slice A2' n2' c2'] 27);have h910 := hb9.trans (hba.mono hb9.size);have hqw10 := Xp.tr_ hqw6 h910;have hco10 : Hid (∀ y, Below (w9.alloc (.cells #[.slice A1' n1' c1', .int .i64 kd', .string (strOf nm'), .string (strOf tx'), .slice Ar' n5' cr', .slice Ak' n6' ck', .slice A2' n2' c2'] 27)).heap.size (w9.alloc (.cells #[.slice A1' n1' c1', .int .i64 kd', .string (strOf nm'), .string (strOf tx'), .slice Ar' n5' cr', .slice Ak' n6' ck', .slice A2' n2' c2'] 27)) y -> Calls Tryz.prog 22 #[ev'] y fun e z => e = .returned (.int .i64 0) /\ Below y.heap.size y z) := Hd fun y hy => hco' y (hba.trans (hy.mono hba.size))
   have hdo10 : Hid (∀ y, Below (w9.alloc (.cells #[.slice A1' n1' c1', .int .i64 kd', .string (strOf nm'), .string (strOf tx'), .slice Ar' n5' cr', .slice Ak' n6' ck', .slice A2' n2' c2'] 27)).heap.size (w9.alloc (.cells #[.slice A1' n1' c1', .int .i64 kd', .string (strOf nm'), .string (strOf tx'), .slice Ar' n5' cr', .slice Ak' n6' ck', .slice A2' n2' c2'] 27)) y -> DocI (fun k => k < w9.heap.size) y (.agg #[.slice A1' n1' c1', .int .i64 kd', .string (strOf nm'), .string (strOf tx'), .slice Ar' n5' cr', .slice Ak' n6' ck', .slice A2' n2' c2']) d) := Hd fun y hy => Xp.DocI.keep hdo' fun k hk => (hy.block k (Nat.lt_of_lt_of_le hk hba.size)).trans (hba.block k hk)
   have hsz10 : Hid (w9.heap.size <= (w9.alloc (.cells #[.slice A1' n1' c1', .int .i64 kd', .string (strOf nm'), .string (strOf tx'), .slice Ar' n5' cr', .slice Ak' n6' ck', .slice A2' n2' c2'] 27)).heap.size) := Hd hba.size;replace hnb2 := Hd hnb2;clear hb9 h9 hdo' hco' hba h910 hpc hcv
   go_upto_region 7 with fail
   change Code.wp _ _ _ _ (w9.alloc (.cells #[.slice A1' n1' c1', .int .i64 kd', .string (strOf nm'), .string (strOf tx'), .slice Ar' n5' cr', .slice Ak' n6' ck', .slice A2' n2' c2'] 27));generalize w9.alloc (.cells #[.slice A1' n1' c1', .int .i64 kd', .string (strOf nm'), .string (strOf tx'), .slice Ar' n5' cr', .slice Ak' n6' ck', .slice A2' n2' c2'] 27) = w10 at hqw10 hco10 hdo10 hsz10 hnb2 ⊢;generalize w9.heap.size = T2 at hnb2 hdo10 hsz10 ⊢;go_wp2_with fail;refine (Code_ok w10).mono ?_;rintro e11 w11 ⟨rfl, hb11⟩;have hqw11 := Xp.tr_ hqw10 hb11;have he11 := Hd hb11;have hcc := Hd (hco10.out w11 hb11);clear hb11 hco10;go_wp2_with fail;refine hcc.out.mono ?_;rintro e12 w12 ⟨rfl, hb12⟩;have hqw12 := Xp.tr_ hqw11 hb12;have he12 := Xp.tr_ he11 hb12;clear hb12 hcc;obtain ⟨y0, y1, y2, y3, y4, y5, y6⟩ := Xp.cz7 (hTb.out w12 hqw12.out);obtain ⟨z0, z1, z2, z3, z4, z5, z6⟩ := Xp.cz7 ((he12.out.block T2 (Array.getElem?_eq_some_iff.1 hnb2.out).1).trans hnb2.out);have hrd := Hd (rdocs_any w12 _ _ d d (hdo10.out w12 he12.out) (hdx.out w12 hqw12.out) (fun k hk => Nat.lt_of_lt_of_le hk (Nat.le_trans hsz10.out he12.out.size)) (hbX.out w12 hqw12.out));clear hdo10;go_wp2_with fail;refine hrd.out.mono ?_;rintro e13 w13 ⟨⟨B, rfl, hB⟩, hb13⟩;have hBt : B = true := by simpa using hB
   subst hBt;have hqw13 := Xp.tr_ hqw12 hb13;clear hb13 hB hrd y0 y1 y2 y3 y4 y5 y6 z0 z1 z2 z3 z4 z5 z6;have hfin := Xp.tu_ hbaH hqw13;go_wp2_with fail
   (try simp only [Exit.inBlock, Exit.then])
   go_ret;exact ⟨rfl, by first | exact hfin.out | (have h9 := hfin.out; rw [hT] at h9; exact h9)⟩
end Go.Proofs.YtokdnhdfmgfkeaaGreatDoor.Xp
end

section
namespace Go.Proofs.YtokdnhdfmgfkeaaGreatDoor.Xt
open Go.RowKit UtfW Xl
open Go.Deep (oneCellFields)
section
variable {H : Type} {enc : TypeId × Value -> H} {w : World}
theorem fields_of_trod {P : Program} {t : TypeId} {fs : Array Field} {cs : List Value} {m : Nat} {d : DataW H} {p : List MemPlace} (hs : P.underlying t = some (.struct fs)) (hone : oneCellFields P fs = true) (hl : cs.length = fs.size)
  (hf : DataW.trod enc P w 0 (fun _ => true) true m t cs = some (d, p)) (hz : Sized P t d) : ∃ m' ds, d = .agg ds /\ FieldsD enc P w fs m' cs ds := by
 obtain ⟨xs, n, _, hx, _, hlen, hg⟩ := DataW.trod_struct hs hf;simp only [Prod.mk.injEq] at hx;refine ⟨n, xs.map (·.1), hx.1, hl, by simpa using hlen, fun j f hj => ?_⟩;have hjl : j < fs.size := (Array.getElem?_eq_some_iff.1 hj).1;obtain ⟨ho, hk⟩ := Deep.hone_of hone j f hj;have h1 := hg j f hj;rw [ho, hk] at h1;have hv : cs[j]? = some (cs[j]'(by omega)) := List.getElem?_eq_getElem (by omega)
 have e : (cs.drop j).take 1 = [cs[j]'(by omega)] := by
  rw [List.drop_eq_getElem_cons (by omega)];rfl
 rw [e] at h1;have hys : xs[j]? = some (xs[j]'(by omega)) := List.getElem?_eq_getElem (by omega);refine ⟨cs[j]'(by omega), xs[j]'(by omega), hv, by rw [List.getElem?_map, hys]; rfl, h1.trans hys, ?_⟩;have hd : d = .agg (xs.map (·.1)) := hx.1;rw [hd] at hz;exact hz.field hs hj (d := (xs[j]'(by omega)).1) (by rw [List.getElem?_map, hys]; rfl)
theorem list7 {α : Type} {l : List α} (h : l.length = 7) : ∃ a b c d e f g, l = [a, b, c, d, e, f, g] := by
 match l, h with
 | [a, b, c, d, e, f, g], _ => exact ⟨a, b, c, d, e, f, g, rfl⟩
theorem list3 {α : Type} {l : List α} (h : l.length = 3) : ∃ a b c, l = [a, b, c] := by
 match l, h with
 | [a, b, c], _ => exact ⟨a, b, c, rfl⟩
set_option maxRecDepth 100000 in
set_option maxHeartbeats 1000000 in
theorem doc_of_trod {r : Reach} {b0 : Nat} {v : Value} {d : DataW H} {p : List MemPlace} (hv : Value.okWide Tryz.prog w r b0 27 v) (h : DataW.Trod enc Tryz.prog w 0 (fun _ => true) true 27 v d p) (hz : Sized Tryz.prog 27 d) :
  ∃ x, DocI (fun j => j < w.heap.size) w v x /\ wL x.before + wN x.root + wL x.after <= Rows.uptoBulk d := by
 have hs := Tryz.underlying27;obtain ⟨cs, rfl, hsz⟩ := WideShapes.okWide_struct hs hv;obtain ⟨l⟩ := cs;have hC : Tryz.prog.cellsOf 27 = 7 := by kernel_rfl
 have hl : l.length = 7 := by have := hsz.trans hC; simpa using this
 obtain ⟨a0, v0, v1, v2, v3, v4, a1, rfl⟩ := list7 hl;obtain ⟨fuel, hf⟩ := h;obtain ⟨xs, n, _, hx, _, hlen, hg⟩ := DataW.trod_struct hs hf;simp only [Prod.mk.injEq] at hx;obtain ⟨y0, y1, y2, rfl⟩ := list3 (l := xs) (by simpa using hlen);obtain ⟨rfl, -⟩ := hx;have k5 : Tryz.prog.cellsOf 25 = 5 := by kernel_rfl
 have k1 : Tryz.prog.cellsOf 22 = 1 := by kernel_rfl
 have g0 : DataW.trod enc Tryz.prog w 0 (fun _ => true) true n 22 [a0] = some y0 := by
  have : DataW.trod enc Tryz.prog w 0 (fun _ => true) true n 22 ((([a0, v0, v1, v2, v3, v4, a1] : List Value).drop 0).take (Tryz.prog.cellsOf 22)) = some y0 := hg 0 _ rfl;rw [k1] at this;exact this
 have g1 : DataW.trod enc Tryz.prog w 0 (fun _ => true) true n 25 [v0, v1, v2, v3, v4] = some y1 := by
  have : DataW.trod enc Tryz.prog w 0 (fun _ => true) true n 25 ((([a0, v0, v1, v2, v3, v4, a1] : List Value).drop 1).take (Tryz.prog.cellsOf 25)) = some y1 := hg 1 _ rfl;rw [k5] at this;exact this
 have g2 : DataW.trod enc Tryz.prog w 0 (fun _ => true) true n 22 [a1] = some y2 := by
  have : DataW.trod enc Tryz.prog w 0 (fun _ => true) true n 22 ((([a0, v0, v1, v2, v3, v4, a1] : List Value).drop 6).take (Tryz.prog.cellsOf 22)) = some y2 := hg 2 _ rfl;rw [k1] at this;exact this
 have s0 := hz.field hs (j := 0) rfl (d := y0.1) rfl;have s1 := hz.field hs (j := 1) rfl (d := y1.1) rfl;have s2 := hz.field hs (j := 2) rfl (d := y2.1) rfl
 obtain ⟨A0, n0, c0, l0, es0, sp0, rfl, q0, r0, f0, e0, h0⟩ := sq_of_rows (El := NdE (fun j => j < w.heap.size)) (R := fun n d => bN n /\ wN n <= Rows.uptoBulk d) Tryz.underlying22 Tryz.underlying25 (by kernel_rfl) (by kernel_rfl) (by decide) (d := y0.1) (p := y0.2) g0 s0
  (fun m' vs' ds' _ h => node_each m' m' vs' ds' (Nat.le_refl _) Tryz.underlying25 h)
 obtain ⟨A2, n2, c2, l2, es2, sp2, rfl, q2, r2, f2, e2, h2⟩ := sq_of_rows (El := NdE (fun j => j < w.heap.size)) (R := fun n d => bN n /\ wN n <= Rows.uptoBulk d) Tryz.underlying22 Tryz.underlying25 (by kernel_rfl) (by kernel_rfl) (by decide) (d := y2.1) (p := y2.2) g2 s2
  (fun m' vs' ds' _ h => node_each m' m' vs' ds' (Nat.le_refl _) Tryz.underlying25 h)
 obtain ⟨m1, ds1, e1, hF⟩ := fields_of_trod (d := y1.1) (p := y1.2) Tryz.underlying25 (by kernel_rfl) rfl g1 s1;obtain ⟨rt, hN, _, hw1⟩ := node_each m1 m1 _ ds1 (Nat.le_refl _) Tryz.underlying25 hF;have hl0 := q0.len;have hl2 := q2.len;subst hl0;subst hl2;refine ⟨⟨l0, rt, l2⟩, ⟨A0, c0, v0, v1, v2, v3, v4, A2, c2, rfl, q0, sq_blk q0, hN, q2, sq_blk q2⟩, ?_⟩
 have w0 := wL_bulk (l := l0) (es := es0) e0 fun i x hi => by
  obtain ⟨y, h5, _, h6⟩ := h0 i x hi;exact ⟨y, h5, h6⟩
 have w2 := wL_bulk (l := l2) (es := es2) e2 fun i x hi => by
  obtain ⟨y, h5, _, h6⟩ := h2 i x hi;exact ⟨y, h5, h6⟩
 have u0 : Rows.uptoBulkAll es0 <= Rows.uptoBulk y0.1 := by
  rcases f0 with f0 | ⟨f0, rfl⟩
  ·rw [f0, Rows.uptoBulk]; omega
  ·rw [Rows.uptoBulkAll]; exact Nat.zero_le _
 have u2 : Rows.uptoBulkAll es2 <= Rows.uptoBulk y2.1 := by
  rcases f2 with f2 | ⟨f2, rfl⟩
  ·rw [f2, Rows.uptoBulk]; omega
  ·rw [Rows.uptoBulkAll]; exact Nat.zero_le _
 rw [<- e1] at hw1;simp only [List.map_cons, List.map_nil, Rows.uptoBulk, Rows.uptoBulkAll];omega
end
end Go.Proofs.YtokdnhdfmgfkeaaGreatDoor.Xt
end
