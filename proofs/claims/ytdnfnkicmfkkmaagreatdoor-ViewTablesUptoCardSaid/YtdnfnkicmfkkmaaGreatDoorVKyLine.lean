/- keys.line. -/
import Derived.Test.YtdnfnkicmfkkmaaGreatDoorVXtW
import Derived.Test.YtdnfnkicmfkkmaaGreatDoorVXpDoc
import Derived.Test.YtdnfnkicmfkkmaaGreatDoorVUtfEnc
import Derived.Test.YtdnfnkicmfkkmaaGreatDoorVXnTok
import Derived.Test.YtdnfnkicmfkkmaaGreatDoorVXlScan
import Derived.Test.YtdnfnkicmfkkmaaGreatDoorVNoRb
import Derived.Test.YtdnfnkicmfkkmaaGreatDoorVXnSt1
import Derived.Test.YtdnfnkicmfkkmaaGreatDoorVStrLaws
import Derived.Test.YtdnfnkicmfkkmaaGreatDoorVKyRb
set_option linter.unusedVariables false
set_option linter.unusedSimpArgs false
section
namespace Go.Proofs.YtdnfnkicmfkkmaaGreatDoor.Xt
open Go.RowKit UtfW Xl
open Go.Deep (oneCellFields)
section
variable {H : Type}
theorem wL_bulk : ∀ {l : List Nd} {es : List (DataW H)}, es.length = l.length -> (∀ (i : Nat) x, l[i]? = some x -> ∃ y, es[i]? = some y /\ wN x <= Rows.uptoBulk y) -> wL l <= Rows.uptoBulkAll es
 | [], es, _, _ => by rw [wL]; exact Nat.zero_le _
 | x :: l, [], h, _ => by simp at h
 | x :: l, y :: es, h, hi => by
  obtain ⟨y', h1, h2⟩ := hi 0 x rfl;injection h1 with h1;subst h1;have := wL_bulk (l := l) (es := es) (by simpa using h) fun i z hz => hi (i + 1) z hz
  rw [wL, Rows.uptoBulkAll];omega
theorem wA_bulk : ∀ {l : List At} {es : List (DataW H)}, es.length = l.length -> (∀ (i : Nat) x, l[i]? = some x -> ∃ y, es[i]? = some y /\ 1 + x.1.length + x.2.length <= Rows.uptoBulk y) -> wA l <= Rows.uptoBulkAll es
 | [], es, _, _ => by rw [wA]; exact Nat.zero_le _
 | x :: l, [], h, _ => by simp at h
 | x :: l, y :: es, h, hi => by
  obtain ⟨y', h1, h2⟩ := hi 0 x rfl;injection h1 with h1;subst h1;have := wA_bulk (l := l) (es := es) (by simpa using h) fun i z hz => hi (i + 1) z hz
  rw [wA, Rows.uptoBulkAll];omega
end
theorem list5 {α : Type} {vs : List α} (h : vs.length = 5) {a b c d e : α} (h0 : vs[0]? = some a) (h1 : vs[1]? = some b) (h2 : vs[2]? = some c) (h3 : vs[3]? = some d) (h4 : vs[4]? = some e) : vs = [a, b, c, d, e] := by
 match vs, h with
 | [x0, x1, x2, x3, x4], _ => simp at h0 h1 h2 h3 h4; rw [h0, h1, h2, h3, h4]
theorem list2 {α : Type} {vs : List α} (h : vs.length = 2) {a b : α} (h0 : vs[0]? = some a) (h1 : vs[1]? = some b) : vs = [a, b] := by
 match vs, h with
 | [x0, x1], _ => simp at h0 h1; rw [h0, h1]
theorem sq_blk {α : Type} {El : World -> List Value -> α -> Prop} {k : Nat} {w : World} {A : Option Addr} {n c : Nat} {l : List α} (h : Sq El k w A n c l) : ∀ a, A = some a -> 0 < n -> a.block < w.heap.size := fun a e hn => by
 obtain ⟨b, off, e2, hlt, _⟩ := h.cell hn;rw [e] at e2;injection e2 with e2;rw [e2];exact hlt
section
variable {H : Type} {enc : TypeId × Value -> H} {w : World}
set_option maxRecDepth 100000 in
theorem attr_each (m : Nat) (vs : List Value) (ds : List (DataW H)) {fs : Array Field} (hs : Tryz.prog.underlying 68 = some (.struct fs)) (h : FieldsD enc Tryz.prog w fs m vs ds) :
  ∃ a : At, AtEl w vs a /\ (a.1.length <= 140737488351232 /\ a.2.length <= 140737488351232) /\ 1 + a.1.length + a.2.length <= Rows.uptoBulk (DataW.agg ds) := by
 have e := Tryz.underlying68;rw [hs] at e;injection e with e;injection e with e;subst e;obtain ⟨hl, hd, hf⟩ := h;obtain ⟨v0, y0, e0, d0, t0, z0⟩ := hf 0 _ rfl;obtain ⟨v1, y1, e1, d1, t1, z1⟩ := hf 1 _ rfl;obtain ⟨s0, c0, rfl, _⟩ := DataW.trod_string Tryz.underlying9 t0;obtain ⟨s1, c1, rfl, _⟩ := DataW.trod_string Tryz.underlying9 t1;injection c0 with c0; injection c1 with c1
 subst c0; subst c1
 have g0 := Sized.string z0;have g1 := Sized.string z1;refine ⟨(s0.data.toList, s1.data.toList), list2 hl e0 e1, ⟨by rw [Array.length_toList]; exact g0, by rw [Array.length_toList]; exact g1⟩, ?_⟩;rw [list2 hd d0 d1];simp only [Rows.uptoBulk, Rows.uptoBulkAll];omega
set_option maxRecDepth 100000 in
set_option maxHeartbeats 1000000 in
theorem node_each : ∀ (k m : Nat) (vs : List Value) (ds : List (DataW H)) {fs : Array Field}, m <= k -> Tryz.prog.underlying 26 = some (.struct fs) -> FieldsD enc Tryz.prog w fs m vs ds →
  ∃ n, NdI (fun j => j < w.heap.size) w vs n /\ bN n /\ wN n <= Rows.uptoBulk (DataW.agg ds) := by
 intro k
 induction k using Nat.strongRecOn with
 | _ k ih =>
 intro m vs ds fs hk hs h;have e := Tryz.underlying26;have hs0 := hs;rw [hs] at e;injection e with e;injection e with e;subst e;obtain ⟨hl, hd, hf⟩ := h;obtain ⟨v0, y0, e0, d0, t0, z0⟩ := hf 0 _ rfl;obtain ⟨v1, y1, e1, d1, t1, z1⟩ := hf 1 _ rfl;obtain ⟨v2, y2, e2, d2, t2, z2⟩ := hf 2 _ rfl;obtain ⟨v3, y3, e3, d3, t3, z3⟩ := hf 3 _ rfl;obtain ⟨v4, y4, e4, d4, t4, z4⟩ := hf 4 _ rfl;obtain ⟨n0, c0, rfl, _⟩ := DataW.trod_int Tryz.underlying3 t0;obtain ⟨s1, c1, rfl, _⟩ := DataW.trod_string Tryz.underlying9 t1;obtain ⟨s2, c2, rfl, _⟩ := DataW.trod_string Tryz.underlying9 t2;injection c0 with c0; injection c1 with c1; injection c2 with c2
 subst c0; subst c1; subst c2
 obtain ⟨A3, n3, c3, l3, es3, sp3, rfl, q3, r3, f3, g3, h3⟩ := sq_of_rows (El := AtEl) (R := fun a d => (a.1.length <= 140737488351232 /\ a.2.length <= 140737488351232) /\ 1 + a.1.length + a.2.length <= Rows.uptoBulk d) Tryz.underlying23 Tryz.underlying68 (by kernel_rfl) (by kernel_rfl) (by decide) (d := y3.1) (p := y3.2) t3 z3
  (fun m' vs' ds' _ h => attr_each m' vs' ds' Tryz.underlying68 h)
 obtain ⟨A4, n4, c4, l4, es4, sp4, rfl, q4, r4, f4, g4, h4⟩ := sq_of_rows (El := NdE (fun j => j < w.heap.size)) (R := fun n d => bN n /\ wN n <= Rows.uptoBulk d) Tryz.underlying24 hs0 (by kernel_rfl) (by kernel_rfl) (by decide) (d := y4.1) (p := y4.2) t4 z4
  (fun m' vs' ds' hm h => ih m' (by omega) m' vs' ds' (Nat.le_refl _) hs0 h)
 have hl3 := q3.len;have hl4 := q4.len;subst hl3;subst hl4;have b1 := Sized.string z1;have b2 := Sized.string z2;refine ⟨.mk n0 s1.data.toList s2.data.toList l3 l4, ?_, ?_, ?_⟩
 ·rw [list5 hl e0 e1 e2 e3 e4];exact NdI.make (nm := s1.data.toList) (tx := s2.data.toList) q3 (sq_blk q3) q4 (sq_blk q4)
 ·rw [bN];refine ⟨by rw [Array.length_toList]; exact b1, by rw [Array.length_toList]; exact b2, ⟨?_, fun a ha => ?_⟩, bL_of fun i x hi => ?_⟩
  ·have hb : Tryz.prog.bytesOf 68 = 32 := by kernel_rfl
   rw [hb] at r3;omega
  ·obtain ⟨i, hi⟩ := List.getElem?_of_mem ha;obtain ⟨y, _, h5, _⟩ := h3 i a hi;exact h5
  ·obtain ⟨y, _, h5, _⟩ := h4 i x hi;exact h5
 ·have w3 := wA_bulk (l := l3) (es := es3) g3 fun i x hi => by
   obtain ⟨y, h5, _, h6⟩ := h3 i x hi;exact ⟨y, h5, h6⟩
  have w4 := wL_bulk (l := l4) (es := es4) g4 fun i x hi => by
   obtain ⟨y, h5, _, h6⟩ := h4 i x hi;exact ⟨y, h5, h6⟩
  have u3 : Rows.uptoBulkAll es3 <= Rows.uptoBulk y3.1 := by
   rcases f3 with f3 | ⟨f3, rfl⟩
   ·rw [f3, Rows.uptoBulk]; omega
   ·rw [Rows.uptoBulkAll]; exact Nat.zero_le _
  have u4 : Rows.uptoBulkAll es4 <= Rows.uptoBulk y4.1 := by
   rcases f4 with f4 | ⟨f4, rfl⟩
   ·rw [f4, Rows.uptoBulk]; omega
   ·rw [Rows.uptoBulkAll]; exact Nat.zero_le _
  rw [list5 hd d0 d1 d2 d3 d4];simp only [Rows.uptoBulk, Rows.uptoBulkAll, wN];omega
theorem open_structD {P : Program} {r : Reach} {b0 : Nat} {t : TypeId} {fs : Array Field} {v : Value} {d : DataW H} {p : List MemPlace} (hs : P.underlying t = some (.struct fs)) (hone : oneCellFields P fs = true) (hC : P.cellsOf t = fs.size)
  (hv : Value.okWide P w r b0 t v) (h : DataW.Trod enc P w 0 (fun _ => true) true t v d p) (hz : Sized P t d) : ∃ vs m ds, v = .agg vs.toArray /\ d = .agg ds /\ FieldsD enc P w fs m vs ds := by
 obtain ⟨cs, rfl, hsz⟩ := WideShapes.okWide_struct hs hv;obtain ⟨l⟩ := cs;have hl : l.length = fs.size := by have := hsz.trans hC; simpa using this
 obtain ⟨fuel, hf⟩ := h;obtain ⟨xs, n, _, hx, _, hlen, hg⟩ := DataW.trod_struct hs hf;simp only [Prod.mk.injEq] at hx;refine ⟨l, n, xs.map (·.1), rfl, hx.1, hl, by simpa using hlen, fun j f hj => ?_⟩;have hjl : j < fs.size := (Array.getElem?_eq_some_iff.1 hj).1;obtain ⟨ho, hk⟩ := Deep.hone_of hone j f hj;have h1 := hg j f hj;rw [ho, hk] at h1;have hv : l[j]? = some (l[j]'(by omega)) := List.getElem?_eq_getElem (by omega)
 have e : ((Value.agg ⟨l⟩).cells.toList.drop j).take 1 = [l[j]'(by omega)] := by
  show (l.drop j).take 1 = _
  rw [List.drop_eq_getElem_cons (by omega)];rfl
 rw [e] at h1;have hys : xs[j]? = some (xs[j]'(by omega)) := List.getElem?_eq_getElem (by omega);refine ⟨l[j]'(by omega), xs[j]'(by omega), hv, by rw [List.getElem?_map, hys]; rfl, h1.trans hys, ?_⟩;have hd : d = .agg (xs.map (·.1)) := hx.1;rw [hd] at hz;exact hz.field hs hj (d := (xs[j]'(by omega)).1) (by rw [List.getElem?_map, hys]; rfl)
set_option maxRecDepth 100000 in
theorem node_of_trod {r : Reach} {b0 : Nat} {v : Value} {d : DataW H} {p : List MemPlace} (hv : Value.okWide Tryz.prog w r b0 26 v) (h : DataW.Trod enc Tryz.prog w 0 (fun _ => true) true 26 v d p) (hz : Sized Tryz.prog 26 d) :
  ∃ vs n, v = .agg vs.toArray /\ NdI (fun j => j < w.heap.size) w vs n /\ bN n /\ wN n <= Rows.uptoBulk d := by
 obtain ⟨vs, m, ds, rfl, rfl, hF⟩ := open_structD Tryz.underlying26 (by kernel_rfl) (by kernel_rfl) hv h hz;obtain ⟨n, h1, h2, h3⟩ := node_each m m vs ds (Nat.le_refl _) Tryz.underlying26 hF;exact ⟨vs, n, rfl, h1, h2, h3⟩
end
end Go.Proofs.YtdnfnkicmfkkmaaGreatDoor.Xt
end

section

end

section
namespace Go.Proofs.YtdnfnkicmfkkmaaGreatDoor.Xt
open Go.RowKit UtfW Xl
theorem wL_append : ∀ a b, wL (a ++ b) = wL a + wL b
 | [], b => by simp [wL]
 | x :: a, b => by simp only [List.cons_append, wL, wL_append a b]; omega
theorem wA_append : ∀ a b, wA (a ++ b) = wA a + wA b
 | [], b => by simp [wA]
 | x :: a, b => by simp only [List.cons_append, wA, wA_append a b]; omega
theorem wL_take : ∀ (l : List Nd) (i : Nat), wL (l.take i) <= wL l
 | [], i => by simp
 | x :: l, 0 => by simp [wL]
 | x :: l, i + 1 => by
  have := wL_take l i;rw [List.take_succ_cons, wL, wL];omega
theorem wA_take : ∀ (l : List At) (i : Nat), wA (l.take i) <= wA l
 | [], i => by simp
 | x :: l, 0 => by simp [wA]
 | x :: l, i + 1 => by
  have := wA_take l i;rw [List.take_succ_cons, wA, wA];omega
theorem wL_next {ks : List Nd} {i : Nat} {x : Nd} (h : ks[i]? = some x) : wL (ks.take (i + 1)) = wL (ks.take i) + wN x := by
 rw [take_snoc h, wL_append];simp [wL]
theorem wA_next {l : List At} {i : Nat} {x : At} (h : l[i]? = some x) : wA (l.take (i + 1)) = wA (l.take i) + (1 + x.1.length + x.2.length) := by
 rw [take_snoc h, wA_append];simp [wA]
theorem wrap_in {x : Int} (h0 : -9223372036854775808 <= x) (h1 : x < 9223372036854775808) : wrap64 x = x := by
 unfold wrap64;omega
def SmP (n : Nd) (most c : Int) : Prop := wN n <= 1152921504606846976 -> 0 <= c /\ c <= (wN n : Nat) /\ (c <= most -> c = (wN n : Nat))
set_option maxHeartbeats 8000000 in
set_option maxRecDepth 100000 in
theorem rsmall_any : ∀ (k : Nat) (X : Nat -> Prop) (w : World) (vs : List Value) (n : Nd) (most : Int), SizeOf.sizeOf n <= k -> NdI X w vs n -> (∀ j, X j -> j < w.heap.size) →
  Calls Tryz.prog 71 #[.agg vs.toArray, .int .i64 most] w fun e w' => (∃ c : Int, e = .returned (.int .i64 c) /\ SmP n most c) /\ Below w.heap.size w w' := by
 intro k
 induction k with
 | zero =>
  intro X w vs n most hk;obtain ⟨kd, nm, tx, as_, ks⟩ := n;simp at hk
 | succ k ih =>
  intro X w vs n most hk hn hX;obtain ⟨kd, nm, tx, as_, ks⟩ := n;obtain ⟨A, ca, A2, c2, rfl, hA, hK, -, -⟩ := hn.cells;have hlen : ks.length <= 9223372036854775807 := Nat.le_trans hK.le hK.max;have hlea : as_.length <= 9223372036854775807 := Nat.le_trans hA.le hA.max;obtain ⟨m, hm⟩ : ∃ m, ks.length = m := ⟨_, rfl⟩;obtain ⟨la, hla⟩ : ∃ la, as_.length = la := ⟨_, rfl⟩;obtain ⟨S1, hS1⟩ : ∃ S, strOf nm = S := ⟨_, rfl⟩;obtain ⟨S2, hS2⟩ : ∃ S, strOf tx = S := ⟨_, rfl⟩;have hz1 : S1.size = nm.length := by rw [<- hS1]; exact strOf_size nm
  have hz2 : S2.size = tx.length := by rw [<- hS2]; exact strOf_size tx
  obtain ⟨z1, hzz1⟩ : ∃ z, S1.size = z := ⟨_, rfl⟩;obtain ⟨z2, hzz2⟩ : ∃ z, S2.size = z := ⟨_, rfl⟩;have hW : wN (.mk kd nm tx as_ ks) = 1 + z1 + z2 + wA as_ + wL ks := by rw [wN, <- hzz1, <- hzz2, hz1, hz2]
  rw [hm] at hK hlen;rw [hla] at hA hlea;rw [hm, hla, hS1, hS2];have hba := below_alloc w (.cells #[.int .i64 kd, .string S1, .string S2, .slice A la ca, .slice A2 m c2] 26);have hnb := heap_alloc_new w (.cells #[.int .i64 kd, .string S1, .string S2, .slice A la ca, .slice A2 m c2] 26);have ih := Hd ih;obtain ⟨T, hT⟩ : ∃ T, w.heap.size = T := ⟨_, rfl⟩;obtain ⟨w1, hw1⟩ : ∃ w1, w.alloc (.cells #[.int .i64 kd, .string S1, .string S2, .slice A la ca, .slice A2 m c2] 26) = w1 := ⟨_, rfl⟩;rw [hw1] at hba hnb;rw [hT] at hnb;have x1 : w1.cell? ⟨T, 1, none⟩ = some (.string S1) := cell_blk hnb rfl;have x2 : w1.cell? ⟨T, 2, none⟩ = some (.string S2) := cell_blk hnb rfl;have x3 : w1.cell? ⟨T, 3, none⟩ = some (.slice A la ca) := cell_blk hnb rfl;have x4 : w1.cell? ⟨T, 4, none⟩ = some (.slice A2 m c2) := cell_blk hnb rfl
  have hkid : Hid (∀ i x, ks[i]? = some x -> SizeOf.sizeOf x <= k) := Hd fun i x hx => by
   have := kid_lt (k := kd) (nm := nm) (tx := tx) (as_ := as_) hx;omega
  have hXH := Hd hX;replace hK := Hd hK;replace hA := Hd (hA.below AtEl.to hba);replace hba := Hd hba;replace hm := Hd hm;replace hla := Hd hla
  have h0 : Hid (wN (.mk kd nm tx as_ ks) <= 1152921504606846976 -> wrap64 (wrap64 (1 + (z1 : Int)) + (z2 : Int)) = ((1 + z1 + z2 + wA (as_.take 0) : Nat) : Int)) := Hd fun hB => by
   rw [hW] at hB;rw [wrap_in (x := 1 + (z1 : Int)) (by omega) (by omega), wrap_in (by omega) (by omega)];simp [wA]
  replace hW := Hd hW;clear hnb hX hn hk hz1 hz2 hS1 hS2
  go_enter Tryz.func71, Tryz.ntmps71
  go_wp2_with fail
  go_loopw [5, 6] (fun vc vi wr => ∃ (i : Nat) (c : Int), i <= la /\ vi = .int .i64 (i : Nat) /\ vc = .int .i64 c /\ Hid (wN (.mk kd nm tx as_ ks) <= 1152921504606846976 -> c = ((1 + z1 + z2 + wA (as_.take i) : Nat) : Int)) /\ Hid (Below w1.heap.size w1 wr)) (fun _ vi _ => la - (intOf vi).toNat)
  case atStart => exact ⟨0, _, Nat.zero_le _, rfl, rfl, h0, Hd (Below.refl _ _)⟩
  case round =>
   obtain ⟨i, c, hi, rfl, rfl, hc, hb1⟩ := hrel;have y3 := cell_keep x3 hb1.out;have y4 := cell_keep x4 hb1.out
   by_cases hlt : i < la
   ·have i1 : decide ((i : Int) < (la : Int)) = true := by simp; omega
    have q1 : (i : Int) < (la : Int) := by omega
    by_cases hcm : c <= most
    ·have i2 : decide (c <= most) = true := (by simpa using hcm);obtain ⟨b1, off1, ax, vs1, rfl, _, hx1, _, hv1, hc1⟩ := (hA.out.below AtEl.to hb1.out).at_ hlt;unfold AtEl at hv1;subst hv1;obtain ⟨a1, a2⟩ := ax;obtain ⟨s1, hs1⟩ : ∃ S, strOf a1 = S := ⟨_, rfl⟩;obtain ⟨s2, hs2⟩ : ∃ S, strOf a2 = S := ⟨_, rfl⟩;have g1 : s1.size = a1.length := by rw [<- hs1]; exact strOf_size a1
     have g2 : s2.size = a2.length := by rw [<- hs2]; exact strOf_size a2
     simp only [hs1, hs2] at hc1;obtain ⟨u1, hu1⟩ : ∃ z, s1.size = z := ⟨_, rfl⟩;obtain ⟨u2, hu2⟩ : ∃ z, s2.size = z := ⟨_, rfl⟩;have m0 := hc1 0 _ rfl;have m1 := hc1 1 _ rfl;rw [Nat.add_zero] at m0
     have hnext : Hid (wN (.mk kd nm tx as_ ks) <= 1152921504606846976 -> wrap64 (wrap64 (wrap64 (c + 1) + (u1 : Int)) + (u2 : Int)) = ((1 + z1 + z2 + wA (as_.take (i + 1)) : Nat) : Int)) := Hd fun hB => by
      have e := hc.out hB;rw [hW.out] at hB;have e2 := wA_next hx1;have e3 := wA_take as_ (i + 1);simp only at e2;rw [<- g1, <- g2, hu1, hu2] at e2;rw [e2] at e3;rw [e2, e, wrap_in (x := _ + 1) (by omega) (by omega), wrap_in (x := _ + (u1 : Int)) (by omega) (by omega), wrap_in (by omega) (by omega)];omega
     have hbd := Hd (hb1.out.trans ((Joins.below_draws wr.heap.size wr 1).mono hb1.out.size));clear hc1 hx1 g1 g2 hs1 hs2 hcm;go_wp2_with fail;refine Pl.wp_region_plan 17 (.take 0 (.take 1 (.take 2 (.take 3 (.take 4 (.take 5 (.take 6 (.take 7 (.take 8 (.take 9 (.take 10 (.take 11 (.take 12 (.take 13 (.take 14 (.take 15 (.take 16 .done))))))))))))))))) (fun x => x.cell? ⟨T, 3, none⟩ = some (.slice (some ⟨b1, off1, none⟩) la ca) /\ x.cell? ⟨b1, off1 + i * 2, none⟩ = some (.string s1) /\ x.cell? ⟨b1, off1 + i * 2 + 1, none⟩ = some (.string s2)) (by kernel_rfl) (by kernel_rfl) (by exact ⟨y3, m0, m1⟩) ?_;simp only [Pl.fill, Al_4, Al_5, Al_6, Al_7]
     iterate 17
      refine Pl.take_go ?_ (by rfl) (fun _ _ _ h => h) ?_ ?_
      rotate_left
      ·(intro x hSw; (try dsimp only at hSw); go_simp; try with_reducible rfl)
      try simp only [Act.put, Al_1, Al_2, Al_3]
     refine Pl.done_go ?_;go_wp2_with fail;go_roundw
     case rel => exact ⟨i + 1, _, by omega, by go_num, rfl, hnext, hbd⟩
     case measure => simp [intOf]; omega
    ·have i2 : decide (c <= most) = false := by simpa using hcm
     have hJ : Hid (wN (.mk kd nm tx as_ ks) <= 1152921504606846976 -> c = ((1 + z1 + z2 + wA as_ + wL (ks.take 0) : Nat) : Int) \/ (most < c /\ 0 <= c /\ c <= ((wN (.mk kd nm tx as_ ks) : Nat) : Int))) := Hd fun hB => by
      have e := hc.out hB;have e3 := wA_take as_ i;rw [hW.out];refine .inr ⟨by omega, by omega, by omega⟩
     have hb0 := hb1;clear hcm hc hb1;go_wp2_with fail;clear i1 i2
     go_loopw [5, 7] (fun vc vi wr => ∃ (j : Nat) (c : Int), j <= m /\ vi = .int .i64 (j : Nat) /\ vc = .int .i64 c /\ Hid (wN (.mk kd nm tx as_ ks) <= 1152921504606846976 -> c = ((1 + z1 + z2 + wA as_ + wL (ks.take j) : Nat) : Int) \/ (most < c /\ 0 <= c /\ c <= ((wN (.mk kd nm tx as_ ks) : Nat) : Int))) /\ Hid (Below w1.heap.size w1 wr)) (fun _ vi _ => m - (intOf vi).toNat)
     case atStart => exact ⟨0, _, Nat.zero_le _, rfl, rfl, hJ, hb0⟩
     case round =>
      clear hJ hb0 y3 y4;obtain ⟨j, c, hj, rfl, rfl, hJ, hb1⟩ := hrel;have y4 := cell_keep x4 hb1.out;have hb := Hd (hba.out.trans (hb1.out.mono hba.out.size))
      by_cases hlt : j < m
      ·have i1 : decide ((j : Int) < (m : Int)) = true := by simp; omega
       have q1 : (j : Int) < (m : Int) := by omega
       by_cases hcm : c <= most
       ·have i2 : decide (c <= most) = true := (by simpa using hcm);have hKr := Sq.kept_ hK.out hb.out (fun vs x h => NdI.later h hXH.out hb.out);obtain ⟨b1, off1, x, vs1, rfl, _, hx1, _, hv1, hc1⟩ := hKr.at_ hlt;have hszx := hkid.out j x hx1;have hX1 : ∀ j, X j -> j < wr.heap.size := fun j hj => Nat.lt_of_lt_of_le (hXH.out j hj) hb.out.size
        have hrec := Hd (ih.out X wr _ _ most hszx hv1 hX1);replace hx1 := Hd hx1;obtain ⟨kx, nx_, tx_, ax, kx_⟩ := x;obtain ⟨Ax, cax, A2x, c2x, rfl, -⟩ := hv1.cells;have m0 := hc1 0 _ rfl;have m1 := hc1 1 _ rfl;have m2 := hc1 2 _ rfl;have m3 := hc1 3 _ rfl;have m4 := hc1 4 _ rfl;rw [Nat.add_zero] at m0;replace hcm := Hd hcm;clear hszx hKr hv1 hc1 hX1;go_wp2_with fail;refine hrec.out.mono ?_;rintro e w5 ⟨⟨d, rfl, hd⟩, hb5⟩;have hw5 := Hd (hb1.out.trans (hb5.mono hb1.out.size))
        have hnext : Hid (wN (.mk kd nm tx as_ ks) <= 1152921504606846976 -> wrap64 (c + d) = ((1 + z1 + z2 + wA as_ + wL (ks.take (j + 1)) : Nat) : Int) \/ (most < wrap64 (c + d) /\ 0 <= wrap64 (c + d) /\ wrap64 (c + d) <= ((wN (.mk kd nm tx as_ ks) : Nat) : Int))) := Hd fun hB => by
         have e := hJ.out hB;have e1 := hcm.out;have e2 := wL_next hx1.out;have e3 := wL_take ks (j + 1);have hB' := hB;rw [hW.out] at hB';rw [e2] at e3;obtain ⟨d0, d1, d2⟩ := hd (by omega);rw [e2]
         have e : c = ((1 + z1 + z2 + wA as_ + wL (ks.take j) : Nat) : Int) := by
          rcases e with e | e
          ·exact e
          ·omega
         rw [wrap_in (by omega) (by omega), hW.out]
         by_cases hdm : d <= most
         ·have := d2 hdm;exact .inl (by omega)
         ·exact .inr ⟨by omega, by omega, by omega⟩
        clear hb5 m0 m1 m2 m3 m4 hd;go_wp2_with fail;go_roundw
        case rel => exact ⟨j + 1, _, by omega, by go_num, rfl, hnext, hw5⟩
        case measure => simp [intOf]; omega
       ·have i2 : decide (c <= most) = false := by simpa using hcm
        have hres : Hid (SmP (.mk kd nm tx as_ ks) most c) := Hd fun hB => by
         have e := hJ.out hB;have e3 := wL_take ks j;rw [hW.out] at e ⊢;refine ⟨by omega, by omega, fun h => absurd h hcm⟩
        clear hJ hcm;go_wp2_with fail
        (try simp only [Exit.inBlock, Exit.then])
        go_ret;exact ⟨⟨_, rfl, hres.out⟩, hb.out⟩
      ·have i1 : decide ((j : Int) < (m : Int)) = false := by simp; omega
       have hres : Hid (SmP (.mk kd nm tx as_ ks) most c) := Hd fun hB => by
        have e := hJ.out hB;rw [List.take_of_length_le (by rw [hm.out]; omega)] at e;rw [hW.out] at e ⊢;refine ⟨by omega, by omega, fun h => by omega⟩
       clear hJ;go_wp2_with fail
       (try simp only [Exit.inBlock, Exit.then])
       go_ret;exact ⟨⟨_, rfl, hres.out⟩, hb.out⟩
   ·have hie : i = la := (by omega);subst hie;have i1 : decide ((i : Int) < (i : Int)) = false := by simp
    have hJ : Hid (wN (.mk kd nm tx as_ ks) <= 1152921504606846976 -> c = ((1 + z1 + z2 + wA as_ + wL (ks.take 0) : Nat) : Int) \/ (most < c /\ 0 <= c /\ c <= ((wN (.mk kd nm tx as_ ks) : Nat) : Int))) := Hd fun hB => by
     have e := hc.out hB;rw [List.take_of_length_le (by rw [hla.out]; exact Nat.le_refl _)] at e;rw [e];simp [wL]
    have hb0 := hb1;clear hc hb1 hlt;go_wp2_with fail;clear i1
    go_loopw [5, 7] (fun vc vi wr => ∃ (j : Nat) (c : Int), j <= m /\ vi = .int .i64 (j : Nat) /\ vc = .int .i64 c /\ Hid (wN (.mk kd nm tx as_ ks) <= 1152921504606846976 -> c = ((1 + z1 + z2 + wA as_ + wL (ks.take j) : Nat) : Int) \/ (most < c /\ 0 <= c /\ c <= ((wN (.mk kd nm tx as_ ks) : Nat) : Int))) /\ Hid (Below w1.heap.size w1 wr)) (fun _ vi _ => m - (intOf vi).toNat)
    case atStart => exact ⟨0, _, Nat.zero_le _, rfl, rfl, hJ, hb0⟩
    case round =>
     clear hJ hb0 y3 y4;obtain ⟨j, c, hj, rfl, rfl, hJ, hb1⟩ := hrel;have y4 := cell_keep x4 hb1.out;have hb := Hd (hba.out.trans (hb1.out.mono hba.out.size))
     by_cases hlt : j < m
     ·have i1 : decide ((j : Int) < (m : Int)) = true := by simp; omega
      have q1 : (j : Int) < (m : Int) := by omega
      by_cases hcm : c <= most
      ·have i2 : decide (c <= most) = true := (by simpa using hcm);have hKr := Sq.kept_ hK.out hb.out (fun vs x h => NdI.later h hXH.out hb.out);obtain ⟨b1, off1, x, vs1, rfl, _, hx1, _, hv1, hc1⟩ := hKr.at_ hlt;have hszx := hkid.out j x hx1;have hX1 : ∀ j, X j -> j < wr.heap.size := fun j hj => Nat.lt_of_lt_of_le (hXH.out j hj) hb.out.size
       have hrec := Hd (ih.out X wr _ _ most hszx hv1 hX1);replace hx1 := Hd hx1;obtain ⟨kx, nx_, tx_, ax, kx_⟩ := x;obtain ⟨Ax, cax, A2x, c2x, rfl, -⟩ := hv1.cells;have m0 := hc1 0 _ rfl;have m1 := hc1 1 _ rfl;have m2 := hc1 2 _ rfl;have m3 := hc1 3 _ rfl;have m4 := hc1 4 _ rfl;rw [Nat.add_zero] at m0;replace hcm := Hd hcm;clear hszx hKr hv1 hc1 hX1;go_wp2_with fail;refine hrec.out.mono ?_;rintro e w5 ⟨⟨d, rfl, hd⟩, hb5⟩;have hw5 := Hd (hb1.out.trans (hb5.mono hb1.out.size))
       have hnext : Hid (wN (.mk kd nm tx as_ ks) <= 1152921504606846976 -> wrap64 (c + d) = ((1 + z1 + z2 + wA as_ + wL (ks.take (j + 1)) : Nat) : Int) \/ (most < wrap64 (c + d) /\ 0 <= wrap64 (c + d) /\ wrap64 (c + d) <= ((wN (.mk kd nm tx as_ ks) : Nat) : Int))) := Hd fun hB => by
        have e := hJ.out hB;have e1 := hcm.out;have e2 := wL_next hx1.out;have e3 := wL_take ks (j + 1);have hB' := hB;rw [hW.out] at hB';rw [e2] at e3;obtain ⟨d0, d1, d2⟩ := hd (by omega);rw [e2]
        have e : c = ((1 + z1 + z2 + wA as_ + wL (ks.take j) : Nat) : Int) := by
         rcases e with e | e
         ·exact e
         ·omega
        rw [wrap_in (by omega) (by omega), hW.out]
        by_cases hdm : d <= most
        ·have := d2 hdm;exact .inl (by omega)
        ·exact .inr ⟨by omega, by omega, by omega⟩
       clear hb5 m0 m1 m2 m3 m4 hd;go_wp2_with fail;go_roundw
       case rel => exact ⟨j + 1, _, by omega, by go_num, rfl, hnext, hw5⟩
       case measure => simp [intOf]; omega
      ·have i2 : decide (c <= most) = false := by simpa using hcm
       have hres : Hid (SmP (.mk kd nm tx as_ ks) most c) := Hd fun hB => by
        have e := hJ.out hB;have e3 := wL_take ks j;rw [hW.out] at e ⊢;refine ⟨by omega, by omega, fun h => absurd h hcm⟩
       clear hJ hcm;go_wp2_with fail
       (try simp only [Exit.inBlock, Exit.then])
       go_ret;exact ⟨⟨_, rfl, hres.out⟩, hb.out⟩
     ·have i1 : decide ((j : Int) < (m : Int)) = false := by simp; omega
      have hres : Hid (SmP (.mk kd nm tx as_ ks) most c) := Hd fun hB => by
       have e := hJ.out hB;rw [List.take_of_length_le (by rw [hm.out]; omega)] at e;rw [hW.out] at e ⊢;refine ⟨by omega, by omega, fun h => by omega⟩
      clear hJ;go_wp2_with fail
      (try simp only [Exit.inBlock, Exit.then])
      go_ret;exact ⟨⟨_, rfl, hres.out⟩, hb.out⟩
set_option maxHeartbeats 1000000 in
set_option maxRecDepth 100000 in
theorem rSmall_any (X : Nat -> Prop) (w : World) (vs : List Value) (n : Nd) (most : Int) (hn : NdI X w vs n) (hX : ∀ j, X j -> j < w.heap.size) :
  Calls Tryz.prog 46 #[.agg vs.toArray, .int .i64 most] w fun e w' => (∃ c : Int, e = .returned (.bool (decide (c <= most))) /\ SmP n most c) /\ Below w.heap.size w w' := by
 obtain ⟨kd, nm, tx, as_, ks⟩ := n;obtain ⟨A, ca, A2, c2, rfl, -⟩ := hn.cells;have hba := below_alloc w (.cells #[.int .i64 kd, .string (strOf nm), .string (strOf tx), .slice A as_.length ca, .slice A2 ks.length c2] 26);have hnb := heap_alloc_new w (.cells #[.int .i64 kd, .string (strOf nm), .string (strOf tx), .slice A as_.length ca, .slice A2 ks.length c2] 26);have hrec := Hd (rsmall_any _ X (w.alloc (.cells #[.int .i64 kd, .string (strOf nm), .string (strOf tx), .slice A as_.length ca, .slice A2 ks.length c2] 26)) _ _ most (Nat.le_refl _) (NdI.later hn hX hba) (fun j hj => Nat.lt_of_lt_of_le (hX j hj) hba.size));have x0 := cell_blk hnb (i := 0) rfl;have x1 := cell_blk hnb (i := 1) rfl;have x2 := cell_blk hnb (i := 2) rfl;have x3 := cell_blk hnb (i := 3) rfl;have x4 := cell_blk hnb (i := 4) rfl;have hbaH := Hd hba;clear hnb hn hX hba
 go_enter Tryz.func46, Tryz.ntmps46
 go_wp2_with fail;refine hrec.out.mono ?_;rintro e w5 ⟨⟨c, rfl, hd⟩, hb5⟩;have hw5 := Hd (hbaH.out.trans (hb5.mono hbaH.out.size));replace hd := Hd hd;clear hb5 x0 x1 x2 x3 x4;go_wp2_with fail;go_ret;exact ⟨⟨c, rfl, hd.out⟩, hw5.out⟩
end Go.Proofs.YtdnfnkicmfkkmaaGreatDoor.Xt
end

section

end

section

end

section
namespace Go.Proofs.YtdnfnkicmfkkmaaGreatDoor.Xt
open Go.RowKit UtfW Xl Er
end Go.Proofs.YtdnfnkicmfkkmaaGreatDoor.Xt
end

section
namespace Go.Proofs.YtdnfnkicmfkkmaaGreatDoor.Xp
open Go.RowKit UtfW Xl Xo Xt Er
end Go.Proofs.YtdnfnkicmfkkmaaGreatDoor.Xp
end

section
namespace Go.Proofs.YtdnfnkicmfkkmaaGreatDoor.Xt
open Go.RowKit UtfW Xl Xo
end Go.Proofs.YtdnfnkicmfkkmaaGreatDoor.Xt
end

section

end

section
namespace Go.Proofs.YtdnfnkicmfkkmaaGreatDoor.Xp
open Go.RowKit UtfW Xl Xo Xt Er
theorem wA_mem : ∀ {l : List At} {a : At}, a ∈ l -> 1 + a.1.length + a.2.length <= wA l
 | b :: l, a, h => by
  rw [wA];rcases List.mem_cons.1 h with rfl | h
  ·omega
  ·have := wA_mem h;omega
theorem wA_len : ∀ l : List At, l.length <= wA l
 | [] => Nat.le_refl _
 | b :: l => by
  have := wA_len l;rw [wA, List.length_cons];omega
theorem wA_sm {l : List At} (h : wA l <= 1000000) : smA l := ⟨Nat.le_trans (wA_len l) h, fun a ha => by have := wA_mem ha; omega⟩
theorem esc_le6b (v : Bool) : ∀ s : Tx, (esc v s).length <= 6 * s.length
 | [] => by simp [esc]
 | c :: s => by
  have h1 := esc_le6b v s
  have h2 : (esc1 v c).length <= 6 := by
   unfold esc1
   repeat' split
   all_goals simp
  rw [esc, List.length_append, List.length_cons];omega
theorem wA_wr : ∀ l : List At, (writeA l).length <= 10 * wA l
 | [] => by simp [writeA]
 | a :: l => by
  have h1 := wA_wr l;have h2 := esc_le6b true a.2;rw [writeA, wA];simp;omega
mutual
theorem wN_sm : ∀ n : Nd, wN n <= 1000000 -> smN n
 | .mk k nm tx as_ ks, h => by
  rw [wN] at h;rw [smN];exact ⟨by omega, by omega, wA_sm (by omega), wL_sm ks (by omega)⟩
theorem wL_sm : ∀ l : List Nd, wL l <= 1000000 -> smL l
 | [], _ => by rw [smL]; trivial
 | x :: xs, h => by
  rw [wL] at h;rw [smL];exact ⟨wN_sm x (by omega), wL_sm xs (by omega)⟩
end
mutual
theorem wN_wr : ∀ n : Nd, (writeN n).length <= 10 * wN n
 | .mk k nm tx as_ ks => by
  have h1 := wL_wr ks;have h2 := wA_wr as_;have h3 := esc_le6b false tx;rw [writeN, wN]
  split
  ·split
   ·simp;omega
   ·simp;omega
  ·split
   ·omega
   ·split
    ·simp;omega
    ·split
     ·split
      ·simp;omega
      ·simp;omega
     ·simp
theorem wL_wr : ∀ l : List Nd, (writeL l).length <= 10 * wL l
 | [] => by rw [writeL]; simp
 | x :: xs => by
  have h1 := wN_wr x;have h2 := wL_wr xs;rw [writeL, wL, List.length_append];omega
end
end Go.Proofs.YtdnfnkicmfkkmaaGreatDoor.Xp
end

section
namespace Go.Proofs.YtdnfnkicmfkkmaaGreatDoor.No
open Go.RowKit UtfW Xl Xt Xo
theorem own_at {A : Option Addr} {n c b off : Nat} (e : A = some ⟨b, off, none⟩) : (Value.slice A n c).ownBlock = some b := by
 subst e;rfl
theorem wL_len : ∀ l : List Nd, l.length <= wL l
 | [] => Nat.zero_le _
 | x :: l => by
  have h1 := wL_len l;have h2 : 1 <= wN x := by cases x; rw [wN]; omega
  rw [wL, List.length_cons];omega
theorem wL_mem : ∀ {l : List Nd} {x : Nd}, x ∈ l -> wN x <= wL l
 | y :: l, x, h => by
  rw [wL];rcases List.mem_cons.1 h with rfl | h
  ·omega
  ·have := wL_mem h;omega
theorem contentL_len : ∀ ks : List Nd, (contentL ks).length = ks.length
 | [] => by simp [contentL]
 | x :: xs => by simp [contentL, contentL_len xs]
theorem contentL_snoc (x : Nd) : ∀ ks : List Nd, contentL (ks ++ [x]) = contentL ks ++ [contentN x]
 | [] => by simp [contentL]
 | y :: ks => by simp [contentL, contentL_snoc x ks]
def ContAt (B0 : Nat) (ks : List Nd) : Prop := ∀ (A : Option Addr) (n c : Nat) (w : World), B0 <= w.heap.size -> Sq (NdE (fun j => j < B0)) 5 w A n c ks →
 Calls Tryz.prog 92 #[.slice A n c] w fun e w' => ∃ A' c', e = .returned (.slice A' n c') /\ OutR ⟨0, B0⟩ w.heap.size w' (.slice A' n c') (contentL ks) /\ Below w.heap.size w w'
set_option maxHeartbeats 2000000 in
set_option maxRecDepth 100000 in
theorem rCont_any : ∀ (kk B0 : Nat) (ks : List Nd), SizeOf.sizeOf ks <= kk -> wL ks <= 1000000 -> ContAt B0 ks := by
 intro kk
 induction kk with
 | zero => intro B0 ks hk; cases ks <;> simp at hk
 | succ kk ih =>
  intro B0 ks hkk hsm A n c w hB0 hS;have hl := Hd hS.len;have hle := hS.le;have hm := hS.max;have hn : n <= 1000000 := by rw [<- hl.out]; exact Nat.le_trans (wL_len ks) hsm
  have ih' := Hd ih;have hkk' := Hd hkk;have hsm' := Hd hsm;have hSx : Hid (∀ x, Below w.heap.size w x -> Sq (NdE (fun j => j < B0)) 5 x A n c ks) := Hd fun x hx => Xp.sq_keep hS hx fun vs y h => NdI.later h (fun j hj => Nat.lt_of_lt_of_le hj hB0) hx
  obtain ⟨B, hB⟩ : ∃ B, w.heap.size = B := ⟨_, rfl⟩;have hBw := Hd hB;have hst : Hid (OutR ⟨0, B0⟩ B w (.slice none 0 0) []) := Hd (OutR.nil (by show B0 <= B; omega) (by omega));rw [hB] at hSx hB0;clear ih hkk hsm hS hB
  go_enter Tryz.func92, Tryz.ntmps92
  go_wp2_with fail
  go_loopw [3, 4] (fun v i wr => ∃ (k : Nat) (Ao : Option Addr) (co : Nat), k <= n /\ i = .int .i64 k /\ v = .slice Ao k co /\ Hid (OutR ⟨0, B0⟩ B wr (.slice Ao k co) (contentL (ks.take k))) /\ Hid (Below B w wr)) (fun _ i _ => n - (intOf i).toNat)
  case atStart => exact ⟨0, none, 0, by omega, rfl, rfl, hst, Hd (Below.refl _ _)⟩
  case round =>
   obtain ⟨k, Ao, co, hk, rfl, rfl, hO, hb⟩ := hrel;clear hst
   by_cases hlt : k < n
   ·have i1 : decide ((k : Int) < (n : Int)) = true := by rw [decide_eq_true_eq]; omega
    have i2 : decide (k < n) = true := by rw [decide_eq_true_eq]; omega
    have i3 : (k : Int) < (n : Int) := (by omega);obtain ⟨b, off, x, vs, rfl, hbl, hx, hvs, hel, hcs⟩ := (hSx.out wr hb.out).at_ hlt;obtain ⟨kd, nm, tx, as_, kz, rfl⟩ : ∃ kd nm tx as_ kz, x = Nd.mk kd nm tx as_ kz := by cases x; exact ⟨_, _, _, _, _, rfl⟩
    obtain ⟨Aa, ca, Ak, ck, rfl, hA, hK, hXA, hXK⟩ := hel.cells
    have hszk : SizeOf.sizeOf kz <= kk := by
     have h1 := List.sizeOf_lt_of_mem (List.mem_of_getElem? hx);have h2 := hkk'.out;rw [Nd.mk.sizeOf_spec] at h1;omega
    have hsx := Nat.le_trans (wL_mem (List.mem_of_getElem? hx)) hsm'.out;rw [wN] at hsx;obtain ⟨la, hla⟩ : ∃ la, as_.length = la := ⟨_, rfl⟩;obtain ⟨lk, hlk⟩ : ∃ lk, kz.length = lk := ⟨_, rfl⟩;rw [hla] at hA hXA;rw [hlk] at hK hXK;simp only [hla, hlk] at hcs;obtain ⟨S1, hS1⟩ : ∃ S, strOf nm = S := ⟨_, rfl⟩;obtain ⟨S2, hS2⟩ : ∃ S, strOf tx = S := ⟨_, rfl⟩;simp only [hS1, hS2] at hcs;have m0 : wr.cell? ⟨b, off + k * 5, none⟩ = some (.int .i64 kd) := hcs 0 _ rfl;have m1 : wr.cell? ⟨b, off + k * 5 + 1, none⟩ = some (.string S1) := hcs 1 _ rfl;have m2 : wr.cell? ⟨b, off + k * 5 + 2, none⟩ = some (.string S2) := hcs 2 _ rfl;have m3 : wr.cell? ⟨b, off + k * 5 + 3, none⟩ = some (.slice Aa la ca) := hcs 3 _ rfl;have m4 : wr.cell? ⟨b, off + k * 5 + 4, none⟩ = some (.slice Ak lk ck) := hcs 4 _ rfl;have hBr : Hid (B <= wr.heap.size) := Hd hO.out.2.2;have hBB : Hid (B0 <= B) := Hd hB0;have hS1' := Hd hS1;have hS2' := Hd hS2;have hla' := Hd hla;have hlk' := Hd hlk;have hx' := Hd hx;have hat : Hid (∀ x, Below wr.heap.size wr x -> Calls Tryz.prog 91 #[.slice Aa la ca] x fun e w' => ∃ A' c', e = .returned (.slice A' la c') /\ OwS AtEl 2 w' x.heap.size 68 (.slice A' la c') (attrsN as_) /\ Below x.heap.size x w') := Hd fun x hx => rAttrs_any Aa la ca as_ x (hA.below AtEl.to hx) (by rw [<- hla]; exact Nat.le_trans (Xp.wA_len as_) (by omega)) (fun a ha => by have := Xp.wA_mem ha; omega)
    have hct : Hid (∀ x, Below wr.heap.size wr x -> Calls Tryz.prog 92 #[.slice Ak lk ck] x fun e w' => ∃ A' c', e = .returned (.slice A' lk c') /\ OutR ⟨0, B0⟩ x.heap.size w' (.slice A' lk c') (contentL kz) /\ Below x.heap.size x w') := Hd fun x hx => ih'.out B0 kz hszk (by omega) Ak lk ck x (Nat.le_trans (Nat.le_trans hBB.out hBr.out) hx.size) (Xp.sq_keep hK hx fun vs y h => NdI.later h (fun j hj => Nat.lt_of_lt_of_le hj (Nat.le_trans hBB.out hBr.out)) hx)
    obtain ⟨N, hN⟩ : ∃ N, wr.heap.size = N := ⟨_, rfl⟩;have hown : Hid (∀ j, (Value.slice Ao k co).ownBlock = some j -> j < N) := Hd fun j hj => by rw [<- hN]; exact (hO.out.1.lt j hj).2
    obtain ⟨w1, hw1⟩ : ∃ w1, wr.alloc (.cells #[.int .i64 kd, .string S1, .string S2, .slice Aa la ca, .slice Ak lk ck] 26) = w1 := ⟨_, rfl⟩;have hb1 : Below wr.heap.size wr w1 := by rw [<- hw1]; exact (Below.refl _ _).alloc (Nat.le_refl _) _
    have hn1 : w1.heap[N]? = some (.cells #[.int .i64 kd, .string S1, .string S2, .slice Aa la ca, .slice Ak lk ck] 26) := by rw [<- hw1, <- hN]; exact heap_alloc_new wr _
    have hs1 : w1.heap.size = N + 1 := (by rw [<- hw1, World.size_alloc, hN]);have hc1 := Hd (hat.out w1 hb1);have hb1' := Hd hb1;have hn1' := Hd hn1;have hN' := Hd hN;have hs1' := Hd hs1;have u3 : w1.cell? ⟨N, 3, none⟩ = some (.slice Aa la ca) := Xp.cell_blk hn1 (i := 3) rfl;clear hvs hcs hx hbl hel hA hK hXA hXK hszk hsx hla hlk hS1 hS2 hat hB0 hn1 hb1 hs1;go_wp2_with fail;clear hw1 hN u3 m0 m1 m2 m3 m4;refine hc1.out.mono ?_;rintro e w2 ⟨Aa2, ca2, rfl, hoA, hbA⟩;have hN2 : N < w1.heap.size := by have := hs1'.out; omega
    have hn2 := (hbA.block N hN2).trans hn1'.out;have p3 : w2.cell? ⟨N, 3, none⟩ = some (.slice Aa la ca) := Xp.cell_blk hn2 (i := 3) rfl;have z3 : w2.frozen? ⟨N, 3, none⟩ = false := frozen_of_row w2 N 3 _ _ hn2;have hg3 := grown_set w2 ⟨N, 3, none⟩ (.slice Aa2 la ca2);have hn3 := blk_setCell hn2 (i := 3) (.slice Aa2 la ca2);have hb3 : Below wr.heap.size wr (w2.setCell ⟨N, 3, none⟩ (.slice Aa2 la ca2)) := (hb1'.out.trans (hbA.mono hb1'.out.size)).setCell (p := ⟨N, 3, none⟩) (by rw [hN'.out]; exact Nat.le_refl _) _;have hne : ∀ j, (Value.slice Aa2 la ca2).ownBlock = some j -> N < j /\ j < w2.heap.size := fun j hj => by have := hoA.lt j hj; have := hs1'.out; omega
    have ho3 : OwS AtEl 2 (w2.setCell ⟨N, 3, none⟩ (.slice Aa2 la ca2)) w1.heap.size 68 (.slice Aa2 la ca2) (attrsN as_) := hoA.kept hg3 (.inr fun e => by have := hne N e; omega) AtEl.to;have hsz3 : w2.heap.size <= (w2.setCell ⟨N, 3, none⟩ (.slice Aa2 la ca2)).heap.size := hg3.size;obtain ⟨w3, hw3⟩ : ∃ w3, w2.setCell ⟨N, 3, none⟩ (.slice Aa2 la ca2) = w3 := ⟨_, rfl⟩;rw [hw3] at hn3 hb3 ho3 hsz3;have hn3 : w3.heap[N]? = some (.cells #[.int .i64 kd, .string S1, .string S2, .slice Aa2 la ca2, .slice Ak lk ck] 26) := hn3;have y4 : w3.cell? ⟨N, 4, none⟩ = some (.slice Ak lk ck) := Xp.cell_blk hn3 (i := 4) rfl;have hn3' := Hd hn3;have hb3' := Hd hb3;have ho3' := Hd ho3;have hne' : Hid (∀ j, (Value.slice Aa2 la ca2).ownBlock = some j -> N < j /\ j < w3.heap.size) := Hd fun j hj => ⟨(hne j hj).1, Nat.lt_of_lt_of_le (hne j hj).2 hsz3⟩
    have hc3 := Hd (hct.out w3 hb3);clear hoA hbA hg3 hn2 hn3 hb3 ho3 hne hct hc1 hsz3 hN2;go_wp2_with fail;clear hw3 p3 z3 y4;refine hc3.out.mono ?_;rintro e w4 ⟨A2, c2, rfl, hO4, hb4⟩;have hN3 : N < w3.heap.size := (Array.getElem?_eq_some_iff.1 hn3'.out).1;have hn4 := (hb4.block N hN3).trans hn3'.out;have p4 : w4.cell? ⟨N, 4, none⟩ = some (.slice Ak lk ck) := Xp.cell_blk hn4 (i := 4) rfl;have z4 : w4.frozen? ⟨N, 4, none⟩ = false := frozen_of_row w4 N 4 _ _ hn4;have hg5 := grown_set w4 ⟨N, 4, none⟩ (.slice A2 lk c2);have hn5 := blk_setCell hn4 (i := 4) (.slice A2 lk c2);have hb5 : Below wr.heap.size wr (w4.setCell ⟨N, 4, none⟩ (.slice A2 lk c2)) := (hb3'.out.trans (hb4.mono hb3'.out.size)).setCell (p := ⟨N, 4, none⟩) (by rw [hN'.out]; exact Nat.le_refl _) _;have ho5 : OwS AtEl 2 (w4.setCell ⟨N, 4, none⟩ (.slice A2 lk c2)) w1.heap.size 68 (.slice Aa2 la ca2) (attrsN as_) := (ho3'.out.below hb4 AtEl.to).kept hg5 (.inr fun e => by have := hne'.out N e; omega) AtEl.to;have hO5 : OutR ⟨0, B0⟩ w3.heap.size (w4.setCell ⟨N, 4, none⟩ (.slice A2 lk c2)) (.slice A2 lk c2) (contentL kz) := hO4.same (fun j hj => set_other (by have := hBB.out; have := hBr.out; have := hN'.out; have := hN3; rcases hj with hj | hj; (have h9 : j < B0 := hj.2; omega); omega)) (by rw [set_size]; exact Nat.le_refl _);obtain ⟨w5, hw5⟩ : ∃ w5, w4.setCell ⟨N, 4, none⟩ (.slice A2 lk c2) = w5 := ⟨_, rfl⟩;rw [hw5] at hn5 hb5 ho5 hO5;have hn5 : w5.heap[N]? = some (.cells #[.int .i64 kd, .string S1, .string S2, .slice Aa2 la ca2, .slice A2 lk c2] 26) := hn5;have n0 : w5.cell? ⟨N, 0, none⟩ = some (.int .i64 kd) := Xp.cell_blk hn5 (i := 0) rfl;have n1 : w5.cell? ⟨N, 1, none⟩ = some (.string S1) := Xp.cell_blk hn5 (i := 1) rfl;have n2 : w5.cell? ⟨N, 2, none⟩ = some (.string S2) := Xp.cell_blk hn5 (i := 2) rfl;have n3 : w5.cell? ⟨N, 3, none⟩ = some (.slice Aa2 la ca2) := Xp.cell_blk hn5 (i := 3) rfl
    have n4 : w5.cell? ⟨N, 4, none⟩ = some (.slice A2 lk c2) := Xp.cell_blk hn5 (i := 4) rfl;have hbl6 := below_alloc w5 (.cells #[.int .i64 kd, .string S1, .string S2, .slice Aa2 la ca2, .slice A2 lk c2] 26);have hN5 : N < w5.heap.size := (Array.getElem?_eq_some_iff.1 hn5).1;have hw3s : N < w3.heap.size := hN3;have hO6 := Hd ((hO.out.below hb5).below hbl6)
    have hz : Hid (Sq (NdE (XK ⟨0, B0⟩ B (w5.alloc (.cells #[.int .i64 kd, .string S1, .string S2, .slice Aa2 la ca2, .slice A2 lk c2] 26)) (.slice Ao k co))) 5 (w5.alloc (.cells #[.int .i64 kd, .string S1, .string S2, .slice Aa2 la ca2, .slice A2 lk c2] 26)) (some ⟨w5.heap.size, 0, none⟩) 1 1 [Nd.mk kd nm tx (attrsN as_) (contentL kz)]) := Hd (sq_one (El := NdE (XK ⟨0, B0⟩ B (w5.alloc (.cells #[.int .i64 kd, .string S1, .string S2, .slice Aa2 la ca2, .slice A2 lk c2] 26)) (.slice Ao k co))) (k := 5) w5 [.int .i64 kd, .string S1, .string S2, .slice Aa2 la ca2, .slice A2 lk c2] (Nd.mk kd nm tx (attrsN as_) (contentL kz)) 26 (0, 0) rfl (by
     obtain ⟨r1, r2⟩ := OutR.sub (B := B) (u := .slice Ao k co) (hO5.below hbl6) (by have := hBr.out; have := hN'.out; omega) (fun j hj => by have := hown.out j hj; omega);have hsa := (ho5.below hbl6 AtEl.to).sq' (by omega);refine nd_make hS1'.out hS2'.out (by rw [attrsN_len]; exact hla'.out) (by rw [contentL_len]; exact hlk'.out) (by rw [attrsN_len, hla'.out]; exact hsa) (fun a e hp => .inr ?_) r1 r2;have hla0 : 0 < la := by rw [attrsN_len, hla'.out] at hp; exact hp
     obtain ⟨b9, off9, e9, hlt9, _⟩ := hsa.cell hla0;rw [e] at e9;injection e9 with e9;subst e9;have hj : (Value.slice Aa2 la ca2).ownBlock = some b9 := own_at e;have h9 := hne'.out b9 hj;refine ⟨by have := hBr.out; have := hN'.out; show B <= b9; omega, hlt9, fun e8 => ?_⟩;have := hown.out b9 e8
     omega))
    have hB6 := Hd ((hb.out.trans (hb5.mono hBr.out)).trans (hbl6.mono (Nat.le_trans hBr.out hb5.size)));have htl : Hid ((contentL (ks.take k)).length = k) := Hd (by rw [contentL_len, List.length_take, hl.out]; omega);have hnx : Hid (contentL (ks.take (k + 1)) = contentL (ks.take k) ++ [Nd.mk kd nm tx (attrsN as_) (contentL kz)]) := Hd (by rw [take_snoc hx'.out, contentL_snoc]; simp [contentN]);clear hn5 hb5 ho5 hO5 hO4 hb4 hg5 hn4 hbl6 hN5 hN3 hw3s hc3
    go_wp2_with (at_builtin; apply stop_here)
    refine Stop.go (append_sq (El := NdE (XK ⟨0, B0⟩ B (w5.alloc (.cells #[.int .i64 kd, .string S1, .string S2, .slice Aa2 la ca2, .slice A2 lk c2] 26)) (.slice Ao k co))) (k := 5) _ 24 26 (.agg #[.int .i64 0, .string ⟨#[]⟩, .string ⟨#[]⟩, .slice none 0 0, .slice none 0 0]) 88 Tryz.underlying24 info_node rfl (by omega) rfl _ _ rfl B (.slice Ao k co) (contentL (ks.take k)) rfl hO6.out.1 _ 1 1 [Nd.mk kd nm tx (attrsN as_) (contentL kz)] rfl hz.out (fun vs x h => NdI.one h) hO6.out.keep (k + 1) (by rw [htl.out]) (by omega) (by omega) hO6.out.2.2 ?_);intro A8 c8 x8 ho8 hg8 hb8 hv8;have hO8 : Hid (OutR ⟨0, B0⟩ B x8 (.slice A8 (k + 1) c8) (contentL (ks.take (k + 1)))) := Hd (by rw [hnx.out]; exact hO6.out.app ho8 hg8 hv8);have hB8 := Hd (hB6.out.trans hb8);clear ho8 hg8 hb8 hv8 hO6 hz hB6 n0 n1 n2 n3 n4 p4 z4 hw5;go_wp2_with fail;go_roundw
    case rel => exact ⟨k + 1, A8, c8, by omega, by go_num, rfl, hO8, hB8⟩
    case measure => simp [intOf]; omega
   ·have i1 : decide ((k : Int) < (n : Int)) = false := by rw [decide_eq_false_iff_not]; omega
    have i2 : decide (k < n) = false := by rw [decide_eq_false_iff_not]; omega
    have e1 : k = n := (by omega);subst e1;have hO' : Hid (OutR ⟨0, B0⟩ w.heap.size wr (.slice Ao k co) (contentL ks)) := Hd (by have := hO.out; rw [List.take_of_length_le (by have := hl.out; omega)] at this; rw [hBw.out]; exact this);have hb' : Hid (Below w.heap.size w wr) := Hd (by rw [hBw.out]; exact hb.out);go_wp2_with fail;go_ret;exact ⟨Ao, co, rfl, hO'.out, hb'.out⟩
end Go.Proofs.YtdnfnkicmfkkmaaGreatDoor.No
end

section
namespace Go.Proofs.YtdnfnkicmfkkmaaGreatDoor.No
open Go.RowKit UtfW Xl Xt Xo
open Go.Proofs.YtdnfnkicmfkkmaaGreatDoor (Ky.Rl Ky.frontB Ky.mayB Ky.keyB Ky.split Ky.strip Ky.names Ky.split_ne Ky.mayP_rules Ky.ruleB Ky.hasB)
theorem key_parts {s : Tx} (h : Ky.keyB nameR s = true) (hs : s ≠ [46]) : ∀ p ∈ Ky.split 47 s, p ≠ [] := by
 unfold Ky.keyB at h;rw [decide_eq_false hs, Bool.false_or, Bool.and_eq_true] at h;intro p hp;have hne := Ky.split_ne 47 s;rcases List.mem_append.1 ((List.dropLast_concat_getLast hne).symm ▸ hp) with hp | hp
 ·exact (Ky.names p (List.all_eq_true.1 h.1 p hp)).1
 ·rw [List.mem_singleton] at hp;have h2 := h.2;rw [List.getLast?_eq_some_getLast hne, Option.getD_some, <- hp] at h2;rintro rfl;exact (Ky.names _ h2).1 rfl
theorem rule_mem {l : List Ky.Rl} {p : List Tx} {r : Ky.Rl} (h : ruleOf l p = some r) : r ∈ l /\ r.1 = p :=
 ⟨List.mem_of_find?_eq_some h, by have := List.find?_some h; exact of_decide_eq_true this⟩
theorem rule_keys {l : List Ky.Rl} (hm : Ky.mayB nameR l = true) {r : Ky.Rl} (hr : r ∈ l) : ∀ k ∈ r.2, k ≠ [46] -> ∀ p ∈ Ky.split 47 k, p ≠ [] := by
 unfold Ky.mayB at hm;rw [Bool.and_eq_true] at hm;have h1 := Ky.mayP_rules hm.2 r hr;unfold Ky.ruleB at h1;simp only [Bool.and_eq_true] at h1;intro k hk hne;exact key_parts (List.all_eq_true.1 h1.2.2.1 k hk) hne
end Go.Proofs.YtdnfnkicmfkkmaaGreatDoor.No
end

section
namespace Go.Proofs.YtdnfnkicmfkkmaaGreatDoor.Ky
open Go.RowKit Go.Shelf UtfW
theorem str_info : (Tryz.prog.info? 9).map (fun i => (i.zero, i.size, i.bytes)) = some (some (.string ByteArray.empty), 1, 16) := by kernel_rfl
end Go.Proofs.YtdnfnkicmfkkmaaGreatDoor.Ky
end
