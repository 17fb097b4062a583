/- What the frame of SegPlays calls. -/
import Derived.Test.YtfdpnjebhllpkaaGreatDoorMSgLasts
import Derived.Test.YtfdpnjebhllpkaaGreatDoorMSgLaid
import Derived.Test.YtfdpnjebhllpkaaGreatDoorMStrs
import Derived.Test.YtfdpnjebhllpkaaGreatDoorMSgPlays
section
namespace Go.Proofs.YtfdpnjebhllpkaaGreatDoor
open Go.RowKit
namespace Sg
theorem list4 {vs : List Value} (h : vs.length = 4) {a b c d : Value} (h0 : vs[0]? = some a) (h1 : vs[1]? = some b) (h2 : vs[2]? = some c) (h3 : vs[3]? = some d) : vs = [a, b, c, d] := by
  match vs, h with
  | [x0, x1, x2, x3], _ => simp at h0 h1 h2 h3; rw [h0, h1, h2, h3]
def SdB (w : World) (vs : List Value) (x : Sx) : Prop := SdEl w vs x ∧ ∀ r ∈ x.recs, r.length ≤ 140737488351232

section
variable {H : Type} {enc : TypeId × Value → H} {w : World}
theorem trouble_each (m : Nat) (vs : List Value) {fs : Array Field} (hs : Tryz.prog.underlying 121 = some (.struct fs)) (h : Fields enc Tryz.prog w fs m vs) : ∃ t, Dk.TrEl w vs t := by
  have e := Tryz.underlying121
  rw [hs] at e
  injection e with e
  injection e with e
  subst e
  obtain ⟨hl, hf⟩ := h
  obtain ⟨v0, y0, e0, t0, _⟩ := hf 0 _ rfl
  obtain ⟨v1, y1, e1, t1, _⟩ := hf 1 _ rfl
  obtain ⟨v2, y2, e2, t2, _⟩ := hf 2 _ rfl
  obtain ⟨z0, c0, _, _⟩ := DataW.trod_int Tryz.underlying3 t0
  obtain ⟨z1, c1, _, _⟩ := DataW.trod_int Tryz.underlying3 t1
  obtain ⟨z2, c2, _, _⟩ := DataW.trod_int Tryz.underlying3 t2
  injection c0 with c0; injection c1 with c1; injection c2 with c2
  subst c0; subst c1; subst c2
  refine ⟨(z0, z1, z2), ?_⟩
  match vs, hl with
  | [x, y, z], _ => simp at e0 e1 e2; rw [e0, e1, e2]; rfl

theorem slice_of_trod1 {P : Program} {t e : TypeId} {fuel : Nat} {v : Value} {x : DataW H × List MemPlace} (ht : P.underlying t = some (.slice e)) (ce : P.cellsOf e = 1)
    (h : DataW.trod enc P w 0 (fun _ => true) true fuel t [v] = some x) : ∃ a n c, v = .slice a n c := by
  rcases Deep.open_slice1 ht ce h with ⟨hcs, _⟩ | ⟨y, len, cap, m, k, V, D, Pl, hcs, _⟩
  · injection hcs with hcs _
    exact ⟨_, _, _, hcs⟩
  · injection hcs with hcs _
    exact ⟨_, _, _, hcs⟩

set_option maxRecDepth 100000 in
theorem do_each (m : Nat) (vs : List Value) {fs : Array Field} (hs : Tryz.prog.underlying 48 = some (.struct fs)) (h : Fields enc Tryz.prog w fs m vs) : ∃ x, SdB w vs x := by
  have e := Tryz.underlying48
  rw [hs] at e
  injection e with e
  injection e with e
  subst e
  obtain ⟨hl, hf⟩ := h
  obtain ⟨v0, y0, e0, t0, _⟩ := hf 0 _ rfl
  obtain ⟨v1, y1, e1, t1, s1⟩ := hf 1 _ rfl
  obtain ⟨v2, y2, e2, t2, _⟩ := hf 2 _ rfl
  obtain ⟨v3, y3, e3, t3, s3⟩ := hf 3 _ rfl
  obtain ⟨z0, c0, _, _⟩ := DataW.trod_int Tryz.underlying3 t0
  obtain ⟨Ar, nr, cr, rfl⟩ := slice_of_trod1 Tryz.underlying24 (by kernel_rfl) t1
  obtain ⟨rs, hrs, hrz⟩ := bss_of_trod (d := y1.1) (p := y1.2) Tryz.underlying24 (by kernel_rfl) Tryz.underlying22 Tryz.underlying5 (by kernel_rfl) (by kernel_rfl) ⟨_, t1⟩ s1
  obtain ⟨At, nt, ct, ts, rfl, hts, _⟩ := is_of_trod1 (k := .i64) Tryz.underlying37 Tryz.underlying3 (by kernel_rfl) t2
  obtain ⟨Al, nl, cl, ll, rfl, hll, _⟩ := sq_of_trod' (El := Dk.TrEl) Tryz.underlying46 Tryz.underlying121 (by kernel_rfl) (by kernel_rfl) (by decide) (d := y3.1) (p := y3.2) t3 s3 (fun m vs h => trouble_each m vs Tryz.underlying121 h)
  injection c0 with c0
  subst c0
  exact ⟨⟨z0, rs, ts, ll⟩, ⟨Ar, nr, cr, At, nt, ct, Al, nl, cl, list4 hl e0 e1 e2 e3, hrs, hts, hll⟩, hrz⟩
set_option maxRecDepth 100000 in
theorem dos_of_trod {a : Option Addr} {n c : Nat} {d : DataW H} {p : List MemPlace} (h : DataW.Trod enc Tryz.prog w 0 (fun _ => true) true 36 (.slice a n c) d p) (hz : Sized Tryz.prog 36 d) :
    ∃ l, Sq SdEl 4 w a n c l ∧ ∀ x ∈ l, ∀ r ∈ x.recs, r.length ≤ 140737488351232 := by
  obtain ⟨l, hl, _⟩ := sq_of_trod (El := SdB) Tryz.underlying36 Tryz.underlying48 (by kernel_rfl) (by kernel_rfl) (by decide) (fun m vs h => do_each m vs Tryz.underlying48 h) h hz
  refine ⟨l, ⟨hl.len, hl.le, hl.max, hl.nil, fun hn => ?_⟩, fun f hf => ?_⟩
  · obtain ⟨b, off, e, hb, hc⟩ := hl.cell hn
    refine ⟨b, off, e, hb, fun i x hi => ?_⟩
    obtain ⟨vs, h1, h2, h3⟩ := hc i x hi
    exact ⟨vs, h1, h2.1, h3⟩
  · obtain ⟨i, hi⟩ := List.mem_iff_getElem?.1 hf
    have hn : 0 < n := by have := (List.getElem?_eq_some_iff.1 hi).1; have := hl.len; omega
    obtain ⟨b, off, e, hb, hc⟩ := hl.cell hn
    obtain ⟨vs, h1, h2, h3⟩ := hc i f hi
    exact h2.2
end
end Sg

theorem segLastsW.walk (A : Option Addr) (n c : Nat) (l : List Sg.Sx) (At : Option Addr) (nt ct : Nat) (tails : List Int) (W : World) (hL : laidMetH Tryz.prog Slc.laidList W) (w0 : Sq Sg.SdEl 4 W A n c l) (z0 : ∀ x ∈ l, ∀ r ∈ x.recs, r.length ≤ 140737488351232)
    (w1 : Rd W At nt ct (tails.map (Value.int .i64))) (_z1 : ∀ z ∈ tails, (Lit.int .i64 z).wf = true) :
    Calls Tryz.prog 5 #[.slice A n c, .slice At nt ct] W fun e w' => e = .returned (.bool true) ∧ Below W.heap.size W w' :=
  Sg.lasts_law A n c l At nt ct tails W (Slc.en_of_laid hL) w0 z0 w1
end Go.Proofs.YtfdpnjebhllpkaaGreatDoor
end

section
namespace Go.Proofs.YtfdpnjebhllpkaaGreatDoor
open Go.RowKit

theorem segPlaysW.walk (room : Int) (A : Option Addr) (n c : Nat) (l : List Sg.Sx) (W : World) (hL : laidMetH Tryz.prog Slc.laidList W) (hr : (Lit.int .i64 room).wf = true) (w0 : Sq Sg.SdEl 4 W A n c l) (z0 : ∀ x ∈ l, ∀ r ∈ x.recs, r.length ≤ 140737488351232) :
    Calls Tryz.prog 6 #[.int .i64 room, .slice A n c] W fun e w' => e = .returned (.bool true) ∧ Below W.heap.size W w' :=
  Sg.plays_law room (by
    have h1 : IntKind.i64.min ≤ room ∧ room ≤ IntKind.i64.max := by simpa [Lit.wf] using hr
    exact h1.2) A n c l W (Slc.en_of_laid hL) w0 z0
end Go.Proofs.YtfdpnjebhllpkaaGreatDoor
end
