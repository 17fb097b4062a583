/- What came in: manifests, rows of them, troubles. -/
import Derived.Test.YtfdpnjebhllpkaaGreatDoorMMnGreat
import Derived.Test.YtfdpnjebhllpkaaGreatDoorMDkOpen
import Derived.OpenShut
namespace Go.Proofs.YtfdpnjebhllpkaaGreatDoor
open Go.RowKit

theorem Sized.arr {H : Type} {P : Program} {t e : TypeId} {n : Nat} {parts : List (DataW H)} (ht : P.underlying t = some (.array n e)) (h : Sized P t (.agg parts)) {d : DataW H} (hd : d ∈ parts) : Sized P e d := by
  intro x hx
  refine h x ?_
  simp only [DataW.weights, ht]
  exact weights_mem_all hd hx

namespace Mn
open Dk Ma
section
variable {H : Type} {enc : TypeId × Value → H} {w : World}
set_option maxRecDepth 100000 in
theorem man_each (m : Nat) (vs : List Value) {fs : Array Field} (hs : Tryz.prog.underlying 75 = some (.struct fs)) (h : Fields enc Tryz.prog w fs m vs) : ∃ x, MfEl w vs x := by
  have e := Tryz.underlying75
  rw [hs] at e
  injection e with e
  injection e with e
  subst e
  obtain ⟨hl, hf⟩ := h
  obtain ⟨v0, y0, e0, t0, _⟩ := hf 0 _ rfl
  obtain ⟨v1, y1, e1, t1, _⟩ := hf 1 _ rfl
  obtain ⟨v2, y2, e2, t2, _⟩ := hf 2 _ rfl
  obtain ⟨z0, c0, _, _⟩ := DataW.trod_int Tryz.underlying3 t0
  obtain ⟨z1, c1, _, _⟩ := DataW.trod_int Tryz.underlying3 t1
  obtain ⟨At, nt, ct, ts, rfl, hts, _⟩ := is_of_trod1 (k := .i64) Tryz.underlying37 Tryz.underlying3 (by kernel_rfl) t2
  injection c0 with c0; injection c1 with c1
  subst c0; subst c1
  exact ⟨(z0, z1, ts), At, nt, ct, list3 hl e0 e1 e2, hts⟩
set_option maxRecDepth 100000 in
theorem mans_of_trod {a : Option Addr} {n c : Nat} {d : DataW H} {p : List MemPlace} (h : DataW.Trod enc Tryz.prog w 0 (fun _ => true) true 86 (.slice a n c) d p) (hz : Sized Tryz.prog 86 d) :
    ∃ l, Sq MfEl 3 w a n c l ∧ True := by
  obtain ⟨l, hl, _⟩ := sq_of_trod (El := MfEl) Tryz.underlying86 Tryz.underlying75 (by kernel_rfl) (by kernel_rfl) (by decide) (fun m vs h => man_each m vs Tryz.underlying75 h) h hz
  exact ⟨l, hl, trivial⟩
set_option maxRecDepth 100000 in
theorem trs_of_trod {a : Option Addr} {n c : Nat} {d : DataW H} {p : List MemPlace} (h : DataW.Trod enc Tryz.prog w 0 (fun _ => true) true 46 (.slice a n c) d p) (hz : Sized Tryz.prog 46 d) :
    ∃ l, Sq TrEl 3 w a n c l ∧ True := by
  obtain ⟨l, hl, _⟩ := sq_of_trod (El := TrEl) Tryz.underlying46 Tryz.underlying121 (by kernel_rfl) (by kernel_rfl) (by decide) (fun m vs h => trouble_each m vs Tryz.underlying121 h) h hz
  exact ⟨l, hl, trivial⟩
set_option maxRecDepth 100000 in
theorem tr2_of_trod {r : Reach} {b0 : Nat} {v : Value} {d : DataW H} {p : List MemPlace} (hv : Value.okWide Tryz.prog w r b0 91 v) (h : DataW.Trod enc Tryz.prog w 0 (fun _ => true) true 91 v d p) (hz : Sized Tryz.prog 91 d) :
    ∃ A0 n0 c0 l0 A1 n1 c1 l1, v = .agg #[.slice A0 n0 c0, .slice A1 n1 c1] ∧ Sq TrEl 3 w A0 n0 c0 l0 ∧ Sq TrEl 3 w A1 n1 c1 l1 := by
  have hu := Tryz.underlying91
  have hC : Tryz.prog.cellsOf 91 = 2 := by kernel_rfl
  have hC1 : Tryz.prog.cellsOf 46 = 1 := by kernel_rfl
  obtain ⟨cs, rfl, hsz⟩ : ∃ cs, v = .agg cs ∧ cs.size = Tryz.prog.cellsOf 91 := by
    simp only [Value.okWide, hu] at hv
    obtain ⟨cs, h1, h2, _⟩ := hv
    exact ⟨cs, h1, h2⟩
  obtain ⟨l⟩ := cs
  rw [hC] at hsz
  have hl : l.length = 2 := by simpa using hsz
  obtain ⟨fuel, hf⟩ := h
  obtain ⟨xs, n, _, hx, _, hlen, hg⟩ := DataW.trod_array hu hf
  simp only [Prod.mk.injEq] at hx
  match l, hl with
  | [c0, c1], _ =>
    match xs, hlen with
    | [x0, x1], _ =>
      have g0 := hg 0 (by omega)
      have g1 := hg 1 (by omega)
      rw [hC1] at g0 g1
      have g0' : DataW.trod enc Tryz.prog w 0 (fun _ => true) true n 46 [c0] = some x0 := g0
      have g1' : DataW.trod enc Tryz.prog w 0 (fun _ => true) true n 46 [c1] = some x1 := g1
      have hd : d = .agg [x0.1, x1.1] := hx.1
      rw [hd] at hz
      obtain ⟨A0, n0, k0, l0, rfl, h0, _⟩ := sq_of_trod' (El := TrEl) Tryz.underlying46 Tryz.underlying121 (by kernel_rfl) (by kernel_rfl) (by decide) (d := x0.1) (p := x0.2) g0' (hz.arr hu (by simp)) (fun m vs h => trouble_each m vs Tryz.underlying121 h)
      obtain ⟨A1, n1, k1, l1, rfl, h1, _⟩ := sq_of_trod' (El := TrEl) Tryz.underlying46 Tryz.underlying121 (by kernel_rfl) (by kernel_rfl) (by decide) (d := x1.1) (p := x1.2) g1' (hz.arr hu (by simp)) (fun m vs h => trouble_each m vs Tryz.underlying121 h)
      exact ⟨A0, n0, k0, l0, A1, n1, k1, l1, rfl, h0, h1⟩
end
end Mn
end Go.Proofs.YtfdpnjebhllpkaaGreatDoor
