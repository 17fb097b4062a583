/- slices.Backward at strings: its iterator's contract. -/
import Derived.Test.YtfdpnjebhllpkaaGreatDoorMMnDel
import Derived.RangeFuncNested
import Derived.RangeFuncBound
import Derived.RangeFuncCalls
import Derived.RangeFuncLeaves
import Derived.Shelf.Abstract
import Derived.Shelf.RegionOpen
import Derived.WalkKit
import Derived.OwnWalkIn
import Derived.TacticsInMore
import Derived.LoopNIn
import Derived.LoopIn
namespace Go.Proofs.YtfdpnjebhllpkaaGreatDoor.Mn
open Go.RowKit Go.Shelf
attribute [local go_sem] Oper.semAt_some

/-- A short name. -/
abbrev Nm := { s : ByteArray // s.size ≤ 1000 }
def nm0 : Nm := ⟨ByteArray.empty, by decide⟩
/-- The round k from the back. -/
def bk (ss : List Nm) (k : Nat) : Nat × Nm := (ss.length - 1 - k, (ss[ss.length - 1 - k]?).getD nm0)
def upto (ss : List Nm) (k : Nat) : List (Nat × Nm) := (List.range k).map (bk ss)
theorem upto_succ (ss : List Nm) (k : Nat) : upto ss (k + 1) = upto ss k ++ [bk ss k] := by simp [upto, List.range_succ]
theorem upto_length (ss : List Nm) (k : Nat) : (upto ss k).length = k := by simp [upto]

set_option maxRecDepth 100000 in
set_option maxHeartbeats 2000000 in
theorem back1_in (F : Fence) (n : Nat) (h8 : F.fn 162) (hro : F.round = none) (hn : 1 ≤ n) (l Bb n₀ cap : Nat) (A : Option Addr) (ss : List Nm) (hlen : ss.length ≤ 1000000) (J Jx : List (Nat × Nm) → World → Prop)
    (hY : ∀ pre x W, J pre W → pre.length < ss.length → YieldAt F (n - 1) Tryz.prog l #[.int .i64 (x.1 : Int), .string x.2.1] W fun e W' =>
      (e = .returned (.bool true) ∧ J (pre ++ [x]) W' ∧ Below n₀ W W') ∨ (e = .returned (.bool false) ∧ Jx (pre ++ [x]) W'))
    (W : World) (hBb : W.cell? ⟨Bb, 0, none⟩ = some (.slice A ss.length cap)) (hBn : Bb < n₀) (hc : 0 < ss.length → ∃ b off, A = some ⟨b, off, none⟩ ∧ b < n₀ ∧ ∀ (j : Nat) s, ss[j]? = some s → W.cell? ⟨b, off + j, none⟩ = some (.string s.1)) (h0 : J [] W) :
    CallsIn F n Tryz.prog 162 #[.func (.yield l) #[] #[], .pointer (some ⟨Bb, 0, none⟩)] W fun e W' => (∃ v, e = .returned v) ∧
      ((∃ ys, ys = upto ss ss.length ∧ J ys W') ∨ (∃ pre, (∃ k, k ≤ ss.length ∧ pre = upto ss k) ∧ Jx pre W')) := by
  obtain ⟨len, hl⟩ : ∃ len, ss.length = len := ⟨_, rfl⟩
  have hl' := Lib.hid hl
  rw [hl] at hlen hBb hY
  clear hl
  refine callsIn_of_wp Tryz.func162 rfl h8 ?_ hro
  simp only [Tryz.ntmps162, List.size_toArray, List.length_cons, List.length_nil, Nat.reduceAdd, Nat.reduceSub, Array.replicate_succ, Array.replicate_zero, List.push_toArray, List.append_toArray, List.nil_append, List.cons_append]
  have hlen' := Lib.hid hlen
  gi_wp2
  gi_loopw [3] (fun iv wr => ∃ (k m : Nat) (z : Int), k + m = len ∧ iv = .int .i64 z ∧ Hid (z = (m : Int) - 1) ∧ J (upto ss k) wr ∧ Below n₀ W wr) (fun iv _ => (intOf iv + 1).toNat)
  case atStart => exact ⟨0, len, (len : Int) - 1, by omega, by go_num, Lib.hid rfl, h0, Below.refl _ _⟩
  case round =>
    obtain ⟨k, m, z, hkm, rfl, hz, hJs, hnx⟩ := hrel
    have hBr : wr.cell? ⟨Bb, 0, none⟩ = some (.slice A len cap) := (hnx.cell (p := ⟨Bb, 0, none⟩) hBn).trans hBb
    cases m with
    | zero =>
      obtain rfl : z = -1 := by have := hz.out; omega
      obtain rfl : k = len := by omega
      gi_wp2
      go_end0
      exact ⟨⟨_, rfl⟩, .inl ⟨_, by rw [hl'.out], hJs⟩⟩
    | succ q =>
      obtain rfl : z = (q : Int) := by have := hz.out; omega
      obtain ⟨x, hx⟩ : ∃ x, ss[q]? = some x := ⟨_, List.getElem?_eq_getElem (by have := hl'.out; omega)⟩
      obtain ⟨b, off, rfl, hb, hc2⟩ := hc (by have := hl'.out; omega)
      have hcx := (hnx.cell (p := ⟨b, off + q, none⟩) hb).trans (hc2 q x hx)
      have hbk : Hid (upto ss (k + 1) = upto ss k ++ [(q, x)]) := Lib.hid (by
        rw [upto_succ]
        unfold bk
        rw [show ss.length - 1 - k = q by have := hl'.out; omega, hx]
        rfl)
      have i3 : (q : Int) < (len : Int) := by omega
      obtain ⟨fn, tmps, assign, body, hy, hR⟩ := hY _ (q, x) wr hJs (by rw [upto_length]; omega)
      dsimp only at hy
      clear hx hc2
      gi_wp2
      refine hR.mono ?_
      rintro e W3 (⟨rfl, hJ3, hk3⟩ | ⟨rfl, hJx3⟩)
      · gi_wp2
        go_roundw
        case rel => exact ⟨k + 1, q, (q : Int) - 1, by omega, by go_num, Lib.hid rfl, by rw [hbk.out]; exact hJ3, hnx.trans hk3⟩
        case measure => simp [intOf]
      · gi_wp2
        refine bodyPost_ret (results_none rfl _ _ _) rfl ?_
        exact ⟨⟨_, rfl⟩, .inr ⟨_, ⟨k + 1, by have := hl'.out; omega, rfl⟩, by rw [hbk.out]; exact hJx3⟩⟩

/-- slices.Backward: the slice is boxed; the function value captures the box. -/
theorem back_in (F : Fence) (n : Nat) (h5 : F.fn 102) (hro : F.round = none) (a : Option Addr) (len cap : Nat) (w : World) :
    CallsIn F n Tryz.prog 102 #[.slice a len cap] w fun e w' => e = .returned (.func (.func 162) #[] #[.pointer (some ⟨w.heap.size, 0, none⟩)]) ∧ w' = w.alloc (.cells #[.slice a len cap] 80) := by
  refine callsIn_of_wp Tryz.func102 rfl h5 ?_ hro
  simp only [Tryz.ntmps102, List.size_toArray, List.length_cons, List.length_nil, Nat.reduceAdd, Nat.reduceSub, Array.replicate_succ, Array.replicate_zero, List.push_toArray, List.append_toArray, List.nil_append, List.cons_append]
  gi_wp2
  go_ret
  exact ⟨rfl, rfl⟩

theorem back_stops (F : Fence) (n : Nat) (h8 : F.fn 162) (hro : F.round = none) (hn : 1 ≤ n) (Bb n₀ cap : Nat) (A : Option Addr) (ss : List Nm) (hlen : ss.length ≤ 1000000) (w : World) (hBn : Bb < n₀) (hn₀ : n₀ ≤ w.heap.size)
    (hBb : w.cell? ⟨Bb, 0, none⟩ = some (.slice A ss.length cap)) (hc : 0 < ss.length → ∃ b off, A = some ⟨b, off, none⟩ ∧ b < n₀ ∧ ∀ (j : Nat) s, ss[j]? = some s → w.cell? ⟨b, off + j, none⟩ = some (.string s.1)) :
    SeqStopsK F n Tryz.prog 162 #[.pointer (some ⟨Bb, 0, none⟩)] (fun x : Nat × Nm => #[Value.int .i64 (x.1 : Int), Value.string x.2.1]) (Below n₀) (fun ys => ys = upto ss ss.length) (fun pre => ∃ k, k ≤ ss.length ∧ pre = upto ss k) ss.length w := fun l J Jx W hW _ _ hY h0 =>
  back1_in F n h8 hro hn l Bb n₀ cap A ss hlen J Jx hY W (((hW.mono hn₀).cell (p := ⟨Bb, 0, none⟩) hBn).trans hBb) hBn (fun h => by
    obtain ⟨b, off, e, hb, h2⟩ := hc h
    exact ⟨b, off, e, hb, fun j s hs => ((hW.mono hn₀).cell (p := ⟨b, off + j, none⟩) hb).trans (h2 j s hs)⟩) h0
end Go.Proofs.YtfdpnjebhllpkaaGreatDoor.Mn
