/- The document's Same. -/
import Derived.Test.YtppmnelgekhbnaaGreatDoorIvWalk
import Derived.Deep.QuietTactic
import Derived.BigQuiet
import Derived.BigRegion
import Derived.WalkLawsBesides
import Derived.Lib.SmallJoins
namespace Go.Proofs.YtppmnelgekhbnaaGreatDoor.IvW
open Go.RowKit Iv

theorem eql_span (x1 x2 y1 y2 : Int) (w : World) : (binOp .eql 41 (.agg #[.int .i64 x1, .int .i64 x2]) (.agg #[.int .i64 y1, .int .i64 y2])).run Tryz.prog w = .ok (.bool (x1 == y1 && x2 == y2)) w := by
  have u3 := Tryz.underlying3
  have a3 := Tryz.isAgg3
  have z3 := Tryz.sizeOf3
  have hS : Tryz.prog.underlying 41 = some (.struct (Tryz.prog.fieldsOf 41)) := by kernel_rfl
  have hp : Tryz.prog.stoodInHeld 41 = false := by kernel_rfl
  rw [run_eql_struct, show (10000 : Nat) = 9999 + 1 from rfl, run_equalIn_agg w 9999 41 _ _ hS hp]
  simp only [Program.fieldsOf, Tryz.underlying41]
  go_simp
  by_cases h1 : x1 = y1 <;> by_cases h2 : x2 = y2 <;> simp [h1, h2]

theorem neq_span (x1 x2 y1 y2 : Int) (w : World) : (binOp .neq 41 (.agg #[.int .i64 x1, .int .i64 x2]) (.agg #[.int .i64 y1, .int .i64 y2])).run Tryz.prog w = .ok (.bool (!(x1 == y1 && x2 == y2))) w := by
  have u3 := Tryz.underlying3
  have a3 := Tryz.isAgg3
  have z3 := Tryz.sizeOf3
  have hS : Tryz.prog.underlying 41 = some (.struct (Tryz.prog.fieldsOf 41)) := by kernel_rfl
  have hp : Tryz.prog.stoodInHeld 41 = false := by kernel_rfl
  rw [run_neq_struct, show (10000 : Nat) = 9999 + 1 from rfl, run_equalIn_agg w 9999 41 _ _ hS hp]
  simp only [Program.fieldsOf, Tryz.underlying41]
  go_simp
  by_cases h1 : x1 = y1 <;> by_cases h2 : x2 = y2 <;> simp [h1, h2]

set_option maxHeartbeats 1000000 in
set_option maxRecDepth 100000 in
theorem same_any (A : Option Addr) (n c : Nat) (la : List Span) (B : Option Addr) (m d : Nat) (lb : List Span) (w : World) (hA : Rp w A n c la) (hB : Rp w B m d lb) :
    Calls Tryz.prog 14 #[.slice A n c, .slice B m d] w fun e w' => e = .returned (.bool (decide (la = lb))) ∧ ∃ k, w' = w.drewN k := by
  have hla := hA.len
  have hlb := hB.len
  have a1 := hA.le
  have a2 := hA.max
  have a3 := hB.le
  have a4 := hB.max
  obtain ⟨v, hv⟩ : ∃ v, decide (la = lb) = v := ⟨_, rfl⟩
  rw [hv]
  by_cases hnm : n = m
  case neg =>
    have hv' : v = false := by rw [← hv]; simp; intro h; apply hnm; rw [← hla, ← hlb, h]
    subst hv'
    have t1 : ((n : Int) != (m : Int)) = true := by simp; omega
    clear hv
    go_enter Tryz.func14, Tryz.ntmps14
    go_wp2_with fail
    go_ret
    exact ⟨rfl, 0, rfl⟩
  case pos =>
    subst hnm
    go_enter Tryz.func14, Tryz.ntmps14
    go_wp2_with fail
    go_loopw [5] (fun i wr => ∃ k : Nat, k ≤ n ∧ i = .int .i64 k ∧ la.take k = lb.take k ∧ ∃ q, wr = w.drewN q) (fun i _ => n - (intOf i).toNat)
    case atStart => exact ⟨0, by omega, rfl, by simp, 0, rfl⟩
    case round =>
      obtain ⟨k, hk, rfl, hkk, q, rfl⟩ := hrel
      by_cases hlt : k < n
      · obtain ⟨b1, o1, ⟨f1, t1⟩, rfl, _, hp1, hc1, hc2⟩ := hA.at_ hlt
        obtain ⟨b2, o2, ⟨f2, t2⟩, rfl, _, hp2, hc3, hc4⟩ := hB.at_ hlt
        simp only at hc1 hc2 hc3 hc4
        by_cases he : f1 = f2 ∧ t1 = t2
        · obtain ⟨rfl, rfl⟩ := he
          have hkk' : la.take (k + 1) = lb.take (k + 1) := by rw [take_snoc hp1, take_snoc hp2, hkk]
          have hkk2 := Lib.hid hkk'
          clear hv hkk hkk'
          go_wp2_with fail
          go_quiet (fail)
          go_wp2_with fail
          go_roundw
          case rel => exact ⟨k + 1, by omega, by go_num, hkk2.out, _, rfl⟩
          case measure => simp [intOf]; omega
        · have hv' : v = false := by
            rw [← hv]; simp; intro h
            rw [h, hp2] at hp1
            injection hp1 with hp1
            injection hp1 with e1 e2
            exact he ⟨e1.symm, e2.symm⟩
          have he' : (f1 == f2 && t1 == t2) = false := by simpa using he
          have nq1 : ∀ w, (binOp .neq 41 (.agg #[.int .i64 f1, .int .i64 t1]) (.agg #[.int .i64 f2, .int .i64 t2])).run Tryz.prog w = .ok (.bool true) w := fun w => by rw [neq_span, he']; rfl
          have hv2 := Lib.hid hv'
          clear hv hkk hv' he' he
          go_wp2_with fail
          go_quiet (fail)
          go_wp2_with fail
          go_ret
          exact ⟨by rw [hv2.out]; rfl, _, World.drewN_drewN _ _ _⟩
      · obtain rfl : k = n := by omega
        rw [List.take_of_length_le (by omega), List.take_of_length_le (by omega)] at hkk
        have hv' : v = true := by rw [← hv]; simp [hkk]
        clear hv hkk
        go_wp2_with fail
        go_ret
        exact ⟨by rw [hv']; rfl, q, rfl⟩
end Go.Proofs.YtppmnelgekhbnaaGreatDoor.IvW
