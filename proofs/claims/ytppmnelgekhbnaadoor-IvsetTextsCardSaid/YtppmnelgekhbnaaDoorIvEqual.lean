/- slices.Equal at spans; ivset.Equal. -/
import Derived.Test.YtppmnelgekhbnaaDoorIvSame
namespace Go.Proofs.YtppmnelgekhbnaaDoor.IvW
open Go.RowKit Iv

set_option maxHeartbeats 1000000 in
set_option maxRecDepth 100000 in
theorem equalP_any (A : Option Addr) (n c : Nat) (la : List Span) (B : Option Addr) (m d : Nat) (lb : List Span) (w : World) (hA : Rp w A n c la) (hB : Rp w B m d lb) :
    Calls Tryd.prog 40 #[.slice A n c, .slice B m d] w fun e w' => e = .returned (.bool (decide (la = lb))) ∧ ∃ k, w' = w.drewN k := by
  have hla := hA.len
  have hlb := hB.len
  have a1 := hA.le
  have a2 := hA.max
  have a3 := hB.le
  have a4 := hB.max
  obtain ⟨v, hv⟩ : ∃ v, decide (la = lb) = v := ⟨_, rfl⟩
  rw [hv]
  by_cases hnm : n = m
  case neg =>
    have hv' : v = false := by rw [← hv]; simp; intro h; apply hnm; rw [← hla, ← hlb, h]
    subst hv'
    have t1 : ((n : Int) != (m : Int)) = true := by simp; omega
    clear hv
    go_enter Tryd.func40, Tryd.ntmps40
    go_wp2_with fail
    go_ret
    exact ⟨rfl, 0, rfl⟩
  case pos =>
    subst hnm
    go_enter Tryd.func40, Tryd.ntmps40
    go_wp2_with fail
    go_loopw [13] (fun i wr => ∃ k : Nat, k ≤ n ∧ i = .int .i64 k ∧ la.take k = lb.take k ∧ ∃ q, wr = w.drewN q) (fun i _ => n - (intOf i).toNat)
    case atStart => exact ⟨0, by omega, rfl, by simp, 0, rfl⟩
    case round =>
      obtain ⟨k, hk, rfl, hkk, q, rfl⟩ := hrel
      by_cases hlt : k < n
      · obtain ⟨b1, o1, ⟨f1, t1⟩, rfl, _, hp1, hc1, hc2⟩ := hA.at_ hlt
        obtain ⟨b2, o2, ⟨f2, t2⟩, rfl, _, hp2, hc3, hc4⟩ := hB.at_ hlt
        simp only at hc1 hc2 hc3 hc4
        by_cases he : f1 = f2 ∧ t1 = t2
        · obtain ⟨rfl, rfl⟩ := he
          have hkk' : la.take (k + 1) = lb.take (k + 1) := by rw [take_snoc hp1, take_snoc hp2, hkk]
          have hkk2 := Lib.hid hkk'
          clear hv hkk hkk'
          go_wp2_with fail
          go_quiet (fail)
          go_wp2_with fail
          go_roundw
          case rel => exact ⟨k + 1, by omega, by go_num, hkk2.out, _, rfl⟩
          case measure => simp [intOf]; omega
        · have hv' : v = false := by
            rw [← hv]; simp; intro h
            rw [h, hp2] at hp1
            injection hp1 with hp1
            injection hp1 with e1 e2
            exact he ⟨e1.symm, e2.symm⟩
          have he' : (f1 == f2 && t1 == t2) = false := by simpa using he
          have nq1 : ∀ w, (binOp .neq 40 (.agg #[.int .i64 f1, .int .i64 t1]) (.agg #[.int .i64 f2, .int .i64 t2])).run Tryd.prog w = .ok (.bool true) w := fun w => by rw [neq_span, he']; rfl
          have hv2 := Lib.hid hv'
          clear hv hkk hv' he' he
          go_wp2_with fail
          go_quiet (fail)
          go_wp2_with fail
          go_ret
          exact ⟨by rw [hv2.out]; rfl, _, World.drewN_drewN _ _ _⟩
      · obtain rfl : k = n := by omega
        rw [List.take_of_length_le (by omega), List.take_of_length_le (by omega)] at hkk
        have hv' : v = true := by rw [← hv]; simp [hkk]
        clear hv hkk
        go_wp2_with fail
        go_ret
        exact ⟨by rw [hv']; rfl, q, rfl⟩

/-- Whether sets have the same versions. -/
def equal? (a b : List Span) : Bool := okB 1 a && okB 1 b && decide (a = b)

set_option maxHeartbeats 1000000 in
set_option maxRecDepth 100000 in
theorem equal_any (A : Option Addr) (n c : Nat) (la : List Span) (B : Option Addr) (m d : Nat) (lb : List Span) (w : World) (hA : Rp w A n c la) (hB : Rp w B m d lb) :
    Calls Tryd.prog 19 #[.slice A n c, .slice B m d] w fun e w' => e = .returned (.bool (equal? la lb)) ∧ Below w.heap.size w w' := by
  have c1 := may_any A n c la w hA
  obtain ⟨R, hR⟩ : ∃ R, equal? la lb = R := ⟨_, rfl⟩
  rw [hR]
  unfold equal? at hR
  cases ha : okB 1 la
  · rw [ha] at c1 hR
    simp only [Bool.false_and] at hR
    subst hR
    go_enter Tryd.func19, Tryd.ntmps19
    go_wp2_with (go_at_call 29; refine c1.mono ?_; rintro e w1 ⟨rfl, hb1⟩)
    go_ret
    exact ⟨rfl, hb1⟩
  rw [ha] at c1 hR
  have hA' := Lib.hid hA
  have hB' := Lib.hid hB
  cases hb : okB 1 lb
  · rw [hb] at hR
    simp only [Bool.and_false, Bool.false_and] at hR
    subst hR
    go_enter Tryd.func19, Tryd.ntmps19
    go_wp2_with fail
    refine c1.mono ?_
    rintro e w1 ⟨rfl, hb1⟩
    have c2 := may_any B m d lb w1 (hB'.out.below hb1)
    rw [hb] at c2
    go_wp2_with fail
    refine c2.mono ?_
    rintro e w2 ⟨rfl, hb2⟩
    have hb02 := hb1.trans (hb2.mono hb1.size)
    clear hb1 hb2
    go_wp2_with fail
    go_ret
    exact ⟨rfl, hb02⟩
  rw [hb] at hR
  simp only [Bool.true_and] at hR
  have hR' := Lib.hid hR
  clear hR ha hA hB
  go_enter Tryd.func19, Tryd.ntmps19
  go_wp2_with fail
  refine c1.mono ?_
  rintro e w1 ⟨rfl, hb1⟩
  have c2 := may_any B m d lb w1 (hB'.out.below hb1)
  rw [hb] at c2
  go_wp2_with fail
  refine c2.mono ?_
  rintro e w2 ⟨rfl, hb2⟩
  have hb02 := hb1.trans (hb2.mono hb1.size)
  have c3 := equalP_any A n c la B m d lb w2 (hA'.out.below hb02) (hB'.out.below hb02)
  rw [hR'.out] at c3
  clear hb1 hb2 c1 c2 hb
  go_wp2_with fail
  refine c3.mono ?_
  rintro e w3 ⟨rfl, k, rfl⟩
  have hx3 := Lib.hid (hb02.trans ((Joins.below_draws _ _ k).mono hb02.size))
  clear c3
  go_wp2_with fail
  go_ret
  exact ⟨rfl, hx3.out⟩
end Go.Proofs.YtppmnelgekhbnaaDoor.IvW
