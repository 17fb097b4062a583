/- ivset.Both. -/
import Derived.Test.YtppmnelgekhbnaaGreatDoorIvPut
namespace Go.Proofs.YtppmnelgekhbnaaGreatDoor.IvW
open Go.RowKit Iv

/-- What both is, if both are sets. -/
def both? (a b : List Span) : List Span := if okB 1 a && okB 1 b then both a b else []

set_option maxHeartbeats 2000000 in
set_option maxRecDepth 100000 in
theorem both_any (A : Option Addr) (n c : Nat) (la : List Span) (B : Option Addr) (m d : Nat) (lb : List Span) (w : World) (hA : Rp w A n c la) (hB : Rp w B m d lb) (hn : n ≤ 1000000) (hm : m ≤ 1000000) :
    Calls Tryz.prog 33 #[.slice A n c, .slice B m d] w fun e w' => ∃ A' c', e = .returned (.slice A' (both? la lb).length c') ∧ OwP w' w.heap.size 41 (.slice A' (both? la lb).length c') (both? la lb) ∧ Below w.heap.size w w' := by
  have hla := hA.len
  have hlb := hB.len
  have a1 := hA.le
  have a2 := hA.max
  have a3 := hB.le
  have a4 := hB.max
  have c1 := may_any A n c la w hA
  obtain ⟨R, hR⟩ : ∃ R, both? la lb = R := ⟨_, rfl⟩
  rw [hR]
  unfold both? at hR
  cases ha : okB 1 la
  · rw [ha] at c1 hR
    simp only [Bool.false_and, Bool.false_eq_true, if_false] at hR
    subst hR
    go_enter Tryz.func33, Tryz.ntmps33
    go_wp2_with (go_at_call 7; refine c1.mono ?_; rintro e w1 ⟨rfl, hb1⟩)
    go_ret
    exact ⟨none, 0, rfl, OwP.nil _ _ _, hb1⟩
  rw [ha] at c1 hR
  cases hb : okB 1 lb
  · rw [hb] at hR
    simp only [Bool.and_false, Bool.false_eq_true, if_false] at hR
    subst hR
    go_enter Tryz.func33, Tryz.ntmps33
    go_wp2_with fail
    refine c1.mono ?_
    rintro e w1 ⟨rfl, hb1⟩
    have c2 := may_any B m d lb w1 (hB.below hb1)
    rw [hb] at c2
    go_wp2_with fail
    refine c2.mono ?_
    rintro e w2 ⟨rfl, hb2⟩
    have hb02 := hb1.trans (hb2.mono hb1.size)
    clear hb1 hb2
    go_wp2_with fail
    go_ret
    exact ⟨none, 0, rfl, OwP.nil _ _ _, hb02⟩
  rw [hb] at hR
  simp only [Bool.and_self, if_true] at hR
  have hR' := Lib.hid hR
  have hA' := Lib.hid hA
  have hB' := Lib.hid hB
  have ha' := Lib.hid ha
  have hb' := Lib.hid hb
  clear hR hA hB ha
  go_enter Tryz.func33, Tryz.ntmps33
  go_wp2_with fail
  refine c1.mono ?_
  rintro e w1 ⟨rfl, hb1⟩
  have c2 := may_any B m d lb w1 (hB'.out.below hb1)
  rw [hb] at c2
  clear hb c1
  go_wp2_with fail
  refine c2.mono ?_
  rintro e w2 ⟨rfl, hb2⟩
  have hb02 := hb1.trans (hb2.mono hb1.size)
  clear hb1 hb2 c2
  go_wp2_with fail
  go_loopw [5, 6, 7] (fun o i j wr => ∃ (i' j' : Nat) (A' : Option Addr) (c' : Nat) (acc : List Span), i' ≤ n ∧ j' ≤ m ∧ acc.length ≤ i' + j' ∧ o = .slice A' acc.length c' ∧ i = .int .i64 i' ∧ j = .int .i64 j' ∧ acc ++ both (la.drop i') (lb.drop j') = R ∧ OwP wr w.heap.size 41 (.slice A' acc.length c') acc ∧ Below w.heap.size w wr) (fun _ i j _ => n - (intOf i).toNat + (m - (intOf j).toNat))
  case atStart => exact ⟨0, 0, none, 0, [], by omega, by omega, by simp, rfl, rfl, rfl, hR'.out, OwP.nil _ _ _, hb02⟩
  case round =>
    obtain ⟨i', j', A', c', acc, h1, h2, h3, rfl, rfl, rfl, hacc, hO, hbw⟩ := hrel
    clear hb02
    by_cases hi : i' < n
    case neg =>
      obtain rfl : i' = n := by omega
      rw [List.drop_eq_nil_of_le (by omega)] at hacc
      have e0 : both [] (lb.drop j') = [] := by rw [both]
      rw [e0, List.append_nil] at hacc
      have hacc' := Lib.hid hacc
      have hO' := Lib.hid hO
      have hbw' := Lib.hid hbw
      clear hacc hO hbw e0
      go_wp2_with fail
      go_ret
      rw [← hacc'.out]
      exact ⟨A', c', rfl, hO'.out, hbw'.out⟩
    case pos =>
    by_cases hj : j' < m
    case neg =>
      obtain rfl : j' = m := by omega
      rw [List.drop_eq_nil_of_le (show lb.length ≤ j' by omega)] at hacc
      have e0 : both (la.drop i') [] = [] := by cases la.drop i' <;> rw [both]
      rw [e0, List.append_nil] at hacc
      have hacc' := Lib.hid hacc
      have hO' := Lib.hid hO
      have hbw' := Lib.hid hbw
      clear hacc hO hbw e0
      go_wp2_with fail
      go_ret
      rw [← hacc'.out]
      exact ⟨A', c', rfl, hO'.out, hbw'.out⟩
    case pos =>
    obtain ⟨b1, o1, ⟨f1, t1⟩, rfl, _, hp1, hc1, hc2⟩ := (hA'.out.below hbw).at_ hi
    obtain ⟨b2, o2, ⟨f2, t2⟩, rfl, _, hp2, hc3, hc4⟩ := (hB'.out.below hbw).at_ hj
    rw [drop_cons hp1, drop_cons hp2, both, ← drop_cons hp1, ← drop_cons hp2] at hacc
    simp only at hc1 hc2 hc3 hc4
    have hO' := Lib.hid hO
    have hbw' := Lib.hid hbw
    have hacc' := Lib.hid hacc
    clear hO hbw hacc
    have mx : (if f1 < f2 then f2 else f1) = max f1 f2 := by split <;> omega
    have mn : (if t2 < t1 then t2 else t1) = min t1 t2 := by split <;> omega
    have mx' := Lib.hid mx
    have mn' := Lib.hid mn
    clear mx mn
    go_wp2_with fail
    go_quiet (fail)
    generalize hF : (if f1 < f2 then f2 else f1) = F
    generalize hT : (if t2 < t1 then t2 else t1) = T
    have eF : F = max f1 f2 := hF ▸ mx'.out
    have eT : T = min t1 t2 := hT ▸ mn'.out
    rw [← eF, ← eT] at hacc'
    clear eF eT hF hT mx' mn'
    by_cases hft : F ≤ T
    · have d1 : decide (F ≤ T) = true := by simpa using hft
      rw [if_pos hft] at hacc'
      go_wp2_with (at_builtin; apply stop_here)
      have hB : w.heap.size ≤ wr.heap.size := hbw'.out.size
      have hbq := Lib.hid (hbw'.out.trans ((Joins.below_draws _ wr nq).mono hB))
      refine Stop.go (append_spans _ 22 41 _ Tryz.underlying22 info_span rfl rfl _ _ rfl w.heap.size _ acc rfl ((hO'.out.below (Joins.below_draws _ wr nq)).below (below_alloc _ _)) _ _ _ [(F, T)] rfl (rp_lit (wr.drewN nq) #[.int .i64 F, .int .i64 T] _ _ [(F, T)] 1 rfl (by omega) rfl) (acc.length + 1) rfl (by omega) (by simp; omega) ?_)
      intro A2 c2 w3 ho3 hb3
      have hx3 := Lib.hid (hbq.out.trans (((below_alloc (wr.drewN nq) _).mono hB).trans hb3))
      have ho3' := Lib.hid ho3
      have k1 := hx3.out.cell (p := ⟨b1, o1 + i' * 2 + 1, none⟩)
      obtain ⟨c1', c2', c3', c4'⟩ : w3.cell? ⟨b1, o1 + i' * 2, none⟩ = some (.int .i64 f1) ∧ w3.cell? ⟨b1, o1 + i' * 2 + 1, none⟩ = some (.int .i64 t1) ∧ w3.cell? ⟨b2, o2 + j' * 2, none⟩ = some (.int .i64 f2) ∧ w3.cell? ⟨b2, o2 + j' * 2 + 1, none⟩ = some (.int .i64 t2) := by
        have r1 := hA'.out.below hx3.out
        have r2 := hB'.out.below hx3.out
        obtain ⟨x1, y1, p1, e1, _, q1, s1, s2⟩ := r1.at_ hi
        obtain ⟨x2, y2, p2, e2, _, q2, s3, s4⟩ := r2.at_ hj
        injection e1 with e1; injection e1 with e1 e1'; subst e1 e1'
        injection e2 with e2; injection e2 with e2 e2'; subst e2 e2'
        rw [hp1] at q1; injection q1 with q1; subst q1
        rw [hp2] at q2; injection q2 with q2; subst q2
        exact ⟨s1, s2, s3, s4⟩
      clear ho3 hb3 hbq k1 hc1 hc2 hc3 hc4
      by_cases htt : t1 < t2
      · have d2 : decide (t1 < t2) = true := by simpa using htt
        rw [if_pos htt] at hacc'
        go_wp2_with fail
        go_quiet (fail)
        go_wp2_with fail
        go_roundw
        case rel => exact ⟨i' + 1, j', A2, c2, acc ++ [(F, T)], by omega, by omega, by simp; omega, by simp, by go_num, rfl, by rw [← hacc'.out]; simp, by simpa using ho3'.out.below (Joins.below_draws _ _ _), hx3.out.trans ((Joins.below_draws _ _ _).mono hx3.out.size)⟩
        case measure => simp [intOf]; omega
      · have d2 : decide (t1 < t2) = false := by simpa using htt
        rw [if_neg htt] at hacc'
        go_wp2_with fail
        go_quiet (fail)
        go_wp2_with fail
        go_roundw
        case rel => exact ⟨i', j' + 1, A2, c2, acc ++ [(F, T)], by omega, by omega, by simp; omega, by simp, rfl, by go_num, by rw [← hacc'.out]; simp, by simpa using ho3'.out.below (Joins.below_draws _ _ _), hx3.out.trans ((Joins.below_draws _ _ _).mono hx3.out.size)⟩
        case measure => simp [intOf]; omega
    · have d1 : decide (F ≤ T) = false := by simpa using hft
      rw [if_neg hft, List.nil_append] at hacc'
      by_cases htt : t1 < t2
      · have d2 : decide (t1 < t2) = true := by simpa using htt
        rw [if_pos htt] at hacc'
        go_wp2_with fail
        go_quiet (fail)
        go_wp2_with fail
        go_roundw
        case rel => exact ⟨i' + 1, j', A', c', acc, by omega, by omega, by omega, rfl, by go_num, rfl, hacc'.out, hO'.out.below (Joins.below_draws _ _ _), hbw'.out.trans ((Joins.below_draws _ _ _).mono hbw'.out.size)⟩
        case measure => simp [intOf]; omega
      · have d2 : decide (t1 < t2) = false := by simpa using htt
        rw [if_neg htt] at hacc'
        go_wp2_with fail
        go_quiet (fail)
        go_wp2_with fail
        go_roundw
        case rel => exact ⟨i', j' + 1, A', c', acc, by omega, by omega, by omega, rfl, rfl, by go_num, hacc'.out, hO'.out.below (Joins.below_draws _ _ _), hbw'.out.trans ((Joins.below_draws _ _ _).mono hbw'.out.size)⟩
        case measure => simp [intOf]; omega
end Go.Proofs.YtppmnelgekhbnaaGreatDoor.IvW
