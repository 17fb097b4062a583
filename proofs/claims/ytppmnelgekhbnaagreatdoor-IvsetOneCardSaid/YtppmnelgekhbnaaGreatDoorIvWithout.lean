/- ivset.Without, Within. -/
import Derived.Test.YtppmnelgekhbnaaGreatDoorIvBoth
import Derived.Test.YtppmnelgekhbnaaGreatDoorIvRow2
namespace Go.Proofs.YtppmnelgekhbnaaGreatDoor.IvW
open Go.RowKit Iv

def without? (a b : List Span) : List Span := if okB 1 a && okB 1 b then both a (comp 1 b) else []

theorem ok_get2 : ∀ {l : List Span} {b : Int} {k : Nat} {p : Span}, okB b l = true → l[k]? = some p → b ≤ p.1 ∧ p.1 ≤ p.2 ∧ p.2 ≤ 200
  | [], _, _, _, _, h => by simp at h
  | (f, t) :: r, b, 0, p, h, hp => by
    rw [okB_iff] at h
    obtain ⟨h1, h2, h3, _⟩ := h
    simp at hp
    subst hp
    exact ⟨h1, h2, h3⟩
  | (f, t) :: r, b, k + 1, p, h, hp => by
    have hok := (okB_iff _ _).1 h
    obtain ⟨h1, h2, h3, h4⟩ := hok
    have := ok_get2 ((okB_iff _ _).2 h4) (by simpa using hp)
    omega

set_option maxHeartbeats 2000000 in
set_option maxRecDepth 100000 in
theorem without_any (A : Option Addr) (n c : Nat) (la : List Span) (B : Option Addr) (m d : Nat) (lb : List Span) (w : World) (hA : Rp w A n c la) (hB : Rp w B m d lb) (hn : n ≤ 1000000) (hm : m ≤ 100000) :
    Calls Tryz.prog 21 #[.slice A n c, .slice B m d] w fun e w' => ∃ A' c', e = .returned (.slice A' (without? la lb).length c') ∧ OwP w' w.heap.size 41 (.slice A' (without? la lb).length c') (without? la lb) ∧ Below w.heap.size w w' := by
  have hla := hA.len
  have hlb := hB.len
  have a1 := hA.le
  have a2 := hA.max
  have a3 := hB.le
  have a4 := hB.max
  have c1 := may_any A n c la w hA
  obtain ⟨R, hR⟩ : ∃ R, without? la lb = R := ⟨_, rfl⟩
  rw [hR]
  unfold without? at hR
  cases ha : okB 1 la
  · rw [ha] at c1 hR
    simp only [Bool.false_and, Bool.false_eq_true, if_false] at hR
    subst hR
    go_enter Tryz.func21, Tryz.ntmps21
    go_wp2_with (go_at_call 7; refine c1.mono ?_; rintro e w1 ⟨rfl, hb1⟩)
    go_ret
    exact ⟨none, 0, rfl, OwP.nil _ _ _, hb1⟩
  rw [ha] at c1 hR
  cases hb : okB 1 lb
  · rw [hb] at hR
    simp only [Bool.and_false, Bool.false_eq_true, if_false] at hR
    subst hR
    go_enter Tryz.func21, Tryz.ntmps21
    go_wp2_with fail
    refine c1.mono ?_
    rintro e w1 ⟨rfl, hb1⟩
    have c2 := may_any B m d lb w1 (hB.below hb1)
    rw [hb] at c2
    go_wp2_with fail
    refine c2.mono ?_
    rintro e w2 ⟨rfl, hb2⟩
    have hb02 := hb1.trans (hb2.mono hb1.size)
    clear hb1 hb2
    go_wp2_with fail
    go_ret
    exact ⟨none, 0, rfl, OwP.nil _ _ _, hb02⟩
  rw [hb] at hR
  simp only [Bool.and_self, if_true] at hR
  have hR' := Lib.hid hR
  have hA' := Lib.hid hA
  have hB' := Lib.hid hB
  have ha' := Lib.hid ha
  have hb' := Lib.hid hb
  clear hR hA hB ha
  go_enter Tryz.func21, Tryz.ntmps21
  go_wp2_with fail
  refine c1.mono ?_
  rintro e w1 ⟨rfl, hb1⟩
  have c2 := may_any B m d lb w1 (hB'.out.below hb1)
  rw [hb] at c2
  clear hb c1
  go_wp2_with fail
  refine c2.mono ?_
  rintro e w2 ⟨rfl, hb2⟩
  have hb02 := hb1.trans (hb2.mono hb1.size)
  clear hb1 hb2 c2
  go_wp2_with fail
  go_loopw [5, 6, 19] (fun o fr i wr => ∃ (k : Nat) (A' : Option Addr) (c' : Nat) (acc : List Span) (b : Int), k ≤ m ∧ acc.length ≤ k ∧ o = .slice A' acc.length c' ∧ fr = .int .i64 b ∧ i = .int .i64 k ∧ 1 ≤ b ∧ b ≤ 201 ∧ acc ++ comp b (lb.drop k) = comp 1 lb ∧ OwP wr w.heap.size 41 (.slice A' acc.length c') acc ∧ Below w.heap.size w wr) (fun _ _ i _ => m - (intOf i).toNat)
  case atStart => exact ⟨0, none, 0, [], 1, by omega, by simp, rfl, rfl, rfl, by omega, by omega, rfl, OwP.nil _ _ _, hb02⟩
  case round =>
    obtain ⟨k, A', c', acc, b, hk, h3, rfl, rfl, rfl, hb1, hb2, hacc, hO, hbw⟩ := hrel
    clear hb02
    by_cases hi : k < m
    case pos =>
      obtain ⟨b1, o1, ⟨f, t⟩, rfl, _, hp, hc1, hc2⟩ := (hB'.out.below hbw).at_ hi
      obtain ⟨g1, g2, g3⟩ := ok_get2 hb'.out hp
      rw [drop_cons hp, comp] at hacc
      simp only at hc1 hc2 g1 g2 g3
      have hO' := Lib.hid hO
      have hbw' := Lib.hid hbw
      have hacc' := Lib.hid hacc
      have hB0 : w.heap.size ≤ wr.heap.size := hbw.size
      clear hO hbw hacc
      by_cases hfb : b < f
      · have d1 : decide (b < f) = true := by simpa using hfb
        rw [if_pos hfb] at hacc'
        go_wp2_with (at_builtin; apply stop_here)
        have hbq := Lib.hid (hbw'.out.alloc hB0 (.cells #[.int .i64 f, .int .i64 t] 41))
        have hOq := Lib.hid (hO'.out.below (below_alloc wr (.cells #[.int .i64 f, .int .i64 t] 41)))
        obtain ⟨x0, x1⟩ := box2 wr f t 41
        have hsz : (wr.alloc (.cells #[.int .i64 f, .int .i64 t] 41)).heap.size = wr.heap.size + 1 := by simp
        refine Stop.go (append_spansG _ 22 41 _ Tryz.underlying22 info_span rfl rfl _ _ rfl w.heap.size _ acc rfl (hOq.out.below (below_alloc _ _)) _ _ _ [(b, f - 1)] rfl (rp_lit' (wr.alloc (.cells #[.int .i64 f, .int .i64 t] 41)) #[.int .i64 b, .int .i64 (f - 1)] _ _ [(b, f - 1)] 1 _ hsz rfl (by omega) rfl) (acc.length + 1) rfl (by omega) (by simp; omega) ?_)
        intro A2 c2 w3 ho3 hb3 hg3
        have hB1 : w.heap.size ≤ (wr.alloc (.cells #[.int .i64 f, .int .i64 t] 41)).heap.size := by rw [hsz]; omega
        have hx3 := Lib.hid (hbq.out.trans (((below_alloc (wr.alloc (.cells #[.int .i64 f, .int .i64 t] 41)) _).mono hB1).trans hb3))
        have ho3' := Lib.hid ho3
        have hlt := hO'.out.lt
        have y1 : w3.cell? ⟨wr.heap.size, 1, none⟩ = some (.int .i64 t) := by
          rw [cell_grownBy hg3 (by simp; omega) (fun e => by have := (hlt _ e).2; omega)]
          rw [(below_alloc (wr.alloc (.cells #[.int .i64 f, .int .i64 t] 41)) (.cells #[.int .i64 b, .int .i64 (f - 1)] 41)).cell (p := ⟨wr.heap.size, 1, none⟩) (by simp)]
          exact x1
        clear ho3 hb3 hg3 hbq hOq x0 x1 hsz hlt
        go_wp2_with fail
        go_roundw
        case rel => exact ⟨k + 1, A2, c2, acc ++ [(b, f - 1)], t + 1, by omega, by simp; omega, by simp, by go_num, by go_num, by omega, by omega, by rw [← hacc'.out]; simp, by simpa using ho3'.out, hx3.out⟩
        case measure => simp [intOf]; omega
      · have d1 : decide (b < f) = false := by simpa using hfb
        rw [if_neg hfb] at hacc'
        go_wp2_with fail
        go_roundw
        case rel => exact ⟨k + 1, A', c', acc, t + 1, by omega, by omega, rfl, by go_num, by go_num, by omega, by omega, hacc'.out, hO'.out.below (below_alloc _ _), hbw'.out.alloc hB0 _⟩
        case measure => simp [intOf]; omega
    case neg =>
      obtain rfl : k = m := by omega
      rw [List.drop_eq_nil_of_le (by omega), comp] at hacc
      have hO' := Lib.hid hO
      have hbw' := Lib.hid hbw
      have hacc' := Lib.hid hacc
      have hB0 : w.heap.size ≤ wr.heap.size := hbw.size
      clear hO hbw hacc
      obtain ⟨q1, q2⟩ := comp_ok lb 1 ((okB_iff _ _).1 hb'.out)
      have hq : okB 1 (comp 1 lb) = true := (okB_iff _ _).2 q1
      have hfin : both? la (comp 1 lb) = R := by unfold both?; rw [ha'.out, hq]; exact hR'.out
      have hfin' := Lib.hid hfin
      clear q1 q2 hq hfin
      by_cases h200 : b ≤ 200
      · have d1 : decide (b ≤ 200) = true := by simpa using h200
        rw [if_pos h200] at hacc'
        go_wp2_with (at_builtin; apply stop_here)
        refine Stop.go (append_spans _ 22 41 _ Tryz.underlying22 info_span rfl rfl _ _ rfl w.heap.size _ acc rfl (hO'.out.below (below_alloc _ _)) _ _ _ [(b, 200)] rfl (rp_lit wr #[.int .i64 b, .int .i64 200] _ _ [(b, 200)] 1 rfl (by omega) rfl) (acc.length + 1) rfl (by omega) (by simp; omega) ?_)
        intro A2 c2 w3 ho3 hb3
        have hx3 := Lib.hid (hbw'.out.trans (((below_alloc wr _).mono hB0).trans hb3))
        rw [hacc'.out] at ho3
        have hl3 : (comp 1 lb).length = acc.length + 1 := by rw [← hacc'.out]; simp
        have cB := both_any A n c la A2 (acc.length + 1) c2 (comp 1 lb) w3 (hA'.out.below hx3.out) ho3.rp hn (by omega)
        rw [hfin'.out] at cB
        clear ho3 hb3
        go_wp2_with fail
        refine cB.mono ?_
        rintro e w4 ⟨A4, c4, rfl, ho4, hb4⟩
        have ho4' := Lib.hid (ho4.mono hx3.out.size)
        have hx4 := Lib.hid (hx3.out.trans (hb4.mono hx3.out.size))
        clear ho4 hb4 cB
        go_wp2_with fail
        go_ret
        exact ⟨A4, c4, rfl, ho4'.out, hx4.out⟩
      · have d1 : decide (b ≤ 200) = false := by simpa using h200
        rw [if_neg h200, List.append_nil] at hacc'
        have hO2 := hO'.out.rp
        have hl3 : (comp 1 lb).length = acc.length := by rw [← hacc'.out]
        have cB := both_any A n c la A' acc.length c' acc wr (hA'.out.below hbw'.out) hO2 hn (by omega)
        have e2 : both? la acc = R := by rw [hacc'.out]; exact hfin'.out
        rw [e2] at cB
        clear hO2 e2
        go_wp2_with fail
        refine cB.mono ?_
        rintro e w4 ⟨A4, c4, rfl, ho4, hb4⟩
        have ho4' := Lib.hid (ho4.mono hbw'.out.size)
        have hx4 := Lib.hid (hbw'.out.trans (hb4.mono hbw'.out.size))
        clear ho4 hb4 cB
        go_wp2_with fail
        go_ret
        exact ⟨A4, c4, rfl, ho4'.out, hx4.out⟩

end Go.Proofs.YtppmnelgekhbnaaGreatDoor.IvW
