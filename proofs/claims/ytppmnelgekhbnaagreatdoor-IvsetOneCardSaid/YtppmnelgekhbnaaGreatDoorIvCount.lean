/- ivset.Count, First, Last. -/
import Derived.Test.YtppmnelgekhbnaaGreatDoorIvPut
namespace Go.Proofs.YtppmnelgekhbnaaGreatDoor.IvW
open Go.RowKit Iv

theorem cnt_take : ∀ {l : List Span} {k : Nat} {p : Span}, l[k]? = some p → cnt (l.take (k + 1)) = cnt (l.take k) + (p.2 - p.1 + 1)
  | [], _, _, h => by simp at h
  | (f, t) :: r, 0, p, h => by simp at h; subst h; simp [cnt]
  | (f, t) :: r, k + 1, p, h => by
    have := cnt_take (l := r) (k := k) (by simpa using h)
    rw [List.take_succ_cons, List.take_succ_cons, cnt, cnt, this]
    omega

theorem ok_get' : ∀ {l : List Span} {b : Int} {k : Nat} {p : Span}, okB b l = true → l[k]? = some p → b ≤ p.1 ∧ p.1 ≤ p.2 ∧ p.2 ≤ 200
  | [], _, _, _, _, h => by simp at h
  | (f, t) :: r, b, 0, p, h, hp => by
    rw [okB_iff] at h
    obtain ⟨h1, h2, h3, _⟩ := h
    simp at hp
    subst hp
    exact ⟨h1, h2, h3⟩
  | (f, t) :: r, b, k + 1, p, h, hp => by
    have hok := (okB_iff _ _).1 h
    obtain ⟨h1, h2, h3, h4⟩ := hok
    have := ok_get' ((okB_iff _ _).2 h4) (by simpa using hp)
    omega

def cnt? (l : List Span) : Int := if okB 1 l then cnt l else 0
def first? (l : List Span) : Int := if okB 1 l then (l.head?.map (·.1)).getD 0 else 0
def last? (l : List Span) : Int := if okB 1 l then (l.getLast?.map (·.2)).getD 0 else 0

set_option maxHeartbeats 1000000 in
set_option maxRecDepth 100000 in
theorem count_any (A : Option Addr) (n c : Nat) (l : List Span) (w : World) (hR : Rp w A n c l) (hn : n ≤ 1000000) :
    Calls Tryz.prog 11 #[.slice A n c] w fun e w' => e = .returned (.int .i64 (cnt? l)) ∧ Below w.heap.size w w' := by
  have hla := hR.len
  have a1 := hR.le
  have a2 := hR.max
  have c1 := may_any A n c l w hR
  obtain ⟨C, hC⟩ : ∃ C, cnt? l = C := ⟨_, rfl⟩
  rw [hC]
  unfold cnt? at hC
  cases ha : okB 1 l
  · rw [ha] at c1 hC
    simp only [Bool.false_eq_true, if_false] at hC
    subst hC
    go_enter Tryz.func11, Tryz.ntmps11
    go_wp2_with (go_at_call 7; refine c1.mono ?_; rintro e w1 ⟨rfl, hb1⟩)
    go_ret
    exact ⟨rfl, hb1⟩
  · rw [ha] at c1 hC
    simp only [if_true] at hC
    have ha' := Lib.hid ha
    have hC' := Lib.hid hC
    have hR' := Lib.hid hR
    clear ha hC hR
    go_enter Tryz.func11, Tryz.ntmps11
    go_wp2_with (go_at_call 7; refine c1.mono ?_; rintro e w1 ⟨rfl, hb1⟩)
    clear c1
    go_loopw [3, 10] (fun v i wr => ∃ (k : Nat) (s : Int), k ≤ n ∧ i = .int .i64 k ∧ v = .int .i64 s ∧ cnt (l.take k) = s ∧ 0 ≤ s ∧ s ≤ 200 * k ∧ Below w.heap.size w wr) (fun _ i _ => n - (intOf i).toNat)
    case atStart => exact ⟨0, 0, by omega, rfl, rfl, rfl, by omega, by omega, hb1⟩
    case round =>
      obtain ⟨k, s, hk, rfl, rfl, hs, hs1, hs2, hbw⟩ := hrel
      clear hb1
      by_cases hlt : k < n
      · obtain ⟨b', off, ⟨f, t⟩, rfl, hb, hp, hc1, hc2⟩ := (hR'.out.below hbw).at_ hlt
        obtain ⟨o1, o2, o3⟩ := ok_get' ha'.out hp
        have hs' := cnt_take hp
        simp only at hc1 hc2 o1 o2 o3 hs'
        rw [hs] at hs'
        have hs'' := Lib.hid hs'
        clear hs hs'
        go_wp2_with fail
        go_roundw
        case rel => exact ⟨k + 1, s + (t - f + 1), by omega, by go_num, by go_num, hs''.out, by omega, by omega, hbw.alloc hbw.size _⟩
        case measure => simp [intOf]; omega
      · obtain rfl : k = n := by omega
        rw [List.take_of_length_le (by omega), hC'.out] at hs
        have hs' := Lib.hid hs
        clear hs
        go_wp2_with fail
        go_ret
        exact ⟨by rw [hs'.out]; rfl, hbw⟩

end Go.Proofs.YtppmnelgekhbnaaGreatDoor.IvW
