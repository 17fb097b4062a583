/- The document's May. -/
import Derived.Test.YtppmnelgekhbnaaGreatDoorIvWalk
import Derived.Deep.QuietTactic
import Derived.BigQuiet
import Derived.WalkLawsBesides
namespace Go.Proofs.YtppmnelgekhbnaaGreatDoor.IvW
open Go.RowKit Iv

set_option maxHeartbeats 1000000 in
set_option maxRecDepth 100000 in
theorem refmay_any (A : Option Addr) (n c : Nat) (l : List Span) (w : World) (hR : Rp w A n c l) :
    Calls Tryz.prog 8 #[.slice A n c] w fun e w' => e = .returned (.bool (okB 1 l)) ∧ ∃ k, w' = w.drewN k := by
  have hle := hR.le
  have hm := hR.max
  have hlen := hR.len
  go_enter Tryz.func8, Tryz.ntmps8
  go_wp2_with fail
  go_loopw [3] (fun i wr => ∃ (k : Nat) (b : Int), k ≤ n ∧ i = .int .i64 k ∧ (k = 0 ∧ b = 1 ∨ 1 ≤ k ∧ ∃ q : Span, l[k - 1]? = some q ∧ q.2 ≤ 200 ∧ 1 ≤ q.2 ∧ b = q.2 + 2) ∧ okB 1 l = okB b (l.drop k) ∧ ∃ m, wr = w.drewN m) (fun i _ => n - (intOf i).toNat)
  case atStart => exact ⟨0, 1, by omega, rfl, .inl ⟨rfl, rfl⟩, rfl, 0, rfl⟩
  case round =>
    obtain ⟨k, b, hk, rfl, hab, hok, m, rfl⟩ := hrel
    by_cases hlt : k < n
    · obtain ⟨b', off, ⟨f, t⟩, rfl, hb, hp, hc1, hc2⟩ := hR.at_ hlt
      have hd := drop_cons hp
      rw [hd, okB] at hok
      simp only at hc1 hc2
      have fin : ∀ v : Bool, (decide (b ≤ f) && decide (f ≤ t) && decide (t ≤ 200) && okB (t + 2) (l.drop (k + 1))) = v → okB 1 l = v := fun v hv => hok.trans hv
      by_cases v1 : f < 1
      case pos =>
        have v1' : decide (f < 1) = true := by simpa using v1
        have hf := fin false (by simp; omega)
        clear fin hok hd
        go_wp2_with fail
        go_quiet (fail)
        go_wp2_with fail
        go_ret
        exact ⟨by rw [hf]; rfl, _, World.drewN_drewN _ _ _⟩
      case neg =>
        have v1' : decide (f < 1) = false := by simpa using v1
        by_cases v2 : t < f
        case pos =>
          have v2' : decide (t < f) = true := by simpa using v2
          have hf := fin false (by simp; omega)
          clear fin hok hd
          go_wp2_with fail
          go_quiet (fail)
          go_wp2_with fail
          go_ret
          exact ⟨by rw [hf]; rfl, _, World.drewN_drewN _ _ _⟩
        case neg =>
          have v2' : decide (t < f) = false := by simpa using v2
          by_cases v3 : 200 < t
          case pos =>
            have v3' : decide (200 < t) = true := by simpa using v3
            have hf := fin false (by simp; omega)
            clear fin hok hd
            go_wp2_with fail
            go_quiet (fail)
            go_wp2_with fail
            go_ret
            exact ⟨by rw [hf]; rfl, _, World.drewN_drewN _ _ _⟩
          case neg =>
            have v3' : decide (200 < t) = false := by simpa using v3
            have hnext : b ≤ f → okB 1 l = okB (t + 2) (l.drop (k + 1)) := fun hbf => fin _ (by
                have e1 : decide (b ≤ f) = true := by simp; omega
                have e2 : decide (f ≤ t) = true := by simp; omega
                have e3 : decide (t ≤ 200) = true := by simp; omega
                rw [e1, e2, e3]; rfl)
            have hno : f < b → okB 1 l = false := fun hbf => fin _ (by
                have e1 : decide (b ≤ f) = false := by simp; omega
                rw [e1]; rfl)
            clear fin hok hd
            rcases hab with ⟨hk1, rfl⟩ | ⟨hk1, ⟨qf, qt⟩, hq, hq1, hq2, rfl⟩
            · have hf := Lib.hid (hnext (by omega))
              subst hk1
              simp only [Nat.zero_mul, Nat.add_zero] at hc1 hc2
              clear hnext hno
              go_wp2_with fail
              go_big_quiet (fail)
              go_wp2_with fail
              go_roundw
              case rel => exact ⟨1, t + 2, by omega, by go_num, .inr ⟨by omega, (f, t), hp, by simp only; omega, by simp only; omega, rfl⟩, hf.out, _, rfl⟩
              case measure => simp [intOf]; omega
            · simp only at hq1 hq2 hnext hno
              have hk0 : decide (0 < (k : Int)) = true := by simp; omega
              obtain ⟨b2, off2, q2, e2, _, hq', hc3, hc4⟩ := hR.at_ (show k - 1 < n by omega)
              injection e2 with e2
              injection e2 with e3 e4
              subst e3 e4
              rw [hq] at hq'
              injection hq' with hq'
              subst hq'
              simp only at hc3 hc4
              obtain ⟨k, rfl⟩ : ∃ j, k = j + 1 := ⟨k - 1, by omega⟩
              rw [Nat.add_sub_cancel] at hc3 hc4
              by_cases v4 : f < qt + 2
              case pos =>
                have v4' : decide (f < qt + 2) = true := by simpa using v4
                have hf := hno v4
                clear hnext hno
                go_wp2_with fail
                go_quiet (fail)
                go_wp2_with fail
                go_outline
                go_ret
                exact ⟨by rw [hf]; rfl, _, World.drewN_drewN _ _ _⟩
              case neg =>
                have v4' : decide (f < qt + 2) = false := by simpa using v4
                have hf := Lib.hid (hnext (by omega))
                clear hnext hno
                go_wp2_with fail
                go_quiet (fail)
                go_wp2_with fail
                go_roundw
                case rel => exact ⟨k + 1 + 1, t + 2, by omega, by go_num, .inr ⟨by omega, (f, t), hp, by simp only; omega, by simp only; omega, rfl⟩, hf.out, _, rfl⟩
                case measure => simp [intOf]; omega
    · obtain rfl : k = n := by omega
      have h0 : l.drop k = [] := List.drop_eq_nil_of_le (by omega)
      rw [h0] at hok
      go_wp2_with fail
      go_ret
      exact ⟨by rw [hok]; rfl, m, rfl⟩
end Go.Proofs.YtppmnelgekhbnaaGreatDoor.IvW
