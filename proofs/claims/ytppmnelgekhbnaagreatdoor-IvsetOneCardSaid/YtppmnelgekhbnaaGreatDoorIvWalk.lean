/- Walks of ivset and of the document's own: version, May. -/
import Derived.Test.YtppmnelgekhbnaaGreatDoorIvRow
import Derived.Outline
import Derived.Test.YtppmnelgekhbnaaGreatDoorProg
namespace Go.Proofs.YtppmnelgekhbnaaGreatDoor.IvW
open Go.RowKit Iv

/-- Whether a version may be. -/
def ver (v : Int) : Bool := decide (1 ≤ v) && decide (v ≤ 200)
theorem ver_true {v : Int} : ver v = true ↔ 1 ≤ v ∧ v ≤ 200 := by simp [ver]
theorem ver_false {v : Int} : ver v = false ↔ ¬ (1 ≤ v ∧ v ≤ 200) := by rw [← ver_true]; cases ver v <;> simp

theorem version_any (v : Int) (w : World) :
    Calls Tryz.prog 23 #[.int .i64 v] w fun e w' => e = .returned (.bool (ver v)) ∧ w' = w := by
  by_cases h1 : 1 ≤ v
  · have t1 : decide (1 ≤ v) = true := by simp; omega
    by_cases h2 : v ≤ 200
    · have t2 : decide (v ≤ 200) = true := by simp; omega
      go_enter Tryz.func23, Tryz.ntmps23
      go_wp2_with fail
      go_ret
      exact ⟨by rw [ver_true.2 ⟨h1, h2⟩]; rfl, rfl⟩
    · have t2 : decide (v ≤ 200) = false := by simp; omega
      go_enter Tryz.func23, Tryz.ntmps23
      go_wp2_with fail
      go_ret
      exact ⟨by rw [ver_false.2 (by omega)]; rfl, rfl⟩
  · have t1 : decide (1 ≤ v) = false := by simp; omega
    go_enter Tryz.func23, Tryz.ntmps23
    go_wp2_with fail
    go_ret
    exact ⟨by rw [ver_false.2 (by omega)]; rfl, rfl⟩

theorem drop_cons {l : List Span} {k : Nat} {p : Span} (h : l[k]? = some p) : l.drop k = p :: l.drop (k + 1) := by
  obtain ⟨h1, h2⟩ := List.getElem?_eq_some_iff.1 h
  rw [List.drop_eq_getElem_cons h1, h2]

set_option maxHeartbeats 1000000 in
set_option maxRecDepth 100000 in
theorem may_any (A : Option Addr) (n c : Nat) (l : List Span) (w : World) (hR : Rp w A n c l) :
    Calls Tryz.prog 7 #[.slice A n c] w fun e w' => e = .returned (.bool (okB 1 l)) ∧ Below w.heap.size w w' := by
  have hle := hR.le
  have hm := hR.max
  have hlen := hR.len
  go_enter Tryz.func7, Tryz.ntmps7
  go_wp2_with fail
  go_loopw [3, 8] (fun v i wr => ∃ (k : Nat) (a b : Int), k ≤ n ∧ i = .int .i64 k ∧ v = .int .i64 a ∧ (a = -1 ∧ b = 1 ∨ 1 ≤ a ∧ a ≤ 200 ∧ b = a + 2) ∧ okB 1 l = okB b (l.drop k) ∧ Below w.heap.size w wr) (fun _ i _ => n - (intOf i).toNat)
  case atStart => exact ⟨0, -1, 1, by omega, rfl, rfl, .inl ⟨rfl, rfl⟩, rfl, Below.refl _ _⟩
  case round =>
    obtain ⟨k, a, b, hk, rfl, rfl, hab, hok, hbw⟩ := hrel
    by_cases hlt : k < n
    · obtain ⟨b', off, ⟨f, t⟩, rfl, hb, hp, hc1, hc2⟩ := (hR.below hbw).at_ hlt
      have hd := drop_cons hp
      rw [hd, okB] at hok
      simp only at hc1 hc2
      have fin : ∀ v : Bool, (decide (b ≤ f) && decide (f ≤ t) && decide (t ≤ 200) && okB (t + 2) (l.drop (k + 1))) = v → okB 1 l = v := fun v hv => hok.trans hv
      by_cases v1 : ver f = true
      case neg =>
        have v1' : ver f = false := by simpa using v1
        have v1'' := ver_false.1 v1'
        have hf := fin false (by simp; omega)
        clear fin hok hd v1 v1''
        go_wp2_with (go_at_call 23; refine (version_any _ _).mono ?_; rintro e w' ⟨rfl, rfl⟩)
        go_ret
        exact ⟨by rw [hf]; rfl, hbw.alloc hbw.size _⟩
      case pos =>
        have v1' : ver f = true := v1
        have v1'' := ver_true.1 v1'
        by_cases v2 : ver t = true
        case neg =>
          have v2' : ver t = false := by simpa using v2
          have v2'' := ver_false.1 v2'
          have hf := fin false (by simp; omega)
          clear fin hok hd v1 v2 v1'' v2''
          go_wp2_with (go_at_call 23; refine (version_any _ _).mono ?_; rintro e w' ⟨rfl, rfl⟩)
          go_ret
          exact ⟨by rw [hf]; rfl, hbw.alloc hbw.size _⟩
        case pos =>
          have v2' : ver t = true := v2
          have v2'' := ver_true.1 v2'
          clear v1 v2
          by_cases v3 : t < f
          case pos =>
            have v3' : decide (t < f) = true := by simpa using v3
            have hf := fin false (by simp; omega)
            clear fin hok hd
            go_wp2_with (go_at_call 23; refine (version_any _ _).mono ?_; rintro e w' ⟨rfl, rfl⟩)
            go_ret
            exact ⟨by rw [hf]; rfl, hbw.alloc hbw.size _⟩
          case neg =>
            have v3' : decide (t < f) = false := by simpa using v3
            by_cases v4 : f < b
            case pos =>
              have v4' : decide (f ≤ a + 1) = true := by simp; omega
              have v5' : decide (0 ≤ a) = true := by simp; omega
              have ha : 1 ≤ a ∧ a ≤ 200 := by omega
              have hf := fin false (by simp; omega)
              clear fin hok hd hab
              go_wp2_with (go_at_call 23; refine (version_any _ _).mono ?_; rintro e w' ⟨rfl, rfl⟩)
              go_ret
              exact ⟨by rw [hf]; rfl, hbw.alloc hbw.size _⟩
            case neg =>
              have hnext : okB 1 l = okB (t + 2) (l.drop (k + 1)) := fin _ (by
                have e1 : decide (b ≤ f) = true := by simp; omega
                have e2 : decide (f ≤ t) = true := by simp; omega
                have e3 : decide (t ≤ 200) = true := by simp; omega
                rw [e1, e2, e3]; rfl)
              have e4 : (f ≤ a + 1 ∧ 0 ≤ a) = False := by simp; omega
              have ha : -1 ≤ a ∧ a ≤ 200 := by omega
              have hnext' := Lib.hid hnext
              clear fin hok hd hnext
              rcases hab with ⟨rfl, rfl⟩ | ⟨a1, a2, rfl⟩
              · by_cases v5 : f ≤ 0
                · omega
                · have v5' : decide (f ≤ 0) = false := by simp; omega
                  go_wp2_with (go_at_call 23; refine (version_any _ _).mono ?_; rintro e w' ⟨rfl, rfl⟩)
                  go_roundw
                  case rel => exact ⟨k + 1, t, t + 2, by omega, by go_num, rfl, .inr ⟨v2''.1, v2''.2, rfl⟩, hnext'.out, hbw.alloc hbw.size _⟩
                  case measure => simp [intOf]; omega
              · have v5' : decide (f ≤ a + 1) = false := by simp; omega
                go_wp2_with (go_at_call 23; refine (version_any _ _).mono ?_; rintro e w' ⟨rfl, rfl⟩)
                go_roundw
                case rel => exact ⟨k + 1, t, t + 2, by omega, by go_num, rfl, .inr ⟨v2''.1, v2''.2, rfl⟩, hnext'.out, hbw.alloc hbw.size _⟩
                case measure => simp [intOf]; omega
    · obtain rfl : k = n := by omega
      have h0 : l.drop k = [] := List.drop_eq_nil_of_le (by omega)
      rw [h0] at hok
      go_wp2_with fail
      go_ret
      exact ⟨by rw [hok]; rfl, hbw⟩

end Go.Proofs.YtppmnelgekhbnaaGreatDoor.IvW
