/- QlexWords. -/
import Derived.Test.YthiikldjngamaaaDoorQxLaws
namespace Go.Proofs.YthiikldjngamaaaDoor.Qx
open Go.RowKit UtfW Er

theorem add_str (w : World) (a b c : List UInt8) (x y : ByteArray) (hx : strOf a = x) (hy : strOf b = y) (hc : a ++ b = c) (h : c.length ≤ 1000000) : (Op.stringOp .add x y).run Tryd.prog w = .ok (.string (strOf c)) w := by
  subst hx hy hc
  rw [List.length_append] at h
  rw [run_string_add_sum (P := Tryd.prog) w (strOf a) (strOf b) (by rw [strOf_size', strOf_size']; omega), strOf_add]

theorem rep_le (w : List UInt8) {j k : Nat} (h : j ≤ k) : (rep w j).length ≤ (rep w k).length := by
  induction k with
  | zero => obtain rfl : j = 0 := by omega
            exact Nat.le_refl _
  | succ k ih =>
    rcases Nat.lt_or_ge k j with h1 | h1
    · obtain rfl : j = k + 1 := by omega
      exact Nat.le_refl _
    · have := ih h1
      show _ ≤ (w ++ 32 :: rep w k).length
      rw [List.length_append, List.length_cons]
      omega

theorem word_cell (w : World) (E : TypeId) (r : Nat) (hr : r < 5) : ∃ W, W ∈ wordsL ∧ (w.alloc (.cells #[.string ⟨#[97, 110, 100]⟩, .string ⟨#[111, 114]⟩, .string ⟨#[100, 105, 118]⟩, .string ⟨#[109, 111, 100]⟩, .string ⟨#[42]⟩] E)).cell? ⟨w.heap.size, r, none⟩ = some (.string (strOf W)) := by
  have : ∃ W, wordsL[r]? = some W := ⟨_, List.getElem?_eq_getElem hr⟩
  obtain ⟨W, hW⟩ := this
  refine ⟨W, List.mem_of_getElem? hW, ?_⟩
  obtain rfl | rfl | rfl | rfl | rfl : r = 0 ∨ r = 1 ∨ r = 2 ∨ r = 3 ∨ r = 4 := by omega
  all_goals (injection hW with hW; subst hW; go_simp; rfl)

theorem kt_at {us : List Tok} {vs : List (Int × List UInt8)} {i : Nat} {p : Tok} {v : Int × List UInt8} (h : us.map kt = vs) (hp : us[i]? = some p) (hv : vs[i]? = some v) : p.1 = v.1 ∧ p.2.2 = v.2 := by
  rw [← h, List.getElem?_map, hp] at hv
  injection hv with hv
  rw [← hv]
  exact ⟨rfl, rfl⟩

set_option maxHeartbeats 1000000 in
set_option maxRecDepth 100000 in
theorem words_law (a b : Int) (ha : 0 ≤ a ∧ a ≤ 255) (hb : 0 ≤ b ∧ b ≤ 255) (w : World) (hU : Ut w) (hE : En w.heap.size w) :
    Calls Tryd.prog 4 #[.int .u8 a, .int .u8 b] w fun e w' => e = .returned (.bool true) ∧ Below w.heap.size w w' := by
  obtain ⟨ha0, ha1⟩ := ha
  obtain ⟨hb0, hb1⟩ := hb
  go_enter Tryd.func4, Tryd.ntmps4
  go_wp2_with fail
  refine (awake_any w hU hE).mono ?_
  rintro e w1 ⟨rfl, hb1⟩
  have hx1 := Lib.hid hb1
  clear hb1
  obtain ⟨r, hr⟩ : ∃ r : Nat, a % 5 = (r : Int) := ⟨(a % 5).toNat, by omega⟩
  obtain ⟨W, hW, hcell⟩ := word_cell w1 9 r (by omega)
  obtain ⟨k, hk⟩ : ∃ k : Nat, 1 + b % 100 = (k : Int) := ⟨(1 + b % 100).toNat, by omega⟩
  have hk1 : k ≤ 100 := by omega
  have hr5 : (r : Int) < 5 := by omega
  have hr6 : r < 5 := by omega
  have hW' := Lib.hid hW
  have hWl : W.length ≤ 3 := (by decide : ∀ w ∈ wordsL, w.length ≤ 3) W hW
  clear hW
  go_wp2_with fail
  have hx2 := Lib.hid (hx1.out.trans ((below_alloc w1 (.cells #[.string ⟨#[97, 110, 100]⟩, .string ⟨#[111, 114]⟩, .string ⟨#[100, 105, 118]⟩, .string ⟨#[109, 111, 100]⟩, .string ⟨#[42]⟩] 9)).mono hx1.out.size))
  generalize w1.alloc _ = w2 at hx2 ⊢
  clear hcell hr hk ha0 ha1 hb0 hb1 hr5 hr6
  go_loop [6, 8] (fun s v => ∃ j : Nat, j ≤ k ∧ v = .int .i64 (j : Nat) ∧ s = .string (strOf (rep W j))) (fun _ v => k - (intOf v).toNat)
  case atStart => exact ⟨0, by omega, rfl, rfl⟩
  case round =>
    obtain ⟨j, hj, rfl, rfl⟩ := hrel
    have hlen := (rep_V hW'.out (j + 1)).2
    by_cases hlt : j < k
    · have i0 : decide ((j : Int) < (k : Int)) = true := by simp; omega
      have a1 := fun w => add_str w (rep W j) W _ _ _ rfl rfl rfl (by have := rep_le W hj; have := (rep_V hW'.out k).2; rw [List.length_append]; omega)
      have a2 := fun w => add_str w (rep W j ++ W) [32] _ (strOf (rep W j ++ W)) ⟨#[32]⟩ rfl rfl (by rw [List.append_assoc, rep_snoc]) (by omega)
      obtain ⟨T1, hT1⟩ : ∃ T, strOf (rep W j ++ W) = T := ⟨_, rfl⟩
      obtain ⟨T2, hT2⟩ : ∃ T, strOf (rep W (j + 1)) = T := ⟨_, rfl⟩
      rw [hT1] at a1 a2
      rw [hT2] at a2
      have hT2' := Lib.hid hT2
      clear hT1 hT2 hlen
      go_wp2_with fail
      go_round
      case rel => exact ⟨j + 1, by omega, by go_num, by rw [hT2'.out]⟩
      case measure => simp [intOf]; omega
    · have i0 : decide ((j : Int) < (k : Int)) = false := by simp; omega
      obtain ⟨us, hu1, hu2⟩ := all_words hW'.out hk1
      have hu2' := Lib.hid hu2
      have hlk := (rep_V hW'.out k).2
      have hjk : j = k := by omega
      subst hjk
      have hlus : us.length = j := by have := congrArg List.length hu2; rw [List.length_map, alt_len] at this; exact this
      clear hlen hu2
      go_wp2_with fail
      refine (All_any w2 (rep W j) (by omega) (hU.below hx2.out)).mono ?_
      intro e w3 h3
      obtain ⟨hb3, A, n, c, rfl, ho⟩ := h3.ok hu1
      have hn := ho.len
      rw [hlus] at hn
      subst hn
      have hx3 := Lib.hid (hx2.out.trans (hb3.mono hx2.out.size))
      have ho' := Lib.hid ho.rt
      clear hb3 h3 ho hu1 hlus hlk
      go_wp2_with fail
      refine (Code_ok w3).mono ?_
      rintro e w4 ⟨rfl, hb4⟩
      have ho4 := Lib.hid (ho'.out.below hb4)
      have hx4 := Lib.hid (hx3.out.trans (hb4.mono hx3.out.size))
      clear hb4 ho' i0 hlt
      go_wp2_with fail
      go_loop [11] (fun v => ∃ i : Nat, i ≤ j ∧ v = .int .i64 (i : Nat)) (fun v => j - (intOf v).toNat)
      case atStart => exact ⟨0, by omega, rfl⟩
      case round =>
        obtain ⟨i, hi, rfl⟩ := hrel
        by_cases hlt : i < j
        · have i0 : decide ((i : Int) < (j : Int)) = true := by simp; omega
          obtain ⟨g, off, p, rfl, hg, hp, k0, k1, k2⟩ := ho4.out.at_ hlt
          obtain ⟨q1, q2⟩ := kt_at hu2'.out hp (alt_at j false i hlt)
          simp only at q1 q2
          rw [q2] at k2
          rw [q1] at k0
          have hil : (i : Int) < (j : Int) := by omega
          clear hp q1 q2 k1
          rcases (show i % 2 = 0 ∨ i % 2 = 1 by omega) with hm | hm
          · rw [hm] at k0
            have m1 : ((i : Int) % 2 == 1) = false := by rw [beq_eq_false_iff_ne]; omega
            have m2 : ((i : Int) % 2 == 0) = true := by rw [beq_iff_eq]; omega
            have k0' : w4.cell? ⟨g, off + i * 3, none⟩ = some (.int .i64 1) := k0
            clear hm k0
            go_wp2_with fail
            go_round
            case rel => exact ⟨i + 1, by omega, by go_num⟩
            case measure => simp [intOf]; omega
          · rw [hm] at k0
            have m1 : ((i : Int) % 2 == 1) = true := by rw [beq_iff_eq]; omega
            have m2 : ((i : Int) % 2 == 0) = false := by rw [beq_eq_false_iff_ne]; omega
            have k0' : w4.cell? ⟨g, off + i * 3, none⟩ = some (.int .i64 5) := k0
            clear hm k0
            go_wp2_with fail
            go_round
            case rel => exact ⟨i + 1, by omega, by go_num⟩
            case measure => simp [intOf]; omega
        · have i0 : decide ((i : Int) < (j : Int)) = false := by simp; omega
          go_wp2_with fail
          go_ret
          exact ⟨rfl, hx4.out⟩
end Go.Proofs.YthiikldjngamaaaDoor.Qx
