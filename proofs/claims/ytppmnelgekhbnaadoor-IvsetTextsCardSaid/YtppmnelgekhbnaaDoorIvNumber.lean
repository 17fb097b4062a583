/- The document's number. -/
import Derived.Test.YtppmnelgekhbnaaDoorIvTextLaw
import Derived.Test.YtppmnelgekhbnaaDoorIvPut
import Derived.Test.YtppmnelgekhbnaaDoorStrLaws
namespace Go.Proofs.YtppmnelgekhbnaaDoor.IvW
open Go.RowKit Iv

def numV (L : List UInt8) (a : Nat) : Value :=
  match num (L.drop a) with
  | none => .tuple #[.int .i64 0, .int .i64 (-1)]
  | some (v, r) => .tuple #[.int .i64 (v : Nat), .int .i64 ((L.length - r.length : Nat) : Nat)]

theorem dig4_at {j v : Nat} {c : UInt8} {r : List UInt8} (h : isDig c = true) : dig4 (j + 1) v (c :: r) = dig4 j (v * 10 + (c.toNat - 48)) r := by
  rw [dig4, if_pos h]
theorem dig4_end {j v : Nat} {l : List UInt8} (h : j = 0 ∨ ∀ c, l.head? = some c → isDig c = false) : dig4 j v l = (v, l) := by
  rcases j with _ | j
  · rfl
  · rcases l with _ | ⟨c, r⟩
    · rfl
    · rcases h with h | h
      · omega
      · rw [dig4, if_neg (by rw [h c rfl]; simp)]

set_option maxHeartbeats 2000000 in
set_option maxRecDepth 100000 in
theorem number_any (s : ByteArray) (a0 : Nat) (ha : a0 ≤ s.size) (hs : s.size ≤ 100000) (w : World) :
    Calls Tryd.prog 30 #[.string s, .int .i64 a0] w fun e w' => e = .returned (numV s.data.toList a0) ∧ w' = w := by
  have HL : Hid (s.data.toList.length = s.size) := Lib.hid (by rw [Array.length_toList]; rfl)
  have HG : ∀ (k : Nat) (h : k < s.size), Hid (s.data.toList.drop k = s[k] :: s.data.toList.drop (k + 1)) := fun k h => Lib.hid (by
    rw [List.drop_eq_getElem_cons (by have := HL.out; omega)]
    rfl)
  obtain ⟨R, hR⟩ : ∃ R, numV s.data.toList a0 = R := ⟨_, rfl⟩
  rw [hR]
  have hR' := Lib.hid hR
  clear hR
  go_enter Tryd.func30, Tryd.ntmps30
  go_wp2_with fail
  go_loop [1, 6] (fun av nv => ∃ (a v j : Nat), a0 ≤ a ∧ a ≤ s.size ∧ j + a = a0 + 4 ∧ v < 10 ^ (a - a0) ∧ av = .int .i64 a ∧ nv = .int .i64 v ∧ Hid (dig4 4 0 (s.data.toList.drop a0) = dig4 j v (s.data.toList.drop a)) ∧ Hid (a0 < a → ∃ h : a0 < s.size, isDig s[a0] = true)) (fun av _ => s.size - (intOf av).toNat)
  case atStart => exact ⟨a0, 0, 4, by omega, ha, by omega, by simp, rfl, rfl, Lib.hid rfl, Lib.hid (fun h => absurd h (by omega))⟩
  case round =>
    obtain ⟨a, v, j, h1, h2, h3, h4, rfl, rfl, hd, hf⟩ := hrel
    have hv : v < 10000 := Nat.lt_of_lt_of_le h4 (by
      have := Nat.pow_le_pow_right (n := 10) (by omega) (show a - a0 ≤ 4 by omega)
      omega)
    have h4' := Lib.hid h4
    clear h4
    by_cases hgo : ∃ h : a < s.size, isDig s[a] = true ∧ j ≠ 0
    case pos =>
      obtain ⟨hlt, hdig, hj⟩ := hgo
      have hdig' := hdig
      simp only [isDig, Bool.and_eq_true, decide_eq_true_eq] at hdig'
      obtain ⟨d1, d2⟩ := hdig'
      have hx8 : s[a].toNat < 256 := UInt8.toNat_lt _
      obtain ⟨j, rfl⟩ : ∃ i, j = i + 1 := ⟨j - 1, by omega⟩
      have i0 : decide ((a : Int) < (s.size : Int)) = true := by simp; omega
      have i1 : decide ((48 : Int) ≤ (s[a].toNat : Int)) = true := by simp; omega
      have i2 : decide ((s[a].toNat : Int) ≤ 57) = true := by simp; omega
      have i3 : decide ((a : Int) - (a0 : Int) < 4) = true := by simp; omega
      have i4 : ((s[a].toNat : Int) - 48) % 256 = (s[a].toNat : Int) - 48 := by omega
      have i5 : (a : Int) < (s.size : Int) := by omega
      have hstep : dig4 4 0 (s.data.toList.drop a0) = dig4 j (v * 10 + (s[a].toNat - 48)) (s.data.toList.drop (a + 1)) := by
        rw [hd.out, (HG a hlt).out, dig4_at hdig]
      have hstep' := Lib.hid hstep
      have hf' : Hid (∃ h : a0 < s.size, isDig s[a0] = true) := Lib.hid (by
        rcases Nat.lt_or_ge a0 a with h | h
        · exact hf.out h
        · obtain rfl : a = a0 := by omega
          exact ⟨hlt, hdig⟩)
      have hpow : Hid (v * 10 + (s[a].toNat - 48) < 10 ^ (a + 1 - a0)) := Lib.hid (by
        have := h4'.out
        rw [show a + 1 - a0 = (a - a0) + 1 by omega, Nat.pow_succ]
        omega)
      clear hd hf hdig hstep hj
      go_wp2_with fail
      go_round
      case rel => exact ⟨a + 1, v * 10 + (s[a].toNat - 48), j, by omega, by omega, by omega, hpow.out, by go_num, val_int (by omega), hstep', Lib.hid (fun _ => hf'.out)⟩
      case measure => simp [intOf]; omega
    case neg =>
      have hend : dig4 4 0 (s.data.toList.drop a0) = (v, s.data.toList.drop a) := by
        rw [hd.out]
        refine dig4_end ?_
        by_cases hj : j = 0
        · exact .inl hj
        · right
          intro c hc
          rcases Nat.lt_or_ge a s.size with hlt | hge
          · rw [(HG a hlt).out] at hc
            simp at hc
            subst hc
            cases hq : isDig s[a] with
            | false => rfl
            | true => exact absurd ⟨hlt, hq, hj⟩ hgo
          · rw [List.drop_eq_nil_of_le (by have := HL.out; omega)] at hc
            cases hc
      have hnum : R = (if a = a0 then .tuple #[.int .i64 0, .int .i64 (-1)] else if ∃ h : a0 < s.size, s[a0].toNat = 48 then .tuple #[.int .i64 0, .int .i64 (-1)] else .tuple #[.int .i64 (v : Nat), .int .i64 (a : Nat)]) := by
        rw [← hR'.out]
        unfold numV
        by_cases haa : a = a0
        · subst haa
          rw [if_pos rfl]
          rcases Nat.lt_or_ge a s.size with hlt | hge
          · rw [(HG a hlt).out, num]
            have hq : isDig s[a] = false := by
              cases hq : isDig s[a] with
              | false => rfl
              | true => exact absurd ⟨hlt, hq, by omega⟩ hgo
            rw [hq]
            rfl
          · rw [List.drop_eq_nil_of_le (by have := HL.out; omega)]
            rfl
        · rw [if_neg haa]
          obtain ⟨hlt, hq⟩ := hf.out (by omega)
          rw [(HG a0 hlt).out] at hend ⊢
          rw [num, hq, hend]
          by_cases h48 : s[a0].toNat = 48
          · have e : s[a0] = 48 := by apply UInt8.toNat_inj.1; rw [h48]; rfl
            rw [if_neg (by simp [e]), if_pos ⟨hlt, h48⟩]
          · have e : s[a0] ≠ 48 := fun h => h48 (by rw [h]; rfl)
            rw [if_pos (by simp [e]), if_neg (fun ⟨_, h⟩ => h48 h)]
            simp only
            have : (s.data.toList.drop a).length = s.size - a := by rw [List.length_drop, HL.out]
            rw [this, HL.out, show s.size - (s.size - a) = a by omega]
      have hnum' := Lib.hid hnum
      have hf' := hf
      clear hend hnum hd hf h4' hR'
      by_cases g1 : a < s.size
      case neg =>
        have i0 : decide ((a : Int) < (s.size : Int)) = false := by simp; omega
        clear hgo
        by_cases haa : a = a0
        · subst haa
          rw [if_pos rfl] at hnum'
          go_wp2_with fail
          go_ret2
          exact ⟨by rw [hnum'.out]; rfl, rfl⟩
        · obtain ⟨hlt0, hq0⟩ := hf'.out (by omega)
          have e0 : ((a : Int) == (a0 : Int)) = false := by rw [beq_eq_false_iff_ne]; omega
          have e1 : (a0 : Int) < (s.size : Int) := by omega
          rw [if_neg haa] at hnum'
          have hx0 : s[a0].toNat < 256 := UInt8.toNat_lt _
          by_cases h48 : s[a0].toNat = 48
          · rw [if_pos ⟨hlt0, h48⟩] at hnum'
            have e2 : ((s[a0].toNat : Int) == 48) = true := by rw [beq_iff_eq]; omega
            clear hq0 h48 haa
            go_wp2_with fail
            go_ret2
            exact ⟨by rw [hnum'.out]; rfl, rfl⟩
          · rw [if_neg (fun ⟨_, h⟩ => h48 h)] at hnum'
            have e2 : ((s[a0].toNat : Int) == 48) = false := by rw [beq_eq_false_iff_ne]; omega
            clear hq0 h48 haa
            go_wp2_with fail
            go_ret2
            exact ⟨by rw [hnum'.out]; rfl, rfl⟩
      case pos =>
      have hx8 : s[a].toNat < 256 := UInt8.toNat_lt _
      have i0 : decide ((a : Int) < (s.size : Int)) = true := by simp; omega
      have i5 : (a : Int) < (s.size : Int) := by omega
      by_cases g2 : 48 ≤ s[a].toNat
      case neg =>
        have i1 : decide ((48 : Int) ≤ (s[a].toNat : Int)) = false := by simp; omega
        clear hgo
        by_cases haa : a = a0
        · subst haa
          rw [if_pos rfl] at hnum'
          go_wp2_with fail
          go_ret2
          exact ⟨by rw [hnum'.out]; rfl, rfl⟩
        · obtain ⟨hlt0, hq0⟩ := hf'.out (by omega)
          have e0 : ((a : Int) == (a0 : Int)) = false := by rw [beq_eq_false_iff_ne]; omega
          have e1 : (a0 : Int) < (s.size : Int) := by omega
          rw [if_neg haa] at hnum'
          have hx0 : s[a0].toNat < 256 := UInt8.toNat_lt _
          by_cases h48 : s[a0].toNat = 48
          · rw [if_pos ⟨hlt0, h48⟩] at hnum'
            have e2 : ((s[a0].toNat : Int) == 48) = true := by rw [beq_iff_eq]; omega
            clear hq0 h48 haa
            go_wp2_with fail
            go_ret2
            exact ⟨by rw [hnum'.out]; rfl, rfl⟩
          · rw [if_neg (fun ⟨_, h⟩ => h48 h)] at hnum'
            have e2 : ((s[a0].toNat : Int) == 48) = false := by rw [beq_eq_false_iff_ne]; omega
            clear hq0 h48 haa
            go_wp2_with fail
            go_ret2
            exact ⟨by rw [hnum'.out]; rfl, rfl⟩
      case pos =>
      have i1 : decide ((48 : Int) ≤ (s[a].toNat : Int)) = true := by simp; omega
      by_cases g3 : s[a].toNat ≤ 57
      case neg =>
        have i2 : decide ((s[a].toNat : Int) ≤ 57) = false := by simp; omega
        clear hgo
        by_cases haa : a = a0
        · subst haa
          rw [if_pos rfl] at hnum'
          go_wp2_with fail
          go_ret2
          exact ⟨by rw [hnum'.out]; rfl, rfl⟩
        · obtain ⟨hlt0, hq0⟩ := hf'.out (by omega)
          have e0 : ((a : Int) == (a0 : Int)) = false := by rw [beq_eq_false_iff_ne]; omega
          have e1 : (a0 : Int) < (s.size : Int) := by omega
          rw [if_neg haa] at hnum'
          have hx0 : s[a0].toNat < 256 := UInt8.toNat_lt _
          by_cases h48 : s[a0].toNat = 48
          · rw [if_pos ⟨hlt0, h48⟩] at hnum'
            have e2 : ((s[a0].toNat : Int) == 48) = true := by rw [beq_iff_eq]; omega
            clear hq0 h48 haa
            go_wp2_with fail
            go_ret2
            exact ⟨by rw [hnum'.out]; rfl, rfl⟩
          · rw [if_neg (fun ⟨_, h⟩ => h48 h)] at hnum'
            have e2 : ((s[a0].toNat : Int) == 48) = false := by rw [beq_eq_false_iff_ne]; omega
            clear hq0 h48 haa
            go_wp2_with fail
            go_ret2
            exact ⟨by rw [hnum'.out]; rfl, rfl⟩
      case pos =>
      have i2 : decide ((s[a].toNat : Int) ≤ 57) = true := by simp; omega
      have hj0 : j = 0 := by
        rcases Nat.eq_zero_or_pos j with h | h
        · exact h
        · exact absurd ⟨g1, by simp [isDig, g2, g3], by omega⟩ hgo
      have i3 : decide ((a : Int) - (a0 : Int) < 4) = false := by simp; omega
      have haa : a ≠ a0 := by omega
      clear hgo
      obtain ⟨hlt0, hq0⟩ := hf'.out (by omega)
      have e0 : ((a : Int) == (a0 : Int)) = false := by rw [beq_eq_false_iff_ne]; omega
      have e1 : (a0 : Int) < (s.size : Int) := by omega
      rw [if_neg haa] at hnum'
      have hx0 : s[a0].toNat < 256 := UInt8.toNat_lt _
      by_cases h48 : s[a0].toNat = 48
      · rw [if_pos ⟨hlt0, h48⟩] at hnum'
        have e2 : ((s[a0].toNat : Int) == 48) = true := by rw [beq_iff_eq]; omega
        clear hq0 h48 haa
        go_wp2_with fail
        go_ret2
        exact ⟨by rw [hnum'.out]; rfl, rfl⟩
      · rw [if_neg (fun ⟨_, h⟩ => h48 h)] at hnum'
        have e2 : ((s[a0].toNat : Int) == 48) = false := by rw [beq_eq_false_iff_ne]; omega
        clear hq0 h48 haa
        go_wp2_with fail
        go_ret2
        exact ⟨by rw [hnum'.out]; rfl, rfl⟩
end Go.Proofs.YtppmnelgekhbnaaDoor.IvW
