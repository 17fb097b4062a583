/- The law's small; the document's May. -/
import Derived.Test.YtjhiihmibleecaaGreatDoorDkAwake
namespace Go.Proofs.YtjhiihmibleecaaGreatDoor.Dk
open Go.RowKit

def SmallP (l : List Dx) (w : World) (e : Ending) (w' : World) : Prop := ∃ b, e = .returned (.bool b) ∧ (b = true → ∀ (i : Nat) x, l[i]? = some x → i < 60 → Dm x) ∧ w = w'

set_option maxHeartbeats 1000000 in
set_option maxRecDepth 100000 in
theorem small_any (A : Option Addr) (n c : Nat) (l : List Dx) (w : World) (h : Sq DoEl 7 w A n c l) :
    Calls Tryz.prog 6 #[.slice A n c] w (SmallP l w) := by
  have hl := Lib.hid h.len
  have hle := h.le
  have hmx := h.max
  have h' := Lib.hid h
  clear h
  go_enter Tryz.func6, Tryz.ntmps6
  go_wp2_with fail
  go_loop [3] (fun i => ∃ (k : Nat), k ≤ n ∧ k ≤ 60 ∧ i = .int .i64 k ∧ Hid (∀ (i : Nat) x, l[i]? = some x → i < k → Dm x)) (fun i => n - (intOf i).toNat)
  case atStart => exact ⟨0, by omega, by omega, rfl, Lib.hid fun i x _ h => absurd h (by omega)⟩
  case round =>
    obtain ⟨k, hk, hk60, rfl, hrel⟩ := hrel
    by_cases hlt : k < n
    · by_cases h60 : k < 60
      · have d0 : decide ((k : Int) < (60 : Int)) = true := by rw [decide_eq_true_eq]; omega
        have d1 : decide (k < 60) = true := by rw [decide_eq_true_eq]; omega
        obtain ⟨b, off, x, vs, rfl, hb, hf, hvs, hel, hcs⟩ := h'.out.at_ hlt
        obtain ⟨s, s2, Ab, nb, cb, At, nt, ct, Al, nl, cl, rfl, hnm, hto, hbs, hrd, hsq⟩ := hel
        have k1 : w.cell? ⟨b, off + k * 7 + 1, none⟩ = some (.string s) := hcs 1 _ rfl
        have k2 : w.cell? ⟨b, off + k * 7 + 2, none⟩ = some (.string s2) := hcs 2 _ rfl
        have k4 : w.cell? ⟨b, off + k * 7 + 4, none⟩ = some (.slice Ab nb cb) := hcs 4 _ rfl
        have k5 : w.cell? ⟨b, off + k * 7 + 5, none⟩ = some (.slice At nt ct) := hcs 5 _ rfl
        have k6 : w.cell? ⟨b, off + k * 7 + 6, none⟩ = some (.slice Al nl cl) := hcs 6 _ rfl
        have l1 : Hid (x.bytes.length = nb) := Lib.hid hbs.len
        have l2 : Hid (x.tails.length = nt) := Lib.hid (by have := Rd.len hrd; simpa using this)
        have l3 : Hid (x.list.length = nl) := Lib.hid hsq.len
        have l4 : Hid (x.nm.length = s.size) := Lib.hid (by rw [hnm, Array.length_toList]; rfl)
        have l5 : Hid (x.to_.length = s2.size) := Lib.hid (by rw [hto, Array.length_toList]; rfl)
        have hf' := Lib.hid hf
        clear hcs hvs hbs hrd hsq hnm hto hf
        by_cases t0 : 2000 < nb
        · have p0 : decide ((2000 : Int) < (nb : Int)) = true := by rw [decide_eq_true_eq]; omega
          have r0 : decide (2000 < nb) = true := by rw [decide_eq_true_eq]; omega
          go_wp2_with fail
          go_ret
          exact ⟨false, rfl, fun h => (by cases h), rfl⟩
        have p0 : decide ((2000 : Int) < (nb : Int)) = false := by rw [decide_eq_false_iff_not]; omega
        have r0 : decide (2000 < nb) = false := by rw [decide_eq_false_iff_not]; omega
        by_cases t1 : 1000 < s.size
        · have p1 : decide ((1000 : Int) < (s.size : Int)) = true := by rw [decide_eq_true_eq]; omega
          have r1 : decide (1000 < s.size) = true := by rw [decide_eq_true_eq]; omega
          go_wp2_with fail
          go_ret
          exact ⟨false, rfl, fun h => (by cases h), rfl⟩
        have p1 : decide ((1000 : Int) < (s.size : Int)) = false := by rw [decide_eq_false_iff_not]; omega
        have r1 : decide (1000 < s.size) = false := by rw [decide_eq_false_iff_not]; omega
        by_cases t2 : 1000 < s2.size
        · have p2 : decide ((1000 : Int) < (s2.size : Int)) = true := by rw [decide_eq_true_eq]; omega
          have r2 : decide (1000 < s2.size) = true := by rw [decide_eq_true_eq]; omega
          go_wp2_with fail
          go_ret
          exact ⟨false, rfl, fun h => (by cases h), rfl⟩
        have p2 : decide ((1000 : Int) < (s2.size : Int)) = false := by rw [decide_eq_false_iff_not]; omega
        have r2 : decide (1000 < s2.size) = false := by rw [decide_eq_false_iff_not]; omega
        by_cases t3 : 200 < nt
        · have p3 : decide ((200 : Int) < (nt : Int)) = true := by rw [decide_eq_true_eq]; omega
          have r3 : decide (200 < nt) = true := by rw [decide_eq_true_eq]; omega
          go_wp2_with fail
          go_ret
          exact ⟨false, rfl, fun h => (by cases h), rfl⟩
        have p3 : decide ((200 : Int) < (nt : Int)) = false := by rw [decide_eq_false_iff_not]; omega
        have r3 : decide (200 < nt) = false := by rw [decide_eq_false_iff_not]; omega
        by_cases t4 : 200 < nl
        · have p4 : decide ((200 : Int) < (nl : Int)) = true := by rw [decide_eq_true_eq]; omega
          have r4 : decide (200 < nl) = true := by rw [decide_eq_true_eq]; omega
          go_wp2_with fail
          go_ret
          exact ⟨false, rfl, fun h => (by cases h), rfl⟩
        have p4 : decide ((200 : Int) < (nl : Int)) = false := by rw [decide_eq_false_iff_not]; omega
        have r4 : decide (200 < nl) = false := by rw [decide_eq_false_iff_not]; omega
        go_wp2_with fail
        go_round
        case rel =>
          refine ⟨k + 1, by omega, by omega, by go_num, Lib.hid fun i y hi hik => ?_⟩
          by_cases e : i = k
          · subst e
            rw [hf'.out] at hi
            injection hi with hi
            subst hi
            exact ⟨by rw [l1.out]; omega, by rw [l4.out]; omega, by rw [l5.out]; omega, by rw [l2.out]; omega, by rw [l3.out]; omega⟩
          · exact hrel.out i y hi (by omega)
        case measure => simp [intOf]; omega
      · have d0 : decide ((k : Int) < (60 : Int)) = false := by rw [decide_eq_false_iff_not]; omega
        have d1 : decide (k < 60) = false := by rw [decide_eq_false_iff_not]; omega
        go_wp2_with fail
        go_ret
        exact ⟨true, rfl, fun _ i x hi h => hrel.out i x hi (by omega), rfl⟩
    · go_wp2_with fail
      go_ret
      exact ⟨true, rfl, fun _ i x hi h => hrel.out i x hi (by have := (List.getElem?_eq_some_iff.1 hi).1; have := hl.out; omega), rfl⟩

theorem letter_yes {c : UInt8} (h : c.toNat = 45 ∨ c.toNat = 46 ∨ (48 ≤ c.toNat ∧ c.toNat ≤ 57) ∨ (97 ≤ c.toNat ∧ c.toNat ≤ 122)) : letter c = true := by
  unfold letter
  simp only [Bool.or_eq_true, decide_eq_true_eq, beq_iff_eq]
  rcases h with h | h | h | h
  · exact .inr (UInt8.toNat_inj.1 h)
  · exact .inl (.inr (UInt8.toNat_inj.1 h))
  · exact .inl (.inl (.inr h))
  · exact .inl (.inl (.inl h))
theorem letter_no {c : UInt8} (h : ¬ (c.toNat = 45 ∨ c.toNat = 46 ∨ (48 ≤ c.toNat ∧ c.toNat ≤ 57) ∨ (97 ≤ c.toNat ∧ c.toNat ≤ 122))) : letter c = false := by
  cases e : letter c with
  | false => rfl
  | true =>
    unfold letter at e
    simp only [Bool.or_eq_true, decide_eq_true_eq, beq_iff_eq] at e
    refine absurd ?_ h
    rcases e with ((e | e) | e) | e
    · exact .inr (.inr (.inr e))
    · exact .inr (.inr (.inl e))
    · exact .inr (.inl (by rw [e]; rfl))
    · exact .inl (by rw [e]; rfl)
theorem may_take {l : List UInt8} {k : Nat} {c : UInt8} (h : l[k]? = some c) : (l.take (k + 1)).all letter = ((l.take k).all letter && letter c) := by
  rw [take_snoc h]; simp

set_option maxHeartbeats 1000000 in
set_option maxRecDepth 100000 in
theorem May_any (s : ByteArray) (hs : s.size ≤ 1000000) (w : World) :
    Calls Tryz.prog 30 #[.string s] w fun e w' => e = .returned (.bool (may s.data.toList)) ∧ w = w' := by
  have hsz : Hid (s.data.toList.length = s.size) := Lib.hid (Array.length_toList ..)
  obtain ⟨M, hM⟩ : ∃ M, may s.data.toList = M := ⟨_, rfl⟩
  rw [hM]
  have hM' := Lib.hid hM
  clear hM
  go_enter Tryz.func30, Tryz.ntmps30
  go_wp2_with fail
  go_loop [3] (fun i => ∃ (k : Nat), k ≤ s.size ∧ i = .int .i64 k ∧ Hid ((s.data.toList.take k).all letter = true)) (fun i => s.size - (intOf i).toNat)
  case atStart => exact ⟨0, by omega, rfl, Lib.hid rfl⟩
  case round =>
    obtain ⟨k, hk, rfl, hrel⟩ := hrel
    by_cases hlt : k < s.size
    · have hg : s.data.toList[k]? = some s[k] := by
        rw [List.getElem?_eq_getElem (by rw [Array.length_toList]; exact hlt)]
        rfl
      obtain ⟨x, hx⟩ : ∃ x : UInt8, s[k] = x := ⟨_, rfl⟩
      rw [hx] at hg
      have hg' := Lib.hid hg
      clear hg
      have hx8 := x.toNat_lt
      have hcs : (x.toNat < 45) ∨ (x.toNat = 45) ∨ (x.toNat = 46) ∨ (x.toNat = 47) ∨ (48 ≤ x.toNat ∧ x.toNat ≤ 57) ∨ (58 ≤ x.toNat ∧ x.toNat < 97) ∨ (97 ≤ x.toNat ∧ x.toNat ≤ 122) ∨ (122 < x.toNat) := by omega
      rcases hcs with hc | hc | hc | hc | hc | hc | hc | hc
      · have hL : Hid (letter x = false) := Lib.hid (letter_no (by omega))
        have f1 : decide ((x.toNat : Int) < 97) = true := by (rw [decide_eq_true_eq]; omega)
        have f2 : decide ((122 : Int) < (x.toNat : Int)) = false := by (rw [decide_eq_false_iff_not]; omega)
        have f3 : decide ((x.toNat : Int) < 48) = true := by (rw [decide_eq_true_eq]; omega)
        have f4 : decide ((57 : Int) < (x.toNat : Int)) = false := by (rw [decide_eq_false_iff_not]; omega)
        have f5 : ((x.toNat : Int) != 46) = true := by (rw [bne_iff_ne]; omega)
        have f6 : ((x.toNat : Int) != 45) = true := by (rw [bne_iff_ne]; omega)
        clear hc
        go_wp2_with fail
        go_ret
        refine ⟨ret_bool ?_, rfl⟩
        have h1 := hM'.out
        unfold may at h1
        have hno : s.data.toList.all letter = false := by
          rw [List.all_eq_false]
          exact ⟨x, List.mem_of_getElem? hg'.out, by rw [hL.out]; decide⟩
        rw [hno, Bool.and_false] at h1
        exact h1
      · have hL : Hid (letter x = true) := Lib.hid (letter_yes (by omega))
        have f1 : decide ((x.toNat : Int) < 97) = true := by (rw [decide_eq_true_eq]; omega)
        have f2 : decide ((122 : Int) < (x.toNat : Int)) = false := by (rw [decide_eq_false_iff_not]; omega)
        have f3 : decide ((x.toNat : Int) < 48) = true := by (rw [decide_eq_true_eq]; omega)
        have f4 : decide ((57 : Int) < (x.toNat : Int)) = false := by (rw [decide_eq_false_iff_not]; omega)
        have f5 : ((x.toNat : Int) != 46) = true := by (rw [bne_iff_ne]; omega)
        have f6 : ((x.toNat : Int) != 45) = false := by (rw [bne_eq_false_iff_eq]; omega)
        clear hc
        go_wp2_with fail
        go_round
        case rel => exact ⟨k + 1, by omega, by go_num, Lib.hid (by rw [may_take hg'.out, hrel.out, hL.out]; rfl)⟩
        case measure => simp [intOf]; omega
      · have hL : Hid (letter x = true) := Lib.hid (letter_yes (by omega))
        have f1 : decide ((x.toNat : Int) < 97) = true := by (rw [decide_eq_true_eq]; omega)
        have f2 : decide ((122 : Int) < (x.toNat : Int)) = false := by (rw [decide_eq_false_iff_not]; omega)
        have f3 : decide ((x.toNat : Int) < 48) = true := by (rw [decide_eq_true_eq]; omega)
        have f4 : decide ((57 : Int) < (x.toNat : Int)) = false := by (rw [decide_eq_false_iff_not]; omega)
        have f5 : ((x.toNat : Int) != 46) = false := by (rw [bne_eq_false_iff_eq]; omega)
        have f6 : ((x.toNat : Int) != 45) = true := by (rw [bne_iff_ne]; omega)
        clear hc
        go_wp2_with fail
        go_round
        case rel => exact ⟨k + 1, by omega, by go_num, Lib.hid (by rw [may_take hg'.out, hrel.out, hL.out]; rfl)⟩
        case measure => simp [intOf]; omega
      · have hL : Hid (letter x = false) := Lib.hid (letter_no (by omega))
        have f1 : decide ((x.toNat : Int) < 97) = true := by (rw [decide_eq_true_eq]; omega)
        have f2 : decide ((122 : Int) < (x.toNat : Int)) = false := by (rw [decide_eq_false_iff_not]; omega)
        have f3 : decide ((x.toNat : Int) < 48) = true := by (rw [decide_eq_true_eq]; omega)
        have f4 : decide ((57 : Int) < (x.toNat : Int)) = false := by (rw [decide_eq_false_iff_not]; omega)
        have f5 : ((x.toNat : Int) != 46) = true := by (rw [bne_iff_ne]; omega)
        have f6 : ((x.toNat : Int) != 45) = true := by (rw [bne_iff_ne]; omega)
        clear hc
        go_wp2_with fail
        go_ret
        refine ⟨ret_bool ?_, rfl⟩
        have h1 := hM'.out
        unfold may at h1
        have hno : s.data.toList.all letter = false := by
          rw [List.all_eq_false]
          exact ⟨x, List.mem_of_getElem? hg'.out, by rw [hL.out]; decide⟩
        rw [hno, Bool.and_false] at h1
        exact h1
      · have hL : Hid (letter x = true) := Lib.hid (letter_yes (by omega))
        have f1 : decide ((x.toNat : Int) < 97) = true := by (rw [decide_eq_true_eq]; omega)
        have f2 : decide ((122 : Int) < (x.toNat : Int)) = false := by (rw [decide_eq_false_iff_not]; omega)
        have f3 : decide ((x.toNat : Int) < 48) = false := by (rw [decide_eq_false_iff_not]; omega)
        have f4 : decide ((57 : Int) < (x.toNat : Int)) = false := by (rw [decide_eq_false_iff_not]; omega)
        have f5 : ((x.toNat : Int) != 46) = true := by (rw [bne_iff_ne]; omega)
        have f6 : ((x.toNat : Int) != 45) = true := by (rw [bne_iff_ne]; omega)
        clear hc
        go_wp2_with fail
        go_round
        case rel => exact ⟨k + 1, by omega, by go_num, Lib.hid (by rw [may_take hg'.out, hrel.out, hL.out]; rfl)⟩
        case measure => simp [intOf]; omega
      · have hL : Hid (letter x = false) := Lib.hid (letter_no (by omega))
        have f1 : decide ((x.toNat : Int) < 97) = true := by (rw [decide_eq_true_eq]; omega)
        have f2 : decide ((122 : Int) < (x.toNat : Int)) = false := by (rw [decide_eq_false_iff_not]; omega)
        have f3 : decide ((x.toNat : Int) < 48) = false := by (rw [decide_eq_false_iff_not]; omega)
        have f4 : decide ((57 : Int) < (x.toNat : Int)) = true := by (rw [decide_eq_true_eq]; omega)
        have f5 : ((x.toNat : Int) != 46) = true := by (rw [bne_iff_ne]; omega)
        have f6 : ((x.toNat : Int) != 45) = true := by (rw [bne_iff_ne]; omega)
        clear hc
        go_wp2_with fail
        go_ret
        refine ⟨ret_bool ?_, rfl⟩
        have h1 := hM'.out
        unfold may at h1
        have hno : s.data.toList.all letter = false := by
          rw [List.all_eq_false]
          exact ⟨x, List.mem_of_getElem? hg'.out, by rw [hL.out]; decide⟩
        rw [hno, Bool.and_false] at h1
        exact h1
      · have hL : Hid (letter x = true) := Lib.hid (letter_yes (by omega))
        have f1 : decide ((x.toNat : Int) < 97) = false := by (rw [decide_eq_false_iff_not]; omega)
        have f2 : decide ((122 : Int) < (x.toNat : Int)) = false := by (rw [decide_eq_false_iff_not]; omega)
        have f3 : decide ((x.toNat : Int) < 48) = false := by (rw [decide_eq_false_iff_not]; omega)
        have f4 : decide ((57 : Int) < (x.toNat : Int)) = true := by (rw [decide_eq_true_eq]; omega)
        have f5 : ((x.toNat : Int) != 46) = true := by (rw [bne_iff_ne]; omega)
        have f6 : ((x.toNat : Int) != 45) = true := by (rw [bne_iff_ne]; omega)
        clear hc
        go_wp2_with fail
        go_round
        case rel => exact ⟨k + 1, by omega, by go_num, Lib.hid (by rw [may_take hg'.out, hrel.out, hL.out]; rfl)⟩
        case measure => simp [intOf]; omega
      · have hL : Hid (letter x = false) := Lib.hid (letter_no (by omega))
        have f1 : decide ((x.toNat : Int) < 97) = false := by (rw [decide_eq_false_iff_not]; omega)
        have f2 : decide ((122 : Int) < (x.toNat : Int)) = true := by (rw [decide_eq_true_eq]; omega)
        have f3 : decide ((x.toNat : Int) < 48) = false := by (rw [decide_eq_false_iff_not]; omega)
        have f4 : decide ((57 : Int) < (x.toNat : Int)) = true := by (rw [decide_eq_true_eq]; omega)
        have f5 : ((x.toNat : Int) != 46) = true := by (rw [bne_iff_ne]; omega)
        have f6 : ((x.toNat : Int) != 45) = true := by (rw [bne_iff_ne]; omega)
        clear hc
        go_wp2_with fail
        go_ret
        refine ⟨ret_bool ?_, rfl⟩
        have h1 := hM'.out
        unfold may at h1
        have hno : s.data.toList.all letter = false := by
          rw [List.all_eq_false]
          exact ⟨x, List.mem_of_getElem? hg'.out, by rw [hL.out]; decide⟩
        rw [hno, Bool.and_false] at h1
        exact h1
    · have hkn : k = s.size := by omega
      subst hkn
      have hall : Hid (s.data.toList.all letter = true) := Lib.hid (by have := hrel.out; rwa [List.take_of_length_le (by rw [hsz.out]; omega)] at this)
      have hMv : Hid (M = (decide (1 ≤ s.size) && decide (s.size ≤ 40))) := Lib.hid (by
        rw [← hM'.out]
        unfold may
        rw [hall.out, hsz.out, Bool.and_true]
        cases hz : s.data.toList with
        | nil => have := hsz.out; rw [hz] at this; simp at this; simp [← this]
        | cons c r => have := hsz.out; rw [hz] at this; simp at this; simp [← this])
      by_cases h1 : 1 ≤ s.size
      · have g1 : decide ((1 : Int) ≤ (s.size : Int)) = true := by rw [decide_eq_true_eq]; omega
        have g2 : decide (1 ≤ s.size) = true := by rw [decide_eq_true_eq]; omega
        go_wp2_with fail
        go_ret
        refine ⟨ret_bool ?_, rfl⟩
        rw [hMv.out, g2, Bool.true_and]
        first | rfl | (simp; omega)
      · have g1 : decide ((1 : Int) ≤ (s.size : Int)) = false := by rw [decide_eq_false_iff_not]; omega
        have g2 : decide (1 ≤ s.size) = false := by rw [decide_eq_false_iff_not]; omega
        go_wp2_with fail
        go_ret
        refine ⟨ret_bool ?_, rfl⟩
        rw [hMv.out, g2, Bool.false_and]
end Go.Proofs.YtjhiihmibleecaaGreatDoor.Dk
