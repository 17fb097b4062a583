/- The law's number in digits. -/
import Derived.Test.YtcecmbbhjaeodaaGreatDoorMXlLawV
import Derived.Test.YtcecmbbhjaeodaaGreatDoorMXlValues
namespace Go.Proofs.YtcecmbbhjaeodaaGreatDoor.Xl
open Go.RowKit UtfW Er

theorem hexc_cut {d : Nat} (h : d < 16) : (strOf [48, 49, 50, 51, 52, 53, 54, 55, 56, 57, 97, 98, 99, 100, 101, 102]).extract d (d + 1) = strOf [hexc d] := by
  rw [strOf_cut, show d + 1 - d = 1 by omega]
  have : ∀ d : Fin 16, (([48, 49, 50, 51, 52, 53, 54, 55, 56, 57, 97, 98, 99, 100, 101, 102] : Tx).drop d.val).take 1 = [hexc d.val] := by decide
  rw [this ⟨d, h⟩]
set_option maxHeartbeats 2000000 in
set_option maxRecDepth 100000 in
theorem numberL_any (w : World) (n : Int) (hn : n.natAbs < 4294967296) (base : Nat) (hb : base = 10 ∨ base = 16) :
    Calls Tryz.prog 17 #[.int .i64 n, .int .i64 (base : Nat)] w fun e w' => e = .returned (.string (strOf (numT base n))) ∧ Below w.heap.size w w' := by
  obtain ⟨T, hT⟩ : ∃ T, numT base n = T := ⟨_, rfl⟩
  rw [hT]
  have hT' := Lib.hid hT
  clear hT
  by_cases h0 : n = 0
  · subst h0
    go_enter Tryz.func17, Tryz.ntmps17
    go_wp2_with fail
    go_ret
    exact ⟨by rw [← hT'.out]; rfl, Below.refl _ _⟩
  have e0 : (n == 0) = false := by simpa using h0
  obtain ⟨D, hD⟩ : ∃ D, digs base 64 n.natAbs [] = D := ⟨_, rfl⟩
  have hDl : D.length ≤ 64 := by rw [← hD]; have := digs_len base 64 n.natAbs []; simpa using this
  have hTn : Hid (T = if n < 0 then 45 :: D else D) := Lib.hid (by rw [← hT'.out, ← hD]; unfold numT; rw [if_neg h0])
  obtain ⟨v0, hv0⟩ : ∃ v0, n.natAbs = v0 := ⟨_, rfl⟩
  have hv0' := Lib.hid hv0
  have hD' : Hid (digs base 64 v0 [] = D) := Lib.hid (by rw [← hv0]; exact hD)
  have hp64 : Hid (v0 < base ^ 64) := Lib.hid (by
    have : 2 ^ 64 ≤ base ^ 64 := Nat.pow_le_pow_left (by omega) 64
    have : (2 : Nat) ^ 64 = 18446744073709551616 := by decide
    omega)
  clear hD
  by_cases hneg : n < 0
  · have i0 : decide (n < 0) = true := by simpa using hneg
    have hnv : -n = (v0 : Int) := by omega
    go_enter Tryz.func17, Tryz.ntmps17
    go_wp2_with fail
    go_loopw [5, 6] (fun v5 v6 wr => ∃ (v f : Nat) (O : Tx), v6 = .int .i64 (v : Nat) ∧ v5 = .string (strOf O) ∧ O.length + f ≤ 64 ∧ v < 4294967296 ∧ Hid (v < base ^ f) ∧ Hid (digs base f v O = D) ∧ Hid (Below w.heap.size w wr)) (fun _ v6 _ => (intOf v6).toNat)
    case atStart => exact ⟨v0, 64, [], by first | rfl | (rw [hnv]), rfl, by simp, by omega, hp64, hD', Lib.hid (Below.refl _ _)⟩
    case round =>
      obtain ⟨v, f, O, rfl, rfl, hOf, hv, hvf, hd, hbw⟩ := hrel
      by_cases hv1 : v = 0
      · subst hv1
        have hOD : Hid (O = D) := Lib.hid (by rw [← hd.out]; cases f <;> rfl)
        have i1 : decide ((0 : Int) < ((0 : Nat) : Int)) = false := by decide
        have i2 : decide (n < 0) = true := by simpa using hneg
        have ha : (Op.stringOp .add ⟨#[45]⟩ (strOf O)).run Tryz.prog wr = .ok (.string (strOf ([45] ++ O))) wr := add_str wr [45] O (by simp; omega)
        go_wp2_with fail
        (try simp only [Exit.inBlock, Exit.then])
        go_ret
        refine ⟨?_, hbw.out⟩
        rw [hTn.out, if_pos hneg, ← hOD.out]
        rfl
      · have i1 : decide (0 < v) = true := by simp; omega
        obtain ⟨f', rfl⟩ : ∃ f', f = f' + 1 := by
          cases f with
          | zero => have := hvf.out; simp at this; omega
          | succ f' => exact ⟨f', rfl⟩
        obtain ⟨d, hdd⟩ : ∃ d, v % base = d := ⟨_, rfl⟩
        have hdl : d < 16 := by rw [← hdd]; have := Nat.mod_lt v (y := base) (by omega); omega
        have hrem : Int.tmod (v : Int) (base : Int) = (d : Int) := by rw [← hdd]; exact Int.ofNat_tmod v base |>.symm
        have hquo : Int.tdiv (v : Int) (base : Int) = ((v / base : Nat) : Int) := Int.ofNat_tdiv v base |>.symm
        have hb0 : ((base : Int) == 0) = false := by simp; omega
        have hcut := hexc_cut hdl
        have hcut2 : (⟨#[48, 49, 50, 51, 52, 53, 54, 55, 56, 57, 97, 98, 99, 100, 101, 102]⟩ : ByteArray).extract d (d + 1) = strOf [hexc d] := hcut
        have ha := fun w => add_str w [hexc d] O (by simp; omega)
        have q1 : (0 : Int) ≤ (d : Int) ∧ (d : Int) ≤ (d : Int) + 1 := ⟨by omega, by omega⟩
        have q2 : (d : Int) + 1 ≤ 16 := by omega
        have hnext : Hid (digs base f' (v / base) ([hexc d] ++ O) = D) := Lib.hid (by rw [← hd.out, digs, if_neg hv1, hdd]; rfl)
        have hlt2 : Hid (v / base < base ^ f') := Lib.hid (by
          have := hvf.out
          rw [Nat.pow_succ] at this
          exact Nat.div_lt_of_lt_mul (by rw [Nat.mul_comm]; exact this))
        have hvb : v / base < v := Nat.div_lt_self (by omega) (by omega)
        obtain ⟨v2, hv2⟩ : ∃ v2, v / base = v2 := ⟨_, rfl⟩
        rw [hv2] at hquo hnext hlt2 hvb
        have hvbH := Lib.hid hvb
        have hw64 : Hid (wrap64 (v2 : Int) = (v2 : Int)) := Lib.hid (by unfold wrap64; omega)
        clear hcut hdd hvb hv2
        go_wp2_with fail
        go_big_quiet (fail)
        have hbq := Lib.hid (hbw.out.trans ((Joins.below_draws _ wr nq).mono hbw.out.size))
        go_wp2_with fail
        go_roundw
        case rel => exact ⟨v2, f', [hexc d] ++ O, by rw [hw64.out], rfl, by simp; omega, by have := hvbH.out; omega, hlt2, hnext, hbq⟩
        case measure => (rw [hw64.out]; simp only [intOf, Int.toNat_natCast]; exact hvbH.out)
  · have i0 : decide (n < 0) = false := decide_eq_false hneg
    have hneg' : ¬ n < 0 := hneg
    have hnv : n = (v0 : Int) := by omega
    go_enter Tryz.func17, Tryz.ntmps17
    go_wp2_with fail
    go_loopw [5, 6] (fun v5 v6 wr => ∃ (v f : Nat) (O : Tx), v6 = .int .i64 (v : Nat) ∧ v5 = .string (strOf O) ∧ O.length + f ≤ 64 ∧ v < 4294967296 ∧ Hid (v < base ^ f) ∧ Hid (digs base f v O = D) ∧ Hid (Below w.heap.size w wr)) (fun _ v6 _ => (intOf v6).toNat)
    case atStart => exact ⟨v0, 64, [], by first | rfl | (rw [hnv]), rfl, by simp, by omega, hp64, hD', Lib.hid (Below.refl _ _)⟩
    case round =>
      obtain ⟨v, f, O, rfl, rfl, hOf, hv, hvf, hd, hbw⟩ := hrel
      by_cases hv1 : v = 0
      · subst hv1
        have hOD : Hid (O = D) := Lib.hid (by rw [← hd.out]; cases f <;> rfl)
        have i1 : decide ((0 : Int) < ((0 : Nat) : Int)) = false := by decide
        have hneg2 : ¬ n < 0 := by omega
        have i2 : decide (n < 0) = false := decide_eq_false hneg2
        go_wp2_with fail
        (try simp only [Exit.inBlock, Exit.then])
        go_ret
        refine ⟨?_, hbw.out⟩
        have hneg3 : ¬ n < 0 := by omega
        rw [hTn.out, if_neg hneg3, ← hOD.out]
        rfl
      · have i1 : decide (0 < v) = true := by simp; omega
        obtain ⟨f', rfl⟩ : ∃ f', f = f' + 1 := by
          cases f with
          | zero => have := hvf.out; simp at this; omega
          | succ f' => exact ⟨f', rfl⟩
        obtain ⟨d, hdd⟩ : ∃ d, v % base = d := ⟨_, rfl⟩
        have hdl : d < 16 := by rw [← hdd]; have := Nat.mod_lt v (y := base) (by omega); omega
        have hrem : Int.tmod (v : Int) (base : Int) = (d : Int) := by rw [← hdd]; exact Int.ofNat_tmod v base |>.symm
        have hquo : Int.tdiv (v : Int) (base : Int) = ((v / base : Nat) : Int) := Int.ofNat_tdiv v base |>.symm
        have hb0 : ((base : Int) == 0) = false := by simp; omega
        have hcut := hexc_cut hdl
        have hcut2 : (⟨#[48, 49, 50, 51, 52, 53, 54, 55, 56, 57, 97, 98, 99, 100, 101, 102]⟩ : ByteArray).extract d (d + 1) = strOf [hexc d] := hcut
        have ha := fun w => add_str w [hexc d] O (by simp; omega)
        have q1 : (0 : Int) ≤ (d : Int) ∧ (d : Int) ≤ (d : Int) + 1 := ⟨by omega, by omega⟩
        have q2 : (d : Int) + 1 ≤ 16 := by omega
        have hnext : Hid (digs base f' (v / base) ([hexc d] ++ O) = D) := Lib.hid (by rw [← hd.out, digs, if_neg hv1, hdd]; rfl)
        have hlt2 : Hid (v / base < base ^ f') := Lib.hid (by
          have := hvf.out
          rw [Nat.pow_succ] at this
          exact Nat.div_lt_of_lt_mul (by rw [Nat.mul_comm]; exact this))
        have hvb : v / base < v := Nat.div_lt_self (by omega) (by omega)
        obtain ⟨v2, hv2⟩ : ∃ v2, v / base = v2 := ⟨_, rfl⟩
        rw [hv2] at hquo hnext hlt2 hvb
        have hvbH := Lib.hid hvb
        have hw64 : Hid (wrap64 (v2 : Int) = (v2 : Int)) := Lib.hid (by unfold wrap64; omega)
        clear hcut hdd hvb hv2
        go_wp2_with fail
        go_big_quiet (fail)
        have hbq := Lib.hid (hbw.out.trans ((Joins.below_draws _ wr nq).mono hbw.out.size))
        go_wp2_with fail
        go_roundw
        case rel => exact ⟨v2, f', [hexc d] ++ O, by rw [hw64.out], rfl, by simp; omega, by have := hvbH.out; omega, hlt2, hnext, hbq⟩
        case measure => (rw [hw64.out]; simp only [intOf, Int.toNat_natCast]; exact hvbH.out)
end Go.Proofs.YtcecmbbhjaeodaaGreatDoor.Xl
