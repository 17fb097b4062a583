/- The laws SegScans and SegNames. -/
import Derived.Test.YtfdpnjebhllpkaaGreatDoorMSgAwake
import Derived.Test.YtfdpnjebhllpkaaGreatDoorMSgNum
import Derived.Test.YtfdpnjebhllpkaaGreatDoorMFrameOps2
namespace Go.Proofs.YtfdpnjebhllpkaaGreatDoor.Sg
open Go.RowKit Ma Dk

set_option maxHeartbeats 1000000 in
set_option maxRecDepth 100000 in
theorem scans_law (n : Int) (A : Option Addr) (nb cb : Nat) (l : List UInt8) (w : World) (hE : Te w.heap.size w) (hBs : Bs w A nb cb l) :
    Calls Tryz.prog 3 #[.int .i64 n, .slice A nb cb] w fun e w' => e = .returned (.bool true) ∧ Below w.heap.size w w' := by
  have hle := Rd.le hBs
  have hmx := Rd.max hBs
  have hBs' := Lib.hid hBs
  have hE' := Lib.hid hE
  clear hBs hE
  go_enter Tryz.func3, Tryz.ntmps3
  go_wp2_with fail
  refine (awake_any w hE'.out).mono ?_
  rintro e w1 ⟨rfl, hb1⟩
  have hx1 := Lib.hid hb1
  have hB1 := Lib.hid (hBs'.out.below hb1)
  clear hb1
  by_cases hbig : 16384 < nb
  · have i1 : decide ((16384 : Int) < (nb : Int)) = true := by rw [decide_eq_true_eq]; omega
    have i2 : decide (16384 < nb) = true := by rw [decide_eq_true_eq]; omega
    go_wp2_with fail
    go_ret
    exact ⟨rfl, hx1.out⟩
  · have i1 : decide ((16384 : Int) < (nb : Int)) = false := by rw [decide_eq_false_iff_not]; omega
    have i2 : decide (16384 < nb) = false := by rw [decide_eq_false_iff_not]; omega
    obtain ⟨R, hR⟩ : ∃ R, scanN n l = R := ⟨_, rfl⟩
    have c1 := fun w' h => Scan_any n A nb cb l w' h (by omega)
    have c2 := fun w' h => refScan_any n A nb cb l w' h (by omega)
    rw [hR] at c1 c2
    obtain ⟨ls, g, st⟩ := R
    have c1' := Lib.hid c1
    have c2' := Lib.hid c2
    clear c1 c2 hR
    go_wp2_with fail
    refine (c1'.out w1 hB1.out).mono ?_
    rintro e w2 ⟨A2, k2, rfl, ho2, hb2⟩
    have hx2 := Lib.hid (hx1.out.trans (hb2.mono hx1.out.size))
    have hB2 := Lib.hid (hB1.out.below hb2)
    have ho2' := Lib.hid ho2
    clear hb2 ho2
    go_wp2_with fail
    refine (c2'.out w2 hB2.out).mono ?_
    rintro e w3 ⟨A3, k3, rfl, ho3, hb3⟩
    have hx3 := Lib.hid (hx2.out.trans (hb3.mono hx2.out.size))
    have r2 := Lib.hid (OwR.bsl (OwR.below ho2'.out hb3))
    have r3 := Lib.hid (OwR.bsl ho3)
    clear hb3 ho3 c1' c2'
    go_wp2_with fail
    refine (FrW.records_any _ _ _ ls _ _ _ ls w3 r2.out r3.out rfl).mono ?_
    rintro e w4 ⟨rfl, q, rfl⟩
    go_wp2_with fail
    go_ret
    exact ⟨by simp, hx3.out.trans ((Joins.below_draws _ w3 q).mono hx3.out.size)⟩

theorem segC_name (n : Int) : numR (nameOf seg4 n) = if okN n = true then (n, true) else (0, false) := by
  cases hok : okN n
  · have : nameOf seg4 n = [] := by unfold nameOf; rw [hok, if_neg (by simp)]
    rw [this, if_neg (by simp)]
    rfl
  · rw [numR_of_name hok, if_pos rfl]
theorem nm_size (n : Int) : (strOf (nameOf seg4 n)).size ≤ 12 := by
  rw [strOf_size']
  unfold nameOf
  split
  · rw [List.length_append, Nu.eight_len]
    decide
  · simp

set_option maxHeartbeats 1000000 in
set_option maxRecDepth 100000 in
theorem names_law (n : Int) (s : ByteArray) (hs : s.size ≤ 9223372036854775807) (w : World) (hE : Te w.heap.size w) (hV : Eb w.heap.size w) :
    Calls Tryz.prog 4 #[.int .i64 n, .string s] w fun e w' => e = .returned (.bool true) ∧ Below w.heap.size w w' := by
  have hE' := Lib.hid hE
  have hV' := Lib.hid hV
  clear hE hV
  go_enter Tryz.func4, Tryz.ntmps4
  go_wp2_with fail
  refine (awake_any w hE'.out).mono ?_
  rintro e w1 ⟨rfl, hb1⟩
  have hx1 := Lib.hid hb1
  clear hb1
  by_cases hbig : 1000 < s.size
  · have i1 : decide ((1000 : Int) < (s.size : Int)) = true := by rw [decide_eq_true_eq]; omega
    have i2 : decide (1000 < s.size) = true := by rw [decide_eq_true_eq]; omega
    go_wp2_with fail
    go_ret
    exact ⟨rfl, hx1.out⟩
  · have i1 : decide ((1000 : Int) < (s.size : Int)) = false := by rw [decide_eq_false_iff_not]; omega
    have i2 : decide (1000 < s.size) = false := by rw [decide_eq_false_iff_not]; omega
    have c1 := segNum_any s (by omega)
    have c2 := number_any s (by omega)
    rw [seg_eq] at c1
    obtain ⟨R, hR⟩ : ∃ R, numR s.data.toList = R := ⟨_, rfl⟩
    rw [hR] at c1 c2
    obtain ⟨j, b⟩ := R
    have d1 := segName_any n
    have d2 := refSegName_any n
    have hnz := nm_size n
    have d3 := segNum_any (strOf (nameOf seg4 n)) (by omega)
    have hdt : (strOf (nameOf seg4 n)).data.toList = nameOf seg4 n := rfl
    rw [seg_eq, hdt, segC_name] at d3
    rw [show strOf (nameOf [115, 101, 103, 46] n) = strOf (nameOf seg4 n) from rfl] at d1
    obtain ⟨T, hT⟩ : ∃ T, strOf (nameOf seg4 n) = T := ⟨_, rfl⟩
    rw [hT] at d1 d2 d3
    have c1' := Lib.hid c1
    have c2' := Lib.hid c2
    have d1' := Lib.hid d1
    have d2' := Lib.hid d2
    have d3' := Lib.hid d3
    have hjj : (j != j) = false := by simp
    have hbb : (b != b) = false := by simp
    clear c1 c2 d1 d2 d3 hR hT hnz hdt
    go_wp2_with fail
    refine (c1'.out w1 (hE'.out.on hx1.out).tens (hV'.out.on hx1.out).ev).mono ?_
    rintro e w2 ⟨rfl, hb2⟩
    have hx2 := Lib.hid (hx1.out.trans (hb2.mono hx1.out.size))
    clear hb2
    unfold genV
    go_wp2_with fail
    refine (c2'.out w2).mono ?_
    rintro e w3 ⟨rfl, rfl⟩
    unfold genV
    go_wp2_with fail
    refine (d1'.out w3 (hE'.out.on hx2.out).tens).mono ?_
    rintro e w4 ⟨rfl, hb4⟩
    have hx4 := Lib.hid (hx2.out.trans (hb4.mono hx2.out.size))
    clear hb4
    go_wp2_with fail
    refine (d2'.out w4).mono ?_
    rintro e w5 ⟨rfl, hb5⟩
    have hx5 := Lib.hid (hx4.out.trans (hb5.mono hx4.out.size))
    clear hb5
    have hTT : (T.toList == T.toList) = true := by simp
    go_wp2_with fail
    refine (Head_any n w5).mono ?_
    rintro e w6 ⟨A6, k6, rfl, ho6, hb6⟩
    have hx6 := Lib.hid (hx5.out.trans (hb6.mono hx5.out.size))
    have ho6' := Lib.hid ho6.bs
    clear hb6 ho6
    go_wp2_with fail
    refine (refHead_any n w6).mono ?_
    rintro e w7 ⟨A7, k7, rfl, ho7, hb7⟩
    have hx7 := Lib.hid (hx6.out.trans (hb7.mono hx6.out.size))
    have ho7' := Lib.hid ho7.bs
    have ho67 := Lib.hid (ho6'.out.below hb7)
    clear hb7 ho7
    go_wp2_with fail
    refine (FrW.bytes_any _ _ _ _ _ _ _ _ w7 ho67.out ho7'.out).mono ?_
    rintro e w8 ⟨rfl, q, rfl⟩
    rw [decide_eq_true rfl]
    have hx8 := Lib.hid (hx7.out.trans ((Joins.below_draws _ w7 q).mono hx7.out.size))
    generalize w7.drewN q = w8 at hx8 ⊢
    go_wp2_with fail
    refine (d1'.out w8 (hE'.out.on hx8.out).tens).mono ?_
    rintro e w9 ⟨rfl, hb9⟩
    have hx9 := Lib.hid (hx8.out.trans (hb9.mono hx8.out.size))
    clear hb9
    go_wp2_with fail
    refine (d3'.out w9 (hE'.out.on hx9.out).tens (hV'.out.on hx9.out).ev).mono ?_
    rintro e w10 ⟨rfl, hb10⟩
    have hx10 := Lib.hid (hx9.out.trans (hb10.mono hx9.out.size))
    clear hb10
    have hm := may7_any n w10
    cases hok : okN n
    · rw [hok] at hm
      rw [if_neg (by simp)]
      unfold genV
      go_wp2_with fail
      refine hm.mono ?_
      rintro e w11 ⟨rfl, rfl⟩
      go_wp2_with fail
      go_ret
      exact ⟨rfl, hx10.out⟩
    · rw [hok] at hm
      rw [if_pos rfl]
      unfold genV
      go_wp2_with fail
      refine hm.mono ?_
      rintro e w11 ⟨rfl, rfl⟩
      go_wp2_with fail
      go_ret
      exact ⟨by simp, hx10.out⟩
end Go.Proofs.YtfdpnjebhllpkaaGreatDoor.Sg
