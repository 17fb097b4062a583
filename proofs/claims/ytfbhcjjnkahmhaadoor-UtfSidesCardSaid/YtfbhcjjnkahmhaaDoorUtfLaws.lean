/- The laws over utf, first part. -/
import Derived.Test.YtfbhcjjnkahmhaaDoorUtfLines2
import Derived.Test.YtfbhcjjnkahmhaaDoorUtfEnc2
namespace Go.Proofs.YtfbhcjjnkahmhaaDoor.UtfW
open Go.RowKit

theorem validW_on {l : List UInt8} {k r m : Nat} (h : k < l.length) (hd : dec l k = (r, m)) (hne : ¬ (r = 65533 ∧ m = 1)) : validW l k = validW l (k + m) := by
  rw [validW, dif_pos h, hd, if_neg hne]
theorem validW_end {l : List UInt8} {k : Nat} (h : l.length ≤ k) : validW l k = true := by
  rw [validW, dif_neg (by omega)]

theorem name_ab : nameC [97, 45, 98] = true := by
  unfold nameC
  rw [validW_on (r := 97) (m := 1) (by decide) (by decide) (by decide), validW_on (r := 45) (m := 1) (by decide) (by decide) (by decide), validW_on (r := 98) (m := 1) (by decide) (by decide) (by decide), validW_end (by decide)]
  rw [nameW_on (by decide) (by decide), show (0 + (dec [97, 45, 98] 0).2) = 1 by decide, nameW_on (by decide) (by decide), show (1 + (dec [97, 45, 98] 1).2) = 2 by decide, nameW_on (by decide) (by decide), nameW_end (by decide)]
  decide
theorem name_no : nameC [45, 97] = false := by
  unfold nameC
  rw [nameW_stop (by decide) (by decide)]
  simp

theorem owb_two (w : World) (a b : UInt8) (E : TypeId) : Bs (w.alloc (.cells #[.int .u8 (a.toNat : Int), .int .u8 (b.toNat : Int)] E)) (some ⟨w.heap.size, 0, none⟩) 2 2 [a, b] :=
  bs_lit w _ _ (0, 0) [a, b] 2 rfl (by omega) (by simp [bv])

set_option maxHeartbeats 2000000 in
set_option maxRecDepth 100000 in
theorem awake_any (w : World) (hU : Ut w) :
    Calls Tryd.prog 8 #[] w fun e w' => e = .returned (.bool true) ∧ Below w.heap.size w w' := by
  go_enter Tryd.func8, Tryd.ntmps8
  go_wp2_with fail
  have hb0 := below_alloc w (.cells #[.int .u8 195, .int .u8 169] 5)
  have c1 := utfNext_any _ 2 2 [195, 169] 0 (by omega) _ (owb_two w 195 169 5) (hU.below hb0)
  have e1 : nxI [195, 169] 0 = (233, 2) := by decide
  rw [e1] at c1
  unfold nxV at c1
  refine c1.mono ?_
  rintro e w1 ⟨rfl, hb1⟩
  have hx1 := Lib.hid (hb0.trans (hb1.mono hb0.size))
  clear hb1 hb0 c1 e1
  have c2 := utfName_any ⟨#[97, 45, 98]⟩ (by decide) w1 (hU.below hx1.out)
  have e2 : nameC (⟨#[97, 45, 98]⟩ : ByteArray).data.toList = true := name_ab
  rw [e2] at c2
  go_wp2_with fail
  refine c2.mono ?_
  rintro e w2 ⟨rfl, hb2⟩
  have hx2 := Lib.hid (hx1.out.trans (hb2.mono hx1.out.size))
  clear hb2 c2 e2
  have c3 := utfName_any ⟨#[45, 97]⟩ (by decide) w2 (hU.below hx2.out)
  have e3 : nameC (⟨#[45, 97]⟩ : ByteArray).data.toList = false := name_no
  rw [e3] at c3
  go_wp2_with fail
  refine c3.mono ?_
  rintro e w3 ⟨rfl, hb3⟩
  have hx3 := Lib.hid (hx2.out.trans (hb3.mono hx2.out.size))
  clear hb3 c3 e3
  have c4 := utfLines_any ⟨#[97, 13, 10, 98, 13, 99]⟩ (by decide) w3 (hU.below hx3.out)
  have e4 : strOf (Utf.lines (⟨#[97, 13, 10, 98, 13, 99]⟩ : ByteArray).data.toList) = ⟨#[97, 10, 98, 10, 99]⟩ := by decide
  rw [e4] at c4
  go_wp2_with fail
  refine c4.mono ?_
  rintro e w4 ⟨rfl, hb4⟩
  have hx4 := Lib.hid (hx3.out.trans (hb4.mono hx3.out.size))
  clear hb4 c4 e4
  go_wp2_with fail
  go_ret
  exact ⟨rfl, hx4.out⟩

set_option maxHeartbeats 2000000 in
set_option maxRecDepth 100000 in
theorem next_law (A : Option Addr) (n c : Nat) (l : List UInt8) (a : Int) (w : World) (hBs : Bs w A n c l) (hU : Ut w) :
    Calls Tryd.prog 3 #[.slice A n c, .int .i64 a] w fun e w' => e = .returned (.bool true) ∧ Below w.heap.size w w' := by
  have hn := Rd.le hBs
  have hm := Rd.max hBs
  go_enter Tryd.func3, Tryd.ntmps3
  go_wp2_with fail
  refine (awake_any w hU).mono ?_
  rintro e w1 ⟨rfl, hb1⟩
  have hx1 := Lib.hid hb1
  clear hb1
  by_cases hl : n ≤ 16384
  · have i0 : decide ((16384 : Int) < (n : Int)) = false := by simp; omega
    have c2 := utfNext_any A n c l a (by omega) w1 (hBs.below hx1.out) (hU.below hx1.out)
    obtain ⟨P, hP⟩ : ∃ P, nxI l a = P := ⟨_, rfl⟩
    rw [hP] at c2
    unfold nxV at c2
    go_wp2_with fail
    refine c2.mono ?_
    rintro e w2 ⟨rfl, hb2⟩
    have hx2 := Lib.hid (hx1.out.trans (hb2.mono hx1.out.size))
    clear hb2 c2
    have c3 := refNext_any A n c l a (by omega) w2 (hBs.below hx2.out)
    rw [hP] at c3
    unfold nxV at c3
    go_wp2_with fail
    refine c3.mono ?_
    rintro e w3 ⟨rfl, hb3⟩
    have hx3 := Lib.hid (hx2.out.trans (hb3.mono hx2.out.size))
    clear hb3 c3
    obtain ⟨B, hB⟩ : ∃ B, badW l 0 = B := ⟨_, rfl⟩
    have c4 := utfBad_any A n c l (by omega) w3 (hBs.below hx3.out) (hU.below hx3.out)
    rw [hB] at c4
    go_wp2_with fail
    refine c4.mono ?_
    rintro e w4 ⟨rfl, hb4⟩
    have hx4 := Lib.hid (hx3.out.trans (hb4.mono hx3.out.size))
    clear hb4 c4
    have c5 := refBad_any A n c l (by omega) w4 (hBs.below hx4.out)
    rw [hB] at c5
    go_wp2_with fail
    refine c5.mono ?_
    rintro e w5 ⟨rfl, hb5⟩
    have hx5 := Lib.hid (hx4.out.trans (hb5.mono hx4.out.size))
    clear hb5 c5
    go_wp2_with fail
    go_ret
    exact ⟨rfl, hx5.out⟩
  · have i0 : decide ((16384 : Int) < (n : Int)) = true := by simp; omega
    go_wp2_with fail
    go_ret
    exact ⟨rfl, hx1.out⟩

set_option maxHeartbeats 400000 in
theorem bytes_any (A : Option Addr) (n c : Nat) (l : List UInt8) (A2 : Option Addr) (n2 c2 : Nat) (w : World) (hBs : Bs w A n c l) (hBs2 : Bs w A2 n2 c2 l) :
    Calls Tryd.prog 21 #[.slice A n c, .slice A2 n2 c2] w fun e w' => e = .returned (.bool true) ∧ ∃ k, w' = w.drewN k := by
  have hn := Rd.le hBs
  have hm := Rd.max hBs
  have hn2 := Rd.le hBs2
  have hm2 := Rd.max hBs2
  have HN : Hid (l.length = n) := hBs.len
  have HN2 : Hid (l.length = n2) := hBs2.len
  obtain rfl : n = n2 := HN.out.symm.trans HN2.out
  go_enter Tryd.func21, Tryd.ntmps21
  go_wp2
  go_loopw [5] (fun i wr => ∃ k m : Nat, k ≤ n ∧ i = .int .i64 k ∧ wr = w.drewN m) (fun i _ => n - (intOf i).toNat)
  case atStart => exact ⟨0, 0, by omega, rfl, rfl⟩
  case round =>
    obtain ⟨k, m, hk, rfl, rfl⟩ := hrel
    by_cases hlt : k < n
    · obtain ⟨b, off, x, rfl, _, hx, hx8, hc⟩ := hBs.at_ hlt
      obtain ⟨b2, off2, y, rfl, _, hy, hy8, hc2⟩ := hBs2.at_ hlt
      obtain rfl : x = y := Option.some.inj (hx.symm.trans hy)
      have HX := Lib.hid hx
      clear hx hy
      have i0 : (k : Int) < (n : Int) := by omega
      have hb : ((x.toNat : Int) != (x.toNat : Int)) = false := by simp
      go_wp2_with fail
      go_quiet (fail)
      go_wp2_with fail
      go_roundw
      case rel => exact ⟨k + 1, _, by omega, by go_num, rfl⟩
      case measure => simp [intOf]; omega
    · obtain rfl : k = n := by omega
      go_wp2_with fail
      go_ret
      exact ⟨rfl, _, rfl⟩

set_option maxHeartbeats 4000000 in
set_option maxRecDepth 100000 in
theorem runes_law (r : Int) (hr0 : -2147483648 ≤ r) (hr1 : r ≤ 2147483647) (w : World) (hU : Ut w) :
    Calls Tryd.prog 4 #[.int .i32 r] w fun e w' => e = .returned (.bool true) ∧ Below w.heap.size w w' := by
  obtain ⟨C, hC⟩ : ∃ C, Utf.Char r = C := ⟨_, rfl⟩
  obtain ⟨K, hK⟩ : ∃ K, Blank r = K := ⟨_, rfl⟩
  obtain ⟨G, hG⟩ : ∃ G, Begins r = G := ⟨_, rfl⟩
  obtain ⟨O, hO⟩ : ∃ O, GoesOn r = O := ⟨_, rfl⟩
  obtain ⟨eb, heb⟩ : ∃ eb, encB r = eb := ⟨_, rfl⟩
  go_enter Tryd.func4, Tryd.ntmps4
  go_wp2_with fail
  refine (awake_any w hU).mono ?_
  rintro e w1 ⟨rfl, hb1⟩
  have hx1 := Lib.hid hb1
  clear hb1
  go_wp2_with fail
  refine (char_any r w1).mono ?_
  rintro e w2 ⟨rfl, rfl⟩
  rw [hC]
  go_wp2_with fail
  refine (refchar_any r w2).mono ?_
  rintro e w3 ⟨rfl, rfl⟩
  rw [hC]
  go_wp2_with fail
  refine (blank_any r w3).mono ?_
  rintro e w4 ⟨rfl, rfl⟩
  rw [hK]
  go_wp2_with fail
  refine (refblank_any r w4).mono ?_
  rintro e w5 ⟨rfl, rfl⟩
  rw [hK]
  go_wp2_with fail
  refine (utfBegins_any r w5).mono ?_
  rintro e w6 ⟨rfl, hb6⟩
  rw [hG]
  have hx6 := Lib.hid (hx1.out.trans (hb6.mono hx1.out.size))
  clear hb6
  go_wp2_with fail
  refine (refbegins_any r w6).mono ?_
  rintro e w7 ⟨rfl, rfl⟩
  rw [hG]
  go_wp2_with fail
  refine (utfGoesOn_any r w7).mono ?_
  rintro e w8 ⟨rfl, hb8⟩
  rw [hO]
  have hx8 := Lib.hid (hx6.out.trans (hb8.mono hx6.out.size))
  clear hb8
  go_wp2_with fail
  refine (refgoeson_any r w8).mono ?_
  rintro e w9 ⟨rfl, rfl⟩
  rw [hO]
  go_wp2_with fail
  refine (utfEncode_any r hr0 hr1 w9).mono ?_
  rintro e wa ⟨Aa, ca, rfl, hoa, hba⟩
  rw [heb] at hoa ⊢
  have hxa := Lib.hid (hx8.out.trans (hba.mono hx8.out.size))
  have hoa' := Lib.hid hoa.bs
  clear hba hoa
  go_wp2_with fail
  refine (refEncode_any r hr0 hr1 wa).mono ?_
  rintro e wb ⟨Ab, cb, rfl, hob, hbb⟩
  rw [heb] at hob ⊢
  have hxb := Lib.hid (hxa.out.trans (hbb.mono hxa.out.size))
  have hob' := Lib.hid hob.bs
  have hoa2 := Lib.hid (hoa'.out.below hbb)
  clear hbb hob
  go_wp2_with fail
  refine (bytes_any _ _ _ eb _ _ _ wb hoa2.out hob'.out).mono ?_
  rintro e wc ⟨rfl, k, rfl⟩
  go_wp2_with fail
  go_ret
  exact ⟨rfl, hxb.out.trans (Joins.below_draws _ _ _)⟩

set_option maxHeartbeats 4000000 in
set_option maxRecDepth 100000 in
theorem texts_law (s : ByteArray) (w : World) (hU : Ut w) :
    Calls Tryd.prog 6 #[.string s] w fun e w' => e = .returned (.bool true) ∧ Below w.heap.size w w' := by
  go_enter Tryd.func6, Tryd.ntmps6
  go_wp2_with fail
  refine (awake_any w hU).mono ?_
  rintro e w1 ⟨rfl, hb1⟩
  have hx1 := Lib.hid hb1
  clear hb1
  by_cases hl : s.size ≤ 16384
  · have i0 : decide ((16384 : Int) < (s.size : Int)) = false := by simp; omega
    have HL : Hid (s.data.toList.length = s.size) := Lib.hid (by rw [Array.length_toList]; rfl)
    obtain ⟨L, hL⟩ : ∃ L, strOf (Utf.lines s.data.toList) = L := ⟨_, rfl⟩
    obtain ⟨T, hT⟩ : ∃ T, strOf (Lib.trimS s.data.toList Utf.cs) = T := ⟨_, rfl⟩
    have hLs : L.size ≤ 16384 := by rw [← hL, strOf_size]; have := Utf.lines_len s.data.toList; have := HL.out; omega
    have hTs : T.size ≤ 16384 := by rw [← hT, strOf_size]; have := Utf.trim_len s.data.toList; have := HL.out; omega
    have hLL : strOf (Utf.lines L.data.toList) = L := by rw [← hL]; exact congrArg strOf (Utf.lines_again _)
    have hTT : strOf (Lib.trimS T.data.toList Utf.cs) = T := by rw [← hT]; exact congrArg strOf (Utf.trim_again _)
    obtain ⟨N, hN⟩ : ∃ N, nameC s.data.toList = N := ⟨_, rfl⟩
    have hNR : nameR s.data.toList = N := by rw [← name_eq]; exact hN
    have c2 := utfLines_any s (by omega) w1 (hU.below hx1.out)
    rw [hL] at c2
    go_wp2_with fail
    refine c2.mono ?_
    rintro e w2 ⟨rfl, hb2⟩
    have hx2 := Lib.hid (hx1.out.trans (hb2.mono hx1.out.size))
    clear hb2 c2
    have c3 := utfTrim_any s (by omega) w2
    rw [hT] at c3
    go_wp2_with fail
    refine c3.mono ?_
    rintro e w3 ⟨rfl, hb3⟩
    have hx3 := Lib.hid (hx2.out.trans (hb3.mono hx2.out.size))
    clear hb3 c3
    have c4 := utfName_any s (by omega) w3 (hU.below hx3.out)
    rw [hN] at c4
    go_wp2_with fail
    refine c4.mono ?_
    rintro e w4 ⟨rfl, hb4⟩
    have hx4 := Lib.hid (hx3.out.trans (hb4.mono hx3.out.size))
    clear hb4 c4
    have c5 := refName_any s (by omega) w4
    rw [hNR] at c5
    go_wp2_with fail
    refine c5.mono ?_
    rintro e w5 ⟨rfl, hb5⟩
    have hx5 := Lib.hid (hx4.out.trans (hb5.mono hx4.out.size))
    clear hb5 c5
    have c6 := refLines_any s (by omega) w5
    rw [hL] at c6
    go_wp2_with fail
    refine c6.mono ?_
    rintro e w6 ⟨rfl, hb6⟩
    have hx6 := Lib.hid (hx5.out.trans (hb6.mono hx5.out.size))
    clear hb6 c6
    have c7 := refTrim_any s (by omega) w6
    rw [hT] at c7
    go_wp2_with fail
    refine c7.mono ?_
    rintro e w7 ⟨rfl, rfl⟩
    clear c7
    have c8 := utfLines_any L (by omega) w7 (hU.below hx6.out)
    rw [hLL] at c8
    go_wp2_with fail
    refine c8.mono ?_
    rintro e w8 ⟨rfl, hb8⟩
    have hx8 := Lib.hid (hx6.out.trans (hb8.mono hx6.out.size))
    clear hb8 c8
    have c9 := utfTrim_any T (by omega) w8
    rw [hTT] at c9
    go_wp2_with fail
    refine c9.mono ?_
    rintro e w9 ⟨rfl, hb9⟩
    have hx9 := Lib.hid (hx8.out.trans (hb9.mono hx8.out.size))
    clear hb9 c9
    go_wp2_with fail
    go_ret
    exact ⟨rfl, hx9.out⟩
  · have i0 : decide ((16384 : Int) < (s.size : Int)) = true := by simp; omega
    go_wp2_with fail
    go_ret
    exact ⟨rfl, hx1.out⟩
end Go.Proofs.YtfbhcjjnkahmhaaDoor.UtfW
