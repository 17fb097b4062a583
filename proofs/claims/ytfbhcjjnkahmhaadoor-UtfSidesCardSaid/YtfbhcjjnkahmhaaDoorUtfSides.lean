/- The laws over utf, third part. -/
import Derived.Test.YtfbhcjjnkahmhaaDoorUtfBackLaw
import Derived.Laws.Concat
namespace Go.Proofs.YtfbhcjjnkahmhaaDoor.UtfW
open Go.RowKit

theorem strOf_data (l : List UInt8) : (strOf l).data.toList = l := rfl
theorem strOf_of (s : ByteArray) : strOf s.data.toList = s := rfl
theorem add_data (a b : ByteArray) : (a ++ b).data.toList = a.data.toList ++ b.data.toList := by
  rw [ByteArray.data_append, Array.toList_append]

theorem isRune_not_char {r : Int} (h : isRune r = false) : Utf.Char r = false := by
  cases hc : Utf.Char r
  · rfl
  · rw [isRune_of_char hc] at h
    cases h

theorem str_empty (eb : List UInt8) : (strOf eb).toList.isEmpty = eb.isEmpty := by
  rw [Lib.toList_data]
  rfl

set_option maxHeartbeats 4000000 in
set_option maxRecDepth 100000 in
theorem sides_law (s : ByteArray) (r : Int) (hr0 : -2147483648 ≤ r) (hr1 : r ≤ 2147483647) (w : World) (hU : Ut w) :
    Calls Tryd.prog 7 #[.string s, .int .i32 r] w fun e w' => e = .returned (.bool true) ∧ Below w.heap.size w w' := by
  go_enter Tryd.func7, Tryd.ntmps7
  go_wp2_with fail
  refine (awake_any w hU).mono ?_
  rintro e w1 ⟨rfl, hb1⟩
  have hx1 := Lib.hid hb1
  clear hb1
  by_cases hl : s.size ≤ 1000
  case neg =>
    have i0 : decide ((1000 : Int) < (s.size : Int)) = true := by simp; omega
    go_wp2_with fail
    go_ret
    exact ⟨rfl, hx1.out⟩
  case pos =>
    have i0 : decide ((1000 : Int) < (s.size : Int)) = false := by simp; omega
    have c2 := utfName_any s (by omega) w1 (hU.below hx1.out)
    cases hnm : nameC s.data.toList
    · rw [hnm] at c2
      go_wp2_with fail
      refine c2.mono ?_
      rintro e w2 ⟨rfl, hb2⟩
      have hx2 := Lib.hid (hx1.out.trans (hb2.mono hx1.out.size))
      clear hb2 c2
      go_wp2_with fail
      go_ret
      exact ⟨rfl, hx2.out⟩
    · rw [hnm] at c2
      have hnm' := Lib.hid hnm
      clear hnm
      go_wp2_with fail
      refine c2.mono ?_
      rintro e w2 ⟨rfl, hb2⟩
      have hx2 := Lib.hid (hx1.out.trans (hb2.mono hx1.out.size))
      clear hb2 c2
      obtain ⟨eb, heb⟩ : ∃ eb, encB r = eb := ⟨_, rfl⟩
      have c3 := utfEncode_any r hr0 hr1 w2
      rw [heb] at c3
      have heb' := Lib.hid heb
      clear heb
      go_wp2_with fail
      refine c3.mono ?_
      rintro e w3 ⟨A3, cc3, rfl, ho3, hb3⟩
      have hx3 := Lib.hid (hx2.out.trans (hb3.mono hx2.out.size))
      have hcv := ho3.bs.conv (P := Tryd.prog) (src := 22) (dst := 9) (e := 5) Tryd.underlying22 Tryd.underlying5 Tryd.underlying9
      clear hb3 c3 ho3
      have hemp := str_empty eb
      cases hr : isRune r
      · have hnil : eb = [] := by rw [← heb'.out]; exact encB_none hr
        have hnc := isRune_not_char hr
        rw [hnil] at hemp
        have hemp2 : (strOf eb).toList.isEmpty = true := by rw [hnil]; exact hemp
        clear hemp
        have hnil' := Lib.hid hnil
        clear hnil hr
        go_wp2_with fail
        refine (char_any r w3).mono ?_
        rintro e w4 ⟨rfl, rfl⟩
        rw [hnc]
        go_wp2_with fail
        go_ret
        exact ⟨rfl, hx3.out⟩
      · obtain ⟨v, rfl⟩ : ∃ v : Nat, r = v := ⟨r.toNat, by simp only [isRune, decide_eq_true_eq] at hr; omega⟩
        have hp := encB_pos hr
        rw [heb'.out] at hp
        have hne : eb.isEmpty = false := by
          cases eb with
          | nil => simp at hp
          | cons a t => rfl
        rw [hne] at hemp
        have q1 : nameC (s ++ strOf eb).data.toList = GoesOn (v : Nat) := by rw [add_data, strOf_data, ← heb'.out]; exact name_behind hnm'.out hr
        have q2 : nameC (strOf eb ++ s).data.toList = Begins (v : Nat) := by rw [add_data, strOf_data, ← heb'.out]; exact name_ahead hnm'.out hr
        have q3 : strOf (Lib.trimS ((⟨#[32, 9]⟩ ++ s ++ ⟨#[13, 10]⟩ : ByteArray)).data.toList Utf.cs) = s := by
          rw [add_data, add_data]
          exact congrArg strOf (name_trim hnm'.out)
        have z1 : (s ++ strOf eb).size ≤ 2000 := by rw [ByteArray.size_append, strOf_size]; omega
        have z2 : (strOf eb ++ s).size ≤ 2000 := by rw [ByteArray.size_append, strOf_size]; omega
        have z3 : (⟨#[32, 9]⟩ ++ s : ByteArray).size ≤ 2000 := by rw [ByteArray.size_append, show (⟨#[32, 9]⟩ : ByteArray).size = 2 from rfl]; omega
        have z4 : (⟨#[32, 9]⟩ ++ s ++ ⟨#[13, 10]⟩ : ByteArray).size ≤ 2000 := by rw [ByteArray.size_append, ByteArray.size_append, show (⟨#[32, 9]⟩ : ByteArray).size = 2 from rfl, show (⟨#[13, 10]⟩ : ByteArray).size = 2 from rfl]; omega
        have a1 := fun w => run_string_add_sum (P := Tryd.prog) w s (strOf eb) (by rw [strOf_size]; omega)
        have a2 := fun w => run_string_add_sum (P := Tryd.prog) w (strOf eb) s (by rw [strOf_size]; omega)
        have a3 := fun w => run_string_add_sum (P := Tryd.prog) w ⟨#[32, 9]⟩ s (by rw [show (⟨#[32, 9]⟩ : ByteArray).size = 2 from rfl]; omega)
        have a4 := fun w => run_string_add_sum (P := Tryd.prog) w (⟨#[32, 9]⟩ ++ s) ⟨#[13, 10]⟩ (by rw [show (⟨#[13, 10]⟩ : ByteArray).size = 2 from rfl]; omega)
        obtain ⟨t1, ht1⟩ : ∃ t, s ++ strOf eb = t := ⟨_, rfl⟩
        obtain ⟨t2, ht2⟩ : ∃ t, strOf eb ++ s = t := ⟨_, rfl⟩
        obtain ⟨t4, ht4⟩ : ∃ t, (⟨#[32, 9]⟩ ++ s ++ ⟨#[13, 10]⟩ : ByteArray) = t := ⟨_, rfl⟩
        rw [ht4] at a4 q3 z4
        obtain ⟨t3, ht3⟩ : ∃ t, (⟨#[32, 9]⟩ ++ s : ByteArray) = t := ⟨_, rfl⟩
        rw [ht1] at a1 q1 z1
        rw [ht2] at a2 q2 z2
        rw [ht3] at a3 a4
        clear ht1 ht2 ht3 ht4 z3
        have c4 := utfName_any t1 (by omega) w3 (hU.below hx3.out)
        rw [q1] at c4
        obtain ⟨G, hG⟩ : ∃ G, GoesOn (v : Nat) = G := ⟨_, rfl⟩
        obtain ⟨B, hB⟩ : ∃ B, Begins (v : Nat) = B := ⟨_, rfl⟩
        rw [hG] at c4
        clear q1 hne hr hp hnm'
        go_wp2_with fail
        refine c4.mono ?_
        rintro e w4 ⟨rfl, hb4⟩
        have hx4 := Lib.hid (hx3.out.trans (hb4.mono hx3.out.size))
        clear hb4 c4
        go_wp2_with fail
        refine (utfGoesOn_any v w4).mono ?_
        rintro e w5 ⟨rfl, hb5⟩
        rw [hG]
        have hx5 := Lib.hid (hx4.out.trans (hb5.mono hx4.out.size))
        clear hb5
        have c6 := utfName_any t2 (by omega) w5 (hU.below hx5.out)
        rw [q2, hB] at c6
        go_wp2_with fail
        refine c6.mono ?_
        rintro e w6 ⟨rfl, hb6⟩
        have hx6 := Lib.hid (hx5.out.trans (hb6.mono hx5.out.size))
        clear hb6 c6
        go_wp2_with fail
        refine (utfBegins_any v w6).mono ?_
        rintro e w7 ⟨rfl, hb7⟩
        rw [hB]
        have hx7 := Lib.hid (hx6.out.trans (hb7.mono hx6.out.size))
        clear hb7
        have c8 := utfTrim_any t4 (by omega) w7
        rw [q3] at c8
        go_wp2_with fail
        refine c8.mono ?_
        rintro e w8 ⟨rfl, hb8⟩
        have hx8 := Lib.hid (hx7.out.trans (hb8.mono hx7.out.size))
        clear hb8 c8
        go_wp2_with fail
        go_ret
        exact ⟨rfl, hx8.out⟩
end Go.Proofs.YtfbhcjjnkahmhaaDoor.UtfW
