/- The document's numbers in names. -/
import Derived.Test.YtfdpnjebhllpkaaGreatDoorMItoaS
import Derived.Shelf.Strings.Repeat
import Derived.Lib.Hide
section
namespace Go.Proofs
open Go.Shelf Go.RowKit

shelf_lay Lays.n105 Nm 105 at Tryz as Tryz.lays105

theorem Tryz.extra105 : Builder.Extra Tryz.prog Tryz.lays105_ren where
  sizeBuilder := by kernel_rfl
  liesBuilder := by kernel_rfl
  t5 := Tryz.underlying5
  a5 := Tryz.lays105.a5
  z5 := Tryz.lays105.z5
  v5 := Tryz.lays105.v5
  infoByte := by kernel_rfl
  cellsByte := by kernel_rfl
  sizeByte := by kernel_rfl
  neB5 := by decide

end Go.Proofs
namespace Go.Proofs.YtfdpnjebhllpkaaGreatDoor.Ma
open Go.RowKit Go.Shelf

/-- Whether a number may be. -/
def okN (n : Int) : Bool := decide (1 ≤ n ∧ n ≤ 99999999)

/-- A number's name behind a beginning of four bytes; none of a number that may not be. -/
def nameOf (p : List UInt8) (n : Int) : List UInt8 := if okN n = true then p ++ Nu.eight n.toNat else []

/-- Eight zeros. -/
def zeros : ByteArray := strOf (List.replicate 8 48)

theorem repeat_any (w : World) :
    Calls Tryz.prog 64 #[.string ⟨#[48]⟩, .int .i64 8] w fun e w' => e = .returned (.string zeros) ∧ Below w.heap.size w w' :=
  Any.strings_Repeat_main Tryz.lays105 Tryz.extra105 ⟨#[48]⟩ 8 w (by omega) (by omega) (by decide) (by decide)

theorem may7_any (n : Int) (w : World) :
    Calls Tryz.prog 22 #[.int .i64 n] w fun e w' => e = .returned (.bool (okN n)) ∧ w' = w := by
  unfold okN
  go_enter Tryz.func22, Tryz.ntmps22
  go_wp2
  all_goals go_ret
  all_goals refine ⟨ret_bool ?_, rfl⟩
  all_goals rw [Bool.eq_iff_iff]
  all_goals simp
  all_goals omega

theorem segmay_any (n : Int) (w : World) :
    Calls Tryz.prog 58 #[.int .i64 n] w fun e w' => e = .returned (.bool (okN n)) ∧ w' = w := by
  unfold okN
  go_enter Tryz.func58, Tryz.ntmps58
  go_wp2
  all_goals go_ret
  all_goals refine ⟨ret_bool ?_, rfl⟩
  all_goals rw [Bool.eq_iff_iff]
  all_goals simp
  all_goals omega

theorem okN_nat {n : Int} (h : okN n = true) : ∃ k : Nat, n = k ∧ 1 ≤ k ∧ k ≤ 99999999 := by
  unfold okN at h
  rw [decide_eq_true_eq] at h
  exact ⟨n.toNat, by omega, by omega, by omega⟩

set_option maxHeartbeats 1000000 in
set_option maxRecDepth 100000 in
/-- man.Name. -/
theorem manName_any (n : Int) (w : World) (hT : Nu.Tens w) :
    Calls Tryz.prog 87 #[.int .i64 n] w fun e w' => e = .returned (.string (strOf (nameOf [109, 97, 110, 46] n))) ∧ Below w.heap.size w w' := by
  cases hok : okN n
  · have hno : nameOf [109, 97, 110, 46] n = [] := by unfold nameOf; rw [hok, if_neg (by simp)]
    rw [hno]
    clear hno
    unfold okN at hok
    rw [decide_eq_false_iff_not] at hok
    have hok' := Lib.hid hok
    clear hok
    by_cases h1 : n < 1
    · have i1 : decide (n < 1) = true := by simp; omega
      go_enter Tryz.func87, Tryz.ntmps87
      go_wp2_with fail
      go_ret
      exact ⟨rfl, Below.refl _ _⟩
    · have i1 : decide (n < 1) = false := by simp; omega
      have i2 : decide ((99999999 : Int) < n) = true := by have := hok'.out; simp; omega
      go_enter Tryz.func87, Tryz.ntmps87
      go_wp2_with fail
      go_ret
      exact ⟨rfl, Below.refl _ _⟩
  · obtain ⟨k, rfl, h1, h2⟩ := okN_nat hok
    have i1 : decide ((k : Int) < 1) = false := by simp; omega
    have i2 : decide ((99999999 : Int) < (k : Int)) = false := by simp; omega
    have hyes : strOf (nameOf [109, 97, 110, 46] k) = ⟨#[109, 97, 110, 46]⟩ ++ strOf (Nu.eight k) := by
      unfold nameOf
      rw [hok, if_pos rfl, ← strOf_add]
      rfl
    have hpad := Nu.eight_pad h1 h2
    obtain ⟨hlen, _⟩ := Nu.pad_digits 8 k h1 (by omega)
    have hit := Nu.strconv_Itoa k (by omega) (by omega)
    rw [Nu.itoa_nat] at hit
    obtain ⟨D, hD⟩ : ∃ D, Lib.decDigits k = D := ⟨_, rfl⟩
    rw [hD] at hpad hlen hit
    have a1 := fun w => run_string_add_sum (P := Tryz.prog) w zeros (strOf D) (by rw [strOf_size', show zeros.size = 8 from rfl]; omega)
    have hza : zeros ++ strOf D = strOf (List.replicate 8 48 ++ D) := strOf_add _ _
    rw [hza] at a1
    obtain ⟨T, hT'⟩ : ∃ T, strOf (List.replicate 8 48 ++ D) = T := ⟨_, rfl⟩
    rw [hT'] at a1
    have hTs : T.size = 8 + D.length := by rw [← hT', strOf_size', List.length_append, List.length_replicate]
    have hcut : Hid ((⟨#[109, 97, 110, 46]⟩ : ByteArray) ++ T.extract D.length (8 + D.length) = strOf (nameOf [109, 97, 110, 46] k)) := by
      refine Lib.hid ?_
      rw [← hT', strOf_cut, hpad, List.take_of_length_le (by rw [Nu.eight_len]; omega), hyes]
    have a2 := fun w => run_string_add_sum (P := Tryz.prog) w ⟨#[109, 97, 110, 46]⟩ (T.extract D.length (8 + D.length)) (by rw [ByteArray.size_extract, hTs, show (⟨#[109, 97, 110, 46]⟩ : ByteArray).size = 4 from rfl]; omega)
    have e8 : 8 + D.length - 8 = D.length := by omega
    obtain ⟨R, hR⟩ : ∃ R, strOf (nameOf [109, 97, 110, 46] k) = R := ⟨_, rfl⟩
    rw [hR] at hcut ⊢
    clear hza hyes hpad hR hT' hD hok
    have z8 : 8 ≤ T.size := by omega
    have z16 : T.size ≤ 16 := by omega
    go_enter Tryz.func87, Tryz.ntmps87
    go_wp2_with fail
    refine (repeat_any w).mono ?_
    rintro e w1 ⟨rfl, hb1⟩
    have hx1 := Lib.hid hb1
    clear hb1
    go_wp2_with fail
    refine (hit w1 (hT.below hx1.out)).mono ?_
    rintro e w2 ⟨rfl, hb2⟩
    have hx2 := Lib.hid (hx1.out.trans (hb2.mono hx1.out.size))
    clear hb2
    go_wp2_with fail
    go_ret
    exact ⟨congrArg (fun s => Ending.returned (.string s)) hcut.out, hx2.out⟩
set_option maxHeartbeats 1000000 in
set_option maxRecDepth 100000 in
/-- seg.Name. -/
theorem segName_any (n : Int) (w : World) (hT : Nu.Tens w) :
    Calls Tryz.prog 17 #[.int .i64 n] w fun e w' => e = .returned (.string (strOf (nameOf [115, 101, 103, 46] n))) ∧ Below w.heap.size w w' := by
  cases hok : okN n
  · have hno : nameOf [115, 101, 103, 46] n = [] := by unfold nameOf; rw [hok, if_neg (by simp)]
    rw [hno]
    clear hno
    go_enter Tryz.func17, Tryz.ntmps17
    go_wp2_with fail
    refine (segmay_any n w).mono ?_
    rintro e w1 ⟨rfl, rfl⟩
    rw [hok]
    go_wp2_with fail
    go_ret
    exact ⟨rfl, Below.refl _ _⟩
  · obtain ⟨k, rfl, h1, h2⟩ := okN_nat hok
    have i1 : decide ((k : Int) < 1) = false := by simp; omega
    have i2 : decide ((99999999 : Int) < (k : Int)) = false := by simp; omega
    have hyes : strOf (nameOf [115, 101, 103, 46] k) = ⟨#[115, 101, 103, 46]⟩ ++ strOf (Nu.eight k) := by
      unfold nameOf
      rw [hok, if_pos rfl, ← strOf_add]
      rfl
    have hpad := Nu.eight_pad h1 h2
    obtain ⟨hlen, _⟩ := Nu.pad_digits 8 k h1 (by omega)
    have hit := Nu.strconv_Itoa k (by omega) (by omega)
    rw [Nu.itoa_nat] at hit
    obtain ⟨D, hD⟩ : ∃ D, Lib.decDigits k = D := ⟨_, rfl⟩
    rw [hD] at hpad hlen hit
    have a1 := fun w => run_string_add_sum (P := Tryz.prog) w zeros (strOf D) (by rw [strOf_size', show zeros.size = 8 from rfl]; omega)
    have hza : zeros ++ strOf D = strOf (List.replicate 8 48 ++ D) := strOf_add _ _
    rw [hza] at a1
    obtain ⟨T, hT'⟩ : ∃ T, strOf (List.replicate 8 48 ++ D) = T := ⟨_, rfl⟩
    rw [hT'] at a1
    have hTs : T.size = 8 + D.length := by rw [← hT', strOf_size', List.length_append, List.length_replicate]
    have hcut : Hid ((⟨#[115, 101, 103, 46]⟩ : ByteArray) ++ T.extract D.length (8 + D.length) = strOf (nameOf [115, 101, 103, 46] k)) := by
      refine Lib.hid ?_
      rw [← hT', strOf_cut, hpad, List.take_of_length_le (by rw [Nu.eight_len]; omega), hyes]
    have a2 := fun w => run_string_add_sum (P := Tryz.prog) w ⟨#[115, 101, 103, 46]⟩ (T.extract D.length (8 + D.length)) (by rw [ByteArray.size_extract, hTs, show (⟨#[115, 101, 103, 46]⟩ : ByteArray).size = 4 from rfl]; omega)
    have e8 : 8 + D.length - 8 = D.length := by omega
    obtain ⟨R, hR⟩ : ∃ R, strOf (nameOf [115, 101, 103, 46] k) = R := ⟨_, rfl⟩
    rw [hR] at hcut ⊢
    clear hza hyes hpad hR hT' hD
    have z8 : 8 ≤ T.size := by omega
    have z16 : T.size ≤ 16 := by omega
    go_enter Tryz.func17, Tryz.ntmps17
    go_wp2_with fail
    refine (segmay_any k w).mono ?_
    rintro e w0 ⟨rfl, rfl⟩
    rw [hok]
    go_wp2_with fail
    refine (repeat_any w0).mono ?_
    rintro e w1 ⟨rfl, hb1⟩
    have hx1 := Lib.hid hb1
    clear hb1
    go_wp2_with fail
    refine (hit w1 (hT.below hx1.out)).mono ?_
    rintro e w2 ⟨rfl, hb2⟩
    have hx2 := Lib.hid (hx1.out.trans (hb2.mono hx1.out.size))
    clear hb2
    go_wp2_with fail
    go_ret
    exact ⟨congrArg (fun s => Ending.returned (.string s)) hcut.out, hx2.out⟩
end Go.Proofs.YtfdpnjebhllpkaaGreatDoor.Ma
end

section
namespace Go.Proofs.YtfdpnjebhllpkaaGreatDoor.Ma
open Go.RowKit Go.Shelf

theorem digitsK_split : ∀ (i k n : Nat), Nu.digitsK (i + k) n = Nu.digitsK k (n / 10 ^ i) ++ Nu.digitsK i n := by
  intro i
  induction i with
  | zero => intro k n; simp [Nu.digitsK]
  | succ i ih =>
    intro k n
    rw [show i + 1 + k = (i + k) + 1 by omega, Nu.digitsK, Nu.digitsK, ih k (n / 10), List.append_assoc, Nat.div_div_eq_div_mul, Nat.pow_succ, Nat.mul_comm (10 ^ i)]

set_option maxHeartbeats 1000000 in
set_option maxRecDepth 100000 in
/-- Eight. -/
theorem eight_any (n : Nat) (hn : n ≤ 99999999) (w : World) :
    Calls Tryz.prog 66 #[.int .i64 n] w fun e w' => e = .returned (.string (strOf (Nu.eight n))) ∧ Below w.heap.size w w' := by
  obtain ⟨R, hR⟩ : ∃ R, strOf (Nu.eight n) = R := ⟨_, rfl⟩
  rw [hR]
  have hR' := Lib.hid hR
  clear hR
  go_enter Tryz.func66, Tryz.ntmps66
  go_wp2_with fail
  go_loopw [0, 3, 4] (fun a s v wr => ∃ (i m : Nat) (t : ByteArray), i ≤ 8 ∧ m ≤ 99999999 ∧ a = .int .i64 (m : Nat) ∧ s = .string t ∧ v = .int .i64 (i : Nat) ∧ t.size = i ∧ Hid (t = strOf (Nu.digitsK i n)) ∧ Hid (m = n / 10 ^ i) ∧ Hid (Below w.heap.size w wr)) (fun _ _ v _ => 9 - (intOf v).toNat)
  case atStart => exact ⟨0, n, ⟨#[]⟩, by omega, hn, rfl, rfl, rfl, rfl, Lib.hid rfl, Lib.hid (by simp), Lib.hid (Below.refl _ _)⟩
  case round =>
    obtain ⟨i, m, t, hi, hm, rfl, rfl, rfl, hts, ht, hmi, hb⟩ := hrel
    by_cases hlt : i < 8
    · have i0 : decide ((i : Int) < 8) = true := by simp; omega
      have t1 : ((m : Int)).tmod 10 = (m : Int) % 10 := Int.tmod_eq_emod_of_nonneg (by omega)
      have t2 : (48 + (m : Int) % 10) % 256 = 48 + (m : Int) % 10 := by omega
      obtain ⟨d, hd⟩ : ∃ d : UInt8, d = UInt8.ofNat (48 + m % 10) := ⟨_, rfl⟩
      have hdn : (d.toNat : Int) = 48 + (m : Int) % 10 := by
        rw [hd, UInt8.toNat_ofNat']
        omega
      have hcv := Bs.conv (bs_lit wr #[.int .u8 (48 + (m : Int) % 10)] 5 (0, 0) [d] 1 rfl (by omega) (by
        show [Value.int .u8 (48 + (m : Int) % 10)] = bv [d]
        rw [← hdn]
        rfl)) (P := Tryz.prog) (src := 22) (dst := 9) (e := 5) Tryz.underlying22 Tryz.underlying5 Tryz.underlying9
      have hadd := fun w => run_string_add_sum (P := Tryz.prog) w (strOf [d]) t (by rw [strOf_size', hts]; simp; omega)
      obtain ⟨u, hu⟩ : ∃ u, strOf [d] ++ t = u := ⟨_, rfl⟩
      have hus : u.size = i + 1 := by rw [← hu, ByteArray.size_append, strOf_size', hts]; simp; omega
      have hu2 : Hid (u = strOf (Nu.digitsK (i + 1) n)) := Lib.hid (by
        rw [← hu, ht.out, strOf_add, digitsK_split i 1 n, ← hmi.out, hd]
        rfl)
      have hm2 : Hid (m / 10 = n / 10 ^ (i + 1)) := Lib.hid (by rw [hmi.out, Nat.div_div_eq_div_mul, Nat.pow_succ])
      rw [hu] at hadd
      have hdn' := Lib.hid hdn
      clear hu hd hdn
      have hb2 := Lib.hid (hb.out.trans ((below_alloc wr (.cells #[.int .u8 (48 + (m : Int) % 10)] 5)).mono hb.out.size))
      go_wp2_with fail
      go_roundw
      case rel => exact ⟨i + 1, m / 10, u, by omega, by omega, val_int (by omega), rfl, by go_num, hus, hu2, hm2, hb2⟩
      case measure => simp [intOf]; omega
    · have i0 : decide ((i : Int) < 8) = false := by simp; omega
      obtain rfl : i = 8 := by omega
      have hfin : R = t := by rw [← hR'.out, ht.out]; rfl
      subst hfin
      go_wp2_with fail
      go_ret
      exact ⟨rfl, hb.out⟩
end Go.Proofs.YtfdpnjebhllpkaaGreatDoor.Ma
end
