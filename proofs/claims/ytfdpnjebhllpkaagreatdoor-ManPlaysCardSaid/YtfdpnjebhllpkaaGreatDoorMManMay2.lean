/- Whether a manifest may be: the document's. -/
import Derived.Shelf.Strconv.Itoa3
import Derived.Shelf.Lay
import Derived.Ground.NamesProg
import Derived.Test.YtfdpnjebhllpkaaGreatDoorProg
import Derived.Test.YtfdpnjebhllpkaaGreatDoorMStrLaws
import Derived.WalkKit
import Derived.Below
import Derived.Lib.AppendIntMem
import Derived.Lib.SmallJoins
import Derived.Lib.ItoaLen
import Derived.Laws.Concat
import Derived.Shelf.Strings.Repeat
import Derived.Lib.Hide
import Derived.Lib.AtoiTie
import Derived.Lib.AtoiAllCases
import Derived.Deep.QuietTactic
import Derived.BigQuiet
import Derived.Deep.DeepCutAuto
section
namespace Go.Proofs
open Go.Shelf Go.RowKit

shelf_lay LaysM.n171 Nm 171 at Tryz as Tryz.lays171

end Go.Proofs
namespace Go.Proofs.YtfdpnjebhllpkaaGreatDoor.Nu
open Go.RowKit Go.Shelf

/-- What the library's table of tens holds. -/
def Tens (w : World) : Prop := Lib.TabBelow Tryz.prog w.heap.size w "internal/strconv.uint64pow10" .u64 Lib.pow10Tab

theorem Tens.below {w w' : World} (h : Tens w) (hb : Below w.heap.size w w') : Tens w' := fun w'' h' => h w'' (hb.trans (h'.mono hb.size))
theorem Tens.of_tab {w : World} (h : Lib.TabIs Tryz.prog w "internal/strconv.uint64pow10" .u64 Lib.pow10Tab) : Tens w := Lib.tabBelow_of_tabIs h

theorem strconv_Itoa (n : Int) (h0 : -9223372036854775808 ≤ n) (h1 : n ≤ 9223372036854775807) (w : World) (htab : Tens w) :
    Calls Tryz.prog 65 #[.int .i64 n] w fun e w' => e = .returned (.string (strOf (Lib.itoa n))) ∧ Below w.heap.size w w' := by
  refine (Any.strconv_Itoa Tryz.lays171 n h0 h1 w htab.here).mono ?_
  rintro e w' ⟨rfl, k, os, rfl⟩
  exact ⟨rfl, Lib.below_grow _ _ (Nat.le_refl _) _ _⟩

theorem itoa_nat (n : Nat) : Lib.itoa (n : Int) = Lib.decDigits n := by
  unfold Lib.itoa
  rw [if_neg (by omega)]
  rfl

/-- The last k digits. -/
def digitsK : Nat → Nat → List UInt8
  | 0, _ => []
  | k + 1, n => digitsK k (n / 10) ++ [UInt8.ofNat (48 + n % 10)]

theorem digitsK_len (k n : Nat) : (digitsK k n).length = k := by
  induction k generalizing n with
  | zero => rfl
  | succ k ih => simp [digitsK, ih]

theorem digitsK_zero (k : Nat) : digitsK k 0 = List.replicate k 48 := by
  induction k with
  | zero => rfl
  | succ k ih =>
    rw [digitsK, show 0 / 10 = 0 from rfl, ih, List.replicate_succ']
    rfl

theorem pad_digits : ∀ k n, 1 ≤ n → n < 10 ^ k → (Lib.decDigits n).length ≤ k ∧ List.replicate (k - (Lib.decDigits n).length) 48 ++ Lib.decDigits n = digitsK k n := by
  intro k
  induction k with
  | zero =>
    intro n h1 h2
    simp at h2
    omega
  | succ k ih =>
    intro n h1 h2
    rw [Lib.decDigits]
    by_cases h : n < 10
    · rw [dif_pos h, digitsK, show n / 10 = 0 by omega, digitsK_zero, Nat.mod_eq_of_lt h]
      exact ⟨by simp, by simp⟩
    · obtain ⟨i1, i2⟩ := ih (n / 10) (by omega) (by rw [Nat.pow_succ] at h2; omega)
      rw [dif_neg h, digitsK, ← i2]
      refine ⟨by simp; omega, ?_⟩
      rw [List.length_append, List.append_assoc]
      congr 2
      simp

/-- A number in eight digits. -/
def eight (n : Nat) : List UInt8 := digitsK 8 n

theorem eight_len (n : Nat) : (eight n).length = 8 := digitsK_len 8 n

theorem eight_pad {n : Nat} (h1 : 1 ≤ n) (h2 : n ≤ 99999999) : (List.replicate 8 48 ++ Lib.decDigits n).drop (Lib.decDigits n).length = eight n := by
  obtain ⟨i1, i2⟩ := pad_digits 8 n h1 (by omega)
  unfold eight
  rw [← i2, List.drop_append_of_le_length (by simpa using i1), List.drop_replicate]
end Go.Proofs.YtfdpnjebhllpkaaGreatDoor.Nu
end

section
namespace Go.Proofs
open Go.Shelf Go.RowKit

shelf_lay Lays.n105 Nm 105 at Tryz as Tryz.lays105

theorem Tryz.extra105 : Builder.Extra Tryz.prog Tryz.lays105_ren where
  sizeBuilder := by kernel_rfl
  liesBuilder := by kernel_rfl
  t5 := Tryz.underlying5
  a5 := Tryz.lays105.a5
  z5 := Tryz.lays105.z5
  v5 := Tryz.lays105.v5
  infoByte := by kernel_rfl
  cellsByte := by kernel_rfl
  sizeByte := by kernel_rfl
  neB5 := by decide

end Go.Proofs
namespace Go.Proofs.YtfdpnjebhllpkaaGreatDoor.Ma
open Go.RowKit Go.Shelf

/-- Whether a number may be. -/
def okN (n : Int) : Bool := decide (1 ≤ n ∧ n ≤ 99999999)

/-- A number's name behind a beginning of four bytes; none of a number that may not be. -/
def nameOf (p : List UInt8) (n : Int) : List UInt8 := if okN n = true then p ++ Nu.eight n.toNat else []

/-- Eight zeros. -/
def zeros : ByteArray := strOf (List.replicate 8 48)

theorem repeat_any (w : World) :
    Calls Tryz.prog 64 #[.string ⟨#[48]⟩, .int .i64 8] w fun e w' => e = .returned (.string zeros) ∧ Below w.heap.size w w' :=
  Any.strings_Repeat_main Tryz.lays105 Tryz.extra105 ⟨#[48]⟩ 8 w (by omega) (by omega) (by decide) (by decide)

theorem may7_any (n : Int) (w : World) :
    Calls Tryz.prog 22 #[.int .i64 n] w fun e w' => e = .returned (.bool (okN n)) ∧ w' = w := by
  unfold okN
  go_enter Tryz.func22, Tryz.ntmps22
  go_wp2
  all_goals go_ret
  all_goals refine ⟨ret_bool ?_, rfl⟩
  all_goals rw [Bool.eq_iff_iff]
  all_goals simp
  all_goals omega

theorem segmay_any (n : Int) (w : World) :
    Calls Tryz.prog 58 #[.int .i64 n] w fun e w' => e = .returned (.bool (okN n)) ∧ w' = w := by
  unfold okN
  go_enter Tryz.func58, Tryz.ntmps58
  go_wp2
  all_goals go_ret
  all_goals refine ⟨ret_bool ?_, rfl⟩
  all_goals rw [Bool.eq_iff_iff]
  all_goals simp
  all_goals omega

theorem okN_nat {n : Int} (h : okN n = true) : ∃ k : Nat, n = k ∧ 1 ≤ k ∧ k ≤ 99999999 := by
  unfold okN at h
  rw [decide_eq_true_eq] at h
  exact ⟨n.toNat, by omega, by omega, by omega⟩

set_option maxHeartbeats 1000000 in
set_option maxRecDepth 100000 in
/-- man.Name. -/
theorem manName_any (n : Int) (w : World) (hT : Nu.Tens w) :
    Calls Tryz.prog 87 #[.int .i64 n] w fun e w' => e = .returned (.string (strOf (nameOf [109, 97, 110, 46] n))) ∧ Below w.heap.size w w' := by
  cases hok : okN n
  · have hno : nameOf [109, 97, 110, 46] n = [] := by unfold nameOf; rw [hok, if_neg (by simp)]
    rw [hno]
    clear hno
    unfold okN at hok
    rw [decide_eq_false_iff_not] at hok
    have hok' := Lib.hid hok
    clear hok
    by_cases h1 : n < 1
    · have i1 : decide (n < 1) = true := by simp; omega
      go_enter Tryz.func87, Tryz.ntmps87
      go_wp2_with fail
      go_ret
      exact ⟨rfl, Below.refl _ _⟩
    · have i1 : decide (n < 1) = false := by simp; omega
      have i2 : decide ((99999999 : Int) < n) = true := by have := hok'.out; simp; omega
      go_enter Tryz.func87, Tryz.ntmps87
      go_wp2_with fail
      go_ret
      exact ⟨rfl, Below.refl _ _⟩
  · obtain ⟨k, rfl, h1, h2⟩ := okN_nat hok
    have i1 : decide ((k : Int) < 1) = false := by simp; omega
    have i2 : decide ((99999999 : Int) < (k : Int)) = false := by simp; omega
    have hyes : strOf (nameOf [109, 97, 110, 46] k) = ⟨#[109, 97, 110, 46]⟩ ++ strOf (Nu.eight k) := by
      unfold nameOf
      rw [hok, if_pos rfl, ← strOf_add]
      rfl
    have hpad := Nu.eight_pad h1 h2
    obtain ⟨hlen, _⟩ := Nu.pad_digits 8 k h1 (by omega)
    have hit := Nu.strconv_Itoa k (by omega) (by omega)
    rw [Nu.itoa_nat] at hit
    obtain ⟨D, hD⟩ : ∃ D, Lib.decDigits k = D := ⟨_, rfl⟩
    rw [hD] at hpad hlen hit
    have a1 := fun w => run_string_add_sum (P := Tryz.prog) w zeros (strOf D) (by rw [strOf_size', show zeros.size = 8 from rfl]; omega)
    have hza : zeros ++ strOf D = strOf (List.replicate 8 48 ++ D) := strOf_add _ _
    rw [hza] at a1
    obtain ⟨T, hT'⟩ : ∃ T, strOf (List.replicate 8 48 ++ D) = T := ⟨_, rfl⟩
    rw [hT'] at a1
    have hTs : T.size = 8 + D.length := by rw [← hT', strOf_size', List.length_append, List.length_replicate]
    have hcut : Hid ((⟨#[109, 97, 110, 46]⟩ : ByteArray) ++ T.extract D.length (8 + D.length) = strOf (nameOf [109, 97, 110, 46] k)) := by
      refine Lib.hid ?_
      rw [← hT', strOf_cut, hpad, List.take_of_length_le (by rw [Nu.eight_len]; omega), hyes]
    have a2 := fun w => run_string_add_sum (P := Tryz.prog) w ⟨#[109, 97, 110, 46]⟩ (T.extract D.length (8 + D.length)) (by rw [ByteArray.size_extract, hTs, show (⟨#[109, 97, 110, 46]⟩ : ByteArray).size = 4 from rfl]; omega)
    have e8 : 8 + D.length - 8 = D.length := by omega
    obtain ⟨R, hR⟩ : ∃ R, strOf (nameOf [109, 97, 110, 46] k) = R := ⟨_, rfl⟩
    rw [hR] at hcut ⊢
    clear hza hyes hpad hR hT' hD hok
    have z8 : 8 ≤ T.size := by omega
    have z16 : T.size ≤ 16 := by omega
    go_enter Tryz.func87, Tryz.ntmps87
    go_wp2_with fail
    refine (repeat_any w).mono ?_
    rintro e w1 ⟨rfl, hb1⟩
    have hx1 := Lib.hid hb1
    clear hb1
    go_wp2_with fail
    refine (hit w1 (hT.below hx1.out)).mono ?_
    rintro e w2 ⟨rfl, hb2⟩
    have hx2 := Lib.hid (hx1.out.trans (hb2.mono hx1.out.size))
    clear hb2
    go_wp2_with fail
    go_ret
    exact ⟨congrArg (fun s => Ending.returned (.string s)) hcut.out, hx2.out⟩
set_option maxHeartbeats 1000000 in
set_option maxRecDepth 100000 in
/-- seg.Name. -/
theorem segName_any (n : Int) (w : World) (hT : Nu.Tens w) :
    Calls Tryz.prog 17 #[.int .i64 n] w fun e w' => e = .returned (.string (strOf (nameOf [115, 101, 103, 46] n))) ∧ Below w.heap.size w w' := by
  cases hok : okN n
  · have hno : nameOf [115, 101, 103, 46] n = [] := by unfold nameOf; rw [hok, if_neg (by simp)]
    rw [hno]
    clear hno
    go_enter Tryz.func17, Tryz.ntmps17
    go_wp2_with fail
    refine (segmay_any n w).mono ?_
    rintro e w1 ⟨rfl, rfl⟩
    rw [hok]
    go_wp2_with fail
    go_ret
    exact ⟨rfl, Below.refl _ _⟩
  · obtain ⟨k, rfl, h1, h2⟩ := okN_nat hok
    have i1 : decide ((k : Int) < 1) = false := by simp; omega
    have i2 : decide ((99999999 : Int) < (k : Int)) = false := by simp; omega
    have hyes : strOf (nameOf [115, 101, 103, 46] k) = ⟨#[115, 101, 103, 46]⟩ ++ strOf (Nu.eight k) := by
      unfold nameOf
      rw [hok, if_pos rfl, ← strOf_add]
      rfl
    have hpad := Nu.eight_pad h1 h2
    obtain ⟨hlen, _⟩ := Nu.pad_digits 8 k h1 (by omega)
    have hit := Nu.strconv_Itoa k (by omega) (by omega)
    rw [Nu.itoa_nat] at hit
    obtain ⟨D, hD⟩ : ∃ D, Lib.decDigits k = D := ⟨_, rfl⟩
    rw [hD] at hpad hlen hit
    have a1 := fun w => run_string_add_sum (P := Tryz.prog) w zeros (strOf D) (by rw [strOf_size', show zeros.size = 8 from rfl]; omega)
    have hza : zeros ++ strOf D = strOf (List.replicate 8 48 ++ D) := strOf_add _ _
    rw [hza] at a1
    obtain ⟨T, hT'⟩ : ∃ T, strOf (List.replicate 8 48 ++ D) = T := ⟨_, rfl⟩
    rw [hT'] at a1
    have hTs : T.size = 8 + D.length := by rw [← hT', strOf_size', List.length_append, List.length_replicate]
    have hcut : Hid ((⟨#[115, 101, 103, 46]⟩ : ByteArray) ++ T.extract D.length (8 + D.length) = strOf (nameOf [115, 101, 103, 46] k)) := by
      refine Lib.hid ?_
      rw [← hT', strOf_cut, hpad, List.take_of_length_le (by rw [Nu.eight_len]; omega), hyes]
    have a2 := fun w => run_string_add_sum (P := Tryz.prog) w ⟨#[115, 101, 103, 46]⟩ (T.extract D.length (8 + D.length)) (by rw [ByteArray.size_extract, hTs, show (⟨#[115, 101, 103, 46]⟩ : ByteArray).size = 4 from rfl]; omega)
    have e8 : 8 + D.length - 8 = D.length := by omega
    obtain ⟨R, hR⟩ : ∃ R, strOf (nameOf [115, 101, 103, 46] k) = R := ⟨_, rfl⟩
    rw [hR] at hcut ⊢
    clear hza hyes hpad hR hT' hD
    have z8 : 8 ≤ T.size := by omega
    have z16 : T.size ≤ 16 := by omega
    go_enter Tryz.func17, Tryz.ntmps17
    go_wp2_with fail
    refine (segmay_any k w).mono ?_
    rintro e w0 ⟨rfl, rfl⟩
    rw [hok]
    go_wp2_with fail
    refine (repeat_any w0).mono ?_
    rintro e w1 ⟨rfl, hb1⟩
    have hx1 := Lib.hid hb1
    clear hb1
    go_wp2_with fail
    refine (hit w1 (hT.below hx1.out)).mono ?_
    rintro e w2 ⟨rfl, hb2⟩
    have hx2 := Lib.hid (hx1.out.trans (hb2.mono hx1.out.size))
    clear hb2
    go_wp2_with fail
    go_ret
    exact ⟨congrArg (fun s => Ending.returned (.string s)) hcut.out, hx2.out⟩
end Go.Proofs.YtfdpnjebhllpkaaGreatDoor.Ma
end

section
namespace Go.Proofs.YtfdpnjebhllpkaaGreatDoor.Ma
open Go.RowKit Go.Shelf

theorem digitsK_split : ∀ (i k n : Nat), Nu.digitsK (i + k) n = Nu.digitsK k (n / 10 ^ i) ++ Nu.digitsK i n := by
  intro i
  induction i with
  | zero => intro k n; simp [Nu.digitsK]
  | succ i ih =>
    intro k n
    rw [show i + 1 + k = (i + k) + 1 by omega, Nu.digitsK, Nu.digitsK, ih k (n / 10), List.append_assoc, Nat.div_div_eq_div_mul, Nat.pow_succ, Nat.mul_comm (10 ^ i)]

set_option maxHeartbeats 1000000 in
set_option maxRecDepth 100000 in
/-- Eight. -/
theorem eight_any (n : Nat) (hn : n ≤ 99999999) (w : World) :
    Calls Tryz.prog 66 #[.int .i64 n] w fun e w' => e = .returned (.string (strOf (Nu.eight n))) ∧ Below w.heap.size w w' := by
  obtain ⟨R, hR⟩ : ∃ R, strOf (Nu.eight n) = R := ⟨_, rfl⟩
  rw [hR]
  have hR' := Lib.hid hR
  clear hR
  go_enter Tryz.func66, Tryz.ntmps66
  go_wp2_with fail
  go_loopw [0, 3, 4] (fun a s v wr => ∃ (i m : Nat) (t : ByteArray), i ≤ 8 ∧ m ≤ 99999999 ∧ a = .int .i64 (m : Nat) ∧ s = .string t ∧ v = .int .i64 (i : Nat) ∧ t.size = i ∧ Hid (t = strOf (Nu.digitsK i n)) ∧ Hid (m = n / 10 ^ i) ∧ Hid (Below w.heap.size w wr)) (fun _ _ v _ => 9 - (intOf v).toNat)
  case atStart => exact ⟨0, n, ⟨#[]⟩, by omega, hn, rfl, rfl, rfl, rfl, Lib.hid rfl, Lib.hid (by simp), Lib.hid (Below.refl _ _)⟩
  case round =>
    obtain ⟨i, m, t, hi, hm, rfl, rfl, rfl, hts, ht, hmi, hb⟩ := hrel
    by_cases hlt : i < 8
    · have i0 : decide ((i : Int) < 8) = true := by simp; omega
      have t1 : ((m : Int)).tmod 10 = (m : Int) % 10 := Int.tmod_eq_emod_of_nonneg (by omega)
      have t2 : (48 + (m : Int) % 10) % 256 = 48 + (m : Int) % 10 := by omega
      obtain ⟨d, hd⟩ : ∃ d : UInt8, d = UInt8.ofNat (48 + m % 10) := ⟨_, rfl⟩
      have hdn : (d.toNat : Int) = 48 + (m : Int) % 10 := by
        rw [hd, UInt8.toNat_ofNat']
        omega
      have hcv := Bs.conv (bs_lit wr #[.int .u8 (48 + (m : Int) % 10)] 5 (0, 0) [d] 1 rfl (by omega) (by
        show [Value.int .u8 (48 + (m : Int) % 10)] = bv [d]
        rw [← hdn]
        rfl)) (P := Tryz.prog) (src := 22) (dst := 9) (e := 5) Tryz.underlying22 Tryz.underlying5 Tryz.underlying9
      have hadd := fun w => run_string_add_sum (P := Tryz.prog) w (strOf [d]) t (by rw [strOf_size', hts]; simp; omega)
      obtain ⟨u, hu⟩ : ∃ u, strOf [d] ++ t = u := ⟨_, rfl⟩
      have hus : u.size = i + 1 := by rw [← hu, ByteArray.size_append, strOf_size', hts]; simp; omega
      have hu2 : Hid (u = strOf (Nu.digitsK (i + 1) n)) := Lib.hid (by
        rw [← hu, ht.out, strOf_add, digitsK_split i 1 n, ← hmi.out, hd]
        rfl)
      have hm2 : Hid (m / 10 = n / 10 ^ (i + 1)) := Lib.hid (by rw [hmi.out, Nat.div_div_eq_div_mul, Nat.pow_succ])
      rw [hu] at hadd
      have hdn' := Lib.hid hdn
      clear hu hd hdn
      have hb2 := Lib.hid (hb.out.trans ((below_alloc wr (.cells #[.int .u8 (48 + (m : Int) % 10)] 5)).mono hb.out.size))
      go_wp2_with fail
      go_roundw
      case rel => exact ⟨i + 1, m / 10, u, by omega, by omega, val_int (by omega), rfl, by go_num, hus, hu2, hm2, hb2⟩
      case measure => simp [intOf]; omega
    · have i0 : decide ((i : Int) < 8) = false := by simp; omega
      obtain rfl : i = 8 := by omega
      have hfin : R = t := by rw [← hR'.out, ht.out]; rfl
      subst hfin
      go_wp2_with fail
      go_ret
      exact ⟨rfl, hb.out⟩
end Go.Proofs.YtfdpnjebhllpkaaGreatDoor.Ma
end

section
namespace Go.Proofs.YtfdpnjebhllpkaaGreatDoor.Ma
open Go.RowKit Go.Shelf Go.Lib

theorem decFrom_append (a b : List UInt8) : ∀ acc, decFrom acc (a ++ b) = (decFrom acc a).bind fun m => decFrom m b := by
  induction a with
  | nil => intro acc; rfl
  | cons x r ih =>
    intro acc
    rw [List.cons_append, decFrom, decFrom]
    cases digitVal x with
    | none => rfl
    | some d => exact ih _

theorem digit_nat (d : Nat) (h : d < 10) : digitVal (UInt8.ofNat (48 + d)) = some d := by
  unfold digitVal
  rw [UInt8.toNat_ofNat', Nat.mod_eq_of_lt (by omega), if_pos (by omega)]
  congr 1
  omega

theorem decFrom_one (acc : Nat) (b : UInt8) (d : Nat) (h : digitVal b = some d) : decFrom acc [b] = some (acc * 10 + d) := by simp [decFrom, h]

theorem dec_digits : ∀ (k n acc : Nat), n < 10 ^ k → decFrom acc (Nu.digitsK k n) = some (acc * 10 ^ k + n) := by
  intro k
  induction k with
  | zero => intro n acc h; simp at h; subst h; simp [Nu.digitsK, decFrom]
  | succ k ih =>
    intro n acc h
    rw [Nat.pow_succ] at h
    rw [Nu.digitsK, decFrom_append, ih (n / 10) acc (by omega)]
    show decFrom (acc * 10 ^ k + n / 10) [UInt8.ofNat (48 + n % 10)] = _
    rw [decFrom_one _ _ _ (digit_nat _ (by omega)), Nat.pow_succ]
    congr 1
    have : acc * (10 ^ k * 10) = acc * 10 ^ k * 10 := by rw [Nat.mul_assoc]
    omega

theorem digits_dec : ∀ (k v : Nat) (l : List UInt8), l.length = k → decFrom 0 l = some v → l = Nu.digitsK k v := by
  intro k
  induction k with
  | zero => intro v l hl _; exact List.eq_nil_of_length_eq_zero hl
  | succ k ih =>
    intro v l hl h
    have hne : l ≠ [] := by intro e; rw [e] at hl; simp at hl
    obtain ⟨l', b, rfl⟩ : ∃ l' b, l = l' ++ [b] := ⟨l.dropLast, l.getLast hne, (List.dropLast_concat_getLast hne).symm⟩
    rw [decFrom_append] at h
    cases h1 : decFrom 0 l' with
    | none => rw [h1] at h; cases h
    | some m =>
      rw [h1] at h
      change decFrom m [b] = some v at h
      cases h2 : digitVal b with
      | none => simp [decFrom, h2] at h
      | some d =>
        rw [decFrom_one _ _ _ h2, Option.some.injEq] at h
        obtain ⟨d1, d2, d3⟩ := digitVal_eq h2
        have e1 := ih m l' (by simpa using hl) h1
        rw [Nu.digitsK, show v / 10 = m by omega, ← e1]
        congr 2
        apply UInt8.toNat_inj.1
        rw [UInt8.toNat_ofNat']
        omega

def man4 : List UInt8 := [109, 97, 110, 46]

/-- What the code tells of a name. -/
def genC (l : List UInt8) : Int × Bool :=
  match atoiAll (l.drop 4) with
  | .ok n => if l.take 4 = man4 ∧ okN n = true ∧ nameOf man4 n = l then (n, true) else (0, false)
  | _ => (0, false)

/-- What the document tells of a name. -/
def genR (l : List UInt8) : Int × Bool :=
  if l.length = 12 ∧ l.take 4 = man4 then
    match decFrom 0 (l.drop 4) with
    | some v => ((v : Int), decide (0 < v))
    | none => (0, false)
  else (0, false)

theorem genR_of_name {n : Int} (h : okN n = true) : genR (nameOf man4 n) = (n, true) := by
  obtain ⟨k, rfl, h1, h2⟩ := okN_nat h
  have e : nameOf man4 k = man4 ++ Nu.eight k := by unfold nameOf; rw [h, if_pos rfl]; rfl
  have hl := Nu.eight_len k
  have hd : (man4 ++ Nu.eight k).drop 4 = Nu.eight k := rfl
  unfold genR
  rw [e, if_pos ⟨by rw [List.length_append, hl]; rfl, rfl⟩, hd, Nu.eight, dec_digits 8 k 0 (by omega)]
  simp
  omega

theorem atoi_eight {v : Nat} (h2 : v ≤ 99999999) : atoiAll (Nu.eight v) = .ok (v : Int) := by
  have hl := Nu.eight_len v
  have hd : decFrom 0 (Nu.eight v) = some v := by
    have := dec_digits 8 v 0 (by omega)
    unfold Nu.eight
    simpa using this
  rw [atoiAll_short _ (by omega)]
  obtain ⟨b, r, e⟩ : ∃ b r, Nu.eight v = b :: r := by
    cases h : Nu.eight v with
    | nil => rw [h] at hl; simp at hl
    | cons b r => exact ⟨b, r, rfl⟩
  obtain ⟨d, hdv⟩ := digit_of_decFrom (Nu.eight v) 0 v hd 0 b (by rw [e]; rfl)
  obtain ⟨d1, d2, _⟩ := digitVal_eq hdv
  have n45 : (b == 45) = false := by rw [beq_eq_false_iff_ne]; intro h; rw [h] at d1; simp at d1
  have n43 : (b == 43) = false := by rw [beq_eq_false_iff_ne]; intro h; rw [h] at d1; simp at d1
  rw [e] at hd ⊢
  simp only [atoi, n45, n43, Bool.false_eq_true, if_false, decNat, List.isEmpty_cons, hd]
  rfl

/-- THE LAW OF Generation. -/
theorem gen_eq (l : List UInt8) : genC l = genR l := by
  have back : ∀ n, okN n = true → nameOf man4 n = l → genR l = (n, true) := fun n h1 h2 => by rw [← h2]; exact genR_of_name h1
  by_cases hr : (genR l).2 = true
  · -- the document tells a number
    have hr2 := hr
    unfold genR at hr2
    split at hr2
    · rename_i h
      cases hd : decFrom 0 (l.drop 4) with
      | none => rw [hd] at hr2; cases hr2
      | some v =>
        rw [hd] at hr2
        simp only [decide_eq_true_eq] at hr2
        have hl8 : (l.drop 4).length = 8 := by rw [List.length_drop]; omega
        have hdig := digits_dec 8 v (l.drop 4) hl8 hd
        have hv := decFrom_lt (l.drop 4) 0 v hd
        rw [hl8] at hv
        have hv2 : v ≤ 99999999 := by simp at hv; omega
        have hok : okN (v : Int) = true := by unfold okN; rw [decide_eq_true_eq]; omega
        have hname : nameOf man4 (v : Int) = l := by
          unfold nameOf
          rw [hok, if_pos rfl, Int.toNat_natCast, ← h.2, show Nu.eight v = l.drop 4 from hdig.symm, List.take_append_drop]
        rw [back v hok hname]
        unfold genC
        rw [show l.drop 4 = Nu.eight v from hdig, atoi_eight hv2]
        simp only
        rw [if_pos ⟨h.2, hok, hname⟩]
    · cases hr2
  · have hz : genR l = (0, false) := by
      unfold genR at hr ⊢
      split
      · rename_i h
        rw [if_pos h] at hr
        cases hd : decFrom 0 (l.drop 4) with
        | none => rfl
        | some v =>
          rw [hd] at hr
          simp only [decide_eq_true_eq] at hr
          obtain rfl : v = 0 := by omega
          rfl
      · rfl
    rw [hz]
    unfold genC
    generalize ha : atoiAll (l.drop 4) = R
    rcases R with n | _ | _
    case ok =>
      simp only
      rw [if_neg]
      rintro ⟨_, h2, h3⟩
      rw [back n h2 h3] at hz
      cases hz
    all_goals rfl
end Go.Proofs.YtfdpnjebhllpkaaGreatDoor.Ma
end

section
namespace Go.Proofs.YtfdpnjebhllpkaaGreatDoor.Ma
open Go.RowKit Go.Shelf

/-- A slice of ints that reads as a list. -/
def Is (w : World) (A : Option Addr) (n c : Nat) (ss : List Int) : Prop := Rd w A n c (ss.map (Value.int .i64))

theorem Is.len {w : World} {A : Option Addr} {n c : Nat} {ss : List Int} (h : Is w A n c ss) : ss.length = n := by simpa using Rd.len h
theorem Is.below {w w' : World} {A : Option Addr} {n c : Nat} {ss : List Int} (h : Is w A n c ss) (hb : Below w.heap.size w w') : Is w' A n c ss := Rd.below h hb
theorem Is.at_ {w : World} {A : Option Addr} {n c k : Nat} {ss : List Int} (h : Is w A n c ss) (hk : k < n) :
    ∃ b off, ∃ x : Int, A = some ⟨b, off, none⟩ ∧ b < w.heap.size ∧ ss[k]? = some x ∧ w.cell? ⟨b, off + k, none⟩ = some (.int .i64 x) := by
  obtain ⟨b, off, u, e, hb, hx, hc⟩ := Rd.at_ h hk
  rw [List.getElem?_map, Option.map_eq_some_iff] at hx
  obtain ⟨x, hx2, rfl⟩ := hx
  exact ⟨b, off, x, e, hb, hx2, hc⟩

/-- What one segment's number must be at its place. -/
def seg1 (ss : List Int) (i : Nat) : Bool := okN (ss[i]?.getD 0) && (decide (i = 0) || decide (ss[i - 1]?.getD 0 < ss[i]?.getD 0))
def segsTo (ss : List Int) : Nat → Bool
  | 0 => true
  | k + 1 => segsTo ss k && seg1 ss k

/-- Whether a manifest may be. -/
def mayM (g la : Int) (ss : List Int) : Bool := okN g && (decide (0 ≤ la ∧ la ≤ 200 ∧ 1 ≤ ss.length ∧ ss.length ≤ 64) && segsTo ss ss.length)

theorem segsTo_false {ss : List Int} {k n : Nat} (h : segsTo ss k = false) (hk : k ≤ n) : segsTo ss n = false := by
  induction n with
  | zero =>
    obtain rfl : k = 0 := by omega
    exact h
  | succ n ih =>
    by_cases e : k = n + 1
    · rw [← e]; exact h
    · rw [segsTo, ih (by omega)]
      rfl

/-- A manifest's three cells, at a block. -/
def Mf (w : World) (b : Nat) (g la : Int) (A : Option Addr) (n c : Nat) : Prop :=
  w.cell? ⟨b, 0, none⟩ = some (.int .i64 g) ∧ w.cell? ⟨b, 1, none⟩ = some (.int .i64 la) ∧ w.cell? ⟨b, 2, none⟩ = some (.slice A n c) ∧ b < w.heap.size

theorem Mf.below {w w' : World} {b : Nat} {g la : Int} {A : Option Addr} {n c : Nat} (h : Mf w b g la A n c) (hb : Below w.heap.size w w') : Mf w' b g la A n c := by
  obtain ⟨h0, h1, h2, h3⟩ := h
  exact ⟨by rw [hb.cell h3]; exact h0, by rw [hb.cell h3]; exact h1, by rw [hb.cell h3]; exact h2, Nat.lt_of_lt_of_le h3 hb.size⟩

theorem mf_new (w : World) (g la : Int) (A : Option Addr) (n c : Nat) (E : TypeId) : Mf (w.alloc (.cells #[.int .i64 g, .int .i64 la, .slice A n c] E)) w.heap.size g la A n c :=
  ⟨World.cell?_alloc_at _ _ _ _ rfl, World.cell?_alloc_at _ _ _ _ rfl, World.cell?_alloc_at _ _ _ _ rfl, by simp⟩

theorem name_isEmpty (p : List UInt8) (hp : p ≠ []) (n : Int) : (strOf (nameOf p n)).toList.isEmpty = !okN n := by
  rw [strOf_empty]
  unfold nameOf
  cases h : okN n
  · rfl
  · rw [if_pos rfl]
    cases p with
    | nil => exact absurd rfl hp
    | cons a r => rfl

set_option maxHeartbeats 4000000 in
set_option maxRecDepth 100000 in
/-- man.May. -/
theorem manMay_any (g la : Int) (A : Option Addr) (n c : Nat) (ss : List Int) (w : World) (hT : Nu.Tens w) (hI : Is w A n c ss) :
    Calls Tryz.prog 151 #[.agg #[.int .i64 g, .int .i64 la, .slice A n c]] w fun e w' => e = .returned (.bool (mayM g la ss)) ∧ Below w.heap.size w w' := by
  have hn := hI.len
  have hle := Rd.le hI
  have hm := Rd.max hI
  obtain ⟨R, hR⟩ : ∃ R, mayM g la ss = R := ⟨_, rfl⟩
  have hR2 := hR
  unfold mayM at hR2
  rw [hn] at hR2
  rw [hR]
  clear hR
  have hE := name_isEmpty [109, 97, 110, 46] (by simp) g
  have hN := manName_any g
  obtain ⟨S, hS⟩ : ∃ S, strOf (nameOf [109, 97, 110, 46] g) = S := ⟨_, rfl⟩
  rw [hS] at hE hN
  clear hS
  have hn' := Lib.hid hn
  clear hn
  have hb0 := below_alloc w (.cells #[.int .i64 g, .int .i64 la, .slice A n c] 75)
  go_enter Tryz.func151, Tryz.ntmps151
  go_wp2_with fail
  refine (hN _ (hT.below hb0)).mono ?_
  rintro e w1 ⟨rfl, hb1⟩
  have hm1 := (mf_new w g la A n c 75).below hb1
  have hx1 := Lib.hid (hb0.trans (hb1.mono hb0.size))
  have hI1 := Lib.hid (hI.below hx1.out)
  clear hb1 hb0 hN hI
  obtain ⟨k0, k1, k2, hsz1⟩ := hm1
  cases hok : okN g
  · have hr : R = false := by rw [← hR2, hok, Bool.false_and]
    subst hr
    rw [hok, Bool.not_false] at hE
    go_wp2_with fail
    go_ret
    exact ⟨rfl, hx1.out⟩
  · rw [hok, Bool.not_true] at hE
    rw [hok, Bool.true_and] at hR2
    by_cases hb : 0 ≤ la ∧ la ≤ 200 ∧ 1 ≤ n ∧ n ≤ 64
    case neg =>
      have hr : R = false := by rw [← hR2, decide_eq_false hb, Bool.false_and]
      subst hr
      clear hR2
      have hb' := Lib.hid hb
      clear hb
      by_cases b1 : la < 0
      · have t1 : decide (la < 0) = true := by simp; omega
        go_wp2_with fail
        go_ret
        exact ⟨rfl, hx1.out⟩
      have t1 : decide (la < 0) = false := by simp; omega
      by_cases b2 : 200 < la
      · have t2 : decide ((200 : Int) < la) = true := by simp; omega
        go_wp2_with fail
        go_ret
        exact ⟨rfl, hx1.out⟩
      have t2 : decide ((200 : Int) < la) = false := by simp; omega
      by_cases b3 : n < 1
      · have t3 : decide ((n : Int) < 1) = true := by simp; omega
        go_wp2_with fail
        go_ret
        exact ⟨rfl, hx1.out⟩
      have t3 : decide ((n : Int) < 1) = false := by simp; omega
      have t4 : decide ((64 : Int) < (n : Int)) = true := by have := hb'.out; simp; omega
      go_wp2_with fail
      go_ret
      exact ⟨rfl, hx1.out⟩
    case pos =>
      have hr : R = segsTo ss n := by rw [← hR2, decide_eq_true hb, Bool.true_and]
      have hr' := Lib.hid hr
      clear hr hR2
      obtain ⟨b1, b2, b3, b4⟩ := hb
      have t1 : decide (la < 0) = false := by simp; omega
      have t2 : decide ((200 : Int) < la) = false := by simp; omega
      have t3 : decide ((n : Int) < 1) = false := by simp; omega
      have t4 : decide ((64 : Int) < (n : Int)) = false := by simp; omega
      go_wp2_with fail
      go_loopw [34] (fun v wr => ∃ k : Nat, k ≤ n ∧ v = .int .i64 (k : Nat) ∧ Hid (segsTo ss k = true) ∧ Hid (Below w1.heap.size w1 wr)) (fun v _ => n - (intOf v).toNat)
      case atStart => exact ⟨0, by omega, rfl, Lib.hid rfl, Lib.hid (Below.refl _ _)⟩
      case round =>
        obtain ⟨k, hk, rfl, hs, hbr⟩ := hrel
        have hxr := Lib.hid (hx1.out.trans (hbr.out.mono hx1.out.size))
        by_cases hlt : k < n
        · have i0 : decide ((k : Int) < (n : Int)) = true := by simp; omega
          have i1 : (k : Int) < (n : Int) := by omega
          obtain ⟨b, off, x, rfl, hbl, hxk, hck⟩ := (hI1.out.below hbr.out).at_ hlt
          have hgx : ss[k]?.getD 0 = x := by rw [hxk]; rfl
          have hEx := name_isEmpty [115, 101, 103, 46] (by simp) x
          have hNx := segName_any x
          obtain ⟨X, hX⟩ : ∃ X, strOf (nameOf [115, 101, 103, 46] x) = X := ⟨_, rfl⟩
          rw [hX] at hEx hNx
          have hseg : segsTo ss (k + 1) = (okN x && (decide (k = 0) || decide (ss[k - 1]?.getD 0 < x))) := by rw [segsTo, hs.out, Bool.true_and, seg1, hgx]
          have hseg' := Lib.hid hseg
          have hgx' := Lib.hid hgx
          clear hX hxk hgx hseg
          go_wp2_with fail
          refine (hNx wr (hT.below hxr.out)).mono ?_
          rintro e w2 ⟨rfl, hb2⟩
          have hbr2 := Lib.hid (hbr.out.trans (hb2.mono hbr.out.size))
          have hxr2 := Lib.hid (hx1.out.trans (hbr2.out.mono hx1.out.size))
          have m0 : w2.cell? ⟨w.heap.size, 0, none⟩ = some (.int .i64 g) := by rw [hbr2.out.cell hsz1]; exact k0
          have m1 : w2.cell? ⟨w.heap.size, 1, none⟩ = some (.int .i64 la) := by rw [hbr2.out.cell hsz1]; exact k1
          have m2 : w2.cell? ⟨w.heap.size, 2, none⟩ = some (.slice (some ⟨b, off, none⟩) n c) := by rw [hbr2.out.cell hsz1]; exact k2
          clear hb2 hNx
          cases hox : okN x
          · have hr : R = false := by
              rw [hr'.out]
              refine segsTo_false (k := k + 1) ?_ (by omega)
              rw [hseg'.out, hox, Bool.false_and]
            subst hr
            rw [hox, Bool.not_false] at hEx
            go_wp2_with fail
            go_ret
            exact ⟨rfl, hxr2.out⟩
          · rw [hox, Bool.not_true] at hEx
            by_cases h0 : k = 0
            · subst h0
              go_wp2_with fail
              go_roundw
              case rel => exact ⟨0 + 1, by omega, by go_num, Lib.hid (by rw [hseg'.out, hox]; rfl), hbr2⟩
              case measure => simp [intOf]; omega
            · have j0 : decide ((0 : Int) < (k : Int)) = true := by simp; omega
              obtain ⟨b', off', y, hy1, hbl2, hyk, hcy⟩ := (hI1.out.below hbr2.out).at_ (k := k - 1) (by omega)
              simp only [Option.some.injEq, Addr.mk.injEq, and_true] at hy1
              obtain ⟨rfl, rfl⟩ := hy1
              obtain ⟨q, rfl⟩ : ∃ q, k = q + 1 := ⟨k - 1, by omega⟩
              rw [Nat.add_sub_cancel] at hyk hcy
              have hgy : ss[q]?.getD 0 = y := by rw [hyk]; rfl
              have hseg2 : segsTo ss (q + 1 + 1) = decide (y < x) := by
                rw [hseg'.out, hox, Nat.add_sub_cancel, hgy, decide_eq_false h0]
                rfl
              have hseg2' := Lib.hid hseg2
              clear hyk hgy hseg2
              have q1 : (q : Int) < (n : Int) := by omega
              by_cases hxy : y < x
              · have j1 : decide (x ≤ y) = false := by simp; omega
                go_wp2_with fail
                go_roundw
                case rel => exact ⟨q + 1 + 1, by omega, by go_num, Lib.hid (by rw [hseg2'.out]; simp; exact hxy), hbr2⟩
                case measure => simp [intOf]; omega
              · have j1 : decide (x ≤ y) = true := by simp; omega
                have hr : R = false := by
                  rw [hr'.out]
                  refine segsTo_false (k := q + 1 + 1) ?_ (by omega)
                  rw [hseg2'.out]
                  simp
                  omega
                subst hr
                go_wp2_with fail
                go_ret
                exact ⟨rfl, hxr2.out⟩
        · have i0 : decide ((k : Int) < (n : Int)) = false := by simp; omega
          obtain rfl : k = n := by omega
          have hr : R = true := by rw [hr'.out]; exact hs.out
          subst hr
          go_wp2_with fail
          go_ret
          exact ⟨rfl, hxr.out⟩
end Go.Proofs.YtfdpnjebhllpkaaGreatDoor.Ma
end

section
namespace Go.Proofs.YtfdpnjebhllpkaaGreatDoor.Ma
open Go.RowKit Go.Shelf

theorem Mf.draws {w : World} {b : Nat} {g la : Int} {A : Option Addr} {n c : Nat} (h : Mf w b g la A n c) (p : Nat) : Mf (w.drewN p) b g la A n c := h.below (Joins.below_draws _ _ _)

set_option maxHeartbeats 4000000 in
set_option maxRecDepth 100000 in
/-- The document's May. -/
theorem refMay_any (g la : Int) (A : Option Addr) (n c : Nat) (ss : List Int) (w : World) (hI : Is w A n c ss) :
    Calls Tryz.prog 44 #[.agg #[.int .i64 g, .int .i64 la, .slice A n c]] w fun e w' => e = .returned (.bool (mayM g la ss)) ∧ Below w.heap.size w w' := by
  have hn := hI.len
  have hle := Rd.le hI
  have hm := Rd.max hI
  obtain ⟨R, hR⟩ : ∃ R, mayM g la ss = R := ⟨_, rfl⟩
  have hR2 := hR
  unfold mayM at hR2
  rw [hn, ← Bool.and_assoc] at hR2
  rw [hR]
  clear hR
  have hn' := Lib.hid hn
  clear hn
  obtain ⟨B, hB⟩ : ∃ B, (okN g && decide (0 ≤ la ∧ la ≤ 200 ∧ 1 ≤ n ∧ n ≤ 64)) = B := ⟨_, rfl⟩
  rw [hB] at hR2
  have hR' := Lib.hid hR2
  clear hR2
  have hm0 := mf_new w g la A n c 75
  have hb0 := below_alloc w (.cells #[.int .i64 g, .int .i64 la, .slice A n c] 75)
  go_enter Tryz.func44, Tryz.ntmps44
  obtain ⟨w1, hw1⟩ : ∃ w1, w.alloc (.cells #[.int .i64 g, .int .i64 la, .slice A n c] 75) = w1 := ⟨_, rfl⟩
  have hI1 := Lib.hid (hI.below hb0)
  rw [hw1] at hm0 hb0 hI1
  have hx1 := Lib.hid hb0
  clear hb0 hI
  obtain ⟨k0, k1, k2, hsz1⟩ := hm0
  have hm1 : Hid (Mf w1 w.heap.size g la A n c) := Lib.hid ⟨k0, k1, k2, hsz1⟩
  go_upto_region 1 with fail
  go_cut [3] (fun v wx => v = .bool B ∧ wx = w1)
  case first =>
    go_wp2_with fail
    refine (may7_any g _).mono ?_
    rintro e w2 ⟨rfl, rfl⟩
    cases hok : okN g
    · have hBf : B = false := by rw [← hB, hok, Bool.false_and]
      go_wp2_with fail
      all_goals (go_meet; exact ⟨val_bool hBf.symm, rfl⟩)
    · rw [hok, Bool.true_and] at hB
      have hB' := Lib.hid hB
      clear hB
      go_wp2_with fail
      all_goals go_meet
      all_goals refine ⟨val_bool ?_, rfl⟩
      all_goals rw [← hB'.out, Bool.eq_iff_iff]
      all_goals simp
      all_goals omega
  case rest =>
    obtain ⟨rfl, hwx⟩ := hcut
    rw [hwx]
    clear hwx
    go_wp2_with fail
    clear k0 k1 k2 hw1 hB
    go_loopw [3, 4] (fun o v wr => ∃ k p : Nat, k ≤ n ∧ v = .int .i64 (k : Nat) ∧ o = .bool (B && segsTo ss k) ∧ wr = w1.drewN p) (fun _ v _ => n - (intOf v).toNat)
    case atStart => exact ⟨0, 0, by omega, rfl, by rw [segsTo, Bool.and_true], rfl⟩
    case round =>
      obtain ⟨k, p, hk, rfl, rfl, rfl⟩ := hrel
      have hmr := hm1.out.draws p
      have hIr := hI1.out.below (Joins.below_draws _ w1 p)
      have hxr := Lib.hid (hx1.out.trans ((Joins.below_draws _ w1 p).mono hx1.out.size))
      obtain ⟨wr, hwr⟩ : ∃ wr, w1.drewN p = wr := ⟨_, rfl⟩
      have hdr : ∀ q, wr.drewN q = w1.drewN (p + q) := fun q => by rw [← hwr, World.drewN_drewN]
      rw [hwr] at hmr hIr hxr ⊢
      have hdr' := Lib.hid hdr
      clear hdr hwr
      obtain ⟨k0, k1, k2, hsz⟩ := hmr
      by_cases hlt : k < n
      · have i0 : decide ((k : Int) < (n : Int)) = true := by simp; omega
        have i1 : (k : Int) < (n : Int) := by omega
        obtain ⟨b, off, x, rfl, hbl, hxk, hck⟩ := hIr.at_ hlt
        have hgx : ss[k]?.getD 0 = x := by rw [hxk]; rfl
        have hseg : (B && segsTo ss (k + 1)) = ((B && segsTo ss k) && (okN x && (decide (k = 0) || decide (ss[k - 1]?.getD 0 < x)))) := by rw [segsTo, seg1, hgx, Bool.and_assoc]
        obtain ⟨S, hS⟩ : ∃ S, (B && segsTo ss k) = S := ⟨_, rfl⟩
        rw [hS] at hseg ⊢
        have hseg' := Lib.hid hseg
        have hgx' := Lib.hid hgx
        clear hxk hgx hseg hS
        cases S
        · go_wp2_with fail
          go_quiet ((go_at_call 22; exact Calls.quiet_of_same (may7_any _ _)))
          go_wp2_with fail
          go_roundw
          case rel => exact ⟨k + 1, _, by omega, by go_num, val_bool (by rw [hseg'.out]; rfl), hdr'.out _⟩
          case measure => simp [intOf]; omega
        · by_cases h0 : k = 0
          · subst h0
            rw [Nat.add_zero] at hck
            cases hox : okN x
            · have hm7 : ∀ w, Calls Tryz.prog 22 #[.int .i64 x] w fun e w' => e = .returned (.bool false) ∧ w' = w := fun w => by
                have := may7_any x w
                rw [hox] at this
                exact this
              go_wp2_with fail
              go_quiet ((go_at_call 22; exact Calls.quiet_of_same (hm7 _)))
              go_wp2_with fail
              go_roundw
              case rel => exact ⟨0 + 1, _, by omega, by go_num, val_bool (by rw [hseg'.out, hox]; rfl), hdr'.out _⟩
              case measure => simp [intOf]; omega
            · have hm7 : ∀ w, Calls Tryz.prog 22 #[.int .i64 x] w fun e w' => e = .returned (.bool true) ∧ w' = w := fun w => by
                have := may7_any x w
                rw [hox] at this
                exact this
              go_wp2_with fail
              go_quiet ((go_at_call 22; exact Calls.quiet_of_same (hm7 _)))
              go_wp2_with fail
              go_roundw
              case rel => exact ⟨0 + 1, _, by omega, by go_num, val_bool (by rw [hseg'.out, hox]; rfl), hdr'.out _⟩
              case measure => simp [intOf]; omega
          · obtain ⟨q, rfl⟩ : ∃ q, k = q + 1 := ⟨k - 1, by omega⟩
            obtain ⟨b', off', y, hy1, hbl2, hyk, hcy⟩ := hIr.at_ (k := q) (by omega)
            simp only [Option.some.injEq, Addr.mk.injEq, and_true] at hy1
            obtain ⟨rfl, rfl⟩ := hy1
            have hgy : ss[q]?.getD 0 = y := by rw [hyk]; rfl
            have hseg2 : (B && segsTo ss (q + 1 + 1)) = (okN x && decide (y < x)) := by
              rw [hseg'.out, Nat.add_sub_cancel, hgy, decide_eq_false h0]
              rfl
            have hseg2' := Lib.hid hseg2
            clear hyk hgy hseg2
            have q1 : (q : Int) < (n : Int) := by omega
            have q2 : ((q : Int) + 1 == 0) = false := by rw [beq_eq_false_iff_ne]; omega
            have q3 : decide ((q : Int) + 1 = 0) = false := by simp; omega
            cases hox : okN x
            · have hm7 : ∀ w, Calls Tryz.prog 22 #[.int .i64 x] w fun e w' => e = .returned (.bool false) ∧ w' = w := fun w => by
                have := may7_any x w
                rw [hox] at this
                exact this
              go_wp2_with fail
              go_quiet ((go_at_call 22; exact Calls.quiet_of_same (hm7 _)))
              go_wp2_with fail
              go_roundw
              case rel => exact ⟨q + 1 + 1, _, by omega, by go_num, val_bool (by rw [hseg2'.out, hox]; rfl), hdr'.out _⟩
              case measure => simp [intOf]; omega
            · have hm7 : ∀ w, Calls Tryz.prog 22 #[.int .i64 x] w fun e w' => e = .returned (.bool true) ∧ w' = w := fun w => by
                have := may7_any x w
                rw [hox] at this
                exact this
              obtain ⟨Y, hY⟩ : ∃ Y, decide (y < x) = Y := ⟨_, rfl⟩
              go_wp2_with fail
              go_quiet ((go_at_call 22; exact Calls.quiet_of_same (hm7 _)))
              go_wp2_with fail
              go_roundw
              case rel => exact ⟨q + 1 + 1, _, by omega, by go_num, val_bool (by rw [hseg2'.out, hox, Bool.true_and, hY]), hdr'.out _⟩
              case measure => simp [intOf]; omega
      · have i0 : decide ((k : Int) < (n : Int)) = false := by simp; omega
        obtain rfl : k = n := by omega
        have hr := hR'.out
        go_wp2_with fail
        go_ret
        exact ⟨ret_bool hr, hxr.out⟩
end Go.Proofs.YtfdpnjebhllpkaaGreatDoor.Ma
end
