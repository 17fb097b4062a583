/- Generations told of names: the plain law. -/
import Derived.Test.YtfdpnjebhllpkaaGreatDoorMItoaS
import Derived.Shelf.Strings.Repeat
import Derived.Lib.Hide
import Derived.Lib.AtoiTie
import Derived.Lib.AtoiAllCases
section
namespace Go.Proofs
open Go.Shelf Go.RowKit

shelf_lay Lays.n105 Nm 105 at Tryz as Tryz.lays105

theorem Tryz.extra105 : Builder.Extra Tryz.prog Tryz.lays105_ren where
  sizeBuilder := by kernel_rfl
  liesBuilder := by kernel_rfl
  t5 := Tryz.underlying5
  a5 := Tryz.lays105.a5
  z5 := Tryz.lays105.z5
  v5 := Tryz.lays105.v5
  infoByte := by kernel_rfl
  cellsByte := by kernel_rfl
  sizeByte := by kernel_rfl
  neB5 := by decide

end Go.Proofs
namespace Go.Proofs.YtfdpnjebhllpkaaGreatDoor.Ma
open Go.RowKit Go.Shelf

/-- Whether a number may be. -/
def okN (n : Int) : Bool := decide (1 ≤ n ∧ n ≤ 99999999)

/-- A number's name behind a beginning of four bytes; none of a number that may not be. -/
def nameOf (p : List UInt8) (n : Int) : List UInt8 := if okN n = true then p ++ Nu.eight n.toNat else []

/-- Eight zeros. -/
def zeros : ByteArray := strOf (List.replicate 8 48)

theorem repeat_any (w : World) :
    Calls Tryz.prog 64 #[.string ⟨#[48]⟩, .int .i64 8] w fun e w' => e = .returned (.string zeros) ∧ Below w.heap.size w w' :=
  Any.strings_Repeat_main Tryz.lays105 Tryz.extra105 ⟨#[48]⟩ 8 w (by omega) (by omega) (by decide) (by decide)

theorem may7_any (n : Int) (w : World) :
    Calls Tryz.prog 22 #[.int .i64 n] w fun e w' => e = .returned (.bool (okN n)) ∧ w' = w := by
  unfold okN
  go_enter Tryz.func22, Tryz.ntmps22
  go_wp2
  all_goals go_ret
  all_goals refine ⟨ret_bool ?_, rfl⟩
  all_goals rw [Bool.eq_iff_iff]
  all_goals simp
  all_goals omega

theorem segmay_any (n : Int) (w : World) :
    Calls Tryz.prog 58 #[.int .i64 n] w fun e w' => e = .returned (.bool (okN n)) ∧ w' = w := by
  unfold okN
  go_enter Tryz.func58, Tryz.ntmps58
  go_wp2
  all_goals go_ret
  all_goals refine ⟨ret_bool ?_, rfl⟩
  all_goals rw [Bool.eq_iff_iff]
  all_goals simp
  all_goals omega

theorem okN_nat {n : Int} (h : okN n = true) : ∃ k : Nat, n = k ∧ 1 ≤ k ∧ k ≤ 99999999 := by
  unfold okN at h
  rw [decide_eq_true_eq] at h
  exact ⟨n.toNat, by omega, by omega, by omega⟩

set_option maxHeartbeats 1000000 in
set_option maxRecDepth 100000 in
/-- man.Name. -/
theorem manName_any (n : Int) (w : World) (hT : Nu.Tens w) :
    Calls Tryz.prog 87 #[.int .i64 n] w fun e w' => e = .returned (.string (strOf (nameOf [109, 97, 110, 46] n))) ∧ Below w.heap.size w w' := by
  cases hok : okN n
  · have hno : nameOf [109, 97, 110, 46] n = [] := by unfold nameOf; rw [hok, if_neg (by simp)]
    rw [hno]
    clear hno
    unfold okN at hok
    rw [decide_eq_false_iff_not] at hok
    have hok' := Lib.hid hok
    clear hok
    by_cases h1 : n < 1
    · have i1 : decide (n < 1) = true := by simp; omega
      go_enter Tryz.func87, Tryz.ntmps87
      go_wp2_with fail
      go_ret
      exact ⟨rfl, Below.refl _ _⟩
    · have i1 : decide (n < 1) = false := by simp; omega
      have i2 : decide ((99999999 : Int) < n) = true := by have := hok'.out; simp; omega
      go_enter Tryz.func87, Tryz.ntmps87
      go_wp2_with fail
      go_ret
      exact ⟨rfl, Below.refl _ _⟩
  · obtain ⟨k, rfl, h1, h2⟩ := okN_nat hok
    have i1 : decide ((k : Int) < 1) = false := by simp; omega
    have i2 : decide ((99999999 : Int) < (k : Int)) = false := by simp; omega
    have hyes : strOf (nameOf [109, 97, 110, 46] k) = ⟨#[109, 97, 110, 46]⟩ ++ strOf (Nu.eight k) := by
      unfold nameOf
      rw [hok, if_pos rfl, ← strOf_add]
      rfl
    have hpad := Nu.eight_pad h1 h2
    obtain ⟨hlen, _⟩ := Nu.pad_digits 8 k h1 (by omega)
    have hit := Nu.strconv_Itoa k (by omega) (by omega)
    rw [Nu.itoa_nat] at hit
    obtain ⟨D, hD⟩ : ∃ D, Lib.decDigits k = D := ⟨_, rfl⟩
    rw [hD] at hpad hlen hit
    have a1 := fun w => run_string_add_sum (P := Tryz.prog) w zeros (strOf D) (by rw [strOf_size', show zeros.size = 8 from rfl]; omega)
    have hza : zeros ++ strOf D = strOf (List.replicate 8 48 ++ D) := strOf_add _ _
    rw [hza] at a1
    obtain ⟨T, hT'⟩ : ∃ T, strOf (List.replicate 8 48 ++ D) = T := ⟨_, rfl⟩
    rw [hT'] at a1
    have hTs : T.size = 8 + D.length := by rw [← hT', strOf_size', List.length_append, List.length_replicate]
    have hcut : Hid ((⟨#[109, 97, 110, 46]⟩ : ByteArray) ++ T.extract D.length (8 + D.length) = strOf (nameOf [109, 97, 110, 46] k)) := by
      refine Lib.hid ?_
      rw [← hT', strOf_cut, hpad, List.take_of_length_le (by rw [Nu.eight_len]; omega), hyes]
    have a2 := fun w => run_string_add_sum (P := Tryz.prog) w ⟨#[109, 97, 110, 46]⟩ (T.extract D.length (8 + D.length)) (by rw [ByteArray.size_extract, hTs, show (⟨#[109, 97, 110, 46]⟩ : ByteArray).size = 4 from rfl]; omega)
    have e8 : 8 + D.length - 8 = D.length := by omega
    obtain ⟨R, hR⟩ : ∃ R, strOf (nameOf [109, 97, 110, 46] k) = R := ⟨_, rfl⟩
    rw [hR] at hcut ⊢
    clear hza hyes hpad hR hT' hD hok
    have z8 : 8 ≤ T.size := by omega
    have z16 : T.size ≤ 16 := by omega
    go_enter Tryz.func87, Tryz.ntmps87
    go_wp2_with fail
    refine (repeat_any w).mono ?_
    rintro e w1 ⟨rfl, hb1⟩
    have hx1 := Lib.hid hb1
    clear hb1
    go_wp2_with fail
    refine (hit w1 (hT.below hx1.out)).mono ?_
    rintro e w2 ⟨rfl, hb2⟩
    have hx2 := Lib.hid (hx1.out.trans (hb2.mono hx1.out.size))
    clear hb2
    go_wp2_with fail
    go_ret
    exact ⟨congrArg (fun s => Ending.returned (.string s)) hcut.out, hx2.out⟩
set_option maxHeartbeats 1000000 in
set_option maxRecDepth 100000 in
/-- seg.Name. -/
theorem segName_any (n : Int) (w : World) (hT : Nu.Tens w) :
    Calls Tryz.prog 17 #[.int .i64 n] w fun e w' => e = .returned (.string (strOf (nameOf [115, 101, 103, 46] n))) ∧ Below w.heap.size w w' := by
  cases hok : okN n
  · have hno : nameOf [115, 101, 103, 46] n = [] := by unfold nameOf; rw [hok, if_neg (by simp)]
    rw [hno]
    clear hno
    go_enter Tryz.func17, Tryz.ntmps17
    go_wp2_with fail
    refine (segmay_any n w).mono ?_
    rintro e w1 ⟨rfl, rfl⟩
    rw [hok]
    go_wp2_with fail
    go_ret
    exact ⟨rfl, Below.refl _ _⟩
  · obtain ⟨k, rfl, h1, h2⟩ := okN_nat hok
    have i1 : decide ((k : Int) < 1) = false := by simp; omega
    have i2 : decide ((99999999 : Int) < (k : Int)) = false := by simp; omega
    have hyes : strOf (nameOf [115, 101, 103, 46] k) = ⟨#[115, 101, 103, 46]⟩ ++ strOf (Nu.eight k) := by
      unfold nameOf
      rw [hok, if_pos rfl, ← strOf_add]
      rfl
    have hpad := Nu.eight_pad h1 h2
    obtain ⟨hlen, _⟩ := Nu.pad_digits 8 k h1 (by omega)
    have hit := Nu.strconv_Itoa k (by omega) (by omega)
    rw [Nu.itoa_nat] at hit
    obtain ⟨D, hD⟩ : ∃ D, Lib.decDigits k = D := ⟨_, rfl⟩
    rw [hD] at hpad hlen hit
    have a1 := fun w => run_string_add_sum (P := Tryz.prog) w zeros (strOf D) (by rw [strOf_size', show zeros.size = 8 from rfl]; omega)
    have hza : zeros ++ strOf D = strOf (List.replicate 8 48 ++ D) := strOf_add _ _
    rw [hza] at a1
    obtain ⟨T, hT'⟩ : ∃ T, strOf (List.replicate 8 48 ++ D) = T := ⟨_, rfl⟩
    rw [hT'] at a1
    have hTs : T.size = 8 + D.length := by rw [← hT', strOf_size', List.length_append, List.length_replicate]
    have hcut : Hid ((⟨#[115, 101, 103, 46]⟩ : ByteArray) ++ T.extract D.length (8 + D.length) = strOf (nameOf [115, 101, 103, 46] k)) := by
      refine Lib.hid ?_
      rw [← hT', strOf_cut, hpad, List.take_of_length_le (by rw [Nu.eight_len]; omega), hyes]
    have a2 := fun w => run_string_add_sum (P := Tryz.prog) w ⟨#[115, 101, 103, 46]⟩ (T.extract D.length (8 + D.length)) (by rw [ByteArray.size_extract, hTs, show (⟨#[115, 101, 103, 46]⟩ : ByteArray).size = 4 from rfl]; omega)
    have e8 : 8 + D.length - 8 = D.length := by omega
    obtain ⟨R, hR⟩ : ∃ R, strOf (nameOf [115, 101, 103, 46] k) = R := ⟨_, rfl⟩
    rw [hR] at hcut ⊢
    clear hza hyes hpad hR hT' hD
    have z8 : 8 ≤ T.size := by omega
    have z16 : T.size ≤ 16 := by omega
    go_enter Tryz.func17, Tryz.ntmps17
    go_wp2_with fail
    refine (segmay_any k w).mono ?_
    rintro e w0 ⟨rfl, rfl⟩
    rw [hok]
    go_wp2_with fail
    refine (repeat_any w0).mono ?_
    rintro e w1 ⟨rfl, hb1⟩
    have hx1 := Lib.hid hb1
    clear hb1
    go_wp2_with fail
    refine (hit w1 (hT.below hx1.out)).mono ?_
    rintro e w2 ⟨rfl, hb2⟩
    have hx2 := Lib.hid (hx1.out.trans (hb2.mono hx1.out.size))
    clear hb2
    go_wp2_with fail
    go_ret
    exact ⟨congrArg (fun s => Ending.returned (.string s)) hcut.out, hx2.out⟩
end Go.Proofs.YtfdpnjebhllpkaaGreatDoor.Ma
end

section
namespace Go.Proofs.YtfdpnjebhllpkaaGreatDoor.Ma
open Go.RowKit Go.Shelf

theorem digitsK_split : ∀ (i k n : Nat), Nu.digitsK (i + k) n = Nu.digitsK k (n / 10 ^ i) ++ Nu.digitsK i n := by
  intro i
  induction i with
  | zero => intro k n; simp [Nu.digitsK]
  | succ i ih =>
    intro k n
    rw [show i + 1 + k = (i + k) + 1 by omega, Nu.digitsK, Nu.digitsK, ih k (n / 10), List.append_assoc, Nat.div_div_eq_div_mul, Nat.pow_succ, Nat.mul_comm (10 ^ i)]

set_option maxHeartbeats 1000000 in
set_option maxRecDepth 100000 in
/-- Eight. -/
theorem eight_any (n : Nat) (hn : n ≤ 99999999) (w : World) :
    Calls Tryz.prog 66 #[.int .i64 n] w fun e w' => e = .returned (.string (strOf (Nu.eight n))) ∧ Below w.heap.size w w' := by
  obtain ⟨R, hR⟩ : ∃ R, strOf (Nu.eight n) = R := ⟨_, rfl⟩
  rw [hR]
  have hR' := Lib.hid hR
  clear hR
  go_enter Tryz.func66, Tryz.ntmps66
  go_wp2_with fail
  go_loopw [0, 3, 4] (fun a s v wr => ∃ (i m : Nat) (t : ByteArray), i ≤ 8 ∧ m ≤ 99999999 ∧ a = .int .i64 (m : Nat) ∧ s = .string t ∧ v = .int .i64 (i : Nat) ∧ t.size = i ∧ Hid (t = strOf (Nu.digitsK i n)) ∧ Hid (m = n / 10 ^ i) ∧ Hid (Below w.heap.size w wr)) (fun _ _ v _ => 9 - (intOf v).toNat)
  case atStart => exact ⟨0, n, ⟨#[]⟩, by omega, hn, rfl, rfl, rfl, rfl, Lib.hid rfl, Lib.hid (by simp), Lib.hid (Below.refl _ _)⟩
  case round =>
    obtain ⟨i, m, t, hi, hm, rfl, rfl, rfl, hts, ht, hmi, hb⟩ := hrel
    by_cases hlt : i < 8
    · have i0 : decide ((i : Int) < 8) = true := by simp; omega
      have t1 : ((m : Int)).tmod 10 = (m : Int) % 10 := Int.tmod_eq_emod_of_nonneg (by omega)
      have t2 : (48 + (m : Int) % 10) % 256 = 48 + (m : Int) % 10 := by omega
      obtain ⟨d, hd⟩ : ∃ d : UInt8, d = UInt8.ofNat (48 + m % 10) := ⟨_, rfl⟩
      have hdn : (d.toNat : Int) = 48 + (m : Int) % 10 := by
        rw [hd, UInt8.toNat_ofNat']
        omega
      have hcv := Bs.conv (bs_lit wr #[.int .u8 (48 + (m : Int) % 10)] 5 (0, 0) [d] 1 rfl (by omega) (by
        show [Value.int .u8 (48 + (m : Int) % 10)] = bv [d]
        rw [← hdn]
        rfl)) (P := Tryz.prog) (src := 22) (dst := 9) (e := 5) Tryz.underlying22 Tryz.underlying5 Tryz.underlying9
      have hadd := fun w => run_string_add_sum (P := Tryz.prog) w (strOf [d]) t (by rw [strOf_size', hts]; simp; omega)
      obtain ⟨u, hu⟩ : ∃ u, strOf [d] ++ t = u := ⟨_, rfl⟩
      have hus : u.size = i + 1 := by rw [← hu, ByteArray.size_append, strOf_size', hts]; simp; omega
      have hu2 : Hid (u = strOf (Nu.digitsK (i + 1) n)) := Lib.hid (by
        rw [← hu, ht.out, strOf_add, digitsK_split i 1 n, ← hmi.out, hd]
        rfl)
      have hm2 : Hid (m / 10 = n / 10 ^ (i + 1)) := Lib.hid (by rw [hmi.out, Nat.div_div_eq_div_mul, Nat.pow_succ])
      rw [hu] at hadd
      have hdn' := Lib.hid hdn
      clear hu hd hdn
      have hb2 := Lib.hid (hb.out.trans ((below_alloc wr (.cells #[.int .u8 (48 + (m : Int) % 10)] 5)).mono hb.out.size))
      go_wp2_with fail
      go_roundw
      case rel => exact ⟨i + 1, m / 10, u, by omega, by omega, val_int (by omega), rfl, by go_num, hus, hu2, hm2, hb2⟩
      case measure => simp [intOf]; omega
    · have i0 : decide ((i : Int) < 8) = false := by simp; omega
      obtain rfl : i = 8 := by omega
      have hfin : R = t := by rw [← hR'.out, ht.out]; rfl
      subst hfin
      go_wp2_with fail
      go_ret
      exact ⟨rfl, hb.out⟩
end Go.Proofs.YtfdpnjebhllpkaaGreatDoor.Ma
end

section
namespace Go.Proofs.YtfdpnjebhllpkaaGreatDoor.Ma
open Go.RowKit Go.Shelf Go.Lib

theorem decFrom_append (a b : List UInt8) : ∀ acc, decFrom acc (a ++ b) = (decFrom acc a).bind fun m => decFrom m b := by
  induction a with
  | nil => intro acc; rfl
  | cons x r ih =>
    intro acc
    rw [List.cons_append, decFrom, decFrom]
    cases digitVal x with
    | none => rfl
    | some d => exact ih _

theorem digit_nat (d : Nat) (h : d < 10) : digitVal (UInt8.ofNat (48 + d)) = some d := by
  unfold digitVal
  rw [UInt8.toNat_ofNat', Nat.mod_eq_of_lt (by omega), if_pos (by omega)]
  congr 1
  omega

theorem decFrom_one (acc : Nat) (b : UInt8) (d : Nat) (h : digitVal b = some d) : decFrom acc [b] = some (acc * 10 + d) := by simp [decFrom, h]

theorem dec_digits : ∀ (k n acc : Nat), n < 10 ^ k → decFrom acc (Nu.digitsK k n) = some (acc * 10 ^ k + n) := by
  intro k
  induction k with
  | zero => intro n acc h; simp at h; subst h; simp [Nu.digitsK, decFrom]
  | succ k ih =>
    intro n acc h
    rw [Nat.pow_succ] at h
    rw [Nu.digitsK, decFrom_append, ih (n / 10) acc (by omega)]
    show decFrom (acc * 10 ^ k + n / 10) [UInt8.ofNat (48 + n % 10)] = _
    rw [decFrom_one _ _ _ (digit_nat _ (by omega)), Nat.pow_succ]
    congr 1
    have : acc * (10 ^ k * 10) = acc * 10 ^ k * 10 := by rw [Nat.mul_assoc]
    omega

theorem digits_dec : ∀ (k v : Nat) (l : List UInt8), l.length = k → decFrom 0 l = some v → l = Nu.digitsK k v := by
  intro k
  induction k with
  | zero => intro v l hl _; exact List.eq_nil_of_length_eq_zero hl
  | succ k ih =>
    intro v l hl h
    have hne : l ≠ [] := by intro e; rw [e] at hl; simp at hl
    obtain ⟨l', b, rfl⟩ : ∃ l' b, l = l' ++ [b] := ⟨l.dropLast, l.getLast hne, (List.dropLast_concat_getLast hne).symm⟩
    rw [decFrom_append] at h
    cases h1 : decFrom 0 l' with
    | none => rw [h1] at h; cases h
    | some m =>
      rw [h1] at h
      change decFrom m [b] = some v at h
      cases h2 : digitVal b with
      | none => simp [decFrom, h2] at h
      | some d =>
        rw [decFrom_one _ _ _ h2, Option.some.injEq] at h
        obtain ⟨d1, d2, d3⟩ := digitVal_eq h2
        have e1 := ih m l' (by simpa using hl) h1
        rw [Nu.digitsK, show v / 10 = m by omega, ← e1]
        congr 2
        apply UInt8.toNat_inj.1
        rw [UInt8.toNat_ofNat']
        omega

def man4 : List UInt8 := [109, 97, 110, 46]

/-- What the code tells of a name. -/
def genC (l : List UInt8) : Int × Bool :=
  match atoiAll (l.drop 4) with
  | .ok n => if l.take 4 = man4 ∧ okN n = true ∧ nameOf man4 n = l then (n, true) else (0, false)
  | _ => (0, false)

/-- What the document tells of a name. -/
def genR (l : List UInt8) : Int × Bool :=
  if l.length = 12 ∧ l.take 4 = man4 then
    match decFrom 0 (l.drop 4) with
    | some v => ((v : Int), decide (0 < v))
    | none => (0, false)
  else (0, false)

theorem genR_of_name {n : Int} (h : okN n = true) : genR (nameOf man4 n) = (n, true) := by
  obtain ⟨k, rfl, h1, h2⟩ := okN_nat h
  have e : nameOf man4 k = man4 ++ Nu.eight k := by unfold nameOf; rw [h, if_pos rfl]; rfl
  have hl := Nu.eight_len k
  have hd : (man4 ++ Nu.eight k).drop 4 = Nu.eight k := rfl
  unfold genR
  rw [e, if_pos ⟨by rw [List.length_append, hl]; rfl, rfl⟩, hd, Nu.eight, dec_digits 8 k 0 (by omega)]
  simp
  omega

theorem atoi_eight {v : Nat} (h2 : v ≤ 99999999) : atoiAll (Nu.eight v) = .ok (v : Int) := by
  have hl := Nu.eight_len v
  have hd : decFrom 0 (Nu.eight v) = some v := by
    have := dec_digits 8 v 0 (by omega)
    unfold Nu.eight
    simpa using this
  rw [atoiAll_short _ (by omega)]
  obtain ⟨b, r, e⟩ : ∃ b r, Nu.eight v = b :: r := by
    cases h : Nu.eight v with
    | nil => rw [h] at hl; simp at hl
    | cons b r => exact ⟨b, r, rfl⟩
  obtain ⟨d, hdv⟩ := digit_of_decFrom (Nu.eight v) 0 v hd 0 b (by rw [e]; rfl)
  obtain ⟨d1, d2, _⟩ := digitVal_eq hdv
  have n45 : (b == 45) = false := by rw [beq_eq_false_iff_ne]; intro h; rw [h] at d1; simp at d1
  have n43 : (b == 43) = false := by rw [beq_eq_false_iff_ne]; intro h; rw [h] at d1; simp at d1
  rw [e] at hd ⊢
  simp only [atoi, n45, n43, Bool.false_eq_true, if_false, decNat, List.isEmpty_cons, hd]
  rfl

/-- THE LAW OF Generation. -/
theorem gen_eq (l : List UInt8) : genC l = genR l := by
  have back : ∀ n, okN n = true → nameOf man4 n = l → genR l = (n, true) := fun n h1 h2 => by rw [← h2]; exact genR_of_name h1
  by_cases hr : (genR l).2 = true
  · -- the document tells a number
    have hr2 := hr
    unfold genR at hr2
    split at hr2
    · rename_i h
      cases hd : decFrom 0 (l.drop 4) with
      | none => rw [hd] at hr2; cases hr2
      | some v =>
        rw [hd] at hr2
        simp only [decide_eq_true_eq] at hr2
        have hl8 : (l.drop 4).length = 8 := by rw [List.length_drop]; omega
        have hdig := digits_dec 8 v (l.drop 4) hl8 hd
        have hv := decFrom_lt (l.drop 4) 0 v hd
        rw [hl8] at hv
        have hv2 : v ≤ 99999999 := by simp at hv; omega
        have hok : okN (v : Int) = true := by unfold okN; rw [decide_eq_true_eq]; omega
        have hname : nameOf man4 (v : Int) = l := by
          unfold nameOf
          rw [hok, if_pos rfl, Int.toNat_natCast, ← h.2, show Nu.eight v = l.drop 4 from hdig.symm, List.take_append_drop]
        rw [back v hok hname]
        unfold genC
        rw [show l.drop 4 = Nu.eight v from hdig, atoi_eight hv2]
        simp only
        rw [if_pos ⟨h.2, hok, hname⟩]
    · cases hr2
  · have hz : genR l = (0, false) := by
      unfold genR at hr ⊢
      split
      · rename_i h
        rw [if_pos h] at hr
        cases hd : decFrom 0 (l.drop 4) with
        | none => rfl
        | some v =>
          rw [hd] at hr
          simp only [decide_eq_true_eq] at hr
          obtain rfl : v = 0 := by omega
          rfl
      · rfl
    rw [hz]
    unfold genC
    generalize ha : atoiAll (l.drop 4) = R
    rcases R with n | _ | _
    case ok =>
      simp only
      rw [if_neg]
      rintro ⟨_, h2, h3⟩
      rw [back n h2 h3] at hz
      cases hz
    all_goals rfl
end Go.Proofs.YtfdpnjebhllpkaaGreatDoor.Ma
end
