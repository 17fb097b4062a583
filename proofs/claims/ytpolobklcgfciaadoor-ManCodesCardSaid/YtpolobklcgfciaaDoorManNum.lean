/- The document's numbers in names. -/
import Derived.Test.YtpolobklcgfciaaDoorManNames
namespace Go.Proofs.YtpolobklcgfciaaDoor.Ma
open Go.RowKit Go.Shelf

theorem digitsK_split : ∀ (i k n : Nat), Nu.digitsK (i + k) n = Nu.digitsK k (n / 10 ^ i) ++ Nu.digitsK i n := by
  intro i
  induction i with
  | zero => intro k n; simp [Nu.digitsK]
  | succ i ih =>
    intro k n
    rw [show i + 1 + k = (i + k) + 1 by omega, Nu.digitsK, Nu.digitsK, ih k (n / 10), List.append_assoc, Nat.div_div_eq_div_mul, Nat.pow_succ, Nat.mul_comm (10 ^ i)]

set_option maxHeartbeats 1000000 in
set_option maxRecDepth 100000 in
/-- Eight. -/
theorem eight_any (n : Nat) (hn : n ≤ 99999999) (w : World) :
    Calls Tryd.prog 33 #[.int .i64 n] w fun e w' => e = .returned (.string (strOf (Nu.eight n))) ∧ Below w.heap.size w w' := by
  obtain ⟨R, hR⟩ : ∃ R, strOf (Nu.eight n) = R := ⟨_, rfl⟩
  rw [hR]
  have hR' := Lib.hid hR
  clear hR
  go_enter Tryd.func33, Tryd.ntmps33
  go_wp2_with fail
  go_loopw [0, 3, 4] (fun a s v wr => ∃ (i m : Nat) (t : ByteArray), i ≤ 8 ∧ m ≤ 99999999 ∧ a = .int .i64 (m : Nat) ∧ s = .string t ∧ v = .int .i64 (i : Nat) ∧ t.size = i ∧ Hid (t = strOf (Nu.digitsK i n)) ∧ Hid (m = n / 10 ^ i) ∧ Hid (Below w.heap.size w wr)) (fun _ _ v _ => 9 - (intOf v).toNat)
  case atStart => exact ⟨0, n, ⟨#[]⟩, by omega, hn, rfl, rfl, rfl, rfl, Lib.hid rfl, Lib.hid (by simp), Lib.hid (Below.refl _ _)⟩
  case round =>
    obtain ⟨i, m, t, hi, hm, rfl, rfl, rfl, hts, ht, hmi, hb⟩ := hrel
    by_cases hlt : i < 8
    · have i0 : decide ((i : Int) < 8) = true := by simp; omega
      have t1 : ((m : Int)).tmod 10 = (m : Int) % 10 := Int.tmod_eq_emod_of_nonneg (by omega)
      have t2 : (48 + (m : Int) % 10) % 256 = 48 + (m : Int) % 10 := by omega
      obtain ⟨d, hd⟩ : ∃ d : UInt8, d = UInt8.ofNat (48 + m % 10) := ⟨_, rfl⟩
      have hdn : (d.toNat : Int) = 48 + (m : Int) % 10 := by
        rw [hd, UInt8.toNat_ofNat']
        omega
      have hcv := Bs.conv (bs_lit wr #[.int .u8 (48 + (m : Int) % 10)] 5 (0, 0) [d] 1 rfl (by omega) (by
        show [Value.int .u8 (48 + (m : Int) % 10)] = bv [d]
        rw [← hdn]
        rfl)) (P := Tryd.prog) (src := 27) (dst := 9) (e := 5) Tryd.underlying27 Tryd.underlying5 Tryd.underlying9
      have hadd := fun w => run_string_add_sum (P := Tryd.prog) w (strOf [d]) t (by rw [strOf_size', hts]; simp; omega)
      obtain ⟨u, hu⟩ : ∃ u, strOf [d] ++ t = u := ⟨_, rfl⟩
      have hus : u.size = i + 1 := by rw [← hu, ByteArray.size_append, strOf_size', hts]; simp; omega
      have hu2 : Hid (u = strOf (Nu.digitsK (i + 1) n)) := Lib.hid (by
        rw [← hu, ht.out, strOf_add, digitsK_split i 1 n, ← hmi.out, hd]
        rfl)
      have hm2 : Hid (m / 10 = n / 10 ^ (i + 1)) := Lib.hid (by rw [hmi.out, Nat.div_div_eq_div_mul, Nat.pow_succ])
      rw [hu] at hadd
      have hdn' := Lib.hid hdn
      clear hu hd hdn
      have hb2 := Lib.hid (hb.out.trans ((below_alloc wr (.cells #[.int .u8 (48 + (m : Int) % 10)] 5)).mono hb.out.size))
      go_wp2_with fail
      go_roundw
      case rel => exact ⟨i + 1, m / 10, u, by omega, by omega, val_int (by omega), rfl, by go_num, hus, hu2, hm2, hb2⟩
      case measure => simp [intOf]; omega
    · have i0 : decide ((i : Int) < 8) = false := by simp; omega
      obtain rfl : i = 8 := by omega
      have hfin : R = t := by rw [← hR'.out, ht.out]; rfl
      subst hfin
      go_wp2_with fail
      go_ret
      exact ⟨rfl, hb.out⟩
end Go.Proofs.YtpolobklcgfciaaDoor.Ma
