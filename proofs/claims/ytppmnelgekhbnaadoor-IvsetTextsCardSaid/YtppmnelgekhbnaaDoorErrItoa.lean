/- Numbers as texts: strconv.Itoa by the library's contract, the document's Itoa by its walk. -/
import Derived.Shelf.Strconv.Itoa3
import Derived.Shelf.Lay
import Derived.Ground.NamesProg
import Derived.Test.YtppmnelgekhbnaaDoorProg
import Derived.Test.YtppmnelgekhbnaaDoorWords
import Derived.WalkKit
import Derived.Below
import Derived.Lib.AppendIntMem
import Derived.Lib.SmallJoins
import Derived.Lib.ItoaLen
import Derived.Laws.Concat
import Derived.Deep.DeepCutAuto
namespace Go.Proofs
open Go.Shelf Go.RowKit

shelf_lay LaysM.n171 Nm 171 at Tryd as Tryd.lays171

end Go.Proofs
namespace Go.Proofs.YtppmnelgekhbnaaDoor.Er
open Go.RowKit Go.Shelf

/-- A number's text. -/
def itx (n : Int) : ByteArray := strOf (Lib.itoa n)

theorem strconv_Itoa (n : Int) (h0 : -9223372036854775808 ≤ n) (h1 : n ≤ 9223372036854775807) (w : World) (htab : Lib.TabIs Tryd.prog w "internal/strconv.uint64pow10" .u64 Lib.pow10Tab) :
    Calls Tryd.prog 31 #[.int .i64 n] w fun e w' => e = .returned (.string (itx n)) ∧ Below w.heap.size w w' := by
  refine (Any.strconv_Itoa Tryd.lays171 n h0 h1 w htab).mono ?_
  rintro e w' ⟨rfl, k, os, rfl⟩
  exact ⟨rfl, Lib.below_grow _ _ (Nat.le_refl _) _ _⟩

/-- The digits of a number, behind which those of v still come. -/
def dgs (v : Nat) (l : List UInt8) : List UInt8 := if v = 0 then l else Lib.decDigits v ++ l

theorem dgs_step (v : Nat) (l : List UInt8) (h : v ≠ 0) : dgs v l = dgs (v / 10) (UInt8.ofNat (48 + v % 10) :: l) := by
  unfold dgs
  rw [if_neg h, Lib.decDigits]
  split
  · rename_i h1
    rw [if_pos (by omega), Nat.mod_eq_of_lt h1]
    rfl
  · rename_i h1
    rw [if_neg (by omega), List.append_assoc]
    rfl

theorem strOf_size (l : List UInt8) : (strOf l).size = l.length := by simp [strOf, ByteArray.size]

theorem one_add (x : UInt8) (l : List UInt8) : strOf [x] ++ strOf l = strOf (x :: l) := by
  unfold strOf
  apply ByteArray.ext
  simp [ByteArray.data_append]

theorem dgs_len (v : Nat) (l : List UInt8) : l.length ≤ (dgs v l).length := by
  unfold dgs
  split <;> simp

theorem dec_len (v : Nat) (h : v ≤ 9223372036854775808) : (Lib.decDigits v).length ≤ 21 := by
  rcases Nat.eq_zero_or_pos v with rfl | hv
  · have := Lib.itoa_length_le 0 (by omega) (by omega)
    exact this
  · have := Lib.itoa_length_le (-(v : Int)) (by omega) (by omega)
    unfold Lib.itoa at this
    rw [if_pos (by omega)] at this
    have e : (-(v : Int)).natAbs = v := by omega
    rw [e, List.length_cons] at this
    omega

set_option maxHeartbeats 1000000 in
theorem ref_Itoa_pos (m : Nat) (h0 : 0 < m) (h1 : m ≤ 9223372036854775807) (w : World) :
    Calls Tryd.prog 33 #[.int .i64 m] w fun e w' => e = .returned (.string (strOf (Lib.decDigits m))) ∧ Below w.heap.size w w' := by
  have hz' : ((m : Int) == 0) = false := by simp; omega
  have hl' : decide ((m : Int) < 0) = false := by simp
  have hD := dec_len m (by omega)
  go_enter Tryd.func33, Tryd.ntmps33
  go_wp2_with fail
  go_loopw [3, 4] (fun s v wr => ∃ (l : List UInt8) (k : Nat), k ≤ m ∧ s = .string (strOf l) ∧ v = .int .i64 (k : Nat) ∧ Hid (dgs k l = Lib.decDigits m) ∧ Below w.heap.size w wr) (fun _ v _ => (intOf v).toNat)
  case atStart => exact ⟨[], m, by omega, rfl, rfl, Lib.hid (by unfold dgs; rw [if_neg (by omega), List.append_nil]), Below.refl _ _⟩
  case round =>
    obtain ⟨l, k, hk, rfl, rfl, hd, hb⟩ := hrel
    have hb' := Lib.hid hb
    have hsz := hb.size
    clear hb
    by_cases hk0 : k = 0
    · subst hk0
      go_wp2
      go_ret
      refine ⟨?_, hb'.out⟩
      have := hd.out
      unfold dgs at this
      rw [if_pos rfl] at this
      rw [this]
      rfl
    · have hne : ((k : Int) != 0) = true := by simp; omega
      have t3 : decide ((k : Int) % 10 < 0) = false := by simp; omega
      have hw1 : (48 + (k : Int) % 10) % 256 = 48 + (k : Int) % 10 := by omega
      obtain ⟨d, hd0⟩ : ∃ d, Hid (d = UInt8.ofNat (48 + k % 10)) := ⟨_, Lib.hid rfl⟩
      have kv : (convert 68 9 (.slice (some ⟨wr.heap.size, 0, none⟩) 1 1)).run Tryd.prog (wr.alloc (.cells #[.int .u8 (48 + (k : Int) % 10)] 5)) = .ok (.string (strOf [d])) (wr.alloc (.cells #[.int .u8 (48 + (k : Int) % 10)] 5)) :=
        Bs.conv (bs_lit wr #[.int .u8 (48 + (k : Int) % 10)] 5 (0, 0) [d] 1 rfl (by omega) (by
          have : d.toNat = 48 + k % 10 := by rw [hd0.out, UInt8.toNat_ofNat']; omega
          simp [bv, this])) Tryd.underlying68 Tryd.underlying5 Tryd.underlying9
      have hl21 : l.length ≤ 21 := by
        have := dgs_len k l
        rw [hd.out] at this
        omega
      have hadd := fun w => run_string_add_sum (P := Tryd.prog) w (strOf [d]) (strOf l) (by rw [strOf_size, strOf_size]; simp; omega)
      rw [one_add] at hadd
      go_wp2
      go_roundw
      case rel =>
        refine ⟨d :: l, k / 10, by omega, rfl, by go_num, Lib.hid ?_, hb'.out.alloc (by omega) _⟩
        rw [← hd.out, dgs_step k l hk0, hd0.out]
      case measure => simp [intOf]; omega


set_option maxHeartbeats 1000000 in
theorem ref_Itoa_neg (m : Nat) (h0 : 0 < m) (h1 : m ≤ 9223372036854775808) (w : World) :
    Calls Tryd.prog 33 #[.int .i64 (-(m : Int))] w fun e w' => e = .returned (.string (strOf (45 :: Lib.decDigits m))) ∧ Below w.heap.size w w' := by
  have hz' : ((-(m : Int)) == 0) = false := by simp; omega
  have hl' : decide (-(m : Int) < 0) = true := by simp; omega
  have hD := dec_len m (by omega)
  go_enter Tryd.func33, Tryd.ntmps33
  go_wp2_with fail
  go_loopw [3, 4] (fun s v wr => ∃ (l : List UInt8) (k : Nat), k ≤ m ∧ s = .string (strOf l) ∧ v = .int .i64 (-(k : Int)) ∧ Hid (dgs k l = Lib.decDigits m) ∧ Below w.heap.size w wr) (fun _ v _ => (-(intOf v)).toNat)
  case atStart => exact ⟨[], m, by omega, rfl, rfl, Lib.hid (by unfold dgs; rw [if_neg (by omega), List.append_nil]), Below.refl _ _⟩
  case round =>
    obtain ⟨l, k, hk, rfl, rfl, hd, hb⟩ := hrel
    have hb' := Lib.hid hb
    have hsz := hb.size
    clear hb
    by_cases hk0 : k = 0
    · subst hk0
      have h45 := fun w => run_string_add_sum (P := Tryd.prog) w (strOf [45]) (strOf l) (by
        have := hd.out
        unfold dgs at this
        rw [if_pos rfl] at this
        rw [strOf_size, strOf_size, this]; simp; omega)
      rw [one_add] at h45
      have h45' : strOf [45] = ⟨#[45]⟩ := rfl
      rw [h45'] at h45
      clear h45'
      go_wp2
      go_ret
      refine ⟨?_, hb'.out⟩
      have := hd.out
      unfold dgs at this
      rw [if_pos rfl] at this
      rw [this]
      rfl
    · have hne : (-(k : Int) != 0) = true := by simp; omega
      obtain ⟨d, hd0⟩ : ∃ d, Hid (d = UInt8.ofNat (48 + k % 10)) := ⟨_, Lib.hid rfl⟩
      have hl21 : l.length ≤ 21 := by
        have := dgs_len k l
        rw [hd.out] at this
        omega
      have hadd := fun w => run_string_add_sum (P := Tryd.prog) w (strOf [d]) (strOf l) (by rw [strOf_size, strOf_size]; simp; omega)
      rw [one_add] at hadd
      by_cases hk10 : (k : Int) % 10 = 0
      · have h0k : k % 10 = 0 := by omega
        have kv : (convert 68 9 (.slice (some ⟨wr.heap.size, 0, none⟩) 1 1)).run Tryd.prog (wr.alloc (.cells #[.int .u8 (48)] 5)) = .ok (.string (strOf [d])) (wr.alloc (.cells #[.int .u8 (48)] 5)) :=
          Bs.conv (bs_lit wr #[.int .u8 (48)] 5 (0, 0) [d] 1 rfl (by omega) (by
            have : (d.toNat : Int) = 48 := by rw [hd0.out, UInt8.toNat_ofNat']; omega
            simp [bv, this])) Tryd.underlying68 Tryd.underlying5 Tryd.underlying9
        go_wp2
        go_roundw
        case rel =>
          refine ⟨d :: l, k / 10, by omega, rfl, by go_num, Lib.hid ?_, hb'.out.alloc (by omega) _⟩
          rw [← hd.out, dgs_step k l hk0, hd0.out]
        case measure => simp [intOf]; omega
      · have t2 : (-(k : Int)).tmod 10 = -((k : Int) % 10) := by rw [Int.neg_tmod, Int.tmod_eq_emod_of_nonneg (by omega)]
        have t3 : decide (0 < (k : Int) % 10) = true := by simp; omega
        have hw1 : (48 + (k : Int) % 10) % 256 = 48 + (k : Int) % 10 := by omega
        have kv : (convert 68 9 (.slice (some ⟨wr.heap.size, 0, none⟩) 1 1)).run Tryd.prog (wr.alloc (.cells #[.int .u8 (48 + (k : Int) % 10)] 5)) = .ok (.string (strOf [d])) (wr.alloc (.cells #[.int .u8 (48 + (k : Int) % 10)] 5)) :=
          Bs.conv (bs_lit wr #[.int .u8 (48 + (k : Int) % 10)] 5 (0, 0) [d] 1 rfl (by omega) (by
            have : (d.toNat : Int) = 48 + (k : Int) % 10 := by rw [hd0.out, UInt8.toNat_ofNat']; omega
            simp [bv, this])) Tryd.underlying68 Tryd.underlying5 Tryd.underlying9
        clear hk10
        go_wp2
        go_roundw
        case rel =>
          refine ⟨d :: l, k / 10, by omega, rfl, by go_num, Lib.hid ?_, hb'.out.alloc (by omega) _⟩
          rw [← hd.out, dgs_step k l hk0, hd0.out]
        case measure => simp [intOf]; omega

theorem ref_Itoa (n : Int) (h0 : -9223372036854775808 ≤ n) (h1 : n ≤ 9223372036854775807) (w : World) :
    Calls Tryd.prog 33 #[.int .i64 n] w fun e w' => e = .returned (.string (itx n)) ∧ Below w.heap.size w w' := by
  rcases Int.lt_trichotomy n 0 with hn | rfl | hn
  · obtain ⟨m, rfl⟩ : ∃ m : Nat, n = -(m : Int) := ⟨n.natAbs, by omega⟩
    have e : itx (-(m : Int)) = strOf (45 :: Lib.decDigits m) := by
      unfold itx Lib.itoa
      rw [if_pos hn, Int.natAbs_neg, Int.natAbs_natCast]
    rw [e]
    exact ref_Itoa_neg m (by omega) (by omega) w
  · go_enter Tryd.func33, Tryd.ntmps33
    go_wp2
    go_ret
    refine ⟨?_, Below.refl _ _⟩
    have e : itx 0 = ⟨#[48]⟩ := by
      unfold itx Lib.itoa Lib.decDigits
      rfl
    rw [e]
    rfl
  · obtain ⟨m, rfl⟩ : ∃ m : Nat, n = (m : Int) := ⟨n.toNat, by omega⟩
    have e : itx (m : Int) = strOf (Lib.decDigits m) := by
      unfold itx Lib.itoa
      rw [if_neg (by omega), Int.toNat_natCast]
    rw [e]
    exact ref_Itoa_pos m (by omega) (by omega) w
end Go.Proofs.YtppmnelgekhbnaaDoor.Er
