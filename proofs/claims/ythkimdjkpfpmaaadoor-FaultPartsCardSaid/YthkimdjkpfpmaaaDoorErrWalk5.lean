/- made, and the document's Text. -/
import Derived.Test.YthkimdjkpfpmaaaDoorErrWalk4
import Derived.Test.YthkimdjkpfpmaaaDoorStrs
namespace Go.Proofs.YthkimdjkpfpmaaaDoor.Er
open Go.RowKit

theorem made_ok (at_ : Int) (A : Option Addr) (n c : Nat) (ss : List ByteArray) (hn : n ≤ 50) (w : World) (hS : Ss w A n c ss) :
    Calls Tryd.prog 8 #[.int .i64 0, .int .i64 at_, .slice A n c] w fun e w' => e = .returned .nilIface ∧ Below w.heap.size w w' := by
  go_enter Tryd.func8, Tryd.ntmps8
  go_wp2_with fail
  refine (New_ok _ _).mono ?_
  rintro e w1 ⟨rfl, rfl⟩
  go_wp2_with fail
  go_loopw [7, 8] (fun v i wr => ∃ k : Nat, k ≤ n ∧ i = .int .i64 (k : Nat) ∧ v = .nilIface ∧ wr = w1) (fun _ i _ => n - (intOf i).toNat)
  case atStart => exact ⟨0, by omega, rfl, rfl, rfl⟩
  case round =>
    obtain ⟨k, hk, rfl, rfl, rfl⟩ := hrel
    by_cases hlt : k < n
    · obtain ⟨b, off, s, rfl, hb, hs, hcell⟩ := hS.at_ hlt
      have i0 : decide ((k : Int) < (n : Int)) = true := by simp; omega
      have i1 : decide ((k : Int) < 50) = true := by simp; omega
      have i2 : k < n := hlt
      clear hs
      go_wp2_with fail
      refine (Wrap_ok _ _).mono ?_
      rintro e w2 ⟨rfl, rfl⟩
      go_wp2_with fail
      go_roundw
      case rel => exact ⟨k + 1, by omega, by go_num, by simp⟩
      case measure => simp [intOf]; omega
    · have i0 : decide ((k : Int) < (n : Int)) = false := by simp; omega
      go_wp2_with fail
      go_ret
      exact ⟨rfl, Below.refl _ _⟩

theorem rev_take {ss : List ByteArray} {k : Nat} {s : ByteArray} (h : ss[k]? = some s) : (ss.take (k + 1)).reverse = s :: (ss.take k).reverse := by
  rw [take_snoc h, List.reverse_append]
  rfl

theorem made_any (code at_ : Int) (hc : code ≠ 0) (A : Option Addr) (n c : Nat) (ss : List ByteArray) (hn : n ≤ 50) (w : World) (hS : Ss w A n c ss) :
    Calls Tryd.prog 8 #[.int .i64 code, .int .i64 at_, .slice A n c] w fun e w' => ∃ v, e = .returned v ∧ Below w.heap.size w w' ∧ Fe w' w'.heap.size code at_ ss.reverse v := by
  have hl := hS.len
  have hS' := Lib.hid hS
  clear hS
  go_enter Tryd.func8, Tryd.ntmps8
  go_wp2_with fail
  refine (New_any code at_ hc _).mono ?_
  rintro e w1 ⟨v, rfl, hb1, hf1⟩
  have hb1' := Lib.hid hb1
  have hf1' := Lib.hid hf1
  clear hb1 hf1
  go_wp2_with fail
  go_loopw [7, 8] (fun v i wr => ∃ k : Nat, k ≤ n ∧ i = .int .i64 (k : Nat) ∧ Hid (Fe wr wr.heap.size code at_ (ss.take k).reverse v) ∧ Hid (Below w.heap.size w wr)) (fun _ i _ => n - (intOf i).toNat)
  case atStart => exact ⟨0, by omega, rfl, hf1', hb1'⟩
  case round =>
    obtain ⟨k, hk, rfl, hf, hb⟩ := hrel
    by_cases hlt : k < n
    · obtain ⟨b, off, s, rfl, hb0, hs, hcell⟩ := (hS'.out.below hb.out).at_ hlt
      have i0 : decide ((k : Int) < (n : Int)) = true := by simp; omega
      have i1 : decide ((k : Int) < 50) = true := by simp; omega
      have i2 : k < n := hlt
      have hs' := Lib.hid (rev_take hs)
      clear hs
      go_wp2_with fail
      refine (Wrap_any _ _ _ _ _ _ hf.out).mono ?_
      rintro e w2 ⟨v2, rfl, hb2, hf2⟩
      have hb2' := Lib.hid (hb.out.trans (hb2.mono hb.out.size))
      rw [← hs'.out] at hf2
      have hf2' := Lib.hid hf2
      clear hb2 hf2 hcell
      go_wp2_with fail
      go_roundw
      case rel => exact ⟨k + 1, by omega, by go_num, hf2', hb2'⟩
      case measure => simp [intOf]; omega
    · have i0 : decide ((k : Int) < (n : Int)) = false := by simp; omega
      obtain rfl : k = n := by omega
      go_wp2_with fail
      go_ret
      have := hf.out
      rw [List.take_of_length_le (by omega)] at this
      exact ⟨_, rfl, hb.out, this⟩
end Go.Proofs.YthkimdjkpfpmaaaDoor.Er
