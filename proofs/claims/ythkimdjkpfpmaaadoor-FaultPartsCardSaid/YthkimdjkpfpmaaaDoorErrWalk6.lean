/- The document's Text. -/
import Derived.Test.YthkimdjkpfpmaaaDoorErrWalk5
namespace Go.Proofs.YthkimdjkpfpmaaaDoor.Er
open Go.RowKit

theorem refText_ok (at_ : Int) (A : Option Addr) (n c : Nat) (w : World) :
    Calls Tryd.prog 12 #[.int .i64 0, .int .i64 at_, .slice A n c] w fun e w' => e = .returned (.string ⟨#[111, 107]⟩) ∧ Below w.heap.size w w' := by
  go_enter Tryd.func12, Tryd.ntmps12
  go_wp2_with fail
  go_ret
  exact ⟨rfl, Below.refl _ _⟩

set_option maxHeartbeats 2000000 in
theorem refText_any (code at_ : Int) (h0 : code ≠ 0) (hc : Wf code) (ha : Wf at_) (A : Option Addr) (n c : Nat) (ss : List ByteArray) (hn : n ≤ 1000) (hz : ∀ s ∈ ss, s.size ≤ 140737488351232) (w : World) (hS : Ss w A n c ss) :
    Calls Tryd.prog 12 #[.int .i64 code, .int .i64 at_, .slice A n c] w fun e w' => e = .returned (.string (tx ss.reverse ++ pt code at_)) ∧ Below w.heap.size w w' := by
  have hl := hS.len
  have hS' := Lib.hid hS
  have hz' : Hid (∀ s ∈ ss.reverse, s.size ≤ 140737488351232) := fun s hs => hz s (List.mem_reverse.1 hs)
  clear hS hz
  have h0' : (code == 0) = false := by simpa using h0
  go_enter Tryd.func12, Tryd.ntmps12
  go_wp2_with fail
  go_loop [7, 8] (fun v i => ∃ k : Nat, k ≤ n ∧ i = .int .i64 ((n : Int) - 1 - (k : Nat)) ∧ v = .string (tx (ss.reverse.take k))) (fun _ i => (intOf i + 1).toNat)
  case atStart => exact ⟨0, by omega, by go_num, rfl⟩
  case round =>
    obtain ⟨k, hk, rfl, rfl⟩ := hrel
    by_cases hlt : k < n
    · obtain ⟨b, off, s, rfl, hb0, hs, hcell⟩ := hS'.out.at_ (k := n - 1 - k) (by omega)
      have hcast : ((n : Int) - 1 - (k : Nat)) = ((n - 1 - k : Nat) : Int) := by omega
      have hs2 : ss.reverse[k]? = some s := by
        rw [List.getElem?_reverse (by omega), hl]
        exact hs
      have hsz : s.size ≤ 140737488351232 := hz'.out s (List.mem_of_getElem? hs2)
      have hpre : ∀ x ∈ ss.reverse.take k, x.size ≤ 140737488351232 := fun x hx => hz'.out x (List.mem_of_mem_take hx)
      have a1 := fun w => run_string_add_sum (P := Tryd.prog) w (tx (ss.reverse.take k)) s (by
        have h1 := tx_size _ hpre
        rw [List.length_take] at h1
        have : min k ss.reverse.length ≤ 1000 := by omega
        have := Nat.mul_le_mul_right 140737488351234 this
        omega)
      have a2 := fun w => run_string_add_sum (P := Tryd.prog) w (tx (ss.reverse.take k) ++ s) kColon (by
        have h1 := tx_size _ hpre
        rw [List.length_take] at h1
        have : min k ss.reverse.length ≤ 1000 := by omega
        have := Nat.mul_le_mul_right 140737488351234 this
        rw [ByteArray.size_append, kColon_size]
        omega)
      rw [ByteArray.append_assoc, ← tx_snoc, ← take_snoc hs2] at a2
      obtain ⟨x, hx⟩ : ∃ x, tx (ss.reverse.take k) ++ s = x := ⟨_, rfl⟩
      obtain ⟨y, hy⟩ : ∃ y, tx (ss.reverse.take (k + 1)) = y := ⟨_, rfl⟩
      obtain ⟨z, hz⟩ : ∃ z, tx (ss.reverse.take k) = z := ⟨_, rfl⟩
      rw [hx] at a1 a2
      rw [hz] at a1
      rw [hy] at a2
      rw [hz]
      have HY := Lib.hid hy
      have e1 : kColon = ⟨#[58, 32]⟩ := rfl
      rw [e1] at a2
      rw [hcast]
      obtain ⟨i, hi⟩ : ∃ i, n - 1 - k = i := ⟨_, rfl⟩
      have hin : i < n := by omega
      rw [hi] at hcell ⊢
      have HI := Lib.hid hi
      clear hx hy hz e1 hs hs2 hpre hsz hcast hi
      have i0 : decide ((0 : Int) ≤ (i : Int)) = true := by simp
      go_wp2_with fail
      go_round
      case rel => exact ⟨k + 1, by omega, by have := HI.out; go_num, by rw [HY.out]⟩
      case measure => simp [intOf]
    · obtain rfl : k = n := by omega
      have hpre : ∀ x ∈ ss.reverse.take k, x.size ≤ 140737488351232 := fun x hx => hz'.out x (List.mem_of_mem_take hx)
      have h1 := tx_size _ hpre
      rw [List.length_take] at h1
      have h2 : min k ss.reverse.length ≤ 1000 := by omega
      have h3 := Nat.mul_le_mul_right 140737488351234 h2
      have i1 := itx_len code hc.1 hc.2
      have i2 := itx_len at_ ha.1 ha.2
      have k1 : kCode.size = 5 := rfl
      have k2 : kAt.size = 4 := rfl
      have htk : ss.reverse.take k = ss.reverse := List.take_of_length_le (by simp; omega)
      rw [htk] at h1 ⊢
      obtain ⟨z, hz⟩ : ∃ z, tx ss.reverse = z := ⟨_, rfl⟩
      rw [hz] at h1 ⊢
      have a1 := fun w => run_string_add_sum (P := Tryd.prog) w z kCode (by omega)
      have a2 := fun w => run_string_add_sum (P := Tryd.prog) w (z ++ kCode) (itx code) (by rw [ByteArray.size_append]; omega)
      have a3 := fun w => run_string_add_sum (P := Tryd.prog) w (z ++ kCode ++ itx code) kAt (by rw [ByteArray.size_append, ByteArray.size_append]; omega)
      have a4 := fun w => run_string_add_sum (P := Tryd.prog) w (z ++ kCode ++ itx code ++ kAt) (itx at_) (by rw [ByteArray.size_append, ByteArray.size_append, ByteArray.size_append]; omega)
      have HZ : Hid (tx ss.reverse ++ pt code at_ = z ++ kCode ++ itx code ++ kAt ++ itx at_) := by
        unfold Hid pt
        rw [hz]
        simp only [ByteArray.append_assoc]
      obtain ⟨x1, hx1⟩ : ∃ x, z ++ kCode = x := ⟨_, rfl⟩
      rw [hx1] at a1 a2 a3 a4 HZ
      obtain ⟨x2, hx2⟩ : ∃ x, x1 ++ itx code = x := ⟨_, rfl⟩
      rw [hx2] at a2 a3 a4 HZ
      obtain ⟨x3, hx3⟩ : ∃ x, x2 ++ kAt = x := ⟨_, rfl⟩
      rw [hx3] at a3 a4 HZ
      obtain ⟨x4, hx4⟩ : ∃ x, x3 ++ itx at_ = x := ⟨_, rfl⟩
      rw [hx4] at a4 HZ
      have e1 : kCode = ⟨#[99, 111, 100, 101, 32]⟩ := rfl
      have e2 : kAt = ⟨#[32, 97, 116, 32]⟩ := rfl
      rw [e1] at a1
      rw [e2] at a3
      have em : ((k : Int) - 1 - (k : Nat)) = -1 := by omega
      rw [em]
      clear hx1 hx2 hx3 hx4 e1 e2 hz htk hpre h1 h2 h3 k1 k2 em
      go_wp2_with fail
      refine (ref_Itoa code hc.1 hc.2 _).mono ?_
      rintro e w1 ⟨rfl, hb1⟩
      have hb1' := Lib.hid hb1
      clear hb1
      go_wp2_with fail
      refine (ref_Itoa at_ ha.1 ha.2 _).mono ?_
      rintro e w2 ⟨rfl, hb2⟩
      have hb2' := Lib.hid (hb1'.out.trans (hb2.mono hb1'.out.size))
      clear hb2
      go_wp2_with fail
      go_ret
      refine ⟨?_, hb2'⟩
      rw [HZ.out]
      rfl
end Go.Proofs.YthkimdjkpfpmaaaDoor.Er
