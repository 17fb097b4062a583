/- The walk of the law FrameTurned. -/
import Derived.Test.YteljgmeahpeneaaFrameLaws
import Derived.Test.YteljgmeahpeneaaCrcTurned
namespace Go.Proofs.Yteljgmeahpeneaa
open Go.RowKit
namespace frameTurnedW

set_option maxRecDepth 100000 in
set_option maxHeartbeats 2000000 in
theorem walk (A : Option Addr) (n c : Nat) (l : List UInt8) (p e : Int) (w : World) (hBs : Bs w A n c l) (_hz : c ≤ 140737488351232) (hp : (Lit.int .u16 p).wf = true) (he : (Lit.int .u32 e).wf = true) :
    Calls Try.prog 6 #[.slice A n c, .int .u16 p, .int .u32 e] w fun e w' => e = .returned (.bool true) ∧ Below w.heap.size w w' := by
  obtain ⟨p, rfl⟩ : ∃ q : Nat, p = q := ⟨p.toNat, by simp [Lit.wf, IntKind.min, IntKind.max, IntKind.signed, IntKind.bits] at hp; omega⟩
  obtain ⟨d, rfl⟩ : ∃ q : Nat, e = q := ⟨e.toNat, by simp [Lit.wf, IntKind.min, IntKind.max, IntKind.signed, IntKind.bits] at he; omega⟩
  have hp2 : p < 65536 := by simp [Lit.wf, IntKind.min, IntKind.max, IntKind.signed, IntKind.bits] at hp; omega
  have hd2 : d < 4294967296 := by simp [Lit.wf, IntKind.min, IntKind.max, IntKind.signed, IntKind.bits] at he; omega
  clear hp he
  have hNl : Hid (l.length = n) := hBs.len
  go_enter Try.func6, Try.ntmps6
  go_wp2_with fail
  refine (FrW.awake_any _).mono ?_
  rintro e w1 ⟨rfl, hb⟩
  have hA := hBs.below hb
  by_cases hn0 : n < 1
  · go_wp2_with fail
    go_ret
    exact ⟨rfl, hb⟩
  by_cases hn1 : 4096 < n
  · go_wp2_with fail
    go_ret
    exact ⟨rfl, hb⟩
  have hn2 : 1 ≤ n := by omega
  have hn3 : n ≤ 4096 := by omega
  clear hn0 hn1
  by_cases hD : d = 0
  · subst hD
    go_wp2_with fail
    go_ret
    exact ⟨rfl, hb⟩
  have hD0 : ((d : Int) == 0) = false := by rw [beq_eq_false_iff_ne]; omega
  clear hD
  have HP : Hid (Fr.put l = (Fr.le n ++ Fr.le (Fr.fsum (Fr.le n) l)) ++ l) := by
    unfold Hid
    have := hNl.out
    unfold Fr.put
    rw [if_neg (by omega), Fr.frame, this, List.append_assoc]
  have HPl : Hid ((Fr.put l).length = 8 + n) := by
    unfold Hid
    rw [HP.out]
    have := hNl.out
    simp; omega
  go_wp2_with fail
  refine (FrW.put_any _ _ _ l _ hA).mono ?_
  rw [HPl.out, HP.out]
  rintro e w2 ⟨A2, c2, rfl, ho2, hb2⟩
  have hb02 : Below w.heap.size w w2 := hb.trans (hb2.mono hb.size)
  have HB : Hid (w.heap.size ≤ w1.heap.size) := hb.size
  obtain ⟨q, hq, hq8⟩ : ∃ q : Nat, ((p : Int) % (8 * (n : Int))) = (q : Int) ∧ q < 8 * n := ⟨p % (8 * n), by simp, Nat.mod_lt _ (by omega)⟩
  have HH : Hid ((Fr.le n ++ Fr.le (Fr.fsum (Fr.le n) l)).length = 8) := rfl
  generalize hHd : Fr.le n ++ Fr.le (Fr.fsum (Fr.le n) l) = hd at *
  have HHd := Lib.hid hHd
  clear hHd hb2 hA
  go_wp2_with fail
  rw [hq]
  clear hq
  obtain ⟨a, haq⟩ : ∃ a : Nat, a = 64 + q := ⟨_, rfl⟩
  have HA : Hid (a = 64 + q) := haq
  have ha8 : a < 64 + 8 * n := by omega
  have ha64 : 64 ≤ a := by omega
  have hcast : (64 : Int) + (q : Int) = (a : Int) := by omega
  rw [hcast]
  clear hcast haq
  go_loopw [9, 10] (fun s i wr => ∃ (k : Nat) (r : List UInt8), k ≤ 32 ∧ a + k ≤ 8 * (8 + n) ∧ i = .int .i64 k ∧ s = .bool (!decide (d % 2 ^ k = 0)) ∧ OwB wr w1.heap.size 5 (.slice A2 (8 + n) c2) (hd ++ r) ∧ Hid (r.length = n) ∧
      Hid (Crc.num r = Crc.num l ^^^ (d % 2 ^ k) * 2 ^ q) ∧ Below w.heap.size w wr) (fun _ i _ => 32 - (intOf i).toNat)
  case atStart => exact ⟨0, l, by omega, by omega, rfl, by simp [Nat.mod_one], ho2, hNl, by unfold Hid; simp [Nat.mod_one], hb02⟩
  case round =>
    obtain ⟨k, r, hk, hqk, rfl, rfl, ho, HR, HNum, hbw⟩ := hrel
    have hpos : (0 : Int) ≤ (d : Int) / 2 ^ k := Int.ediv_nonneg (by omega) (by have := Int.pow_pos (n := 2) (m := k) (by omega); omega)
    by_cases hlt : k < 32 ∧ a + k < 8 * (8 + n)
    · obtain ⟨hlt, hlt2⟩ := hlt
      obtain ⟨g, x, rfl, hg1, hgs, hx, hx8, hcx, hfx, hst⟩ := ho.at_ (k := (a + k) / 8) (by omega)
      have HX : Hid (r[(q + k) / 8]? = some x) := by
        unfold Hid
        have e1 := HA.out
        have e2 := HH.out
        rw [List.getElem?_append_right (by omega)] at hx
        rw [← hx]
        congr 1
        omega
      have HO : Hid (∀ y : UInt8, OwB (wr.setCell ⟨g, (a + k) / 8, none⟩ (.int .u8 (y.toNat : Int))) w1.heap.size 5 (.slice (some ⟨g, 0, none⟩) (8 + n) c2) (hd ++ r.set ((q + k) / 8) y)) := by
        intro y
        have e1 := HA.out
        have e2 := HH.out
        have h := hst y
        rw [List.set_append_right _ _ (by omega)] at h
        have e3 : (a + k) / 8 - hd.length = (q + k) / 8 := by omega
        rw [e3] at h
        exact h
      clear hx hst
      by_cases hbit : d / 2 ^ k % 2 = 1
      · have hbb : ((d : Int) / 2 ^ k % 2 == 1) = true := by
          have e : ((d : Int) / 2 ^ k) = ((d / 2 ^ k : Nat) : Int) := by simp
          rw [e, beq_iff_eq]; omega
        have HBit := Lib.hid hbit
        clear hbit
        go_wp2_with fail
        obtain ⟨y, hy, hby⟩ := crcTurnedW.turn_num x ((a + k) % 8) (by omega)
        have hy' : y.toNat = x.toNat ^^^ 2 ^ ((q + k) % 8) := by
          rw [hy]
          have e1 := HA.out
          congr 2
          omega
        have hse : d % 2 ^ (k + 1) ≠ 0 := by
          have h1 : d % 2 ^ (k + 1) = d % 2 ^ k + 2 ^ k * (d / 2 ^ k % 2) := by rw [Nat.pow_succ, Nat.mod_mul]
          rw [h1, HBit.out]
          have := Nat.two_pow_pos k
          omega
        rw [hby]
        go_roundw
        case rel =>
          refine ⟨k + 1, r.set ((q + k) / 8) y, by omega, by omega, by go_num, val_bool (by simpa using hse), HO.out y, by unfold Hid; rw [List.length_set]; exact HR.out, ?_, hbw.setCell (by have := HB.out; simp; omega) _⟩
          exact Crc.turn_step l r d q k x y HNum.out HBit.out HX.out hy'
        case measure => simp [intOf]; omega
      · have hbb : ((d : Int) / 2 ^ k % 2 == 1) = false := by
          have e : ((d : Int) / 2 ^ k) = ((d / 2 ^ k : Nat) : Int) := by simp
          rw [e, beq_eq_false_iff_ne]; omega
        have HBit := Lib.hid hbit
        clear hbit
        go_wp2_with fail
        go_roundw
        case rel => exact ⟨k + 1, r, by omega, by omega, by go_num, val_bool (by rw [Crc.bits_succ0 _ _ HBit.out]), ho, HR, by unfold Hid; rw [Crc.bits_succ0 _ _ HBit.out]; exact HNum.out, hbw⟩
        case measure => simp [intOf]; omega
    · have hnx : Fr.next (hd ++ r) = if Fr.fsum (Fr.le n) r ≠ Fr.fsum (Fr.le n) l then ([], 0, 4) else (r, 8 + n, 1) := by
        rw [← HHd.out]
        exact Fr.next_head n l r HR.out hn2 (by omega)
      have hex : ¬ k < 32 ∨ (k < 32 ∧ ¬ a + k < 8 * (8 + n)) := by omega
      clear hlt
      by_cases hz : d % 2 ^ k = 0
      · have hrl : r = l := by
          refine Crc.num_inj (by rw [HR.out, hNl.out]) ?_
          have := HNum.out
          rw [hz] at this
          simpa using this
        subst hrl
        rw [if_neg (by simp)] at hnx
        have HZ : (!decide (d % 2 ^ k = 0)) = false := by simpa using hz
        rw [HZ]
        clear HZ hz
        have HNX := Lib.hid hnx
        clear hnx
        rcases hex with h32 | ⟨h32, hex⟩
        · have hk3 : k = 32 := by omega
          subst hk3
          go_wp2_with fail
          refine (FrW.next_any _ _ _ _ _ ho.bs).mono ?_
          rw [HNX.out]
          rintro e w5 ⟨A5, c5, rfl, ho5, hb5⟩
          go_wp2_with fail
          go_ret
          exact ⟨rfl, hbw.trans (hb5.mono hbw.size)⟩
        · go_wp2_with fail
          refine (FrW.next_any _ _ _ _ _ ho.bs).mono ?_
          rw [HNX.out]
          rintro e w5 ⟨A5, c5, rfl, ho5, hb5⟩
          go_wp2_with fail
          go_ret
          exact ⟨rfl, hbw.trans (hb5.mono hbw.size)⟩
      · have hne : Fr.fsum (Fr.le n) r ≠ Fr.fsum (Fr.le n) l :=
          Crc.sum_turned_behind q (d % 2 ^ k) (Fr.le n) l r (by rw [HR.out, hNl.out]) HNum.out (by rw [hNl.out]; omega) (Nat.lt_of_le_of_lt (Nat.mod_le _ _) hd2) hz
        rw [if_pos hne] at hnx
        have HZ : (!decide (d % 2 ^ k = 0)) = true := by simpa using hz
        rw [HZ]
        clear HZ hz hne
        have HNX := Lib.hid hnx
        clear hnx
        rcases hex with h32 | ⟨h32, hex⟩
        · have hk3 : k = 32 := by omega
          subst hk3
          go_wp2_with fail
          refine (FrW.next_any _ _ _ _ _ ho.bs).mono ?_
          rw [HNX.out]
          rintro e w5 ⟨A5, c5, rfl, ho5, hb5⟩
          go_wp2_with fail
          go_ret
          exact ⟨rfl, hbw.trans (hb5.mono hbw.size)⟩
        · go_wp2_with fail
          refine (FrW.next_any _ _ _ _ _ ho.bs).mono ?_
          rw [HNX.out]
          rintro e w5 ⟨A5, c5, rfl, ho5, hb5⟩
          go_wp2_with fail
          go_ret
          exact ⟨rfl, hbw.trans (hb5.mono hbw.size)⟩
end frameTurnedW
end Go.Proofs.Yteljgmeahpeneaa
