/- The walk of the law CrcTurned. -/
import Derived.Test.YteljgmeahpeneaaCrcLaws
namespace Go.Proofs.Yteljgmeahpeneaa
open Go.RowKit
namespace crcTurnedW

theorem turn_num (x : UInt8) (r : Nat) (hr : r < 8) : ∃ y : UInt8, y.toNat = x.toNat ^^^ 2 ^ r ∧ bits BinOp.xor IntKind.u8 (x.toNat : Int) (2 ^ r % 256) = (y.toNat : Int) := by
  have hx := x.toNat_lt
  have hp : 2 ^ r < 256 := by
    have := Nat.pow_lt_pow_right (a := 2) (by omega) hr
    simpa using this
  have hlt : x.toNat ^^^ 2 ^ r < 256 := Nat.xor_lt_two_pow (n := 8) hx hp
  refine ⟨UInt8.ofNat (x.toNat ^^^ 2 ^ r), by rw [UInt8.toNat_ofNat']; omega, ?_⟩
  have e : ((2 : Int) ^ r % 256) = ((2 ^ r : Nat) : Int) := by
    have : ((2 : Int) ^ r) = ((2 ^ r : Nat) : Int) := by simp
    rw [this]
    exact Int.emod_eq_of_lt (Int.natCast_nonneg _) (Int.ofNat_lt.2 hp)
  rw [e, u8_xor_nat _ _ hx hp, UInt8.toNat_ofNat']
  omega

set_option maxHeartbeats 1000000 in
theorem walk (A : Option Addr) (n c : Nat) (l : List UInt8) (p e : Int) (w : World) (hBs : Bs w A n c l) (_hz : c ≤ 140737488351232) (hp : (Lit.int .u16 p).wf = true) (he : (Lit.int .u32 e).wf = true) :
    Calls Try.prog 5 #[.slice A n c, .agg #[.int .u16 p, .int .u32 e]] w fun e w' => e = .returned (.bool true) ∧ Below w.heap.size w w' := by
  obtain ⟨p, rfl⟩ : ∃ q : Nat, p = q := ⟨p.toNat, by simp [Lit.wf, IntKind.min, IntKind.max, IntKind.signed, IntKind.bits] at hp; omega⟩
  obtain ⟨d, rfl⟩ : ∃ q : Nat, e = q := ⟨e.toNat, by simp [Lit.wf, IntKind.min, IntKind.max, IntKind.signed, IntKind.bits] at he; omega⟩
  have hp2 : p < 65536 := by simp [Lit.wf, IntKind.min, IntKind.max, IntKind.signed, IntKind.bits] at hp; omega
  have hd2 : d < 4294967296 := by simp [Lit.wf, IntKind.min, IntKind.max, IntKind.signed, IntKind.bits] at he; omega
  clear hp he
  have hNl : Hid (l.length = n) := hBs.len
  go_enter Try.func5, Try.ntmps5
  go_wp2_with fail
  have hb0 : Below w.heap.size w (w.alloc (.cells #[.int .u16 p, .int .u32 d] 31)) := below_alloc _ _
  have hc0 : (w.alloc (.cells #[.int .u16 p, .int .u32 d] 31)).cell? ⟨w.heap.size, 0, none⟩ = some (.int .u16 p) := by simp
  have hc1 : (w.alloc (.cells #[.int .u16 p, .int .u32 d] 31)).cell? ⟨w.heap.size, 1, none⟩ = some (.int .u32 d) := by simp
  have hz0 : w.heap.size < (w.alloc (.cells #[.int .u16 p, .int .u32 d] 31)).heap.size := by simp
  generalize w.alloc (.cells #[.int .u16 p, .int .u32 d] 31) = w0 at *
  refine (CrcW.awake_any _).mono ?_
  rintro e w1 ⟨rfl, hb⟩
  have hb1 : Below w.heap.size w w1 := hb0.trans (hb.mono (by omega))
  have hd0 : w1.cell? ⟨w.heap.size, 0, none⟩ = some (.int .u16 p) := by rw [hb.cell (by exact hz0)]; exact hc0
  have hd1 : w1.cell? ⟨w.heap.size, 1, none⟩ = some (.int .u32 d) := by rw [hb.cell (by exact hz0)]; exact hc1
  have hz1 : w.heap.size < w1.heap.size := Nat.lt_of_lt_of_le hz0 hb.size
  clear hc0 hc1 hz0 hb0 hb
  have hA := hBs.below hb1
  by_cases hn0 : n = 0
  · subst hn0
    go_wp2_with fail
    go_ret
    exact ⟨rfl, hb1⟩
  by_cases hn1 : 8192 < n
  · have hN0 : ((n : Int) == 0) = false := by rw [beq_eq_false_iff_ne]; omega
    go_wp2_with fail
    go_ret
    exact ⟨rfl, hb1⟩
  have hN0 : ((n : Int) == 0) = false := by rw [beq_eq_false_iff_ne]; omega
  have hN1 : n ≤ 8192 := by omega
  by_cases hD : d = 0
  · subst hD
    go_wp2_with fail
    go_ret
    exact ⟨rfl, hb1⟩
  have hD0 : ((d : Int) == 0) = false := by rw [beq_eq_false_iff_ne]; omega
  have hn2 : 0 < n := by omega
  clear hn1 hn0
  go_wp2_with (at_builtin; apply stop_here)
  have hW : w1.heap.size ≤ (w1.alloc (.cells #[] 5)).heap.size := by simp
  refine Stop.go (append_bytes _ 22 5 Try.underlying22 info_u8 rfl _ _ rfl w1.heap.size _ [] rfl (owb_lit _ _ (Nat.le_refl _) _ _ _ _ rfl (by decide) rfl) _ _ _ l rfl (hA.below (below_alloc _ _)) n (by simp) (by omega) hW ?_)
  intro A3 c3 w3 ho3 hg3 hb3
  have hb13 := (below_alloc w1 (.cells #[] 5)).trans hb3
  have hb03 : Below w.heap.size w w3 := hb1.trans (hb13.mono (by omega))
  have he0 : w3.cell? ⟨w.heap.size, 0, none⟩ = some (.int .u16 p) := by rw [hb13.cell (by exact hz1)]; exact hd0
  have he1 : w3.cell? ⟨w.heap.size, 1, none⟩ = some (.int .u32 d) := by rw [hb13.cell (by exact hz1)]; exact hd1
  have HB : Hid (w1.heap.size ≤ w3.heap.size) := hb13.size
  clear hd0 hd1 hW
  obtain ⟨q, hq, hq8⟩ : ∃ q : Nat, ((p : Int) % (8 * (n : Int))) = (q : Int) ∧ q < 8 * n := ⟨p % (8 * n), by simp, Nat.mod_lt _ (by omega)⟩
  clear hg3 hb3
  go_wp2_with fail
  rw [hq]
  clear hq
  go_loopw [7, 8] (fun s i wr => ∃ (k : Nat) (L : List UInt8), k ≤ 32 ∧ q + k ≤ 8 * n ∧ i = .int .i64 k ∧ s = .bool (decide (d % 2 ^ k ≠ 0)) ∧ OwB wr w1.heap.size 5 (.slice A3 n c3) L ∧
      Crc.num L = Crc.num l ^^^ (d % 2 ^ k) * 2 ^ q ∧ Below w.heap.size w wr ∧ wr.cell? ⟨w.heap.size, 1, none⟩ = some (.int .u32 d)) (fun _ i _ => 32 - (intOf i).toNat)
  case atStart => exact ⟨0, l, by omega, by omega, rfl, by simp [Nat.mod_one], ho3, by simp [Nat.mod_one], hb03, he1⟩
  case round =>
    obtain ⟨k, L, hk, hqk, rfl, rfl, ho, hnum, hbw, hcd⟩ := hrel
    have HNum := Lib.hid hnum
    clear hnum
    by_cases hlt : k < 32 ∧ q + k < 8 * n
    · obtain ⟨hlt, hlt2⟩ := hlt
      obtain ⟨g, x, rfl, hg1, hgs, hx, hx8, hcx, hfx, hst⟩ := ho.at_ (k := (q + k) / 8) (by omega)
      have HX := Lib.hid hx
      have HO := Lib.hid hst
      clear hx hst
      have hpos : (0 : Int) ≤ (d : Int) / 2 ^ k := Int.ediv_nonneg (by omega) (by have := Int.pow_pos (n := 2) (m := k) (by omega); omega)
      by_cases hbit : d / 2 ^ k % 2 = 1
      · have hbb : ((d : Int) / 2 ^ k % 2 == 1) = true := by
          have e : ((d : Int) / 2 ^ k) = ((d / 2 ^ k : Nat) : Int) := by simp
          rw [e, beq_iff_eq]; omega
        have HBit := Lib.hid hbit
        clear hbit
        go_wp2_with fail
        obtain ⟨y, hy, hby⟩ := turn_num x ((q + k) % 8) (by omega)
        have hse : d % 2 ^ (k + 1) ≠ 0 := by
          have h1 : d % 2 ^ (k + 1) = d % 2 ^ k + 2 ^ k * (d / 2 ^ k % 2) := by rw [Nat.pow_succ, Nat.mod_mul]
          rw [h1, HBit.out]
          have := Nat.two_pow_pos k
          omega
        rw [hby]
        go_roundw
        case rel =>
          refine ⟨k + 1, L.set ((q + k) / 8) y, by omega, by omega, by go_num, val_bool (by simpa using hse), HO.out y, ?_, hbw.setCell (by simp; omega) _, ?_⟩
          · exact Crc.turn_step l L d q k x y HNum.out HBit.out HX.out hy
          · rw [World.cell?_setCell_other _ _ _ _ (by intro hh; injection hh with h1; omega)]; exact hcd
        case measure => simp [intOf]; omega
      · have hbb : ((d : Int) / 2 ^ k % 2 == 1) = false := by
          have e : ((d : Int) / 2 ^ k) = ((d / 2 ^ k : Nat) : Int) := by simp
          rw [e, beq_eq_false_iff_ne]; omega
        have HBit := Lib.hid hbit
        clear hbit
        go_wp2_with fail
        go_roundw
        case rel => exact ⟨k + 1, L, by omega, by omega, by go_num, val_bool (by rw [Crc.bits_succ0 _ _ HBit.out]; simp), ho, by rw [Crc.bits_succ0 _ _ HBit.out]; exact HNum.out, hbw, hcd⟩
        case measure => simp [intOf]; omega
    · have hA4 := hBs.below hbw
      have hsum : d % 2 ^ k ≠ 0 → Crc.sum L ≠ Crc.sum l := fun h0 =>
        Crc.sum_turned q (d % 2 ^ k) l L (by rw [hNl.out]; exact ho.rd_len) HNum.out (by rw [hNl.out]; omega) (Nat.lt_of_le_of_lt (Nat.mod_le _ _) hd2) h0
      have HS := Lib.hid hsum
      clear hsum
      by_cases hz : d % 2 ^ k = 0
      · have HZ : decide (d % 2 ^ k ≠ 0) = false := by simpa using hz
        rw [HZ]
        clear HZ hz
        by_cases hk2 : k < 32
        · have : ¬ (q + k < 8 * n) := fun h => hlt ⟨hk2, h⟩
          clear hlt
          go_wp2_with fail
          go_ret
          exact ⟨rfl, hbw⟩
        · clear hlt
          have hk3 : k = 32 := by omega
          subst hk3
          go_wp2_with fail
          go_ret
          exact ⟨rfl, hbw⟩
      · have HZ : decide (d % 2 ^ k ≠ 0) = true := by simpa using hz
        have HE : ((Crc.sum L : Int) != (Crc.sum l : Int)) = true := by
          have := HS.out hz
          rw [bne_iff_ne]
          omega
        rw [HZ]
        clear HZ hz
        by_cases hk2 : k < 32
        · have : ¬ (q + k < 8 * n) := fun h => hlt ⟨hk2, h⟩
          clear hlt
          go_wp2_with fail
          refine (CrcW.sum_any _ _ _ _ _ ho.bs).mono ?_
          rintro e w' ⟨rfl, rfl⟩
          go_wp2_with fail
          refine (CrcW.sum_any _ _ _ _ _ hA4).mono ?_
          rintro e w' ⟨rfl, rfl⟩
          go_wp2_with fail
          go_ret
          exact ⟨rfl, hbw⟩
        · clear hlt
          have hk3 : k = 32 := by omega
          subst hk3
          go_wp2_with fail
          refine (CrcW.sum_any _ _ _ _ _ ho.bs).mono ?_
          rintro e w' ⟨rfl, rfl⟩
          go_wp2_with fail
          refine (CrcW.sum_any _ _ _ _ _ hA4).mono ?_
          rintro e w' ⟨rfl, rfl⟩
          go_wp2_with fail
          go_ret
          exact ⟨rfl, hbw⟩
end crcTurnedW
end Go.Proofs.Yteljgmeahpeneaa
