/- A segment's head: the code's, and the document's. -/
import Derived.Test.YtfdpnjebhllpkaaGreatDoorMCrcWalk
import Derived.Test.YtfdpnjebhllpkaaGreatDoorMManMay2
import Derived.Test.YtfdpnjebhllpkaaGreatDoorMFrameNext2
import Derived.Test.YtfdpnjebhllpkaaGreatDoorMMnLaw
namespace Go.Proofs.YtfdpnjebhllpkaaGreatDoor.Sg
open Go.RowKit Ma

def mag : List UInt8 := [82, 67, 83, 49]
/-- A segment's head; none of a number that may not be. -/
def head (n : Int) : List UInt8 := if okN n = true then mag ++ (Fr.le n.toNat ++ [0, 0, 0, 0]) else []
theorem head_len {n : Int} (h : okN n = true) : (head n).length = 12 := by unfold head; rw [if_pos h]; rfl
def hrow (n k : Nat) : List UInt8 := mag ++ (List.range k).map fun j => Fr.by_ (n / 2 ^ (8 * j))
theorem hrow_len (n k : Nat) : (hrow n k).length = 4 + k := by simp [hrow, mag]; omega
theorem hrow_next (n k : Nat) : hrow n (k + 1) = hrow n k ++ [Fr.by_ (n / 2 ^ (8 * k))] := by
  unfold hrow
  rw [List.range_succ, List.map_append, List.append_assoc]
  rfl
theorem hrow_all {n : Nat} (h1 : 1 ≤ n) (h : n ≤ 99999999) : hrow n 8 = head n := by
  have hok : okN (n : Int) = true := by
    unfold okN
    rw [decide_eq_true_eq]
    omega
  have e : hrow n 8 = mag ++ (Fr.le n ++ [0, 0, 0, 0]) := by
    have h4 : n / 4294967296 = 0 := by omega
    have h5 : n / 1099511627776 = 0 := by omega
    have h6 : n / 281474976710656 = 0 := by omega
    have h7 : n / 72057594037927936 = 0 := by omega
    simp [hrow, List.range_succ, Fr.le, h4, h5, h6, h7, Fr.by_]
  rw [e]
  unfold head
  rw [hok, if_pos rfl, Int.toNat_natCast]

set_option maxHeartbeats 1000000 in
set_option maxRecDepth 100000 in
theorem Head_any (n : Int) (w : World) :
    Calls Tryz.prog 20 #[.int .i64 n] w fun e w' => ∃ A c, e = .returned (.slice A (head n).length c) ∧ OwB w' w.heap.size 5 (.slice A (head n).length c) (head n) ∧ Below w.heap.size w w' := by
  have kc := fun (w : World) (C : Array Value) (n c : Nat) => Lib.run_convert_bytes_const (P := Tryz.prog) w 22 5 C n c Tryz.underlying22 Tryz.underlying5
  cases hok : okN n
  · have hh : head n = [] := by unfold head; rw [hok, if_neg (by simp)]
    rw [hh]
    go_enter Tryz.func20, Tryz.ntmps20
    go_wp2_with fail
    refine (segmay_any n w).mono ?_
    rw [hok]
    rintro e w1 ⟨rfl, rfl⟩
    clear kc
    go_wp2_with fail
    go_ret
    exact ⟨none, 0, rfl, OwB.nil _ _ _, Below.refl _ _⟩
  · obtain ⟨m, rfl, h1, h2⟩ := okN_nat hok
    go_enter Tryz.func20, Tryz.ntmps20
    go_wp2_with fail
    refine (segmay_any m w).mono ?_
    rw [hok]
    rintro e w1 ⟨rfl, rfl⟩
    have hmg := bs_lit w1 #[.int .u8 82, .int .u8 67, .int .u8 83, .int .u8 49] 5 (4, 5) mag 4 rfl (by omega) rfl
    have hmg' := Lib.hid hmg
    have hba := Lib.hid (below_alloc w1 (.cells #[.int .u8 82, .int .u8 67, .int .u8 83, .int .u8 49] 5 (4, 5)))
    clear hmg
    go_wp2_with fail
    go_loopw [3, 10] (fun bv v wr => ∃ (k : Nat) (A3 : Option Addr) (c3 m3 : Nat), k ≤ 8 ∧ Hid (m3 = 4 + k) ∧ v = .int .i64 (k : Nat) ∧ bv = .slice A3 m3 c3 ∧
      Hid ((k = 0 ∧ c3 = m3 ∧ Bs wr A3 m3 c3 (hrow m k)) ∨ OwB wr w1.heap.size 5 (.slice A3 m3 c3) (hrow m k)) ∧ Hid (Below w1.heap.size w1 wr)) (fun _ v _ => 8 - (intOf v).toNat)
    case atStart => exact ⟨0, some ⟨w1.heap.size, 0, none⟩, 4, 4, by omega, Lib.hid rfl, rfl, rfl, Lib.hid (.inl ⟨rfl, rfl, hmg'.out⟩), hba⟩
    case round =>
      obtain ⟨k, A3, c3, m3, hk, hm3, rfl, rfl, hb3, hbw⟩ := hrel
      by_cases hlt : k < 8
      · have i0 : decide ((k : Int) < 8) = true := by simp; omega
        have i1 : (k : Int) < 8 := by omega
        have hby : ((m : Int) / 2 ^ (8 * k) % 256) = ((Fr.by_ (m / 2 ^ (8 * k))).toNat : Int) := by rw [Fr.by_nat]; simp
        have hone := Lib.hid (bs_lit wr #[.int .u8 ((m : Int) / 2 ^ (8 * k) % 256)] 5 (0, 0) [Fr.by_ (m / 2 ^ (8 * k))] 1 rfl (by omega) (by rw [hby]; rfl))
        have hbr := Lib.hid (below_alloc wr (.cells #[.int .u8 ((m : Int) / 2 ^ (8 * k) % 256)] 5))
        have hbw2 := Lib.hid (hbw.out.trans (hbr.out.mono hbw.out.size))
        have hnext' := Lib.hid (hrow_next m k)
        clear hby
        go_wp2_with (at_builtin; apply stop_here)
        rcases hb3.out with ⟨hk0, rfl, hbs⟩ | hob
        · clear hk0
          have hf := Lib.hid (hbs.below hbr.out)
          refine Stop.go (append_bytes_full _ 22 5 Tryz.underlying22 info_u8 rfl _ _ rfl _ c3 c3 _ rfl hf.out _ 1 1 _ rfl hone.out (by omega) (by omega) (c3 + 1) rfl (by have := hm3.out; omega) ?_)
          intro A6 c6 w6 h1 h3
          have h1' := Lib.hid (OwB.base (B' := w1.heap.size) h1 hbw2.out.size)
          have hx6 := Lib.hid (hbw2.out.trans (h3.mono hbw2.out.size))
          clear h1 h3 hf hb3 hone hbr hbs
          go_wp2_with fail
          go_roundw
          case rel => exact ⟨k + 1, A6, c6, c3 + 1, by omega, Lib.hid (by have := hm3.out; omega), by go_num, rfl, Lib.hid (.inr (by rw [hnext'.out]; exact h1'.out)), hx6⟩
          case measure => simp [intOf]; omega
        · have hf := Lib.hid (hob.below hbr.out)
          have hlen : (hrow m k).length = m3 := hob.rd_len
          refine Stop.go (append_bytes _ 22 5 Tryz.underlying22 info_u8 rfl _ _ rfl w1.heap.size _ _ rfl hf.out _ 1 1 _ rfl hone.out (m3 + 1) (by rw [hlen]) (by have := hm3.out; omega) hbw2.out.size ?_)
          intro A6 c6 w6 h1 hg h3
          have h1' := Lib.hid h1
          have hx6 := Lib.hid (hbw2.out.trans h3)
          clear h1 h3 hf hb3 hlen hob hone hbr hg
          go_wp2_with fail
          go_roundw
          case rel => exact ⟨k + 1, A6, c6, m3 + 1, by omega, Lib.hid (by have := hm3.out; omega), by go_num, rfl, Lib.hid (.inr (by rw [hnext'.out]; exact h1'.out)), hx6⟩
          case measure => simp [intOf]; omega
      · obtain rfl : k = 8 := by omega
        have hob : OwB wr w1.heap.size 5 (.slice A3 m3 c3) (hrow m 8) := by
          rcases hb3.out with ⟨h, _⟩ | h
          · omega
          · exact h
        have hob' := Lib.hid hob
        have i0 : decide (((8 : Nat) : Int) < 8) = false := by decide
        clear hb3 hob kc
        go_wp2_with fail
        go_ret
        have hob := hob'.out
        rw [hrow_all h1 h2] at hob
        have hl := hob.rd_len
        exact ⟨A3, c3, by rw [hl]; rfl, by rw [hl]; exact hob, hbw.out⟩

set_option maxHeartbeats 1000000 in
set_option maxRecDepth 100000 in
theorem refHead_any (n : Int) (w : World) :
    Calls Tryz.prog 21 #[.int .i64 n] w fun e w' => ∃ A c, e = .returned (.slice A (head n).length c) ∧ OwB w' w.heap.size 5 (.slice A (head n).length c) (head n) ∧ Below w.heap.size w w' := by
  have kc := fun (w : World) (C : Array Value) (n c : Nat) => Lib.run_convert_bytes_const (P := Tryz.prog) w 22 5 C n c Tryz.underlying22 Tryz.underlying5
  cases hok : okN n
  · have hh : head n = [] := by unfold head; rw [hok, if_neg (by simp)]
    rw [hh]
    go_enter Tryz.func21, Tryz.ntmps21
    go_wp2_with fail
    refine (may7_any n w).mono ?_
    rw [hok]
    rintro e w1 ⟨rfl, rfl⟩
    clear kc
    go_wp2_with fail
    go_ret
    exact ⟨none, 0, rfl, OwB.nil _ _ _, Below.refl _ _⟩
  · obtain ⟨m, rfl, h1, h2⟩ := okN_nat hok
    go_enter Tryz.func21, Tryz.ntmps21
    go_wp2_with fail
    refine (may7_any m w).mono ?_
    rw [hok]
    rintro e w1 ⟨rfl, rfl⟩
    have hmg' := Lib.hid (bs_lit w1 #[.int .u8 82, .int .u8 67, .int .u8 83, .int .u8 49] 5 (4, 5) mag 4 rfl (by omega) rfl)
    have hba := Lib.hid (below_alloc w1 (.cells #[.int .u8 82, .int .u8 67, .int .u8 83, .int .u8 49] 5 (4, 5)))
    go_wp2_with fail
    refine (FrW.put32_any m (by omega) _).mono ?_
    rintro e w2 ⟨A2, c2, rfl, ho2, hb2⟩
    have hx2 := Lib.hid (hba.out.trans (hb2.mono hba.out.size))
    have hm2 := Lib.hid (hmg'.out.below hb2)
    have ho2' := Lib.hid ho2.bs
    clear ho2 hb2 hba hmg' kc
    go_wp2_with (at_builtin; apply stop_here)
    refine Stop.go (append_bytes_full _ 22 5 Tryz.underlying22 info_u8 rfl _ _ rfl _ 4 4 _ rfl hm2.out _ 4 c2 _ rfl ho2'.out (by omega) (by omega) 8 rfl (by omega) ?_)
    intro A3 c3 w3 h3 hb3
    have hx3 := Lib.hid (hx2.out.trans (hb3.mono hx2.out.size))
    have ho3 := Lib.hid (OwB.base (B' := w1.heap.size) h3 hx2.out.size)
    clear h3 hb3 hm2 ho2'
    have hz := Lib.hid (bs_lit w3 #[.int .u8 0, .int .u8 0, .int .u8 0, .int .u8 0] 5 (0, 0) [0, 0, 0, 0] 4 rfl (by omega) rfl)
    have hbz := Lib.hid (below_alloc w3 (.cells #[.int .u8 0, .int .u8 0, .int .u8 0, .int .u8 0] 5))
    have hf := Lib.hid (ho3.out.below hbz.out)
    have hx4 := Lib.hid (hx3.out.trans (hbz.out.mono hx3.out.size))
    go_wp2_with (at_builtin; apply stop_here)
    refine Stop.go (append_bytes _ 22 5 Tryz.underlying22 info_u8 rfl _ _ rfl w1.heap.size _ _ rfl hf.out _ 4 4 _ rfl hz.out 12 rfl (by omega) hx4.out.size ?_)
    intro A6 c6 w6 h6 _ hb6
    have hh : mag ++ Fr.le m ++ [0, 0, 0, 0] = head m := by unfold head; rw [hok, if_pos rfl, Int.toNat_natCast, List.append_assoc]
    rw [hh] at h6
    have h6' := Lib.hid h6
    have hx6 := Lib.hid (hx4.out.trans hb6)
    clear h6 hb6 hz hbz hf hh
    go_wp2_with fail
    go_ret
    have hl := head_len hok
    exact ⟨A6, c6, by rw [hl]; rfl, by rw [hl]; exact h6'.out, hx6.out⟩
end Go.Proofs.YtfdpnjebhllpkaaGreatDoor.Sg
