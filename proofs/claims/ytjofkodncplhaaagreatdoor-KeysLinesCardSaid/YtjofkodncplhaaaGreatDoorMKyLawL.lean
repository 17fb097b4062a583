/- The law KeysLines. -/
import Derived.Test.YtjofkodncplhaaaGreatDoorMKyAwake
import Derived.Test.YtjofkodncplhaaaGreatDoorMKyLines
import Derived.Test.YtjofkodncplhaaaGreatDoorMKyRm
import Derived.Test.YtjofkodncplhaaaGreatDoorMKyRs
import Derived.Test.YtjofkodncplhaaaGreatDoorMKyRt
import Derived.Test.YtjofkodncplhaaaGreatDoorMKyRc
import Derived.Test.YtjofkodncplhaaaGreatDoorMKyFin
namespace Go.Proofs.YtjofkodncplhaaaGreatDoor.Ky
open Go.RowKit UtfW Er

theorem idle_snoc : ∀ j, idle (j + 1) = idle j ++ [32, 10, 35, 120, 10]
  | 0 => rfl
  | j + 1 => by
    have h := idle_snoc j
    rw [idle, h, ← List.append_assoc, ← idle]
    rw [idle]
    rw [← h]
    rfl
theorem idle_len : ∀ j, (idle j).length = 5 * j
  | 0 => rfl
  | j + 1 => by
    rw [idle, List.length_append, idle_len j]
    simp
    omega
theorem decoR_snoc (k : Nat) : ∀ (l : List Rl) (r : Rl), decoR k (l ++ [r]) = decoR k l ++ (idle k ++ ([32, 9] ++ textL r ++ [32, 13, 10]))
  | [], r => by simp [decoR]
  | x :: l, r => by
    rw [List.cons_append, decoR, decoR, decoR_snoc k l r]
    simp only [List.append_assoc]
theorem decoR_len (k : Nat) : ∀ l : List Rl, (decoR k l).length + l.length ≤ (5 * k + 5) * l.length + 5 * wts l
  | [] => by simp [decoR, wts]
  | r :: l => by
    have h := decoR_len k l
    have h2 := textL_len r
    rw [decoR]
    simp only [List.length_append, List.length_cons, List.length_nil, idle_len, wts, List.map_cons, List.sum_cons] at h ⊢
    rw [Nat.mul_succ]
    omega

set_option maxHeartbeats 2000000 in
set_option maxRecDepth 100000 in
theorem lines_any (A : Option Addr) (n c : Nat) (l : List Rl) (yn : Nat) (hy : yn < 256) (W : World) (h : Rs W A n c l) (hB : Big l) (hU : Ut W) (hE : En W.heap.size W) :
    Calls Tryz.prog 4 #[.slice A n c, .int .u8 (yn : Nat)] W fun e w' => e = .returned (.bool true) ∧ Below W.heap.size W w' := by
  have haw := awake_any W hU hE
  have h' := Lib.hid h
  have hB' := Lib.hid hB
  have hl := Lib.hid h.len
  have hm := h.max
  have hle := h.le
  clear h hB
  go_enter Tryz.func4, Tryz.ntmps4
  go_wp2_with fail
  refine haw.mono ?_
  rintro e w1 ⟨rfl, hb1⟩
  have hx1 := Lib.hid hb1
  clear hb1 haw
  go_wp2_with fail
  refine (refSmall_any A n c l w1 (h'.out.below hx1.out) hB'.out).mono ?_
  rintro e w2 ⟨V, rfl, hV, hb2⟩
  have hx2 := Lib.hid (hx1.out.trans (hb2.mono hx1.out.size))
  have hV' := Lib.hid hV
  clear hb2 hV
  cases V with
  | false =>
    go_wp2_with fail
    go_ret
    exact ⟨rfl, hx2.out⟩
  | true =>
    have hw' := Lib.hid (hV'.out rfl)
    have hsm := Lib.hid (small_of (show wts l ≤ 3000 by have := hw'.out; omega))
    have hma := refMay_any A n c l w2 (h'.out.below hx2.out) (fun r hr => smr_mono (hsm.out r hr) (by decide))
    clear hV'
    cases hmb : mayB nameR l with
    | false =>
      rw [hmb] at hma
      clear hmb
      go_wp2_with fail
      refine hma.mono ?_
      rintro e w3 ⟨rfl, hb3⟩
      have hx3 := Lib.hid (hx2.out.trans (hb3.mono hx2.out.size))
      clear hb3 hma
      go_wp2_with fail
      go_ret
      exact ⟨rfl, hx3.out⟩
    | true =>
      rw [hmb] at hma
      have hmb' := Lib.hid hmb
      have hn64 : n ≤ 64 := by
        have h1 := hmb
        unfold mayB at h1
        rw [Bool.and_eq_true, decide_eq_true_eq] at h1
        have := hl.out
        omega
      clear hmb
      go_wp2_with fail
      refine hma.mono ?_
      rintro e w3 ⟨rfl, hb3⟩
      have hx3 := Lib.hid (hx2.out.trans (hb3.mono hx2.out.size))
      clear hb3 hma
      obtain ⟨K, hK⟩ : ∃ K, yn % 4 = K := ⟨_, rfl⟩
      have hK3 : K ≤ 3 := by omega
      have hK' := Lib.hid hK
      have hlen : Hid (∀ j, j ≤ n → (decoR K (l.take j)).length ≤ 30000) := Lib.hid fun j hj => by
        have h1 := decoR_len K (l.take j)
        have h2 : wts (l.take j) ≤ wts l := by
          have := wts_append (l.take j) (l.drop j)
          rw [List.take_append_drop] at this
          omega
        have h3 : (l.take j).length ≤ 64 := by rw [List.length_take]; omega
        have h4 : (5 * K + 5) * (l.take j).length ≤ 20 * 64 := Nat.mul_le_mul (by omega) h3
        have := hw'.out
        omega
      clear hK
      go_wp2_with fail
      go_loopw [5, 6] (fun o v wr => ∃ (i : Nat) (S : ByteArray), i ≤ n ∧ v = .int .i64 i ∧ o = .string S ∧ Hid (S = strOf (remark ++ [13, 10] ++ decoR K (l.take i))) ∧ Hid (Below W.heap.size W wr)) (fun _ v _ => n - (intOf v).toNat)
      case atStart => exact ⟨0, _, by omega, rfl, rfl, Lib.hid rfl, hx3⟩
      case round =>
        obtain ⟨i, S, hi, rfl, rfl, hS, hb⟩ := hrel
        by_cases hlt : i < n
        · have i1 : decide ((i : Int) < (n : Int)) = true := by rw [decide_eq_true_eq]; omega
          have i2 : decide (i < n) = true := by rw [decide_eq_true_eq]; omega
          obtain ⟨wo, hwo⟩ : ∃ wo, wo = wr := ⟨wr, rfl⟩
          subst hwo
          go_wp2_with fail
          go_loopw [5, 7] (fun o v wq => ∃ (j : Nat) (S2 : ByteArray), j ≤ K ∧ v = .int .i64 j ∧ o = .string S2 ∧ Hid (S2 = strOf (remark ++ [13, 10] ++ decoR K (l.take i) ++ idle j)) ∧ wq = wo) (fun _ v _ => K - (intOf v).toNat)
          case atStart => exact ⟨0, S, by omega, rfl, rfl, Lib.hid (by rw [hS.out]; simp [idle]), by first | rfl | trivial⟩
          case round =>
            clear i1 i2
            obtain ⟨j, S2, hj, rfl, rfl, hS2, rfl⟩ := hrel
            have hSz2 : S2.size ≤ 31000 := by
              have := hlen.out i hi
              rw [hS2.out, strOf_size', List.length_append, List.length_append, idle_len]
              simp [remark]
              omega
            by_cases hjK : j < K
            · have i1 : decide ((j : Int) < (yn : Int) % 4) = true := by rw [decide_eq_true_eq]; have := hK'.out; omega
              have i2 : decide (j < yn % 4) = true := by rw [decide_eq_true_eq, hK'.out]; exact hjK
              obtain ⟨S3, hS3⟩ : ∃ S3, S2 ++ ⟨#[32, 10, 35, 120, 10]⟩ = S3 := ⟨_, rfl⟩
              have e0 := fun w => run_string_add_sum (P := Tryz.prog) w S2 ⟨#[32, 10, 35, 120, 10]⟩ (by rw [show (ByteArray.mk #[32, 10, 35, 120, 10]).size = 5 from rfl]; omega)
              rw [hS3] at e0
              have hn3 : Hid (S3 = strOf (remark ++ [13, 10] ++ decoR K (l.take i) ++ idle (j + 1))) := Lib.hid (by
                rw [← hS3, hS2.out, show (ByteArray.mk #[32, 10, 35, 120, 10]) = strOf [32, 10, 35, 120, 10] from rfl, strOf_add, idle_snoc]
                simp only [List.append_assoc])
              clear hS3
              go_wp2_with fail
              go_roundw
              case rel => exact ⟨j + 1, S3, by omega, by go_num, rfl, hn3, by first | rfl | trivial⟩
              case measure => simp [intOf]; omega
            · obtain rfl : j = K := by omega
              have i1 : decide ((j : Int) < (yn : Int) % 4) = false := by rw [decide_eq_false_iff_not]; have := hK'.out; omega
              have i2 : decide (j < yn % 4) = false := by rw [decide_eq_false_iff_not, hK'.out]; exact hjK
              obtain ⟨b, off, r, A1, n1, c1, A2, n2, c2, hAe, hbl, hr, _, _, _, _⟩ := Rs.at_ h'.out hlt
              have hcut : Rs wr (some ⟨b, off + i * 2, none⟩) 1 (c - i) [r] := by
                have := Sq.cut (h'.out.below hb.out) i (i + 1) (by omega) (by omega) (some ⟨b, off + i * 2, none⟩) (fun b' o' e _ => by rw [hAe] at e; injection e with e; injection e with e1 e2; subst e1; subst e2; rfl) (fun h1 h2 => by cases h2)
                rw [show i + 1 - i = 1 by omega, List.drop_eq_getElem_cons (by have := hl.out; omega), List.take_succ_cons, List.take_zero, (List.getElem?_eq_some_iff.1 hr).2] at this
                exact this
              have hwr := wts_le (List.mem_of_getElem? hr)
              have hw3 := hw'.out
              have htl := textL_len r
              have htx := Lib.hid (refText_any (some ⟨b, off + i * 2, none⟩) 1 (c - i) [r] wr hcut (by simp [wts]; omega))
              have e1 : textR [r] = textL r ++ [10] := by simp [textR]
              rw [e1] at htx
              have hdec : Hid (decoR j (l.take (i + 1)) = decoR j (l.take i) ++ (idle j ++ ([32, 9] ++ textL r ++ [32, 13, 10]))) := Lib.hid (by rw [take_one hr, decoR_snoc])
              obtain ⟨tl, htle⟩ : ∃ tl, textL r = tl := ⟨_, rfl⟩
              rw [htle] at htx htl hdec
              have htlz : tl.length ≤ 15000 := by omega
              subst hAe
              have k1 : i ≤ i + 1 := by omega
              have k2 : i + 1 ≤ c := by omega
              have k3 : i ≤ c := by omega
              have k4 : i < c := by omega
              clear hr hcut hwr e1 htle hjK
              go_wp2_with fail
              obtain ⟨Z, hZ⟩ : ∃ Z, strOf (tl ++ [10]) = Z := ⟨_, rfl⟩
              rw [hZ] at htx
              refine htx.out.mono ?_
              rintro e w4 ⟨rfl, hb4⟩
              have hx4 := Lib.hid (hb.out.trans (hb4.mono hb.out.size))
              obtain ⟨TL, hTL⟩ : ∃ TL, strOf tl = TL := ⟨_, rfl⟩
              have hTLs : TL.size = tl.length := by rw [← hTL, strOf_size']
              have zcut : Z.extract 0 (Z.size - 1) = TL := by
                rw [← hZ, bs_cut, strOf_data', strOf_size', ← hTL]
                simp
              have hZb : Z.size ≤ 15001 := by rw [← hZ, strOf_size']; simp; omega
              have hZs : 1 ≤ Z.size := by rw [← hZ, strOf_size']; simp
              have i8 : (Z.size : Int) - 1 = ((Z.size - 1 : Nat) : Int) := by omega
              have i9 : Z.size - 1 ≤ Z.size := by omega
              obtain ⟨S4, hS4⟩ : ∃ S4, S2 ++ ⟨#[32, 9]⟩ = S4 := ⟨_, rfl⟩
              have e1 := fun w => run_string_add_sum (P := Tryz.prog) w S2 ⟨#[32, 9]⟩ (by rw [show (ByteArray.mk #[32, 9]).size = 2 from rfl]; omega)
              rw [hS4] at e1
              have z4 : S4.size ≤ 31002 := by rw [← hS4, ByteArray.size_append, show (ByteArray.mk #[32, 9]).size = 2 from rfl]; omega
              obtain ⟨S5, hS5⟩ : ∃ S5, S4 ++ TL = S5 := ⟨_, rfl⟩
              have e2 := fun w => run_string_add_sum (P := Tryz.prog) w S4 TL (by omega)
              rw [hS5] at e2
              have z5 : S5.size ≤ 46002 := by rw [← hS5, ByteArray.size_append]; omega
              obtain ⟨S6, hS6⟩ : ∃ S6, S5 ++ ⟨#[32, 13, 10]⟩ = S6 := ⟨_, rfl⟩
              have e3 := fun w => run_string_add_sum (P := Tryz.prog) w S5 ⟨#[32, 13, 10]⟩ (by rw [show (ByteArray.mk #[32, 13, 10]).size = 3 from rfl]; omega)
              rw [hS6] at e3
              have hfin : Hid (S6 = strOf (remark ++ [13, 10] ++ decoR j (l.take (i + 1)))) := Lib.hid (by
                rw [← hS6, ← hS5, ← hS4, hS2.out, ← hTL, hdec.out, show (ByteArray.mk #[32, 9]) = strOf [32, 9] from rfl, show (ByteArray.mk #[32, 13, 10]) = strOf [32, 13, 10] from rfl, strOf_add, strOf_add, strOf_add]
                simp only [List.append_assoc])
              have hi1 : i + 1 ≤ n := hlt
              clear hb4 htx hZ hTL hS4 hS5 hS6 htl hlt
              go_wp2_with fail
              go_roundw
              case rel => exact ⟨i + 1, S6, by omega, by go_num, rfl, hfin, hx4⟩
              case measure => simp [intOf]; omega
        · have i1 : decide ((i : Int) < (n : Int)) = false := by rw [decide_eq_false_iff_not]; omega
          have i2 : decide (i < n) = false := by rw [decide_eq_false_iff_not]; omega
          have hS9 : Hid (S = strOf (deco K l)) := Lib.hid (by
            rw [hS.out, List.take_of_length_le (by have := hl.out; omega)]
            rfl)
          have hSz : S.size ≤ 30012 := by
            have := hlen.out i hi
            rw [hS.out, strOf_size']
            simp [remark]
            omega
          have hp := Parse_any S (by omega) wr (hU.below hb.out)
          have e9 : S.data.toList = deco K l := by rw [hS9.out]; exact strOf_data' _
          rw [e9] at hp
          have hp' := Lib.hid hp
          have hlw := Lib.hid (lines_law names K hmb'.out)
          clear hp e9
          go_wp2_with fail
          refine hp'.out.mono ?_
          intro e w5 h5
          obtain ⟨A', c', rfl, hb5, hr5⟩ := h5.ok hlw.out
          have hx5 := Lib.hid (hb.out.trans (hb5.mono hb.out.size))
          have hr5' := Lib.hid hr5
          clear hb5 h5 hr5
          go_wp2_with fail
          refine (Code_ok w5).mono ?_
          rintro e w6 ⟨rfl, hb6⟩
          have hx6 := Lib.hid (hx5.out.trans (hb6.mono hx5.out.size))
          have hr6 := Lib.hid (hr5'.out.below hb6)
          clear hb6 hr5'
          have hru := refRules_any A' l.length c' l A n c l w6 hr6.out (h'.out.below hx6.out)
          rw [decide_eq_true (rfl : l = l)] at hru
          go_wp2_with fail
          refine hru.mono ?_
          rintro e w7 ⟨rfl, hb7⟩
          have hx7 := Lib.hid (hx6.out.trans (hb7.mono hx6.out.size))
          clear hb7 hru hr6
          go_wp2_with fail
          go_ret
          exact ⟨rfl, hx7.out⟩
end Go.Proofs.YtjofkodncplhaaaGreatDoor.Ky
