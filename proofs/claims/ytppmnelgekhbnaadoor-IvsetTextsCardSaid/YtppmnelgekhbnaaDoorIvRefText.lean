/- The document's Text. -/
import Derived.Test.YtppmnelgekhbnaaDoorIvText
import Derived.Test.YtppmnelgekhbnaaDoorIvWalk2
import Derived.Deep.QuietTactic
import Derived.BigQuiet
namespace Go.Proofs.YtppmnelgekhbnaaDoor.IvW
open Go.RowKit Iv

theorem join_snoc (xs : List (List UInt8)) (y : List UInt8) : Lib.join (xs ++ [y]) [44] = if xs = [] then y else Lib.join xs [44] ++ 44 :: y := by
  cases xs with
  | nil => simp [Lib.join_one]
  | cons x r =>
    rw [if_neg (by simp), List.cons_append, Lib.join_cons, Lib.join_cons]
    simp [Lib.joinTail]

theorem textP_snoc (l : List Span) (p : Span) : textP (l ++ [p]) = if l = [] then it p else textP l ++ 44 :: it p := by
  unfold textP
  rw [List.map_append, List.map_singleton, join_snoc]
  cases l <;> simp

set_option maxHeartbeats 2000000 in
set_option maxRecDepth 100000 in
theorem reftext_any (A : Option Addr) (n c : Nat) (l : List Span) (w : World) (hR : Rp w A n c l) (hn : n ≤ 1000) :
    Calls Tryd.prog 13 #[.slice A n c] w fun e w' => e = .returned (.string (strOf (text? l))) ∧ Below w.heap.size w w' := by
  have hla := hR.len
  have a1 := hR.le
  have a2 := hR.max
  obtain ⟨T, hT⟩ : ∃ T, strOf (text? l) = T := ⟨_, rfl⟩
  rw [hT]
  unfold text? at hT
  have hR' := Lib.hid hR
  cases ha : okB 1 l
  · rw [ha] at hT
    simp only [Bool.false_eq_true, if_false] at hT
    have hT' : T = ⟨#[]⟩ := hT.symm
    subst hT'
    clear hT
    have c1 := refmay_any A n c l w hR
    rw [ha] at c1
    go_enter Tryd.func13, Tryd.ntmps13
    go_wp2_with fail
    refine wp_loop_rounds 1 ?_
    rw [rounds_succ]
    cases n with
    | zero =>
      have : l = [] := List.eq_nil_of_length_eq_zero hla
      subst this
      cases ha
    | succ n =>
      go_wp2_with fail
      refine c1.mono ?_
      rintro e w1 ⟨rfl, k, rfl⟩
      have hx := Lib.hid (Joins.below_draws w.heap.size w k)
      go_wp2_with fail
      go_ret
      exact ⟨rfl, hx.out⟩
  · rw [ha] at hT
    simp only [if_true] at hT
    have hT' := Lib.hid hT
    have hall := Lib.hid (ok_all ((okB_iff _ _).1 ha) (by omega))
    have hMay : ∀ w', Below w.heap.size w w' → Calls Tryd.prog 14 #[.slice A n c] w' fun e w'' => e = .returned (.bool true) ∧ ∃ k, w'' = w'.drewN k := fun w' hb => by
      have := refmay_any A n c l w' (hR'.out.below hb)
      rw [ha] at this
      exact this
    have hMay' := Lib.hid hMay
    clear hT ha hR hMay
    go_enter Tryd.func13, Tryd.ntmps13
    go_wp2_with fail
    go_loopw [3, 4] (fun o i wr => ∃ (k : Nat) (S : ByteArray), k ≤ n ∧ i = .int .i64 k ∧ o = .string S ∧ S.size ≤ 20 * k ∧ Hid (S = strOf (textP (l.take k))) ∧ Below w.heap.size w wr) (fun _ i _ => n - (intOf i).toNat)
    case atStart => exact ⟨0, ⟨#[]⟩, by omega, rfl, rfl, by simp; rfl, Lib.hid rfl, Below.refl _ _⟩
    case round =>
      obtain ⟨k, S, hk, rfl, rfl, hSz, hS, hbw⟩ := hrel
      by_cases hlt : k < n
      · have cm := hMay'.out wr hbw
        obtain ⟨b', off, ⟨f, t⟩, rfl, hb, hp, hc1, hc2⟩ := (hR'.out.below hbw).at_ hlt
        obtain ⟨o1, o2, o3⟩ := hall.out _ (List.mem_of_getElem? hp)
        have hstep : textP (l.take (k + 1)) = if l.take k = [] then it (f, t) else textP (l.take k) ++ 44 :: it (f, t) := by rw [take_snoc hp, textP_snoc]
        simp only at hc1 hc2 o1 o2 o3
        have hempty : l.take k = [] ↔ k = 0 := by
          rw [← List.length_eq_zero_iff, List.length_take]; omega
        have hx0 := Lib.hid hbw
        have hS' := hS
        have hstep' := Lib.hid hstep
        have hempty' := Lib.hid hempty
        clear hbw hstep hempty
        go_wp2_with fail
        refine cm.mono ?_
        rintro e w1 ⟨rfl, q, rfl⟩
        have hx1 := Lib.hid (hx0.out.trans ((Joins.below_draws wr.heap.size wr q).mono hx0.out.size))
        clear cm hx0
        rcases Nat.eq_zero_or_pos k with rfl | hkp
        · clear hS'
          have hS0 : S = strOf [] := hS.out
          simp only [Nat.zero_mul, Nat.add_zero] at hc1 hc2
          have hS1v : Hid (S = strOf []) := Lib.hid hS0
          have hnx : Hid (textP (l.take 1) = [] ++ it (f, t)) := Lib.hid (by rw [hstep'.out, if_pos (hempty'.out.2 rfl)]; rfl)
          clear hS0
          have ci := Er.ref_Itoa f (by omega) (by omega) (wr.drewN q)
          obtain ⟨F, hF⟩ : ∃ F, Er.itx f = F := ⟨_, rfl⟩
          rw [hF] at ci
          have hFs : F.size ≤ 3 := by rw [← hF]; unfold Er.itx; rw [strOf_size']; exact dec_small o1 (by omega)
          obtain ⟨S2, hS2⟩ : ∃ S2, S ++ F = S2 := ⟨_, rfl⟩
          have e1 := fun w => run_string_add_sum (P := Tryd.prog) w S F (by omega)
          rw [hS2] at e1
          have hS2z : S2.size ≤ S.size + 3 := by rw [← hS2, ByteArray.size_append]; omega
          have hS2v : Hid (S2 = strOf ([] ++ dec f)) := Lib.hid (by rw [← hS2, hS1v.out, ← hF]; unfold Er.itx; rw [strOf_add]; rfl)
          clear hF hS2
          go_wp2_with fail
          refine ci.mono ?_
          rintro e wb ⟨rfl, hbb⟩
          have hxb := Lib.hid (hx1.out.trans (hbb.mono hx1.out.size))
          clear ci hbb hc1 hc2
          obtain ⟨b2, off2, p2, e2, hb2, hp2, hc1, hc2⟩ := (hR'.out.below hxb.out).at_ hlt
          injection e2 with e2
          injection e2 with e3 e4
          subst e3 e4
          rw [hp] at hp2
          injection hp2 with hp2
          subst hp2
          simp only [Nat.zero_mul, Nat.add_zero] at hc1 hc2
          by_cases hft : f < t
          · have d1 : decide (f < t) = true := by simpa using hft
            go_wp2_with fail
            go_quiet (fail)
            have hxq := Lib.hid (hxb.out.trans ((Joins.below_draws _ wb nq).mono hxb.out.size))
            have ct := Er.ref_Itoa t (by omega) (by omega) (wb.drewN nq)
            obtain ⟨G, hG⟩ : ∃ G, Er.itx t = G := ⟨_, rfl⟩
            rw [hG] at ct
            have hGs : G.size ≤ 3 := by rw [← hG]; unfold Er.itx; rw [strOf_size']; exact dec_small (show 0 ≤ t by omega) o3
            obtain ⟨S3, hS3⟩ : ∃ S3, S2 ++ ⟨#[45]⟩ = S3 := ⟨_, rfl⟩
            have e5 := fun w => run_string_add_sum (P := Tryd.prog) w S2 ⟨#[45]⟩ (by rw [show (ByteArray.mk #[45]).size = 1 from rfl]; omega)
            rw [hS3] at e5
            have hS3z : S3.size ≤ S2.size + 1 := by rw [← hS3, ByteArray.size_append, show (ByteArray.mk #[45]).size = 1 from rfl]; omega
            obtain ⟨S4, hS4⟩ : ∃ S4, S3 ++ G = S4 := ⟨_, rfl⟩
            have e6 := fun w => run_string_add_sum (P := Tryd.prog) w S3 G (by omega)
            rw [hS4] at e6
            have hS4z : S4.size ≤ S3.size + 3 := by rw [← hS4, ByteArray.size_append]; omega
            have hfin : Hid (S4 = strOf (textP (l.take (1)))) := Lib.hid (by
              rw [← hS4, ← hS3, hS2v.out, ← hG, hnx.out, show (ByteArray.mk #[45]) = strOf [45] from rfl]
              unfold Er.itx it
              rw [if_pos hft, strOf_add, strOf_add]
              simp [dec])
            clear hG hS3 hS4
            go_wp2_with fail
            refine ct.mono ?_
            rintro e wd ⟨rfl, hbd⟩
            have hxd := Lib.hid (hxq.out.trans (hbd.mono hxq.out.size))
            clear ct hbd hc1 hc2
            go_wp2_with fail
            go_roundw
            case rel => exact ⟨1, S4, by omega, by go_num, rfl, by omega, hfin, hxd.out⟩
            case measure => simp [intOf]; omega
          · have d1 : decide (f < t) = false := by simpa using hft
            have hfin : Hid (S2 = strOf (textP (l.take (1)))) := Lib.hid (by
              rw [hS2v.out, hnx.out]
              unfold it
              rw [if_neg hft])
            go_wp2_with fail
            go_quiet (fail)
            have hxq := Lib.hid (hxb.out.trans ((Joins.below_draws _ wb nq).mono hxb.out.size))
            go_wp2_with fail
            go_roundw
            case rel => exact ⟨1, S2, by omega, by go_num, rfl, by omega, hfin, hxq.out⟩
            case measure => simp [intOf]; omega
        · obtain ⟨k, rfl⟩ : ∃ j, k = j + 1 := ⟨k - 1, by omega⟩
          clear hS'
          obtain ⟨S1, hS1⟩ : ∃ S1, S ++ ⟨#[44]⟩ = S1 := ⟨_, rfl⟩
          have e0 := fun w => run_string_add_sum (P := Tryd.prog) w S ⟨#[44]⟩ (by rw [show (ByteArray.mk #[44]).size = 1 from rfl]; omega)
          rw [hS1] at e0
          have hS1z : S1.size ≤ 20 * (k + 1) + 1 := by rw [← hS1, ByteArray.size_append, show (ByteArray.mk #[44]).size = 1 from rfl]; omega
          have hS1v : Hid (S1 = strOf (textP (l.take (k + 1)) ++ [44])) := Lib.hid (by rw [← hS1, hS.out, show (ByteArray.mk #[44]) = strOf [44] from rfl, strOf_add])
          have hnx : Hid (textP (l.take (k + 1 + 1)) = (textP (l.take (k + 1)) ++ [44]) ++ it (f, t)) := Lib.hid (by rw [hstep'.out, if_neg (fun h => by have := hempty'.out.1 h; omega)]; simp)
          clear hS1
          have ci := Er.ref_Itoa f (by omega) (by omega) (wr.drewN q)
          obtain ⟨F, hF⟩ : ∃ F, Er.itx f = F := ⟨_, rfl⟩
          rw [hF] at ci
          have hFs : F.size ≤ 3 := by rw [← hF]; unfold Er.itx; rw [strOf_size']; exact dec_small o1 (by omega)
          obtain ⟨S2, hS2⟩ : ∃ S2, S1 ++ F = S2 := ⟨_, rfl⟩
          have e1 := fun w => run_string_add_sum (P := Tryd.prog) w S1 F (by omega)
          rw [hS2] at e1
          have hS2z : S2.size ≤ S1.size + 3 := by rw [← hS2, ByteArray.size_append]; omega
          have hS2v : Hid (S2 = strOf ((textP (l.take (k + 1)) ++ [44]) ++ dec f)) := Lib.hid (by rw [← hS2, hS1v.out, ← hF]; unfold Er.itx; rw [strOf_add]; rfl)
          clear hF hS2
          go_wp2_with fail
          refine ci.mono ?_
          rintro e wb ⟨rfl, hbb⟩
          have hxb := Lib.hid (hx1.out.trans (hbb.mono hx1.out.size))
          clear ci hbb hc1 hc2
          obtain ⟨b2, off2, p2, e2, hb2, hp2, hc1, hc2⟩ := (hR'.out.below hxb.out).at_ hlt
          injection e2 with e2
          injection e2 with e3 e4
          subst e3 e4
          rw [hp] at hp2
          injection hp2 with hp2
          subst hp2
          simp only at hc1 hc2
          by_cases hft : f < t
          · have d1 : decide (f < t) = true := by simpa using hft
            go_wp2_with fail
            go_quiet (fail)
            have hxq := Lib.hid (hxb.out.trans ((Joins.below_draws _ wb nq).mono hxb.out.size))
            have ct := Er.ref_Itoa t (by omega) (by omega) (wb.drewN nq)
            obtain ⟨G, hG⟩ : ∃ G, Er.itx t = G := ⟨_, rfl⟩
            rw [hG] at ct
            have hGs : G.size ≤ 3 := by rw [← hG]; unfold Er.itx; rw [strOf_size']; exact dec_small (show 0 ≤ t by omega) o3
            obtain ⟨S3, hS3⟩ : ∃ S3, S2 ++ ⟨#[45]⟩ = S3 := ⟨_, rfl⟩
            have e5 := fun w => run_string_add_sum (P := Tryd.prog) w S2 ⟨#[45]⟩ (by rw [show (ByteArray.mk #[45]).size = 1 from rfl]; omega)
            rw [hS3] at e5
            have hS3z : S3.size ≤ S2.size + 1 := by rw [← hS3, ByteArray.size_append, show (ByteArray.mk #[45]).size = 1 from rfl]; omega
            obtain ⟨S4, hS4⟩ : ∃ S4, S3 ++ G = S4 := ⟨_, rfl⟩
            have e6 := fun w => run_string_add_sum (P := Tryd.prog) w S3 G (by omega)
            rw [hS4] at e6
            have hS4z : S4.size ≤ S3.size + 3 := by rw [← hS4, ByteArray.size_append]; omega
            have hfin : Hid (S4 = strOf (textP (l.take (k + 1 + 1)))) := Lib.hid (by
              rw [← hS4, ← hS3, hS2v.out, ← hG, hnx.out, show (ByteArray.mk #[45]) = strOf [45] from rfl]
              unfold Er.itx it
              rw [if_pos hft, strOf_add, strOf_add]
              simp [dec])
            clear hG hS3 hS4
            go_wp2_with fail
            refine ct.mono ?_
            rintro e wd ⟨rfl, hbd⟩
            have hxd := Lib.hid (hxq.out.trans (hbd.mono hxq.out.size))
            clear ct hbd hc1 hc2
            go_wp2_with fail
            go_roundw
            case rel => exact ⟨k + 1 + 1, S4, by omega, by go_num, rfl, by omega, hfin, hxd.out⟩
            case measure => simp [intOf]; omega
          · have d1 : decide (f < t) = false := by simpa using hft
            have hfin : Hid (S2 = strOf (textP (l.take (k + 1 + 1)))) := Lib.hid (by
              rw [hS2v.out, hnx.out]
              unfold it
              rw [if_neg hft])
            go_wp2_with fail
            go_quiet (fail)
            have hxq := Lib.hid (hxb.out.trans ((Joins.below_draws _ wb nq).mono hxb.out.size))
            go_wp2_with fail
            go_roundw
            case rel => exact ⟨k + 1 + 1, S2, by omega, by go_num, rfl, by omega, hfin, hxq.out⟩
            case measure => simp [intOf]; omega
      · obtain rfl : k = n := by omega
        have hfin : S = T := by rw [hS.out, ← hT'.out, List.take_of_length_le (by omega)]
        have hbw' := Lib.hid hbw
        have hfin' := Lib.hid hfin
        clear hbw hfin
        go_wp2_with fail
        go_ret
        exact ⟨by rw [← hfin'.out]; rfl, hbw'.out⟩
end Go.Proofs.YtppmnelgekhbnaaDoor.IvW
