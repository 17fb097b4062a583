/- The law IvsetOne. -/
import Derived.Test.YtppmnelgekhbnaaGreatDoorIvAwake
import Derived.Test.YtppmnelgekhbnaaGreatDoorIvSame
import Derived.Test.YtppmnelgekhbnaaGreatDoorIvOneRef
namespace Go.Proofs.YtppmnelgekhbnaaGreatDoor.IvW
open Go.RowKit Iv

set_option maxHeartbeats 4000000 in
set_option maxRecDepth 100000 in
theorem one_law (A : Option Addr) (n c : Nat) (l : List Span) (v : Int) (B : Option Addr) (m d : Nat) (zs : List Int) (w : World) (hE : Iw w) (hA : Rp w A n c l) (hI : Rd w B m d (zs.map (Value.int .i64))) :
    Calls Tryz.prog 3 #[.slice A n c, .int .i64 v, .slice B m d] w fun e w' => e = .returned (.bool true) ∧ Below w.heap.size w w' := by
  have hA' := Lib.hid hA
  have hI' := Lib.hid hI
  have hdm := Rd.max hI
  have hdl := Rd.le hI
  have c0 := awake_any w hE
  clear hE hA hI
  go_enter Tryz.func3, Tryz.ntmps3
  go_wp2_with fail
  refine c0.mono ?_
  rintro e w1 ⟨rfl, hb1⟩
  have hx1 := Lib.hid hb1
  clear c0 hb1
  by_cases hsm : n ≤ 300
  case neg =>
    have hs : (decide (n ≤ 300) && decide (0 ≤ 300)) = false := by simp; omega
    have cs := small_any A n c none 0 0 w1
    rw [hs] at cs
    clear hs
    go_wp2_with fail
    refine cs.mono ?_
    rintro e w2 ⟨rfl, rfl⟩
    go_wp2_with fail
    go_ret
    exact ⟨rfl, hx1.out⟩
  case pos =>
  have hs : (decide (n ≤ 300) && decide (0 ≤ 300)) = true := by simp; omega
  have cs := small_any A n c none 0 0 w1
  rw [hs] at cs
  clear hs
  by_cases hsz : m ≤ 1000
  case neg =>
    have t1 : decide ((1000 : Int) < (m : Int)) = true := by simp; omega
    go_wp2_with fail
    refine cs.mono ?_
    rintro e w2 ⟨rfl, rfl⟩
    go_wp2_with fail
    go_ret
    exact ⟨rfl, hx1.out⟩
  case pos =>
  have t1 : decide ((1000 : Int) < (m : Int)) = false := by simp; omega
  go_wp2_with fail
  refine cs.mono ?_
  rintro e w1 ⟨rfl, rfl⟩
  clear cs
  have cc := refcount_any A n c l w1 (hA'.out.below hx1.out)
  obtain ⟨K, hK⟩ : ∃ K, cnt? l = K := ⟨_, rfl⟩
  obtain ⟨F, hF⟩ : ∃ F, first? l = F := ⟨_, rfl⟩
  obtain ⟨L, hL⟩ : ∃ L, last? l = L := ⟨_, rfl⟩
  obtain ⟨O, hO⟩ : ∃ O, okB 1 l = O := ⟨_, rfl⟩
  obtain ⟨H, hH⟩ : ∃ H, has? l v = H := ⟨_, rfl⟩
  rw [hK, hF, hL] at cc
  have hK' := Lib.hid hK
  have hF' := Lib.hid hF
  have hL' := Lib.hid hL
  have hO' := Lib.hid hO
  have hH' := Lib.hid hH
  clear hK hF hL hO hH
  go_wp2_with fail
  refine cc.mono ?_
  rintro e w2 ⟨rfl, hb⟩
  have hx2 := Lib.hid (hx1.out.trans (hb.mono hx1.out.size))
  clear cc hb
  have cc := may_any A n c l w2 (hA'.out.below hx2.out)
  rw [hO'.out] at cc
  go_wp2_with fail
  refine cc.mono ?_
  rintro e w3 ⟨rfl, hb⟩
  have hx3 := Lib.hid (hx2.out.trans (hb.mono hx2.out.size))
  clear cc hb
  have cc := refmay_any A n c l w3 (hA'.out.below hx3.out)
  rw [hO'.out] at cc
  go_wp2_with fail
  refine cc.mono ?_
  rintro e w4 ⟨rfl, qq, hw⟩
  have hb : Below w3.heap.size w3 w4 := by rw [hw]; exact Joins.below_draws _ _ _
  have hx4 := Lib.hid (hx3.out.trans (hb.mono hx3.out.size))
  clear cc hb hw
  have cc := has_any A n c l v w4 (hA'.out.below hx4.out)
  rw [hH'.out] at cc
  go_wp2_with fail
  refine cc.mono ?_
  rintro e w5 ⟨rfl, hb⟩
  have hx5 := Lib.hid (hx4.out.trans (hb.mono hx4.out.size))
  clear cc hb
  have cc := refhas_any A n c l v w5 (hA'.out.below hx5.out)
  rw [hH'.out] at cc
  go_wp2_with fail
  refine cc.mono ?_
  rintro e w6 ⟨rfl, hb⟩
  have hx6 := Lib.hid (hx5.out.trans (hb.mono hx5.out.size))
  clear cc hb
  have cc := count_any A n c l w6 (hA'.out.below hx6.out) (by omega)
  rw [hK'.out] at cc
  go_wp2_with fail
  refine cc.mono ?_
  rintro e w7 ⟨rfl, hb⟩
  have hx7 := Lib.hid (hx6.out.trans (hb.mono hx6.out.size))
  clear cc hb
  have cc := first_any A n c l w7 (hA'.out.below hx7.out)
  rw [hF'.out] at cc
  go_wp2_with fail
  refine cc.mono ?_
  rintro e w8 ⟨rfl, hb⟩
  have hx8 := Lib.hid (hx7.out.trans (hb.mono hx7.out.size))
  clear cc hb
  have cc := last_any A n c l w8 (hA'.out.below hx8.out)
  rw [hL'.out] at cc
  go_wp2_with fail
  refine cc.mono ?_
  rintro e w9 ⟨rfl, hb⟩
  have hx9 := Lib.hid (hx8.out.trans (hb.mono hx8.out.size))
  clear cc hb
  have ca := add_any A n c l v w9 (hA'.out.below hx9.out) (by omega)
  rw [add_two] at ca
  obtain ⟨P, hP⟩ : ∃ P, two? 0 l (of? [v]) = P := ⟨_, rfl⟩
  rw [hP] at ca
  have hP' := Lib.hid hP
  clear hP
  go_wp2_with fail
  refine ca.mono ?_
  rintro e w10 ⟨A10, c10, rfl, ho, hb⟩
  have hx10 := Lib.hid (hx9.out.trans (hb.mono hx9.out.size))
  have hr10 := Lib.hid ho.rp
  clear ca ho hb
  have bq := below_alloc w10 (.cells #[.int .i64 v] 3)
  have co := refof_any (some ⟨w10.heap.size, 0, none⟩) 1 1 [v] _ (ints_lit w10 #[.int .i64 v] 3 (0, 0) [v] 1 _ rfl rfl (by omega) rfl)
  obtain ⟨wq, hwq⟩ : ∃ wq, w10.alloc (.cells #[.int .i64 v] 3) = wq := ⟨_, rfl⟩
  rw [hwq] at bq co
  have hxq := Lib.hid (hx10.out.trans (bq.mono hx10.out.size))
  have hrq := Lib.hid (hr10.out.below bq)
  clear bq hr10
  go_wp2_with fail
  clear hwq
  refine co.mono ?_
  rintro e w11 ⟨A11, c11, rfl, ho, hb⟩
  have hx11 := Lib.hid (hxq.out.trans (hb.mono hxq.out.size))
  have hr11 := Lib.hid (hrq.out.below hb)
  have ct := two_any 0 A n c l A11 _ c11 _ w11 (hA'.out.below hx11.out) ho.rp
  rw [hP'.out] at ct
  clear co ho hb hrq
  go_wp2_with fail
  refine ct.mono ?_
  rintro e w12 ⟨A12, c12, rfl, ho, hb⟩
  have hx12 := Lib.hid (hx11.out.trans (hb.mono hx11.out.size))
  have cs := same_any A10 P.length c10 P A12 P.length c12 P w12 (hr11.out.below hb) ho.rp
  rw [decide_eq_true (show P = P from rfl)] at cs
  clear ct ho hb hr11
  go_wp2_with fail
  refine cs.mono ?_
  rintro e w13 ⟨rfl, qq, hw⟩
  have hb : Below w12.heap.size w12 w13 := by rw [hw]; exact Joins.below_draws _ _ _
  have hx13 := Lib.hid (hx12.out.trans (hb.mono hx12.out.size))
  clear cs hw hb
  have co := of_any B m d zs w13 (Rd.below hI'.out hx13.out)
  obtain ⟨Q, hQ⟩ : ∃ Q, of? zs = Q := ⟨_, rfl⟩
  rw [hQ] at co
  have hQ' := Lib.hid hQ
  clear hQ
  go_wp2_with fail
  refine co.mono ?_
  rintro e w14 ⟨A14, c14, rfl, ho, hb⟩
  have hx14 := Lib.hid (hx13.out.trans (hb.mono hx13.out.size))
  have hr14 := Lib.hid ho.rp
  clear co ho hb
  have co := refof_any B m d zs w14 (Rd.below hI'.out hx14.out)
  rw [hQ'.out] at co
  go_wp2_with fail
  refine co.mono ?_
  rintro e w15 ⟨A15, c15, rfl, ho, hb⟩
  have hx15 := Lib.hid (hx14.out.trans (hb.mono hx14.out.size))
  have cs := same_any A14 Q.length c14 Q A15 Q.length c15 Q w15 (hr14.out.below hb) ho.rp
  rw [decide_eq_true (show Q = Q from rfl)] at cs
  clear co ho hb hr14
  go_wp2_with fail
  refine cs.mono ?_
  rintro e w16 ⟨rfl, qq, hw⟩
  have hb : Below w15.heap.size w15 w16 := by rw [hw]; exact Joins.below_draws _ _ _
  have hx16 := Lib.hid (hx15.out.trans (hb.mono hx15.out.size))
  clear cs hw hb
  go_wp2_with fail
  go_ret
  exact ⟨rfl, hx16.out⟩
end Go.Proofs.YtppmnelgekhbnaaGreatDoor.IvW
