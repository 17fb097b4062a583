/- The law IvsetTwo. -/
import Derived.Test.YtppmnelgekhbnaaDoorIvAwake
import Derived.Test.YtppmnelgekhbnaaDoorIvSame
namespace Go.Proofs.YtppmnelgekhbnaaDoor.IvW
open Go.RowKit Iv

set_option maxHeartbeats 4000000 in
set_option maxRecDepth 100000 in
theorem two_law (A : Option Addr) (n c : Nat) (la : List Span) (B : Option Addr) (m d : Nat) (lb : List Span) (w : World) (hE : Iw w) (hA : Rp w A n c la) (hB : Rp w B m d lb) :
    Calls Tryd.prog 4 #[.slice A n c, .slice B m d] w fun e w' => e = .returned (.bool true) ∧ Below w.heap.size w w' := by
  have hE' := Lib.hid hE
  have hA' := Lib.hid hA
  have hB' := Lib.hid hB
  have c0 := awake_any w hE
  clear hE hA hB
  go_enter Tryd.func4, Tryd.ntmps4
  go_wp2_with fail
  refine c0.mono ?_
  rintro e w1 ⟨rfl, hb1⟩
  have hx1 := Lib.hid hb1
  clear c0 hb1
  by_cases hsm : n ≤ 300 ∧ m ≤ 300
  case neg =>
    have hs : (decide (n ≤ 300) && decide (m ≤ 300)) = false := by simpa using fun h : n ≤ 300 => Nat.lt_of_not_le fun h2 => hsm ⟨h, h2⟩
    have cs := small_any A n c B m d w1
    rw [hs] at cs
    clear hs hsm
    go_wp2_with fail
    refine cs.mono ?_
    rintro e w2 ⟨rfl, rfl⟩
    go_wp2_with fail
    go_ret
    exact ⟨rfl, hx1.out⟩
  case pos =>
  obtain ⟨hn, hm⟩ := hsm
  have hs : (decide (n ≤ 300) && decide (m ≤ 300)) = true := by simp [hn, hm]
  have cs := small_any A n c B m d w1
  rw [hs] at cs
  clear hs
  go_wp2_with fail
  refine cs.mono ?_
  rintro e w2 ⟨rfl, hw2⟩
  subst hw2
  clear cs
  have cm := refmay_any A n c la w2 (hA'.out.below hx1.out)
  obtain ⟨S, hS⟩ : ∃ S, equal? la lb = S := ⟨_, rfl⟩
  have heq := Lib.hid hS
  unfold equal? at hS
  cases ha : okB 1 la
  · rw [ha] at cm hS
    simp only [Bool.false_and] at hS
    subst hS
    clear ha
    go_wp2_with fail
    refine cm.mono ?_
    rintro e w3 ⟨rfl, q, hw⟩
    have hb : Below w2.heap.size w2 w3 := by rw [hw]; exact Joins.below_draws _ _ _
    have hx3 := Lib.hid (hx1.out.trans (hb.mono hx1.out.size))
    clear cm hw hb
    have cc := union_any A n c la B m d lb w3 (hA'.out.below hx3.out) (hB'.out.below hx3.out) (by omega) (by omega)
    rw [union_two] at cc
    obtain ⟨L, hL⟩ : ∃ L, two? 0 la lb = L := ⟨_, rfl⟩
    rw [hL] at cc
    have hL' := Lib.hid hL
    clear hL
    go_wp2_with fail
    refine cc.mono ?_
    rintro e w4 ⟨A4, c4, rfl, ho, hb⟩
    have hx4 := Lib.hid (hx3.out.trans (hb.mono hx3.out.size))
    have hr4 := Lib.hid ho.rp
    clear cc ho hb
    have cc := two_any 0 A n c la B m d lb w4 (hA'.out.below hx4.out) (hB'.out.below hx4.out)
    rw [hL'.out] at cc
    go_wp2_with fail
    refine cc.mono ?_
    rintro e w5 ⟨A5, c5, rfl, ho, hb⟩
    have hx5 := Lib.hid (hx4.out.trans (hb.mono hx4.out.size))
    have hq := Lib.hid (hr4.out.below hb)
    have cs := same_any A4 L.length c4 L A5 L.length c5 L w5 hq.out ho.rp
    rw [decide_eq_true (show L = L from rfl)] at cs
    clear cc ho hb hr4
    go_wp2_with fail
    refine cs.mono ?_
    rintro e w6 ⟨rfl, q, hw⟩
    have hb : Below w5.heap.size w5 w6 := by rw [hw]; exact Joins.below_draws _ _ _
    have hx6 := Lib.hid (hx5.out.trans (hb.mono hx5.out.size))
    clear cs hq hw hb hL'
    have cc := both_any A n c la B m d lb w6 (hA'.out.below hx6.out) (hB'.out.below hx6.out) (by omega) (by omega)
    rw [both_two] at cc
    obtain ⟨L, hL⟩ : ∃ L, two? 1 la lb = L := ⟨_, rfl⟩
    rw [hL] at cc
    have hL' := Lib.hid hL
    clear hL
    go_wp2_with fail
    refine cc.mono ?_
    rintro e w7 ⟨A7, c7, rfl, ho, hb⟩
    have hx7 := Lib.hid (hx6.out.trans (hb.mono hx6.out.size))
    have hr7 := Lib.hid ho.rp
    clear cc ho hb
    have cc := two_any 1 A n c la B m d lb w7 (hA'.out.below hx7.out) (hB'.out.below hx7.out)
    rw [hL'.out] at cc
    go_wp2_with fail
    refine cc.mono ?_
    rintro e w8 ⟨A8, c8, rfl, ho, hb⟩
    have hx8 := Lib.hid (hx7.out.trans (hb.mono hx7.out.size))
    have hq := Lib.hid (hr7.out.below hb)
    have cs := same_any A7 L.length c7 L A8 L.length c8 L w8 hq.out ho.rp
    rw [decide_eq_true (show L = L from rfl)] at cs
    clear cc ho hb hr7
    go_wp2_with fail
    refine cs.mono ?_
    rintro e w9 ⟨rfl, q, hw⟩
    have hb : Below w8.heap.size w8 w9 := by rw [hw]; exact Joins.below_draws _ _ _
    have hx9 := Lib.hid (hx8.out.trans (hb.mono hx8.out.size))
    clear cs hq hw hb hL'
    have cc := without_any A n c la B m d lb w9 (hA'.out.below hx9.out) (hB'.out.below hx9.out) (by omega) (by omega)
    rw [without_two] at cc
    obtain ⟨L, hL⟩ : ∃ L, two? 2 la lb = L := ⟨_, rfl⟩
    rw [hL] at cc
    have hL' := Lib.hid hL
    clear hL
    go_wp2_with fail
    refine cc.mono ?_
    rintro e w10 ⟨A10, c10, rfl, ho, hb⟩
    have hx10 := Lib.hid (hx9.out.trans (hb.mono hx9.out.size))
    have hr10 := Lib.hid ho.rp
    clear cc ho hb
    have cc := two_any 2 A n c la B m d lb w10 (hA'.out.below hx10.out) (hB'.out.below hx10.out)
    rw [hL'.out] at cc
    go_wp2_with fail
    refine cc.mono ?_
    rintro e w11 ⟨A11, c11, rfl, ho, hb⟩
    have hx11 := Lib.hid (hx10.out.trans (hb.mono hx10.out.size))
    have hq := Lib.hid (hr10.out.below hb)
    have cs := same_any A10 L.length c10 L A11 L.length c11 L w11 hq.out ho.rp
    rw [decide_eq_true (show L = L from rfl)] at cs
    clear cc ho hb hr10
    go_wp2_with fail
    refine cs.mono ?_
    rintro e w12 ⟨rfl, q, hw⟩
    have hb : Below w11.heap.size w11 w12 := by rw [hw]; exact Joins.below_draws _ _ _
    have hx12 := Lib.hid (hx11.out.trans (hb.mono hx11.out.size))
    clear cs hq hw hb hL'
    have cc := equal_any A n c la B m d lb w12 (hA'.out.below hx12.out) (hB'.out.below hx12.out)
    rw [show equal? la lb = false from heq.out] at cc
    go_wp2_with fail
    refine cc.mono ?_
    rintro e w13 ⟨rfl, hb⟩
    have hx13 := Lib.hid (hx12.out.trans (hb.mono hx12.out.size))
    clear cc hb
    have cc := within_any A n c la B m d lb w13 (hA'.out.below hx13.out) (hB'.out.below hx13.out) (by omega) (by omega)
    rw [within_ref] at cc
    obtain ⟨V, hV⟩ : ∃ V, refwithin? la lb = V := ⟨_, rfl⟩
    rw [hV] at cc
    go_wp2_with fail
    refine cc.mono ?_
    rintro e w14 ⟨rfl, hb⟩
    have hx14 := Lib.hid (hx13.out.trans (hb.mono hx13.out.size))
    clear cc hb
    have cc := refwithin_any A n c la B m d lb w14 (hA'.out.below hx14.out) (hB'.out.below hx14.out)
    rw [hV] at cc
    clear hV
    go_wp2_with fail
    refine cc.mono ?_
    rintro e w15 ⟨rfl, hb⟩
    have hx15 := Lib.hid (hx14.out.trans (hb.mono hx14.out.size))
    clear cc hb
    go_wp2_with fail
    go_ret
    exact ⟨by simp, hx15.out⟩
  · rw [ha] at cm hS
    clear ha
    go_wp2_with fail
    refine cm.mono ?_
    rintro e w3 ⟨rfl, q, hw⟩
    have hb : Below w2.heap.size w2 w3 := by rw [hw]; exact Joins.below_draws _ _ _
    have hx3 := Lib.hid (hx1.out.trans (hb.mono hx1.out.size))
    clear cm hw hb
    have cm := refmay_any B m d lb w3 (hB'.out.below hx3.out)
    cases ha : okB 1 lb
    · rw [ha] at cm hS
      simp only [Bool.and_false, Bool.false_and] at hS
      subst hS
      clear ha
      go_wp2_with fail
      refine cm.mono ?_
      rintro e w4 ⟨rfl, q, hw⟩
      have hb : Below w3.heap.size w3 w4 := by rw [hw]; exact Joins.below_draws _ _ _
      have hx4 := Lib.hid (hx3.out.trans (hb.mono hx3.out.size))
      clear cm hw hb
      have cc := union_any A n c la B m d lb w4 (hA'.out.below hx4.out) (hB'.out.below hx4.out) (by omega) (by omega)
      rw [union_two] at cc
      obtain ⟨L, hL⟩ : ∃ L, two? 0 la lb = L := ⟨_, rfl⟩
      rw [hL] at cc
      have hL' := Lib.hid hL
      clear hL
      go_wp2_with fail
      refine cc.mono ?_
      rintro e w5 ⟨A5, c5, rfl, ho, hb⟩
      have hx5 := Lib.hid (hx4.out.trans (hb.mono hx4.out.size))
      have hr5 := Lib.hid ho.rp
      clear cc ho hb
      have cc := two_any 0 A n c la B m d lb w5 (hA'.out.below hx5.out) (hB'.out.below hx5.out)
      rw [hL'.out] at cc
      go_wp2_with fail
      refine cc.mono ?_
      rintro e w6 ⟨A6, c6, rfl, ho, hb⟩
      have hx6 := Lib.hid (hx5.out.trans (hb.mono hx5.out.size))
      have hq := Lib.hid (hr5.out.below hb)
      have cs := same_any A5 L.length c5 L A6 L.length c6 L w6 hq.out ho.rp
      rw [decide_eq_true (show L = L from rfl)] at cs
      clear cc ho hb hr5
      go_wp2_with fail
      refine cs.mono ?_
      rintro e w7 ⟨rfl, q, hw⟩
      have hb : Below w6.heap.size w6 w7 := by rw [hw]; exact Joins.below_draws _ _ _
      have hx7 := Lib.hid (hx6.out.trans (hb.mono hx6.out.size))
      clear cs hq hw hb hL'
      have cc := both_any A n c la B m d lb w7 (hA'.out.below hx7.out) (hB'.out.below hx7.out) (by omega) (by omega)
      rw [both_two] at cc
      obtain ⟨L, hL⟩ : ∃ L, two? 1 la lb = L := ⟨_, rfl⟩
      rw [hL] at cc
      have hL' := Lib.hid hL
      clear hL
      go_wp2_with fail
      refine cc.mono ?_
      rintro e w8 ⟨A8, c8, rfl, ho, hb⟩
      have hx8 := Lib.hid (hx7.out.trans (hb.mono hx7.out.size))
      have hr8 := Lib.hid ho.rp
      clear cc ho hb
      have cc := two_any 1 A n c la B m d lb w8 (hA'.out.below hx8.out) (hB'.out.below hx8.out)
      rw [hL'.out] at cc
      go_wp2_with fail
      refine cc.mono ?_
      rintro e w9 ⟨A9, c9, rfl, ho, hb⟩
      have hx9 := Lib.hid (hx8.out.trans (hb.mono hx8.out.size))
      have hq := Lib.hid (hr8.out.below hb)
      have cs := same_any A8 L.length c8 L A9 L.length c9 L w9 hq.out ho.rp
      rw [decide_eq_true (show L = L from rfl)] at cs
      clear cc ho hb hr8
      go_wp2_with fail
      refine cs.mono ?_
      rintro e w10 ⟨rfl, q, hw⟩
      have hb : Below w9.heap.size w9 w10 := by rw [hw]; exact Joins.below_draws _ _ _
      have hx10 := Lib.hid (hx9.out.trans (hb.mono hx9.out.size))
      clear cs hq hw hb hL'
      have cc := without_any A n c la B m d lb w10 (hA'.out.below hx10.out) (hB'.out.below hx10.out) (by omega) (by omega)
      rw [without_two] at cc
      obtain ⟨L, hL⟩ : ∃ L, two? 2 la lb = L := ⟨_, rfl⟩
      rw [hL] at cc
      have hL' := Lib.hid hL
      clear hL
      go_wp2_with fail
      refine cc.mono ?_
      rintro e w11 ⟨A11, c11, rfl, ho, hb⟩
      have hx11 := Lib.hid (hx10.out.trans (hb.mono hx10.out.size))
      have hr11 := Lib.hid ho.rp
      clear cc ho hb
      have cc := two_any 2 A n c la B m d lb w11 (hA'.out.below hx11.out) (hB'.out.below hx11.out)
      rw [hL'.out] at cc
      go_wp2_with fail
      refine cc.mono ?_
      rintro e w12 ⟨A12, c12, rfl, ho, hb⟩
      have hx12 := Lib.hid (hx11.out.trans (hb.mono hx11.out.size))
      have hq := Lib.hid (hr11.out.below hb)
      have cs := same_any A11 L.length c11 L A12 L.length c12 L w12 hq.out ho.rp
      rw [decide_eq_true (show L = L from rfl)] at cs
      clear cc ho hb hr11
      go_wp2_with fail
      refine cs.mono ?_
      rintro e w13 ⟨rfl, q, hw⟩
      have hb : Below w12.heap.size w12 w13 := by rw [hw]; exact Joins.below_draws _ _ _
      have hx13 := Lib.hid (hx12.out.trans (hb.mono hx12.out.size))
      clear cs hq hw hb hL'
      have cc := equal_any A n c la B m d lb w13 (hA'.out.below hx13.out) (hB'.out.below hx13.out)
      rw [show equal? la lb = false from heq.out] at cc
      go_wp2_with fail
      refine cc.mono ?_
      rintro e w14 ⟨rfl, hb⟩
      have hx14 := Lib.hid (hx13.out.trans (hb.mono hx13.out.size))
      clear cc hb
      have cc := within_any A n c la B m d lb w14 (hA'.out.below hx14.out) (hB'.out.below hx14.out) (by omega) (by omega)
      rw [within_ref] at cc
      obtain ⟨V, hV⟩ : ∃ V, refwithin? la lb = V := ⟨_, rfl⟩
      rw [hV] at cc
      go_wp2_with fail
      refine cc.mono ?_
      rintro e w15 ⟨rfl, hb⟩
      have hx15 := Lib.hid (hx14.out.trans (hb.mono hx14.out.size))
      clear cc hb
      have cc := refwithin_any A n c la B m d lb w15 (hA'.out.below hx15.out) (hB'.out.below hx15.out)
      rw [hV] at cc
      clear hV
      go_wp2_with fail
      refine cc.mono ?_
      rintro e w16 ⟨rfl, hb⟩
      have hx16 := Lib.hid (hx15.out.trans (hb.mono hx15.out.size))
      clear cc hb
      go_wp2_with fail
      go_ret
      exact ⟨by simp, hx16.out⟩
    · rw [ha] at cm hS
      simp only [Bool.true_and] at hS
      clear ha
      go_wp2_with fail
      refine cm.mono ?_
      rintro e w4 ⟨rfl, q, hw⟩
      have hb : Below w3.heap.size w3 w4 := by rw [hw]; exact Joins.below_draws _ _ _
      have hx4 := Lib.hid (hx3.out.trans (hb.mono hx3.out.size))
      clear cm hw hb
      have cs := same_any A n c la B m d lb w4 (hA'.out.below hx4.out) (hB'.out.below hx4.out)
      rw [hS] at cs
      clear hS
      go_wp2_with fail
      refine cs.mono ?_
      rintro e w5 ⟨rfl, q, hw⟩
      have hb : Below w4.heap.size w4 w5 := by rw [hw]; exact Joins.below_draws _ _ _
      have hx5 := Lib.hid (hx4.out.trans (hb.mono hx4.out.size))
      clear cs hw hb
      have cc := union_any A n c la B m d lb w5 (hA'.out.below hx5.out) (hB'.out.below hx5.out) (by omega) (by omega)
      rw [union_two] at cc
      obtain ⟨L, hL⟩ : ∃ L, two? 0 la lb = L := ⟨_, rfl⟩
      rw [hL] at cc
      have hL' := Lib.hid hL
      clear hL
      go_wp2_with fail
      refine cc.mono ?_
      rintro e w6 ⟨A6, c6, rfl, ho, hb⟩
      have hx6 := Lib.hid (hx5.out.trans (hb.mono hx5.out.size))
      have hr6 := Lib.hid ho.rp
      clear cc ho hb
      have cc := two_any 0 A n c la B m d lb w6 (hA'.out.below hx6.out) (hB'.out.below hx6.out)
      rw [hL'.out] at cc
      go_wp2_with fail
      refine cc.mono ?_
      rintro e w7 ⟨A7, c7, rfl, ho, hb⟩
      have hx7 := Lib.hid (hx6.out.trans (hb.mono hx6.out.size))
      have hq := Lib.hid (hr6.out.below hb)
      have cs := same_any A6 L.length c6 L A7 L.length c7 L w7 hq.out ho.rp
      rw [decide_eq_true (show L = L from rfl)] at cs
      clear cc ho hb hr6
      go_wp2_with fail
      refine cs.mono ?_
      rintro e w8 ⟨rfl, q, hw⟩
      have hb : Below w7.heap.size w7 w8 := by rw [hw]; exact Joins.below_draws _ _ _
      have hx8 := Lib.hid (hx7.out.trans (hb.mono hx7.out.size))
      clear cs hq hw hb hL'
      have cc := both_any A n c la B m d lb w8 (hA'.out.below hx8.out) (hB'.out.below hx8.out) (by omega) (by omega)
      rw [both_two] at cc
      obtain ⟨L, hL⟩ : ∃ L, two? 1 la lb = L := ⟨_, rfl⟩
      rw [hL] at cc
      have hL' := Lib.hid hL
      clear hL
      go_wp2_with fail
      refine cc.mono ?_
      rintro e w9 ⟨A9, c9, rfl, ho, hb⟩
      have hx9 := Lib.hid (hx8.out.trans (hb.mono hx8.out.size))
      have hr9 := Lib.hid ho.rp
      clear cc ho hb
      have cc := two_any 1 A n c la B m d lb w9 (hA'.out.below hx9.out) (hB'.out.below hx9.out)
      rw [hL'.out] at cc
      go_wp2_with fail
      refine cc.mono ?_
      rintro e w10 ⟨A10, c10, rfl, ho, hb⟩
      have hx10 := Lib.hid (hx9.out.trans (hb.mono hx9.out.size))
      have hq := Lib.hid (hr9.out.below hb)
      have cs := same_any A9 L.length c9 L A10 L.length c10 L w10 hq.out ho.rp
      rw [decide_eq_true (show L = L from rfl)] at cs
      clear cc ho hb hr9
      go_wp2_with fail
      refine cs.mono ?_
      rintro e w11 ⟨rfl, q, hw⟩
      have hb : Below w10.heap.size w10 w11 := by rw [hw]; exact Joins.below_draws _ _ _
      have hx11 := Lib.hid (hx10.out.trans (hb.mono hx10.out.size))
      clear cs hq hw hb hL'
      have cc := without_any A n c la B m d lb w11 (hA'.out.below hx11.out) (hB'.out.below hx11.out) (by omega) (by omega)
      rw [without_two] at cc
      obtain ⟨L, hL⟩ : ∃ L, two? 2 la lb = L := ⟨_, rfl⟩
      rw [hL] at cc
      have hL' := Lib.hid hL
      clear hL
      go_wp2_with fail
      refine cc.mono ?_
      rintro e w12 ⟨A12, c12, rfl, ho, hb⟩
      have hx12 := Lib.hid (hx11.out.trans (hb.mono hx11.out.size))
      have hr12 := Lib.hid ho.rp
      clear cc ho hb
      have cc := two_any 2 A n c la B m d lb w12 (hA'.out.below hx12.out) (hB'.out.below hx12.out)
      rw [hL'.out] at cc
      go_wp2_with fail
      refine cc.mono ?_
      rintro e w13 ⟨A13, c13, rfl, ho, hb⟩
      have hx13 := Lib.hid (hx12.out.trans (hb.mono hx12.out.size))
      have hq := Lib.hid (hr12.out.below hb)
      have cs := same_any A12 L.length c12 L A13 L.length c13 L w13 hq.out ho.rp
      rw [decide_eq_true (show L = L from rfl)] at cs
      clear cc ho hb hr12
      go_wp2_with fail
      refine cs.mono ?_
      rintro e w14 ⟨rfl, q, hw⟩
      have hb : Below w13.heap.size w13 w14 := by rw [hw]; exact Joins.below_draws _ _ _
      have hx14 := Lib.hid (hx13.out.trans (hb.mono hx13.out.size))
      clear cs hq hw hb hL'
      have cc := equal_any A n c la B m d lb w14 (hA'.out.below hx14.out) (hB'.out.below hx14.out)
      rw [show equal? la lb = S from heq.out] at cc
      go_wp2_with fail
      refine cc.mono ?_
      rintro e w15 ⟨rfl, hb⟩
      have hx15 := Lib.hid (hx14.out.trans (hb.mono hx14.out.size))
      clear cc hb
      have cc := within_any A n c la B m d lb w15 (hA'.out.below hx15.out) (hB'.out.below hx15.out) (by omega) (by omega)
      rw [within_ref] at cc
      obtain ⟨V, hV⟩ : ∃ V, refwithin? la lb = V := ⟨_, rfl⟩
      rw [hV] at cc
      go_wp2_with fail
      refine cc.mono ?_
      rintro e w16 ⟨rfl, hb⟩
      have hx16 := Lib.hid (hx15.out.trans (hb.mono hx15.out.size))
      clear cc hb
      have cc := refwithin_any A n c la B m d lb w16 (hA'.out.below hx16.out) (hB'.out.below hx16.out)
      rw [hV] at cc
      clear hV
      go_wp2_with fail
      refine cc.mono ?_
      rintro e w17 ⟨rfl, hb⟩
      have hx17 := Lib.hid (hx16.out.trans (hb.mono hx16.out.size))
      clear cc hb
      go_wp2_with fail
      go_ret
      exact ⟨by simp, hx17.out⟩
end Go.Proofs.YtppmnelgekhbnaaDoor.IvW
