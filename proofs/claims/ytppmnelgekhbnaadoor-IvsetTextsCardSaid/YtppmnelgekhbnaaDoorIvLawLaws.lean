/- The law IvsetLaws. -/
import Derived.Test.YtppmnelgekhbnaaDoorIvAwake
import Derived.Test.YtppmnelgekhbnaaDoorIvSame
namespace Go.Proofs.YtppmnelgekhbnaaDoor.IvW
open Go.RowKit Iv

theorem ok_ex {l : List Span} (h : okB 1 l = true) : ∃ m, l = sp m := ⟨_, sp_fm h⟩

set_option maxHeartbeats 4000000 in
set_option maxRecDepth 100000 in
theorem laws_law (A : Option Addr) (n c : Nat) (la : List Span) (B : Option Addr) (m d : Nat) (lb : List Span) (C : Option Addr) (r f : Nat) (lc : List Span) (w : World) (hE : Iw w) (hA : Rp w A n c la) (hB : Rp w B m d lb) (hC : Rp w C r f lc) :
    Calls Tryd.prog 5 #[.slice A n c, .slice B m d, .slice C r f] w fun e w' => e = .returned (.bool true) ∧ Below w.heap.size w w' := by
  have hA' := Lib.hid hA
  have hB' := Lib.hid hB
  have hC' := Lib.hid hC
  have c0 := awake_any w hE
  clear hE hA hB hC
  go_enter Tryd.func5, Tryd.ntmps5
  go_wp2_with fail
  refine c0.mono ?_
  rintro e w1 ⟨rfl, hb1⟩
  have hx1 := Lib.hid hb1
  clear c0 hb1
  by_cases hsm : n ≤ 300 ∧ m ≤ 300
  case neg =>
    have hs : (decide (n ≤ 300) && decide (m ≤ 300)) = false := by simp; omega
    have cs := small_any A n c B m d w1
    rw [hs] at cs
    clear hs
    go_wp2_with fail
    refine cs.mono ?_
    rintro e w2 ⟨rfl, rfl⟩
    go_wp2_with fail
    go_ret
    exact ⟨rfl, hx1.out⟩
  case pos =>
  have hs : (decide (n ≤ 300) && decide (m ≤ 300)) = true := by simp; omega
  have cs := small_any A n c B m d w1
  rw [hs] at cs
  clear hs
  go_wp2_with fail
  refine cs.mono ?_
  rintro e w1 ⟨rfl, rfl⟩
  clear cs
  by_cases hsr : r ≤ 300
  case neg =>
    have hs : (decide (r ≤ 300) && decide (0 ≤ 300)) = false := by simp; omega
    have cs := small_any C r f none 0 0 w1
    rw [hs] at cs
    clear hs
    go_wp2_with fail
    refine cs.mono ?_
    rintro e w2 ⟨rfl, rfl⟩
    go_wp2_with fail
    go_ret
    exact ⟨rfl, hx1.out⟩
  case pos =>
  have hs : (decide (r ≤ 300) && decide (0 ≤ 300)) = true := by simp; omega
  have cs := small_any C r f none 0 0 w1
  rw [hs] at cs
  clear hs
  go_wp2_with fail
  refine cs.mono ?_
  rintro e w1 ⟨rfl, rfl⟩
  clear cs
  have cm := refmay_any A n c la w1 (hA'.out.below hx1.out)
  cases hka : okB 1 la
  · rw [hka] at cm
    go_wp2_with fail
    refine cm.mono ?_
    rintro e w2 ⟨rfl, q, hw⟩
    have hb : Below w1.heap.size w1 w2 := by rw [hw]; exact Joins.below_draws _ _ _
    have hx2 := Lib.hid (hx1.out.trans (hb.mono hx1.out.size))
    clear cm hw hb hka
    go_wp2_with fail
    go_ret
    exact ⟨rfl, hx2.out⟩
  rw [hka] at cm
  obtain ⟨ma, ha2⟩ := ok_ex hka
  subst ha2
  clear hka
  go_wp2_with fail
  refine cm.mono ?_
  rintro e w2 ⟨rfl, q, hw⟩
  have hb : Below w1.heap.size w1 w2 := by rw [hw]; exact Joins.below_draws _ _ _
  have hx2 := Lib.hid (hx1.out.trans (hb.mono hx1.out.size))
  clear cm hw hb
  have cm := refmay_any B m d lb w2 (hB'.out.below hx2.out)
  cases hkb : okB 1 lb
  · rw [hkb] at cm
    go_wp2_with fail
    refine cm.mono ?_
    rintro e w3 ⟨rfl, q, hw⟩
    have hb : Below w2.heap.size w2 w3 := by rw [hw]; exact Joins.below_draws _ _ _
    have hx3 := Lib.hid (hx2.out.trans (hb.mono hx2.out.size))
    clear cm hw hb hkb
    go_wp2_with fail
    go_ret
    exact ⟨rfl, hx3.out⟩
  rw [hkb] at cm
  obtain ⟨mb, hb2⟩ := ok_ex hkb
  subst hb2
  clear hkb
  go_wp2_with fail
  refine cm.mono ?_
  rintro e w3 ⟨rfl, q, hw⟩
  have hb : Below w2.heap.size w2 w3 := by rw [hw]; exact Joins.below_draws _ _ _
  have hx3 := Lib.hid (hx2.out.trans (hb.mono hx2.out.size))
  clear cm hw hb
  have cm := refmay_any C r f lc w3 (hC'.out.below hx3.out)
  cases hkc : okB 1 lc
  · rw [hkc] at cm
    go_wp2_with fail
    refine cm.mono ?_
    rintro e w4 ⟨rfl, q, hw⟩
    have hb : Below w3.heap.size w3 w4 := by rw [hw]; exact Joins.below_draws _ _ _
    have hx4 := Lib.hid (hx3.out.trans (hb.mono hx3.out.size))
    clear cm hw hb hkc
    go_wp2_with fail
    go_ret
    exact ⟨rfl, hx4.out⟩
  rw [hkc] at cm
  obtain ⟨mc, hc2⟩ := ok_ex hkc
  subst hc2
  clear hkc
  go_wp2_with fail
  refine cm.mono ?_
  rintro e w4 ⟨rfl, q, hw⟩
  have hb : Below w3.heap.size w3 w4 := by rw [hw]; exact Joins.below_draws _ _ _
  have hx4 := Lib.hid (hx3.out.trans (hb.mono hx3.out.size))
  clear cm hw hb
  have hn : n ≤ 300 := hsm.1
  have hm : m ≤ 300 := hsm.2
  clear hsm
  have cc := union_any A n c (sp ma) B m d (sp mb) w4 (hA'.out.below hx4.out) (hB'.out.below hx4.out) (by omega) (by omega)
  rw [union_sp] at cc
  obtain ⟨m11, hm⟩ : ∃ m11, (fun x : Nat => ma x || mb x) = m11 := ⟨_, rfl⟩
  rw [hm] at cc
  have hm11 := Lib.hid hm
  clear hm
  go_wp2_with fail
  refine cc.mono ?_
  rintro e w5 ⟨At1, ct1, rfl, ho, hb⟩
  have hx5 := Lib.hid (hx4.out.trans (hb.mono hx4.out.size))
  have hrt1 := Lib.hid ho.rp
  clear cc ho
  clear hb
  have cc := union_any B m d (sp mb) A n c (sp ma) w5 (hB'.out.below hx5.out) (hA'.out.below hx5.out) (by omega) (by omega)
  rw [union_sp] at cc
  obtain ⟨m12, hm⟩ : ∃ m12, (fun x : Nat => mb x || ma x) = m12 := ⟨_, rfl⟩
  rw [hm] at cc
  have hm12 := Lib.hid hm
  clear hm
  go_wp2_with fail
  refine cc.mono ?_
  rintro e w6 ⟨At2, ct2, rfl, ho, hb⟩
  have hx6 := Lib.hid (hx5.out.trans (hb.mono hx5.out.size))
  have hrt2 := Lib.hid ho.rp
  clear cc ho
  replace hrt1 := Lib.hid (hrt1.out.below hb)
  clear hb
  have heq : m11 = m12 := by
    have qm11 := hm11.out
    subst qm11
    have qm12 := hm12.out
    subst qm12
    funext x
    try dsimp only
    cases ma x <;> cases mb x <;> cases mc x <;> rfl
  have cc := equal_any At1 (sp m11).length ct1 (sp m11) At2 (sp m12).length ct2 (sp m12) w6 hrt1.out hrt2.out
  rw [show equal? (sp m11) (sp m12) = true by rw [heq]; unfold equal?; rw [okB_sp]; simp] at cc
  clear heq
  go_wp2_with fail
  refine cc.mono ?_
  rintro e w7 ⟨rfl, hb⟩
  have hx7 := Lib.hid (hx6.out.trans (hb.mono hx6.out.size))
  clear cc
  replace hrt1 := Lib.hid (hrt1.out.below hb)
  replace hrt2 := Lib.hid (hrt2.out.below hb)
  clear hb
  clear hrt1
  clear hrt2
  have cc := both_any A n c (sp ma) B m d (sp mb) w7 (hA'.out.below hx7.out) (hB'.out.below hx7.out) (by omega) (by omega)
  rw [both_sp] at cc
  obtain ⟨m13, hm⟩ : ∃ m13, (fun x : Nat => ma x && mb x) = m13 := ⟨_, rfl⟩
  rw [hm] at cc
  have hm13 := Lib.hid hm
  clear hm
  go_wp2_with fail
  refine cc.mono ?_
  rintro e w8 ⟨At3, ct3, rfl, ho, hb⟩
  have hx8 := Lib.hid (hx7.out.trans (hb.mono hx7.out.size))
  have hrt3 := Lib.hid ho.rp
  clear cc ho
  clear hb
  have cc := both_any B m d (sp mb) A n c (sp ma) w8 (hB'.out.below hx8.out) (hA'.out.below hx8.out) (by omega) (by omega)
  rw [both_sp] at cc
  obtain ⟨m14, hm⟩ : ∃ m14, (fun x : Nat => mb x && ma x) = m14 := ⟨_, rfl⟩
  rw [hm] at cc
  have hm14 := Lib.hid hm
  clear hm
  go_wp2_with fail
  refine cc.mono ?_
  rintro e w9 ⟨At4, ct4, rfl, ho, hb⟩
  have hx9 := Lib.hid (hx8.out.trans (hb.mono hx8.out.size))
  have hrt4 := Lib.hid ho.rp
  clear cc ho
  replace hrt3 := Lib.hid (hrt3.out.below hb)
  clear hb
  have heq : m13 = m14 := by
    have qm11 := hm11.out
    subst qm11
    have qm12 := hm12.out
    subst qm12
    have qm13 := hm13.out
    subst qm13
    have qm14 := hm14.out
    subst qm14
    funext x
    try dsimp only
    cases ma x <;> cases mb x <;> cases mc x <;> rfl
  have cc := equal_any At3 (sp m13).length ct3 (sp m13) At4 (sp m14).length ct4 (sp m14) w9 hrt3.out hrt4.out
  rw [show equal? (sp m13) (sp m14) = true by rw [heq]; unfold equal?; rw [okB_sp]; simp] at cc
  clear heq
  go_wp2_with fail
  refine cc.mono ?_
  rintro e w10 ⟨rfl, hb⟩
  have hx10 := Lib.hid (hx9.out.trans (hb.mono hx9.out.size))
  clear cc
  replace hrt3 := Lib.hid (hrt3.out.below hb)
  replace hrt4 := Lib.hid (hrt4.out.below hb)
  clear hb
  clear hrt3
  clear hrt4
  have cc := union_any B m d (sp mb) C r f (sp mc) w10 (hB'.out.below hx10.out) (hC'.out.below hx10.out) (by omega) (by omega)
  rw [union_sp] at cc
  obtain ⟨m15, hm⟩ : ∃ m15, (fun x : Nat => mb x || mc x) = m15 := ⟨_, rfl⟩
  rw [hm] at cc
  have hm15 := Lib.hid hm
  clear hm
  go_wp2_with fail
  refine cc.mono ?_
  rintro e w11 ⟨At5, ct5, rfl, ho, hb⟩
  have hx11 := Lib.hid (hx10.out.trans (hb.mono hx10.out.size))
  have hrt5 := Lib.hid ho.rp
  clear cc ho
  clear hb
  have cc := union_any A n c (sp ma) At5 (sp m15).length ct5 (sp m15) w11 (hA'.out.below hx11.out) hrt5.out (by omega) (Nat.le_trans (sp_len _) (by omega))
  rw [union_sp] at cc
  obtain ⟨m16, hm⟩ : ∃ m16, (fun x : Nat => ma x || m15 x) = m16 := ⟨_, rfl⟩
  rw [hm] at cc
  have hm16 := Lib.hid hm
  clear hm
  go_wp2_with fail
  refine cc.mono ?_
  rintro e w12 ⟨At6, ct6, rfl, ho, hb⟩
  have hx12 := Lib.hid (hx11.out.trans (hb.mono hx11.out.size))
  have hrt6 := Lib.hid ho.rp
  clear cc ho
  replace hrt5 := Lib.hid (hrt5.out.below hb)
  clear hb
  clear hrt5
  have cc := union_any A n c (sp ma) B m d (sp mb) w12 (hA'.out.below hx12.out) (hB'.out.below hx12.out) (by omega) (by omega)
  rw [union_sp] at cc
  obtain ⟨m17, hm⟩ : ∃ m17, (fun x : Nat => ma x || mb x) = m17 := ⟨_, rfl⟩
  rw [hm] at cc
  have hm17 := Lib.hid hm
  clear hm
  go_wp2_with fail
  refine cc.mono ?_
  rintro e w13 ⟨At7, ct7, rfl, ho, hb⟩
  have hx13 := Lib.hid (hx12.out.trans (hb.mono hx12.out.size))
  have hrt7 := Lib.hid ho.rp
  clear cc ho
  replace hrt6 := Lib.hid (hrt6.out.below hb)
  clear hb
  have cc := union_any At7 (sp m17).length ct7 (sp m17) C r f (sp mc) w13 hrt7.out (hC'.out.below hx13.out) (Nat.le_trans (sp_len _) (by omega)) (by omega)
  rw [union_sp] at cc
  obtain ⟨m18, hm⟩ : ∃ m18, (fun x : Nat => m17 x || mc x) = m18 := ⟨_, rfl⟩
  rw [hm] at cc
  have hm18 := Lib.hid hm
  clear hm
  go_wp2_with fail
  refine cc.mono ?_
  rintro e w14 ⟨At8, ct8, rfl, ho, hb⟩
  have hx14 := Lib.hid (hx13.out.trans (hb.mono hx13.out.size))
  have hrt8 := Lib.hid ho.rp
  clear cc ho
  replace hrt6 := Lib.hid (hrt6.out.below hb)
  replace hrt7 := Lib.hid (hrt7.out.below hb)
  clear hb
  clear hrt7
  have heq : m16 = m18 := by
    have qm11 := hm11.out
    subst qm11
    have qm12 := hm12.out
    subst qm12
    have qm13 := hm13.out
    subst qm13
    have qm14 := hm14.out
    subst qm14
    have qm15 := hm15.out
    subst qm15
    have qm16 := hm16.out
    subst qm16
    have qm17 := hm17.out
    subst qm17
    have qm18 := hm18.out
    subst qm18
    funext x
    try dsimp only
    cases ma x <;> cases mb x <;> cases mc x <;> rfl
  have cc := equal_any At6 (sp m16).length ct6 (sp m16) At8 (sp m18).length ct8 (sp m18) w14 hrt6.out hrt8.out
  rw [show equal? (sp m16) (sp m18) = true by rw [heq]; unfold equal?; rw [okB_sp]; simp] at cc
  clear heq
  go_wp2_with fail
  refine cc.mono ?_
  rintro e w15 ⟨rfl, hb⟩
  have hx15 := Lib.hid (hx14.out.trans (hb.mono hx14.out.size))
  clear cc
  replace hrt6 := Lib.hid (hrt6.out.below hb)
  replace hrt8 := Lib.hid (hrt8.out.below hb)
  clear hb
  clear hrt6
  clear hrt8
  have cc := both_any B m d (sp mb) C r f (sp mc) w15 (hB'.out.below hx15.out) (hC'.out.below hx15.out) (by omega) (by omega)
  rw [both_sp] at cc
  obtain ⟨m19, hm⟩ : ∃ m19, (fun x : Nat => mb x && mc x) = m19 := ⟨_, rfl⟩
  rw [hm] at cc
  have hm19 := Lib.hid hm
  clear hm
  go_wp2_with fail
  refine cc.mono ?_
  rintro e w16 ⟨At9, ct9, rfl, ho, hb⟩
  have hx16 := Lib.hid (hx15.out.trans (hb.mono hx15.out.size))
  have hrt9 := Lib.hid ho.rp
  clear cc ho
  clear hb
  have cc := both_any A n c (sp ma) At9 (sp m19).length ct9 (sp m19) w16 (hA'.out.below hx16.out) hrt9.out (by omega) (Nat.le_trans (sp_len _) (by omega))
  rw [both_sp] at cc
  obtain ⟨m20, hm⟩ : ∃ m20, (fun x : Nat => ma x && m19 x) = m20 := ⟨_, rfl⟩
  rw [hm] at cc
  have hm20 := Lib.hid hm
  clear hm
  go_wp2_with fail
  refine cc.mono ?_
  rintro e w17 ⟨At10, ct10, rfl, ho, hb⟩
  have hx17 := Lib.hid (hx16.out.trans (hb.mono hx16.out.size))
  have hrt10 := Lib.hid ho.rp
  clear cc ho
  replace hrt9 := Lib.hid (hrt9.out.below hb)
  clear hb
  clear hrt9
  have cc := both_any A n c (sp ma) B m d (sp mb) w17 (hA'.out.below hx17.out) (hB'.out.below hx17.out) (by omega) (by omega)
  rw [both_sp] at cc
  obtain ⟨m21, hm⟩ : ∃ m21, (fun x : Nat => ma x && mb x) = m21 := ⟨_, rfl⟩
  rw [hm] at cc
  have hm21 := Lib.hid hm
  clear hm
  go_wp2_with fail
  refine cc.mono ?_
  rintro e w18 ⟨At11, ct11, rfl, ho, hb⟩
  have hx18 := Lib.hid (hx17.out.trans (hb.mono hx17.out.size))
  have hrt11 := Lib.hid ho.rp
  clear cc ho
  replace hrt10 := Lib.hid (hrt10.out.below hb)
  clear hb
  have cc := both_any At11 (sp m21).length ct11 (sp m21) C r f (sp mc) w18 hrt11.out (hC'.out.below hx18.out) (Nat.le_trans (sp_len _) (by omega)) (by omega)
  rw [both_sp] at cc
  obtain ⟨m22, hm⟩ : ∃ m22, (fun x : Nat => m21 x && mc x) = m22 := ⟨_, rfl⟩
  rw [hm] at cc
  have hm22 := Lib.hid hm
  clear hm
  go_wp2_with fail
  refine cc.mono ?_
  rintro e w19 ⟨At12, ct12, rfl, ho, hb⟩
  have hx19 := Lib.hid (hx18.out.trans (hb.mono hx18.out.size))
  have hrt12 := Lib.hid ho.rp
  clear cc ho
  replace hrt10 := Lib.hid (hrt10.out.below hb)
  replace hrt11 := Lib.hid (hrt11.out.below hb)
  clear hb
  clear hrt11
  have heq : m20 = m22 := by
    have qm11 := hm11.out
    subst qm11
    have qm12 := hm12.out
    subst qm12
    have qm13 := hm13.out
    subst qm13
    have qm14 := hm14.out
    subst qm14
    have qm15 := hm15.out
    subst qm15
    have qm16 := hm16.out
    subst qm16
    have qm17 := hm17.out
    subst qm17
    have qm18 := hm18.out
    subst qm18
    have qm19 := hm19.out
    subst qm19
    have qm20 := hm20.out
    subst qm20
    have qm21 := hm21.out
    subst qm21
    have qm22 := hm22.out
    subst qm22
    funext x
    try dsimp only
    cases ma x <;> cases mb x <;> cases mc x <;> rfl
  have cc := equal_any At10 (sp m20).length ct10 (sp m20) At12 (sp m22).length ct12 (sp m22) w19 hrt10.out hrt12.out
  rw [show equal? (sp m20) (sp m22) = true by rw [heq]; unfold equal?; rw [okB_sp]; simp] at cc
  clear heq
  go_wp2_with fail
  refine cc.mono ?_
  rintro e w20 ⟨rfl, hb⟩
  have hx20 := Lib.hid (hx19.out.trans (hb.mono hx19.out.size))
  clear cc
  replace hrt10 := Lib.hid (hrt10.out.below hb)
  replace hrt12 := Lib.hid (hrt12.out.below hb)
  clear hb
  clear hrt10
  clear hrt12
  have cc := union_any B m d (sp mb) C r f (sp mc) w20 (hB'.out.below hx20.out) (hC'.out.below hx20.out) (by omega) (by omega)
  rw [union_sp] at cc
  obtain ⟨m23, hm⟩ : ∃ m23, (fun x : Nat => mb x || mc x) = m23 := ⟨_, rfl⟩
  rw [hm] at cc
  have hm23 := Lib.hid hm
  clear hm
  go_wp2_with fail
  refine cc.mono ?_
  rintro e w21 ⟨At13, ct13, rfl, ho, hb⟩
  have hx21 := Lib.hid (hx20.out.trans (hb.mono hx20.out.size))
  have hrt13 := Lib.hid ho.rp
  clear cc ho
  clear hb
  have cc := both_any A n c (sp ma) At13 (sp m23).length ct13 (sp m23) w21 (hA'.out.below hx21.out) hrt13.out (by omega) (Nat.le_trans (sp_len _) (by omega))
  rw [both_sp] at cc
  obtain ⟨m24, hm⟩ : ∃ m24, (fun x : Nat => ma x && m23 x) = m24 := ⟨_, rfl⟩
  rw [hm] at cc
  have hm24 := Lib.hid hm
  clear hm
  go_wp2_with fail
  refine cc.mono ?_
  rintro e w22 ⟨At14, ct14, rfl, ho, hb⟩
  have hx22 := Lib.hid (hx21.out.trans (hb.mono hx21.out.size))
  have hrt14 := Lib.hid ho.rp
  clear cc ho
  replace hrt13 := Lib.hid (hrt13.out.below hb)
  clear hb
  clear hrt13
  have cc := both_any A n c (sp ma) B m d (sp mb) w22 (hA'.out.below hx22.out) (hB'.out.below hx22.out) (by omega) (by omega)
  rw [both_sp] at cc
  obtain ⟨m25, hm⟩ : ∃ m25, (fun x : Nat => ma x && mb x) = m25 := ⟨_, rfl⟩
  rw [hm] at cc
  have hm25 := Lib.hid hm
  clear hm
  go_wp2_with fail
  refine cc.mono ?_
  rintro e w23 ⟨At15, ct15, rfl, ho, hb⟩
  have hx23 := Lib.hid (hx22.out.trans (hb.mono hx22.out.size))
  have hrt15 := Lib.hid ho.rp
  clear cc ho
  replace hrt14 := Lib.hid (hrt14.out.below hb)
  clear hb
  have cc := both_any A n c (sp ma) C r f (sp mc) w23 (hA'.out.below hx23.out) (hC'.out.below hx23.out) (by omega) (by omega)
  rw [both_sp] at cc
  obtain ⟨m26, hm⟩ : ∃ m26, (fun x : Nat => ma x && mc x) = m26 := ⟨_, rfl⟩
  rw [hm] at cc
  have hm26 := Lib.hid hm
  clear hm
  go_wp2_with fail
  refine cc.mono ?_
  rintro e w24 ⟨At16, ct16, rfl, ho, hb⟩
  have hx24 := Lib.hid (hx23.out.trans (hb.mono hx23.out.size))
  have hrt16 := Lib.hid ho.rp
  clear cc ho
  replace hrt14 := Lib.hid (hrt14.out.below hb)
  replace hrt15 := Lib.hid (hrt15.out.below hb)
  clear hb
  have cc := union_any At15 (sp m25).length ct15 (sp m25) At16 (sp m26).length ct16 (sp m26) w24 hrt15.out hrt16.out (Nat.le_trans (sp_len _) (by omega)) (Nat.le_trans (sp_len _) (by omega))
  rw [union_sp] at cc
  obtain ⟨m27, hm⟩ : ∃ m27, (fun x : Nat => m25 x || m26 x) = m27 := ⟨_, rfl⟩
  rw [hm] at cc
  have hm27 := Lib.hid hm
  clear hm
  go_wp2_with fail
  refine cc.mono ?_
  rintro e w25 ⟨At17, ct17, rfl, ho, hb⟩
  have hx25 := Lib.hid (hx24.out.trans (hb.mono hx24.out.size))
  have hrt17 := Lib.hid ho.rp
  clear cc ho
  replace hrt14 := Lib.hid (hrt14.out.below hb)
  replace hrt15 := Lib.hid (hrt15.out.below hb)
  replace hrt16 := Lib.hid (hrt16.out.below hb)
  clear hb
  clear hrt15
  clear hrt16
  have heq : m24 = m27 := by
    have qm11 := hm11.out
    subst qm11
    have qm12 := hm12.out
    subst qm12
    have qm13 := hm13.out
    subst qm13
    have qm14 := hm14.out
    subst qm14
    have qm15 := hm15.out
    subst qm15
    have qm16 := hm16.out
    subst qm16
    have qm17 := hm17.out
    subst qm17
    have qm18 := hm18.out
    subst qm18
    have qm19 := hm19.out
    subst qm19
    have qm20 := hm20.out
    subst qm20
    have qm21 := hm21.out
    subst qm21
    have qm22 := hm22.out
    subst qm22
    have qm23 := hm23.out
    subst qm23
    have qm24 := hm24.out
    subst qm24
    have qm25 := hm25.out
    subst qm25
    have qm26 := hm26.out
    subst qm26
    have qm27 := hm27.out
    subst qm27
    funext x
    try dsimp only
    cases ma x <;> cases mb x <;> cases mc x <;> rfl
  have cc := equal_any At14 (sp m24).length ct14 (sp m24) At17 (sp m27).length ct17 (sp m27) w25 hrt14.out hrt17.out
  rw [show equal? (sp m24) (sp m27) = true by rw [heq]; unfold equal?; rw [okB_sp]; simp] at cc
  clear heq
  go_wp2_with fail
  refine cc.mono ?_
  rintro e w26 ⟨rfl, hb⟩
  have hx26 := Lib.hid (hx25.out.trans (hb.mono hx25.out.size))
  clear cc
  replace hrt14 := Lib.hid (hrt14.out.below hb)
  replace hrt17 := Lib.hid (hrt17.out.below hb)
  clear hb
  clear hrt14
  clear hrt17
  have cc := union_any B m d (sp mb) C r f (sp mc) w26 (hB'.out.below hx26.out) (hC'.out.below hx26.out) (by omega) (by omega)
  rw [union_sp] at cc
  obtain ⟨m28, hm⟩ : ∃ m28, (fun x : Nat => mb x || mc x) = m28 := ⟨_, rfl⟩
  rw [hm] at cc
  have hm28 := Lib.hid hm
  clear hm
  go_wp2_with fail
  refine cc.mono ?_
  rintro e w27 ⟨At18, ct18, rfl, ho, hb⟩
  have hx27 := Lib.hid (hx26.out.trans (hb.mono hx26.out.size))
  have hrt18 := Lib.hid ho.rp
  clear cc ho
  clear hb
  have cc := without_any A n c (sp ma) At18 (sp m28).length ct18 (sp m28) w27 (hA'.out.below hx27.out) hrt18.out (by omega) (Nat.le_trans (sp_len _) (by omega))
  rw [without_sp] at cc
  obtain ⟨m29, hm⟩ : ∃ m29, (fun x : Nat => ma x && !m28 x) = m29 := ⟨_, rfl⟩
  rw [hm] at cc
  have hm29 := Lib.hid hm
  clear hm
  go_wp2_with fail
  refine cc.mono ?_
  rintro e w28 ⟨At19, ct19, rfl, ho, hb⟩
  have hx28 := Lib.hid (hx27.out.trans (hb.mono hx27.out.size))
  have hrt19 := Lib.hid ho.rp
  clear cc ho
  replace hrt18 := Lib.hid (hrt18.out.below hb)
  clear hb
  clear hrt18
  have cc := without_any A n c (sp ma) B m d (sp mb) w28 (hA'.out.below hx28.out) (hB'.out.below hx28.out) (by omega) (by omega)
  rw [without_sp] at cc
  obtain ⟨m30, hm⟩ : ∃ m30, (fun x : Nat => ma x && !mb x) = m30 := ⟨_, rfl⟩
  rw [hm] at cc
  have hm30 := Lib.hid hm
  clear hm
  go_wp2_with fail
  refine cc.mono ?_
  rintro e w29 ⟨At20, ct20, rfl, ho, hb⟩
  have hx29 := Lib.hid (hx28.out.trans (hb.mono hx28.out.size))
  have hrt20 := Lib.hid ho.rp
  clear cc ho
  replace hrt19 := Lib.hid (hrt19.out.below hb)
  clear hb
  have cc := without_any A n c (sp ma) C r f (sp mc) w29 (hA'.out.below hx29.out) (hC'.out.below hx29.out) (by omega) (by omega)
  rw [without_sp] at cc
  obtain ⟨m31, hm⟩ : ∃ m31, (fun x : Nat => ma x && !mc x) = m31 := ⟨_, rfl⟩
  rw [hm] at cc
  have hm31 := Lib.hid hm
  clear hm
  go_wp2_with fail
  refine cc.mono ?_
  rintro e w30 ⟨At21, ct21, rfl, ho, hb⟩
  have hx30 := Lib.hid (hx29.out.trans (hb.mono hx29.out.size))
  have hrt21 := Lib.hid ho.rp
  clear cc ho
  replace hrt19 := Lib.hid (hrt19.out.below hb)
  replace hrt20 := Lib.hid (hrt20.out.below hb)
  clear hb
  have cc := both_any At20 (sp m30).length ct20 (sp m30) At21 (sp m31).length ct21 (sp m31) w30 hrt20.out hrt21.out (Nat.le_trans (sp_len _) (by omega)) (Nat.le_trans (sp_len _) (by omega))
  rw [both_sp] at cc
  obtain ⟨m32, hm⟩ : ∃ m32, (fun x : Nat => m30 x && m31 x) = m32 := ⟨_, rfl⟩
  rw [hm] at cc
  have hm32 := Lib.hid hm
  clear hm
  go_wp2_with fail
  refine cc.mono ?_
  rintro e w31 ⟨At22, ct22, rfl, ho, hb⟩
  have hx31 := Lib.hid (hx30.out.trans (hb.mono hx30.out.size))
  have hrt22 := Lib.hid ho.rp
  clear cc ho
  replace hrt19 := Lib.hid (hrt19.out.below hb)
  replace hrt20 := Lib.hid (hrt20.out.below hb)
  replace hrt21 := Lib.hid (hrt21.out.below hb)
  clear hb
  clear hrt20
  clear hrt21
  have heq : m29 = m32 := by
    have qm11 := hm11.out
    subst qm11
    have qm12 := hm12.out
    subst qm12
    have qm13 := hm13.out
    subst qm13
    have qm14 := hm14.out
    subst qm14
    have qm15 := hm15.out
    subst qm15
    have qm16 := hm16.out
    subst qm16
    have qm17 := hm17.out
    subst qm17
    have qm18 := hm18.out
    subst qm18
    have qm19 := hm19.out
    subst qm19
    have qm20 := hm20.out
    subst qm20
    have qm21 := hm21.out
    subst qm21
    have qm22 := hm22.out
    subst qm22
    have qm23 := hm23.out
    subst qm23
    have qm24 := hm24.out
    subst qm24
    have qm25 := hm25.out
    subst qm25
    have qm26 := hm26.out
    subst qm26
    have qm27 := hm27.out
    subst qm27
    have qm28 := hm28.out
    subst qm28
    have qm29 := hm29.out
    subst qm29
    have qm30 := hm30.out
    subst qm30
    have qm31 := hm31.out
    subst qm31
    have qm32 := hm32.out
    subst qm32
    funext x
    try dsimp only
    cases ma x <;> cases mb x <;> cases mc x <;> rfl
  have cc := equal_any At19 (sp m29).length ct19 (sp m29) At22 (sp m32).length ct22 (sp m32) w31 hrt19.out hrt22.out
  rw [show equal? (sp m29) (sp m32) = true by rw [heq]; unfold equal?; rw [okB_sp]; simp] at cc
  clear heq
  go_wp2_with fail
  refine cc.mono ?_
  rintro e w32 ⟨rfl, hb⟩
  have hx32 := Lib.hid (hx31.out.trans (hb.mono hx31.out.size))
  clear cc
  replace hrt19 := Lib.hid (hrt19.out.below hb)
  replace hrt22 := Lib.hid (hrt22.out.below hb)
  clear hb
  clear hrt19
  clear hrt22
  have cc := both_any A n c (sp ma) B m d (sp mb) w32 (hA'.out.below hx32.out) (hB'.out.below hx32.out) (by omega) (by omega)
  rw [both_sp] at cc
  obtain ⟨m33, hm⟩ : ∃ m33, (fun x : Nat => ma x && mb x) = m33 := ⟨_, rfl⟩
  rw [hm] at cc
  have hm33 := Lib.hid hm
  clear hm
  go_wp2_with fail
  refine cc.mono ?_
  rintro e w33 ⟨At23, ct23, rfl, ho, hb⟩
  have hx33 := Lib.hid (hx32.out.trans (hb.mono hx32.out.size))
  have hrt23 := Lib.hid ho.rp
  clear cc ho
  clear hb
  have cc := without_any A n c (sp ma) B m d (sp mb) w33 (hA'.out.below hx33.out) (hB'.out.below hx33.out) (by omega) (by omega)
  rw [without_sp] at cc
  obtain ⟨m34, hm⟩ : ∃ m34, (fun x : Nat => ma x && !mb x) = m34 := ⟨_, rfl⟩
  rw [hm] at cc
  have hm34 := Lib.hid hm
  clear hm
  go_wp2_with fail
  refine cc.mono ?_
  rintro e w34 ⟨At24, ct24, rfl, ho, hb⟩
  have hx34 := Lib.hid (hx33.out.trans (hb.mono hx33.out.size))
  have hrt24 := Lib.hid ho.rp
  clear cc ho
  replace hrt23 := Lib.hid (hrt23.out.below hb)
  clear hb
  have cc := union_any At23 (sp m33).length ct23 (sp m33) At24 (sp m34).length ct24 (sp m34) w34 hrt23.out hrt24.out (Nat.le_trans (sp_len _) (by omega)) (Nat.le_trans (sp_len _) (by omega))
  rw [union_sp] at cc
  obtain ⟨m35, hm⟩ : ∃ m35, (fun x : Nat => m33 x || m34 x) = m35 := ⟨_, rfl⟩
  rw [hm] at cc
  have hm35 := Lib.hid hm
  clear hm
  go_wp2_with fail
  refine cc.mono ?_
  rintro e w35 ⟨At25, ct25, rfl, ho, hb⟩
  have hx35 := Lib.hid (hx34.out.trans (hb.mono hx34.out.size))
  have hrt25 := Lib.hid ho.rp
  clear cc ho
  replace hrt23 := Lib.hid (hrt23.out.below hb)
  replace hrt24 := Lib.hid (hrt24.out.below hb)
  clear hb
  clear hrt23
  clear hrt24
  have heq : m35 = ma := by
    have qm11 := hm11.out
    subst qm11
    have qm12 := hm12.out
    subst qm12
    have qm13 := hm13.out
    subst qm13
    have qm14 := hm14.out
    subst qm14
    have qm15 := hm15.out
    subst qm15
    have qm16 := hm16.out
    subst qm16
    have qm17 := hm17.out
    subst qm17
    have qm18 := hm18.out
    subst qm18
    have qm19 := hm19.out
    subst qm19
    have qm20 := hm20.out
    subst qm20
    have qm21 := hm21.out
    subst qm21
    have qm22 := hm22.out
    subst qm22
    have qm23 := hm23.out
    subst qm23
    have qm24 := hm24.out
    subst qm24
    have qm25 := hm25.out
    subst qm25
    have qm26 := hm26.out
    subst qm26
    have qm27 := hm27.out
    subst qm27
    have qm28 := hm28.out
    subst qm28
    have qm29 := hm29.out
    subst qm29
    have qm30 := hm30.out
    subst qm30
    have qm31 := hm31.out
    subst qm31
    have qm32 := hm32.out
    subst qm32
    have qm33 := hm33.out
    subst qm33
    have qm34 := hm34.out
    subst qm34
    have qm35 := hm35.out
    subst qm35
    funext x
    try dsimp only
    cases ma x <;> cases mb x <;> cases mc x <;> rfl
  have cc := equal_any At25 (sp m35).length ct25 (sp m35) A n c (sp ma) w35 hrt25.out (hA'.out.below hx35.out)
  rw [show equal? (sp m35) (sp ma) = true by rw [heq]; unfold equal?; rw [okB_sp]; simp] at cc
  clear heq
  go_wp2_with fail
  refine cc.mono ?_
  rintro e w36 ⟨rfl, hb⟩
  have hx36 := Lib.hid (hx35.out.trans (hb.mono hx35.out.size))
  clear cc
  replace hrt25 := Lib.hid (hrt25.out.below hb)
  clear hb
  clear hrt25
  have cc := without_any A n c (sp ma) B m d (sp mb) w36 (hA'.out.below hx36.out) (hB'.out.below hx36.out) (by omega) (by omega)
  rw [without_sp] at cc
  obtain ⟨m36, hm⟩ : ∃ m36, (fun x : Nat => ma x && !mb x) = m36 := ⟨_, rfl⟩
  rw [hm] at cc
  have hm36 := Lib.hid hm
  clear hm
  go_wp2_with fail
  refine cc.mono ?_
  rintro e w37 ⟨At26, ct26, rfl, ho, hb⟩
  have hx37 := Lib.hid (hx36.out.trans (hb.mono hx36.out.size))
  have hrt26 := Lib.hid ho.rp
  clear cc ho
  clear hb
  have cc := both_any At26 (sp m36).length ct26 (sp m36) B m d (sp mb) w37 hrt26.out (hB'.out.below hx37.out) (Nat.le_trans (sp_len _) (by omega)) (by omega)
  rw [both_sp] at cc
  obtain ⟨m37, hm⟩ : ∃ m37, (fun x : Nat => m36 x && mb x) = m37 := ⟨_, rfl⟩
  rw [hm] at cc
  have hm37 := Lib.hid hm
  clear hm
  go_wp2_with fail
  refine cc.mono ?_
  rintro e w38 ⟨At27, ct27, rfl, ho, hb⟩
  have hx38 := Lib.hid (hx37.out.trans (hb.mono hx37.out.size))
  have hrt27 := Lib.hid ho.rp
  clear cc ho
  replace hrt26 := Lib.hid (hrt26.out.below hb)
  clear hb
  clear hrt26
  have hl0 : (sp m37).length = 0 := by
    have e : m37 = fun _ => false := by
      have qm11 := hm11.out
      subst qm11
      have qm12 := hm12.out
      subst qm12
      have qm13 := hm13.out
      subst qm13
      have qm14 := hm14.out
      subst qm14
      have qm15 := hm15.out
      subst qm15
      have qm16 := hm16.out
      subst qm16
      have qm17 := hm17.out
      subst qm17
      have qm18 := hm18.out
      subst qm18
      have qm19 := hm19.out
      subst qm19
      have qm20 := hm20.out
      subst qm20
      have qm21 := hm21.out
      subst qm21
      have qm22 := hm22.out
      subst qm22
      have qm23 := hm23.out
      subst qm23
      have qm24 := hm24.out
      subst qm24
      have qm25 := hm25.out
      subst qm25
      have qm26 := hm26.out
      subst qm26
      have qm27 := hm27.out
      subst qm27
      have qm28 := hm28.out
      subst qm28
      have qm29 := hm29.out
      subst qm29
      have qm30 := hm30.out
      subst qm30
      have qm31 := hm31.out
      subst qm31
      have qm32 := hm32.out
      subst qm32
      have qm33 := hm33.out
      subst qm33
      have qm34 := hm34.out
      subst qm34
      have qm35 := hm35.out
      subst qm35
      have qm36 := hm36.out
      subst qm36
      have qm37 := hm37.out
      subst qm37
      funext x
      try dsimp only
      cases ma x <;> cases mb x <;> rfl
    rw [e, sp_none]
    rfl
  clear hrt27
  have cc := union_any A n c (sp ma) B m d (sp mb) w38 (hA'.out.below hx38.out) (hB'.out.below hx38.out) (by omega) (by omega)
  rw [union_sp] at cc
  obtain ⟨m38, hm⟩ : ∃ m38, (fun x : Nat => ma x || mb x) = m38 := ⟨_, rfl⟩
  rw [hm] at cc
  have hm38 := Lib.hid hm
  clear hm
  go_wp2_with fail
  refine cc.mono ?_
  rintro e w39 ⟨At28, ct28, rfl, ho, hb⟩
  have hx39 := Lib.hid (hx38.out.trans (hb.mono hx38.out.size))
  have hrt28 := Lib.hid ho.rp
  clear cc ho
  clear hb
  have hwi : within? (sp ma) (sp m38) = true := by
    have e : sp (fun x => ma x && !m38 x) = [] := by
      have qm11 := hm11.out
      subst qm11
      have qm12 := hm12.out
      subst qm12
      have qm13 := hm13.out
      subst qm13
      have qm14 := hm14.out
      subst qm14
      have qm15 := hm15.out
      subst qm15
      have qm16 := hm16.out
      subst qm16
      have qm17 := hm17.out
      subst qm17
      have qm18 := hm18.out
      subst qm18
      have qm19 := hm19.out
      subst qm19
      have qm20 := hm20.out
      subst qm20
      have qm21 := hm21.out
      subst qm21
      have qm22 := hm22.out
      subst qm22
      have qm23 := hm23.out
      subst qm23
      have qm24 := hm24.out
      subst qm24
      have qm25 := hm25.out
      subst qm25
      have qm26 := hm26.out
      subst qm26
      have qm27 := hm27.out
      subst qm27
      have qm28 := hm28.out
      subst qm28
      have qm29 := hm29.out
      subst qm29
      have qm30 := hm30.out
      subst qm30
      have qm31 := hm31.out
      subst qm31
      have qm32 := hm32.out
      subst qm32
      have qm33 := hm33.out
      subst qm33
      have qm34 := hm34.out
      subst qm34
      have qm35 := hm35.out
      subst qm35
      have qm36 := hm36.out
      subst qm36
      have qm37 := hm37.out
      subst qm37
      have qm38 := hm38.out
      subst qm38
      rw [← sp_none]
      congr 1
      funext x
      try dsimp only
      cases ma x <;> cases mb x <;> rfl
    unfold within?
    rw [okB_sp, okB_sp, without_sp, e]
    rfl
  have cc := within_any A n c (sp ma) At28 (sp m38).length ct28 (sp m38) w39 (hA'.out.below hx39.out) hrt28.out (by omega) (Nat.le_trans (sp_len _) (by omega))
  rw [hwi] at cc
  clear hwi
  go_wp2_with fail
  refine cc.mono ?_
  rintro e w40 ⟨rfl, hb⟩
  have hx40 := Lib.hid (hx39.out.trans (hb.mono hx39.out.size))
  clear cc
  replace hrt28 := Lib.hid (hrt28.out.below hb)
  clear hb
  clear hrt28
  have cc := union_any A n c (sp ma) B m d (sp mb) w40 (hA'.out.below hx40.out) (hB'.out.below hx40.out) (by omega) (by omega)
  rw [union_sp] at cc
  obtain ⟨m39, hm⟩ : ∃ m39, (fun x : Nat => ma x || mb x) = m39 := ⟨_, rfl⟩
  rw [hm] at cc
  have hm39 := Lib.hid hm
  clear hm
  go_wp2_with fail
  refine cc.mono ?_
  rintro e w41 ⟨At29, ct29, rfl, ho, hb⟩
  have hx41 := Lib.hid (hx40.out.trans (hb.mono hx40.out.size))
  have hrt29 := Lib.hid ho.rp
  clear cc ho
  clear hb
  have cc := count_any At29 (sp m39).length ct29 (sp m39) w41 hrt29.out (Nat.le_trans (sp_len _) (by omega))
  rw [cnt_sp] at cc
  obtain ⟨kU, hkU⟩ : ∃ kU, (card m39 200 : Int) = kU := ⟨_, rfl⟩
  rw [hkU] at cc
  have hkU' := Lib.hid hkU
  clear hkU
  go_wp2_with fail
  refine cc.mono ?_
  rintro e w42 ⟨rfl, hb⟩
  have hx42 := Lib.hid (hx41.out.trans (hb.mono hx41.out.size))
  clear cc
  replace hrt29 := Lib.hid (hrt29.out.below hb)
  clear hb
  clear hrt29
  have cc := both_any A n c (sp ma) B m d (sp mb) w42 (hA'.out.below hx42.out) (hB'.out.below hx42.out) (by omega) (by omega)
  rw [both_sp] at cc
  obtain ⟨m40, hm⟩ : ∃ m40, (fun x : Nat => ma x && mb x) = m40 := ⟨_, rfl⟩
  rw [hm] at cc
  have hm40 := Lib.hid hm
  clear hm
  go_wp2_with fail
  refine cc.mono ?_
  rintro e w43 ⟨At30, ct30, rfl, ho, hb⟩
  have hx43 := Lib.hid (hx42.out.trans (hb.mono hx42.out.size))
  have hrt30 := Lib.hid ho.rp
  clear cc ho
  clear hb
  have cc := count_any At30 (sp m40).length ct30 (sp m40) w43 hrt30.out (Nat.le_trans (sp_len _) (by omega))
  rw [cnt_sp] at cc
  obtain ⟨kB, hkB⟩ : ∃ kB, (card m40 200 : Int) = kB := ⟨_, rfl⟩
  rw [hkB] at cc
  have hkB' := Lib.hid hkB
  clear hkB
  go_wp2_with fail
  refine cc.mono ?_
  rintro e w44 ⟨rfl, hb⟩
  have hx44 := Lib.hid (hx43.out.trans (hb.mono hx43.out.size))
  clear cc
  replace hrt30 := Lib.hid (hrt30.out.below hb)
  clear hb
  clear hrt30
  have cc := count_any A n c (sp ma) w44 (hA'.out.below hx44.out) (by omega)
  rw [cnt_sp] at cc
  obtain ⟨kA, hkA⟩ : ∃ kA, (card ma 200 : Int) = kA := ⟨_, rfl⟩
  rw [hkA] at cc
  have hkA' := Lib.hid hkA
  clear hkA
  go_wp2_with fail
  refine cc.mono ?_
  rintro e w45 ⟨rfl, hb⟩
  have hx45 := Lib.hid (hx44.out.trans (hb.mono hx44.out.size))
  clear cc
  clear hb
  have cc := count_any B m d (sp mb) w45 (hB'.out.below hx45.out) (by omega)
  rw [cnt_sp] at cc
  obtain ⟨kC, hkC⟩ : ∃ kC, (card mb 200 : Int) = kC := ⟨_, rfl⟩
  rw [hkC] at cc
  have hkC' := Lib.hid hkC
  clear hkC
  go_wp2_with fail
  refine cc.mono ?_
  rintro e w46 ⟨rfl, hb⟩
  have hx46 := Lib.hid (hx45.out.trans (hb.mono hx45.out.size))
  clear cc
  clear hb
  have hsum : kU + kB = kA + kC := by
    rw [← hkU'.out, ← hkB'.out, ← hkA'.out, ← hkC'.out]
    have q1 := hm39.out
    have q2 := hm40.out
    rw [← q1, ← q2]
    have := card_or ma mb 200
    omega
  have hb1 : 0 ≤ kU ∧ 0 ≤ kB ∧ 0 ≤ kA ∧ 0 ≤ kC := by
    rw [← hkU'.out, ← hkB'.out, ← hkA'.out, ← hkC'.out]
    omega
  have hb2 : ∀ m : Nat → Bool, ∀ n : Nat, card m n ≤ n := fun m n => by
    induction n with
    | zero => exact Nat.le_refl _
    | succ n ih => rw [card]; split <;> omega
  have hb3 : kA ≤ 200 ∧ kC ≤ 200 := by
    rw [← hkA'.out, ← hkC'.out]
    have := hb2 ma 200
    have := hb2 mb 200
    omega
  have hfin : (kU + kB == kA + kC) = true := by rw [beq_iff_eq]; exact hsum
  obtain ⟨b1, b2, b3, b4⟩ := hb1
  obtain ⟨b5, b6⟩ := hb3
  clear hb2
  go_wp2_with fail
  go_ret
  exact ⟨by first | rfl | (simp [hsum]; unfold wrap64; omega), hx46.out⟩
end Go.Proofs.YtppmnelgekhbnaaDoor.IvW
