/- The law ManCodes. -/
import Derived.Test.YtpolobklcgfciaaDoorManAwake
import Derived.Test.YtpolobklcgfciaaDoorManBack
import Derived.Test.YtpolobklcgfciaaDoorManEnc2
import Derived.Test.YtpolobklcgfciaaDoorManDec2
import Derived.Test.YtpolobklcgfciaaDoorManGen
import Derived.Deep.RegionHeld3
namespace Go.Proofs.YtpolobklcgfciaaDoor.Ma
open Go.RowKit Go.Shelf

/-- What stays, of a region's worlds. -/
theorem held_next {w0 w w' : World} (h : Below w0.heap.size w0 w) (hb : Below w.heap.size w w') : Below w0.heap.size w0 w' := h.trans (hb.mono h.size)
theorem held_draws {w0 w w' : World} (h : Below w0.heap.size w0 w) (hb : ∃ k, w' = w.drewN k) : Below w0.heap.size w0 w' := by
  obtain ⟨k, rfl⟩ := hb
  exact h.trans (Joins.below_draws _ _ _)

theorem sall {w0 : World} {bm bx by' : Nat} {g la gx lx : Int} {A Ax Ay : Option Addr} {n c nx cx ny cy : Nat}
    (hm : Hid (Mb w0 bm g la A n c)) (hx : Hid (Mb w0 bx gx lx Ax nx cx)) (hy : Hid (Mb w0 by' gx lx Ay ny cy)) {w : World} (h : Below w0.heap.size w0 w) :
    Below w0.heap.size w0 w ∧ w.cell? ⟨bm, 0, none⟩ = some (.int .i64 g) ∧ w.cell? ⟨bm, 1, none⟩ = some (.int .i64 la) ∧ w.cell? ⟨bm, 2, none⟩ = some (.slice A n c) ∧
      w.cell? ⟨bx, 0, none⟩ = some (.int .i64 gx) ∧ w.cell? ⟨bx, 1, none⟩ = some (.int .i64 lx) ∧ w.cell? ⟨bx, 2, none⟩ = some (.slice Ax nx cx) ∧
      w.cell? ⟨by', 0, none⟩ = some (.int .i64 gx) ∧ w.cell? ⟨by', 1, none⟩ = some (.int .i64 lx) ∧ w.cell? ⟨by', 2, none⟩ = some (.slice Ay ny cy) := by
  obtain ⟨a0, a1, a2, _⟩ := (hm.out.below h).mf
  obtain ⟨b0, b1, b2, _⟩ := (hx.out.below h).mf
  obtain ⟨c0, c1, c2, _⟩ := (hy.out.below h).mf
  exact ⟨h, a0, a1, a2, b0, b1, b2, c0, c1, c2⟩

set_option maxHeartbeats 4000000 in
set_option maxRecDepth 100000 in
theorem codes_law (g la : Int) (A : Option Addr) (n c : Nat) (ss : List Int) (B : Option Addr) (nb cb : Nat) (l : List UInt8) (s : ByteArray) (hs : s.size ≤ 281474976710656) (w : World) (hT : Nu.Tens w) (hE : Ev w) (hI : Is w A n c ss) (hBs : Bs w B nb cb l) :
    Calls Tryd.prog 4 #[.agg #[.int .i64 g, .int .i64 la, .slice A n c], .slice B nb cb, .string s] w fun e w' => e = .returned (.bool true) ∧ Below w.heap.size w w' := by
  have hle := Rd.le hI
  have hm := Rd.max hI
  have hleb := Rd.le hBs
  have hmb := Rd.max hBs
  have hb0 := below_alloc w (.cells #[.int .i64 g, .int .i64 la, .slice A n c] 24)
  have hm0 := mb_new w g la A n c
  have hI0 := hI.below hb0
  have hBs0 := hBs.below hb0
  obtain ⟨w0, hw0⟩ : ∃ w0, w.alloc (.cells #[.int .i64 g, .int .i64 la, .slice A n c] 24) = w0 := ⟨_, rfl⟩
  rw [hw0] at hb0 hm0 hI0 hBs0
  have hx0 := Lib.hid hb0
  clear hb0 hI hBs
  go_enter Tryd.func4, Tryd.ntmps4
  go_wp2_with fail
  refine (awake_any w0 (hT.below hx0.out)).mono ?_
  rintro e w1 ⟨rfl, hb1⟩
  have hx1 := Lib.hid (hx0.out.trans (hb1.mono hx0.out.size))
  have hm1 := hm0.below hb1
  have hI1 := hI0.below hb1
  have hBs1 := hBs0.below hb1
  clear hb1 hm0 hI0 hBs0 hw0
  obtain ⟨k0, k1, k2, _⟩ := hm1.mf
  obtain ⟨S, hS⟩ : ∃ S, s.size = S := ⟨_, rfl⟩
  by_cases hbig : n ≤ 1000
  case neg =>
    have t1 : decide ((1000 : Int) < (n : Int)) = true := by simp; omega
    clear hm1 hI1 hBs1
    go_wp2_with fail
    all_goals go_ret
    all_goals exact ⟨rfl, hx1.out⟩
  case pos =>
    have t1 : decide ((1000 : Int) < (n : Int)) = false := by simp; omega
    by_cases hbig2 : nb ≤ 8192
    case neg =>
      have t2 : decide ((8192 : Int) < (nb : Int)) = true := by simp; omega
      clear hm1 hI1 hBs1
      go_wp2_with fail
      all_goals go_ret
      all_goals exact ⟨rfl, hx1.out⟩
    case pos =>
      have t2 : decide ((8192 : Int) < (nb : Int)) = false := by simp; omega
      by_cases hbig3 : S ≤ 1000
      case neg =>
        have t3 : decide ((1000 : Int) < (S : Int)) = true := by simp; omega
        clear hm1 hI1 hBs1
        go_wp2_with fail
        all_goals go_ret
        all_goals exact ⟨rfl, hx1.out⟩
      case pos =>
        have t3 : decide ((1000 : Int) < (S : Int)) = false := by simp; omega
        have hm1' := Lib.hid hm1
        have hI1' := Lib.hid hI1
        have hBs1' := Lib.hid hBs1
        have c2 := manDecode_any B nb cb l w1 (hT.below hx1.out) hBs1
        obtain ⟨D, hD⟩ : ∃ D, decM l = D := ⟨_, rfl⟩
        have hD' := Lib.hid hD
        rw [hD] at c2
        clear hm1 hI1 hBs1 hD
        go_wp2_with fail
        refine c2.mono ?_
        rintro e w2 ⟨⟨A2, n2, cc2, rfl, hI2⟩, hb2⟩
        have hx2 := Lib.hid (hx1.out.trans (hb2.mono hx1.out.size))
        have hm2 := Lib.hid (hm1'.out.below hb2)
        have hI2m := Lib.hid (hI1'.out.below hb2)
        have hB2 := Lib.hid (hBs1'.out.below hb2)
        have hba := below_alloc w2 (.cells #[.int .i64 D.2.1, .int .i64 D.2.2.1, .slice A2 n2 cc2] 24)
        have hxa := Lib.hid (mb_new w2 D.2.1 D.2.2.1 A2 n2 cc2)
        obtain ⟨w3, hw3⟩ : ∃ w3, w2.alloc (.cells #[.int .i64 D.2.1, .int .i64 D.2.2.1, .slice A2 n2 cc2] 24) = w3 := ⟨_, rfl⟩
        rw [hw3] at hba hxa
        have hx3 := Lib.hid (hx2.out.trans (hba.mono hx2.out.size))
        have hm3 := Lib.hid (hm2.out.below hba)
        have hI3m := Lib.hid (hI2m.out.below hba)
        have hB3 := Lib.hid (hB2.out.below hba)
        have hI3x := Lib.hid (hI2.below hba)
        clear c2 hb2 hI2 hm1' hI1' hBs1' hm2 hI2m hB2 k0 k1 k2
        have c3 := refDecode_any B nb cb l w3 hB3.out
        rw [hD'.out] at c3
        clear hba
        go_wp2_with fail
        clear hw3
        refine c3.mono ?_
        rintro e w4 ⟨⟨A4, n4, cc4, rfl, hI4⟩, hb4⟩
        have hx4 := Lib.hid (hx3.out.trans (hb4.mono hx3.out.size))
        have hm4 := Lib.hid (hm3.out.below hb4)
        have hI4m := Lib.hid (hI3m.out.below hb4)
        have hI4x := Lib.hid (hI3x.out.below hb4)
        have hxa4 := Lib.hid (hxa.out.below hb4)
        have hba := below_alloc w4 (.cells #[.int .i64 D.2.1, .int .i64 D.2.2.1, .slice A4 n4 cc4] 24)
        have hya := Lib.hid (mb_new w4 D.2.1 D.2.2.1 A4 n4 cc4)
        obtain ⟨w5, hw5⟩ : ∃ w5, w4.alloc (.cells #[.int .i64 D.2.1, .int .i64 D.2.2.1, .slice A4 n4 cc4] 24) = w5 := ⟨_, rfl⟩
        rw [hw5] at hba hya
        have hx5 := Lib.hid (hx4.out.trans (hba.mono hx4.out.size))
        have hm5 := Lib.hid (hm4.out.below hba)
        have hI5m := Lib.hid (hI4m.out.below hba)
        have hI5x := Lib.hid (hI4x.out.below hba)
        have hxa5 := Lib.hid (hxa4.out.below hba)
        have hI5y := Lib.hid (hI4.below hba)
        clear c3 hb4 hI4 hm3 hI3m hI3x hB3 hxa hm4 hI4m hI4x hxa4
        have c4 := manGen_any s (by omega) w5 (hT.below hx5.out) (hE.below hx5.out)
        obtain ⟨G, hG⟩ : ∃ G, genC s.data.toList = G := ⟨_, rfl⟩
        have hG' := Lib.hid hG
        rw [hG] at c4
        unfold genV at c4
        clear hG hba
        go_wp2_with fail
        clear hw5
        refine c4.mono ?_
        rintro e w6 ⟨rfl, hb6⟩
        have hx6 := Lib.hid (hx5.out.trans (hb6.mono hx5.out.size))
        have hm6 := Lib.hid (hm5.out.below hb6)
        have hI6m := Lib.hid (hI5m.out.below hb6)
        have hI6x := Lib.hid (hI5x.out.below hb6)
        have hI6y := Lib.hid (hI5y.out.below hb6)
        have hxa6 := Lib.hid (hxa5.out.below hb6)
        have hya6 := Lib.hid (hya.out.below hb6)
        clear c4 hb6 hm5 hI5m hI5x hI5y hxa5 hya
        have c5 := refGen_any s (by omega) w6
        have hge := gen_eq s.data.toList
        rw [← hge, hG'.out] at c5
        unfold genV at c5
        clear hge
        go_wp2_with fail
        refine c5.mono ?_
        rintro e w7 ⟨rfl, rfl⟩
        clear c5
        go_upto_region 9 with fail
        have d1 := fun w' (h : Below w7.heap.size w7 w') => manMay_any g la A n c ss w' ((hT.below hx6.out).below h) (hI6m.out.below h)
        have d2 := fun w' (h : Below w7.heap.size w7 w') => refMay_any g la A n c ss w' (hI6m.out.below h)
        have d3 := fun w' (h : Below w7.heap.size w7 w') => manEncode_any g la A n c ss w' ((hT.below hx6.out).below h) (hI6m.out.below h)
        have d4 := fun w' (h : Below w7.heap.size w7 w') => refEncode_any g la A n c ss w' (hI6m.out.below h)
        have d5 := fun w' (h : Below w7.heap.size w7 w') => refSame_any D.2.1 D.2.2.1 A2 n2 cc2 A4 n4 cc4 D.2.2.2 w' (hI6x.out.below h) (hI6y.out.below h)
        have d6 := fun w' (h : Below w7.heap.size w7 w') => manName_any g w' ((hT.below hx6.out).below h)
        have d7 := fun w' (_ : Below w7.heap.size w7 w') => refName_any g w'
        have e4 : nameOf man4 g = nameOf [109, 97, 110, 46] g := rfl
        rw [e4] at d7
        obtain ⟨M, hM⟩ : ∃ M, mayM g la ss = M := ⟨_, rfl⟩
        obtain ⟨N1, hN1⟩ : ∃ N1, strOf (nameOf [109, 97, 110, 46] g) = N1 := ⟨_, rfl⟩
        obtain ⟨E, hEn⟩ : ∃ E, encM g la ss = E := ⟨_, rfl⟩
        rw [hM] at d1 d2
        rw [hEn] at d3 d4
        rw [hN1] at d6 d7
        have d1' := Lib.hid d1
        have d2' := Lib.hid d2
        have d3' := Lib.hid d3
        have d4' := Lib.hid d4
        have d5' := Lib.hid d5
        have d6' := Lib.hid d6
        have d7' := Lib.hid d7
        clear d1 d2 d3 d4 d5 d6 d7 e4 hM hN1 hEn
        go_region_held3 (fun w' => Below w7.heap.size w7 w' ∧ w'.cell? ⟨w.heap.size, 0, none⟩ = some (.int .i64 g) ∧ w'.cell? ⟨w.heap.size, 1, none⟩ = some (.int .i64 la) ∧ w'.cell? ⟨w.heap.size, 2, none⟩ = some (.slice A n c) ∧
            w'.cell? ⟨w2.heap.size, 0, none⟩ = some (.int .i64 D.2.1) ∧ w'.cell? ⟨w2.heap.size, 1, none⟩ = some (.int .i64 D.2.2.1) ∧ w'.cell? ⟨w2.heap.size, 2, none⟩ = some (.slice A2 n2 cc2) ∧
            w'.cell? ⟨w4.heap.size, 0, none⟩ = some (.int .i64 D.2.1) ∧ w'.cell? ⟨w4.heap.size, 1, none⟩ = some (.int .i64 D.2.2.1) ∧ w'.cell? ⟨w4.heap.size, 2, none⟩ = some (.slice A4 n4 cc4))
          (first | exact sall hm6 hxa6 hya6 (by assumption) | exact sall hm6 hxa6 hya6 (Below.refl _ _) | exact sall hm6 hxa6 hya6 (Below.drew (Below.refl _ _)))
          (first
            | (go_at_call 13; refine (d1'.out _ (And.left ‹Below w7.heap.size w7 _ ∧ _›)).mono ?_; rintro e w' ⟨rfl, hb⟩; have hB' := held_next (And.left ‹Below w7.heap.size w7 _ ∧ _›) hb)
            | (go_at_call 6; refine (d2'.out _ (And.left ‹Below w7.heap.size w7 _ ∧ _›)).mono ?_; rintro e w' ⟨rfl, hb⟩; have hB' := held_next (And.left ‹Below w7.heap.size w7 _ ∧ _›) hb)
            | (go_at_call 7; refine (d3'.out _ (And.left ‹Below w7.heap.size w7 _ ∧ _›)).mono ?_; rintro e w' ⟨A7, c7, rfl, ho7, hb7⟩; have hB' := held_next (And.left ‹Below w7.heap.size w7 _ ∧ _›) hb7)
            | (go_at_call 15; refine (d4'.out _ (And.left ‹Below w7.heap.size w7 _ ∧ _›)).mono ?_; rintro e w' ⟨A8, c8, rfl, ho8, hb8⟩; have hB' := held_next (And.left ‹Below w7.heap.size w7 _ ∧ _›) hb8)
            | (go_at_call 14; refine (FrW.bytes_any _ _ _ E _ _ _ E _ (ho7.bs.below hb8) ho8.bs).mono ?_; rintro e w' ⟨rfl, hb⟩; have hB' := held_draws (And.left ‹Below w7.heap.size w7 _ ∧ _›) hb)
            | (go_at_call 9; refine (d5'.out _ (And.left ‹Below w7.heap.size w7 _ ∧ _›)).mono ?_; rintro e w' ⟨rfl, hb⟩; have hB' := held_next (And.left ‹Below w7.heap.size w7 _ ∧ _›) hb)
            | (go_at_call 16; refine (d6'.out _ (And.left ‹Below w7.heap.size w7 _ ∧ _›)).mono ?_; rintro e w' ⟨rfl, hb⟩; have hB' := held_next (And.left ‹Below w7.heap.size w7 _ ∧ _›) hb)
            | (go_at_call 17; refine (d7'.out _ (And.left ‹Below w7.heap.size w7 _ ∧ _›)).mono ?_; rintro e w' ⟨rfl, hb⟩; have hB' := held_next (And.left ‹Below w7.heap.size w7 _ ∧ _›) hb))
        have hh := Lib.hid (hx6.out.trans ((And.left ‹Below w7.heap.size w7 _ ∧ _›).mono hx6.out.size))
        go_wp2_with fail
        go_ret
        exact ⟨rfl, hh.out⟩
end Go.Proofs.YtpolobklcgfciaaDoor.Ma
