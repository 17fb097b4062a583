/- The law ManBack. -/
import Derived.Test.YtpolobklcgfciaaDoorManAwake
namespace Go.Proofs.YtpolobklcgfciaaDoor.Ma
open Go.RowKit Go.Shelf

set_option maxHeartbeats 2000000 in
set_option maxRecDepth 100000 in
theorem back_law (g la : Int) (A : Option Addr) (n c : Nat) (ss : List Int) (x : UInt8) (w : World) (hT : Nu.Tens w) (hI : Is w A n c ss) :
    Calls Tryd.prog 3 #[.agg #[.int .i64 g, .int .i64 la, .slice A n c], .int .u8 (x.toNat : Int)] w fun e w' => e = .returned (.bool true) ∧ Below w.heap.size w w' := by
  have hle := Rd.le hI
  have hm := Rd.max hI
  have hx8 := x.toNat_lt
  have hb0 := below_alloc w (.cells #[.int .i64 g, .int .i64 la, .slice A n c] 24)
  have hm0 := mb_new w g la A n c
  have hI0 := hI.below hb0
  obtain ⟨w0, hw0⟩ : ∃ w0, w.alloc (.cells #[.int .i64 g, .int .i64 la, .slice A n c] 24) = w0 := ⟨_, rfl⟩
  rw [hw0] at hb0 hm0 hI0
  have hx0 := Lib.hid hb0
  clear hb0 hI
  go_enter Tryd.func3, Tryd.ntmps3
  go_wp2_with fail
  refine (awake_any w0 (hT.below hx0.out)).mono ?_
  rintro e w1 ⟨rfl, hb1⟩
  have hx1 := Lib.hid (hx0.out.trans (hb1.mono hx0.out.size))
  have hm1 := hm0.below hb1
  have hI1 := hI0.below hb1
  clear hb1 hm0 hI0 hw0
  obtain ⟨k0, k1, k2, _⟩ := hm1.mf
  by_cases hbig : n ≤ 1000
  case neg =>
    have t1 : decide ((1000 : Int) < (n : Int)) = true := by simp; omega
    clear hm1 hI1
    go_wp2_with fail
    go_ret
    exact ⟨rfl, hx1.out⟩
  case pos =>
    have t1 : decide ((1000 : Int) < (n : Int)) = false := by simp; omega
    have c2 := refMay_any g la A n c ss w1 hI1
    cases hmay : mayM g la ss
    · rw [hmay] at c2
      clear hm1 hI1
      go_wp2_with fail
      refine c2.mono ?_
      rintro e w2 ⟨rfl, hb2⟩
      have hx2 := Lib.hid (hx1.out.trans (hb2.mono hx1.out.size))
      clear hb2 c2
      go_wp2_with fail
      go_ret
      exact ⟨rfl, hx2.out⟩
    · rw [hmay] at c2
      have hm1' := Lib.hid hm1
      have hI1' := Lib.hid hI1
      clear hm1 hI1
      go_wp2_with fail
      refine c2.mono ?_
      rintro e w2 ⟨rfl, hb2⟩
      have hx2 := Lib.hid (hx1.out.trans (hb2.mono hx1.out.size))
      have hm2 := Lib.hid (hm1'.out.below hb2)
      have hI2 := Lib.hid (hI1'.out.below hb2)
      clear hb2 c2 k0 k1 k2 hm1' hI1'
      obtain ⟨k0, k1, k2, _⟩ := hm2.out.mf
      have c3 := manEncode_any g la A n c ss w2 (hT.below hx2.out) hI2.out
      obtain ⟨_, _, _, f4, f5, _⟩ := may_facts hmay
      have hlen := (encM_len hmay).1
      have d1 := decM_encM hmay
      have d2 := decM_more hmay x
      have d3 := decM_fewer hmay
      obtain ⟨E, hE⟩ : ∃ E, encM g la ss = E := ⟨_, rfl⟩
      rw [hE] at c3 hlen d1 d2 d3
      obtain ⟨z, hz⟩ : ∃ z, E.length = z := ⟨_, rfl⟩
      rw [hz] at c3 hlen d3
      have hz1 : 28 ≤ z := by omega
      have hz2 : z ≤ 280 := by omega
      have hz' := Lib.hid hz
      have d1' := Lib.hid d1
      have d2' := Lib.hid d2
      have d3' := Lib.hid d3
      clear hE hlen hz d1 d2 d3 hmay f4 f5
      go_wp2_with fail
      refine c3.mono ?_
      rintro e w3 ⟨A3, cc3, rfl, ho3, hb3⟩
      have hx3 := Lib.hid (hx2.out.trans (hb3.mono hx2.out.size))
      have hm3 := Lib.hid (hm2.out.below hb3)
      have hI3 := Lib.hid (hI2.out.below hb3)
      have hB3 := Lib.hid ho3.bs
      have hcap := Rd.le ho3.bs
      have hcapm := Rd.max ho3.bs
      clear c3 hb3 ho3 hm2 hI2 k0 k1 k2
      have c4 := manDecode_any A3 z cc3 E w3 (hT.below hx3.out) hB3.out
      rw [d1'.out] at c4
      go_wp2_with fail
      refine c4.mono ?_
      rintro e w4 ⟨⟨A4, n4, cc4, rfl, hI4⟩, hb4⟩
      have hx4 := Lib.hid (hx3.out.trans (hb4.mono hx3.out.size))
      have hm4 := Lib.hid (hm3.out.below hb4)
      have hI34 := Lib.hid (hI3.out.below hb4)
      have hI4' := Lib.hid hI4
      have hB4 := Lib.hid (hB3.out.below hb4)
      clear c4 hb4 hI4 hm3 hI3 hB3
      go_wp2_with (at_builtin; apply stop_here)
      have hba := below_alloc w4 (.cells #[.int .i64 g, .int .i64 la, .slice A4 n4 cc4] 24)
      have hmx := mb_new w4 g la A4 n4 cc4
      have hsa : (w4.alloc (.cells #[.int .i64 g, .int .i64 la, .slice A4 n4 cc4] 24)).heap.size = w4.heap.size + 1 := by simp
      obtain ⟨wa, hwa⟩ : ∃ wa, w4.alloc (.cells #[.int .i64 g, .int .i64 la, .slice A4 n4 cc4] 24) = wa := ⟨_, rfl⟩
      have hoe := owb_lit wa wa.heap.size (Nat.le_refl _) #[] 5 [] 0 rfl (by omega) rfl
      have hbe := below_alloc wa (.cells #[] 5)
      rw [hwa] at hba hmx hsa
      have hBe := (hB4.out.below hba).below hbe
      rw [hsa] at hoe
      refine Stop.go (append_bytes _ 27 5 Tryd.underlying27 info_u8 rfl _ _ rfl (w4.heap.size + 1) (.slice (some ⟨w4.heap.size + 1, 0, none⟩) 0 0) [] rfl (by simp only [hwa]; exact hoe) A3 z cc3 E rfl (by simp only [hwa]; exact hBe) z (by simp) (by omega) (by simp) ?_)
      intro A5 c5 w5 h1 _ h3
      rw [hwa, ← hsa] at h3
      rw [List.nil_append] at h1
      have hsa' : wa.heap.size = w4.heap.size + 1 := hsa
      have hw5 := Lib.hid (hbe.trans h3)
      have hxa := Lib.hid (hx4.out.trans (hba.mono hx4.out.size))
      have hma := Lib.hid (hm4.out.below hba)
      have hI3a := Lib.hid (hI34.out.below hba)
      have hI4a := Lib.hid (hI4'.out.below hba)
      have hBa := Lib.hid (hB4.out.below hba)
      have hmxa := Lib.hid hmx
      have ho5 := Lib.hid h1
      have hsz5 : w4.heap.size + 1 ≤ w5.heap.size := by have := hbe.size; have := h3.size; omega
      clear h1 h3 hba hmx hsa hwa hoe hbe hBe hm4 hI34 hI4' hB4
      go_wp2_with (at_builtin; apply stop_here)
      refine Stop.go (append_bytes _ 27 5 Tryd.underlying27 info_u8 rfl _ _ rfl (w4.heap.size + 1) _ E rfl (ho5.out.below (below_alloc _ _)) _ 1 1 [x] rfl (bs_lit w5 #[.int .u8 (x.toNat : Int)] 5 (0, 0) [x] 1 rfl (by omega) rfl) (z + 1) (by rw [hz'.out]) (by omega) (by simp; omega) ?_)
      intro A6 c6 w6 h1 _ h3
      have hbx := below_alloc w5 (.cells #[.int .u8 (x.toNat : Int)] 5)
      have hb6 : Below wa.heap.size wa w6 := hw5.out.trans (by rw [hsa']; exact (hbx.mono hsz5).trans h3)
      have hx6 := Lib.hid (hxa.out.trans (hb6.mono hxa.out.size))
      have hb6' := Lib.hid hb6
      have ho6 := Lib.hid h1.bs
      clear h1 h3 hbx hb6 ho5 hw5
      have c7 := manDecode_any A6 (z + 1) c6 (E ++ [x]) w6 (hT.below hx6.out) ho6.out
      rw [d2'.out] at c7
      go_wp2_with fail
      refine c7.mono ?_
      rintro e w7 ⟨⟨A7, n7, cc7, rfl, hI7⟩, hb7⟩
      have hb7' := Lib.hid (hb6'.out.trans (hb7.mono hb6'.out.size))
      clear c7 hb7 hI7 ho6
      have hb8a := below_alloc w7 (.cells #[.int .i64 0, .int .i64 0, .slice A7 n7 cc7] 24)
      obtain ⟨w8, hw8⟩ : ∃ w8, w7.alloc (.cells #[.int .i64 0, .int .i64 0, .slice A7 n7 cc7] 24) = w8 := ⟨_, rfl⟩
      rw [hw8] at hb8a
      have hb8 := Lib.hid (hb7'.out.trans (hb8a.mono hb7'.out.size))
      have hx8' := Lib.hid (hxa.out.trans (hb8.out.mono hxa.out.size))
      have hB8 := (hBa.out.below hb8.out).cut 0 (z - 1) (by omega) (by omega) A3 (fun b off h _ => by rw [h]; rfl) (fun h => h) (fun h => h)
      rw [List.drop_zero, Nat.sub_zero, Nat.sub_zero] at hB8
      have c9 := manDecode_any A3 (z - 1) cc3 (E.take (z - 1)) w8 (hT.below hx8'.out) hB8
      rw [d3'.out] at c9
      have hzi : ((z : Int) - 1) = ((z - 1 : Nat) : Int) := by omega
      clear hb8a hB8
      go_wp2_with fail
      refine c9.mono ?_
      rintro e w9 ⟨⟨A9, n9, cc9, rfl, hI9⟩, hb9⟩
      have hb9' := Lib.hid (hb8.out.trans (hb9.mono hb8.out.size))
      clear c9 hb9 hI9
      have hb10a := below_alloc w9 (.cells #[.int .i64 0, .int .i64 0, .slice A9 n9 cc9] 24)
      obtain ⟨w10, hw10⟩ : ∃ w10, w9.alloc (.cells #[.int .i64 0, .int .i64 0, .slice A9 n9 cc9] 24) = w10 := ⟨_, rfl⟩
      rw [hw10] at hb10a
      have hb10 := Lib.hid (hb9'.out.trans (hb10a.mono hb9'.out.size))
      have hx10 := Lib.hid (hxa.out.trans (hb10.out.mono hxa.out.size))
      obtain ⟨k0, k1, k2, _⟩ := (hma.out.below hb10.out).mf
      obtain ⟨l0, l1, l2, _⟩ := (hmxa.out.below hb10.out).mf
      have c11 := refSame_any g la A4 n4 cc4 A n c ss w10 (hI4a.out.below hb10.out) (hI3a.out.below hb10.out)
      clear hb10a
      go_wp2_with fail
      refine c11.mono ?_
      rintro e w11 ⟨rfl, hb11⟩
      have hx11 := Lib.hid (hx10.out.trans (hb11.mono hx10.out.size))
      clear hb11 c11
      go_wp2_with fail
      go_ret
      exact ⟨rfl, hx11.out⟩
end Go.Proofs.YtpolobklcgfciaaDoor.Ma
