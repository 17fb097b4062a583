/- A manifest's bytes: the document's. -/
import Derived.Test.YtfdpnjebhllpkaaGreatDoorMMnCod
namespace Go.Proofs.YtfdpnjebhllpkaaGreatDoor.Ma
open Go.RowKit Go.Shelf

set_option maxHeartbeats 2000000 in
set_option maxRecDepth 100000 in
/-- The document's Encode. -/
theorem refEncode_any (g la : Int) (A : Option Addr) (n c : Nat) (ss : List Int) (w : World) (hI : Is w A n c ss) :
    Calls Tryz.prog 111 #[.agg #[.int .i64 g, .int .i64 la, .slice A n c]] w fun e w' => ∃ A' c', e = .returned (.slice A' (encM g la ss).length c') ∧ OwB w' w.heap.size 5 (.slice A' (encM g la ss).length c') (encM g la ss) ∧ Below w.heap.size w w' := by
  have kc := fun (w : World) (C : Array Value) (n c : Nat) => Lib.run_convert_bytes_const (P := Tryz.prog) w 22 5 C n c Tryz.underlying22 Tryz.underlying5
  have hn := hI.len
  have hle := Rd.le hI
  have hm := Rd.max hI
  have hm0 := mb_new w g la A n c
  have hb0 := below_alloc w (.cells #[.int .i64 g, .int .i64 la, .slice A n c] 75)
  have c1 := refMay_any g la A n c ss _ (hI.below hb0)
  cases hmay : mayM g la ss
  · have he : encM g la ss = [] := by rw [encM, hmay, if_neg (by simp)]
    rw [he]
    rw [hmay] at c1
    clear he
    go_enter Tryz.func111, Tryz.ntmps111
    go_wp2_with fail
    refine c1.mono ?_
    rintro e w1 ⟨rfl, hb1⟩
    have hx1 := Lib.hid (hb0.trans (hb1.mono hb0.size))
    clear hb1 hb0 kc
    go_wp2_with fail
    go_ret
    exact ⟨none, 0, rfl, OwB.nil _ _ _, hx1.out⟩
  · have he : encM g la ss = Fr.put (recM g la ss) := by rw [encM, hmay, if_pos rfl]
    have hnum := nums_lt hmay
    obtain ⟨_, _, _, f4, f5, _⟩ := may_facts hmay
    rw [he]
    rw [hmay] at c1
    have hg := hnum g (by simp)
    have hla := hnum la (by simp)
    obtain ⟨g, rfl⟩ : ∃ k : Nat, g = k := ⟨g.toNat, by omega⟩
    obtain ⟨la, rfl⟩ : ∃ k : Nat, la = k := ⟨la.toNat, by omega⟩
    have hgn : g < 4294967296 := by omega
    have hlan : la < 4294967296 := by omega
    have hnn : n < 4294967296 := by omega
    have hss : ∀ z ∈ ss, 0 ≤ z ∧ z < 4294967296 := fun z hz => hnum z (by simp [hz])
    have hss' := Lib.hid hss
    have hrec : recM g la ss = (((mag ++ Fr.le g) ++ Fr.le la) ++ Fr.le n) ++ les ss := by
      unfold recM
      rw [hn]
      simp [les, List.append_assoc]
    have hrec' := Lib.hid hrec
    have hn' := Lib.hid hn
    obtain ⟨P, hP⟩ : ∃ P, Fr.put (recM g la ss) = P := ⟨_, rfl⟩
    rw [hP]
    have hP' := Lib.hid hP
    have f5' : n ≤ 64 := by omega
    clear he hn hrec hnum hP hg hla hss hmay f4 f5
    go_enter Tryz.func111, Tryz.ntmps111
    go_wp2_with fail
    refine c1.mono ?_
    rintro e w1 ⟨rfl, hb1⟩
    have hm1 := Lib.hid (hm0.below hb1)
    have hx1 := Lib.hid (hb0.trans (hb1.mono hb0.size))
    have hIW := Lib.hid hI
    have hs1 := hm1.out.lt
    clear hb1 hb0 c1 hm0 hI
    have hmg := bs_lit w1 #[.int .u8 82, .int .u8 67, .int .u8 77, .int .u8 49] 5 (4, 5) mag 4 rfl (by omega) rfl
    have hba := below_alloc w1 (.cells #[.int .u8 82, .int .u8 67, .int .u8 77, .int .u8 49] 5 (4, 5))
    obtain ⟨k0, k1, k2, _⟩ := (hm1.out.below hba).mf
    obtain ⟨j0, j1, j2, _⟩ := hm1.out.mf
    go_wp2_with fail
    refine (FrW.put32_any g hgn _).mono ?_
    rintro e w2 ⟨A2, c2, rfl, ho2, hb2⟩
    have hmg2 := hmg.below hb2
    have hy2 := Lib.hid ((hba.trans (hb2.mono hba.size)).mono (show w.heap.size + 1 ≤ w1.heap.size by omega))
    have hB2 := ho2.bs
    have hs2 := hy2.out.size
    clear hba hb2 ho2 hmg kc k0 k1 k2 j0 j1 j2
    go_wp2_with (at_builtin; apply stop_here)
    refine Stop.go (append_bytes_full _ 22 5 Tryz.underlying22 info_u8 rfl _ _ rfl _ 4 4 mag rfl hmg2 A2 4 c2 (Fr.le g) rfl hB2 (by omega) (by omega) 8 rfl (by omega) ?_)
    intro A3 c3 w3 h1 h3
    have hy3 := Lib.hid (hy2.out.trans (h3.mono (show w.heap.size + 1 ≤ w2.heap.size by omega)))
    have ho3 := Lib.hid h1
    have hs3 := hy3.out.size
    clear h1 h3 hmg2 hB2
    obtain ⟨k0, k1, k2, _⟩ := (show Mb w3 w.heap.size g la A n c from (hy3.out.block _ (by omega)).trans hm1.out).mf
    go_wp2_with fail
    refine (FrW.put32_any la hlan w3).mono ?_
    rintro e w4 ⟨A4, c4, rfl, ho4, hb4⟩
    have hy4 := Lib.hid (hy3.out.trans (hb4.mono (show w.heap.size + 1 ≤ w3.heap.size by omega)))
    have ho34 := Lib.hid (OwB.base (ho3.out.below hb4) (show w.heap.size + 1 ≤ w2.heap.size by omega))
    have hB4 := Lib.hid ho4.bs
    have hs4 := hy4.out.size
    clear hb4 ho4 k0 k1 k2 ho3
    go_wp2_with (at_builtin; apply stop_here)
    refine Stop.go (append_bytes _ 22 5 Tryz.underlying22 info_u8 rfl _ _ rfl (w.heap.size + 1) _ _ rfl ho34.out A4 4 c4 (Fr.le la) rfl hB4.out 12 (by simp [mag]) (by omega) (by omega) ?_)
    intro A5 c5 w5 h1 _ h3
    have hy5 := Lib.hid (hy4.out.trans h3)
    have ho5 := Lib.hid h1
    have hs5 := hy5.out.size
    clear h1 h3 ho34 hB4
    obtain ⟨k0, k1, k2, _⟩ := (show Mb w5 w.heap.size g la A n c from (hy5.out.block _ (by omega)).trans hm1.out).mf
    go_wp2_with fail
    refine (FrW.put32_any n hnn w5).mono ?_
    rintro e w6 ⟨A6, c6, rfl, ho6, hb6⟩
    have hy6 := Lib.hid (hy5.out.trans (hb6.mono (show w.heap.size + 1 ≤ w5.heap.size by omega)))
    have ho56 := Lib.hid (ho5.out.below hb6)
    have hB6 := Lib.hid ho6.bs
    have hs6 := hy6.out.size
    clear hb6 ho6 k0 k1 k2 ho5
    go_wp2_with (at_builtin; apply stop_here)
    refine Stop.go (append_bytes _ 22 5 Tryz.underlying22 info_u8 rfl _ _ rfl (w.heap.size + 1) _ _ rfl ho56.out A6 4 c6 (Fr.le n) rfl hB6.out 16 (by simp [mag]) (by omega) (by omega) ?_)
    intro A7 c7 w7 h1 _ h3
    have hy7 := Lib.hid (hy6.out.trans h3)
    have ho7 := Lib.hid h1
    have hs7 := hy7.out.size
    clear h1 h3 ho56 hB6
    obtain ⟨H, hH⟩ : ∃ H, ((mag ++ Fr.le g) ++ Fr.le la) ++ Fr.le n = H := ⟨_, rfl⟩
    have hHl : Hid (H.length = 16) := by rw [← hH]; exact Lib.hid (by simp [mag])
    rw [hH] at ho7 hrec'
    clear hH
    go_wp2_with fail
    go_loopw [3, 4] (fun bv v wr => ∃ (k : Nat) (A8 : Option Addr) (c8 m8 : Nat), k ≤ n ∧ Hid (m8 = 16 + 4 * k) ∧ v = .int .i64 (k : Nat) ∧ bv = .slice A8 m8 c8 ∧
      Hid (OwB wr (w.heap.size + 1) 5 (.slice A8 m8 c8) (H ++ les (ss.take k))) ∧ Hid (Below (w.heap.size + 1) w1 wr)) (fun _ v _ => 1 + n - (intOf v).toNat)
    case atStart => exact ⟨0, A7, c7, 16, by omega, Lib.hid rfl, rfl, rfl, Lib.hid (by simpa [les] using ho7.out), hy7⟩
    case round =>
      obtain ⟨k, A8, c8, m8, hk, hm8, rfl, rfl, ho8, hy8⟩ := hrel
      obtain ⟨k0, k1, k2, _⟩ := (show Mb wr w.heap.size g la A n c from (hy8.out.block _ (by omega)).trans hm1.out).mf
      have hx8 := Lib.hid (hx1.out.trans (hy8.out.mono (by omega)))
      have hs8 := hy8.out.size
      by_cases hlt : k < n
      · have i0 : decide ((k : Int) < (n : Int)) = true := by simp; omega
        have i1 : (k : Int) < (n : Int) := by omega
        obtain ⟨b, off, z, rfl, hbl, hzk, hc⟩ := (hIW.out.below hx8.out).at_ hlt
        have hzr := hss'.out z (List.mem_of_getElem? hzk)
        obtain ⟨v, rfl⟩ : ∃ v : Nat, z = v := ⟨z.toNat, by omega⟩
        have hv : v < 4294967296 := by omega
        have hnext : H ++ les (ss.take (k + 1)) = (H ++ les (ss.take k)) ++ Fr.le v := by rw [take_snoc hzk, les_append, les_one, List.append_assoc]; rfl
        have hnext' := Lib.hid hnext
        clear hzk hnext
        go_wp2_with fail
        refine (FrW.put32_any v hv wr).mono ?_
        rintro e w9 ⟨A9, c9, rfl, ho9, hb9⟩
        have hy9 := Lib.hid (hy8.out.trans (hb9.mono (show w.heap.size + 1 ≤ wr.heap.size by omega)))
        have ho89 := Lib.hid (ho8.out.below hb9)
        have hB9 := Lib.hid ho9.bs
        have hs9 := hy9.out.size
        have hlen8 : (H ++ les (ss.take k)).length = m8 := ho89.out.rd_len
        clear hb9 ho9 k0 k1 k2 ho8
        go_wp2_with (at_builtin; apply stop_here)
        refine Stop.go (append_bytes _ 22 5 Tryz.underlying22 info_u8 rfl _ _ rfl (w.heap.size + 1) _ _ rfl ho89.out A9 4 c9 (Fr.le v) rfl hB9.out (m8 + 4) (by rw [hlen8]) (by have := hm8.out; omega) (by omega) ?_)
        intro A10 c10 w10 h1 _ h3
        have hy10 := Lib.hid (hy9.out.trans h3)
        have ho10 := Lib.hid h1
        clear h1 h3 ho89 hB9 hlen8
        go_wp2_with fail
        go_roundw
        case rel => exact ⟨k + 1, A10, c10, m8 + 4, by omega, Lib.hid (by have := hm8.out; omega), by go_num, rfl, by rw [hnext'.out]; exact ho10, hy10⟩
        case measure => simp [intOf]; omega
      · have i0 : decide ((k : Int) < (n : Int)) = false := by simp; omega
        obtain rfl : k = n := by omega
        have hob := ho8.out
        rw [List.take_of_length_le (by have := hn'.out; omega), ← hrec'.out] at hob
        have hput := FrW.refput_any A8 m8 c8 (recM g la ss) wr hob.bs
        rw [hP'.out] at hput
        clear ho8 hob
        go_wp2_with fail
        refine hput.mono ?_
        rintro e w9 ⟨A9, c9, rfl, ho9, hb9⟩
        have ho9' := Lib.hid (OwB.base ho9 (show w.heap.size ≤ wr.heap.size by omega))
        have hx9 := Lib.hid (hx8.out.trans (hb9.mono (by omega)))
        clear ho9 hb9 hput
        go_wp2_with fail
        go_ret
        exact ⟨A9, c9, rfl, ho9'.out, hx9.out⟩
end Go.Proofs.YtfdpnjebhllpkaaGreatDoor.Ma
