/- The document's Clean; Texts. -/
import Derived.Test.YtfdpnjebhllpkaaGreatDoorMDkRb
import Derived.Test.YtfdpnjebhllpkaaGreatDoorMSgRef
import Derived.Test.YtfdpnjebhllpkaaGreatDoorMManEnc2
import Derived.Test.YtfdpnjebhllpkaaGreatDoorMManMay2
section
namespace Go.Proofs.YtfdpnjebhllpkaaGreatDoor.Mn
open Go.RowKit Dk Ma Sg

theorem mb_rm {w w' : World} {b : Nat} {g la : Int} {A : Option Addr} {n c : Nat} (h : Mb w b g la A n c) (hf : Rm w w') : Mb w' b g la A n c :=
  hf b _ h (fun cs fr e => by injection e with _ e _; exact absurd e (by decide)) (fun cs fr e => by injection e with _ e _; exact absurd e (by decide))

theorem rdo2 {B rb N U : Nat} {d : D} {w0 w : World} (h : Rs B rb d w0 w) (hG : Bd d N U) (hN : N ≤ 900) (hU : U ≤ 1000000) (K : Nat) (hK : 1 ≤ K ∧ K ≤ 6) (s s2 : ByteArray) (hs : s.size ≤ 1000) (hs2 : s2.size ≤ 1000) (n : Int) (Ab : Option Addr) (nb cb : Nat) (b : List UInt8)
    (hb : ∀ w', Below B w w' → Rm w w' → Bs w' Ab nb cb b) (hnb : nb ≤ 100000) :
    Calls Tryz.prog 82 #[.pointer (some ⟨rb, 0, none⟩), .int .i64 (K : Nat), .string s, .string s2, .int .i64 n, .slice Ab nb cb] w
      fun e w' => e = .returned (.int .i64 (op d K s.data.toList s2.data.toList n b).1) ∧ Rs B rb (op d K s.data.toList s2.data.toList n b).2 w w' := by
  obtain ⟨_, _, lv, tv, hR⟩ := h
  exact rDo_any w B rb lv tv d hR (hG.good (by omega) hU) hG.room K hK s s2 hs hs2 n Ab nb cb b hb hnb
theorem rtmp {B rb N U : Nat} {d : D} {w0 w : World} (h : Rs B rb d w0 w) (hG : Bd d N U) (hN : N ≤ 900) (hU : U ≤ 1000000) (K : Nat) (hK : 1 ≤ K ∧ K ≤ 6) :
    Calls Tryz.prog 82 #[.pointer (some ⟨rb, 0, none⟩), .int .i64 (K : Nat), .string tmpS, .string ⟨#[]⟩, .int .i64 0, .slice none 0 0] w
      fun e w' => e = .returned (.int .i64 (op d K tmp [] 0 []).1) ∧ Rs B rb (op d K tmp [] 0 []).2 w w' :=
  rdo2 h hG hN hU K hK tmpS ⟨#[]⟩ (by decide) (by decide) 0 none 0 0 [] (fun w9 _ _ => Rd.none_ w9) (by omega)

theorem rapp {B rb N U : Nat} {d : D} {w0 w : World} (h : Rs B rb d w0 w) (hG : Bd d N U) (hN : N ≤ 900) (hU : U ≤ 1000000) (Ab : Option Addr) (nb cb : Nat) (b : List UInt8) (hb : ∀ w', Below B w w' → Rm w w' → Bs w' Ab nb cb b) (hnb : nb ≤ 100000) :
    Calls Tryz.prog 82 #[.pointer (some ⟨rb, 0, none⟩), .int .i64 ((2 : Nat) : Int), .string tmpS, .string ⟨#[]⟩, .int .i64 0, .slice Ab nb cb] w
      fun e w' => e = .returned (.int .i64 (op d 2 tmp [] 0 b).1) ∧ Rs B rb (op d 2 tmp [] 0 b).2 w w' :=
  rdo2 h hG hN hU 2 (by omega) tmpS ⟨#[]⟩ (by decide) (by decide) 0 Ab nb cb b hb hnb
theorem rren {B rb N U : Nat} {d : D} {w0 w : World} (h : Rs B rb d w0 w) (hG : Bd d N U) (hN : N ≤ 900) (hU : U ≤ 1000000) (s2 : ByteArray) (hs2 : s2.size ≤ 1000) :
    Calls Tryz.prog 82 #[.pointer (some ⟨rb, 0, none⟩), .int .i64 ((5 : Nat) : Int), .string tmpS, .string s2, .int .i64 0, .slice none 0 0] w
      fun e w' => e = .returned (.int .i64 (op d 5 tmp s2.data.toList 0 []).1) ∧ Rs B rb (op d 5 tmp s2.data.toList 0 []).2 w w' :=
  rdo2 h hG hN hU 5 (by omega) tmpS s2 (by decide) hs2 0 none 0 0 [] (fun w9 _ _ => Rd.none_ w9) (by omega)

set_option maxHeartbeats 4000000 in
set_option maxRecDepth 100000 in
theorem refWrite_any (w : World) (B rb N U : Nat) (d : D) (h : Rs B rb d w w) (hG : Bd d N U) (hN : N ≤ 800) (hU : U ≤ 800000) (g la : Int) (A : Option Addr) (n c : Nat) (ss : List Int) (hI : Mg B w A n c ss) :
    Calls Tryz.prog 55 #[.pointer (some ⟨rb, 0, none⟩), .agg #[.int .i64 g, .int .i64 la, .slice A n c]] w fun e w' => e = .returned (.int .i64 (writeM d g la ss).1) ∧ Rs B rb (writeM d g la ss).2 w w' := by
  have hle := Rs.le h
  obtain ⟨X, hX⟩ : ∃ X, writeM d g la ss = X := ⟨_, rfl⟩
  rw [hX]
  have hX' := Lib.hid hX
  clear hX
  have hba := below_alloc w (.cells #[.int .i64 g, .int .i64 la, .slice A n c] 75)
  have hmb := mb_new w g la A n c
  obtain ⟨pm, hpm⟩ : ∃ pm, w.heap.size = pm := ⟨_, rfl⟩
  obtain ⟨w1, hw1⟩ : ∃ w1, w.alloc (.cells #[.int .i64 g, .int .i64 la, .slice A n c] 75) = w1 := ⟨_, rfl⟩
  rw [hw1] at hba hmb
  have hT1 := Lib.hid (Rs.bel h hba)
  rw [hpm] at hmb
  have hmb' := Lib.hid hmb
  have hI' := Lib.hid hI
  clear h hmb hI
  go_enter Tryz.func55, Tryz.ntmps55
  go_upto_region 1 with fail
  clear hw1 hpm hba
  obtain ⟨m0, m1, m2, _⟩ := hmb'.out.mf
  go_wp2_with fail
  refine (refMay_any g la A n c ss w1 (hI'.out _ hT1.out.1)).mono ?_
  rintro e w2 ⟨rfl, hb2⟩
  have hT2 := Lib.hid (Rs.bel hT1.out hb2)
  have hM2 := Lib.hid (hmb'.out.below hb2)
  clear hb2 m0 m1 m2 hmb' hT1
  cases hmy : mayM g la ss with
  | false =>
    have hX2 := hX'.out
    unfold writeM at hX2
    rw [hmy, if_neg (by simp)] at hX2
    subst hX2
    go_wp2_with fail
    go_ret
    exact ⟨rfl, hT2.out⟩
  | true =>
    have hX2 := hX'.out
    unfold writeM at hX2
    rw [hmy, if_pos rfl] at hX2
    unfold write at hX2
    have hbl : (encM g la ss).length ≤ 300 := good.len (g, la, ss) hmy
    obtain ⟨b, hb⟩ : ∃ b, encM g la ss = b := ⟨_, rfl⟩
    rw [hb] at hX2 hbl
    have henc := fun (z : World) (hz : Is z A n c ss) => refEncode_any g la A n c ss z hz
    rw [hb] at henc
    obtain ⟨nb, hnb⟩ : ∃ nb, b.length = nb := ⟨_, rfl⟩
    rw [hnb] at henc hbl
    have henc' := Lib.hid henc
    have hnb' := Lib.hid hnb
    obtain ⟨sn, hs1, hs2, hs3⟩ := man_nm g
    have hnm := refName_any g
    rw [show strOf (nameOf man4 g) = sn from hs1] at hnm
    have hnm' := Lib.hid hnm
    rw [← hs2] at hX2
    clear hX' hb hmy henc hnb hs1 hs2 hnm
    obtain ⟨_, _, lv2, tv2, hR2⟩ := hT2.out
    have hrd := rRead_any w2 B rb lv2 tv2 d hR2 tmpS (hG.fl (by omega))
    rw [tmpS_list] at hrd
    have hrd' := Lib.hid hrd
    clear hrd hR2
    go_wp2_with fail
    refine hrd'.out.mono ?_
    rintro e w3 ⟨hb3, v, l0, rfl, _, _⟩
    have hT3 := Lib.hid (Rs.bel hT2.out hb3)
    have hM3 := Lib.hid (hM2.out.below hb3)
    obtain ⟨cnd, hcnd⟩ : ∃ cnd, (get d.fs tmp).isSome = cnd := ⟨_, rfl⟩
    rw [hcnd] at hX2 ⊢
    clear hb3 hcnd hrd' hT2 hM2
    cases cnd with
    | true =>
      have hX3 : runW ((fun d => op d 6 tmp [] 0 []) :: wOps b sn.data.toList) d = X := hX2
      rw [runW] at hX3
      clear hX2
      go_wp2_with fail
      refine (rtmp hT3.out hG (by omega) (by omega) 6 (by omega)).mono ?_
      rintro e w10 ⟨rfl, hst⟩
      have hT10 := Lib.hid (Rs.then_ hT3.out hst)
      have hM10 := Lib.hid (mb_rm hM3.out hst.2.1)
      have hG10 := hG.op0 6 tmp [] 0
      obtain ⟨Y, hY⟩ : ∃ Y, op d 6 tmp [] 0 [] = Y := ⟨_, rfl⟩
      (try simp only at hX3)
      rw [hY] at hX3 hT10 hG10 ⊢
      obtain ⟨c10, d10⟩ := Y
      simp only at hX3 hT10 hG10 ⊢
      clear hst hY
      by_cases hc10 : c10 = 0
      · subst hc10
        rw [if_neg (by simp)] at hX3
        unfold wOps at hX3
        rw [runW] at hX3
        go_wp2_with fail
        refine (rtmp hT10.out hG10 (by omega) (by omega) 1 (by omega)).mono ?_
        rintro e w11 ⟨rfl, hst⟩
        have hT11 := Lib.hid (Rs.then_ hT10.out hst)
        have hM11 := Lib.hid (mb_rm hM10.out hst.2.1)
        have hG11 := hG10.op0 1 tmp [] 0
        obtain ⟨Y, hY⟩ : ∃ Y, op d10 1 tmp [] 0 [] = Y := ⟨_, rfl⟩
        (try simp only at hX3)
        rw [hY] at hX3 hT11 hG11 ⊢
        obtain ⟨c11, d11⟩ := Y
        simp only at hX3 hT11 hG11 ⊢
        clear hst hY
        by_cases hc11 : c11 = 0
        · subst hc11
          rw [if_neg (by simp), runW] at hX3
          obtain ⟨m0, m1, m2, _⟩ := hM11.out.mf
          go_wp2_with fail
          refine (henc'.out w11 (hI'.out _ hT11.out.1)).mono ?_
          rintro e we ⟨Ae, ce, rfl, ho, hbe⟩
          have hTe := Lib.hid (Rs.bel hT11.out hbe)
          have hMe := Lib.hid (hM11.out.below hbe)
          have ho' := Lib.hid ho
          clear hbe ho m0 m1 m2
          go_wp2_with fail
          refine (rapp hTe.out hG11 (by omega) (by omega) Ae nb ce b (fun w9 _ hrm => OwB.bs (hrm.row ho'.out (by decide) (by decide))) (by omega)).mono ?_
          rintro e w12 ⟨rfl, hst⟩
          have hT12 := Lib.hid (Rs.then_ hTe.out hst)
          have hM12 := Lib.hid (mb_rm hMe.out hst.2.1)
          have hG12 := (hG11.op 2 tmp [] 0 b).mono (N' := _) (U' := U + 300) (Nat.le_refl _) (by have := hnb'.out; omega)
          obtain ⟨Y, hY⟩ : ∃ Y, op d11 2 tmp [] 0 b = Y := ⟨_, rfl⟩
          (try simp only at hX3)
          rw [hY] at hX3 hT12 hG12 ⊢
          obtain ⟨c12, d12⟩ := Y
          simp only at hX3 hT12 hG12 ⊢
          clear hst hY
          by_cases hc12 : c12 = 0
          · subst hc12
            rw [if_neg (by simp), runW] at hX3
            go_wp2_with fail
            refine (rtmp hT12.out hG12 (by omega) (by omega) 4 (by omega)).mono ?_
            rintro e w13 ⟨rfl, hst⟩
            have hT13 := Lib.hid (Rs.then_ hT12.out hst)
            have hM13 := Lib.hid (mb_rm hM12.out hst.2.1)
            have hG13 := hG12.op0 4 tmp [] 0
            obtain ⟨Y, hY⟩ : ∃ Y, op d12 4 tmp [] 0 [] = Y := ⟨_, rfl⟩
            (try simp only at hX3)
            rw [hY] at hX3 hT13 hG13 ⊢
            obtain ⟨c13, d13⟩ := Y
            simp only at hX3 hT13 hG13 ⊢
            clear hst hY
            by_cases hc13 : c13 = 0
            · subst hc13
              rw [if_neg (by simp), runW] at hX3
              obtain ⟨m0, m1, m2, _⟩ := hM13.out.mf
              go_wp2_with fail
              refine (hnm'.out w13).mono ?_
              rintro e we ⟨rfl, hbe⟩
              have hTf := Lib.hid (Rs.bel hT13.out hbe)
              have hMf := Lib.hid (hM13.out.below hbe)
              clear hbe m0 m1 m2
              go_wp2_with fail
              refine (rren hTf.out hG13 (by omega) (by omega) sn hs3).mono ?_
              rintro e w14 ⟨rfl, hst⟩
              have hT14 := Lib.hid (Rs.then_ hTf.out hst)
              have hM14 := Lib.hid (mb_rm hMf.out hst.2.1)
              have hG14 := hG13.op0 5 tmp sn.data.toList 0
              obtain ⟨Y, hY⟩ : ∃ Y, op d13 5 tmp sn.data.toList 0 [] = Y := ⟨_, rfl⟩
              (try simp only at hX3)
              rw [hY] at hX3 hT14 hG14 ⊢
              obtain ⟨c14, d14⟩ := Y
              simp only at hX3 hT14 hG14 ⊢
              clear hst hY
              by_cases hc14 : c14 = 0
              · subst hc14
                rw [if_neg (by simp), runW] at hX3
                subst hX3
                go_wp2_with fail
                go_ret
                exact ⟨rfl, hT14.out⟩
              · rw [if_pos hc14] at hX3
                subst hX3
                go_wp2_with fail
                go_ret
                exact ⟨rfl, hT14.out⟩
            · have hne : (c13 == 0) = false := by simpa using hc13
              rw [if_pos hc13] at hX3
              subst hX3
              go_wp2_with fail
              go_ret
              exact ⟨rfl, hT13.out⟩
          · have hne : (c12 == 0) = false := by simpa using hc12
            rw [if_pos hc12] at hX3
            subst hX3
            go_wp2_with fail
            go_ret
            exact ⟨rfl, hT12.out⟩
        · have hne : (c11 == 0) = false := by simpa using hc11
          rw [if_pos hc11] at hX3
          subst hX3
          go_wp2_with fail
          go_ret
          exact ⟨rfl, hT11.out⟩
      · have hne : (c10 == 0) = false := by simpa using hc10
        rw [if_pos hc10] at hX3
        subst hX3
        go_wp2_with fail
        go_ret
        exact ⟨rfl, hT10.out⟩
    | false =>
      have hX3 : runW (wOps b sn.data.toList) d = X := hX2
      unfold wOps at hX3
      rw [runW] at hX3
      clear hX2
      go_wp2_with fail
      refine (rtmp hT3.out hG (by omega) (by omega) 1 (by omega)).mono ?_
      rintro e w11 ⟨rfl, hst⟩
      have hT11 := Lib.hid (Rs.then_ hT3.out hst)
      have hM11 := Lib.hid (mb_rm hM3.out hst.2.1)
      have hG11 := hG.op0 1 tmp [] 0
      obtain ⟨Y, hY⟩ : ∃ Y, op d 1 tmp [] 0 [] = Y := ⟨_, rfl⟩
      (try simp only at hX3)
      rw [hY] at hX3 hT11 hG11 ⊢
      obtain ⟨c11, d11⟩ := Y
      simp only at hX3 hT11 hG11 ⊢
      clear hst hY
      by_cases hc11 : c11 = 0
      · subst hc11
        rw [if_neg (by simp), runW] at hX3
        obtain ⟨m0, m1, m2, _⟩ := hM11.out.mf
        go_wp2_with fail
        refine (henc'.out w11 (hI'.out _ hT11.out.1)).mono ?_
        rintro e we ⟨Ae, ce, rfl, ho, hbe⟩
        have hTe := Lib.hid (Rs.bel hT11.out hbe)
        have hMe := Lib.hid (hM11.out.below hbe)
        have ho' := Lib.hid ho
        clear hbe ho m0 m1 m2
        go_wp2_with fail
        refine (rapp hTe.out hG11 (by omega) (by omega) Ae nb ce b (fun w9 _ hrm => OwB.bs (hrm.row ho'.out (by decide) (by decide))) (by omega)).mono ?_
        rintro e w12 ⟨rfl, hst⟩
        have hT12 := Lib.hid (Rs.then_ hTe.out hst)
        have hM12 := Lib.hid (mb_rm hMe.out hst.2.1)
        have hG12 := (hG11.op 2 tmp [] 0 b).mono (N' := _) (U' := U + 300) (Nat.le_refl _) (by have := hnb'.out; omega)
        obtain ⟨Y, hY⟩ : ∃ Y, op d11 2 tmp [] 0 b = Y := ⟨_, rfl⟩
        (try simp only at hX3)
        rw [hY] at hX3 hT12 hG12 ⊢
        obtain ⟨c12, d12⟩ := Y
        simp only at hX3 hT12 hG12 ⊢
        clear hst hY
        by_cases hc12 : c12 = 0
        · subst hc12
          rw [if_neg (by simp), runW] at hX3
          go_wp2_with fail
          refine (rtmp hT12.out hG12 (by omega) (by omega) 4 (by omega)).mono ?_
          rintro e w13 ⟨rfl, hst⟩
          have hT13 := Lib.hid (Rs.then_ hT12.out hst)
          have hM13 := Lib.hid (mb_rm hM12.out hst.2.1)
          have hG13 := hG12.op0 4 tmp [] 0
          obtain ⟨Y, hY⟩ : ∃ Y, op d12 4 tmp [] 0 [] = Y := ⟨_, rfl⟩
          (try simp only at hX3)
          rw [hY] at hX3 hT13 hG13 ⊢
          obtain ⟨c13, d13⟩ := Y
          simp only at hX3 hT13 hG13 ⊢
          clear hst hY
          by_cases hc13 : c13 = 0
          · subst hc13
            rw [if_neg (by simp), runW] at hX3
            obtain ⟨m0, m1, m2, _⟩ := hM13.out.mf
            go_wp2_with fail
            refine (hnm'.out w13).mono ?_
            rintro e we ⟨rfl, hbe⟩
            have hTf := Lib.hid (Rs.bel hT13.out hbe)
            have hMf := Lib.hid (hM13.out.below hbe)
            clear hbe m0 m1 m2
            go_wp2_with fail
            refine (rren hTf.out hG13 (by omega) (by omega) sn hs3).mono ?_
            rintro e w14 ⟨rfl, hst⟩
            have hT14 := Lib.hid (Rs.then_ hTf.out hst)
            have hM14 := Lib.hid (mb_rm hMf.out hst.2.1)
            have hG14 := hG13.op0 5 tmp sn.data.toList 0
            obtain ⟨Y, hY⟩ : ∃ Y, op d13 5 tmp sn.data.toList 0 [] = Y := ⟨_, rfl⟩
            (try simp only at hX3)
            rw [hY] at hX3 hT14 hG14 ⊢
            obtain ⟨c14, d14⟩ := Y
            simp only at hX3 hT14 hG14 ⊢
            clear hst hY
            by_cases hc14 : c14 = 0
            · subst hc14
              rw [if_neg (by simp), runW] at hX3
              subst hX3
              go_wp2_with fail
              go_ret
              exact ⟨rfl, hT14.out⟩
            · rw [if_pos hc14] at hX3
              subst hX3
              go_wp2_with fail
              go_ret
              exact ⟨rfl, hT14.out⟩
          · have hne : (c13 == 0) = false := by simpa using hc13
            rw [if_pos hc13] at hX3
            subst hX3
            go_wp2_with fail
            go_ret
            exact ⟨rfl, hT13.out⟩
        · have hne : (c12 == 0) = false := by simpa using hc12
          rw [if_pos hc12] at hX3
          subst hX3
          go_wp2_with fail
          go_ret
          exact ⟨rfl, hT12.out⟩
      · have hne : (c11 == 0) = false := by simpa using hc11
        rw [if_pos hc11] at hX3
        subst hX3
        go_wp2_with fail
        go_ret
        exact ⟨rfl, hT11.out⟩
end Go.Proofs.YtfdpnjebhllpkaaGreatDoor.Mn
end

section
namespace Go.Proofs.YtfdpnjebhllpkaaGreatDoor.Mn
open Go.RowKit Dk Ma Sg

/-- A row of strings of the call's own. -/
def OwT (w : World) (B : Nat) (v : Value) (ss : List ByteArray) : Prop := w.ownsRow B 9 1 v ss.length (ss.map Value.string)
theorem OwT.hs {w : World} {B : Nat} {A : Option Addr} {n c : Nat} {ss : List ByteArray} (h : OwT w B (.slice A n c) ss) : Hs w A n c ss := by
  obtain ⟨A', c', e⟩ := ownsRow_form h
  injection e with e1 e2 e3
  subst e2
  refine ⟨rd_of_own h, fun h0 => ?_⟩
  rcases h.2 with ⟨_, h1⟩ | ⟨g, cap, cur, hv, _, hh, _⟩
  · omega
  · injection hv with e1 _ _
    exact ⟨g, cur, e1, hh⟩
theorem OwT.len {w : World} {B : Nat} {A : Option Addr} {n c : Nat} {ss : List ByteArray} (h : OwT w B (.slice A n c) ss) : ss.length = n := by
  have := h.hs.1.len
  simpa using this
theorem OwT.below {w w' : World} {B : Nat} {v : Value} {ss : List ByteArray} (h : OwT w B v ss) (hb : Below w.heap.size w w') : OwT w' B v ss :=
  World.ownsRow.kept h (grown_of_below hb) (by cases hv : v.ownBlock with | none => exact .inl rfl | some b => exact .inr (by simp))
theorem infoS : (Tryz.prog.info? 9).map (fun i => (i.zero, i.size, i.bytes)) = some (some (.string ByteArray.empty), 1, 16) := by kernel_rfl

theorem append_one {P : Program} {ops : Array Oper} {rest : List Oper} {o : Oper} {a : Act} {Q : Exit → Act → World → Prop} (w : World) (t e : TypeId) (ht : P.underlying t = some (.slice e))
    (hinfo : (P.info? e).map (fun i => (i.zero, i.size, i.bytes)) = some (some (.string ByteArray.empty), 1, 16))
    (hgd : o.guard = none) (s x : Operand)
    (ho : o.op = .call { callee := .builtin .append, args := #[s, x], argTypes := #[t, t] })
    (B : Nat) (v : Value) (la : List ByteArray) (hs : a.eval s = v) (hown : w.ownsRow B e 1 v la.length (la.map Value.string))
    (A : Option Addr) (m c : Nat) (lb : List ByteArray) (hx : a.eval x = .slice A m c) (hr : Rd w A m c (lb.map Value.string))
    (N : Nat) (hN : la.length + m = N) (hsz : N ≤ 1000000) (hB : B ≤ w.heap.size)
    (h : ∀ A' c' w', w'.ownsRow B e 1 (.slice A' N c') (la ++ lb).length ((la ++ lb).map Value.string) → Below B w w' → wpList P ops Q rest (a.put o.dst (.slice A' N c')) w') :
    wpList P ops Q (o :: rest) a w := by
  refine wpList_append_rd w hgd s x t ho B e (.string ByteArray.empty) 16 ht hinfo rfl v la.length (la.map Value.string) hs hown A m c (lb.map Value.string) hx hr (fun u hu => ?_) (by omega) (by omega) hB ?_
  · obtain ⟨s, _, rfl⟩ := List.mem_map.1 hu
    rfl
  intro A' c' w' h1 h2 h3 _
  have hl : lb.length = m := by have := hr.len; simpa using this
  rw [hN] at h1 ⊢
  refine h A' c' w' ?_ h3
  rw [List.map_append, List.length_append, show la.length + lb.length = N from by omega]
  exact h1

theorem orph_next {f : Name → Bool} {fs : Fs} {k : Nat} {p : Name × Fl} (h : fs[k]? = some p) : orphans f (fs.take (k + 1)) = orphans f (fs.take k) ++ (if f p.1 = true then [] else [p.1]) := by
  unfold orphans
  rw [take_snoc h, List.map_append, List.filter_append]
  congr 1
  cases hp : f p.1 <;> simp [List.filter, hp]
theorem any_next {ss : List Int} {q : Nat} {x : Int} {f : Int → Bool} (h : ss[q]? = some x) : (ss.take (q + 1)).any f = ((ss.take q).any f || f x) := by
  rw [take_snoc h, List.any_append]
  simp

set_option maxHeartbeats 4000000 in
set_option maxRecDepth 100000 in
theorem refOrphans_any (w : World) (B rb N U : Nat) (d : D) (h : Rs B rb d w w) (hG : Bd d N U) (g la : Int) (A : Option Addr) (n c : Nat) (ss : List Int) (hI : Mg B w A n c ss) :
    Calls Tryz.prog 54 #[.pointer (some ⟨rb, 0, none⟩), .agg #[.int .i64 g, .int .i64 la, .slice A n c]] w (OrP w.heap.size (orphans (needed g ss) d.fs) w) := by
  have hle := Rs.le h
  have hba := below_alloc w (.cells #[.int .i64 g, .int .i64 la, .slice A n c] 75)
  have hmb := mb_new w g la A n c
  obtain ⟨pm, hpm⟩ : ∃ pm, w.heap.size = pm := ⟨_, rfl⟩
  obtain ⟨w1, hw1⟩ : ∃ w1, w.alloc (.cells #[.int .i64 g, .int .i64 la, .slice A n c] 75) = w1 := ⟨_, rfl⟩
  have hsz : w1.heap.size = pm + 1 := by rw [← hw1, World.size_alloc, hpm]
  rw [hw1] at hba hmb
  obtain ⟨_, _, lv, tv, hR1⟩ := Rs.bel h hba
  obtain ⟨A9, c9, rfl, hq9⟩ := hR1.sq
  have klv : Hid (∀ z, Below w1.heap.size w1 z → z.cell? ⟨rb, 1, none⟩ = some (.slice A9 d.fs.length c9)) := Lib.hid fun z hb => (hb.cell (p := ⟨rb, 1, none⟩) hR1.lt).trans (cell_blk hR1.blk rfl)
  have hI1 : Hid (∀ z, Below w1.heap.size w1 z → Is z A n c ss) := Lib.hid fun z hb => hI z ((hba.mono hle).trans (hb.mono (by omega)))
  have hle9 := hq9.le
  have hmx9 := hq9.max
  have hlI := (hI1.out w1 (Below.refl _ _)).len
  have hleI := Rd.le (hI1.out w1 (Below.refl _ _))
  have hmxI := Rd.max (hI1.out w1 (Below.refl _ _))
  rw [hpm] at hmb hba
  have hM1 : Hid (∀ z, Below w1.heap.size w1 z → Mb z pm g la A n c) := Lib.hid fun z hb => hmb.below hb
  have hq9' := Lib.hid hq9
  have hba' := Lib.hid hba
  have hpm' := Lib.hid hpm
  have hmost := hG.inv.most
  obtain ⟨nf, hnf⟩ : ∃ nf, d.fs.length = nf := ⟨_, rfl⟩
  rw [hnf] at hq9' klv hle9 hmost
  have hnf' := Lib.hid hnf
  obtain ⟨S, hS⟩ : ∃ S, strOf (nameOf man4 g) = S := ⟨_, rfl⟩
  have hnm := refName_any g
  rw [hS] at hnm
  have hnm' := Lib.hid hnm
  have hS' := Lib.hid hS
  clear hR1 hq9 h hI hmb hba hnf hS hnm
  go_enter Tryz.func54, Tryz.ntmps54
  go_upto_region 1 with fail
  clear hw1 hpm
  go_wp2_with fail
  go_loopw [5, 6] (fun ov iv wr => ∃ (k : Nat) (A' : Option Addr) (m' c' : Nat), k ≤ nf ∧ m' ≤ k ∧ iv = .int .i64 k ∧ ov = .slice A' m' c' ∧ Hid (OwT wr w1.heap.size (.slice A' m' c') ((orphans (needed g ss) (d.fs.take k)).map strOf)) ∧ Hid (Below w1.heap.size w1 wr)) (fun _ iv _ => nf - (intOf iv).toNat)
  case atStart => exact ⟨0, none, 0, 0, by omega, by omega, rfl, rfl, Lib.hid (World.ownsRow_nil _ _ _ _), Lib.hid (Below.refl _ _)⟩
  case round =>
    obtain ⟨k, A', m', c', hk, hm', rfl, rfl, hO, hbw⟩ := hrel
    have kl := klv.out _ hbw.out
    by_cases hlt : k < nf
    · have i1 : decide ((k : Int) < (nf : Int)) = true := by rw [decide_eq_true_eq]; omega
      have i2 : decide (k < nf) = true := by rw [decide_eq_true_eq]; omega
      have i3 : (k : Int) < (nf : Int) := by omega
      obtain ⟨pb, off, f, vs, rfl, hpb, hf, hvs, hel, hcs⟩ := hq9'.out.at_ hlt
      obtain ⟨sk, vd, rfl, hsk, _⟩ := hel
      rw [List.getElem?_map, Option.map_eq_some_iff] at hf
      obtain ⟨p, hp, rfl⟩ := hf
      have c0 := (hbw.out.cell (p := ⟨pb, off + k * 3, none⟩) hpb).trans (hcs 0 _ rfl)
      have hsk' : Hid (p.1 = sk.data.toList) := Lib.hid hsk
      have hp' := Lib.hid hp
      obtain ⟨m0, m1, m2, _⟩ := (hM1.out _ hbw.out).mf
      clear hcs hvs hsk hp hpb
      obtain ⟨b0, hb0⟩ : ∃ b0, (sk.toList == S.toList) = b0 := ⟨_, rfl⟩
      have hb0' : Hid (b0 = decide (p.1 = nameOf man4 g)) := Lib.hid (by
        rw [← hb0, ← hS'.out, str_beq, hsk'.out, Bool.eq_iff_iff, decide_eq_true_eq, decide_eq_true_eq]
        exact ⟨fun h => by rw [h]; rfl, fun h => bytes_ext h⟩)
      go_wp2_with fail
      refine (hnm'.out wr).mono ?_
      rintro e w2 ⟨rfl, hb2⟩
      have hb2' := Lib.hid (hbw.out.trans (hb2.mono hbw.out.size))
      have hO2 := Lib.hid (hO.out.below hb2)
      clear hb2 c0 kl m0 m1 m2 hO hbw
      go_wp2_with fail
      go_loopw [8, 9] (fun nv qv wr => ∃ (q : Nat) (gb : Bool), q ≤ n ∧ qv = .int .i64 q ∧ nv = .bool gb ∧ Hid (gb = (decide (p.1 = nameOf man4 g) || (ss.take q).any fun n => decide (p.1 = nameOf seg4 n))) ∧ Hid (Below w2.heap.size w2 wr)) (fun _ qv _ => n - (intOf qv).toNat)
      case atStart => exact ⟨0, b0, by omega, rfl, rfl, Lib.hid (by rw [hb0'.out]; simp), Lib.hid (Below.refl _ _)⟩
      case round =>
        obtain ⟨q, gb, hq, rfl, rfl, hgb, hbq⟩ := hrel
        have hbr := Lib.hid (hb2'.out.trans (hbq.out.mono hb2'.out.size))
        obtain ⟨m0, m1, m2, _⟩ := (hM1.out _ hbr.out).mf
        by_cases hlt2 : q < n
        · have j1 : decide ((q : Int) < (n : Int)) = true := by rw [decide_eq_true_eq]; omega
          have j2 : decide (q < n) = true := by rw [decide_eq_true_eq]; omega
          have j3 : (q : Int) < (n : Int) := by omega
          obtain ⟨b8, off8, x, rfl, hb8, hx, hc8⟩ := (hI1.out _ hbr.out).at_ hlt2
          have hnx := Lib.hid (any_next (f := fun n => decide (p.1 = nameOf seg4 n)) hx)
          clear hx hb8
          cases gb with
          | true =>
            go_wp2_with fail
            go_roundw
            case rel => exact ⟨q + 1, true, by omega, by go_num, rfl, Lib.hid (by rw [hnx.out, ← Bool.or_assoc, ← hgb.out]; rfl), hbq⟩
            case measure => simp [intOf]; omega
          | false =>
            have hsn := refSegName_any x
            obtain ⟨sn, hsne⟩ : ∃ sn, strOf (nameOf seg4 x) = sn := ⟨_, rfl⟩
            rw [hsne] at hsn
            have hsn' := Lib.hid hsn
            obtain ⟨bq, hbqe⟩ : ∃ bq, (sk.toList == sn.toList) = bq := ⟨_, rfl⟩
            have hbq' : Hid (bq = decide (p.1 = nameOf seg4 x)) := Lib.hid (by
              rw [← hbqe, ← hsne, str_beq, hsk'.out, Bool.eq_iff_iff, decide_eq_true_eq, decide_eq_true_eq]
              exact ⟨fun h => by rw [h]; rfl, fun h => bytes_ext h⟩)
            clear hsn hsne
            go_wp2_with fail
            refine (hsn'.out _).mono ?_
            rintro e w3 ⟨rfl, hb3⟩
            have hbq3 := Lib.hid (hbq.out.trans (hb3.mono hbq.out.size))
            clear hb3 hsn'
            go_wp2_with fail
            go_roundw
            case rel => exact ⟨q + 1, bq, by omega, by go_num, rfl, Lib.hid (by rw [hnx.out, ← Bool.or_assoc, ← hgb.out, hbq'.out]; rfl), hbq3⟩
            case measure => simp [intOf]; omega
        · have j1 : decide ((q : Int) < (n : Int)) = false := by rw [decide_eq_false_iff_not]; omega
          have j2 : decide (q < n) = false := by rw [decide_eq_false_iff_not]; omega
          have hgb2 : Hid (gb = needed g ss p.1) := Lib.hid (by rw [hgb.out, List.take_of_length_le (by omega)]; rfl)
          have hO3 := Lib.hid (hO2.out.below hbq.out)
          have hon := Lib.hid (orph_next (f := needed g ss) hp'.out)
          clear hgb hO2
          cases gb with
          | true =>
            have hnw : Hid (orphans (needed g ss) (d.fs.take (k + 1)) = orphans (needed g ss) (d.fs.take k)) := Lib.hid (by rw [hon.out, ← hgb2.out, if_pos rfl, List.append_nil])
            go_wp2_with fail
            go_roundw
            case rel => exact ⟨k + 1, A', m', c', by omega, by omega, by go_num, rfl, Lib.hid (by rw [hnw.out]; exact hO3.out), hbr⟩
            case measure => simp [intOf]; omega
          | false =>
            have hnw : Hid ((orphans (needed g ss) (d.fs.take (k + 1))).map strOf = (orphans (needed g ss) (d.fs.take k)).map strOf ++ [sk]) := Lib.hid (by
              rw [hon.out, ← hgb2.out, if_neg (by decide), List.map_append, hsk'.out]
              rfl)
            have hml := hO3.out.len
            go_wp2_with (at_builtin; apply stop_here)
            have hba3 := below_alloc wr (.cells #[.string sk] 9)
            have hO4 := Lib.hid (hO3.out.below hba3)
            have hx4 := Lib.hid (hbr.out.trans (hba3.mono hbr.out.size))
            have hrd4 : Rd (wr.alloc (.cells #[.string sk] 9)) (some ⟨wr.heap.size, 0, none⟩) 1 1 ([sk].map Value.string) := ⟨rfl, by omega, by omega, fun h => (by cases h), fun _ => ⟨_, 0, rfl, by simp, fun j u hj => by
              obtain rfl : j = 0 := by have := (List.getElem?_eq_some_iff.1 hj).1; simp at this; omega
              simp at hj
              subst hj
              exact World.cell?_alloc_at _ _ _ _ rfl⟩⟩
            have hrd4' := Lib.hid hrd4
            have hml' := Lib.hid hml
            have hxs := hx4.out.size
            clear hba3 hrd4 hml
            refine Stop.go (append_one _ 80 9 Tryz.underlying80 infoS rfl _ _ rfl w1.heap.size _ _ rfl hO4.out _ 1 1 [sk] rfl hrd4'.out (m' + 1) (by rw [hml'.out]) (by omega) hxs ?_)
            intro A6 c6 w6 ho6 hb6
            have ho6' : Hid (OwT w6 w1.heap.size (.slice A6 (m' + 1) c6) ((orphans (needed g ss) (d.fs.take (k + 1))).map strOf)) := Lib.hid (by rw [hnw.out]; exact ho6)
            have hb6' := Lib.hid (hx4.out.trans hb6)
            clear ho6 hb6
            go_wp2_with fail
            go_roundw
            case rel => exact ⟨k + 1, A6, m' + 1, c6, by omega, by omega, by go_num, rfl, ho6', hb6'⟩
            case measure => simp [intOf]; omega
    · have i1 : decide ((k : Int) < (nf : Int)) = false := by rw [decide_eq_false_iff_not]; omega
      have i2 : decide (k < nf) = false := by rw [decide_eq_false_iff_not]; omega
      have hfin : Hid (OwT wr w1.heap.size (.slice A' m' c') ((orphans (needed g ss) d.fs).map strOf)) := Lib.hid (by
        have := hO.out
        rw [List.take_of_length_le (by have := hnf'.out; omega)] at this
        exact this)
      clear hO
      go_wp2_with fail
      go_ret
      exact ⟨_, _, _, rfl, by rw [hpm'.out]; exact hba'.out.trans (hbw.out.mono (by omega)), hfin.out.hs⟩
end Go.Proofs.YtfdpnjebhllpkaaGreatDoor.Mn
end

section
namespace Go.Proofs.YtfdpnjebhllpkaaGreatDoor.Mn
open Go.RowKit Dk Ma Sg

theorem Hs.rm {w w' : World} {A : Option Addr} {n c : Nat} {ss : List ByteArray} (h : Hs w A n c ss) (hf : Rm w w') : Hs w' A n c ss := by
  obtain ⟨h1, h2⟩ := h
  have hk : ∀ (b : Nat) (cur : Array Value), w.heap[b]? = some (Obj.cells cur 9) → w'.heap[b]? = some (Obj.cells cur 9) := fun b cur e => hf b _ e (fun cs fr e => by injection e with _ e _; exact absurd e (by decide)) (fun cs fr e => by injection e with _ e _; exact absurd e (by decide))
  refine ⟨⟨h1.len, h1.le, h1.max, h1.nil, fun h0 => ?_⟩, fun h0 => ?_⟩
  · obtain ⟨b, off, e, hb, hc⟩ := h1.cell h0
    obtain ⟨b2, cur, e2, h3⟩ := h2 h0
    rw [e] at e2
    injection e2 with e2
    injection e2 with e3 e4 _
    subst e3
    have h4 := hk _ _ h3
    refine ⟨b, off, e, (Array.getElem?_eq_some_iff.1 h4).1, fun j u hu => ?_⟩
    have := hc j u hu
    simp only [World.cell?, h3] at this
    simp only [World.cell?, h4]
    exact this
  · obtain ⟨b2, cur, e2, h3⟩ := h2 h0
    exact ⟨b2, cur, e2, hk _ _ h3⟩

set_option maxHeartbeats 2000000 in
set_option maxRecDepth 100000 in
theorem refClean_any (w : World) (B rb N U : Nat) (d : D) (h : Rs B rb d w w) (hG : Bd d N U) (hN : N ≤ 800) (hU : U ≤ 1000000) (g la : Int) (A : Option Addr) (n c : Nat) (ss : List Int) (hI : Mg B w A n c ss) :
    Calls Tryz.prog 57 #[.pointer (some ⟨rb, 0, none⟩), .agg #[.int .i64 g, .int .i64 la, .slice A n c]] w fun e w' => e = .returned (.int .i64 (clean (orphans (needed g ss) d.fs) d).1) ∧ Rs B rb (clean (orphans (needed g ss) d.fs) d).2 w w' := by
  have hle := Rs.le h
  have hba := below_alloc w (.cells #[.int .i64 g, .int .i64 la, .slice A n c] 75)
  have hmb := mb_new w g la A n c
  obtain ⟨pm, hpm⟩ : ∃ pm, w.heap.size = pm := ⟨_, rfl⟩
  obtain ⟨w1, hw1⟩ : ∃ w1, w.alloc (.cells #[.int .i64 g, .int .i64 la, .slice A n c] 75) = w1 := ⟨_, rfl⟩
  rw [hw1] at hba hmb
  have hS1 := Lib.hid (Rs.bel h hba)
  rw [hpm] at hba hmb
  have hbB := hba.mono (show B ≤ pm by omega)
  have hor := refOrphans_any w1 B rb N U d ⟨Below.refl _ _, Rm.refl _, hS1.out.2.2⟩ hG g la A n c ss (hI.on hbB)
  obtain ⟨l, hl⟩ : ∃ l, orphans (needed g ss) d.fs = l := ⟨_, rfl⟩
  have hll : l.length ≤ 64 := by
    rw [← hl]
    have := hG.inv.most
    have h2 : (orphans (needed g ss) d.fs).length ≤ (d.fs.map (·.1)).length := List.length_filter_le _ _
    rw [List.length_map] at h2
    omega
  have hls : ∀ x ∈ l, (strOf x).size ≤ 1000 := fun x hx => by
    rw [← hl] at hx
    obtain ⟨p, hp, rfl⟩ := List.mem_map.1 (List.mem_filter.1 hx).1
    rw [strOf_size']
    have := may_len (hG.inv.names p hp)
    omega
  rw [hl] at hor ⊢
  obtain ⟨X, hX⟩ : ∃ X, clean l d = X := ⟨_, rfl⟩
  rw [hX]
  have hor' := Lib.hid hor
  have hmb' := Lib.hid hmb
  have hX' := Lib.hid hX
  have hls' := Lib.hid hls
  clear hl hor hX hI hba hbB h hmb hls
  go_enter Tryz.func57, Tryz.ntmps57
  go_upto_region 1 with fail
  clear hw1 hpm
  obtain ⟨k0, k1, k2, _⟩ := hmb'.out.mf
  go_wp2_with fail
  refine hor'.out.mono ?_
  rintro e w2 ⟨A2, n2, c2, rfl, hb2, hs2⟩
  have hln : n2 = l.length := by have := hs2.1.len; simpa using this.symm
  have hle2 := hs2.1.le
  have hmx2 := hs2.1.max
  have hS2 := Lib.hid (Rs.bel hS1.out hb2)
  have hs2' := Lib.hid hs2
  clear hb2 hs2 hor' hmb' k0 k1 k2
  go_wp2_with fail
  go_loopw [6] (fun iv wr => ∃ (k : Nat) (d' : D), k ≤ n2 ∧ iv = .int .i64 k ∧ Hid (clean (l.drop k) d' = X) ∧ Hid (Bd d' (N + k) U) ∧ Hid (Rs B rb d' w wr) ∧ Hid (Hs wr A2 n2 c2 (l.map strOf))) (fun iv _ => n2 - (intOf iv).toNat)
  case atStart => exact ⟨0, d, by omega, rfl, hX', Lib.hid (hG.mono (by omega) (Nat.le_refl _)), hS2, hs2'⟩
  case round =>
    obtain ⟨k, d', hk, rfl, hcl, hBd, hSr, hsr⟩ := hrel
    by_cases hlt : k < n2
    · have i1 : decide ((k : Int) < (n2 : Int)) = true := by rw [decide_eq_true_eq]; omega
      have i2 : decide (k < n2) = true := by rw [decide_eq_true_eq]; omega
      have i3 : (k : Int) < (n2 : Int) := by omega
      obtain ⟨b, off, u, rfl, hb, hu, hc⟩ := Rd.at_ hsr.out.1 hlt
      obtain ⟨x, hx⟩ : ∃ x, l[k]? = some x := ⟨_, List.getElem?_eq_getElem (by omega)⟩
      rw [List.getElem?_map, List.getElem?_map, hx] at hu
      simp only [Option.map_some] at hu
      injection hu with hu
      subst hu
      obtain ⟨s, hs⟩ : ∃ s, strOf x = s := ⟨_, rfl⟩
      have hsx : s.data.toList = x := by rw [← hs]; rfl
      have hss : s.size ≤ 1000 := by rw [← hs]; exact hls'.out x (List.mem_of_getElem? hx)
      rw [hs] at hc
      have hdr : l.drop k = x :: l.drop (k + 1) := by
        obtain ⟨h1, h2⟩ := List.getElem?_eq_some_iff.1 hx
        rw [List.drop_eq_getElem_cons h1, h2]
      have hcl2 := hcl.out
      rw [hdr] at hcl2
      unfold clean at hcl2
      have hop := rdo2 hSr.out hBd.out (by omega) hU 6 (by omega) s ⟨#[]⟩ hss (by decide) 0 none 0 0 [] (fun w9 _ _ => Rd.none_ w9) (by omega)
      rw [hsx] at hop
      have hop2 : Calls Tryz.prog 82 #[.pointer (some ⟨rb, 0, none⟩), .int .i64 ((6 : Nat) : Int), .string s, .string ⟨#[]⟩, .int .i64 0, .slice none 0 0] wr
        fun e w' => e = .returned (.int .i64 (op d' 6 x [] 0 []).1) ∧ Rs B rb (op d' 6 x [] 0 []).2 wr w' := hop
      have hB2 := hBd.out.op0 6 x [] 0
      obtain ⟨Y, hY⟩ : ∃ Y, op d' 6 x [] 0 [] = Y := ⟨_, rfl⟩
      rw [hY] at hcl2 hop2 hB2
      obtain ⟨c1, d1⟩ := Y
      simp only at hcl2 hop2 hB2
      have hop' := Lib.hid hop2
      have hB2' := Lib.hid hB2
      have hcl2' := Lib.hid hcl2
      clear hop hop2 hB2 hcl2 hY hdr hsx hs hx
      go_wp2_with fail
      refine hop'.out.mono ?_
      rintro e w3 ⟨rfl, hst⟩
      have hS3 := Lib.hid (Rs.then_ hSr.out hst)
      have hs3 := Lib.hid (hsr.out.rm hst.2.1)
      clear hst hop'
      by_cases h0 : c1 = 0
      · subst h0
        have hcl3 := hcl2'.out
        rw [if_neg (by simp)] at hcl3
        have hcl3' := Lib.hid hcl3
        clear hcl3 hcl2'
        go_wp2_with fail
        go_roundw
        case rel => exact ⟨k + 1, d1, by omega, by go_num, hcl3', Lib.hid (hB2'.out.mono (by omega) (Nat.le_refl _)), hS3, hs3⟩
        case measure => simp [intOf]; omega
      · have hcl3 := hcl2'.out
        rw [if_pos h0] at hcl3
        subst hcl3
        have hne : (c1 != 0) = true := by simpa using h0
        go_wp2_with fail
        go_ret
        exact ⟨rfl, hS3.out⟩
    · have i1 : decide ((k : Int) < (n2 : Int)) = false := by rw [decide_eq_false_iff_not]; omega
      have i2 : decide (k < n2) = false := by rw [decide_eq_false_iff_not]; omega
      have hend := hcl.out
      rw [List.drop_of_length_le (by omega)] at hend
      unfold clean at hend
      subst hend
      go_wp2_with fail
      go_ret
      exact ⟨rfl, hSr.out⟩

set_option maxHeartbeats 1000000 in
set_option maxRecDepth 100000 in
/-- Texts, at rows that read alike. -/
theorem texts_any (A : Option Addr) (n c : Nat) (A2 : Option Addr) (n2 c2 : Nat) (l : List ByteArray) (w : World) (h : Rd w A n c (l.map Value.string)) (h2 : Rd w A2 n2 c2 (l.map Value.string)) :
    Calls Tryz.prog 53 #[.slice A n c, .slice A2 n2 c2] w fun e w' => e = .returned (.bool true) ∧ ∃ k, w' = w.drewN k := by
  obtain rfl : n = n2 := h.len.symm.trans h2.len
  have hle := h.le
  have hmx := h.max
  have hle2 := h2.le
  have hmx2 := h2.max
  have h' := Lib.hid h
  have h2' := Lib.hid h2
  clear h h2
  go_enter Tryz.func53, Tryz.ntmps53
  go_wp2_with fail
  go_loopw [5] (fun i wr => ∃ k m : Nat, k ≤ n ∧ i = .int .i64 k ∧ wr = w.drewN m) (fun i _ => n - (intOf i).toNat)
  case atStart => exact ⟨0, 0, by omega, rfl, rfl⟩
  case round =>
    obtain ⟨k, m, hk, rfl, rfl⟩ := hrel
    have hbp := Joins.below_draws w.heap.size w m
    by_cases hlt : k < n
    · obtain ⟨b, off, u, rfl, hb, hu, hc⟩ := Rd.at_ (Rd.below h'.out hbp) hlt
      obtain ⟨b2, off2, u2, rfl, hb2, hu2, hc2⟩ := Rd.at_ (Rd.below h2'.out hbp) hlt
      obtain rfl : u = u2 := Option.some.inj (hu.symm.trans hu2)
      rw [List.getElem?_map, Option.map_eq_some_iff] at hu
      obtain ⟨s, _, rfl⟩ := hu
      have i0 : decide ((k : Int) < (n : Int)) = true := by rw [decide_eq_true_eq]; omega
      have i1 : decide (k < n) = true := by rw [decide_eq_true_eq]; omega
      have i3 : (k : Int) < (n : Int) := by omega
      have hdr : ∀ q, (w.drewN m).drewN q = w.drewN (m + q) := fun q => World.drewN_drewN ..
      have hdr' := Lib.hid hdr
      obtain ⟨wr, hwr⟩ : ∃ wr, w.drewN m = wr := ⟨_, rfl⟩
      rw [hwr] at hc hc2 hdr' ⊢
      clear hu2 hdr hbp hb hb2 hwr
      go_wp2_with fail
      go_quiet (fail)
      go_wp2_with fail
      go_roundw
      case rel => exact ⟨k + 1, _, by omega, by go_num, hdr'.out _⟩
      case measure => simp [intOf]; omega
    · have i0 : decide ((k : Int) < (n : Int)) = false := by rw [decide_eq_false_iff_not]; omega
      have i1 : decide (k < n) = false := by rw [decide_eq_false_iff_not]; omega
      go_wp2_with fail
      go_ret
      exact ⟨rfl, m, rfl⟩
end Go.Proofs.YtfdpnjebhllpkaaGreatDoor.Mn
end
