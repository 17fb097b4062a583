/- The law DiskMoves. -/
import Derived.Test.YtjhiihmibleecaaDoorDkAlone
namespace Go.Proofs.YtjhiihmibleecaaDoor.Dk
open Go.RowKit

set_option maxHeartbeats 4000000 in
set_option maxRecDepth 100000 in
theorem moves_law (A : Option Addr) (n c : Nat) (l : List In) (s s2 : ByteArray) (W : World) (hF : Sq FeEl 3 W A n c l) (hsz : ∀ f ∈ l, f.data.length ≤ 140737488351232) (hs : s.size ≤ 140737488351232) (hs2 : s2.size ≤ 140737488351232) :
    Calls Tryd.prog 3 #[.slice A n c, .string s, .string s2] W fun e w' => e = .returned (.bool true) ∧ Below W.heap.size W w' := by
  obtain ⟨T, hT⟩ : ∃ T, W.heap.size = T := ⟨_, rfl⟩
  have hFat : Hid (∀ w', Below T W w' → Sq FeEl 3 w' A n c l) := Lib.hid fun w' hb => hF.below (FeEl.below (by rw [hT]; exact hb)) (by rw [hT]; exact hb)
  have hsz' := Lib.hid hsz
  have hT' := Lib.hid hT
  have hTw : T ≤ W.heap.size := by omega
  clear hF hsz
  go_enter Tryd.func3, Tryd.ntmps3
  go_wp2_with fail
  refine (awake_any _).mono ?_
  rintro e w2 ⟨rfl, hb2⟩
  have hx2 := Lib.hid (hb2.mono hTw)
  clear hb2 hT
  go_wp2_with fail
  refine (Small_any A n c l w2 (hFat.out _ hx2.out) hsz'.out).mono ?_
  rintro e w2' ⟨b, rfl, hsm, rfl⟩
  have hsm' := Lib.hid hsm
  clear hsm
  cases b with
  | false =>
    go_wp2_with fail
    go_ret
    exact ⟨rfl, by rw [hT'.out]; exact hx2.out⟩
  | true =>
    have hS := hsm'.out rfl
    have hS' := Lib.hid hS
    clear hsm' hS
    by_cases z1 : 1000 < s.size
    · have d1 : decide ((1000 : Int) < (s.size : Int)) = true := by rw [decide_eq_true_eq]; omega
      have d2 : decide (1000 < s.size) = true := by rw [decide_eq_true_eq]; omega
      go_wp2_with fail
      go_ret
      exact ⟨rfl, by rw [hT'.out]; exact hx2.out⟩
    have d1 : decide ((1000 : Int) < (s.size : Int)) = false := by rw [decide_eq_false_iff_not]; omega
    have d2 : decide (1000 < s.size) = false := by rw [decide_eq_false_iff_not]; omega
    by_cases z2 : 1000 < s2.size
    · have d3 : decide ((1000 : Int) < (s2.size : Int)) = true := by rw [decide_eq_true_eq]; omega
      have d4 : decide (1000 < s2.size) = true := by rw [decide_eq_true_eq]; omega
      go_wp2_with fail
      go_ret
      exact ⟨rfl, by rw [hT'.out]; exact hx2.out⟩
    have d3 : decide ((1000 : Int) < (s2.size : Int)) = false := by rw [decide_eq_false_iff_not]; omega
    have d4 : decide (1000 < s2.size) = false := by rw [decide_eq_false_iff_not]; omega
    go_wp2_with fail
    refine (Load_any w2 A n c l 32768 (hFat.out _ hx2.out) (by have := hS'.out.len; have := (hFat.out _ hx2.out).len; omega) (fun f hf => ⟨hS'.out.nm f hf, by have h1 := hS'.out.sum; have h2 := le_sum_of_mem hf; omega⟩) (by omega)).mono ?_
    rintro e w4 ⟨hb4, hload⟩
    have hx4 := Lib.hid (hx2.out.trans (hb4.mono (by have := hx2.out.size; omega)))
    clear hb4 d1 d2 d3 d4
    cases hld : load l 32768 with
    | none =>
      rw [hld] at hload
      obtain rfl := hload
      go_wp2_with fail
      go_ret
      exact ⟨rfl, by rw [hT'.out]; exact hx4.out⟩
    | some d =>
      rw [hld] at hload
      obtain ⟨a, mb, rfl, L, F, hD⟩ := hload
      obtain ⟨hI, hdn, htr, hop, hrm⟩ := inv_load hld
      have hu : used d.fs ≤ 32768 := by have := hI.room; rw [hrm] at this; exact this
      have hG : Hid (Good d 0 200 32768) := Lib.hid ⟨hI, by omega, by rw [htr]; simp, hu⟩
      have hD4 := Lib.hid hD
      have hren := Lib.hid (rename_op hdn htr s.data.toList s2.data.toList)
      have hw2T : Hid (T ≤ w2.heap.size) := Lib.hid (by have := hx2.out.size; omega)
      have hzz : Hid (∀ p ∈ d.fs, p.2.data.length ≤ 1000000) := Lib.hid fun p hp => by have := len_le_used hp; omega
      have hfn : Hid (d.fs.length ≤ 1000) := Lib.hid (by have := hI.most; omega)
      clear hD hI hdn htr hop hrm hld
      go_wp2_with fail
      refine (Read_any w4 _ a mb L F _ d hD4.out s (by omega) hzz.out).mono ?_
      rintro e w5 ⟨hb5, v1, l1, rfl, ho1, hl1⟩
      obtain ⟨G1, hG1⟩ : ∃ G1, Dk.get d.fs s.data.toList = G1 := ⟨_, rfl⟩
      rw [hG1] at hl1
      have hx5 := Lib.hid (hx4.out.trans (hb5.mono (by have := hx4.out.size; omega)))
      have hD5 := Lib.hid (hD4.out.below hb5)
      have ho1' := Lib.hid ho1
      have hl1' := Lib.hid hl1
      rw [hG1]
      have hG1' := Lib.hid hG1
      obtain ⟨q1, hq1⟩ : ∃ q : Int, (if G1.isSome = true then 0 else 42) = q := ⟨_, rfl⟩
      rw [hq1]
      have hq1' := Lib.hid hq1
      clear hb5 ho1 hl1 hG1 hq1
      go_wp2_with fail
      refine (Read_any w5 _ a mb L F _ d hD5.out s2 (by omega) hzz.out).mono ?_
      rintro e w6 ⟨hb6, v2, l2, rfl, ho2, hl2⟩
      obtain ⟨G2, hG2⟩ : ∃ G2, Dk.get d.fs s2.data.toList = G2 := ⟨_, rfl⟩
      rw [hG2] at hl2
      have hx6 := Lib.hid (hx5.out.trans (hb6.mono (by have := hx5.out.size; omega)))
      have hD6 := Lib.hid (hD5.out.below hb6)
      have ho16 := Lib.hid (OwB.below ho1'.out hb6)
      have ho2' := Lib.hid ho2
      have hl2' := Lib.hid hl2
      rw [hG2]
      have hG2' := Lib.hid hG2
      obtain ⟨q2, hq2⟩ : ∃ q : Int, (if G2.isSome = true then 0 else 42) = q := ⟨_, rfl⟩
      rw [hq2]
      have hq2' := Lib.hid hq2
      clear hb6 ho2 hl2 hG2 hq2 ho1'
      go_wp2_with fail
      refine (Used_any w6 _ a mb L F _ d hD6.out (by omega)).mono ?_
      rintro e w7 ⟨rfl, hb7⟩
      have hx7 := Lib.hid (hx6.out.trans (hb7.mono (by have := hx6.out.size; omega)))
      have hD7 := Lib.hid (hD6.out.below hb7)
      have ho17 := Lib.hid (OwB.below ho16.out hb7)
      have ho27 := Lib.hid (OwB.below ho2'.out hb7)
      clear hb7 ho16 ho2'
      obtain ⟨U, hU⟩ : ∃ U, used d.fs = U := ⟨_, rfl⟩
      rw [hU]
      have hU' := Lib.hid hU
      rw [hU] at hu
      clear hU
      go_wp2_with fail
      refine (Rename_any w7 _ a mb L F _ d hD7.out (by have := hG.out.ops; omega) (by have := hG.out.tr; omega) hfn.out s (by omega) s2 (by omega)).mono ?_
      rw [hren.out]
      rintro e w8 ⟨rfl, hb8, hf8, L8, F8, hD8⟩
      have hx8 := Lib.hid (hx7.out.trans (hb8.mono hw2T.out))
      have hD8' := Lib.hid hD8
      have ho18 := Lib.hid (hf8.owb ho17.out)
      have ho28 := Lib.hid (hf8.owb ho27.out)
      clear hb8 hf8 hD8 ho17 ho27
      have hw8 : Hid (w2.heap.size ≤ w8.heap.size ∧ T ≤ w8.heap.size) := Lib.hid (by have := hx8.out.size; have := hD8'.out.alt; have := hD8'.out.base; omega)
      have hI := Lib.hid hG.out.inv
      cases hG1c : G1 with
      | none =>
        have hq : q1 = 42 := by have := hq1'.out; rw [hG1c] at this; exact this.symm
        have hrf : refuse d 5 s.data.toList s2.data.toList 0 [] = 42 := by unfold refuse; rw [if_neg (by decide), hG1'.out, hG1c]
        subst hq
        have hX : Hid (Da w8 w2.heap.size a mb L8 F8 (.slice none 0 0) { d with ops := d.ops + 1 }) := Lib.hid (by have := hD8'.out; rw [hrf] at this; exact this)
        rw [hrf]
        rw [if_pos (by decide)]
        have hus := Used_any w8 _ a mb L8 F8 _ _ hX.out (by show used d.fs ≤ _; rw [hU'.out]; omega)
        rw [show used ({ d with ops := d.ops + 1 } : D).fs = U from hU'.out] at hus
        have hus' := Lib.hid hus
        clear hus hG1c hrf
        go_wp2_with fail
        refine hus'.out.mono ?_
        rintro e w9 ⟨rfl, hb9⟩
        have hx9 := Lib.hid (hx8.out.trans (hb9.mono hw8.out.2))
        clear hb9
        go_wp2_with fail
        go_ret
        exact ⟨rfl, by rw [hT'.out]; exact hx9.out⟩
      | some f1 =>
        have hq : q1 = 0 := by have := hq1'.out; rw [hG1c] at this; exact this.symm
        subst hq
        have hl1v : Hid (l1 = f1.data) := Lib.hid (by have := hl1'.out; rw [hG1c] at this; exact this)
        have hgf : Hid (Dk.get d.fs s.data.toList = some f1) := Lib.hid (by rw [hG1'.out, hG1c])
        cases hM : may s2.data.toList with
        | false =>
          have hrf : refuse d 5 s.data.toList s2.data.toList 0 [] = 44 := by unfold refuse; rw [if_neg (by decide), hgf.out]; simp [hM]
          have hX : Hid (Da w8 w2.heap.size a mb L8 F8 (.slice none 0 0) { d with ops := d.ops + 1 }) := Lib.hid (by have := hD8'.out; rw [hrf] at this; exact this)
          rw [hrf]
          rw [if_pos (by decide)]
          have hus := Used_any w8 _ a mb L8 F8 _ _ hX.out (by show used d.fs ≤ _; rw [hU'.out]; omega)
          rw [show used ({ d with ops := d.ops + 1 } : D).fs = U from hU'.out] at hus
          have hus' := Lib.hid hus
          have hmay := May_any s2 (by omega) w8
          rw [hM] at hmay
          clear hus hG1c hrf hM
          go_wp2_with fail
          refine hmay.mono ?_
          rintro e w8' ⟨rfl, rfl⟩
          clear hmay
          go_wp2_with fail
          refine hus'.out.mono ?_
          rintro e w9 ⟨rfl, hb9⟩
          have hx9 := Lib.hid (hx8.out.trans (hb9.mono hw8.out.2))
          clear hb9
          go_wp2_with fail
          go_ret
          exact ⟨rfl, by rw [hT'.out]; exact hx9.out⟩
        | true =>
          have hrf : refuse d 5 s.data.toList s2.data.toList 0 [] = 0 := by unfold refuse; rw [if_neg (by decide), hgf.out]; simp [hM]
          have hX : Hid (Da w8 w2.heap.size a mb L8 F8 (.slice none 0 0) { d with ops := d.ops + 1, fs := ins s2.data.toList f1 (del s2.data.toList (del s.data.toList d.fs)) }) := Lib.hid (by have := hD8'.out; rw [hrf, rename_get hI.out hgf.out] at this; exact this)
          rw [hrf]
          rw [if_neg (by decide)]
          obtain ⟨d2, hd2⟩ : ∃ d2 : D, d2 = { d with ops := d.ops + 1, fs := ins s2.data.toList f1 (del s2.data.toList (del s.data.toList d.fs)) } := ⟨_, rfl⟩
          have hd2fs : d2.fs = ins s2.data.toList f1 (del s2.data.toList (del s.data.toList d.fs)) := by rw [hd2]
          rw [← hd2] at hX
          have hused := rename_used (nt := s2.data.toList) hI.out hgf.out
          rw [← hd2fs, hU'.out, hG2'.out] at hused
          have hto := rename_to (d := d) (nm := s.data.toList) (nt := s2.data.toList) (f := f1)
          rw [← hd2fs] at hto
          have hus9 : used d2.fs ≤ 32768 := by rw [hused]; split <;> omega
          have hz2 : Hid (∀ p ∈ d2.fs, p.2.data.length ≤ 1000000) := Lib.hid fun p hp => by have := len_le_used hp; omega
          have hused' := Lib.hid hused
          have hto' := Lib.hid hto
          have hd2' := Lib.hid hd2fs
          have hmay := May_any s2 (by omega) w8
          rw [hM] at hmay
          have hus9' := Lib.hid hus9
          clear hG1c hrf hM hd2 hd2fs hused hto hus9
          go_wp2_with fail
          refine hmay.mono ?_
          rintro e w8' ⟨rfl, rfl⟩
          clear hmay
          go_wp2_with fail
          refine (Read_any w8 _ a mb L8 F8 _ d2 hX.out s2 (by omega) hz2.out).mono ?_
          rintro e w9 ⟨hb9, v3, l3, rfl, ho3, hl3⟩
          have hx9 := Lib.hid (hx8.out.trans (hb9.mono hw8.out.2))
          have hX9 := Lib.hid (hX.out.below hb9)
          have ho19 := Lib.hid (OwB.below ho18.out hb9)
          have ho29 := Lib.hid (OwB.below ho28.out hb9)
          rw [hto'.out] at hl3 ⊢
          have hl3v : l3 = f1.data := hl3
          subst hl3v
          obtain ⟨A3, c3, rfl, hbs3⟩ := OwB.slice ho3
          obtain ⟨A1, c1, rfl, hbs1⟩ := OwB.slice ho19.out
          rw [hl1v.out] at hbs1
          have hby := Lib.hid (bytes_same A3 _ c3 f1.data A1 _ c1 w9 hbs3 hbs1)
          rw [show (if (some f1).isSome = true then (0 : Int) else 42) = 0 from rfl, hl1v.out]
          have hw9 : Hid (T ≤ w9.heap.size) := Lib.hid (by have := hx9.out.size; omega)
          clear hb9 ho3 hl3 hbs3 hbs1 ho19 ho28
          go_wp2_with fail
          refine hby.out.mono ?_
          rintro e w10 ⟨rfl, j, rfl⟩
          have hx10 := Lib.hid (bN hx9.out j)
          have hX10 := Lib.hid (hX9.out.below (Joins.below_draws _ w9 j))
          have ho210 := Lib.hid (OwB.below ho29.out (Joins.below_draws _ w9 j))
          have hw10 : Hid (T ≤ (w9.drewN j).heap.size) := Lib.hid (by have := hx10.out.size; omega)
          generalize w9.drewN j = w10 at hx10 hX10 ho210 hw10 ⊢
          clear ho29 hby
          by_cases e1 : s = s2
          · have t1 : (s.toList == s2.toList) = true := by rw [str_beq]; simpa using e1
            have hU2 : Hid (used d2.fs = U) := Lib.hid (by rw [hused'.out, if_pos (by rw [e1])])
            have hus := Used_any w10 _ a mb L8 F8 _ d2 hX10.out (by have := hus9'.out; omega)
            rw [hU2.out] at hus
            have hus' := Lib.hid hus
            clear hus e1
            go_wp2_with fail
            refine hus'.out.mono ?_
            rintro e w11 ⟨rfl, hb11⟩
            have hx11 := Lib.hid (hx10.out.trans (hb11.mono hw10.out))
            clear hb11
            go_wp2_with fail
            go_ret
            exact ⟨rfl, by rw [hT'.out]; exact hx11.out⟩
          · have t1 : (s.toList == s2.toList) = false := by rw [str_beq]; simpa using e1
            have hne : ¬ s.data.toList = s2.data.toList := fun h => e1 (bytes_ext h)
            have hfrom := rename_from (d := d) (nm := s.data.toList) (nt := s2.data.toList) (f := f1) hne
            rw [← hd2'.out] at hfrom
            have hfrom' := Lib.hid hfrom
            have hU2 := Lib.hid (hused'.out.trans (if_neg hne))
            clear hfrom e1 hne
            go_wp2_with fail
            refine (Read_any w10 _ a mb L8 F8 _ d2 hX10.out s (by omega) hz2.out).mono ?_
            rintro e w11 ⟨hb11, v4, l4, rfl, ho4, hl4⟩
            have hx11 := Lib.hid (hx10.out.trans (hb11.mono hw10.out))
            have hX11 := Lib.hid (hX10.out.below hb11)
            have ho211 := Lib.hid (OwB.below ho210.out hb11)
            have hw11 : Hid (T ≤ w11.heap.size) := Lib.hid (by have := hx11.out.size; omega)
            rw [hfrom'.out]
            rw [show (if (none : Option Fl).isSome = true then (0 : Int) else 42) = 42 from rfl]
            have hus := Used_any w11 _ a mb L8 F8 _ d2 hX11.out (by have := hus9'.out; omega)
            clear hb11 ho4 hl4 ho210
            cases hG2c : G2 with
            | none =>
              have hq : q2 = 42 := by have := hq2'.out; rw [hG2c] at this; exact this.symm
              subst hq
              have hU3 : used d2.fs = U := by have := hU2.out; rw [hG2c] at this; exact this
              rw [hU3] at hus
              have hus' := Lib.hid hus
              clear hus hU3 hG2c
              go_wp2_with fail
              refine hus'.out.mono ?_
              rintro e w12 ⟨rfl, hb12⟩
              have hx12 := Lib.hid (hx11.out.trans (hb12.mono hw11.out))
              clear hb12
              go_wp2_with fail
              go_ret
              exact ⟨rfl, by rw [hT'.out]; exact hx12.out⟩
            | some f2 =>
              have hq : q2 = 0 := by have := hq2'.out; rw [hG2c] at this; exact this.symm
              subst hq
              have hU3 : used d2.fs = U - f2.data.length := by have := hU2.out; rw [hG2c] at this; exact this
              have hl2v : l2 = f2.data := by have := hl2'.out; rw [hG2c] at this; exact this
              have hle2 : f2.data.length ≤ U := by have h1 := hG2'.out; rw [hG2c] at h1; have h2 := len_le_used (get_mem h1); rw [hU'.out] at h2; exact h2
              obtain ⟨A2, c2, rfl, _⟩ := OwB.slice ho211.out
              rw [hl2v]
              obtain ⟨n2, hn2⟩ : ∃ n2, f2.data.length = n2 := ⟨_, rfl⟩
              rw [hn2] at hU3 hle2 ⊢
              rw [hU3] at hus
              have hus' := Lib.hid hus
              have q7 : IntKind.i64.wrap ((U : Int) - (n2 : Int)) = (U : Int) - (n2 : Int) := IntWalk.i64_in _ (by omega)
              have q8 : ((U - n2 : Nat) : Int) = (U : Int) - (n2 : Int) := by omega
              clear hus hU3 hG2c hl2v hn2
              go_wp2_with fail
              refine hus'.out.mono ?_
              rintro e w12 ⟨rfl, hb12⟩
              have hx12 := Lib.hid (hx11.out.trans (hb12.mono hw11.out))
              clear hb12
              go_wp2_with fail
              go_ret
              exact ⟨rfl, by rw [hT'.out]; exact hx12.out⟩
end Go.Proofs.YtjhiihmibleecaaDoor.Dk
