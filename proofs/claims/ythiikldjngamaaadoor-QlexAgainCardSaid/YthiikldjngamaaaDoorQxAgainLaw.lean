/- QlexAgain. -/
import Derived.Test.YthiikldjngamaaaDoorQxWordsLaw
namespace Go.Proofs.YthiikldjngamaaaDoor.Qx
open Go.RowKit UtfW Er

theorem rends_append (a b : List (Int × List UInt8)) : rends (a ++ b) = rends a ++ rends b := by
  induction a with
  | nil => rfl
  | cons t a ih => show rend t.1 t.2 ++ 32 :: rends (a ++ b) = (rend t.1 t.2 ++ 32 :: rends a) ++ rends b; rw [ih]; simp
theorem rends_snoc {l : List (Int × List UInt8)} {i : Nat} {p : Int × List UInt8} (h : l[i]? = some p) : rends (l.take (i + 1)) = rends (l.take i) ++ (rend p.1 p.2 ++ [32]) := by
  rw [take_snoc h, rends_append]
  rfl
theorem rends_ge (us : List Tok) : us.length ≤ (rends (us.map kt)).length := by
  induction us with
  | nil => exact Nat.le_refl _
  | cons t us ih =>
    show us.length + 1 ≤ (rend (kt t).1 (kt t).2 ++ 32 :: rends (us.map kt)).length
    rw [List.length_append, List.length_cons]
    omega
theorem rend_ge (kd : Int) (tx : List UInt8) : tx.length ≤ (rend kd tx).length := by
  unfold rend
  repeat' split
  all_goals simp
  all_goals omega
theorem rends_take_le (l : List (Int × List UInt8)) (i : Nat) : (rends (l.take i)).length ≤ (rends l).length := by
  have := rends_append (l.take i) (l.drop i)
  rw [List.take_append_drop] at this
  rw [this, List.length_append]
  omega

set_option maxHeartbeats 4000000 in
set_option maxRecDepth 100000 in
theorem again_law (S0 : ByteArray) (hS0 : S0.size ≤ 140737488351232) (w : World) (hU : Ut w) (hE : En w.heap.size w) :
    Calls Tryd.prog 3 #[.string S0] w fun e w' => e = .returned (.bool true) ∧ Below w.heap.size w w' := by
  obtain ⟨S, rfl⟩ : ∃ S, S0 = strOf S := ⟨S0.data.toList, rfl⟩
  have hsz : (strOf S).size = S.length := strOf_size' S
  rw [hsz] at hS0
  go_enter Tryd.func3, Tryd.ntmps3
  go_wp2_with fail
  refine (awake_any w hU hE).mono ?_
  rintro e w1 ⟨rfl, hb1⟩
  have hx1 := Lib.hid hb1
  clear hb1
  by_cases hlen : 300 < S.length
  · have i0 : decide ((300 : Int) < (S.length : Int)) = true := by simp; omega
    go_wp2_with fail
    go_ret
    exact ⟨rfl, hx1.out⟩
  have i0 : decide ((300 : Int) < (S.length : Int)) = false := by simp; omega
  go_wp2_with fail
  refine (All_any w1 S (by omega) (hU.below hx1.out)).mono ?_
  intro e w2 h2
  by_cases hcd : (allF S).1 = 0
  · obtain ⟨us, vs, hu1, hup, hv1, hv2, hvl⟩ := all_again hcd (by omega)
    obtain ⟨hb2, A, n, c, rfl, ho⟩ := h2.ok hu1
    have hn := ho.len
    have hn' := Lib.hid hn
    have hx2 := Lib.hid (hx1.out.trans (hb2.mono hx1.out.size))
    have ho' := Lib.hid ho.rt
    have hup' := Lib.hid hup
    have hv1' := Lib.hid hv1
    have hv2' := Lib.hid hv2
    have hnc := ho.rt.le
    have hnl : n ≤ 1000 := by
      have : us.length ≤ (rends (us.map kt)).length := rends_ge us
      omega
    clear hb2 h2 ho hcd hu1 hup hv1 hv2 hn hnc
    go_wp2_with fail
    refine (Code_ok w2).mono ?_
    rintro e w3 ⟨rfl, hb3⟩
    have ho3 := Lib.hid (ho'.out.below hb3)
    have hx3 := Lib.hid (hx2.out.trans (hb3.mono hx2.out.size))
    clear hb3 ho' i0
    go_wp2_with fail
    go_loopw [5, 6] (fun s v wr => ∃ i q : Nat, i ≤ n ∧ v = .int .i64 (i : Nat) ∧ s = .string (strOf (rends ((us.map kt).take i))) ∧ wr = w3.drewN q) (fun _ v _ => n - (intOf v).toNat)
    case atStart => exact ⟨0, 0, by omega, rfl, rfl, rfl⟩
    case round =>
      obtain ⟨i, q, hi, rfl, rfl, hwq⟩ := hrel
      have hwq' := Lib.hid hwq
      have hor := Lib.hid (ho3.out.below (Joins.below_draws _ w3 q))
      have hxr := Lib.hid (hx3.out.trans ((Joins.below_draws _ w3 q).mono hx3.out.size))
      rw [← hwq] at hor hxr
      clear hwq
      by_cases hlt : i < n
      · have i0 : decide ((i : Int) < (n : Int)) = true := by simp; omega
        have hil : (i : Int) < (n : Int) := by omega
        obtain ⟨g, off, p, rfl, hg, hp, k0, k1, k2⟩ := hor.out.at_ hlt
        obtain ⟨u1, u2, u3⟩ := Up.at_ hup'.out hp
        have hpk : (us.map kt)[i]? = some (kt p) := by rw [List.getElem?_map, hp]; rfl
        have hpk' := Lib.hid hpk
        have htl := rends_take_le (us.map kt) i
        have htl2 := rends_take_le (us.map kt) (i + 1)
        rw [rends_snoc hpk] at htl2
        simp only [List.length_append, List.length_cons, List.length_nil] at htl2
        obtain ⟨t0, ht0⟩ : ∃ t0, rends ((us.map kt).take i) = t0 := ⟨_, rfl⟩
        rw [ht0] at htl htl2 ⊢
        have ht0' := Lib.hid ht0
        clear ht0 hpk
        obtain ⟨kd, pl, tx⟩ := p
        simp only [kt] at u1 u2 u3 k0 k1 k2 htl2 hpk'
        have u2' : decide ((S.length : Int) ≤ pl) = false := by simp; omega
        have hpr : i = 0 ∨ ∃ j : Nat, (i : Int) - 1 = (j : Int) ∧ j < n ∧ ∃ ql, wr.cell? ⟨g, off + j * 3 + 1, none⟩ = some (.int .i64 ql) ∧ ql < pl := by
          rcases Nat.eq_zero_or_pos i with h0 | h0
          · exact .inl h0
          · refine .inr ⟨i - 1, by omega, by omega, ?_⟩
            obtain ⟨g', off', p', e', _, hp', _, k1', _⟩ := hor.out.at_ (k := i - 1) (by omega)
            injection e' with e'
            injection e' with e1 e2
            subst e1 e2
            obtain ⟨_, _, hnx⟩ := Up.at_ hup'.out hp'
            rw [show i - 1 + 1 = i by omega] at hnx
            exact ⟨p'.2.1, k1', hnx _ hp⟩
        clear hp u3
        rcases hpr with h0 | ⟨j, hj, hjn, ql, hql, hlt2⟩
        case' inl =>
          have i1 : decide (0 < i) = false := by simp; omega
          clear h0
          go_wp2_with fail
          go_big_quiet (fail)
        case' inr =>
          have i1 : decide (0 < i) = true := by simp; omega
          have i2 : decide (pl ≤ ql) = false := by simp; omega
          have i3 : 0 ≤ (j : Int) ∧ (j : Int) < (n : Int) := ⟨by omega, by omega⟩
          go_wp2_with fail
          go_big_quiet (fail)
          clear i1 i2 i3 hj hql hlt2
        all_goals
          have htx := rend_ge kd tx
          clear u1 u2 u2' k1
          by_cases h9 : kd = 9
          · have e9 : (kd == 9) = true := by rw [beq_iff_eq]; exact h9
            have hR : rend kd tx = 36 :: tx := by unfold rend; rw [if_pos h9]
            rw [hR] at htl2
            try simp only [List.length_append, List.length_cons, List.length_nil] at htl2
            have hR' := Lib.hid hR
            clear hR
            have a1 := fun w => add_str w (t0) [36] _ (strOf (t0)) ⟨#[36]⟩ rfl rfl rfl (by simp only [List.length_append, List.length_cons, List.length_nil]; omega)
            have a2 := fun w => add_str w (t0 ++ [36]) tx _ (strOf (t0 ++ [36])) (strOf tx) rfl rfl rfl (by simp only [List.length_append, List.length_cons, List.length_nil]; omega)
            have a3 := fun w => add_str w (t0 ++ [36] ++ tx) [32] _ (strOf (t0 ++ [36] ++ tx)) ⟨#[32]⟩ rfl rfl rfl (by simp only [List.length_append, List.length_cons, List.length_nil]; omega)
            have hfin : Hid (rends ((us.map kt).take (i + 1)) = t0 ++ [36] ++ tx ++ [32]) := Lib.hid (by rw [rends_snoc (p := (kd, tx)) hpk'.out]; simp only [ht0'.out, hR'.out]; simp)
            obtain ⟨Z1, hZ1⟩ : ∃ T, strOf (t0 ++ [36]) = T := ⟨_, rfl⟩
            obtain ⟨Z2, hZ2⟩ : ∃ T, strOf (t0 ++ [36] ++ tx) = T := ⟨_, rfl⟩
            obtain ⟨Z3, hZ3⟩ : ∃ T, strOf (t0 ++ [36] ++ tx ++ [32]) = T := ⟨_, rfl⟩
            rw [hZ1] at a1 a2
            rw [hZ2] at a2 a3
            rw [hZ3] at a3
            have hZf := Lib.hid hZ3
            obtain ⟨Z0, hZ0⟩ : ∃ T, strOf t0 = T := ⟨_, rfl⟩
            rw [hZ0] at a1 ⊢
            clear hZ0 hZ1 hZ2 hZ3
            clear h9
            go_wp2_with fail
            go_roundw
            case rel => exact ⟨i + 1, q + nq, by omega, by go_num, by rw [hfin.out, hZf.out], by rw [hwq'.out, World.drewN_drewN]⟩
            case measure => simp [intOf]; omega
          · have e9 : (kd == 9) = false := by rw [beq_eq_false_iff_ne]; exact h9
            by_cases h7 : kd = 7
            · have e7 : (kd == 7) = true := by rw [beq_iff_eq]; exact h7
              by_cases hm : (34 : UInt8) ∈ tx
              · have em : decide ((34 : UInt8) ∈ tx) = true := by simpa using hm
                have hR : rend kd tx = 39 :: (tx ++ [39]) := by unfold rend; rw [if_neg h9, if_pos ⟨h7, hm⟩]
                rw [hR] at htl2
                try simp only [List.length_append, List.length_cons, List.length_nil] at htl2
                have hR' := Lib.hid hR
                clear hR
                have a1 := fun w => add_str w (t0) [39] _ (strOf (t0)) ⟨#[39]⟩ rfl rfl rfl (by simp only [List.length_append, List.length_cons, List.length_nil]; omega)
                have a2 := fun w => add_str w (t0 ++ [39]) tx _ (strOf (t0 ++ [39])) (strOf tx) rfl rfl rfl (by simp only [List.length_append, List.length_cons, List.length_nil]; omega)
                have a3 := fun w => add_str w (t0 ++ [39] ++ tx) [39] _ (strOf (t0 ++ [39] ++ tx)) ⟨#[39]⟩ rfl rfl rfl (by simp only [List.length_append, List.length_cons, List.length_nil]; omega)
                have a4 := fun w => add_str w (t0 ++ [39] ++ tx ++ [39]) [32] _ (strOf (t0 ++ [39] ++ tx ++ [39])) ⟨#[32]⟩ rfl rfl rfl (by simp only [List.length_append, List.length_cons, List.length_nil]; omega)
                have hfin : Hid (rends ((us.map kt).take (i + 1)) = t0 ++ [39] ++ tx ++ [39] ++ [32]) := Lib.hid (by rw [rends_snoc (p := (kd, tx)) hpk'.out]; simp only [ht0'.out, hR'.out]; simp)
                obtain ⟨Z1, hZ1⟩ : ∃ T, strOf (t0 ++ [39]) = T := ⟨_, rfl⟩
                obtain ⟨Z2, hZ2⟩ : ∃ T, strOf (t0 ++ [39] ++ tx) = T := ⟨_, rfl⟩
                obtain ⟨Z3, hZ3⟩ : ∃ T, strOf (t0 ++ [39] ++ tx ++ [39]) = T := ⟨_, rfl⟩
                obtain ⟨Z4, hZ4⟩ : ∃ T, strOf (t0 ++ [39] ++ tx ++ [39] ++ [32]) = T := ⟨_, rfl⟩
                rw [hZ1] at a1 a2
                rw [hZ2] at a2 a3
                rw [hZ3] at a3 a4
                rw [hZ4] at a4
                have hZf := Lib.hid hZ4
                obtain ⟨Z0, hZ0⟩ : ∃ T, strOf t0 = T := ⟨_, rfl⟩
                rw [hZ0] at a1 ⊢
                clear hZ0 hZ1 hZ2 hZ3 hZ4
                clear h9 h7 hm
                go_wp2_with fail
                refine (lhas_any tx 34 (by omega) _).mono ?_
                rintro e wx ⟨rfl, rfl⟩
                rw [em]
                clear em
                go_wp2_with fail
                go_roundw
                case rel => exact ⟨i + 1, q + nq, by omega, by go_num, by rw [hfin.out, hZf.out], by rw [hwq'.out, World.drewN_drewN]⟩
                case measure => simp [intOf]; omega
              · have em : decide ((34 : UInt8) ∈ tx) = false := by simpa using hm
                have hR : rend kd tx = 34 :: (tx ++ [34]) := by unfold rend; rw [if_neg h9, if_neg (fun h => hm h.2), if_pos h7]
                rw [hR] at htl2
                try simp only [List.length_append, List.length_cons, List.length_nil] at htl2
                have hR' := Lib.hid hR
                clear hR
                have a1 := fun w => add_str w (t0) [34] _ (strOf (t0)) ⟨#[34]⟩ rfl rfl rfl (by simp only [List.length_append, List.length_cons, List.length_nil]; omega)
                have a2 := fun w => add_str w (t0 ++ [34]) tx _ (strOf (t0 ++ [34])) (strOf tx) rfl rfl rfl (by simp only [List.length_append, List.length_cons, List.length_nil]; omega)
                have a3 := fun w => add_str w (t0 ++ [34] ++ tx) [34] _ (strOf (t0 ++ [34] ++ tx)) ⟨#[34]⟩ rfl rfl rfl (by simp only [List.length_append, List.length_cons, List.length_nil]; omega)
                have a4 := fun w => add_str w (t0 ++ [34] ++ tx ++ [34]) [32] _ (strOf (t0 ++ [34] ++ tx ++ [34])) ⟨#[32]⟩ rfl rfl rfl (by simp only [List.length_append, List.length_cons, List.length_nil]; omega)
                have hfin : Hid (rends ((us.map kt).take (i + 1)) = t0 ++ [34] ++ tx ++ [34] ++ [32]) := Lib.hid (by rw [rends_snoc (p := (kd, tx)) hpk'.out]; simp only [ht0'.out, hR'.out]; simp)
                obtain ⟨Z1, hZ1⟩ : ∃ T, strOf (t0 ++ [34]) = T := ⟨_, rfl⟩
                obtain ⟨Z2, hZ2⟩ : ∃ T, strOf (t0 ++ [34] ++ tx) = T := ⟨_, rfl⟩
                obtain ⟨Z3, hZ3⟩ : ∃ T, strOf (t0 ++ [34] ++ tx ++ [34]) = T := ⟨_, rfl⟩
                obtain ⟨Z4, hZ4⟩ : ∃ T, strOf (t0 ++ [34] ++ tx ++ [34] ++ [32]) = T := ⟨_, rfl⟩
                rw [hZ1] at a1 a2
                rw [hZ2] at a2 a3
                rw [hZ3] at a3 a4
                rw [hZ4] at a4
                have hZf := Lib.hid hZ4
                obtain ⟨Z0, hZ0⟩ : ∃ T, strOf t0 = T := ⟨_, rfl⟩
                rw [hZ0] at a1 ⊢
                clear hZ0 hZ1 hZ2 hZ3 hZ4
                clear h9 h7 hm
                go_wp2_with fail
                refine (lhas_any tx 34 (by omega) _).mono ?_
                rintro e wx ⟨rfl, rfl⟩
                rw [em]
                clear em
                go_wp2_with fail
                go_roundw
                case rel => exact ⟨i + 1, q + nq, by omega, by go_num, by rw [hfin.out, hZf.out], by rw [hwq'.out, World.drewN_drewN]⟩
                case measure => simp [intOf]; omega
            · have e7 : (kd == 7) = false := by rw [beq_eq_false_iff_ne]; exact h7
              have hR : rend kd tx = tx := by unfold rend; rw [if_neg h9, if_neg (fun h => h7 h.1), if_neg h7]
              rw [hR] at htl2
              try simp only [List.length_append, List.length_cons, List.length_nil] at htl2
              have hR' := Lib.hid hR
              clear hR
              have a1 := fun w => add_str w (t0) tx _ (strOf (t0)) (strOf tx) rfl rfl rfl (by simp only [List.length_append, List.length_cons, List.length_nil]; omega)
              have a2 := fun w => add_str w (t0 ++ tx) [32] _ (strOf (t0 ++ tx)) ⟨#[32]⟩ rfl rfl rfl (by simp only [List.length_append, List.length_cons, List.length_nil]; omega)
              have hfin : Hid (rends ((us.map kt).take (i + 1)) = t0 ++ tx ++ [32]) := Lib.hid (by rw [rends_snoc (p := (kd, tx)) hpk'.out]; simp only [ht0'.out, hR'.out]; simp)
              obtain ⟨Z1, hZ1⟩ : ∃ T, strOf (t0 ++ tx) = T := ⟨_, rfl⟩
              obtain ⟨Z2, hZ2⟩ : ∃ T, strOf (t0 ++ tx ++ [32]) = T := ⟨_, rfl⟩
              rw [hZ1] at a1 a2
              rw [hZ2] at a2
              have hZf := Lib.hid hZ2
              obtain ⟨Z0, hZ0⟩ : ∃ T, strOf t0 = T := ⟨_, rfl⟩
              rw [hZ0] at a1 ⊢
              clear hZ0 hZ1 hZ2
              clear h9 h7
              go_wp2_with fail
              go_roundw
              case rel => exact ⟨i + 1, q + nq, by omega, by go_num, by rw [hfin.out, hZf.out], by rw [hwq'.out, World.drewN_drewN]⟩
              case measure => simp [intOf]; omega
      · have i0 : decide ((i : Int) < (n : Int)) = false := by simp; omega
        have hin : i = n := by omega
        subst hin
        have htk : (us.map kt).take i = us.map kt := List.take_of_length_le (by rw [List.length_map, hn'.out]; exact Nat.le_refl _)
        rw [htk]
        have hlv : vs.length = i := by have := congrArg List.length hv2'.out; rw [List.length_map, List.length_map, hn'.out] at this; exact this
        have hlv' := Lib.hid hlv
        clear htk hlv
        go_wp2_with fail
        refine (All_any wr (rends (us.map kt)) (by omega) (hU.below hxr.out)).mono ?_
        intro e w4 h4
        obtain ⟨hb4, A2, n2, c2, rfl, ho4⟩ := h4.ok hv1'.out
        have hn2 := ho4.len
        rw [hlv'.out] at hn2
        subst hn2
        have hy4 := Lib.hid ho4.rt
        have hy5 := Lib.hid (hor.out.below hb4)
        have hx4 := Lib.hid (hxr.out.trans (hb4.mono hxr.out.size))
        clear hb4 h4 ho4 i0 hlt
        go_wp2_with fail
        refine (Code_ok w4).mono ?_
        rintro e w5 ⟨rfl, hb5⟩
        have hy6 := Lib.hid (hy4.out.below hb5)
        have hy7 := Lib.hid (hy5.out.below hb5)
        have hx5 := Lib.hid (hx4.out.trans (hb5.mono hx4.out.size))
        clear hb5 hy4 hy5
        go_wp2_with fail
        clear hx3 ho3 hwq' hor hxr
        go_loopw [9] (fun v wz => ∃ j q : Nat, j ≤ i ∧ v = .int .i64 (j : Nat) ∧ wz = w5.drewN q) (fun v _ => i - (intOf v).toNat)
        case atStart => exact ⟨0, 0, by omega, rfl, rfl⟩
        case round =>
          obtain ⟨j, q2, hj, rfl, hwq2⟩ := hrel
          have hwq2' := Lib.hid hwq2
          have hou := Lib.hid (hy7.out.below (Joins.below_draws _ w5 q2))
          have hov := Lib.hid (hy6.out.below (Joins.below_draws _ w5 q2))
          have hxr := Lib.hid (hx5.out.trans ((Joins.below_draws _ w5 q2).mono hx5.out.size))
          rw [← hwq2] at hou hov hxr
          clear hwq2
          by_cases hlt : j < i
          · have i0 : decide ((j : Int) < (i : Int)) = true := by simp; omega
            have hil : (j : Int) < (i : Int) := by omega
            obtain ⟨g, off, p, rfl, hg, hp, k0, k1, k2⟩ := hou.out.at_ hlt
            obtain ⟨g', off', p', rfl, hg', hp', l0, l1, l2⟩ := hov.out.at_ hlt
            have hpk : (us.map kt)[j]? = some (kt p) := by rw [List.getElem?_map, hp]; rfl
            obtain ⟨q1, q2'⟩ := kt_at hv2'.out hp' hpk
            rw [q1] at l0
            rw [q2'] at l2
            obtain ⟨kd, pl, tx⟩ := p
            simp only [kt] at k0 k2 l0 l2
            clear hp hp' hpk q1 q2' k1 l1
            have e1 : (kd != kd) = false := by simp
            go_wp2_with fail
            go_big_quiet (fail)
            go_wp2_with fail
            go_roundw
            case rel => exact ⟨j + 1, q2 + nq, by omega, by go_num, by rw [hwq2'.out, World.drewN_drewN]⟩
            case measure => simp [intOf]; omega
          · have i0 : decide ((j : Int) < (i : Int)) = false := by simp; omega
            go_wp2_with fail
            go_ret
            exact ⟨rfl, hxr.out⟩
  · obtain ⟨cd, hcd1⟩ : ∃ cd, (allF S).1 = cd := ⟨_, rfl⟩
    obtain ⟨pl, hpl⟩ : ∃ pl, (allF S).2.1 = pl := ⟨_, rfl⟩
    rw [hcd1] at hcd
    obtain ⟨hb2, v, ws, rfl, hf⟩ := h2.no (cd := cd) (pl := pl) (us := (allF S).2.2) (by rw [← hcd1, ← hpl]) hcd
    have hx2 := Lib.hid (hx1.out.trans (hb2.mono hx1.out.size))
    have hf' := Lib.hid hf
    have i1 : (cd != 0) = true := by rw [bne_iff_ne]; exact hcd
    obtain ⟨T, ad, rfl⟩ := hf.iface
    clear hb2 h2 hcd hcd1 hpl hf
    go_wp2_with fail
    refine (Code_any cd pl ws _ w.heap.size w2 (hE.on hx2.out) hf'.out).mono ?_
    rintro e w3 ⟨rfl, hb3⟩
    have hx3 := Lib.hid (hx2.out.trans (hb3.mono hx2.out.size))
    clear hb3
    go_wp2_with fail
    go_ret
    exact ⟨rfl, hx3.out⟩
end Go.Proofs.YthiikldjngamaaaDoor.Qx
