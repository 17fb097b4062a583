/- The number of a segment's name: the walk, and the plain law (printed by wip/gen/sg_num.py). -/
import Derived.Test.YtfdpnjebhllpkaaGreatDoorMSgFail
namespace Go.Proofs.YtfdpnjebhllpkaaGreatDoor.Ma
open Go.RowKit Go.Shelf Go.Lib

/-- What the code tells of a name. -/
def segC (l : List UInt8) : Int × Bool :=
  match atoiAll (l.drop 4) with
  | .ok n => if l.take 4 = seg4 ∧ okN n = true ∧ nameOf seg4 n = l then (n, true) else (0, false)
  | _ => (0, false)

theorem numR_of_name {n : Int} (h : okN n = true) : numR (nameOf seg4 n) = (n, true) := by
  obtain ⟨k, rfl, h1, h2⟩ := okN_nat h
  have e : nameOf seg4 k = seg4 ++ Nu.eight k := by unfold nameOf; rw [h, if_pos rfl]; rfl
  have hl := Nu.eight_len k
  have hd : (seg4 ++ Nu.eight k).drop 4 = Nu.eight k := rfl
  unfold numR
  rw [e, if_pos ⟨by rw [List.length_append, hl]; rfl, rfl⟩, hd, Nu.eight, dec_digits 8 k 0 (by omega)]
  simp
  omega

/-- THE LAW OF Number. -/
theorem seg_eq (l : List UInt8) : segC l = numR l := by
  have back : ∀ n, okN n = true → nameOf seg4 n = l → numR l = (n, true) := fun n h1 h2 => by rw [← h2]; exact numR_of_name h1
  by_cases hr : (numR l).2 = true
  · -- the document tells a number
    have hr2 := hr
    unfold numR at hr2
    split at hr2
    · rename_i h
      cases hd : decFrom 0 (l.drop 4) with
      | none => rw [hd] at hr2; cases hr2
      | some v =>
        rw [hd] at hr2
        simp only [decide_eq_true_eq] at hr2
        have hl8 : (l.drop 4).length = 8 := by rw [List.length_drop]; omega
        have hdig := digits_dec 8 v (l.drop 4) hl8 hd
        have hv := decFrom_lt (l.drop 4) 0 v hd
        rw [hl8] at hv
        have hv2 : v ≤ 99999999 := by simp at hv; omega
        have hok : okN (v : Int) = true := by unfold okN; rw [decide_eq_true_eq]; omega
        have hname : nameOf seg4 (v : Int) = l := by
          unfold nameOf
          rw [hok, if_pos rfl, Int.toNat_natCast, ← h.2, show Nu.eight v = l.drop 4 from hdig.symm, List.take_append_drop]
        rw [back v hok hname]
        unfold segC
        rw [show l.drop 4 = Nu.eight v from hdig, atoi_eight hv2]
        simp only
        rw [if_pos ⟨h.2, hok, hname⟩]
    · cases hr2
  · have hz : numR l = (0, false) := by
      unfold numR at hr ⊢
      split
      · rename_i h
        rw [if_pos h] at hr
        cases hd : decFrom 0 (l.drop 4) with
        | none => rfl
        | some v =>
          rw [hd] at hr
          simp only [decide_eq_true_eq] at hr
          obtain rfl : v = 0 := by omega
          rfl
      · rfl
    rw [hz]
    unfold segC
    generalize ha : atoiAll (l.drop 4) = R
    rcases R with n | _ | _
    case ok =>
      simp only
      rw [if_neg]
      rintro ⟨_, h2, h3⟩
      rw [back n h2 h3] at hz
      cases hz
    all_goals rfl
theorem hasPrefix_seg (r : List UInt8) : Lib.hasPrefix r seg4 = decide (r.take 4 = seg4) := by
  unfold Lib.hasPrefix
  rw [Bool.eq_iff_iff, decide_eq_true_eq]
  rw [List.isPrefixOf_iff_prefix, List.prefix_iff_eq_take]
  exact eq_comm

theorem trimPrefix_seg {r : List UInt8} (h : r.take 4 = seg4) : Lib.trimPrefix r seg4 = r.drop 4 := by
  unfold Lib.trimPrefix
  rw [hasPrefix_seg, decide_eq_true h, if_pos rfl]
  rfl

set_option maxHeartbeats 1000000 in
set_option maxRecDepth 100000 in
/-- seg.Number. -/
theorem segNum_any (s : ByteArray) (hs : s.size ≤ 1000) (w : World) (hT : Nu.Tens w) (hE : Ev w) :
    Calls Tryz.prog 15 #[.string s] w fun e w' => e = genV (segC s.data.toList) ∧ Below w.heap.size w w' := by
  have HL : s.data.toList.length = s.size := by rw [Array.length_toList]; rfl
  obtain ⟨R, hR⟩ : ∃ R, segC s.data.toList = R := ⟨_, rfl⟩
  rw [hR]
  have hR2 := hR
  unfold segC at hR2
  have hR' := Lib.hid hR2
  clear hR hR2
  have c1 := cutPrefix_any s ⟨#[115, 101, 103, 46]⟩ w
  have e1 : Lib.hasPrefix s.data.toList (⟨#[115, 101, 103, 46]⟩ : ByteArray).data.toList = decide (s.data.toList.take 4 = seg4) := hasPrefix_seg _
  rw [e1] at c1
  have e2 : (strOf (Lib.trimPrefix s.data.toList (⟨#[115, 101, 103, 46]⟩ : ByteArray).data.toList)).size ≤ 1000 := by
    rw [strOf_size']
    have := trim_size s.data.toList (⟨#[115, 101, 103, 46]⟩ : ByteArray).data.toList
    omega
  obtain ⟨T, hT1⟩ : ∃ T, strOf (Lib.trimPrefix s.data.toList (⟨#[115, 101, 103, 46]⟩ : ByteArray).data.toList) = T := ⟨_, rfl⟩
  have hTd : s.data.toList.take 4 = seg4 → T.data.toList = s.data.toList.drop 4 := fun h => by
    rw [← hT1]
    exact trimPrefix_seg h
  rw [hT1] at c1 e2
  have hTd' := Lib.hid hTd
  have c2 := atoi_any T (by omega) w hE
  clear e1 hT1 hTd HL
  by_cases hp : s.data.toList.take 4 = seg4
  case neg =>
    rw [decide_eq_false hp] at c1
    have hno : R = (0, false) := by
      rw [← hR'.out]
      split
      · rw [if_neg (fun h => hp h.1)]
      · rfl
    subst hno
    clear hp
    go_enter Tryz.func15, Tryz.ntmps15
    go_wp2_with fail
    refine c1.mono ?_
    rintro e w1 ⟨rfl, rfl⟩
    go_wp2_with fail
    refine c2.mono ?_
    rintro e w2 ⟨n, er, rfl, _, _, hb2⟩
    have hx2 := Lib.hid hb2
    clear hb2 c1 c2
    go_wp2_with fail
    go_ret2
    exact ⟨rfl, hx2.out⟩
  case pos =>
    rw [decide_eq_true hp] at c1
    have hTl := hTd'.out hp
    have hp' := Lib.hid hp
    have hTl' := Lib.hid hTl
    clear hp hTl
    go_enter Tryz.func15, Tryz.ntmps15
    go_wp2_with fail
    refine c1.mono ?_
    rintro e w1 ⟨rfl, rfl⟩
    go_wp2_with fail
    refine c2.mono ?_
    rintro e w2 ⟨n, er, rfl, hor, ⟨n0, n1⟩, hb2⟩
    have hx2 := Lib.hid hb2
    clear hb2 c1 c2
    rcases hor with ⟨rfl, hok⟩ | ⟨⟨t, ad, rfl⟩, hnot⟩
    · rw [hTl'.out] at hok
      have hRn : R = if okN n = true ∧ nameOf seg4 n = s.data.toList then (n, true) else (0, false) := by
        rw [← hR'.out, hok]
        simp only
        by_cases hq : okN n = true ∧ nameOf seg4 n = s.data.toList
        · rw [if_pos ⟨hp'.out, hq⟩, if_pos hq]
        · rw [if_neg (fun h => hq h.2), if_neg hq]
      have hRn' := Lib.hid hRn
      have hN := segName_any n
      obtain ⟨S, hS⟩ : ∃ S, strOf (nameOf [115, 101, 103, 46] n) = S := ⟨_, rfl⟩
      rw [hS] at hN
      have hS' := Lib.hid hS
      clear hok hRn hS
      go_wp2_with fail
      refine (segmay_any n w2).mono ?_
      rintro e w3 ⟨rfl, rfl⟩
      have hx3 := hx2
      cases hkn : okN n
      · have hno : R = (0, false) := by rw [hRn'.out, hkn, if_neg (by simp)]
        subst hno
        go_wp2_with fail
        go_ret2
        exact ⟨rfl, hx3.out⟩
      · go_wp2_with fail
        refine (hN w3 (hT.below hx3.out)).mono ?_
        rintro e w4 ⟨rfl, hb4⟩
        have hx4 := Lib.hid (hx3.out.trans (hb4.mono hx3.out.size))
        clear hb4 hN
        by_cases hsn : S = s
        · have hyes : R = (n, true) := by
            rw [hRn'.out, if_pos ⟨hkn, by
              have := hS'.out.trans hsn
              have := congrArg (fun x : ByteArray => x.data.toList) this
              exact this⟩]
          subst hyes
          go_wp2_with fail
          go_ret2
          exact ⟨rfl, hx4.out⟩
        · have hno : R = (0, false) := by
            rw [hRn'.out, if_neg]
            rintro ⟨_, h2⟩
            apply hsn
            rw [← hS'.out]
            exact congrArg strOf h2
          subst hno
          have hsd : (S.toList == s.toList) = false := by rw [str_beq]; simp [hsn]
          go_wp2_with fail
          go_ret2
          exact ⟨rfl, hx4.out⟩
    · have hno : R = (0, false) := by
        rw [← hR'.out]
        split
        · rename_i m hm
          exact absurd (by rw [hTl'.out]; exact hm) (hnot m)
        · rfl
      subst hno
      clear hnot
      go_wp2_with fail
      go_ret2
      exact ⟨rfl, hx2.out⟩

/-- The document's Name. -/
theorem refSegName_any (n : Int) (w : World) :
    Calls Tryz.prog 18 #[.int .i64 n] w fun e w' => e = .returned (.string (strOf (nameOf seg4 n))) ∧ Below w.heap.size w w' := by
  cases hok : okN n
  · have hno : nameOf seg4 n = [] := by unfold nameOf; rw [hok, if_neg (by simp)]
    rw [hno]
    go_enter Tryz.func18, Tryz.ntmps18
    go_wp2_with fail
    refine (may7_any n w).mono ?_
    rintro e w1 ⟨rfl, rfl⟩
    rw [hok]
    go_wp2_with fail
    go_ret
    exact ⟨rfl, Below.refl _ _⟩
  · obtain ⟨k, rfl, h1, h2⟩ := okN_nat hok
    have hadd := fun w => run_string_add_sum (P := Tryz.prog) w ⟨#[115, 101, 103, 46]⟩ (strOf (Nu.eight k)) (by rw [strOf_size', Nu.eight_len]; decide)
    have hsum : (⟨#[115, 101, 103, 46]⟩ ++ strOf (Nu.eight k) : ByteArray) = strOf (nameOf seg4 k) := by
      unfold nameOf
      rw [hok, if_pos rfl, ← strOf_add]
      rfl
    rw [hsum] at hadd
    have c1 := eight_any k h2 w
    obtain ⟨X, hX⟩ : ∃ X, strOf (Nu.eight k) = X := ⟨_, rfl⟩
    obtain ⟨Y, hY⟩ : ∃ Y, strOf (nameOf seg4 k) = Y := ⟨_, rfl⟩
    rw [hX, hY] at hadd
    rw [hX] at c1
    rw [hY]
    clear hsum hX hY
    go_enter Tryz.func18, Tryz.ntmps18
    go_wp2_with fail
    refine (may7_any k w).mono ?_
    rintro e w1 ⟨rfl, rfl⟩
    rw [hok]
    go_wp2_with fail
    refine c1.mono ?_
    rintro e w2 ⟨rfl, hb⟩
    have hx := Lib.hid hb
    clear hb c1
    go_wp2_with fail
    go_ret
    exact ⟨rfl, hx.out⟩
end Go.Proofs.YtfdpnjebhllpkaaGreatDoor.Ma
