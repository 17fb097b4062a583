/- A step of the document's disk. -/
import Derived.Test.YtjhiihmibleecaaGreatDoorDkRj
import Derived.Test.YtjhiihmibleecaaGreatDoorDkRa
namespace Go.Proofs.YtjhiihmibleecaaGreatDoor.Dk
open Go.RowKit

theorem op_norm (d : D) (x : Dx) (K : Nat) (hK : 1 ≤ K ∧ K ≤ 6) (hk : x.kind = (K : Int)) : op d K x.nm x.to_ x.n x.bytes = actX d x := by
  unfold actX
  have hc : K = 1 ∨ K = 2 ∨ K = 3 ∨ K = 4 ∨ K = 5 ∨ K = 6 := by omega
  rcases hc with rfl | rfl | rfl | rfl | rfl | rfl <;> simp [hk, op, refuse, act, part]

set_option maxHeartbeats 2000000 in
set_option maxRecDepth 100000 in
theorem same_any (w : World) (B rb : Nat) (lv tv : Value) (d : D) (h : Ra w B rb lv tv d) (hG : Good d 1000 1000 1000000) (hroom : d.room ≤ 9223372036854775807) (vs : List Value) (x : Dx) (hx : ∀ w', Below B w w' → DoEl w' vs x) (hm : Dm x) :
    Calls Tryz.prog 10 #[.pointer (some ⟨rb, 0, none⟩), .agg vs.toArray] w fun e w' => e = .returned (.int .i64 (actX d x).1) ∧ Rs B rb (actX d x).2 w w' := by
  obtain ⟨s, s2, Ab, nb, cb, At, nt, ct, Al, nl, cl, rfl, hnm, hto, hbs, hrd, hsq⟩ := hx w (Below.refl _ _)
  have hB : B ≤ w.heap.size := by have := h.base; have := h.lt; omega
  have hba := below_alloc w (.cells #[.int .i64 x.kind, .string s, .string s2, .int .i64 x.n, .slice Ab nb cb, .slice At nt ct, .slice Al nl cl] 39)
  have hnew := heap_alloc_new w (.cells #[.int .i64 x.kind, .string s, .string s2, .int .i64 x.n, .slice Ab nb cb, .slice At nt ct, .slice Al nl cl] 39)
  obtain ⟨T, hT⟩ : ∃ T, w.heap.size = T := ⟨_, rfl⟩
  obtain ⟨w2, hw2⟩ : ∃ w2, w.alloc (.cells #[.int .i64 x.kind, .string s, .string s2, .int .i64 x.n, .slice Ab nb cb, .slice At nt ct, .slice Al nl cl] 39) = w2 := ⟨_, rfl⟩
  rw [hw2] at hba hnew
  have hR := h.below hba
  have hon := Lib.hid (hba.mono hB)
  have hrm := Lib.hid (Rm.below hba)
  rw [hT] at hnew
  have hss : s.size ≤ 1000 := by have := hm.nm; rw [hnm, Array.length_toList] at this; exact this
  have hss2 : s2.size ≤ 1000 := by have := hm.to_; rw [hto, Array.length_toList] at this; exact this
  have hbl : nb ≤ 2000 := by have := hm.bytes; rw [hbs.len] at this; exact this
  have hnl : nl ≤ 200 := by have := hm.list; rw [hsq.len] at this; exact this
  have hsq2 := hsq.below (w' := w2) (fun _ _ h => h) hba
  have hB2 : ∀ w', Below B w2 w' → Bs w' Ab nb cb x.bytes := fun w' hb => by
    obtain ⟨s', s2', Ab', nb', cb', At', nt', ct', Al', nl', cl', e, _, _, hr, _, _⟩ := hx w' ((hba.mono hB).trans hb)
    injection e with _ e
    injection e with _ e
    injection e with _ e
    injection e with _ e
    injection e with e _
    injection e with e1 e2 e3
    subst e1; subst e2; subst e3
    exact hr
  have hT2 : ∀ w', Below B w2 w' → Rd w' At nt ct (x.tails.map (Value.int .i64)) := fun w' hb => by
    obtain ⟨s', s2', Ab', nb', cb', At', nt', ct', Al', nl', cl', e, _, _, _, hr, _⟩ := hx w' ((hba.mono hB).trans hb)
    injection e with _ e
    injection e with _ e
    injection e with _ e
    injection e with _ e
    injection e with _ e
    injection e with e _
    injection e with e1 e2 e3
    subst e1; subst e2; subst e3
    exact hr
  have k0 : w2.cell? ⟨T, 0, none⟩ = some (.int .i64 x.kind) := cell_blk hnew rfl
  have k1 : w2.cell? ⟨T, 1, none⟩ = some (.string s) := cell_blk hnew rfl
  have k2 : w2.cell? ⟨T, 2, none⟩ = some (.string s2) := cell_blk hnew rfl
  have k3 : w2.cell? ⟨T, 3, none⟩ = some (.int .i64 x.n) := cell_blk hnew rfl
  have k4 : w2.cell? ⟨T, 4, none⟩ = some (.slice Ab nb cb) := cell_blk hnew rfl
  have k5 : w2.cell? ⟨T, 5, none⟩ = some (.slice At nt ct) := cell_blk hnew rfl
  have k6 : w2.cell? ⟨T, 6, none⟩ = some (.slice Al nl cl) := cell_blk hnew rfl
  have hnew' := Lib.hid hnew
  have hR' := Lib.hid hR
  have hG' := Lib.hid hG
  have hB2' := Lib.hid hB2
  have hT2' := Lib.hid hT2
  have hsq2' := Lib.hid hsq2
  have hnm' := Lib.hid hnm
  have hto' := Lib.hid hto
  obtain ⟨X, hX⟩ : ∃ X, actX d x = X := ⟨_, rfl⟩
  rw [hX]
  have hX' := Lib.hid hX
  clear h hG hx hm hnm hto hbs hrd hsq hba hnew hR hsq2 hT2 hB2 hX
  by_cases e1 : 1 ≤ x.kind
  · have j1 : decide (x.kind ≥ 1) = true := by rw [decide_eq_true_eq]; exact e1
    have j1' : decide (1 ≤ x.kind) = true := j1
    by_cases e6 : x.kind ≤ 6
    · have j6 : decide (x.kind ≤ 6) = true := by rw [decide_eq_true_eq]; exact e6
      obtain ⟨K, hK⟩ : ∃ K : Nat, x.kind = K := ⟨x.kind.toNat, by omega⟩
      have hdo : Hid (Calls Tryz.prog 36 #[.pointer (some ⟨rb, 0, none⟩), .int .i64 x.kind, .string s, .string s2, .int .i64 x.n, .slice Ab nb cb] w2 fun e w' => e = .returned (.int .i64 X.1) ∧ Rs B rb X.2 w2 w') := Lib.hid (by
        have h9 := rDo_any w2 B rb lv tv d hR'.out hG'.out hroom K (by omega) s s2 hss hss2 x.n Ab nb cb x.bytes hB2'.out hbl
        rw [← hnm'.out, ← hto'.out, op_norm d x K (by omega) hK, hX'.out, ← hK] at h9
        exact h9)
      clear hK e1 e6
      go_enter Tryz.func10, Tryz.ntmps10
      go_wp2_with fail
      refine hdo.out.mono ?_
      rintro e w3 ⟨rfl, hrs⟩
      have hrs' := Lib.hid (hrs.on hon.out hrm.out)
      clear hrs
      go_wp2_with fail
      go_ret
      exact ⟨rfl, hrs'.out⟩
    · have j6 : decide (x.kind ≤ 6) = false := by rw [decide_eq_false_iff_not]; exact e6
      by_cases e7 : x.kind = 7
      · have j7 : (x.kind == 7) = true := by rw [beq_iff_eq]; exact e7
        have j8 : (x.kind == 8) = false := by rw [beq_eq_false_iff_ne]; omega
        have hX2 : Hid (X = (0, crash d x.tails)) := Lib.hid (by rw [← hX'.out]; unfold actX; simp [e7])
        have hcr := Lib.hid (rCrash_any w2 B rb lv tv d hR'.out hG'.out.inv.up (by have := hG'.out.inv.most; omega) (fun p hp => (hG'.out.fl (by omega) p hp).2) At nt ct x.tails hT2'.out)
        clear e1 e6 e7
        go_enter Tryz.func10, Tryz.ntmps10
        go_wp2_with fail
        refine hcr.out.mono ?_
        rintro e w3 ⟨rfl, hrs⟩
        have hrs' := Lib.hid (hrs.on hon.out hrm.out)
        have k0' : w3.cell? ⟨T, 0, none⟩ = some (.int .i64 x.kind) := cell_blk (hrs.2.1 T _ hnew'.out (fun cs fr e => by injection e with _ e _; exact absurd e (by decide)) (fun cs fr e => by injection e with _ e _; exact absurd e (by decide))) rfl
        clear hrs
        go_wp2_with fail
        go_ret
        rw [hX2.out]
        exact ⟨rfl, hrs'.out⟩
      · have j7 : (x.kind == 7) = false := by rw [beq_eq_false_iff_ne]; exact e7
        by_cases e8 : x.kind = 8
        · have j8 : (x.kind == 8) = true := by rw [beq_iff_eq]; exact e8
          have hX2 : Hid (X = (0, arm d x.list)) := Lib.hid (by rw [← hX'.out]; unfold actX; simp [e8])
          have har := Lib.hid (rArm_any w2 B rb lv tv d hR'.out Al nl cl x.list hsq2'.out (by omega))
          clear e1 e6 e7 e8
          go_enter Tryz.func10, Tryz.ntmps10
          go_wp2_with fail
          refine har.out.mono ?_
          rintro e w3 ⟨rfl, hrs⟩
          have hrs' := Lib.hid (hrs.on hon.out hrm.out)
          clear hrs
          go_wp2_with fail
          go_ret
          rw [hX2.out]
          exact ⟨rfl, hrs'.out⟩
        · have j8 : (x.kind == 8) = false := by rw [beq_eq_false_iff_ne]; exact e8
          have hX2 : Hid (X = (0, d)) := Lib.hid (by
            rw [← hX'.out]
            unfold actX
            rw [if_neg (by omega), if_neg (by omega), if_neg (by omega), if_neg (by omega), if_neg (by omega), if_neg (by omega), if_neg e7, if_neg e8])
          have hrs' := Lib.hid ((Rs.refl hR'.out).on hon.out hrm.out)
          clear e1 e6 e7 e8
          go_enter Tryz.func10, Tryz.ntmps10
          go_wp2_with fail
          go_ret
          rw [hX2.out]
          exact ⟨rfl, hrs'.out⟩
  · have j1 : decide (x.kind ≥ 1) = false := by rw [decide_eq_false_iff_not]; exact e1
    have j1' : decide (1 ≤ x.kind) = false := j1
    have j7 : (x.kind == 7) = false := by rw [beq_eq_false_iff_ne]; omega
    have j8 : (x.kind == 8) = false := by rw [beq_eq_false_iff_ne]; omega
    have hX2 : Hid (X = (0, d)) := Lib.hid (by
      rw [← hX'.out]
      unfold actX
      rw [if_neg (by omega), if_neg (by omega), if_neg (by omega), if_neg (by omega), if_neg (by omega), if_neg (by omega), if_neg (by omega), if_neg (by omega)])
    have hrs' := Lib.hid ((Rs.refl hR'.out).on hon.out hrm.out)
    clear e1
    go_enter Tryz.func10, Tryz.ntmps10
    go_wp2_with fail
    go_ret
    rw [hX2.out]
    exact ⟨rfl, hrs'.out⟩
end Go.Proofs.YtjhiihmibleecaaGreatDoor.Dk
