/- The document's flags: the walk. -/
import Derived.Test.YtppmnelgekhbnaaGreatDoorIvFl
namespace Go.Proofs.YtppmnelgekhbnaaGreatDoor.IvW
open Go.RowKit Iv

set_option maxHeartbeats 1000000 in
set_option maxRecDepth 100000 in
theorem flags_any (A : Option Addr) (n c : Nat) (l : List Span) (w : World) (hR : Rp w A n c l) :
    Calls Tryz.prog 22 #[.slice A n c] w fun e w' => e = .returned (.tuple #[.agg (fl fun i => okB 1 l && mem l i), .bool (okB 1 l)]) ∧ Below w.heap.size w w' := by
  have hle := hR.le
  have hm := hR.max
  have hlen := hR.len
  have z0 := fl_zero
  have b0 := below_alloc w (.cells (fl fun _ => false) 43)
  have f0 := fb_new w (fun _ => false)
  obtain ⟨w0, hw0⟩ : ∃ w0, w.alloc (.cells (fl fun _ => false) 43) = w0 := ⟨_, rfl⟩
  rw [hw0] at b0 f0
  have hs0 : w0.heap.size = w.heap.size + 1 := by rw [← hw0]; simp
  have b1 := below_alloc w0 (.cells (fl fun _ => false) 43)
  have f1 := fb_new w0 (fun _ => false)
  have f0' := f0.below b1
  rw [hs0] at f1
  obtain ⟨w1, hw1⟩ : ∃ w1, w0.alloc (.cells (fl fun _ => false) 43) = w1 := ⟨_, rfl⟩
  rw [hw1] at b1 f1 f0'
  have hx1 := Lib.hid (b0.trans (b1.mono b0.size))
  have hR1 := hR.below (hx1.out)
  have c1 := refmay_any A n c l w1 hR1
  have c2 := c1
  have hRw := Lib.hid hR
  have hf1 := Lib.hid f1
  have hf0 := Lib.hid f0'
  have hR1' := Lib.hid hR1
  clear b0 b1 f0 f0' f1 hR1 hR
  clear c1
  cases hok : okB 1 l
  · rw [hok] at c2
    go_enter Tryz.func22, Tryz.ntmps22
    go_wp2_with (go_at_call 8; refine c2.mono ?_; rintro e w' ⟨rfl, k, rfl⟩)
    refine wp_load_row 43 (.tmp 4) rfl (w.heap.size + 1) rfl _ (fl fun _ => false) _ _ (hf1.out.below (Joins.below_draws _ _ k)) Tryz.underlying43 rfl (info_set _) ?_
    have st := st_fl (hf0.out.below (Joins.below_draws _ _ k)) (fun _ => false)
    have fs := fl_size
    have hB2 := Lib.hid (below_row (hx1.out.trans ((Joins.below_draws _ w1 k).mono hx1.out.size)) (hf0.out.below (Joins.below_draws _ _ k)) (Nat.le_refl _) (fl fun _ => false))
    have hf2 := Lib.hid (fb_row (hf0.out.below (Joins.below_draws _ _ k)) (fun _ => false))
    obtain ⟨w2, hw2⟩ : ∃ w2, (w1.drewN k).setRow w.heap.size (fl fun _ => false) = w2 := ⟨_, rfl⟩
    rw [hw2] at hB2 hf2 st
    go_wp2_with fail
    refine bodyPost_ret (res_fl rfl hf2.out rfl rfl) rfl ?_
    exact ⟨rfl, hB2.out⟩
  · rw [hok] at c2
    have hfin : (fun i : Nat => true && mem l i) = fun i : Nat => mem l i := by funext i; simp
    rw [hfin]
    clear hfin
    have hokS := Lib.hid hok
    clear hok
    go_enter Tryz.func22, Tryz.ntmps22
    go_wp2_with (go_at_call 8; refine c2.mono ?_; rintro e w' ⟨rfl, k, rfl⟩)
    have hf10 := hf1.out.below (Joins.below_draws _ _ k)
    have hf00 := hf0.out.below (Joins.below_draws _ _ k)
    have hx2 := hx1.out.trans ((Joins.below_draws _ w1 k).mono hx1.out.size)
    generalize w1.drewN k = w2 at *
    go_loopw [5] (fun i wr => ∃ k : Nat, k ≤ n ∧ i = .int .i64 k ∧ Fb wr (w.heap.size + 1) (fun x => mem (l.take k) x) ∧ Fb wr w.heap.size (fun _ => false) ∧ Below w.heap.size w wr) (fun i _ => n - (intOf i).toNat)
    case atStart => exact ⟨0, by omega, rfl, hf10, hf00, hx2⟩
    case round =>
      clear hf10 hf00 hx2 hw0 hw1
      obtain ⟨k, hk, rfl, hfa, hfb, hbw⟩ := hrel
      by_cases hlt : k < n
      · obtain ⟨b', off, ⟨f, t⟩, rfl, hb, hp, hc1, hc2⟩ := (hRw.out.below hbw).at_ hlt
        obtain ⟨o1, o2, o3⟩ := ok_get hokS.out hp
        simp only at hc1 hc2 o1 o2 o3
        obtain ⟨f, rfl⟩ : ∃ j : Nat, f = j := ⟨f.toNat, by omega⟩
        obtain ⟨t, rfl⟩ : ∃ j : Nat, t = j := ⟨t.toNat, by omega⟩
        have hfm : Fb wr (w.heap.size + 1) (fun x => mem (l.take k) x || (decide (f ≤ x) && decide (x < f))) := by
          have e : (fun x : Nat => mem (l.take k) x || (decide (f ≤ x) && decide (x < f))) = fun x : Nat => mem (l.take k) x := by
            funext x
            have : (decide (f ≤ x) && decide (x < f)) = false := by simp
            rw [this, Bool.or_false]
          rw [e]; exact hfa
        have hend : (fun x : Nat => mem (l.take k) x || (decide (f ≤ x) && decide (x < t + 1))) = fun x : Nat => mem (l.take (k + 1)) x := by
          funext x
          rw [take_snoc hp, mem_append, mem_cons, mem_nil, Bool.or_false]
          congr 1
          rw [Bool.eq_iff_iff]
          simp
          omega
        have hend' := Lib.hid hend
        clear hfa hend
        go_wp2_with fail
        go_loopw [6] (fun v wq => ∃ v' : Nat, f ≤ v' ∧ v' ≤ t + 1 ∧ v = .int .i64 v' ∧ Fb wq (w.heap.size + 1) (fun x => mem (l.take k) x || (decide (f ≤ x) && decide (x < v'))) ∧ Fb wq w.heap.size (fun _ => false) ∧ Below w.heap.size w wq) (fun v _ => t + 1 - (intOf v).toNat)
        case atStart => exact ⟨f, by omega, by omega, rfl, hfm, hfb, hbw⟩
        case round =>
          clear hfm hfb hbw
          obtain ⟨v', hv1, hv2, rfl, hfa, hfb, hbw⟩ := hrel
          obtain ⟨b2, off2, p2, e2, hb2, hp2, hc3, hc4⟩ := (hRw.out.below hbw).at_ hlt
          injection e2 with e2
          injection e2 with e3 e4
          subst e3 e4
          rw [hp] at hp2
          injection hp2 with hp2
          subst hp2
          simp only at hc3 hc4
          by_cases hvt : v' ≤ t
          · have t1 : decide ((v' : Int) ≤ (t : Int)) = true := by simp; omega
            have t2 : v' < 201 := by omega
            have hfz := hfa.frozen v'
            have hcv := hfa.cell t2
            have hne : w.heap.size + 1 ≠ w.heap.size := by omega
            have hfa2 := Lib.hid (hfa.set v' true)
            have hfb2 := Lib.hid (hfb.other (b' := w.heap.size + 1) (i := v') hne (.bool true))
            have hbw2 := Lib.hid (below_set (i := v') hbw (show w.heap.size ≤ w.heap.size + 1 by omega) (.bool true))
            have hstep : (fun x : Nat => if x = v' then true else mem (l.take k) x || (decide (f ≤ x) && decide (x < v'))) = fun x : Nat => mem (l.take k) x || (decide (f ≤ x) && decide (x < v' + 1)) := by
              funext x
              by_cases hx : x = v'
              · subst hx
                have e1 : (decide (f ≤ x) && decide (x < x + 1)) = true := by simp; omega
                rw [e1]
                simp
              · rw [if_neg hx]
                congr 2
                rw [Bool.eq_iff_iff]
                simp
                omega
            have hstep' := Lib.hid hstep
            clear hfa hfb hbw hstep
            go_wp2_with fail
            go_roundw
            case rel => exact ⟨v' + 1, by omega, by omega, by go_num, by rw [← hstep'.out]; exact hfa2.out, hfb2.out, hbw2.out⟩
            case measure => simp [intOf]; omega
          · have t1 : decide ((v' : Int) ≤ (t : Int)) = false := by simp; omega
            obtain rfl : v' = t + 1 := by omega
            have hfa' := hfa
            rw [hend'.out] at hfa'
            have hfa2 := Lib.hid hfa'
            have hfb2 := Lib.hid hfb
            have hbw2 := Lib.hid hbw
            clear hfa hfa' hfb hbw
            go_wp2_with fail
            go_roundw
            case rel => exact ⟨k + 1, by omega, by go_num, hfa2.out, hfb2.out, hbw2.out⟩
            case measure => simp [intOf]; omega
      · obtain rfl : k = n := by omega
        rw [List.take_of_length_le (by omega)] at hfa
        go_wp2_with fail
        refine wp_load_row 43 (.tmp 4) rfl (w.heap.size + 1) rfl _ (fl fun i => mem l i) _ _ hfa Tryz.underlying43 rfl (info_set _) ?_
        have st := st_fl hfb (fun i => mem l i)
        have fs := fl_size
        have hB2 := Lib.hid (below_row hbw hfb (Nat.le_refl _) (fl fun i => mem l i))
        have hf2 := Lib.hid (fb_row hfb (fun i => mem l i))
        obtain ⟨w3, hw3⟩ : ∃ w3, wr.setRow w.heap.size (fl fun i => mem l i) = w3 := ⟨_, rfl⟩
        rw [hw3] at hB2 hf2 st
        clear hfa hfb
        go_wp2_with fail
        refine bodyPost_ret (res_fl rfl hf2.out rfl rfl) rfl ?_
        exact ⟨rfl, hB2.out⟩
end Go.Proofs.YtppmnelgekhbnaaGreatDoor.IvW
