/- The law KeysFrontiers. Printed by gen/ky_lawf.py. -/
import Derived.Test.YtjofkodncplhaaaGreatDoorMKyAwake
import Derived.Test.YtjofkodncplhaaaGreatDoorMKyRm
import Derived.Test.YtjofkodncplhaaaGreatDoorMKyRs
import Derived.Test.YtjofkodncplhaaaGreatDoorMKyFin
import Derived.Test.YtjofkodncplhaaaGreatDoorMPlan2
namespace Go.Proofs.YtjofkodncplhaaaGreatDoor.Ky
open Go.RowKit UtfW Er

theorem wrap_nat' (n : Nat) (h : n < 9223372036854775808) : IntKind.i64.wrap (n : Int) = (n : Int) := by
  have e : (n : Int) % 2 ^ 64 = n := Int.emod_eq_of_lt (by omega) (by omega)
  simp only [IntKind.wrap, IntKind.bits, IntKind.signed, e]
  rw [if_neg]
  simp
  omega
/-- Does a rule stand just above another path? -/
def upB (p : List Tx) (x : Rl) : Bool := decide (x.1.length = p.length + 1 ∧ x.1.take p.length = p)
theorem up_snoc (l : List Rl) (x : Rl) (p : List Tx) : (l ++ [x]).any (upB p) = (l.any (upB p) || upB p x) := by simp
theorem front_up {l : List Rl} (h : mayB nameR l = true) {r : Rl} (hr : r ∈ l) : frontB l r.1 = !(l.any (upB r.1)) := front (nm := nameR) h hr

set_option maxHeartbeats 4000000 in
set_option maxRecDepth 100000 in
theorem fronts_any (A : Option Addr) (n c : Nat) (l : List Rl) (Ap : Option Addr) (np cp : Nat) (path : List Tx) (W : World) (h : Rs W A n c l) (hB : Big l) (hp : Ts W Ap np cp path) (hU : Ut W) (hE : En W.heap.size W) :
    Calls Tryz.prog 3 #[.slice A n c, .slice Ap np cp] W fun e w' => e = .returned (.bool true) ∧ Below W.heap.size W w' := by
  have haw := awake_any W hU hE
  have h' := Lib.hid h
  have hp' := Lib.hid hp
  have hB' := Lib.hid hB
  have hl := Lib.hid h.len
  have hm := h.max
  have hle := h.le
  clear h hB hp
  go_enter Tryz.func3, Tryz.ntmps3
  go_wp2_with fail
  refine haw.mono ?_
  rintro e w1 ⟨rfl, hb1⟩
  have hx1 := Lib.hid hb1
  clear hb1 haw
  go_wp2_with fail
  refine (refSmall_any A n c l w1 (h'.out.below hx1.out) hB'.out).mono ?_
  rintro e w2 ⟨V, rfl, hV, hb2⟩
  have hx2 := Lib.hid (hx1.out.trans (hb2.mono hx1.out.size))
  have hV' := Lib.hid hV
  clear hb2 hV
  cases V with
  | false =>
    go_wp2_with fail
    go_ret
    exact ⟨rfl, hx2.out⟩
  | true =>
    have hw' := Lib.hid (hV'.out rfl)
    have hsm := Lib.hid (small_of (show wts l ≤ 3000 by have := hw'.out; omega))
    have hma := refMay_any A n c l w2 (h'.out.below hx2.out) (fun r hr => smr_mono (hsm.out r hr) (by decide))
    clear hV'
    cases hmb : mayB nameR l with
    | false =>
      rw [hmb] at hma
      clear hmb
      go_wp2_with fail
      refine hma.mono ?_
      rintro e w3 ⟨rfl, hb3⟩
      have hx3 := Lib.hid (hx2.out.trans (hb3.mono hx2.out.size))
      clear hb3 hma
      go_wp2_with fail
      go_ret
      exact ⟨rfl, hx3.out⟩
    | true =>
      rw [hmb] at hma
      have hmb' := Lib.hid hmb
      clear hmb
      by_cases hbig : 100 < np
      · have j1 : decide ((np : Int) > 100) = true := by rw [decide_eq_true_eq]; omega
        have j2 : decide (100 < np) = true := by rw [decide_eq_true_eq]; omega
        clear hbig
        go_wp2_with fail
        refine hma.mono ?_
        rintro e w3 ⟨rfl, hb3⟩
        have hx3 := Lib.hid (hx2.out.trans (hb3.mono hx2.out.size))
        clear hb3 hma
        go_wp2_with fail
        go_ret
        exact ⟨rfl, hx3.out⟩
      · have j1 : decide ((np : Int) > 100) = false := by rw [decide_eq_false_iff_not]; omega
        have j2 : decide (100 < np) = false := by rw [decide_eq_false_iff_not]; omega
        clear hbig
        go_wp2_with fail
        refine hma.mono ?_
        rintro e w3 ⟨rfl, hb3⟩
        have hx3 := Lib.hid (hx2.out.trans (hb3.mono hx2.out.size))
        clear hb3 hma
        go_wp2_with fail
        clear j1 j2
        go_loopw [5] (fun v wr => ∃ i : Nat, i ≤ n ∧ v = .int .i64 i ∧ Hid (Below W.heap.size W wr)) (fun v _ => n - (intOf v).toNat)
        case atStart => exact ⟨0, by omega, rfl, hx3⟩
        case round =>
          obtain ⟨i, hi, rfl, hb⟩ := hrel
          by_cases hlt : i < n
          · have i1 : decide ((i : Int) < (n : Int)) = true := by rw [decide_eq_true_eq]; omega
            have i2 : decide (i < n) = true := by rw [decide_eq_true_eq]; omega
            obtain ⟨b, off, r, A1, n1, c1, A2, n2, c2, rfl, hbl, hr, t1, t2, k0, _⟩ := Rs.at_ h'.out hlt
            have ht1 := Lib.hid t1
            have hl1 := Lib.hid t1.len
            have hm1 := Rd.max t1
            have hle1 := Rd.le t1
            have hri := Lib.hid hr
            have hfu := Lib.hid (front_up hmb'.out (List.mem_of_getElem? hr))
            have hsr := hsm.out r (List.mem_of_getElem? hr)
            have hn1 : n1 ≤ 3001 := by have := hsr.1; have := hl1.out; omega
            have hcr : Hid (∀ x, Below W.heap.size W x → x.cell? ⟨b, off + i * 2, none⟩ = some (.slice A1 n1 c1)) := Lib.hid fun x hx => (hx.cell hbl).trans k0
            have i33 : (i : Int) < (n : Int) := by omega
            clear hr t1 t2 hsr k0
            obtain ⟨wo, hwo⟩ : ∃ wo, wo = wr := ⟨wr, rfl⟩
            subst hwo
            go_wp2_with fail
            go_loopw [6, 7] (fun o v wq => ∃ (k : Nat) (ab : Bool), k ≤ n ∧ v = .int .i64 k ∧ o = .bool ab ∧ Hid (ab = (l.take k).any (upB r.1)) ∧ Hid (Below W.heap.size W wq)) (fun _ v _ => n - (intOf v).toNat)
            case atStart => exact ⟨0, false, by omega, rfl, rfl, Lib.hid rfl, hb⟩
            case round =>
              clear i1 i2 hlt
              obtain ⟨k, ab, hk, rfl, rfl, hab, hbk⟩ := hrel
              have k1w := hcr.out wr hbk.out
              by_cases hltk : k < n
              · have i1 : decide ((k : Int) < (n : Int)) = true := by rw [decide_eq_true_eq]; omega
                have i2 : decide (k < n) = true := by rw [decide_eq_true_eq]; omega
                have i3 : (k : Int) < (n : Int) := by omega
                obtain ⟨b', off', x, A3, n3, c3, A4, n4, c4, e, hbl', hx, t3, t4, k0, _⟩ := Rs.at_ h'.out hltk
                injection e with e
                injection e with e1 e2
                subst e1; subst e2
                have hle3 := Rd.le t3
                have hm3 := Rd.max t3
                have hl3 := t3.len
                have hq : Hid (∀ y, Below wr.heap.size wr y → y.cell? ⟨b, off + k * 2, none⟩ = some (.slice A3 n3 c3) ∧ y.cell? ⟨b, off + i * 2, none⟩ = some (.slice A1 n1 c1)) := Lib.hid fun y hy =>
                  ⟨((hbk.out.trans (hy.mono hbk.out.size)).cell hbl').trans k0, hcr.out y (hbk.out.trans (hy.mono hbk.out.size))⟩
                have hdr : Hid (Below wr.heap.size wr wr.drew) := Lib.hid (Joins.below_draws wr.heap.size wr 1)
                have hbd := Lib.hid (hbk.out.trans (hdr.out.mono hbk.out.size))
                have hnx : Hid ((l.take (k + 1)).any (upB r.1) = ((l.take k).any (upB r.1) || upB r.1 x)) := Lib.hid (by rw [take_one hx, up_snoc])
                cases ab with
                | true =>
                  have hab2 : Hid (true = (l.take (k + 1)).any (upB r.1)) := Lib.hid (by rw [hnx.out, ← hab.out]; rfl)
                  clear hx t3 t4 k0 hl3
                  go_wp2_with fail
                  refine Pl.wp_region_plan 24 (.take 0 (.take 1 (.take 2 (.take 3 (.take 4 (.take 5 (.take 6 (.take 7 (.take 8 (.take 9 (.take 10 (.take 11 (.take 12 (.take 13 (.take 14 (.take 15 (.take 16 (.take 17 (.take 18 (.take 19 (.take 20 (.take 21 (.take 22 (.take 23 (.done))))))))))))))))))))))))) (fun x => x.cell? ⟨b, off + k * 2, none⟩ = some (.slice A3 n3 c3) ∧ x.cell? ⟨b, off + i * 2, none⟩ = some (.slice A1 n1 c1)) (by kernel_rfl) (by kernel_rfl) (by exact hq.out _ hdr.out) ?_
                  simp only [Pl.fill, List.getElem?_cons_zero, List.getElem?_cons_succ, List.drop_succ_cons, List.drop_zero]
                  iterate 2
                    refine Pl.take_go ?_ (by rfl) (fun _ _ _ h => h) ?_ ?_
                    rotate_left
                    · (intro x hSw; (try dsimp only at hSw); (try obtain ⟨s0, s1⟩ := hSw); go_simp; try with_reducible rfl)
                    try simp only [Act.put, List.setIfInBounds_toArray, List.set_cons_zero, List.set_cons_succ]
                  iterate 22
                    refine Pl.take_skip (by rfl) (fun _ _ _ h => h) ?_
                    try simp only [Act.put, List.setIfInBounds_toArray, List.set_cons_zero, List.set_cons_succ]
                  refine Pl.done_go ?_
                  go_wp2_with fail
                  go_roundw
                  case rel => exact ⟨k + 1, true, by omega, by go_num, rfl, hab2, hbd⟩
                  case measure => simp [intOf]; omega
                | false =>
                  have hwr : Hid (IntKind.i64.wrap ((n1 : Int) + 1) = (n1 : Int) + 1) := Lib.hid (by
                    have := wrap_nat' (n1 + 1) (by omega)
                    push_cast at this
                    exact this)
                  by_cases h3 : n3 = n1 + 1
                  · have j3 : ((n3 : Int) == (n1 : Int) + 1) = true := by rw [beq_iff_eq]; omega
                    have j4 : n1 ≤ c3 := by omega
                    have hct : Ts wr A3 n1 c3 (x.1.take n1) := by
                      have := (t3.below hbk.out).cut 0 n1 (by omega) (by omega) A3 (fun b' o' e _ => e) (fun h => h) (fun h => h)
                      rw [Nat.sub_zero, Nat.sub_zero, List.drop_zero] at this
                      exact this
                    have hte := Lib.hid (refTexts_any A3 n1 c3 (x.1.take n1) A1 n1 c1 r.1 wr.drew (hct.below hdr.out) (ht1.out.below hbd.out))
                    obtain ⟨V, hV⟩ : ∃ V, decide (x.1.take n1 = r.1) = V := ⟨_, rfl⟩
                    rw [hV] at hte
                    have hab2 : Hid (V = (l.take (k + 1)).any (upB r.1)) := Lib.hid (by
                      rw [hnx.out, ← hab.out, ← hV, Bool.false_or]
                      unfold upB
                      rw [hl1.out, hl3, h3, decide_eq_decide]
                      simp)
                    clear hx t3 t4 k0 hl3 h3 hct hV
                    go_wp2_with fail
                    refine Pl.wp_region_plan 24 (.take 0 (.take 1 (.take 2 (.take 3 (.take 4 (.take 5 (.take 6 (.take 7 (.take 8 (.take 9 (.take 10 (.take 11 (.take 12 (.take 13 (.take 14 (.take 15 (.take 16 (.take 17 (.take 18 (.take 19 (.take 20 (.take 21 (.take 22 (.take 23 (.done))))))))))))))))))))))))) (fun x => x.cell? ⟨b, off + k * 2, none⟩ = some (.slice A3 n3 c3) ∧ x.cell? ⟨b, off + i * 2, none⟩ = some (.slice A1 n1 c1)) (by kernel_rfl) (by kernel_rfl) (by exact hq.out _ hdr.out) ?_
                    simp only [Pl.fill, List.getElem?_cons_zero, List.getElem?_cons_succ, List.drop_succ_cons, List.drop_zero]
                    iterate 9
                      refine Pl.take_go ?_ (by rfl) (fun _ _ _ h => h) ?_ ?_
                      rotate_left
                      · (intro x hSw; (try dsimp only at hSw); (try obtain ⟨s0, s1⟩ := hSw); go_simp; try with_reducible rfl)
                      try simp only [Act.put, List.setIfInBounds_toArray, List.set_cons_zero, List.set_cons_succ]
                    refine Pl.take_go (.int .i64 ((n1 : Int) + 1)) (by rfl) (fun _ _ _ h => h) ?_ ?_
                    · intro x hSw
                      go_simp
                      try exact hwr.out
                    try simp only [Act.put, List.setIfInBounds_toArray, List.set_cons_zero, List.set_cons_succ]
                    refine Pl.take_go (.bool true) (by rfl) (fun _ _ _ h => h) ?_ ?_
                    · intro x hSw
                      go_simp
                      try exact j3
                    try simp only [Act.put, List.setIfInBounds_toArray, List.set_cons_zero, List.set_cons_succ]
                    iterate 13
                      refine Pl.take_go ?_ (by rfl) (fun _ _ _ h => h) ?_ ?_
                      rotate_left
                      · (intro x hSw; (try dsimp only at hSw); (try obtain ⟨s0, s1⟩ := hSw); go_simp; try with_reducible rfl)
                      try simp only [Act.put, List.setIfInBounds_toArray, List.set_cons_zero, List.set_cons_succ]
                    refine Pl.done_go ?_
                    go_wp2_with fail
                    refine hte.out.mono ?_
                    rintro e w6 ⟨rfl, q6, rfl⟩
                    have hb6 := Lib.hid (hbk.out.trans ((Joins.below_draws wr.heap.size wr (1 + q6)).mono hbk.out.size))
                    go_wp2_with fail
                    go_roundw
                    case rel => exact ⟨k + 1, V, by omega, by go_num, rfl, hab2, hb6⟩
                    case measure => simp [intOf]; omega
                  · have j3 : ((n3 : Int) == (n1 : Int) + 1) = false := by rw [beq_eq_false_iff_ne]; omega
                    have hab2 : Hid (false = (l.take (k + 1)).any (upB r.1)) := Lib.hid (by
                      rw [hnx.out, ← hab.out, Bool.false_or]
                      unfold upB
                      rw [hl1.out, hl3]
                      exact (decide_eq_false (fun h => h3 h.1)).symm)
                    clear hx t3 t4 k0 hl3 h3
                    go_wp2_with fail
                    refine Pl.wp_region_plan 24 (.take 0 (.take 1 (.take 2 (.take 3 (.take 4 (.take 5 (.take 6 (.take 7 (.take 8 (.take 9 (.take 10 (.take 11 (.take 12 (.take 13 (.take 14 (.take 15 (.take 16 (.take 17 (.take 18 (.take 19 (.take 20 (.take 21 (.take 22 (.take 23 (.done))))))))))))))))))))))))) (fun x => x.cell? ⟨b, off + k * 2, none⟩ = some (.slice A3 n3 c3) ∧ x.cell? ⟨b, off + i * 2, none⟩ = some (.slice A1 n1 c1)) (by kernel_rfl) (by kernel_rfl) (by exact hq.out _ hdr.out) ?_
                    simp only [Pl.fill, List.getElem?_cons_zero, List.getElem?_cons_succ, List.drop_succ_cons, List.drop_zero]
                    iterate 9
                      refine Pl.take_go ?_ (by rfl) (fun _ _ _ h => h) ?_ ?_
                      rotate_left
                      · (intro x hSw; (try dsimp only at hSw); (try obtain ⟨s0, s1⟩ := hSw); go_simp; try with_reducible rfl)
                      try simp only [Act.put, List.setIfInBounds_toArray, List.set_cons_zero, List.set_cons_succ]
                    refine Pl.take_go (.int .i64 ((n1 : Int) + 1)) (by rfl) (fun _ _ _ h => h) ?_ ?_
                    · intro x hSw
                      go_simp
                      try exact hwr.out
                    try simp only [Act.put, List.setIfInBounds_toArray, List.set_cons_zero, List.set_cons_succ]
                    refine Pl.take_go (.bool false) (by rfl) (fun _ _ _ h => h) ?_ ?_
                    · intro x hSw
                      go_simp
                      try exact j3
                    try simp only [Act.put, List.setIfInBounds_toArray, List.set_cons_zero, List.set_cons_succ]
                    iterate 1
                      refine Pl.take_go ?_ (by rfl) (fun _ _ _ h => h) ?_ ?_
                      rotate_left
                      · (intro x hSw; (try dsimp only at hSw); (try obtain ⟨s0, s1⟩ := hSw); go_simp; try with_reducible rfl)
                      try simp only [Act.put, List.setIfInBounds_toArray, List.set_cons_zero, List.set_cons_succ]
                    iterate 12
                      refine Pl.take_skip (by rfl) (fun _ _ _ h => h) ?_
                      try simp only [Act.put, List.setIfInBounds_toArray, List.set_cons_zero, List.set_cons_succ]
                    refine Pl.done_go ?_
                    go_wp2_with fail
                    go_roundw
                    case rel => exact ⟨k + 1, false, by omega, by go_num, rfl, hab2, hbd⟩
                    case measure => simp [intOf]; omega
              · have i1 : decide ((k : Int) < (n : Int)) = false := by rw [decide_eq_false_iff_not]; omega
                have i2 : decide (k < n) = false := by rw [decide_eq_false_iff_not]; omega
                have hfr := Front_any (some ⟨b, off, none⟩) n c l A1 n1 c1 r.1 wr (h'.out.below hbk.out) (ht1.out.below hbk.out)
                have hab3 : ab = l.any (upB r.1) := by
                  have h2 := hab.out
                  rw [List.take_of_length_le (by have := hl.out; omega)] at h2
                  exact h2
                rw [hfu.out, ← hab3] at hfr
                have hfr' := Lib.hid hfr
                have j5 : ((!ab) == ab) = false := by cases ab <;> rfl
                clear hfr hab3
                go_wp2_with fail
                refine hfr'.out.mono ?_
                rintro e w6 ⟨rfl, hb6⟩
                have hx6 := Lib.hid (hbk.out.trans (hb6.mono hbk.out.size))
                clear hb6 k1w
                go_wp2_with fail
                go_roundw
                case rel => exact ⟨i + 1, by omega, by go_num, hx6⟩
                case measure => simp [intOf]; omega
          · have i1 : decide ((i : Int) < (n : Int)) = false := by rw [decide_eq_false_iff_not]; omega
            have i2 : decide (i < n) = false := by rw [decide_eq_false_iff_not]; omega
            have hfi := refFind_any A n c l Ap np cp path wr (h'.out.below hb.out) (hp'.out.below hb.out)
            have hge := idx_ge (l := l) (p := path)
            have hfn := Lib.hid (front_none (l := l) (p := path))
            obtain ⟨z, hz⟩ : ∃ z, idxR l path = z := ⟨_, rfl⟩
            obtain ⟨H, hH⟩ : ∃ H, hasB l path = H := ⟨_, rfl⟩
            rw [hz] at hfi hge
            rw [hH] at hge hfn
            have hfi' := Lib.hid hfi
            have g0 : decide (z ≥ 0) = H := hge
            have g1 : decide (0 ≤ z) = H := hge
            clear hfi hz hH hge
            go_wp2_with fail
            refine hfi'.out.mono ?_
            rintro e w5 ⟨rfl, q5, hw5⟩
            have hb5 := Joins.below_draws wr.heap.size wr q5
            rw [← hw5] at hb5
            have hx5 := Lib.hid (hb.out.trans (hb5.mono hb.out.size))
            clear hb5 hw5
            cases H with
            | true =>
              go_wp2_with fail
              go_ret
              exact ⟨rfl, hx5.out⟩
            | false =>
              have hfr := Front_any A n c l Ap np cp path w5 (h'.out.below hx5.out) (hp'.out.below hx5.out)
              rw [hfn.out rfl] at hfr
              go_wp2_with fail
              refine hfr.mono ?_
              rintro e w6 ⟨rfl, hb6⟩
              have hx6 := Lib.hid (hx5.out.trans (hb6.mono hx5.out.size))
              clear hb6 hfr
              go_wp2_with fail
              go_ret
              exact ⟨rfl, hx6.out⟩
end Go.Proofs.YtjofkodncplhaaaGreatDoor.Ky
