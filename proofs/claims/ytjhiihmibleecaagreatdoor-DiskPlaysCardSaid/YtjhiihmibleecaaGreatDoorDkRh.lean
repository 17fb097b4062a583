/- The document's Crash. -/
import Derived.Test.YtjhiihmibleecaaGreatDoorDkRg
namespace Go.Proofs.YtjhiihmibleecaaGreatDoor.Dk
open Go.RowKit

theorem crashF_len (tails : List Int) (i : Nat) (l : Fs) : (crashF tails i l).length = l.length := by
  have := congrArg List.length (crashF_names tails i l)
  simpa using this
theorem crashF_app (tails : List Int) : ∀ (a b : Fs) (i : Nat), crashF tails i (a ++ b) = crashF tails i a ++ crashF tails (i + a.length) b
  | [], b, i => by simp [crashF]
  | p :: a, b, i => by
    rw [List.cons_append, crashF, crashF, crashF_app tails a b (i + 1), List.cons_append, List.length_cons, show i + 1 + a.length = i + (a.length + 1) by omega]

/-- The files, k of them gone through. -/
def crM (tails : List Int) (fs : Fs) (k : Nat) : Fs := crashF tails 0 (fs.take k) ++ fs.drop k
theorem crM_len (tails : List Int) (fs : Fs) (k : Nat) : (crM tails fs k).length = fs.length := by
  unfold crM
  rw [List.length_append, crashF_len, List.length_take, List.length_drop]
  omega
theorem crM_up {tails : List Int} {fs : Fs} (k : Nat) (hU : Up fs) : Up (crM tails fs k) := by
  refine up_of_names (l := fs) ?_ hU
  unfold crM
  rw [List.map_append, crashF_names, ← List.map_append, List.take_append_drop]
theorem crM_get {tails : List Int} {fs : Fs} {k : Nat} {p : Name × Fl} (h : fs[k]? = some p) : (crM tails fs k)[k]? = some p := by
  have hk := (List.getElem?_eq_some_iff.1 h).1
  unfold crM
  rw [List.getElem?_append_right (by rw [crashF_len, List.length_take]; omega), crashF_len, List.length_take, Nat.min_eq_left (by omega), Nat.sub_self, List.getElem?_drop, Nat.add_zero]
  exact h
theorem crM_step {tails : List Int} {fs : Fs} {k : Nat} {nm : Name} {f : Fl} (hU : Up fs) (h : fs[k]? = some (nm, f)) : upd nm (fun f => keep f tails[k]?) (crM tails fs k) = crM tails fs (k + 1) := by
  rw [upd_at (crM_up k hU) (crM_get h)]
  obtain ⟨hk, e⟩ := List.getElem?_eq_some_iff.1 h
  unfold crM
  rw [take_snoc h, crashF_app, List.length_take, Nat.min_eq_left (by omega), Nat.zero_add, List.drop_eq_getElem_cons hk, e, List.append_assoc]
  rw [List.set_append_right _ _ (by rw [crashF_len, List.length_take]; omega), crashF_len, List.length_take, Nat.min_eq_left (by omega), Nat.sub_self]
  rfl
theorem crM_end (tails : List Int) (fs : Fs) : crM tails fs fs.length = crashF tails 0 fs := by
  unfold crM
  rw [List.take_of_length_le (Nat.le_refl _), List.drop_eq_nil_of_le (Nat.le_refl _), List.append_nil]
theorem Ra.noTr {w : World} {B rb : Nat} {lv tv : Value} {d : D} (h : Ra w B rb lv tv d) : Ra (w.setCell ⟨rb, 2, none⟩ (.slice none 0 0)) B rb lv (.slice none 0 0) { d with tr := [] } ∧ Below B w (w.setCell ⟨rb, 2, none⟩ (.slice none 0 0)) ∧ Rm w (w.setCell ⟨rb, 2, none⟩ (.slice none 0 0)) :=
  h.setA (d' := { d with tr := [] }) (grown_set w ⟨rb, 2, none⟩ (.slice none 0 0)) (setCell_blk h.blk _) (h.row_set 2 _) (World.ownsRow_nil _ _ _ _)

set_option maxHeartbeats 4000000 in
set_option maxRecDepth 100000 in
theorem rCrash_any (w : World) (B rb : Nat) (lv tv : Value) (d : D) (h : Ra w B rb lv tv d) (hU : Up d.fs) (hl : d.fs.length ≤ 1000) (hfl : ∀ p ∈ d.fs, p.2.data.length ≤ 1000000000 ∧ p.2.safe ≤ p.2.data.length)
    (At : Option Addr) (nt ct : Nat) (tails : List Int) (hT : ∀ w', Below B w w' → Rd w' At nt ct (tails.map (Value.int .i64))) :
    Calls Tryz.prog 37 #[.pointer (some ⟨rb, 0, none⟩), .slice At nt ct] w fun e w' => e = .returned (.tuple #[]) ∧ Rs B rb (crash d tails) w w' := by
  have hrt := hT w (Below.refl _ _)
  have hnt : tails.length = nt := by have := Rd.len hrt; simpa using this
  have hle := Rd.le hrt
  have hmx := Rd.max hrt
  obtain ⟨A, c, rfl, hq⟩ := h.sq
  have hle2 := hq.le
  have hmx2 := hq.max
  obtain ⟨h1, hb1, hm1⟩ := h.setDown false
  have z4 : w.frozen? ⟨rb, 4, none⟩ = false := frozen_of_row w rb 4 _ _ h.blk
  have c4 : w.cell? ⟨rb, 4, none⟩ = some (.bool d.down) := cell_blk h.blk rfl
  obtain ⟨h2, hb2, hm2⟩ := h1.noTr
  have z2 : (w.setCell ⟨rb, 4, none⟩ (.bool false)).frozen? ⟨rb, 2, none⟩ = false := frozen_of_row _ rb 2 _ _ h1.blk
  have c2 : (w.setCell ⟨rb, 4, none⟩ (.bool false)).cell? ⟨rb, 2, none⟩ = some tv := cell_blk h1.blk rfl
  have hb12 := Lib.hid (hb1.trans hb2)
  have hm12 := Lib.hid (hm1.trans hm2)
  have h2' : Hid (Ra ((w.setCell ⟨rb, 4, none⟩ (.bool false)).setCell ⟨rb, 2, none⟩ (.slice none 0 0)) B rb (.slice A d.fs.length c) (.slice none 0 0) { d with down := false, tr := [], fs := crM tails d.fs 0 }) := Lib.hid h2
  obtain ⟨n, hn⟩ : ∃ n, d.fs.length = n := ⟨_, rfl⟩
  have hn' := Lib.hid hn
  have hU' := Lib.hid hU
  have hfl' := Lib.hid hfl
  have hT' := Lib.hid hT
  have hnt' := Lib.hid hnt
  rw [hn] at hl hle2 h2'
  clear h hq h1 hb1 hm1 h2 hb2 hm2 hn hU hfl hT hrt hnt
  go_enter Tryz.func37, Tryz.ntmps37
  go_wp2_with fail
  clear z4 c4 z2 c2
  go_loopw [4] (fun i wr => ∃ k : Nat, k ≤ n ∧ i = .int .i64 k ∧ Hid (Ra wr B rb (.slice A n c) (.slice none 0 0) { d with down := false, tr := [], fs := crM tails d.fs k }) ∧ Hid (Below B w wr) ∧ Hid (Rm w wr)) (fun i _ => n - (intOf i).toNat)
  case atStart => exact ⟨0, by omega, rfl, h2', hb12, hm12⟩
  case round =>
    obtain ⟨k, hk, rfl, hR, hbw, hmw⟩ := hrel
    have k1 : wr.cell? ⟨rb, 1, none⟩ = some (.slice A n c) := cell_blk hR.out.blk rfl
    by_cases hlt : k < n
    · have hfk : d.fs[k]? = some (d.fs[k]'(by have := hn'.out; omega)) := List.getElem?_eq_getElem _
      obtain ⟨nm, f, hp⟩ : ∃ nm f, d.fs[k]'(by have := hn'.out; omega) = (nm, f) := ⟨_, _, rfl⟩
      rw [hp] at hfk
      obtain ⟨hf1, hf2⟩ := hfl'.out _ (List.mem_of_getElem? hfk)
      simp only at hf1 hf2
      obtain ⟨g, c9, s9, v, hlv, hnc9, hcm9, hBg, hgl, ⟨cs9, hgb⟩, m0, m1, m2, hs9, hov⟩ := hR.out.at_ (crM_get hfk)
      injection hlv with hlv1 hlv2 hlv3
      subst hlv1; subst hlv3
      obtain ⟨A0, c0, rfl, hbs⟩ := OwB.slice hov
      have hnc := Rd.le hbs
      have hcmx := Rd.max hbs
      have hcut := hbs.cut 0 (f.safe + keepN f tails[k]?) (by omega) (keepN_le hf2) A0 (by intro b off e _; rw [e]; rfl) (fun e => e) (fun e => e)
      rw [Nat.sub_zero, Nat.sub_zero, List.drop_zero] at hcut
      have hkn := keepN_le (t := tails[k]?) hf2
      obtain ⟨nf, hnf⟩ : ∃ nf, f.data.length = nf := ⟨_, rfl⟩
      obtain ⟨sf, hsf⟩ : ∃ sf, f.safe = sf := ⟨_, rfl⟩
      obtain ⟨kn, hkn0⟩ : ∃ kn, keepN f tails[k]? = kn := ⟨_, rfl⟩
      have hkeep : keep f tails[k]? = ⟨f.data.take (sf + kn), (f.data.take (sf + kn)).length⟩ := by unfold keep; rw [hkn0, hsf]
      have htl : (f.data.take (sf + kn)).length = sf + kn := by rw [List.length_take, ← hsf, ← hkn0]; omega
      have hkd : kn = (match tails[k]? with | none => 0 | some z => min z.toNat (nf - sf)) := by rw [← hkn0, ← hnf, ← hsf]; rfl
      rw [hsf, hkn0] at hcut
      rw [hnf, hsf, hkn0] at hkn
      rw [hnf] at m1 hf1 hnc
      rw [hsf] at m2
      have hnf' := Lib.hid hnf
      have hsf' := Lib.hid hsf
      have hkeep' := Lib.hid hkeep
      have htl' := Lib.hid htl
      have hkd' := Lib.hid hkd
      have hcut' := Lib.hid hcut
      have hgb' := Lib.hid hgb
      have hgl' := Lib.hid hgl
      have hfk' := Lib.hid hfk
      have hrt := Lib.hid (hT'.out wr hbw.out)
      have i0 : (0 : Int) ≤ (k : Int) := by omega
      have i1 : (k : Int) < (n : Int) := by omega
      have i3 : decide ((k : Int) < (n : Int)) = true := by rw [decide_eq_true_eq]; omega
      have hBr : Hid (B ≤ wr.heap.size) := Lib.hid (by have := hR.out.base; have := hR.out.lt; omega)
      have hrlt := Lib.hid hR.out.lt
      clear hp hfk hs9 hov hbs hcut hnf hsf hkn0 hkeep htl hkd hgb hlv2 hgl m0
      go_upto_region 6 with fail
      go_cut [31] (fun v wx => ∃ cnd : Bool, v = .bool cnd ∧ wr = wx ∧ Hid (if cnd = true then ∃ z, tails[k]? = some z ∧ 0 < z else kn = 0))
      case first =>
        by_cases hk1 : k < nt
        · have htk : tails[k]? = some (tails[k]'(by have := hnt'.out; omega)) := List.getElem?_eq_getElem _
          obtain ⟨z, hz⟩ : ∃ z, tails[k]'(by have := hnt'.out; omega) = z := ⟨_, rfl⟩
          rw [hz] at htk
          have hkz : kn = min z.toNat (nf - sf) := by have := hkd'.out; rw [htk] at this; exact this
          obtain ⟨bt, ot, u, rfl, hbt, hu, hct⟩ := Rd.at_ hrt.out hk1
          rw [List.getElem?_map, htk] at hu
          injection hu with hu
          subst hu
          have t0 : decide ((k : Int) < (nt : Int)) = true := by rw [decide_eq_true_eq]; omega
          have t1 : decide (k < nt) = true := by rw [decide_eq_true_eq]; omega
          have t2 : (k : Int) < (nt : Int) := by omega
          have htk' := Lib.hid htk
          clear hz htk
          by_cases hz0 : 0 < z
          · have t3 : decide (z > 0) = true := by rw [decide_eq_true_eq]; omega
            have t4 : decide (0 < z) = true := t3
            have hcnd : Hid (if true = true then ∃ z, tails[k]? = some z ∧ 0 < z else kn = 0) := Lib.hid ⟨z, htk'.out, hz0⟩
            clear hkz hz0
            go_wp2_with fail
            go_meet
            exact ⟨true, rfl, rfl, hcnd⟩
          · have t3 : decide (z > 0) = false := by rw [decide_eq_false_iff_not]; omega
            have t4 : decide (0 < z) = false := t3
            have hcnd : Hid (if false = true then ∃ z, tails[k]? = some z ∧ 0 < z else kn = 0) := Lib.hid (show kn = 0 by omega)
            clear hkz hz0
            go_wp2_with fail
            go_meet
            exact ⟨false, rfl, rfl, hcnd⟩
        · have t0 : decide ((k : Int) < (nt : Int)) = false := by rw [decide_eq_false_iff_not]; omega
          have t1 : decide (k < nt) = false := by rw [decide_eq_false_iff_not]; omega
          have hk0 : kn = 0 := by
            have := hkd'.out
            rw [List.getElem?_eq_none (by have := hnt'.out; omega)] at this
            exact this
          have hcnd : Hid (if false = true then ∃ z, tails[k]? = some z ∧ 0 < z else kn = 0) := Lib.hid (show kn = 0 from hk0)
          clear hk0
          go_wp2_with fail
          go_meet
          exact ⟨false, rfl, rfl, hcnd⟩
      case rest =>
      obtain ⟨cnd, rfl, hwx, hcnd⟩ := hcut
      subst hwx
      go_upto_if 31 with fail
      go_cut [5] (fun v wx => v = .int .i64 (kn : Nat) ∧ Hid (Below wr.heap.size wr wx))
      case first =>
        cases cnd with
        | false =>
          have hk0 : Hid (kn = 0) := hcnd
          go_wp2_with fail
          go_meet
          exact ⟨by rw [hk0.out]; rfl, Lib.hid (Below.refl _ _)⟩
        | true =>
          obtain ⟨z, htk, hz0⟩ := hcnd.out
          have hkz : kn = min z.toNat (nf - sf) := by have := hkd'.out; rw [htk] at this; exact this
          have hk1 : k < nt := by have := (List.getElem?_eq_some_iff.1 htk).1; have := hnt'.out; omega
          obtain ⟨bt, ot, u, rfl, hbt, hu, hct⟩ := Rd.at_ hrt.out hk1
          rw [List.getElem?_map, htk] at hu
          injection hu with hu
          subst hu
          have t2 : (k : Int) < (nt : Int) := by omega
          have q1 : IntKind.i64.wrap ((nf : Int) - (sf : Int)) = ((nf - sf : Nat) : Int) := by rw [wrap_sub nf sf (by omega) (by omega)]; omega
          have q2 : min z ((nf - sf : Nat) : Int) = (kn : Int) := by omega
          obtain ⟨df, hdf⟩ : ∃ df, nf - sf = df := ⟨_, rfl⟩
          rw [hdf] at q1 q2
          clear hkz hdf hz0 htk hcnd
          go_wp2_with fail
          refine Pl.wp_region_plan 22 (.take 0 (.take 1 (.take 2 (.take 3 (.take 4 (.take 5 (.take 6 (.take 7 (.take 8 (.take 9 (.take 10 (.take 11 (.take 12 (.take 13 (.take 14 (.take 15 (.take 16 (.take 17 (.take 18 (.take 19 (.take 20 (.take 21 .done))))))))))))))))))))))
            (fun x => x.cell? ⟨rb, 1, none⟩ = some (.slice (some ⟨g, 0, none⟩) n c) ∧ x.cell? ⟨g, k * 3 + 1, none⟩ = some (.slice A0 nf c0) ∧ x.cell? ⟨g, k * 3 + 2, none⟩ = some (.int .i64 (sf : Nat)) ∧ x.cell? ⟨bt, ot + k, none⟩ = some (.int .i64 z)) (by kernel_rfl) (by kernel_rfl) (by exact ⟨k1, m1, m2, hct⟩) ?_
          simp only [Pl.fill, List.getElem?_cons_zero, List.getElem?_cons_succ, List.drop_succ_cons, List.drop_zero]
          iterate 22
            refine Pl.take_go ?_ (by rfl) (fun _ _ _ h => h) ?_ ?_
            rotate_left
            · (intro x hSw; (try dsimp only at hSw); go_simp; try with_reducible rfl)
            try simp only [Act.put, List.setIfInBounds_toArray, List.set_cons_zero, List.set_cons_succ]
          refine Pl.done_go ?_
          go_wp2_with fail
          go_meet
          exact ⟨rfl, Lib.hid (bD (Below.refl _ wr))⟩
      case rest =>
      obtain ⟨rfl, hbc⟩ := hcut
      obtain ⟨wz, rfl⟩ : ∃ wz, wz = wc := ⟨wc, rfl⟩
      have hRc := hR.out.below hbc.out
      have e6 : n = (crM tails d.fs k).length := by rw [crM_len]; exact hn'.out.symm
      have r1 : wz.cell? ⟨rb, 1, none⟩ = some (.slice (some ⟨g, 0, none⟩) n c) := cell_blk hRc.blk rfl
      rw [e6] at hRc
      have hRc' := Lib.hid hRc
      have e6' := Lib.hid e6
      obtain ⟨qm, hqm⟩ : ∃ qm, sf + kn = qm := ⟨_, rfl⟩
      have q1 : IntKind.i64.wrap ((sf : Int) + (kn : Int)) = (qm : Int) := by rw [show (sf : Int) + (kn : Int) = (qm : Int) by omega]; exact wrap_nat qm (by omega)
      have hqn : qm ≤ nf := by omega
      rw [hqm] at hcut' hkeep' htl'
      have q2 : (0 : Int) ≤ (qm : Int) ∧ (qm : Int) ≤ (c0 : Int) := ⟨by omega, by omega⟩
      have q3 : (qm : Int) ≤ (c0 : Int) := by omega
      have q4 : qm ≤ c0 := by omega
      have q5 : qm ≤ 1000000000 := by omega
      have hgz := Lib.hid (Nat.lt_of_lt_of_le hgl'.out hbc.out.size)
      have hgbz := Lib.hid ((hbc.out.block g hgl'.out).trans hgb'.out)
      have b1 := (hbc.out.cell (p := ⟨g, k * 3 + 1, none⟩) hgl'.out).trans m1
      have b2 := (hbc.out.cell (p := ⟨g, k * 3 + 2, none⟩) hgl'.out).trans m2
      have hcz := Lib.hid (hcut'.out.below hbc.out)
      have hbwz := Lib.hid (hbw.out.trans (hbc.out.mono hBr.out))
      have hmwz := Lib.hid (hmw.out.trans (Rm.below hbc.out))
      have hBz : Hid (B ≤ wz.heap.size) := Lib.hid (Nat.le_trans hBr.out hbc.out.size)
      clear hRc e6 hqm hcnd hbc hbw hmw hR k1 m1 m2 hcut' hgb' hgl' hrt hkd' hrlt hBr
      go_wp2_with fail
      refine Pl.wp_region_plan 26 (.take 0 (.take 1 (.take 2 (.take 3 (.take 4 (.take 6 (.take 7 (.take 8 (.take 9 (.take 10 (.take 11 (.take 12 (.take 13 (.take 14 (.take 15 (.take 16 (.take 17 (.take 18 (.take 19 (.take 20 (.take 21 (.take 22 (.take 23 (.take 24 (.run 5 (.run 25 .done))))))))))))))))))))))))))
        (fun x => x.cell? ⟨rb, 1, none⟩ = some (.slice (some ⟨g, 0, none⟩) n c) ∧ x.cell? ⟨g, k * 3 + 1, none⟩ = some (.slice A0 nf c0) ∧ x.cell? ⟨g, k * 3 + 2, none⟩ = some (.int .i64 (sf : Nat))) (by kernel_rfl) (by kernel_rfl) (by exact ⟨r1, b1, b2⟩) ?_
      simp only [Pl.fill, List.getElem?_cons_zero, List.getElem?_cons_succ, List.drop_succ_cons, List.drop_zero]
      iterate 24
        refine Pl.take_go ?_ (by rfl) (fun _ _ _ h => h) ?_ ?_
        rotate_left
        · (intro x hSw; (try dsimp only at hSw); go_simp; try with_reducible rfl)
        try simp only [Act.put, List.setIfInBounds_toArray, List.set_cons_zero, List.set_cons_succ]
      refine Pl.run_go (fun K hK => ?_)
      go_simp
      have hbz : Below wz.heap.size wz (wz.alloc (.cells #[] 5)).drew := bD (below_alloc wz _)
      have hnil : OwB (wz.alloc (.cells #[] 5)).drew wz.heap.size 5 (.slice (some ⟨wz.heap.size, 0, none⟩) 0 0) [] := ⟨by simp, .inr ⟨_, _, #[], rfl, Nat.le_refl _, heap_alloc_new wz _, Nat.le_refl _, by decide, by simp, by simp⟩⟩
      have hnil' := Lib.hid hnil
      have hbz' := Lib.hid hbz
      clear hbz hnil
      obtain ⟨T, hT2⟩ : ∃ T, wz.heap.size = T := ⟨_, rfl⟩
      have hT3 := Lib.hid hT2
      rw [hT2] at hnil' hbz' ⊢
      clear hT2
      generalize (wz.alloc (.cells #[] 5)).drew = x1 at hnil' hbz' ⊢
      have hup : Hid (∀ x, Below T wz x → Below wz.heap.size wz x) := Lib.hid fun x hb => by rw [hT3.out]; exact hb
      have p1 := ((hup.out _ hbz'.out).cell (p := ⟨rb, 1, none⟩) hRc'.out.lt).trans r1
      have p2 := ((hup.out _ hbz'.out).cell (p := ⟨g, k * 3 + 1, none⟩) hgz.out).trans b1
      have p3 := ((hup.out _ hbz'.out).cell (p := ⟨g, k * 3 + 2, none⟩) hgz.out).trans b2
      refine hK.out _ _ (Pl.more_go _ (fun _ h => h) (by exact ⟨p1, p2, p3⟩) ?_)
      clear hK K p1 p2 p3
      try simp only [Act.put, List.setIfInBounds_toArray, List.set_cons_zero, List.set_cons_succ]
      refine Pl.run_list (fun K hK => ?_)
      refine append_bytes _ 35 5 Tryz.underlying35 (by kernel_rfl) rfl _ _ rfl T _ [] rfl hnil'.out A0 qm c0 (f.data.take qm) rfl (hcz.out.below (hup.out _ hbz'.out)) qm ?h3 ?h4 ?h5 ?_
      case h3 => simp
      case h4 => omega
      case h5 => have := hbz'.out.size; have := hT3.out; omega
      intro A2 c2 x2 ho hg hb
      have hb2 : Below T wz x2 := hbz'.out.trans hb
      have hu2 := hup.out _ hb2
      have hov2 : OwB x2 B 5 (.slice A2 qm c2) (f.data.take qm) := OwB.base (by rw [List.nil_append] at ho; exact ho) (by have := hT3.out; have := hBz.out; omega)
      have hW := Ra.rs_data (d := { d with down := false, tr := [], fs := crM tails d.fs k }) (hRc'.out.below hu2) (crM_up k hU'.out) (crM_get hfk'.out) hov2 (gf := fun f => ⟨(keep f tails[k]?).data, f.safe⟩) (by rw [hkeep'.out])
      have p1 := (hu2.cell (p := ⟨rb, 1, none⟩) hRc'.out.lt).trans r1
      have p2 := (hu2.cell (p := ⟨g, k * 3 + 1, none⟩) hgz.out).trans b1
      have p3 := (hu2.cell (p := ⟨g, k * 3 + 2, none⟩) hgz.out).trans b2
      have hfz : x2.frozen? ⟨g, k * 3 + 1, none⟩ = false := frozen_of_row x2 g _ _ _ ((hu2.block g hgz.out).trans hgbz.out)
      have n1 : Hid ((x2.setCell ⟨g, k * 3 + 1, none⟩ (.slice A2 qm c2)).cell? ⟨g, k * 3 + 1, none⟩ = some (.slice A2 qm c2)) := Lib.hid (World.cell?_setCell_same (w := x2) (a := ⟨g, k * 3 + 1, none⟩) (v := .slice A2 qm c2) p2)
      have hbw2 := Lib.hid ((hbwz.out.trans (hb2.mono (by have := hT3.out; have := hBz.out; omega : B ≤ T))).trans hW.1)
      have hmw2 := Lib.hid ((hmwz.out.trans (Rm.below hu2)).trans hW.2.1)
      have hR5 := Lib.hid hW.2.2
      clear ho hg hb hb2 hu2 hov2 hW hnil' hbz' hup hT3 hcz r1 b1 b2 hRc' hbwz hmwz hBz hgbz hgz
      refine hK.out _ _ (Pl.more_go _ (fun _ h => h) (by exact ⟨p1, p2, p3⟩) ?_)
      clear hK K p1 p3
      try simp only [Act.put, List.setIfInBounds_toArray, List.set_cons_zero, List.set_cons_succ]
      refine Pl.done_go ?_
      go_wp2_with fail
      generalize x2.setCell ⟨g, k * 3 + 1, none⟩ (.slice A2 qm c2) = w5 at hR5 hbw2 hmw2 n1 ⊢
      clear p2 hfz
      have e5 : (upd nm (fun f => (⟨(keep f tails[k]?).data, f.safe⟩ : Fl)) (crM tails d.fs k))[k]? = some (nm, ⟨(keep f tails[k]?).data, f.safe⟩) := by
        rw [upd_at (crM_up k hU'.out) (crM_get hfk'.out), List.getElem?_set_self (by rw [crM_len]; have := hn'.out; omega)]
      have e7 : (crM tails d.fs k).length = (upd nm (fun f => (⟨(keep f tails[k]?).data, f.safe⟩ : Fl)) (crM tails d.fs k)).length := upd_len.symm
      obtain ⟨g', c', s', v', hlv, _, _, _, hgl5, ⟨cs5, hgb5⟩, _, _, n2, _, _⟩ := hR5.out.at_ e5
      injection hlv with hlv _ _
      injection hlv with hlv
      injection hlv with hlv _ _
      subst hlv
      simp only at n2
      rw [hsf'.out] at n2
      have r5 : w5.cell? ⟨rb, 1, none⟩ = some (.slice (some ⟨g, 0, none⟩) (crM tails d.fs k).length c) := cell_blk hR5.out.blk rfl
      rw [← e6'.out] at r5
      rw [e7] at hR5
      have hbz : Below w5.heap.size w5 w5.drew := bD (Below.refl _ _)
      have hS := Ra.rs_safe (d := { d with down := false, tr := [], fs := upd nm (fun f => (⟨(keep f tails[k]?).data, f.safe⟩ : Fl)) (crM tails d.fs k) }) (hR5.out.below hbz) (show Up (upd nm (fun f => (⟨(keep f tails[k]?).data, f.safe⟩ : Fl)) (crM tails d.fs k)) from upd_up (crM_up k hU'.out)) e5 qm (gf := fun f => ⟨f.data, f.data.length⟩) (by simp only; rw [hkeep'.out]; simp only; rw [htl'.out])
      have e8 : upd nm (fun f => (⟨f.data, f.data.length⟩ : Fl)) (upd nm (fun f => (⟨(keep f tails[k]?).data, f.safe⟩ : Fl)) (crM tails d.fs k)) = crM tails d.fs (k + 1) := by
        rw [upd_upd, ← crM_step hU'.out hfk'.out]
        rfl
      have hBw5 : B ≤ w5.heap.size := by have := hR5.out.base; have := hR5.out.lt; omega
      have hbw3 := Lib.hid ((hbw2.out.trans (hbz.mono hBw5)).trans hS.1)
      have hmw3 := Lib.hid ((hmw2.out.trans (Rm.below hbz)).trans hS.2.1)
      have hR6 := hS.2.2
      rw [show (({ d with down := false, tr := [], fs := upd nm (fun f => (⟨(keep f tails[k]?).data, f.safe⟩ : Fl)) (crM tails d.fs k) } : D).fs).length = n from e7.symm.trans e6'.out.symm, show ({ d with down := false, tr := [], fs := upd nm (fun f => (⟨(keep f tails[k]?).data, f.safe⟩ : Fl)) (crM tails d.fs k) } : D).fs = upd nm (fun f => (⟨(keep f tails[k]?).data, f.safe⟩ : Fl)) (crM tails d.fs k) from rfl, e8] at hR6
      have hR6' := Lib.hid hR6
      have hfz5 : w5.drew.frozen? ⟨g, k * 3 + 2, none⟩ = false := frozen_of_row w5.drew g _ _ _ ((hbz.block g hgl5).trans hgb5)
      have n3 := (hbz.cell (p := ⟨g, k * 3 + 2, none⟩) hgl5).trans n2
      have n1' := n1.out
      clear hS hR6 hR5 e5 e7 e8 hbz hgb5 hgl5 hbw2 hmw2 hBw5 n1 n2
      refine Pl.wp_region_plan 14 (.take 0 (.take 1 (.take 2 (.take 3 (.take 4 (.take 5 (.take 6 (.take 7 (.take 8 (.take 9 (.take 10 (.take 11 (.take 12 (.take 13 .done))))))))))))))
        (fun x => x.cell? ⟨rb, 1, none⟩ = some (.slice (some ⟨g, 0, none⟩) n c) ∧ x.cell? ⟨g, k * 3 + 1, none⟩ = some (.slice A2 qm c2)) (by kernel_rfl) (by kernel_rfl) (by exact ⟨r5, n1'⟩) ?_
      simp only [Pl.fill, List.getElem?_cons_zero, List.getElem?_cons_succ, List.drop_succ_cons, List.drop_zero]
      iterate 14
        refine Pl.take_go ?_ (by rfl) (fun _ _ _ h => h) ?_ ?_
        rotate_left
        · (intro x hSw; (try dsimp only at hSw); go_simp; try with_reducible rfl)
        try simp only [Act.put, List.setIfInBounds_toArray, List.set_cons_zero, List.set_cons_succ]
      refine Pl.done_go ?_
      clear r5 n1'
      generalize w5.drew = wy at hR6' hbw3 hmw3 hfz5 n3 ⊢
      go_wp2_with fail
      go_roundw
      case rel => exact ⟨k + 1, by omega, by go_num, hR6', hbw3, hmw3⟩
      case measure => simp [intOf]; omega
    · have hkn : k = n := by omega
      have i3 : decide ((k : Int) < (n : Int)) = false := by rw [decide_eq_false_iff_not]; omega
      have e : crM tails d.fs k = crashF tails 0 d.fs := by rw [hkn, ← hn'.out]; exact crM_end _ _
      have h3 := hR.out
      rw [e] at h3
      have hf := Lib.hid (show Rs B rb (crash d tails) w wr from ⟨hbw.out, hmw.out, .slice A n c, .slice none 0 0, h3⟩)
      clear e h3
      clear hkn
      go_wp2_with fail
      go_end0
      exact ⟨rfl, hf.out⟩
end Go.Proofs.YtjhiihmibleecaaGreatDoor.Dk
