/- The law ManGreatest. -/
import Derived.Test.YtfdpnjebhllpkaaGreatDoorMMnCleans
namespace Go.Proofs.YtfdpnjebhllpkaaGreatDoor.Mn
open Go.RowKit Dk Ma Sg

/-- A manifest's cells in a row. -/
def MfEl (w : World) (vs : List Value) (m : Mf) : Prop := ∃ A n c, vs = [.int .i64 m.1, .int .i64 m.2.1, .slice A n c] ∧ Is w A n c m.2.2
theorem MfEl.below {w w' : World} (hb : Below w.heap.size w w') : ∀ vs x, MfEl w vs x → MfEl w' vs x := by
  rintro vs x ⟨A, n, c, rfl, h⟩
  exact ⟨A, n, c, rfl, h.below hb⟩

theorem da_mf {w : World} {B a mb p i : Nat} {L : Al Nat} {F : Nat → Fl} {tv : Value} {d : D} {cs : Array Value} (h : Da w B a mb L F tv d) (hh : w.heap[p]? = some (.cells cs 75)) (u : Value) : Da (w.setCell ⟨p, i, none⟩ u) B a mb L F tv d := by
  refine h.kept (grown_set w ⟨p, i, none⟩ u) (fun e => ?_) (fun e => ?_) (fun q hq e => ?_) (NoE.of hh (by intro cs fr e; injection e with _ e2 _; exact absurd e2 (by decide))) (NoE.of hh (by intro cs fr e; injection e with _ e2 _; exact absurd e2 (by decide)))
  · injection e with e
    simp only at e
    subst e
    have := h.blk
    rw [hh] at this
    injection this with this
    injection this with _ e2 _
    exact absurd e2 (by decide)
  · injection e with e
    simp only at e
    subst e
    obtain ⟨es, cl, hm⟩ := h.mblk
    rw [hh] at hm
    injection hm with hm
    cases hm
  · injection e with e
    simp only at e
    obtain ⟨_, v, h2, _⟩ := h.files q hq
    rw [e, hh] at h2
    injection h2 with h2
    injection h2 with _ e2 _
    exact absurd e2 (by decide)

theorem Gr.mono {k k' : Nat} {best : Option Mf} {d : D} (h : Gr cod k best d) (hk : k ≤ k') : Gr cod k' best d :=
  ⟨h.inv, h.down, h.tr, h.room, h.tmp_, Nat.le_trans h.len hk, by have := h.ops; omega, h.all, h.best⟩
theorem Gr.bd {k : Nat} {best : Option Mf} {d : D} (h : Gr cod k best d) : Bd d (4 * k) 65536 :=
  ⟨h.inv, h.ops, by rw [h.tr]; simp, by have := h.inv.room; rw [h.room] at this; exact this, by rw [h.room]; decide⟩
theorem Gr.start : Gr cod 0 none (new 65536) :=
  ⟨inv_new _, rfl, rfl, rfl, rfl, Nat.le_refl _, Nat.le_refl _, fun x f h => (by cases h), fun m h => (by cases h)⟩
theorem better_val {best : Option Mf} {m : Mf} (hm : cod.ok m) (hb : ∀ m0, best = some m0 → cod.ok m0) : better cod best m = if (bestV best).1 ≤ m.1 then some m else best := by
  cases best with
  | none =>
    have h1 := (may_facts (g := m.1) (la := m.2.1) (ss := m.2.2) hm).1
    have : (0 : Int) ≤ m.1 := by unfold okN at h1; rw [decide_eq_true_eq] at h1; omega
    rw [if_pos (show (bestV none).1 ≤ m.1 from this)]
    rfl
  | some m0 => rfl
theorem best_gen {best : Option Mf} (hb : ∀ m0, best = some m0 → cod.ok m0) : decide ((bestV best).1 > 0) = best.isSome := by
  cases best with
  | none => rfl
  | some m =>
    have h1 := (may_facts (g := m.1) (la := m.2.1) (ss := m.2.2) (hb m rfl)).1
    unfold okN at h1
    rw [decide_eq_true_eq] at h1
    simp [bestV]
    omega

set_option maxHeartbeats 8000000 in
set_option maxRecDepth 100000 in
theorem great_law (A : Option Addr) (n c : Nat) (l : List Mf) (W : World) (hE : Er.En W.heap.size W) (hEb : Eb W.heap.size W) (hL : Sq MfEl 3 W A n c l) :
    Calls Tryz.prog 8 #[.slice A n c] W fun e w' => e = .returned (.bool true) ∧ Below W.heap.size W w' := by
  obtain ⟨T, hT⟩ : ∃ T, W.heap.size = T := ⟨_, rfl⟩
  have hTe : Hid (∀ w', Below T W w' → Te T w') := Lib.hid fun w' hb => by have h1 := Te.of hE; rw [hT] at h1; exact h1.on hb
  have hEb' : Hid (∀ w', Below T W w' → Eb T w') := Lib.hid fun w' hb => by have h1 := hEb; rw [hT] at h1; exact h1.on hb
  have hEn : Hid (∀ w', Below T W w' → Er.En T w') := Lib.hid fun w' hb => by have h1 := hE; rw [hT] at h1; exact h1.on hb
  have hel : Hid (∀ w', Below T W w' → ∀ vs x, MfEl W vs x → MfEl w' vs x) := Lib.hid fun w' hb => MfEl.below (by rw [hT]; exact hb)
  have hle := hL.le
  have hmx := hL.max
  have hL' := Lib.hid hL
  have hT' := Lib.hid hT
  clear hE hEb hL
  go_enter Tryz.func8, Tryz.ntmps8
  go_wp2_with fail
  refine (Ma.awake_any W (hTe.out _ (Below.refl _ _)).tens).mono ?_
  rintro e w2 ⟨rfl, hb2⟩
  have hx2 := Lib.hid (hb2.mono (show T ≤ W.heap.size by omega))
  have hs2 := hb2.size
  clear hb2
  go_wp2_with fail
  refine (New_any w2 65536).mono ?_
  rintro e w3 ⟨a, mb, rfl, hD3, hb3⟩
  obtain ⟨B, hB⟩ : ∃ B, w2.heap.size = B := ⟨_, rfl⟩
  have hTB : T ≤ B := by omega
  have hD3' : Hid (∃ L F tv, Da w3 B a mb L F tv (new 65536)) := Lib.hid ⟨[], fun _ => ⟨[], 0⟩, _, hD3.out B (fun _ => ⟨[], 0⟩) (by omega)⟩
  have hx3 := Lib.hid (hx2.out.trans (hb3.mono (by omega)))
  have hs3 := hb3.size
  have hba4 := below_alloc w3 (.cells #[.int .i64 0, .int .i64 0, .slice none 0 0] 75)
  have hm4 := mb_new w3 0 0 none 0 0
  obtain ⟨p4, hp4⟩ : ∃ p4, w3.heap.size = p4 := ⟨_, rfl⟩
  obtain ⟨w4, hw4⟩ : ∃ w4, w3.alloc (.cells #[.int .i64 0, .int .i64 0, .slice none 0 0] 75) = w4 := ⟨_, rfl⟩
  rw [hw4] at hba4 hm4
  rw [hp4] at hm4
  have hS4 : Hid (Sd B a mb (new 65536) w4 w4) := Lib.hid ⟨Below.refl _ _, Fm.refl _, (Sd.bel (w := w3) (w1 := w3) ⟨Below.refl _ _, Fm.refl _, hD3'.out⟩ hba4).2.2⟩
  have hx4 := Lib.hid (hx3.out.trans (hba4.mono (by omega)))
  have hm4' := Lib.hid hm4
  have hB4 : B ≤ w4.heap.size := Sd.le hS4.out
  have hp4B : B ≤ p4 := by omega
  clear hb3 hD3 hD3' hba4 hm4 hB
  have hw4' := Lib.hid hw4
  have hp4' := Lib.hid hp4
  clear hw4 hp4
  go_upto_region 5 with fail
  rw [hw4'.out, hp4'.out]
  go_wp2_with fail
  go_loopw [5] (fun iv wr => ∃ (k : Nat) (best : Option Mf) (d : D) (Ab : Option Addr) (nb cb : Nat), k ≤ n ∧ k ≤ 12 ∧ iv = .int .i64 k ∧ Hid (Gr cod k best d) ∧ Hid (Below B w4 wr) ∧ Hid (∃ L F tv, Da wr B a mb L F tv d) ∧ Hid (Mb wr p4 (bestV best).1 (bestV best).2.1 Ab nb cb) ∧ Hid (∀ w', Below T W w' → Is w' Ab nb cb (bestV best).2.2)) (fun iv _ => n - (intOf iv).toNat)
  case atStart => exact ⟨0, none, new 65536, none, 0, 0, by omega, by omega, rfl, Lib.hid Gr.start, Lib.hid (Below.refl _ _), Lib.hid hS4.out.2.2, hm4', Lib.hid (fun _ _ => Rd.none_ _)⟩
  case round =>
    obtain ⟨k, best, d, Ab, nb, cb, hk, hk12, rfl, hGr, hbw, hDa, hMb, hIb⟩ := hrel
    have hxr := Lib.hid (hx4.out.trans (hbw.out.mono (by omega)))
    by_cases hend : k < n ∧ k < 12
    · obtain ⟨hlt, h12⟩ := hend
      have i1 : decide ((k : Int) < (n : Int)) = true := by rw [decide_eq_true_eq]; omega
      have i2 : decide (k < n) = true := by rw [decide_eq_true_eq]; omega
      have i3 : (k : Int) < (n : Int) := by omega
      have g1 : decide ((k : Int) < (12 : Int)) = true := by rw [decide_eq_true_eq]; omega
      have g2 : decide (k < 12) = true := by rw [decide_eq_true_eq]; omega
      obtain ⟨pb, off, m, vs, rfl, hpb, hmk, hvs, hel0, hcs⟩ := hL'.out.at_ hlt
      have hpb' : pb < T := by rw [← hT'.out]; exact hpb
      have helW : Hid (∀ w', Below T W w' → MfEl w' vs m) := Lib.hid fun w' hb => hel.out w' hb vs m hel0
      obtain ⟨Am, nm, cm, rfl, hIm⟩ := hel0
      have hMc : Hid (∀ z, Below T W z → z.cell? ⟨pb, off + k * 3, none⟩ = some (.int .i64 m.1) ∧ z.cell? ⟨pb, off + k * 3 + 1, none⟩ = some (.int .i64 m.2.1) ∧ z.cell? ⟨pb, off + k * 3 + 2, none⟩ = some (.slice Am nm cm)) := Lib.hid fun z hb =>
        ⟨(hb.cell (p := ⟨pb, off + k * 3, none⟩) hpb').trans (hcs 0 _ rfl), (hb.cell (p := ⟨pb, off + k * 3 + 1, none⟩) hpb').trans (hcs 1 _ rfl), (hb.cell (p := ⟨pb, off + k * 3 + 2, none⟩) hpb').trans (hcs 2 _ rfl)⟩
      have hIat : Hid (∀ w', Below T W w' → Is w' Am nm cm m.2.2) := Lib.hid fun w' hb => hIm.below (by rw [hT'.out]; exact hb)
      obtain ⟨gm, lm, sm⟩ := m
      simp only at hMc hIat
      clear hcs hvs hmk hIm helW hel
      obtain ⟨c0, c1, c2⟩ := hMc.out _ hxr.out
      by_cases h1000 : 1000 < nm
      · have j0 : decide ((1000 : Int) < (nm : Int)) = true := by rw [decide_eq_true_eq]; omega
        have j1 : decide (1000 < nm) = true := by rw [decide_eq_true_eq]; omega
        go_wp2_with fail
        go_ret
        exact ⟨rfl, by rw [hT'.out]; exact hxr.out⟩
      have j0 : decide ((1000 : Int) < (nm : Int)) = false := by rw [decide_eq_false_iff_not]; omega
      have j1 : decide (1000 < nm) = false := by rw [decide_eq_false_iff_not]; omega
      have hBr : B ≤ wr.heap.size := by have := hbw.out.size; omega
      have hG := hGr.out.bd
      have hw := Write_any wr B a mb (4 * k) 65536 d ⟨Below.refl _ _, Kc.refl _, hDa.out⟩ hG (by omega) (by omega) (te_up' (hTe.out _ hxr.out) (by omega) hBr) gm lm Am nm cm sm (fun w' hb => hIat.out w' (hxr.out.trans (hb.mono (by omega))))
      obtain ⟨X, hX⟩ : ∃ X, writeM d gm lm sm = X := ⟨_, rfl⟩
      rw [hX] at hw
      have hw' := Lib.hid hw
      have hX' := Lib.hid hX
      clear hw hX hG h1000
      go_wp2_with fail
      refine hw'.out.mono ?_
      rintro e w5 ⟨hst, er, rfl, hor⟩
      have hb5 := Lib.hid (hbw.out.trans hst.1)
      have hx5 := Lib.hid (hx4.out.trans (hb5.out.mono (by omega)))
      have hD5 := Lib.hid hst.2.2
      have hM5 := Lib.hid (mb_fm hMb.out hst.2.1)
      have hXe : Hid (Hxm w5 X.1 gm er) := Lib.hid hor
      clear hst hor hw' c0 c1 c2
      obtain ⟨c0, c1, c2⟩ := hMc.out _ hx5.out
      have hs5 := hx5.out.size
      go_wp2_with fail
      refine (refMay_any gm lm Am nm cm sm w5 (hIat.out _ hx5.out)).mono ?_
      rintro e w6 ⟨rfl, hb6⟩
      have hb6' := Lib.hid (hb5.out.trans (hb6.mono (by have := hb5.out.size; omega)))
      have hx6 := Lib.hid (hx4.out.trans (hb6'.out.mono (by omega)))
      obtain ⟨L5, F5, tv5, hDa5⟩ := hD5.out
      have hD6 : Hid (∃ L F tv, Da w6 B a mb L F tv X.2) := Lib.hid ⟨L5, F5, tv5, hDa5.below hb6⟩
      have hM6 := Lib.hid (hM5.out.below hb6)
      have hXe6 := Lib.hid (hXe.out.below hb6)
      clear hb6 hDa5 hD5 hM5 hXe hb5 c0 c1 c2
      cases hmy : mayM gm lm sm with
      | false =>
        have hX2 : Hid (X = (80, d)) := Lib.hid (by rw [← hX'.out]; unfold writeM; rw [hmy, if_neg (by simp)])
        obtain ⟨X1, X2⟩ := X
        obtain ⟨rfl, rfl⟩ : X1 = 80 ∧ X2 = d := by have := hX2.out; simpa using this
        clear hmy hX' hX2
        simp only at hXe6 hD6
        go_wp2_with fail
        refine (hXe6.out.code (hEn.out _ hx6.out)).mono ?_
        rintro e w7 ⟨rfl, hb7⟩
        have hb7' := Lib.hid (hb6'.out.trans (hb7.mono (by have := hb6'.out.size; omega)))
        obtain ⟨L5, F5, tv5, hDa5⟩ := hD6.out
        have hD7 : Hid (∃ L F tv, Da w7 B a mb L F tv X2) := Lib.hid ⟨L5, F5, tv5, hDa5.below hb7⟩
        have hM7 := Lib.hid (hM6.out.below hb7)
        clear hb7 hDa5
        go_wp2_with fail
        go_roundw
        case rel => exact ⟨k + 1, best, X2, Ab, nb, cb, by omega, by omega, by go_num, Lib.hid (hGr.out.mono (by omega)), hb7', hD7, hM7, hIb⟩
        case measure => simp [intOf]; omega
      | true =>
        obtain ⟨hz, hGr2⟩ := hGr.out.write_ good (by omega) (m := (gm, lm, sm)) hmy
        rw [← writeM_may hmy, hX'.out] at hz hGr2
        rw [better_val (m := (gm, lm, sm)) hmy (fun m0 h => (hGr.out.best m0 h).1)] at hGr2
        simp only at hGr2
        obtain ⟨X1, X2⟩ := X
        simp only at hz hGr2 hXe6 hD6
        subst hz
        have hGr2' := Lib.hid hGr2
        clear hmy hX' hGr2
        go_wp2_with fail
        refine (hXe6.out.code (hEn.out _ hx6.out)).mono ?_
        rintro e w7 ⟨rfl, hb7⟩
        have hb7' := Lib.hid (hb6'.out.trans (hb7.mono (by have := hb6'.out.size; omega)))
        have hx7 := Lib.hid (hx4.out.trans (hb7'.out.mono (by omega)))
        obtain ⟨L5, F5, tv5, hDa5⟩ := hD6.out
        have hD7 : Hid (∃ L F tv, Da w7 B a mb L F tv X2) := Lib.hid ⟨L5, F5, tv5, hDa5.below hb7⟩
        have hM7 := Lib.hid (hM6.out.below hb7)
        obtain ⟨c0, c1, c2⟩ := hMc.out _ hx7.out
        obtain ⟨m0, m1, m2, _⟩ := hM7.out.mf
        clear hb7 hDa5
        by_cases hge : (bestV best).1 ≤ gm
        · have j2 : decide (gm ≥ (bestV best).1) = true := decide_eq_true hge
          have j3 : decide ((bestV best).1 ≤ gm) = true := decide_eq_true hge
          have hGr3 := hGr2'.out
          rw [if_pos hge] at hGr3
          have hGr3' := Lib.hid hGr3
          clear hge hGr3
          go_wp2_with fail
          go_quiet (fail)
          have hbd := Joins.below_draws w7.heap.size w7 nq
          have hbd2 := Lib.hid hbd
          have hM8 := Lib.hid (hM7.out.below hbd)
          obtain ⟨L5, F5, tv5, hDa5⟩ := hD7.out
          have hD8 := Lib.hid (hDa5.below hbd)
          generalize w7.drewN nq = w8 at hM8 hD8 hbd2 ⊢
          have hx8 := Lib.hid (hx7.out.trans (hbd2.out.mono (by have := hx7.out.size; have := hT'.out; omega)))
          have hb8 := Lib.hid (hb7'.out.trans (hbd2.out.mono (by have := hb7'.out.size; omega)))
          clear hbd hDa5 c0 c1 c2 m0 m1 m2 j2 j3
          obtain ⟨c0, c1, c2⟩ := hMc.out _ hx8.out
          obtain ⟨m0, m1, m2, _⟩ := hM8.out.mf
          have f0 := hM8.out.frozen 0
          have f1 := hM8.out.frozen 1
          have f2 := hM8.out.frozen 2
          go_wp2_with fail
          go_roundw
          case rel =>
            have hm' := mb_set hM8.out gm lm Am nm cm
            have e1 := setCell_mb hM8.out (i := 0) (.int .i64 gm)
            have e2 := setCell_mb e1 (i := 1) (.int .i64 lm)
            exact ⟨k + 1, some (gm, lm, sm), X2, Am, nm, cm, by omega, by omega, by go_num, hGr3', Lib.hid (Ma.below_set (Ma.below_set (Ma.below_set hb8.out hp4B _) hp4B _) hp4B _), Lib.hid ⟨L5, F5, tv5, da_mf (da_mf (da_mf hD8.out hM8.out _) e1 _) e2 _⟩, Lib.hid hm', hIat⟩
          case measure => simp [intOf]; omega
        · have j2 : decide (gm ≥ (bestV best).1) = false := decide_eq_false hge
          have j3 : decide ((bestV best).1 ≤ gm) = false := decide_eq_false hge
          have hGr3 := hGr2'.out
          rw [if_neg hge] at hGr3
          have hGr3' := Lib.hid hGr3
          clear hge hGr3
          go_wp2_with fail
          go_quiet (fail)
          have hbd := Joins.below_draws w7.heap.size w7 nq
          have hbd2 := Lib.hid hbd
          have hM8 := Lib.hid (hM7.out.below hbd)
          obtain ⟨L5, F5, tv5, hDa5⟩ := hD7.out
          have hD8 : Hid (∃ L F tv, Da (w7.drewN nq) B a mb L F tv X2) := Lib.hid ⟨L5, F5, tv5, hDa5.below hbd⟩
          generalize w7.drewN nq = w8 at hM8 hD8 hbd2 ⊢
          have hb8 := Lib.hid (hb7'.out.trans (hbd2.out.mono (by have := hb7'.out.size; omega)))
          clear hbd hDa5 c0 c1 c2 m0 m1 m2 j2 j3
          go_wp2_with fail
          go_roundw
          case rel => exact ⟨k + 1, best, X2, Ab, nb, cb, by omega, by omega, by go_num, hGr3', hb8, hD8, hM8, hIb⟩
          case measure => simp [intOf]; omega
    · have hendd : (decide ((k : Int) < (n : Int)) = false ∧ decide (k < n) = false) ∨ (k < n ∧ k = 12) := by
        by_cases h9 : k < n
        · exact .inr ⟨h9, by omega⟩
        · exact .inl ⟨by rw [decide_eq_false_iff_not]; omega, by rw [decide_eq_false_iff_not]; omega⟩
      have hBr : B ≤ wr.heap.size := by have := hbw.out.size; omega
      rcases hendd with ⟨i1, i2⟩ | ⟨h9, h12⟩
      · clear hend
        go_wp2_with fail
        refine (Newest_any wr B a mb (4 * k) 65536 d ⟨Below.refl _ _, Kc.refl _, hDa.out⟩ hGr.out.bd (by omega) (te_up' (hTe.out _ hxr.out) (by omega) hBr) (eb_up' (hEb'.out _ hxr.out) (by omega))).mono ?_
        rintro e w5 ⟨r, An, nn, cn, hnew, rfl, hIn, hb5⟩
        obtain rfl := hGr.out.newest good (hnew.new hGr.out.inv.up)
        have hbg := best_gen fun m0 h => (hGr.out.best m0 h).1
        obtain ⟨bm, hbm⟩ : ∃ bm, bestV r = bm := ⟨_, rfl⟩
        obtain ⟨bb, hbb⟩ : ∃ bb, r.isSome = bb := ⟨_, rfl⟩
        rw [hbm] at hMb hIb hIn hbg ⊢
        rw [hbb] at hbg ⊢
        obtain ⟨gg, ll, ssg⟩ := bm
        simp only at hMb hIb hIn hbg ⊢
        have hba6 := below_alloc w5 (.cells #[.int .i64 gg, .int .i64 ll, .slice An nn cn] 75)
        have hmn := mb_new w5 gg ll An nn cn
        obtain ⟨pn, hpn⟩ : ∃ pn, w5.heap.size = pn := ⟨_, rfl⟩
        obtain ⟨w6, hw6⟩ : ∃ w6, w5.alloc (.cells #[.int .i64 gg, .int .i64 ll, .slice An nn cn] 75) = w6 := ⟨_, rfl⟩
        rw [hw6] at hba6 hmn
        rw [hpn] at hmn
        have hbr6 := hb5.trans (hba6.mono hb5.size)
        have hx6 := Lib.hid (hxr.out.trans (hbr6.mono (by omega)))
        have hM6 := hMb.out.below hbr6
        have hI6 : Hid (Is w6 An nn cn ssg) := Lib.hid (Rd.below hIn hba6)
        obtain ⟨n0, n1, n2, _⟩ := hmn.mf
        obtain ⟨m0, m1, m2, _⟩ := hM6.mf
        have hbq : (bb == bb) = true := by simp
        have hbg2 : decide (0 < gg) = bb := hbg
        clear hnew hb5 hba6 hmn hbr6 hM6 hIn hbm hbb
        go_wp2_with fail
        clear hw6 hpn
        refine (refSame_any gg ll An nn cn Ab nb cb ssg w6 hI6.out (hIb.out _ hx6.out)).mono ?_
        rintro e w7 ⟨rfl, hb7⟩
        have hx7 := Lib.hid (hx6.out.trans (hb7.mono (by have := hx6.out.size; have := hT'.out; omega)))
        clear hb7
        go_wp2_with fail
        go_ret
        exact ⟨rfl, by rw [hT'.out]; exact hx7.out⟩
      · have i1 : decide ((k : Int) < (n : Int)) = true := by rw [decide_eq_true_eq]; omega
        have i2 : decide (k < n) = true := by rw [decide_eq_true_eq]; omega
        have g1 : decide ((k : Int) < (12 : Int)) = false := by rw [decide_eq_false_iff_not]; omega
        have g2 : decide (k < 12) = false := by rw [decide_eq_false_iff_not]; omega
        have h12' := Lib.hid h12
        clear hend h12
        go_wp2_with fail
        refine (Newest_any wr B a mb (4 * k) 65536 d ⟨Below.refl _ _, Kc.refl _, hDa.out⟩ hGr.out.bd (by omega) (te_up' (hTe.out _ hxr.out) (by omega) hBr) (eb_up' (hEb'.out _ hxr.out) (by omega))).mono ?_
        rintro e w5 ⟨r, An, nn, cn, hnew, rfl, hIn, hb5⟩
        obtain rfl := hGr.out.newest good (hnew.new hGr.out.inv.up)
        have hbg := best_gen fun m0 h => (hGr.out.best m0 h).1
        obtain ⟨bm, hbm⟩ : ∃ bm, bestV r = bm := ⟨_, rfl⟩
        obtain ⟨bb, hbb⟩ : ∃ bb, r.isSome = bb := ⟨_, rfl⟩
        rw [hbm] at hMb hIb hIn hbg ⊢
        rw [hbb] at hbg ⊢
        obtain ⟨gg, ll, ssg⟩ := bm
        simp only at hMb hIb hIn hbg ⊢
        have hba6 := below_alloc w5 (.cells #[.int .i64 gg, .int .i64 ll, .slice An nn cn] 75)
        have hmn := mb_new w5 gg ll An nn cn
        obtain ⟨pn, hpn⟩ : ∃ pn, w5.heap.size = pn := ⟨_, rfl⟩
        obtain ⟨w6, hw6⟩ : ∃ w6, w5.alloc (.cells #[.int .i64 gg, .int .i64 ll, .slice An nn cn] 75) = w6 := ⟨_, rfl⟩
        rw [hw6] at hba6 hmn
        rw [hpn] at hmn
        have hbr6 := hb5.trans (hba6.mono hb5.size)
        have hx6 := Lib.hid (hxr.out.trans (hbr6.mono (by omega)))
        have hM6 := hMb.out.below hbr6
        have hI6 : Hid (Is w6 An nn cn ssg) := Lib.hid (Rd.below hIn hba6)
        obtain ⟨n0, n1, n2, _⟩ := hmn.mf
        obtain ⟨m0, m1, m2, _⟩ := hM6.mf
        have hbq : (bb == bb) = true := by simp
        have hbg2 : decide (0 < gg) = bb := hbg
        clear hnew hb5 hba6 hmn hbr6 hM6 hIn hbm hbb
        go_wp2_with fail
        clear hw6 hpn
        refine (refSame_any gg ll An nn cn Ab nb cb ssg w6 hI6.out (hIb.out _ hx6.out)).mono ?_
        rintro e w7 ⟨rfl, hb7⟩
        have hx7 := Lib.hid (hx6.out.trans (hb7.mono (by have := hx6.out.size; have := hT'.out; omega)))
        clear hb7
        go_wp2_with fail
        go_ret
        exact ⟨rfl, by rw [hT'.out]; exact hx7.out⟩
end Go.Proofs.YtfdpnjebhllpkaaGreatDoor.Mn
