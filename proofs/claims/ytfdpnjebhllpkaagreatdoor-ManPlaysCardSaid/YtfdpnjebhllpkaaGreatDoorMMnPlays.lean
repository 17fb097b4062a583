/- The law ManPlays (printed by wip/gen/mn_plays.py). -/
import Derived.Test.YtfdpnjebhllpkaaGreatDoorMMnRnew
import Derived.Test.YtfdpnjebhllpkaaGreatDoorMMnCleans
namespace Go.Proofs.YtfdpnjebhllpkaaGreatDoor.Mn
open Go.RowKit Dk Ma Sg

theorem Hxm.rm {w w' : World} {cc g : Int} {e : Value} (h : Hxm w cc g e) (hf : Rm w w') : Hxm w' cc g e := by
  rcases h with h | ⟨h1, b, b2, rfl, h2, h3⟩
  · exact .inl h
  · exact .inr ⟨h1, b, b2, rfl, hf _ _ h2 (fun cs fr e => by injection e with _ e _; exact absurd e (by decide)) (fun cs fr e => by injection e with _ e _; exact absurd e (by decide)), hf _ _ h3 (fun cs fr e => by injection e with _ e _; exact absurd e (by decide)) (fun cs fr e => by injection e with _ e _; exact absurd e (by decide))⟩
theorem Hxm.at_ {w : World} {cc g : Int} {e : Value} {T : Nat} (h : Hxm w cc g e) (hE : Er.En T w) : Calls Tryz.prog 56 #[e] w fun e' w' => e' = .returned (.int .i64 (if cc = 0 then 0 else g)) ∧ Below w.heap.size w w' := by
  rcases h with ⟨rfl, rfl⟩ | ⟨h1, h2⟩
  · exact Er.At_ok w
  · rw [if_neg h1]
    exact Er.At_any cc g [manT] e T w hE h2.fe
theorem may_ne {x : Name} (h : may x = true) : x ≠ [] := fun e => by
  rw [e] at h
  exact absurd h (by decide)
/-- The code's disk, the document's. -/
structure St2 (Ba a mb Br rb : Nat) (w : World) (dc dr : D) : Prop where
  c : ∃ L F tv, Da w Ba a mb L F tv dc
  r : ∃ lv tv, Ra w Br rb lv tv dr
section
variable {Ba a mb Br rb : Nat} {w w' : World} {dc dr dc' dr' : D}
theorem St2.bel (h : St2 Ba a mb Br rb w dc dr) (hb : Below w.heap.size w w') : St2 Ba a mb Br rb w' dc dr := by
  obtain ⟨⟨L, F, tv, h1⟩, lv, tv2, h2⟩ := h
  exact ⟨⟨L, F, tv, h1.below hb⟩, lv, tv2, h2.below hb⟩
theorem St2.sd (h : St2 Ba a mb Br rb w dc dr) : Sd Ba a mb dc w w := ⟨Below.refl _ _, Fm.refl _, h.c⟩
theorem St2.sc (h : St2 Ba a mb Br rb w dc dr) : Sc Ba a mb dc w w := ⟨Below.refl _ _, Kc.refl _, h.c⟩
theorem St2.rs (h : St2 Ba a mb Br rb w dc dr) : Rs Br rb dr w w := ⟨Below.refl _ _, Rm.refl _, h.r⟩
theorem St2.opc (h : St2 Ba a mb Br rb w dc dr) (hs : Sd Ba a mb dc' w w') : St2 Ba a mb Br rb w' dc' dr := by
  obtain ⟨_, lv, tv2, h2⟩ := h
  exact ⟨hs.2.2, lv, tv2, h2.fm hs.2.1⟩
theorem St2.opr (h : St2 Ba a mb Br rb w dc dr) (hs : Rs Br rb dr' w w') (hB : Ba ≤ Br) : St2 Ba a mb Br rb w' dc dr' := by
  obtain ⟨⟨L, F, tv, h1⟩, _⟩ := h
  exact ⟨⟨L, F, tv, h1.rm hs.2.1 ⟨hs.1.os, hs.1.tape, hs.1.output, hs.1.size, fun k hk => hs.1.block k (by omega)⟩⟩, hs.2.2⟩
end

set_option maxHeartbeats 16000000 in
set_option maxRecDepth 100000 in
theorem mplays_law (A : Option Addr) (n c : Nat) (l : List In) (g la : Int) (As : Option Addr) (ns cs_ : Nat) (ss : List Int) (At : Option Addr) (nt ct : Nat) (trs : List Tr) (W : World) (hE : Er.En W.heap.size W) (hEb : Eb W.heap.size W)
    (hF : Sq FeEl 3 W A n c l) (hsz : ∀ f ∈ l, f.data.length ≤ 140737488351232) (hI : Is W As ns cs_ ss) (hq : Sq TrEl 3 W At nt ct trs) :
    Calls Tryz.prog 10 #[.slice A n c, .agg #[.int .i64 g, .int .i64 la, .slice As ns cs_], .slice At nt ct] W fun e w' => e = .returned (.bool true) ∧ Below W.heap.size W w' := by
  obtain ⟨T, hT⟩ : ∃ T, W.heap.size = T := ⟨_, rfl⟩
  have hFat : Hid (∀ w', Below T W w' → Sq FeEl 3 w' A n c l) := Lib.hid fun w' hb => hF.below (FeEl.below (by rw [hT]; exact hb)) (by rw [hT]; exact hb)
  have hIat : Hid (∀ w', Below T W w' → Is w' As ns cs_ ss) := Lib.hid fun w' hb => hI.below (by rw [hT]; exact hb)
  have hqat : Hid (∀ w', Below T W w' → Sq TrEl 3 w' At nt ct trs) := Lib.hid fun w' hb => hq.below (fun _ _ h => h) (by rw [hT]; exact hb)
  have hTe : Hid (∀ w', Below T W w' → Te T w') := Lib.hid fun w' hb => by have h1 := Te.of hE; rw [hT] at h1; exact h1.on hb
  have hEb' : Hid (∀ w', Below T W w' → Eb T w') := Lib.hid fun w' hb => by have h1 := hEb; rw [hT] at h1; exact h1.on hb
  have hEn : Hid (∀ w', Below T W w' → Er.En T w') := Lib.hid fun w' hb => by have h1 := hE; rw [hT] at h1; exact h1.on hb
  have hmb := Lib.hid (mb_new W g la As ns cs_)
  have hba := Lib.hid (below_alloc W (.cells #[.int .i64 g, .int .i64 la, .slice As ns cs_] 75))
  have hT' := Lib.hid hT
  have hsz' := Lib.hid hsz
  have hlt := hq.len
  have hleq := hq.le
  have hmxq := hq.max
  have hlI := Rd.le hI
  have hmI := Rd.max hI
  obtain ⟨w1, hw1⟩ : ∃ w1, W.alloc (.cells #[.int .i64 g, .int .i64 la, .slice As ns cs_] 75) = w1 := ⟨_, rfl⟩
  have hw1s : w1.heap.size = T + 1 := by rw [← hw1, World.size_alloc, hT]
  rw [hw1, hT] at hmb hba
  clear hE hF hI hEb hsz hq
  go_enter Tryz.func10, Tryz.ntmps10
  go_upto_region 1 with fail
  clear hw1 hT
  go_wp2_with fail
  refine (Ma.awake_any w1 (hTe.out _ hba.out).tens).mono ?_
  rintro e w2 ⟨rfl, hb2⟩
  have hx2 := Lib.hid (hba.out.trans (hb2.mono (by omega)))
  have hm2 := Lib.hid (hmb.out.below hb2)
  have hs2 := hb2.size
  clear hb2
  go_wp2_with fail
  refine (Small_any A n c l w2 (hFat.out _ hx2.out) hsz'.out).mono ?_
  rintro e w2' ⟨b, rfl, hsm, rfl⟩
  have hsm' := Lib.hid hsm
  clear hsm
  cases b with
  | false =>
    go_wp2_with fail
    go_ret
    exact ⟨rfl, by rw [hT'.out]; exact hx2.out⟩
  | true =>
  have hSm := Lib.hid (hsm'.out rfl)
  obtain ⟨k0, k1, k2, _⟩ := hm2.out.mf
  clear hsm'
  by_cases h1000 : 1000 < ns
  · have j0 : decide ((1000 : Int) < (ns : Int)) = true := by rw [decide_eq_true_eq]; omega
    have j1 : decide (1000 < ns) = true := by rw [decide_eq_true_eq]; omega
    go_wp2_with fail
    go_ret
    exact ⟨rfl, by rw [hT'.out]; exact hx2.out⟩
  have j0 : decide ((1000 : Int) < (ns : Int)) = false := by rw [decide_eq_false_iff_not]; omega
  have j1 : decide (1000 < ns) = false := by rw [decide_eq_false_iff_not]; omega
  by_cases h100 : 100 < nt
  · have j2 : decide ((100 : Int) < (nt : Int)) = true := by rw [decide_eq_true_eq]; omega
    have j3 : decide (100 < nt) = true := by rw [decide_eq_true_eq]; omega
    clear h1000
    go_wp2_with fail
    go_ret
    exact ⟨rfl, by rw [hT'.out]; exact hx2.out⟩
  have j2 : decide ((100 : Int) < (nt : Int)) = false := by rw [decide_eq_false_iff_not]; omega
  have j3 : decide (100 < nt) = false := by rw [decide_eq_false_iff_not]; omega
  have hnt := Lib.hid (show nt ≤ 100 by omega)
  clear h1000 h100
  go_wp2_with fail
  have hll : n ≤ 1000 := by have := hSm.out.len; have := (hFat.out _ hx2.out).len; omega
  have hszl : Hid (∀ f ∈ l, f.nm.length ≤ 1000 ∧ f.data.length ≤ 1000000) := Lib.hid fun f hf => ⟨hSm.out.nm f hf, by have h1 := hSm.out.sum; have h2 := le_sum_of_mem hf; omega⟩
  refine (Load_any w2 A n c l 32768 (hFat.out _ hx2.out) hll hszl.out (by omega)).mono ?_
  rintro e w3 ⟨hb3, hload⟩
  have hx3 := Lib.hid (hx2.out.trans (hb3.mono (by omega)))
  have hm3 := Lib.hid (hm2.out.below hb3)
  have hs3 := hb3.size
  clear hb3 j0 j1 j2 j3 k0 k1 k2
  cases hld : Dk.load l 32768 with
  | none =>
    rw [hld] at hload
    obtain rfl := hload
    have hrl := rLoad_any w3 A n c l 32768 (hFat.out _ hx3.out) hll hszl.out (by omega)
    rw [hld] at hrl
    clear hld
    go_wp2_with fail
    refine hrl.mono ?_
    rintro e w4 ⟨hb4, rfl⟩
    have hx4 := Lib.hid (hx3.out.trans (hb4.mono (by omega)))
    clear hb4 hrl
    go_wp2_with fail
    go_ret
    exact ⟨rfl, by rw [hT'.out]; exact hx4.out⟩
  | some d0 =>
  rw [hld] at hload
  obtain ⟨a, mb, rfl, L0, F0, hD⟩ := hload
  have hrl := rLoad_any w3 A n c l 32768 (hFat.out _ hx3.out) hll hszl.out (by omega)
  rw [hld] at hrl
  obtain ⟨hI, hdn, htr, hop, hrm⟩ := inv_load hld
  have hG0 : Bd d0 0 32768 := ⟨hI, by omega, by rw [htr]; simp, by have := hI.room; rw [hrm] at this; exact this, by rw [hrm]; decide⟩
  have hG := Lib.hid hG0
  have hrl' := Lib.hid hrl
  obtain ⟨Ba, hBa⟩ : ∃ Ba, w2.heap.size = Ba := ⟨_, rfl⟩
  obtain ⟨Br, hBr⟩ : ∃ Br, w3.heap.size = Br := ⟨_, rfl⟩
  rw [hBa] at hD
  have hD' := Lib.hid hD
  have hTB : T ≤ Ba := by omega
  have hBB : Ba ≤ Br := by omega
  have hor : Hid (orphans (live g ss) d0.fs = orphans (needed g ss) d0.fs) := Lib.hid (orphans_eq fun p hp => may_ne (hG.out.inv.names p hp))
  clear hld hrl hI hdn htr hop hrm hG0 hD hBa
  go_wp2_with fail
  refine hrl'.out.mono ?_
  rintro e w4 ⟨hb4, rb, lv, tv, rfl, hR⟩
  have hx4 := Lib.hid (hx3.out.trans (hb4.mono (by omega)))
  have hm4 := Lib.hid (hm3.out.below hb4)
  rw [hBr] at hR
  have hS4 : Hid (St2 Ba a mb Br rb w4 d0 d0) := Lib.hid ⟨⟨L0, F0, _, hD'.out.below hb4⟩, lv, tv, hR⟩
  have hs4 := hb4.size
  clear hb4 hR hD' hrl' hBr hm3
  go_wp2_with fail
  refine (Newest_any w4 Ba a mb 0 32768 d0 hS4.out.sc hG.out (by omega) (te_up' (hTe.out _ hx4.out) hTB (by have := Sd.le hS4.out.sd; omega)) (eb_up' (hEb'.out _ hx4.out) hTB)).mono ?_
  rintro e w5 ⟨r, A5, n5, c5, hn5, rfl, hI5, hb5⟩
  have hba6 := below_alloc w5 (.cells #[.int .i64 (bestV r).1, .int .i64 (bestV r).2.1, .slice A5 n5 c5] 75)
  have hM6 := mb_new w5 (bestV r).1 (bestV r).2.1 A5 n5 c5
  obtain ⟨p11, hp11⟩ : ∃ p11, w5.heap.size = p11 := ⟨_, rfl⟩
  obtain ⟨w6, hw6⟩ : ∃ w6, w5.alloc (.cells #[.int .i64 (bestV r).1, .int .i64 (bestV r).2.1, .slice A5 n5 c5] 75) = w6 := ⟨_, rfl⟩
  rw [hw6] at hba6 hM6
  rw [hp11] at hM6
  have hb46 := hb5.trans (hba6.mono hb5.size)
  have hx6 := Lib.hid (hx4.out.trans (hb46.mono (by omega)))
  have hS6 := Lib.hid (hS4.out.bel hb46)
  have hm6 := Lib.hid (hm4.out.below hb46)
  have hI6 : Hid (Is w6 A5 n5 c5 (bestV r).2.2) := Lib.hid (Rd.below hI5 hba6)
  have hM6' := Lib.hid hM6
  have hn5' := Lib.hid hn5
  have hs6 := hb46.size
  have hnw := refNewest_any w6 Br rb 0 32768 d0 hS6.out.rs hG.out (by omega)
  have hnw' := Lib.hid hnw
  have hw6' := Lib.hid hw6
  have hp11' := Lib.hid hp11
  clear hb5 hI5 hba6 hM6 hb46 hn5 hnw hm4 hS4 hw6 hp11
  go_upto_region 12 with fail
  rw [hw6'.out, hp11'.out]
  go_wp2_with fail
  refine hnw'.out.mono ?_
  rintro e w7 ⟨r2, A7, n7, c7, hn7, rfl, hI7, hb7⟩
  obtain rfl : r = r2 := (hn5'.out.new hG.out.inv.up).unique good (hn7.new hG.out.inv.up)
  obtain ⟨bm, hbm⟩ : ∃ bm, bestV r = bm := ⟨_, rfl⟩
  obtain ⟨bb, hbb⟩ : ∃ bb, r.isSome = bb := ⟨_, rfl⟩
  rw [hbm] at hM6' hI6 hI7 ⊢
  rw [hbb]
  obtain ⟨gg, ll, sg⟩ := bm
  simp only at hM6' hI6 hI7 ⊢
  have hba9 := below_alloc w7 (.cells #[.int .i64 gg, .int .i64 ll, .slice A7 n7 c7] 75)
  have hN9' := mb_new w7 gg ll A7 n7 c7
  obtain ⟨p13, hp13⟩ : ∃ p13, w7.heap.size = p13 := ⟨_, rfl⟩
  obtain ⟨w9, hw9⟩ : ∃ w9, w7.alloc (.cells #[.int .i64 gg, .int .i64 ll, .slice A7 n7 c7] 75) = w9 := ⟨_, rfl⟩
  rw [hw9] at hba9 hN9'
  rw [hp13] at hN9'
  have hb69 := hb7.trans (hba9.mono hb7.size)
  have hx9 := Lib.hid (hx6.out.trans (hb69.mono (by omega)))
  have hS9 := Lib.hid (hS6.out.bel hb69)
  have hm9 := Lib.hid (hm6.out.below hb69)
  have hM9 := Lib.hid (hM6'.out.below hb69)
  have hN9 := Lib.hid hN9'
  have hI9 : Hid (Is w9 A5 n5 c5 sg) := Lib.hid (Rd.below hI6.out hb69)
  have hJ9 : Hid (Is w9 A7 n7 c7 sg) := Lib.hid (Rd.below hI7 hba9)
  have hs9 := hb69.size
  have hw9' := Lib.hid hw9
  have hp13' := Lib.hid hp13
  have hbbn : (bb != bb) = false := by simp
  clear hb7 hI7 hba9 hN9' hb69 hn7 hbm hbb hnw' hn5' hw9 hp13 hm6 hS6 hI6 hM6' hw6' hp11'
  go_upto_region 13 with fail
  rw [hw9'.out, hp13'.out]
  clear hw9' hp13'
  have hSS : Hid (∀ z, Below w9.heap.size w9 z → (z.cell? ⟨p11, 0, none⟩ = some (.int .i64 gg) ∧ z.cell? ⟨p11, 1, none⟩ = some (.int .i64 ll) ∧ z.cell? ⟨p11, 2, none⟩ = some (.slice A5 n5 c5)) ∧ (z.cell? ⟨p13, 0, none⟩ = some (.int .i64 gg) ∧ z.cell? ⟨p13, 1, none⟩ = some (.int .i64 ll) ∧ z.cell? ⟨p13, 2, none⟩ = some (.slice A7 n7 c7)) ∧ (z.cell? ⟨T, 0, none⟩ = some (.int .i64 g) ∧ z.cell? ⟨T, 1, none⟩ = some (.int .i64 la) ∧ z.cell? ⟨T, 2, none⟩ = some (.slice As ns cs_))) := Lib.hid fun z hb => by
    obtain ⟨a0, a1, a2, _⟩ := (hM9.out.below hb).mf
    obtain ⟨b0, b1, b2, _⟩ := (hN9.out.below hb).mf
    obtain ⟨e0, e1, e2, _⟩ := (hm9.out.below hb).mf
    exact ⟨⟨a0, a1, a2⟩, ⟨b0, b1, b2⟩, e0, e1, e2⟩
  refine Pl.wp_region_plan 15 (.take 0 (.take 1 (.take 2 (.take 3 (.take 4 (.take 5 (.run 6 (.take 7 (.take 8 (.take 9 (.take 10 (.take 11 (.take 13 (.take 14 (.run 12 .done)))))))))))))))
    (fun z => (z.cell? ⟨p11, 0, none⟩ = some (.int .i64 gg) ∧ z.cell? ⟨p11, 1, none⟩ = some (.int .i64 ll) ∧ z.cell? ⟨p11, 2, none⟩ = some (.slice A5 n5 c5)) ∧ (z.cell? ⟨p13, 0, none⟩ = some (.int .i64 gg) ∧ z.cell? ⟨p13, 1, none⟩ = some (.int .i64 ll) ∧ z.cell? ⟨p13, 2, none⟩ = some (.slice A7 n7 c7)) ∧ (z.cell? ⟨T, 0, none⟩ = some (.int .i64 g) ∧ z.cell? ⟨T, 1, none⟩ = some (.int .i64 la) ∧ z.cell? ⟨T, 2, none⟩ = some (.slice As ns cs_))) (by kernel_rfl) (by kernel_rfl) (by exact hSS.out _ (bD (Below.refl _ w9))) ?_
  simp only [Pl.fill, List.getElem?_cons_zero, List.getElem?_cons_succ, List.drop_succ_cons, List.drop_zero]
  iterate 6
    refine Pl.take_go ?_ (by rfl) (fun _ _ _ h => h) ?_ ?_
    rotate_left
    · (intro x hSw; (try dsimp only at hSw); go_simp; try with_reducible rfl)
    try simp only [Act.put, List.setIfInBounds_toArray, List.set_cons_zero, List.set_cons_succ]
  refine Pl.run_go (fun K hK => ?_)
  go_simp
  refine (refSame_any gg ll A5 n5 c5 A7 n7 c7 sg _ (Rd.below hI9.out (bD (Below.refl _ w9))) (Rd.below hJ9.out (bD (Below.refl _ w9)))).mono ?_
  rintro e w10 ⟨rfl, hb10⟩
  have hb910 := Lib.hid ((bD (Below.refl w9.heap.size w9)).trans (hb10.mono (by simp)))
  clear hb10
  dsimp only
  refine hK.out _ _ (Pl.more_go _ (fun _ h => h) (by exact hSS.out _ hb910.out) ?_)
  clear hK K
  iterate 7
    refine Pl.take_go ?_ (by rfl) (fun _ _ _ h => h) ?_ ?_
    rotate_left
    · (intro x hSw; (try dsimp only at hSw); go_simp; try with_reducible rfl)
    try simp only [Act.put, List.setIfInBounds_toArray, List.set_cons_zero, List.set_cons_succ]
  refine Pl.run_go (fun K hK => ?_)
  go_simp
  have hx10 := Lib.hid (hx9.out.trans (hb910.out.mono (by omega)))
  have hS10 := Lib.hid (hS9.out.bel hb910.out)
  have hs10 := hb910.out.size
  refine (Orphans_any w10 Ba a mb 0 32768 d0 hS10.out.sc hG.out (te_up' (hTe.out _ hx10.out) hTB (by have := Sd.le hS10.out.sd; omega)) (eb_up' (hEb'.out _ hx10.out) hTB) g la As ns cs_ ss (fun w' hb => hIat.out w' (hx10.out.trans (hb.mono hTB)))).mono ?_
  rintro e w11 ⟨Ao, no, co, rfl, hb11, hso⟩
  have hb911 := Lib.hid (hb910.out.trans (hb11.mono hs10))
  have hx11 := Lib.hid (hx9.out.trans (hb911.out.mono (by omega)))
  have hS11 := Lib.hid (hS10.out.bel hb11)
  have hso' := Lib.hid hso
  have hs11 := hb911.out.size
  clear hb11 hso
  dsimp only
  refine hK.out _ _ (Pl.more_go _ (fun _ h => h) (by exact hSS.out _ hb911.out) ?_)
  clear hK K
  refine Pl.done_go ?_
  have hro := refOrphans_any w11 Br rb 0 32768 d0 hS11.out.rs hG.out g la As ns cs_ ss (fun w' hb => hIat.out w' (hx11.out.trans (hb.mono (by omega))))
  rw [← hor.out] at hro
  have hro' := Lib.hid hro
  clear hro hb910 hS10 hx10
  go_wp2_with fail
  refine hro'.out.mono ?_
  rintro e w12 ⟨Ap, np, cp, rfl, hb12, hsp⟩
  have hb912 := Lib.hid (hb911.out.trans (hb12.mono hs11))
  have hx12 := Lib.hid (hx9.out.trans (hb912.out.mono (by omega)))
  have hS12 := Lib.hid (hS11.out.bel hb12)
  have hso2 := Lib.hid (hso'.out.below hb12)
  have hsp' := Lib.hid hsp
  clear hb12 hsp hso' hro' hS11 hb911
  go_wp2_with fail
  refine (texts_any Ao no co Ap np cp _ w12 hso2.out.1 hsp'.out.1).mono ?_
  rintro e w13 ⟨rfl, q13, rfl⟩
  have hbd := Joins.below_draws w12.heap.size w12 q13
  have hb913 := Lib.hid (hb912.out.trans (hbd.mono hb912.out.size))
  have hx13 := Lib.hid (hx9.out.trans (hb913.out.mono (by omega)))
  have hS13 := Lib.hid (hS12.out.bel hbd)
  generalize w12.drewN q13 = w13 at hb913 hx13 hS13 ⊢
  have hm13 := Lib.hid (hm9.out.below hb913.out)
  have hs13 := hb913.out.size
  clear hbd hb912 hS12 hx12 hso2 hsp' hSS hM9 hN9 hm9 hI9 hJ9 hor hS9
  go_wp2_with fail
  refine (arm_op hS13.out.sc hG.out At nt ct trs (hqat.out _ hx13.out) (by have := hnt.out; omega)).mono ?_
  rintro e w14 ⟨rfl, hst14⟩
  have hS14 := Lib.hid (hS13.out.opc hst14)
  have hx14 := Lib.hid (hx13.out.trans (hst14.1.mono hTB))
  have hm14 := Lib.hid (mb_fm hm13.out hst14.2.1)
  clear hst14 hm13
  go_wp2_with fail
  obtain ⟨lv14, tv14, hR14⟩ := hS14.out.r
  have hra := Lib.hid (rArm_any w14 Br rb lv14 tv14 d0 hR14 At nt ct trs (hqat.out _ hx14.out) (by have := hnt.out; omega))
  clear hR14
  refine hra.out.mono ?_
  rintro e w15 ⟨rfl, hst15⟩
  have hS15 := Lib.hid (hS14.out.opr hst15 hBB)
  have hx15 := Lib.hid (hx14.out.trans (hst15.1.mono (by omega)))
  have hm15 := Lib.hid (mb_rm hm14.out hst15.2.1)
  have hG15 := Lib.hid (hG.out.arm trs (by have := hnt.out; omega))
  have hBw15 : Ba ≤ w15.heap.size := Sd.le hS15.out.sd
  clear hst15 hm14 hra hS14 hS13
  obtain ⟨d1, hd1⟩ : ∃ d1, arm d0 trs = d1 := ⟨_, rfl⟩
  rw [hd1] at hS15 hG15
  clear hd1
  have hwr := Write_any w15 Ba a mb 0 32768 d1 hS15.out.sc hG15.out (by omega) (by omega) (te_up' (hTe.out _ hx15.out) hTB hBw15) g la As ns cs_ ss (fun w' hb => hIat.out w' (hx15.out.trans (hb.mono hTB)))
  have hG2 := bd_writeM hG15.out g la ss
  have hrw := fun (z : World) (hz : Rs Br rb d1 z z) (hx : Below T W z) => refWrite_any z Br rb 0 32768 d1 hz hG15.out (by omega) (by omega) g la As ns cs_ ss (fun w' hb => hIat.out w' (hx.trans (hb.mono (by omega))))
  obtain ⟨X, hX⟩ : ∃ X, writeM d1 g la ss = X := ⟨_, rfl⟩
  rw [hX] at hwr hG2 hrw
  obtain ⟨x1, d2⟩ := X
  simp only at hwr hG2 hrw
  have hwr' := Lib.hid hwr
  have hrw' := Lib.hid hrw
  have hG2' := Lib.hid hG2
  obtain ⟨m0, m1, m2, _⟩ := hm15.out.mf
  clear hwr hrw hG2 hX
  go_wp2_with fail
  refine hwr'.out.mono ?_
  rintro e w16 ⟨hst16, er, rfl, hor16⟩
  have hS16 := Lib.hid (hS15.out.opc hst16)
  have hx16 := Lib.hid (hx15.out.trans (hst16.1.mono hTB))
  have hm16 := Lib.hid (mb_fm hm15.out hst16.2.1)
  have hX16 : Hid (Hxm w16 x1 g er) := Lib.hid hor16
  have hrw2 := Lib.hid (hrw'.out w16 hS16.out.rs hx16.out)
  clear hst16 hor16 hwr' hrw' m0 m1 m2 hm15 hS15
  obtain ⟨m0, m1, m2, _⟩ := hm16.out.mf
  go_wp2_with fail
  refine hrw2.out.mono ?_
  rintro e w17 ⟨rfl, hst17⟩
  have hS17 := Lib.hid (hS16.out.opr hst17 hBB)
  have hx17 := Lib.hid (hx16.out.trans (hst17.1.mono (by omega)))
  have hm17 := Lib.hid (mb_rm hm16.out hst17.2.1)
  have hX17 := Lib.hid (hX16.out.rm hst17.2.1)
  clear hst17 hrw2 m0 m1 m2 hm16 hS16 hX16
  obtain ⟨lv, tv, hR17⟩ := hS17.out.r
  obtain ⟨A9, c9, rfl, hq9⟩ := hR17.sq
  have hlr := hR17.lt
  have hSr : Hid (∀ z, Below w17.heap.size w17 z → z.cell? ⟨T, 0, none⟩ = some (.int .i64 g) ∧ z.cell? ⟨rb, 1, none⟩ = some (.slice A9 d2.fs.length c9)) := Lib.hid fun z hb => ⟨(hm17.out.below hb).mf.1, (hb.cell (p := ⟨rb, 1, none⟩) hlr).trans (cell_blk hR17.blk rfl)⟩
  have hq9' := Lib.hid (fe_of hq9)
  have hBw17 : T ≤ w17.heap.size := by have := hx17.out.size; have := hT'.out; omega
  have hxx : (x1 != x1) = false := by simp
  clear hq9 hR17
  obtain ⟨ai, hai⟩ : ∃ ai : Int, (if x1 = 0 then 0 else g) = ai := ⟨_, rfl⟩
  have hai' := Lib.hid hai
  clear hai
  obtain ⟨b1, hb1⟩ : ∃ b1, (ai != g) = b1 := ⟨_, rfl⟩
  cases b1 with
  | false =>
    go_wp2_with fail
    refine Pl.wp_region_plan 22 (.take 0 (.take 2 (.run 1 (.take 3 (.take 4 (.take 5 (.take 7 (.take 8 (.run 6 (.take 9 (.take 10 (.take 11 (.take 12 (.take 13 (.take 14 (.take 15 (.take 16 (.take 18 (.take 19 (.take 20 (.take 21 (.run 17 .done))))))))))))))))))))))
      (fun z => z.cell? ⟨T, 0, none⟩ = some (.int .i64 g) ∧ z.cell? ⟨rb, 1, none⟩ = some (.slice A9 d2.fs.length c9)) (by kernel_rfl) (by kernel_rfl) (by exact hSr.out _ (bD (Below.refl _ w17))) ?_
    simp only [Pl.fill, List.getElem?_cons_zero, List.getElem?_cons_succ, List.drop_succ_cons, List.drop_zero]
    iterate 2
      refine Pl.take_go ?_ (by rfl) (fun _ _ _ h => h) ?_ ?_
      rotate_left
      · (intro x hSw; (try dsimp only at hSw); go_simp; try with_reducible rfl)
      try simp only [Act.put, List.setIfInBounds_toArray, List.set_cons_zero, List.set_cons_succ]
    refine Pl.run_go (fun K hK => ?_)
    go_simp
    refine ((hX17.out.below (bD (Below.refl _ w17))).code (hEn.out _ (hx17.out.trans (bD (Below.refl _ w17))))).mono ?_
    rintro e w18 ⟨rfl, hb18⟩
    have hb118 := Lib.hid ((bD (Below.refl w17.heap.size w17)).trans (hb18.mono (by simp)))
    clear hb18
    dsimp only
    refine hK.out _ _ (Pl.more_go _ (fun _ h => h) (by exact hSr.out _ hb118.out) ?_)
    clear hK K
    iterate 5
      refine Pl.take_go ?_ (by rfl) (fun _ _ _ h => h) ?_ ?_
      rotate_left
      · (intro x hSw; (try dsimp only at hSw); go_simp; try with_reducible rfl)
      try simp only [Act.put, List.setIfInBounds_toArray, List.set_cons_zero, List.set_cons_succ]
    refine Pl.run_go (fun K hK => ?_)
    go_simp
    have hx18 := Lib.hid (hx17.out.trans (hb118.out.mono hBw17))
    have hat := (hX17.out.below hb118.out).at_ (hEn.out _ hx18.out)
    rw [hai'.out] at hat
    refine hat.mono ?_
    rintro e w19 ⟨rfl, hb19⟩
    have hb119 := Lib.hid (hb118.out.trans (hb19.mono hb118.out.size))
    clear hb19 hat
    dsimp only
    refine hK.out _ _ (Pl.more_go _ (fun _ h => h) (by exact hSr.out _ hb119.out) ?_)
    clear hK K
    iterate 2
      refine Pl.take_go ?_ (by rfl) (fun _ _ _ h => h) ?_ ?_
      rotate_left
      · (intro x hSw; (try dsimp only at hSw); go_simp; try with_reducible rfl)
      try simp only [Act.put, List.setIfInBounds_toArray, List.set_cons_zero, List.set_cons_succ]
    iterate 2
      refine Pl.take_skip (by rfl) (fun _ _ _ h => h) ?_
      try simp only [Act.put, List.setIfInBounds_toArray, List.set_cons_zero, List.set_cons_succ]
    iterate 8
      refine Pl.take_go ?_ (by rfl) (fun _ _ _ h => h) ?_ ?_
      rotate_left
      · (intro x hSw; (try dsimp only at hSw); go_simp; try with_reducible rfl)
      try simp only [Act.put, List.setIfInBounds_toArray, List.set_cons_zero, List.set_cons_succ]
    refine Pl.run_go (fun K hK => ?_)
    go_simp
    have hS19 := Lib.hid (hS17.out.bel hb119.out)
    refine (filesG_op hS19.out.c hG2'.out (by omega)).mono ?_
    rintro e w20 ⟨A20, c20, rfl, hO20, hb20⟩
    have hb120 := Lib.hid (hb119.out.trans (hb20.mono hb119.out.size))
    have hf20 := Lib.hid (fe_of (OwS.sq' hO20 (by omega)))
    clear hb20 hO20 hS19
    dsimp only
    refine hK.out _ _ (Pl.more_go _ (fun _ h => h) (by exact hSr.out _ hb120.out) ?_)
    clear hK K
    refine Pl.done_go ?_
    go_wp2_with fail
    refine (Same_refl A20 d2.fs.length c20 A9 d2.fs.length c9 (d2.fs.map toIn) w20 hf20.out (Sq.below hq9'.out (FeEl.below hb120.out) hb120.out)).mono ?_
    rintro e w21 ⟨rfl, q21, rfl⟩
    have hbd := Joins.below_draws w20.heap.size w20 q21
    have hb121 := Lib.hid (hb120.out.trans (hbd.mono hb120.out.size))
    generalize w20.drewN q21 = w21 at hb121 ⊢
    have hS21 := Lib.hid (hS17.out.bel hb121.out)
    have hx21 := Lib.hid (hx17.out.trans (hb121.out.mono hBw17))
    have hm21 := Lib.hid (hm17.out.below hb121.out)
    clear hbd hb120 hb119 hb118 hf20 hq9' hSr hX17 hm17 hS17
    have hBw21 : Ba ≤ w21.heap.size := Sd.le hS21.out.sd
    have hSm2 : Hid (∀ z, Mb z T g la As ns cs_ → (z.cell? ⟨T, 0, none⟩ = some (.int .i64 g) ∧ z.cell? ⟨T, 1, none⟩ = some (.int .i64 la) ∧ z.cell? ⟨T, 2, none⟩ = some (.slice As ns cs_))) := Lib.hid fun z hz => by
      obtain ⟨e0, e1, e2, _⟩ := hz.mf
      exact ⟨e0, e1, e2⟩
    have hor2 : orphans (live g ss) d2.fs = orphans (needed g ss) d2.fs := orphans_eq fun p hp => may_ne (hG2'.out.inv.names p hp)
    have hmost : (orphans (live g ss) d2.fs).length ≤ 64 := by
      have := hG2'.out.inv.most
      have h2 : (orphans (live g ss) d2.fs).length ≤ (d2.fs.map (·.1)).length := List.length_filter_le _ _
      rw [List.length_map] at h2
      omega
    have hcln := fun (z : World) (hz : Sc Ba a mb d2 z z) (hx : Below T W z) (hB : Ba ≤ z.heap.size) => Clean_any z Ba a mb 5 33068 d2 hz hG2'.out (by omega) (te_up' (hTe.out _ hx) hTB hB) (eb_up' (hEb'.out _ hx) hTB) g la As ns cs_ ss (fun w' hb => hIat.out w' (hx.trans (hb.mono hTB)))
    have hrcl := fun (z : World) (hz : Rs Br rb d2 z z) (hx : Below T W z) => refClean_any z Br rb 5 33068 d2 hz hG2'.out (by omega) (by omega) g la As ns cs_ ss (fun w' hb => hIat.out w' (hx.trans (hb.mono (by omega))))
    have hG3 := bd_clean (orphans (live g ss) d2.fs) hG2'.out
    rw [← hor2] at hrcl
    obtain ⟨Y, hY⟩ : ∃ Y, clean (orphans (live g ss) d2.fs) d2 = Y := ⟨_, rfl⟩
    rw [hY] at hcln hrcl hG3
    obtain ⟨y1, d3⟩ := Y
    simp only at hcln hrcl hG3
    have hcln' := Lib.hid hcln
    have hrcl' := Lib.hid hrcl
    have hG3' := Lib.hid (hG3.mono (N' := 100) (U' := 33068) (by omega) (by omega))
    have hyy : (y1 == y1) = true := by simp
    clear hcln hrcl hG3 hY hor2 hmost
    go_wp2_with fail
    refine Pl.wp_region_plan 15 (.take 0 (.take 1 (.take 4 (.take 5 (.run 2 (.run 3 (.run 6 (.take 7 (.take 8 (.take 9 (.take 11 (.take 12 (.take 13 (.take 14 (.run 10 .done)))))))))))))))
      (fun z => (z.cell? ⟨T, 0, none⟩ = some (.int .i64 g) ∧ z.cell? ⟨T, 1, none⟩ = some (.int .i64 la) ∧ z.cell? ⟨T, 2, none⟩ = some (.slice As ns cs_))) (by kernel_rfl) (by kernel_rfl) (by exact hSm2.out _ (hm21.out.below (bD (Below.refl _ w21)))) ?_
    simp only [Pl.fill, List.getElem?_cons_zero, List.getElem?_cons_succ, List.drop_succ_cons, List.drop_zero]
    iterate 4
      refine Pl.take_go ?_ (by rfl) (fun _ _ _ h => h) ?_ ?_
      rotate_left
      · (intro x hSw; (try dsimp only at hSw); go_simp; try with_reducible rfl)
      try simp only [Act.put, List.setIfInBounds_toArray, List.set_cons_zero, List.set_cons_succ]
    refine Pl.run_go (fun K hK => ?_)
    go_simp
    have hx21d := hx21.out.trans (bD (Below.refl T w21))
    refine (hcln'.out _ (hS21.out.bel (bD (Below.refl _ w21))).sc hx21d (by simpa using hBw21)).mono ?_
    rintro e w22 ⟨hst22, ey, rfl, hory⟩
    have hS22 := Lib.hid ((hS21.out.bel (bD (Below.refl _ w21))).opc hst22)
    have hx22 := Lib.hid (hx21d.trans (hst22.1.mono hTB))
    have hm22 := Lib.hid (mb_fm (hm21.out.below (bD (Below.refl _ w21))) hst22.2.1)
    have hX22 : Hid (Hxm w22 y1 g ey) := Lib.hid hory
    clear hst22 hory hx21d
    dsimp only
    refine hK.out _ _ (Pl.more_go _ (fun _ h => h) (by exact hSm2.out _ hm22.out) ?_)
    clear hK K
    refine Pl.run_go (fun K hK => ?_)
    go_simp
    refine (hX22.out.code (hEn.out _ hx22.out)).mono ?_
    rintro e w23 ⟨rfl, hb23⟩
    have hS23 := Lib.hid (hS22.out.bel hb23)
    have hx23 := Lib.hid (hx22.out.trans (hb23.mono (by have := hx22.out.size; have := hT'.out; omega)))
    have hm23 := Lib.hid (hm22.out.below hb23)
    clear hb23
    dsimp only
    refine hK.out _ _ (Pl.more_go _ (fun _ h => h) (by exact hSm2.out _ hm23.out) ?_)
    clear hK K
    refine Pl.run_go (fun K hK => ?_)
    go_simp
    refine (hrcl'.out w23 hS23.out.rs hx23.out).mono ?_
    rintro e w24 ⟨rfl, hst24⟩
    have hS24 := Lib.hid (hS23.out.opr hst24 hBB)
    have hx24 := Lib.hid (hx23.out.trans (hst24.1.mono (by omega)))
    have hm24 := Lib.hid (mb_rm hm23.out hst24.2.1)
    clear hst24
    obtain ⟨lv4, tv4, hR4⟩ := hS24.out.r
    obtain ⟨Ar, cr, rfl, hqr⟩ := hR4.sq
    have hlr4 := hR4.lt
    have hSr4 : Hid (∀ z, Below w24.heap.size w24 z → (z.cell? ⟨T, 0, none⟩ = some (.int .i64 g) ∧ z.cell? ⟨T, 1, none⟩ = some (.int .i64 la) ∧ z.cell? ⟨T, 2, none⟩ = some (.slice As ns cs_)) ∧ z.cell? ⟨rb, 1, none⟩ = some (.slice Ar d3.fs.length cr)) := Lib.hid fun z hb => ⟨hSm2.out _ (hm24.out.below hb), (hb.cell (p := ⟨rb, 1, none⟩) hlr4).trans (cell_blk hR4.blk rfl)⟩
    have hqr' := Lib.hid (fe_of hqr)
    clear hqr hR4
    dsimp only
    refine hK.out _ _ (Pl.more_go (fun z => (z.cell? ⟨T, 0, none⟩ = some (.int .i64 g) ∧ z.cell? ⟨T, 1, none⟩ = some (.int .i64 la) ∧ z.cell? ⟨T, 2, none⟩ = some (.slice As ns cs_)) ∧ z.cell? ⟨rb, 1, none⟩ = some (.slice Ar d3.fs.length cr)) (fun _ h => h.1) (by exact hSr4.out _ (Below.refl _ _)) ?_)
    clear hK K
    iterate 7
      refine Pl.take_go ?_ (by rfl) (fun _ _ _ h => h) ?_ ?_
      rotate_left
      · (intro x hSw; (try dsimp only at hSw); go_simp; try with_reducible rfl)
      try simp only [Act.put, List.setIfInBounds_toArray, List.set_cons_zero, List.set_cons_succ]
    refine Pl.run_go (fun K hK => ?_)
    go_simp
    refine (filesG_op hS24.out.c hG3'.out (by omega)).mono ?_
    rintro e w25 ⟨A25, c25, rfl, hO25, hb25⟩
    have hf25 := Lib.hid (fe_of (OwS.sq' hO25 (by omega)))
    have hb25' := Lib.hid hb25
    have hx25 := Lib.hid (hx24.out.trans (hb25.mono (by have := hx24.out.size; have := hT'.out; omega)))
    clear hb25 hO25
    dsimp only
    refine hK.out _ _ (Pl.more_go _ (fun _ h => h) (by exact hSr4.out _ hb25'.out) ?_)
    clear hK K
    refine Pl.done_go ?_
    go_wp2_with fail
    refine (Same_refl A25 d3.fs.length c25 Ar d3.fs.length cr (d3.fs.map toIn) w25 hf25.out (Sq.below hqr'.out (FeEl.below hb25'.out) hb25'.out)).mono ?_
    rintro e w26 ⟨rfl, q26, rfl⟩
    have hx26 := Lib.hid (hx25.out.trans ((Joins.below_draws _ w25 q26).mono (by have := hx25.out.size; have := hT'.out; omega)))
    generalize w25.drewN q26 = w26 at hx26 ⊢
    go_wp2_with fail
    go_ret
    exact ⟨rfl, by rw [hT'.out]; exact hx26.out⟩
  | true =>
    have hx0 : x1 = 0 := by
      rcases Int.decEq x1 0 with h | h
      · have h9 := hai'.out
        rw [if_neg h] at h9
        rw [← h9] at hb1
        simp at hb1
      · exact h
    have hx0b : (x1 != 0) = false := by rw [hx0]; rfl
    clear hx0
    go_wp2_with fail
    refine Pl.wp_region_plan 22 (.take 0 (.take 2 (.run 1 (.take 3 (.take 4 (.take 5 (.take 7 (.take 8 (.run 6 (.take 9 (.take 10 (.take 11 (.take 12 (.take 13 (.take 14 (.take 15 (.take 16 (.take 18 (.take 19 (.take 20 (.take 21 (.run 17 .done))))))))))))))))))))))
      (fun z => z.cell? ⟨T, 0, none⟩ = some (.int .i64 g) ∧ z.cell? ⟨rb, 1, none⟩ = some (.slice A9 d2.fs.length c9)) (by kernel_rfl) (by kernel_rfl) (by exact hSr.out _ (bD (Below.refl _ w17))) ?_
    simp only [Pl.fill, List.getElem?_cons_zero, List.getElem?_cons_succ, List.drop_succ_cons, List.drop_zero]
    iterate 2
      refine Pl.take_go ?_ (by rfl) (fun _ _ _ h => h) ?_ ?_
      rotate_left
      · (intro x hSw; (try dsimp only at hSw); go_simp; try with_reducible rfl)
      try simp only [Act.put, List.setIfInBounds_toArray, List.set_cons_zero, List.set_cons_succ]
    refine Pl.run_go (fun K hK => ?_)
    go_simp
    refine ((hX17.out.below (bD (Below.refl _ w17))).code (hEn.out _ (hx17.out.trans (bD (Below.refl _ w17))))).mono ?_
    rintro e w18 ⟨rfl, hb18⟩
    have hb118 := Lib.hid ((bD (Below.refl w17.heap.size w17)).trans (hb18.mono (by simp)))
    clear hb18
    dsimp only
    refine hK.out _ _ (Pl.more_go _ (fun _ h => h) (by exact hSr.out _ hb118.out) ?_)
    clear hK K
    iterate 5
      refine Pl.take_go ?_ (by rfl) (fun _ _ _ h => h) ?_ ?_
      rotate_left
      · (intro x hSw; (try dsimp only at hSw); go_simp; try with_reducible rfl)
      try simp only [Act.put, List.setIfInBounds_toArray, List.set_cons_zero, List.set_cons_succ]
    refine Pl.run_go (fun K hK => ?_)
    go_simp
    have hx18 := Lib.hid (hx17.out.trans (hb118.out.mono hBw17))
    have hat := (hX17.out.below hb118.out).at_ (hEn.out _ hx18.out)
    rw [hai'.out] at hat
    refine hat.mono ?_
    rintro e w19 ⟨rfl, hb19⟩
    have hb119 := Lib.hid (hb118.out.trans (hb19.mono hb118.out.size))
    clear hb19 hat
    dsimp only
    refine hK.out _ _ (Pl.more_go _ (fun _ h => h) (by exact hSr.out _ hb119.out) ?_)
    clear hK K
    iterate 2
      refine Pl.take_go ?_ (by rfl) (fun _ _ _ h => h) ?_ ?_
      rotate_left
      · (intro x hSw; (try dsimp only at hSw); go_simp; try with_reducible rfl)
      try simp only [Act.put, List.setIfInBounds_toArray, List.set_cons_zero, List.set_cons_succ]
    iterate 2
      refine Pl.take_go ?_ (by rfl) (fun _ _ _ h => h) ?_ ?_
      rotate_left
      · (intro x hSw; (try dsimp only at hSw); go_simp; try with_reducible rfl)
      try simp only [Act.put, List.setIfInBounds_toArray, List.set_cons_zero, List.set_cons_succ]
    iterate 8
      refine Pl.take_go ?_ (by rfl) (fun _ _ _ h => h) ?_ ?_
      rotate_left
      · (intro x hSw; (try dsimp only at hSw); go_simp; try with_reducible rfl)
      try simp only [Act.put, List.setIfInBounds_toArray, List.set_cons_zero, List.set_cons_succ]
    refine Pl.run_go (fun K hK => ?_)
    go_simp
    have hS19 := Lib.hid (hS17.out.bel hb119.out)
    refine (filesG_op hS19.out.c hG2'.out (by omega)).mono ?_
    rintro e w20 ⟨A20, c20, rfl, hO20, hb20⟩
    have hb120 := Lib.hid (hb119.out.trans (hb20.mono hb119.out.size))
    have hf20 := Lib.hid (fe_of (OwS.sq' hO20 (by omega)))
    clear hb20 hO20 hS19
    dsimp only
    refine hK.out _ _ (Pl.more_go _ (fun _ h => h) (by exact hSr.out _ hb120.out) ?_)
    clear hK K
    refine Pl.done_go ?_
    go_wp2_with fail
    refine (Same_refl A20 d2.fs.length c20 A9 d2.fs.length c9 (d2.fs.map toIn) w20 hf20.out (Sq.below hq9'.out (FeEl.below hb120.out) hb120.out)).mono ?_
    rintro e w21 ⟨rfl, q21, rfl⟩
    have hbd := Joins.below_draws w20.heap.size w20 q21
    have hb121 := Lib.hid (hb120.out.trans (hbd.mono hb120.out.size))
    generalize w20.drewN q21 = w21 at hb121 ⊢
    have hS21 := Lib.hid (hS17.out.bel hb121.out)
    have hx21 := Lib.hid (hx17.out.trans (hb121.out.mono hBw17))
    have hm21 := Lib.hid (hm17.out.below hb121.out)
    clear hbd hb120 hb119 hb118 hf20 hq9' hSr hX17 hm17 hS17
    have hBw21 : Ba ≤ w21.heap.size := Sd.le hS21.out.sd
    have hSm2 : Hid (∀ z, Mb z T g la As ns cs_ → (z.cell? ⟨T, 0, none⟩ = some (.int .i64 g) ∧ z.cell? ⟨T, 1, none⟩ = some (.int .i64 la) ∧ z.cell? ⟨T, 2, none⟩ = some (.slice As ns cs_))) := Lib.hid fun z hz => by
      obtain ⟨e0, e1, e2, _⟩ := hz.mf
      exact ⟨e0, e1, e2⟩
    have hor2 : orphans (live g ss) d2.fs = orphans (needed g ss) d2.fs := orphans_eq fun p hp => may_ne (hG2'.out.inv.names p hp)
    have hmost : (orphans (live g ss) d2.fs).length ≤ 64 := by
      have := hG2'.out.inv.most
      have h2 : (orphans (live g ss) d2.fs).length ≤ (d2.fs.map (·.1)).length := List.length_filter_le _ _
      rw [List.length_map] at h2
      omega
    have hcln := fun (z : World) (hz : Sc Ba a mb d2 z z) (hx : Below T W z) (hB : Ba ≤ z.heap.size) => Clean_any z Ba a mb 5 33068 d2 hz hG2'.out (by omega) (te_up' (hTe.out _ hx) hTB hB) (eb_up' (hEb'.out _ hx) hTB) g la As ns cs_ ss (fun w' hb => hIat.out w' (hx.trans (hb.mono hTB)))
    have hrcl := fun (z : World) (hz : Rs Br rb d2 z z) (hx : Below T W z) => refClean_any z Br rb 5 33068 d2 hz hG2'.out (by omega) (by omega) g la As ns cs_ ss (fun w' hb => hIat.out w' (hx.trans (hb.mono (by omega))))
    have hG3 := bd_clean (orphans (live g ss) d2.fs) hG2'.out
    rw [← hor2] at hrcl
    obtain ⟨Y, hY⟩ : ∃ Y, clean (orphans (live g ss) d2.fs) d2 = Y := ⟨_, rfl⟩
    rw [hY] at hcln hrcl hG3
    obtain ⟨y1, d3⟩ := Y
    simp only at hcln hrcl hG3
    have hcln' := Lib.hid hcln
    have hrcl' := Lib.hid hrcl
    have hG3' := Lib.hid (hG3.mono (N' := 100) (U' := 33068) (by omega) (by omega))
    have hyy : (y1 == y1) = true := by simp
    clear hcln hrcl hG3 hY hor2 hmost
    go_wp2_with fail
    refine Pl.wp_region_plan 15 (.take 0 (.take 1 (.take 4 (.take 5 (.run 2 (.run 3 (.run 6 (.take 7 (.take 8 (.take 9 (.take 11 (.take 12 (.take 13 (.take 14 (.run 10 .done)))))))))))))))
      (fun z => (z.cell? ⟨T, 0, none⟩ = some (.int .i64 g) ∧ z.cell? ⟨T, 1, none⟩ = some (.int .i64 la) ∧ z.cell? ⟨T, 2, none⟩ = some (.slice As ns cs_))) (by kernel_rfl) (by kernel_rfl) (by exact hSm2.out _ (hm21.out.below (bD (Below.refl _ w21)))) ?_
    simp only [Pl.fill, List.getElem?_cons_zero, List.getElem?_cons_succ, List.drop_succ_cons, List.drop_zero]
    iterate 4
      refine Pl.take_go ?_ (by rfl) (fun _ _ _ h => h) ?_ ?_
      rotate_left
      · (intro x hSw; (try dsimp only at hSw); go_simp; try with_reducible rfl)
      try simp only [Act.put, List.setIfInBounds_toArray, List.set_cons_zero, List.set_cons_succ]
    refine Pl.run_go (fun K hK => ?_)
    go_simp
    have hx21d := hx21.out.trans (bD (Below.refl T w21))
    refine (hcln'.out _ (hS21.out.bel (bD (Below.refl _ w21))).sc hx21d (by simpa using hBw21)).mono ?_
    rintro e w22 ⟨hst22, ey, rfl, hory⟩
    have hS22 := Lib.hid ((hS21.out.bel (bD (Below.refl _ w21))).opc hst22)
    have hx22 := Lib.hid (hx21d.trans (hst22.1.mono hTB))
    have hm22 := Lib.hid (mb_fm (hm21.out.below (bD (Below.refl _ w21))) hst22.2.1)
    have hX22 : Hid (Hxm w22 y1 g ey) := Lib.hid hory
    clear hst22 hory hx21d
    dsimp only
    refine hK.out _ _ (Pl.more_go _ (fun _ h => h) (by exact hSm2.out _ hm22.out) ?_)
    clear hK K
    refine Pl.run_go (fun K hK => ?_)
    go_simp
    refine (hX22.out.code (hEn.out _ hx22.out)).mono ?_
    rintro e w23 ⟨rfl, hb23⟩
    have hS23 := Lib.hid (hS22.out.bel hb23)
    have hx23 := Lib.hid (hx22.out.trans (hb23.mono (by have := hx22.out.size; have := hT'.out; omega)))
    have hm23 := Lib.hid (hm22.out.below hb23)
    clear hb23
    dsimp only
    refine hK.out _ _ (Pl.more_go _ (fun _ h => h) (by exact hSm2.out _ hm23.out) ?_)
    clear hK K
    refine Pl.run_go (fun K hK => ?_)
    go_simp
    refine (hrcl'.out w23 hS23.out.rs hx23.out).mono ?_
    rintro e w24 ⟨rfl, hst24⟩
    have hS24 := Lib.hid (hS23.out.opr hst24 hBB)
    have hx24 := Lib.hid (hx23.out.trans (hst24.1.mono (by omega)))
    have hm24 := Lib.hid (mb_rm hm23.out hst24.2.1)
    clear hst24
    obtain ⟨lv4, tv4, hR4⟩ := hS24.out.r
    obtain ⟨Ar, cr, rfl, hqr⟩ := hR4.sq
    have hlr4 := hR4.lt
    have hSr4 : Hid (∀ z, Below w24.heap.size w24 z → (z.cell? ⟨T, 0, none⟩ = some (.int .i64 g) ∧ z.cell? ⟨T, 1, none⟩ = some (.int .i64 la) ∧ z.cell? ⟨T, 2, none⟩ = some (.slice As ns cs_)) ∧ z.cell? ⟨rb, 1, none⟩ = some (.slice Ar d3.fs.length cr)) := Lib.hid fun z hb => ⟨hSm2.out _ (hm24.out.below hb), (hb.cell (p := ⟨rb, 1, none⟩) hlr4).trans (cell_blk hR4.blk rfl)⟩
    have hqr' := Lib.hid (fe_of hqr)
    clear hqr hR4
    dsimp only
    refine hK.out _ _ (Pl.more_go (fun z => (z.cell? ⟨T, 0, none⟩ = some (.int .i64 g) ∧ z.cell? ⟨T, 1, none⟩ = some (.int .i64 la) ∧ z.cell? ⟨T, 2, none⟩ = some (.slice As ns cs_)) ∧ z.cell? ⟨rb, 1, none⟩ = some (.slice Ar d3.fs.length cr)) (fun _ h => h.1) (by exact hSr4.out _ (Below.refl _ _)) ?_)
    clear hK K
    iterate 7
      refine Pl.take_go ?_ (by rfl) (fun _ _ _ h => h) ?_ ?_
      rotate_left
      · (intro x hSw; (try dsimp only at hSw); go_simp; try with_reducible rfl)
      try simp only [Act.put, List.setIfInBounds_toArray, List.set_cons_zero, List.set_cons_succ]
    refine Pl.run_go (fun K hK => ?_)
    go_simp
    refine (filesG_op hS24.out.c hG3'.out (by omega)).mono ?_
    rintro e w25 ⟨A25, c25, rfl, hO25, hb25⟩
    have hf25 := Lib.hid (fe_of (OwS.sq' hO25 (by omega)))
    have hb25' := Lib.hid hb25
    have hx25 := Lib.hid (hx24.out.trans (hb25.mono (by have := hx24.out.size; have := hT'.out; omega)))
    clear hb25 hO25
    dsimp only
    refine hK.out _ _ (Pl.more_go _ (fun _ h => h) (by exact hSr4.out _ hb25'.out) ?_)
    clear hK K
    refine Pl.done_go ?_
    go_wp2_with fail
    refine (Same_refl A25 d3.fs.length c25 Ar d3.fs.length cr (d3.fs.map toIn) w25 hf25.out (Sq.below hqr'.out (FeEl.below hb25'.out) hb25'.out)).mono ?_
    rintro e w26 ⟨rfl, q26, rfl⟩
    have hx26 := Lib.hid (hx25.out.trans ((Joins.below_draws _ w25 q26).mono (by have := hx25.out.size; have := hT'.out; omega)))
    generalize w25.drewN q26 = w26 at hx26 ⊢
    go_wp2_with fail
    go_ret
    exact ⟨rfl, by rw [hT'.out]; exact hx26.out⟩
end Go.Proofs.YtfdpnjebhllpkaaGreatDoor.Mn
