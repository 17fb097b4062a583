/- The law DiskBack. -/
import Derived.Test.YtjhiihmibleecaaDoorDkSafe
namespace Go.Proofs.YtjhiihmibleecaaDoor.Dk
open Go.RowKit

structure Bk (k : Nat) (d : D) : Prop where
  inv : Inv d
  room : d.room = 32768
  ops : d.ops ≤ k
  tr : d.tr.length ≤ 200
theorem Bk.good {k : Nat} {d : D} (h : Bk k d) : Good d k 200 32768 := ⟨h.inv, h.ops, h.tr, by have := h.inv.room; rw [h.room] at this; exact this⟩
theorem Bk.act_ {k : Nat} {d : D} {x : Dx} (h : Bk k d) (hx : Dm x) : Bk (k + 1) (actX d x).2 := by
  obtain ⟨h1, h2⟩ := h.good.act_ x hx (Nat.le_refl _)
  exact ⟨h1.inv, by rw [h2]; exact h.room, h1.ops, h1.tr⟩

/-- What a file is behind a loss of power. -/
theorem back_at {d : D} (hI : Inv d) (tails : List Int) {i : Nat} {f : In} (h : ((crash d tails).fs.map toIn)[i]? = some f) : ∃ g, (d.fs.map toIn)[i]? = some g ∧ ∃ sg : Nat, g.safe = (sg : Int) ∧ f.safe = (f.data.length : Nat) ∧ sg ≤ f.data.length ∧ f.data.length ≤ g.data.length := by
  rw [List.getElem?_map, Option.map_eq_some_iff] at h
  obtain ⟨q, hq, rfl⟩ := h
  obtain ⟨p, hp, rfl⟩ := crashF_get tails d.fs 0 i q hq
  have hs := hI.safe p (List.mem_of_getElem? hp)
  have h1 := keep_len (t := tails[0 + i]?) hs
  have h2 := keepN_le (t := tails[0 + i]?) hs
  refine ⟨toIn p, by rw [List.getElem?_map, hp]; rfl, p.2.safe, rfl, rfl, ?_, ?_⟩
  · show p.2.safe ≤ (keep p.2 tails[0 + i]?).data.length
    omega
  · show (keep p.2 tails[0 + i]?).data.length ≤ p.2.data.length
    omega

set_option maxHeartbeats 4000000 in
set_option maxRecDepth 100000 in
theorem back_law (A : Option Addr) (n c : Nat) (l : List In) (As : Option Addr) (ns cs_ : Nat) (ls : List Dx) (At : Option Addr) (nt ct : Nat) (tails : List Int) (W : World) (hF : Sq FeEl 3 W A n c l) (hsz : ∀ f ∈ l, f.data.length ≤ 140737488351232) (hS : Sq DoEl 7 W As ns cs_ ls) (ht : Rd W At nt ct (tails.map (Value.int .i64))) :
    Calls Tryd.prog 6 #[.slice A n c, .slice As ns cs_, .slice At nt ct] W fun e w' => e = .returned (.bool true) ∧ Below W.heap.size W w' := by
  obtain ⟨T, hT⟩ : ∃ T, W.heap.size = T := ⟨_, rfl⟩
  have hFat : Hid (∀ w', Below T W w' → Sq FeEl 3 w' A n c l) := Lib.hid fun w' hb => hF.below (FeEl.below (by rw [hT]; exact hb)) (by rw [hT]; exact hb)
  have htat : Hid (∀ w', Below T W w' → Rd w' At nt ct (tails.map (Value.int .i64))) := Lib.hid fun w' hb => ht.below (by rw [hT]; exact hb)
  have hSat : Hid (∀ w', Below T W w' → Sq DoEl 7 w' As ns cs_ ls) := Lib.hid fun w' hb => hS.below (DoEl.below (by rw [hT]; exact hb)) (by rw [hT]; exact hb)
  have hel : Hid (∀ w', Below T W w' → ∀ vs x, DoEl W vs x → DoEl w' vs x) := Lib.hid fun w' hb => DoEl.below (by rw [hT]; exact hb)
  have hle := hS.le
  have hmx := hS.max
  have hlet := Rd.le ht
  have hmxt := Rd.max ht
  have hS' := Lib.hid hS
  have hT' := Lib.hid hT
  have hsz' := Lib.hid hsz
  have hTw : T ≤ W.heap.size := by omega
  clear hF hsz hS ht
  go_enter Tryd.func6, Tryd.ntmps6
  go_wp2_with fail
  refine (awake_any _).mono ?_
  rintro e w2 ⟨rfl, hb2⟩
  have hx2 := Lib.hid (hb2.mono hTw)
  clear hb2 hT
  go_wp2_with fail
  refine (Small_any A n c l w2 (hFat.out _ hx2.out) hsz'.out).mono ?_
  rintro e w2' ⟨b, rfl, hsm, rfl⟩
  have hsm' := Lib.hid hsm
  clear hsm
  cases b with
  | false =>
    go_wp2_with fail
    go_ret
    exact ⟨rfl, by rw [hT'.out]; exact hx2.out⟩
  | true =>
    have hSm := Lib.hid (hsm'.out rfl)
    clear hsm'
    go_wp2_with fail
    refine (small_any As ns cs_ ls w2 (hSat.out _ hx2.out)).mono ?_
    rintro e w2' ⟨b, rfl, hdm, rfl⟩
    have hdm' := Lib.hid hdm
    clear hdm
    cases b with
    | false =>
      go_wp2_with fail
      go_ret
      exact ⟨rfl, by rw [hT'.out]; exact hx2.out⟩
    | true =>
      have hDm := Lib.hid (hdm'.out rfl)
      clear hdm'
      by_cases z2 : 200 < nt
      · have d3 : decide ((200 : Int) < (nt : Int)) = true := by rw [decide_eq_true_eq]; omega
        have d4 : decide (200 < nt) = true := by rw [decide_eq_true_eq]; omega
        go_wp2_with fail
        go_ret
        exact ⟨rfl, by rw [hT'.out]; exact hx2.out⟩
      have d3 : decide ((200 : Int) < (nt : Int)) = false := by rw [decide_eq_false_iff_not]; omega
      have d4 : decide (200 < nt) = false := by rw [decide_eq_false_iff_not]; omega
      go_wp2_with fail
      refine (Load_any w2 A n c l 32768 (hFat.out _ hx2.out) (by have := hSm.out.len; have := (hFat.out _ hx2.out).len; omega) (fun f hf => ⟨hSm.out.nm f hf, by have h1 := hSm.out.sum; have h2 := le_sum_of_mem hf; omega⟩) (by omega)).mono ?_
      rintro e w4 ⟨hb4, hload⟩
      have hx4 := Lib.hid (hx2.out.trans (hb4.mono (by have := hx2.out.size; omega)))
      clear hb4 d3 d4
      cases hld : load l 32768 with
      | none =>
        rw [hld] at hload
        obtain rfl := hload
        go_wp2_with fail
        go_ret
        exact ⟨rfl, by rw [hT'.out]; exact hx4.out⟩
      | some d0 =>
        rw [hld] at hload
        obtain ⟨a, mb, rfl, L0, F0, hD⟩ := hload
        obtain ⟨hI, hdn, htr, hop, hrm⟩ := inv_load hld
        have hBk : Hid (Bk 0 d0) := Lib.hid ⟨hI, hrm, by omega, by rw [htr]; simp⟩
        have hD4 := Lib.hid hD
        have hw2 : T ≤ w2.heap.size := by have := hx2.out.size; omega
        clear hD hI hdn htr hop hrm hld
        go_wp2_with fail
        go_loopw [9] (fun i wr => ∃ (k : Nat) (L : Al Nat) (F : Nat → Fl) (tv : Value) (d : D), k ≤ ns ∧ k ≤ 60 ∧ i = .int .i64 k ∧ Hid (Bk k d) ∧ Hid (Da wr w2.heap.size a mb L F tv d) ∧ Hid (Below T W wr)) (fun i _ => ns - (intOf i).toNat)
        case atStart => exact ⟨0, L0, F0, _, _, by omega, by omega, rfl, hBk, hD4, hx4⟩
        case round =>
          obtain ⟨k, L, F, tv, d, hk, hk60, rfl, hBd, hD, hx⟩ := hrel
          by_cases hend : k < ns ∧ k < 60
          · obtain ⟨hlt, h60⟩ := hend
            have g1 : decide ((k : Int) < (60 : Int)) = true := by rw [decide_eq_true_eq]; omega
            have g2 : decide (k < 60) = true := by rw [decide_eq_true_eq]; omega
            obtain ⟨pb, off, x, vs, rfl, hpb, hfk, hvs, hel0, hcs⟩ := hS'.out.at_ hlt
            have hdo := Lib.hid hel0
            obtain ⟨s, s2, Ab, nb, cb, At2, nt2, ct2, Al, nl, cl, rfl, hnm, hto, _, _, _⟩ := hel0
            have hpb' : pb < T := by rw [← hT'.out]; exact hpb
            have k0 : wr.cell? ⟨pb, off + k * 7, none⟩ = some (.int .i64 x.kind) := (hx.out.cell (p := ⟨pb, off + k * 7, none⟩) hpb').trans (hcs 0 _ rfl)
            have k1 : wr.cell? ⟨pb, off + k * 7 + 1, none⟩ = some (.string s) := (hx.out.cell (p := ⟨pb, off + k * 7 + 1, none⟩) hpb').trans (hcs 1 _ rfl)
            have k2 : wr.cell? ⟨pb, off + k * 7 + 2, none⟩ = some (.string s2) := (hx.out.cell (p := ⟨pb, off + k * 7 + 2, none⟩) hpb').trans (hcs 2 _ rfl)
            have k3 : wr.cell? ⟨pb, off + k * 7 + 3, none⟩ = some (.int .i64 x.n) := (hx.out.cell (p := ⟨pb, off + k * 7 + 3, none⟩) hpb').trans (hcs 3 _ rfl)
            have k4 : wr.cell? ⟨pb, off + k * 7 + 4, none⟩ = some (.slice Ab nb cb) := (hx.out.cell (p := ⟨pb, off + k * 7 + 4, none⟩) hpb').trans (hcs 4 _ rfl)
            have k5 : wr.cell? ⟨pb, off + k * 7 + 5, none⟩ = some (.slice At2 nt2 ct2) := (hx.out.cell (p := ⟨pb, off + k * 7 + 5, none⟩) hpb').trans (hcs 5 _ rfl)
            have k6 : wr.cell? ⟨pb, off + k * 7 + 6, none⟩ = some (.slice Al nl cl) := (hx.out.cell (p := ⟨pb, off + k * 7 + 6, none⟩) hpb').trans (hcs 6 _ rfl)
            have hDmx := Lib.hid (hDm.out k x hfk h60)
            have hact := Lib.hid (act_any wr w2.heap.size a mb L F tv d hD.out (by have := hBd.out.good; exact ⟨this.inv, by have := this.ops; omega, by have := this.tr; omega, by have := this.used; omega⟩) (by rw [hBd.out.room]; decide) _ x (fun w' hb => hel.out w' (hx.out.trans (hb.mono hw2)) _ _ hdo.out) hDmx.out)
            have hB2 := Lib.hid (hBd.out.act_ hDmx.out)
            clear hcs hvs hnm hto hfk
            go_wp2_with fail
            refine hact.out.mono ?_
            rintro e wb ⟨rfl, hbb, hfb, Lb, Fb, tvb, hDb⟩
            have hxb := Lib.hid (hx.out.trans (hbb.mono hw2))
            have hDb' := Lib.hid hDb
            clear hbb hfb hDb k0 k1 k2 k3 k4 k5 k6
            go_wp2_with fail
            go_roundw
            case rel => exact ⟨k + 1, Lb, Fb, tvb, _, by omega, by omega, by go_num, hB2, hDb', hxb⟩
            case measure => simp [intOf]; omega
          · obtain ⟨wq, rfl⟩ : ∃ wq, wq = wr := ⟨wr, rfl⟩
            obtain ⟨kk, rfl⟩ : ∃ kk, kk = k := ⟨k, rfl⟩
            have hwq : T ≤ wq.heap.size := by have := hx.out.size; omega
            have hLl : Hid (L.length ≤ 64) := Lib.hid (by have := hD.out.len_eq; have := hBd.out.inv.most; omega)
            have hfile := Lib.hid (Files_any wq w2.heap.size a mb L F tv d hD.out (by have := hLl.out; omega) (fun p hp => ⟨(hBd.out.good.fl (by omega) p hp).1, (hBd.out.good.fl (by omega) p hp).2.1⟩))
            by_cases hlt : kk < ns
            · have h60 : ¬ kk < 60 := fun h => hend ⟨hlt, h⟩
              have g1 : decide ((kk : Int) < (60 : Int)) = false := by rw [decide_eq_false_iff_not]; omega
              have g2 : decide (kk < 60) = false := by rw [decide_eq_false_iff_not]; omega
              clear hend
              go_wp2_with fail
              refine hfile.out.mono ?_
              rintro e w5 ⟨v5, rfl, ho5, hb5⟩
              have hx5 := Lib.hid (hx.out.trans (hb5.mono hwq))
              have hD5 := Lib.hid (hD.out.below hb5)
              have ho5' := Lib.hid ho5
              have hw5 : wq.heap.size ≤ w5.heap.size := hb5.size
              clear hb5 ho5 hfile
              obtain ⟨A5, c5, rfl, hq5⟩ := OwS.sq ho5'.out (by omega)
              have hl5 : (d.fs.map toIn).length ≤ 64 := by rw [List.length_map]; exact hBd.out.inv.most
              have hld2 := load_again hBd.out.inv 32768 (by rw [hBd.out.room]; decide)
              have hgf := hBd.out.good
              have hsize : ∀ f ∈ d.fs.map toIn, f.nm.length ≤ 1000 ∧ f.data.length ≤ 1000000 := fun f hf => by
                obtain ⟨p, hp, rfl⟩ := List.mem_map.1 hf
                have h1 := hgf.fl (by omega) p hp
                have h2 := len_le_used hp
                have h3 := hgf.used
                exact ⟨h1.1, by show p.2.data.length ≤ _; omega⟩
              have hlo := Load_any w5 A5 _ c5 (d.fs.map toIn) 32768 (fe_of hq5) (by omega) hsize (by omega)
              rw [hld2] at hlo
              have hlo' := Lib.hid hlo
              have hq5' := Lib.hid hq5
              obtain ⟨N5, hN5⟩ : ∃ N5, d.fs.map toIn = N5 := ⟨_, rfl⟩
              have hN5' := Lib.hid hN5
              obtain ⟨n5, hn5⟩ : ∃ n5, (d.fs.map toIn).length = n5 := ⟨_, rfl⟩
              rw [hn5] at hlo' ho5' hq5' hl5 ⊢
              rw [hN5] at ho5' hq5'
              have hn5' := Lib.hid hn5
              clear hlo hq5 hld2 hsize hgf hN5 hn5
              go_wp2_with fail
              refine hlo'.out.mono ?_
              rintro e w6 ⟨hb6, a2, mb2, rfl, L2, F2, hDf⟩
              have hx6 := Lib.hid (hx5.out.trans (hb6.mono (by omega)))
              have hD6 := Lib.hid (hD5.out.below hb6)
              have ho6 := Lib.hid (OwF.below ho5'.out hb6)
              have hDf' := Lib.hid hDf
              have hw6 : w5.heap.size ≤ w6.heap.size := hb6.size
              clear hb6 hDf hlo' ho5' hq5'
              have hfile2 := Lib.hid (Files_any w6 w5.heap.size a2 mb2 L2 F2 _ _ hDf'.out (by have h1 : d.fs.length = L2.length := hDf'.out.len_eq; have h2 : d.fs.length ≤ 64 := hBd.out.inv.most; omega) (fun p hp => ⟨(hBd.out.good.fl (by omega) p hp).1, (hBd.out.good.fl (by omega) p hp).2.1⟩))
              go_wp2_with fail
              refine hfile2.out.mono ?_
              rintro e w7 ⟨v7, rfl, ho7, hb7⟩
              have hx7 := Lib.hid (hx6.out.trans (hb7.mono (by omega)))
              have hD7 := Lib.hid (hD6.out.below hb7)
              have ho67 := Lib.hid (OwF.below ho6.out hb7)
              have ho7e : OwF w7 w6.heap.size v7 N5 := by have := ho7; rw [show (({ new 32768 with fs := d.fs } : D).fs.map toIn) = N5 from hN5'.out] at this; exact this
              obtain ⟨A7, c7, rfl, hq7⟩ := OwS.sq ho7e (by omega)
              have hSame := Lib.hid (Same_refl A7 _ c7 A5 n5 c5 N5 w7 (fe_of hq7) (fe_of (OwS.sq' ho67.out (by omega))))
              have hnl : N5.length = n5 := by rw [← hN5'.out]; exact hn5'.out
              have hw7 : w6.heap.size ≤ w7.heap.size := hb7.size
              rw [hnl] at hSame ⊢
              clear hb7 ho7 ho7e hq7 hfile2 ho6 hnl
              go_wp2_with fail
              refine hSame.out.mono ?_
              rintro e w8 ⟨rfl, j, rfl⟩
              have hx8 := Lib.hid (bN hx7.out j)
              have hD8 := Lib.hid (hD7.out.below (Joins.below_draws _ w7 j))
              have ho8 := Lib.hid (OwF.below ho67.out (Joins.below_draws _ w7 j))
              have hw8 : w7.heap.size ≤ (w7.drewN j).heap.size := (Joins.below_draws w7.heap.size w7 j).size
              generalize w7.drewN j = w8 at hx8 hD8 ho8 hw8 ⊢
              clear hSame ho67
              have hcr := Lib.hid (Crash_any w8 w2.heap.size a mb L F tv d hD8.out (by have := hLl.out; omega) (hBd.out.good.fl (by omega)) At nt ct tails (fun w' hb _ => htat.out w' (hx8.out.trans (hb.mono hw2))))
              go_wp2_with fail
              refine hcr.out.mono ?_
              rintro e w9 ⟨rfl, hb9, hf9, L9, F9, tv9, hD9⟩
              have hx9 := Lib.hid (hx8.out.trans (hb9.mono hw2))
              have hD9' := Lib.hid hD9
              have ho9 := Lib.hid (OwF.fm ho8.out hf9)
              have hIc := inv_crash hBd.out.inv tails
              have hIc' := Lib.hid hIc
              have hw9 : w8.heap.size ≤ w9.heap.size := hb9.size
              have huc : Hid (used (crash d tails).fs ≤ 32768) := Lib.hid (by have := hIc.room; rw [show (crash d tails).room = d.room from rfl, hBd.out.room] at this; exact this)
              clear hb9 hf9 hD9 ho8 hcr hIc
              have hfile3 := Lib.hid (Files_any w9 w2.heap.size a mb L9 F9 tv9 _ hD9'.out (by have := hD9'.out.len_eq; have := hIc'.out.most; omega) (fun p hp => ⟨by have := may_len (hIc'.out.names p hp); omega, by have := len_le_used hp; have := huc.out; omega⟩))
              go_wp2_with fail
              refine hfile3.out.mono ?_
              rintro e w10 ⟨v10, rfl, ho10, hb10⟩
              have hx10 := Lib.hid (hx9.out.trans (hb10.mono (by omega)))
              have hD10 := Lib.hid (hD9'.out.below hb10)
              have ho910 := Lib.hid (OwF.below ho9.out hb10)
              have hyl : ((crash d tails).fs.map toIn).length = n5 := by
                have h1 := crashF_names tails 0 d.fs
                have h2 := congrArg List.length h1
                rw [List.length_map, List.length_map] at h2
                rw [List.length_map, ← hn5'.out, List.length_map]
                exact h2
              obtain ⟨A10, c10, rfl, hq10⟩ := OwS.sq ho10 (by omega)
              have hq10' := Lib.hid hq10
              have hq5x := Lib.hid (OwS.sq' ho910.out (by omega))
              rw [hyl] at hq10' ⊢
              have hle10 := hq10'.out.le
              have hmx10 := hq10'.out.max
              have hle5 := hq5x.out.le
              have hmx5 := hq5x.out.max
              clear hb10 ho10 hq10 ho9 ho910 hfile3 hyl
              go_wp2_with fail
              go_loopw [14] (fun i wr => ∃ (m j : Nat), m ≤ n5 ∧ i = .int .i64 m ∧ wr = w10.drewN j) (fun i _ => n5 - (intOf i).toNat)
              case atStart => exact ⟨0, 0, by omega, rfl, rfl⟩
              case round =>
                obtain ⟨m, j, hm, rfl, rfl⟩ := hrel
                by_cases hlm : m < n5
                · obtain ⟨yb, yoff, fy, ys, rfl, hyb, hfy, hyl, hely, hcy⟩ := hq10'.out.at_ hlm
                  obtain ⟨xb, xoff, fx, xs, rfl, hxb, hfx, hxl, helx, hcx⟩ := hq5x.out.at_ hlm
                  obtain ⟨g, hg1, sg, hg2, hg3, hg4, hg5⟩ := back_at hBd.out.inv tails hfy
                  rw [hN5'.out, hfx] at hg1
                  injection hg1 with hg1
                  subst hg1
                  obtain ⟨sy, vy, rfl, _, hvy⟩ := hely
                  obtain ⟨sx, vx, rfl, _, hvx⟩ := helx
                  obtain ⟨Ay, cy, rfl, _⟩ := OwB.slice hvy
                  obtain ⟨Ax, cx, rfl, _⟩ := OwB.slice hvx
                  have y1 : w10.cell? ⟨yb, yoff + m * 3 + 1, none⟩ = some (.slice Ay fy.data.length cy) := hcy 1 _ rfl
                  have y2 : w10.cell? ⟨yb, yoff + m * 3 + 2, none⟩ = some (.int .i64 fy.safe) := hcy 2 _ rfl
                  have x1 : w10.cell? ⟨xb, xoff + m * 3 + 1, none⟩ = some (.slice Ax fx.data.length cx) := hcx 1 _ rfl
                  have x2 : w10.cell? ⟨xb, xoff + m * 3 + 2, none⟩ = some (.int .i64 fx.safe) := hcx 2 _ rfl
                  rw [hg3] at y2
                  rw [hg2] at x2
                  obtain ⟨ny, hny⟩ : ∃ ny, fy.data.length = ny := ⟨_, rfl⟩
                  obtain ⟨nx, hnx⟩ : ∃ nx, fx.data.length = nx := ⟨_, rfl⟩
                  rw [hny] at y1 y2 hg4 hg5
                  rw [hnx] at x1 hg5
                  have p1 : decide ((ny : Int) < (sg : Int)) = false := by rw [decide_eq_false_iff_not]; omega
                  have p2 : decide (ny < sg) = false := by rw [decide_eq_false_iff_not]; omega
                  have p3 : decide ((nx : Int) < (ny : Int)) = false := by rw [decide_eq_false_iff_not]; omega
                  have p4 : decide (nx < ny) = false := by rw [decide_eq_false_iff_not]; omega
                  have i0 : (m : Int) < (n5 : Int) := by omega
                  clear hfy hfx hcy hcx hg2 hg3 hvy hvx hny hnx hyl hxl
                  go_wp2_with fail
                  refine Pl.wp_region_plan 41 (.take 0 (.take 1 (.take 2 (.take 3 (.take 4 (.take 5 (.take 6 (.take 7 (.take 8 (.take 9 (.take 10 (.take 11 (.take 12 (.take 13 (.take 14 (.take 15 (.take 16 (.take 17 (.take 18 (.take 19 (.take 20 (.take 21 (.take 22 (.take 23 (.take 24 (.take 25 (.take 26 (.take 27 (.take 28 (.take 29 (.take 30 (.take 31 (.take 32 (.take 33 (.take 34 (.take 35 (.take 36 (.take 37 (.take 38 (.take 39 (.take 40 .done)))))))))))))))))))))))))))))))))))))))))
                    (fun x => x.cell? ⟨yb, yoff + m * 3 + 1, none⟩ = some (.slice Ay ny cy) ∧ x.cell? ⟨yb, yoff + m * 3 + 2, none⟩ = some (.int .i64 ((ny : Nat) : Int)) ∧ x.cell? ⟨xb, xoff + m * 3 + 1, none⟩ = some (.slice Ax nx cx) ∧ x.cell? ⟨xb, xoff + m * 3 + 2, none⟩ = some (.int .i64 ((sg : Nat) : Int))) (by kernel_rfl) (by kernel_rfl) (by exact ⟨y1, y2, x1, x2⟩) ?_
                  simp only [Pl.fill, List.getElem?_cons_zero, List.getElem?_cons_succ, List.drop_succ_cons, List.drop_zero]
                  iterate 41
                    refine Pl.take_go ?_ (by rfl) (fun _ _ _ h => h) ?_ ?_
                    rotate_left
                    · (intro x hSw; (try dsimp only at hSw); go_simp; try with_reducible rfl)
                    try simp only [Act.put, List.setIfInBounds_toArray, List.set_cons_zero, List.set_cons_succ]
                  refine Pl.done_go ?_
                  go_wp2_with fail
                  go_roundw
                  case rel => exact ⟨m + 1, j + 1, by omega, by go_num, rfl⟩
                  case measure => simp [intOf]; omega
                · have hDw := hD10.out.below (Joins.below_draws _ w10 j)
                  have hdw := Lib.hid (Down_any (w10.drewN j) _ a mb L9 F9 tv9 _ hDw)
                  rw [show (crash d tails).down = false from rfl] at hdw
                  clear hDw
                  go_wp2_with fail
                  refine hdw.out.mono ?_
                  rintro e w11 ⟨rfl, rfl⟩
                  go_wp2_with fail
                  go_ret
                  exact ⟨rfl, by rw [hT'.out]; exact bN hx10.out j⟩
            · clear hend
              go_wp2_with fail
              refine hfile.out.mono ?_
              rintro e w5 ⟨v5, rfl, ho5, hb5⟩
              have hx5 := Lib.hid (hx.out.trans (hb5.mono hwq))
              have hD5 := Lib.hid (hD.out.below hb5)
              have ho5' := Lib.hid ho5
              have hw5 : wq.heap.size ≤ w5.heap.size := hb5.size
              clear hb5 ho5 hfile
              obtain ⟨A5, c5, rfl, hq5⟩ := OwS.sq ho5'.out (by omega)
              have hl5 : (d.fs.map toIn).length ≤ 64 := by rw [List.length_map]; exact hBd.out.inv.most
              have hld2 := load_again hBd.out.inv 32768 (by rw [hBd.out.room]; decide)
              have hgf := hBd.out.good
              have hsize : ∀ f ∈ d.fs.map toIn, f.nm.length ≤ 1000 ∧ f.data.length ≤ 1000000 := fun f hf => by
                obtain ⟨p, hp, rfl⟩ := List.mem_map.1 hf
                have h1 := hgf.fl (by omega) p hp
                have h2 := len_le_used hp
                have h3 := hgf.used
                exact ⟨h1.1, by show p.2.data.length ≤ _; omega⟩
              have hlo := Load_any w5 A5 _ c5 (d.fs.map toIn) 32768 (fe_of hq5) (by omega) hsize (by omega)
              rw [hld2] at hlo
              have hlo' := Lib.hid hlo
              have hq5' := Lib.hid hq5
              obtain ⟨N5, hN5⟩ : ∃ N5, d.fs.map toIn = N5 := ⟨_, rfl⟩
              have hN5' := Lib.hid hN5
              obtain ⟨n5, hn5⟩ : ∃ n5, (d.fs.map toIn).length = n5 := ⟨_, rfl⟩
              rw [hn5] at hlo' ho5' hq5' hl5 ⊢
              rw [hN5] at ho5' hq5'
              have hn5' := Lib.hid hn5
              clear hlo hq5 hld2 hsize hgf hN5 hn5
              go_wp2_with fail
              refine hlo'.out.mono ?_
              rintro e w6 ⟨hb6, a2, mb2, rfl, L2, F2, hDf⟩
              have hx6 := Lib.hid (hx5.out.trans (hb6.mono (by omega)))
              have hD6 := Lib.hid (hD5.out.below hb6)
              have ho6 := Lib.hid (OwF.below ho5'.out hb6)
              have hDf' := Lib.hid hDf
              have hw6 : w5.heap.size ≤ w6.heap.size := hb6.size
              clear hb6 hDf hlo' ho5' hq5'
              have hfile2 := Lib.hid (Files_any w6 w5.heap.size a2 mb2 L2 F2 _ _ hDf'.out (by have h1 : d.fs.length = L2.length := hDf'.out.len_eq; have h2 : d.fs.length ≤ 64 := hBd.out.inv.most; omega) (fun p hp => ⟨(hBd.out.good.fl (by omega) p hp).1, (hBd.out.good.fl (by omega) p hp).2.1⟩))
              go_wp2_with fail
              refine hfile2.out.mono ?_
              rintro e w7 ⟨v7, rfl, ho7, hb7⟩
              have hx7 := Lib.hid (hx6.out.trans (hb7.mono (by omega)))
              have hD7 := Lib.hid (hD6.out.below hb7)
              have ho67 := Lib.hid (OwF.below ho6.out hb7)
              have ho7e : OwF w7 w6.heap.size v7 N5 := by have := ho7; rw [show (({ new 32768 with fs := d.fs } : D).fs.map toIn) = N5 from hN5'.out] at this; exact this
              obtain ⟨A7, c7, rfl, hq7⟩ := OwS.sq ho7e (by omega)
              have hSame := Lib.hid (Same_refl A7 _ c7 A5 n5 c5 N5 w7 (fe_of hq7) (fe_of (OwS.sq' ho67.out (by omega))))
              have hnl : N5.length = n5 := by rw [← hN5'.out]; exact hn5'.out
              have hw7 : w6.heap.size ≤ w7.heap.size := hb7.size
              rw [hnl] at hSame ⊢
              clear hb7 ho7 ho7e hq7 hfile2 ho6 hnl
              go_wp2_with fail
              refine hSame.out.mono ?_
              rintro e w8 ⟨rfl, j, rfl⟩
              have hx8 := Lib.hid (bN hx7.out j)
              have hD8 := Lib.hid (hD7.out.below (Joins.below_draws _ w7 j))
              have ho8 := Lib.hid (OwF.below ho67.out (Joins.below_draws _ w7 j))
              have hw8 : w7.heap.size ≤ (w7.drewN j).heap.size := (Joins.below_draws w7.heap.size w7 j).size
              generalize w7.drewN j = w8 at hx8 hD8 ho8 hw8 ⊢
              clear hSame ho67
              have hcr := Lib.hid (Crash_any w8 w2.heap.size a mb L F tv d hD8.out (by have := hLl.out; omega) (hBd.out.good.fl (by omega)) At nt ct tails (fun w' hb _ => htat.out w' (hx8.out.trans (hb.mono hw2))))
              go_wp2_with fail
              refine hcr.out.mono ?_
              rintro e w9 ⟨rfl, hb9, hf9, L9, F9, tv9, hD9⟩
              have hx9 := Lib.hid (hx8.out.trans (hb9.mono hw2))
              have hD9' := Lib.hid hD9
              have ho9 := Lib.hid (OwF.fm ho8.out hf9)
              have hIc := inv_crash hBd.out.inv tails
              have hIc' := Lib.hid hIc
              have hw9 : w8.heap.size ≤ w9.heap.size := hb9.size
              have huc : Hid (used (crash d tails).fs ≤ 32768) := Lib.hid (by have := hIc.room; rw [show (crash d tails).room = d.room from rfl, hBd.out.room] at this; exact this)
              clear hb9 hf9 hD9 ho8 hcr hIc
              have hfile3 := Lib.hid (Files_any w9 w2.heap.size a mb L9 F9 tv9 _ hD9'.out (by have := hD9'.out.len_eq; have := hIc'.out.most; omega) (fun p hp => ⟨by have := may_len (hIc'.out.names p hp); omega, by have := len_le_used hp; have := huc.out; omega⟩))
              go_wp2_with fail
              refine hfile3.out.mono ?_
              rintro e w10 ⟨v10, rfl, ho10, hb10⟩
              have hx10 := Lib.hid (hx9.out.trans (hb10.mono (by omega)))
              have hD10 := Lib.hid (hD9'.out.below hb10)
              have ho910 := Lib.hid (OwF.below ho9.out hb10)
              have hyl : ((crash d tails).fs.map toIn).length = n5 := by
                have h1 := crashF_names tails 0 d.fs
                have h2 := congrArg List.length h1
                rw [List.length_map, List.length_map] at h2
                rw [List.length_map, ← hn5'.out, List.length_map]
                exact h2
              obtain ⟨A10, c10, rfl, hq10⟩ := OwS.sq ho10 (by omega)
              have hq10' := Lib.hid hq10
              have hq5x := Lib.hid (OwS.sq' ho910.out (by omega))
              rw [hyl] at hq10' ⊢
              have hle10 := hq10'.out.le
              have hmx10 := hq10'.out.max
              have hle5 := hq5x.out.le
              have hmx5 := hq5x.out.max
              clear hb10 ho10 hq10 ho9 ho910 hfile3 hyl
              go_wp2_with fail
              go_loopw [14] (fun i wr => ∃ (m j : Nat), m ≤ n5 ∧ i = .int .i64 m ∧ wr = w10.drewN j) (fun i _ => n5 - (intOf i).toNat)
              case atStart => exact ⟨0, 0, by omega, rfl, rfl⟩
              case round =>
                obtain ⟨m, j, hm, rfl, rfl⟩ := hrel
                by_cases hlm : m < n5
                · obtain ⟨yb, yoff, fy, ys, rfl, hyb, hfy, hyl, hely, hcy⟩ := hq10'.out.at_ hlm
                  obtain ⟨xb, xoff, fx, xs, rfl, hxb, hfx, hxl, helx, hcx⟩ := hq5x.out.at_ hlm
                  obtain ⟨g, hg1, sg, hg2, hg3, hg4, hg5⟩ := back_at hBd.out.inv tails hfy
                  rw [hN5'.out, hfx] at hg1
                  injection hg1 with hg1
                  subst hg1
                  obtain ⟨sy, vy, rfl, _, hvy⟩ := hely
                  obtain ⟨sx, vx, rfl, _, hvx⟩ := helx
                  obtain ⟨Ay, cy, rfl, _⟩ := OwB.slice hvy
                  obtain ⟨Ax, cx, rfl, _⟩ := OwB.slice hvx
                  have y1 : w10.cell? ⟨yb, yoff + m * 3 + 1, none⟩ = some (.slice Ay fy.data.length cy) := hcy 1 _ rfl
                  have y2 : w10.cell? ⟨yb, yoff + m * 3 + 2, none⟩ = some (.int .i64 fy.safe) := hcy 2 _ rfl
                  have x1 : w10.cell? ⟨xb, xoff + m * 3 + 1, none⟩ = some (.slice Ax fx.data.length cx) := hcx 1 _ rfl
                  have x2 : w10.cell? ⟨xb, xoff + m * 3 + 2, none⟩ = some (.int .i64 fx.safe) := hcx 2 _ rfl
                  rw [hg3] at y2
                  rw [hg2] at x2
                  obtain ⟨ny, hny⟩ : ∃ ny, fy.data.length = ny := ⟨_, rfl⟩
                  obtain ⟨nx, hnx⟩ : ∃ nx, fx.data.length = nx := ⟨_, rfl⟩
                  rw [hny] at y1 y2 hg4 hg5
                  rw [hnx] at x1 hg5
                  have p1 : decide ((ny : Int) < (sg : Int)) = false := by rw [decide_eq_false_iff_not]; omega
                  have p2 : decide (ny < sg) = false := by rw [decide_eq_false_iff_not]; omega
                  have p3 : decide ((nx : Int) < (ny : Int)) = false := by rw [decide_eq_false_iff_not]; omega
                  have p4 : decide (nx < ny) = false := by rw [decide_eq_false_iff_not]; omega
                  have i0 : (m : Int) < (n5 : Int) := by omega
                  clear hfy hfx hcy hcx hg2 hg3 hvy hvx hny hnx hyl hxl
                  go_wp2_with fail
                  refine Pl.wp_region_plan 41 (.take 0 (.take 1 (.take 2 (.take 3 (.take 4 (.take 5 (.take 6 (.take 7 (.take 8 (.take 9 (.take 10 (.take 11 (.take 12 (.take 13 (.take 14 (.take 15 (.take 16 (.take 17 (.take 18 (.take 19 (.take 20 (.take 21 (.take 22 (.take 23 (.take 24 (.take 25 (.take 26 (.take 27 (.take 28 (.take 29 (.take 30 (.take 31 (.take 32 (.take 33 (.take 34 (.take 35 (.take 36 (.take 37 (.take 38 (.take 39 (.take 40 .done)))))))))))))))))))))))))))))))))))))))))
                    (fun x => x.cell? ⟨yb, yoff + m * 3 + 1, none⟩ = some (.slice Ay ny cy) ∧ x.cell? ⟨yb, yoff + m * 3 + 2, none⟩ = some (.int .i64 ((ny : Nat) : Int)) ∧ x.cell? ⟨xb, xoff + m * 3 + 1, none⟩ = some (.slice Ax nx cx) ∧ x.cell? ⟨xb, xoff + m * 3 + 2, none⟩ = some (.int .i64 ((sg : Nat) : Int))) (by kernel_rfl) (by kernel_rfl) (by exact ⟨y1, y2, x1, x2⟩) ?_
                  simp only [Pl.fill, List.getElem?_cons_zero, List.getElem?_cons_succ, List.drop_succ_cons, List.drop_zero]
                  iterate 41
                    refine Pl.take_go ?_ (by rfl) (fun _ _ _ h => h) ?_ ?_
                    rotate_left
                    · (intro x hSw; (try dsimp only at hSw); go_simp; try with_reducible rfl)
                    try simp only [Act.put, List.setIfInBounds_toArray, List.set_cons_zero, List.set_cons_succ]
                  refine Pl.done_go ?_
                  go_wp2_with fail
                  go_roundw
                  case rel => exact ⟨m + 1, j + 1, by omega, by go_num, rfl⟩
                  case measure => simp [intOf]; omega
                · have hDw := hD10.out.below (Joins.below_draws _ w10 j)
                  have hdw := Lib.hid (Down_any (w10.drewN j) _ a mb L9 F9 tv9 _ hDw)
                  rw [show (crash d tails).down = false from rfl] at hdw
                  clear hDw
                  go_wp2_with fail
                  refine hdw.out.mono ?_
                  rintro e w11 ⟨rfl, rfl⟩
                  go_wp2_with fail
                  go_ret
                  exact ⟨rfl, by rw [hT'.out]; exact bN hx10.out j⟩
end Go.Proofs.YtjhiihmibleecaaDoor.Dk
