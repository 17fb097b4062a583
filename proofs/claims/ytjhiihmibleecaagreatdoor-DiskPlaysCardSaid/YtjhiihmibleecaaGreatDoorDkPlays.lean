/- The law DiskPlays. -/
import Derived.Test.YtjhiihmibleecaaGreatDoorDkRk
import Derived.Test.YtjhiihmibleecaaGreatDoorDkAwake
import Derived.Test.YtjhiihmibleecaaGreatDoorDkSmall
namespace Go.Proofs.YtjhiihmibleecaaGreatDoor.Dk
open Go.RowKit

theorem loadF_sum : ∀ (l : List In) (fs fs' : Fs), loadF l fs = some fs' → used fs' = used fs + (l.map (·.data.length)).sum
  | [], fs, fs', h => by simp [loadF] at h; subst h; simp
  | f :: l, fs, fs', h => by
    rw [loadF] at h
    split at h
    · cases h
    · have := loadF_sum l _ fs' h
      rw [used_ins] at this
      rw [List.map_cons, List.sum_cons]
      simp only at this
      omega
theorem load_sum {l : List In} {room : Int} {d : D} (h : load l room = some d) : used d.fs = (l.map (·.data.length)).sum := by
  unfold load at h
  cases hf : loadF l [] with
  | none => rw [hf] at h; cases h
  | some fs =>
    rw [hf] at h
    simp only at h
    split at h
    · cases h
    · injection h with h
      subst h
      have := loadF_sum l [] fs hf
      simpa [used] using this

/-- What holds of the disk behind k steps. -/
structure Py (k : Nat) (d : D) : Prop where
  inv : Inv d
  room : d.room ≤ 9223372036854775807
  ops : d.ops ≤ k
  tr : d.tr.length ≤ 200
  used : used d.fs ≤ 16384 + k * 2000
theorem Py.good {k : Nat} {d : D} (h : Py k d) : Good d k 200 (16384 + k * 2000) := ⟨h.inv, h.ops, h.tr, h.used⟩
theorem Py.act_ {k : Nat} {d : D} {x : Dx} (h : Py k d) (hx : Dm x) : Py (k + 1) (actX d x).2 := by
  obtain ⟨h1, h2⟩ := h.good.act_ x hx (Nat.le_refl _)
  exact ⟨h1.inv, by rw [h2]; exact h.room, h1.ops, h1.tr, by have := h1.used; omega⟩
theorem Py.big {k : Nat} {d : D} (h : Py k d) (hk : k ≤ 61) : Good d 1000 1000 1000000 := ⟨h.inv, by have := h.ops; omega, by have := h.tr; omega, by have := h.used; omega⟩
theorem Ra.base_ {w : World} {B B' rb : Nat} {lv tv : Value} {d : D} (h : Ra w B rb lv tv d) (hB : B' ≤ B) : Ra w B' rb lv tv d := by
  obtain ⟨xs, h1, h2⟩ := h.row
  exact ⟨Nat.le_trans hB h.base, h.blk, ⟨xs, ownsRow_base h1 hB, h2.mono (FoEl.base hB)⟩, ownsRow_base h.tr hB⟩

theorem Ops_any (w : World) (B a mb : Nat) (L : Al Nat) (F : Nat → Fl) (tv : Value) (d : D) (h : Da w B a mb L F tv d) :
    Calls Tryz.prog 15 #[.pointer (some ⟨a, 0, none⟩)] w fun e w' => e = .returned (.int .i64 (d.ops : Nat)) ∧ w = w' := by
  have c4 : w.cell? ⟨a, 3, none⟩ = some (.int .i64 (d.ops : Nat)) := by simp [World.cell?, h.blk]
  clear h
  go_enter Tryz.func15, Tryz.ntmps15
  go_wp2_with fail
  go_ret
  exact ⟨rfl, rfl⟩

set_option maxHeartbeats 4000000 in
set_option maxRecDepth 100000 in
theorem plays_law (A : Option Addr) (n c : Nat) (l : List In) (room : Int) (As : Option Addr) (ns cs_ : Nat) (ls : List Dx) (W : World) (hF : Sq FeEl 3 W A n c l) (hsz : ∀ f ∈ l, f.data.length ≤ 140737488351232) (hroom : room ≤ 9223372036854775807) (hS : Sq DoEl 7 W As ns cs_ ls) :
    Calls Tryz.prog 3 #[.slice A n c, .int .i64 room, .slice As ns cs_] W fun e w' => e = .returned (.bool true) ∧ Below W.heap.size W w' := by
  obtain ⟨T, hT⟩ : ∃ T, W.heap.size = T := ⟨_, rfl⟩
  have hFat : Hid (∀ w', Below T W w' → Sq FeEl 3 w' A n c l) := Lib.hid fun w' hb => hF.below (FeEl.below (by rw [hT]; exact hb)) (by rw [hT]; exact hb)
  have hSat : Hid (∀ w', Below T W w' → Sq DoEl 7 w' As ns cs_ ls) := Lib.hid fun w' hb => hS.below (DoEl.below (by rw [hT]; exact hb)) (by rw [hT]; exact hb)
  have hel : Hid (∀ w', Below T W w' → ∀ vs x, DoEl W vs x → DoEl w' vs x) := Lib.hid fun w' hb => DoEl.below (by rw [hT]; exact hb)
  have hle := hS.le
  have hmx := hS.max
  have hS' := Lib.hid hS
  have hT' := Lib.hid hT
  have hsz' := Lib.hid hsz
  have hTw : T ≤ W.heap.size := by omega
  clear hF hsz hS
  go_enter Tryz.func3, Tryz.ntmps3
  go_wp2_with fail
  refine (awake_any _).mono ?_
  rintro e w2 ⟨rfl, hb2⟩
  have hx2 := Lib.hid (hb2.mono hTw)
  clear hb2 hT
  go_wp2_with fail
  refine (Small_any A n c l w2 (hFat.out _ hx2.out) hsz'.out).mono ?_
  rintro e w2' ⟨b, rfl, hsm, rfl⟩
  have hsm' := Lib.hid hsm
  clear hsm
  cases b with
  | false =>
    go_wp2_with fail
    go_ret
    exact ⟨rfl, by rw [hT'.out]; exact hx2.out⟩
  | true =>
    have hSm := Lib.hid (hsm'.out rfl)
    clear hsm'
    go_wp2_with fail
    refine (small_any As ns cs_ ls w2 (hSat.out _ hx2.out)).mono ?_
    rintro e w2' ⟨b, rfl, hdm, rfl⟩
    have hdm' := Lib.hid hdm
    clear hdm
    cases b with
    | false =>
      go_wp2_with fail
      go_ret
      exact ⟨rfl, by rw [hT'.out]; exact hx2.out⟩
    | true =>
      have hDm := Lib.hid (hdm'.out rfl)
      clear hdm'
      have hn1 : Hid (n ≤ 1000) := Lib.hid (by have := hSm.out.len; have := (hFat.out _ hx2.out).len; omega)
      have hsz2 : Hid (∀ f ∈ l, f.nm.length ≤ 1000 ∧ f.data.length ≤ 1000000) := Lib.hid fun f hf => ⟨hSm.out.nm f hf, by have h1 := hSm.out.sum; have h2 := le_sum_of_mem hf; omega⟩
      go_wp2_with fail
      refine (Load_any w2 A n c l room (hFat.out _ hx2.out) hn1.out hsz2.out hroom).mono ?_
      rintro e w4 ⟨hb4, hload⟩
      have hx4 := Lib.hid (hx2.out.trans (hb4.mono (by have := hx2.out.size; omega)))
      have hld2 := Lib.hid (rLoad_any w4 A n c l room (hFat.out _ hx4.out) hn1.out hsz2.out hroom)
      have hs4 : w2.heap.size ≤ w4.heap.size := hb4.size
      clear hb4
      cases hld : load l room with
      | none =>
        rw [hld] at hload hld2
        obtain rfl := hload
        go_wp2_with fail
        refine hld2.out.mono ?_
        rintro e w5 ⟨hb5, rfl⟩
        have hx5 := Lib.hid (hx4.out.trans (hb5.mono (by have := hx4.out.size; omega)))
        clear hb5
        go_wp2_with fail
        go_ret
        exact ⟨rfl, by rw [hT'.out]; exact hx5.out⟩
      | some d0 =>
        rw [hld] at hload hld2
        obtain ⟨a, mb, rfl, L0, F0, hD⟩ := hload
        obtain ⟨hI, hdn, htr, hop, hrm⟩ := inv_load hld
        have hPy : Hid (Py 0 d0) := Lib.hid ⟨hI, by rw [hrm]; omega, by omega, by rw [htr]; simp, by rw [load_sum hld]; have := hSm.out.sum; omega⟩
        have hD4 := Lib.hid hD
        clear hD hI hdn htr hop hrm hld
        go_wp2_with fail
        refine hld2.out.mono ?_
        rintro e w5 ⟨hb5, rb, lv0, tv0, rfl, hR⟩
        have hx5 := Lib.hid (hx4.out.trans (hb5.mono (by have := hx4.out.size; omega)))
        have hB2 : T ≤ w2.heap.size := by have := hx2.out.size; omega
        have hR5 := Lib.hid (hR.base_ (B' := w2.heap.size) hs4)
        have hD5 := Lib.hid (hD4.out.below hb5)
        clear hb5 hR hld2 hD4
        go_wp2_with fail
        --LOOP
        go_loopw [11] (fun i wr => ∃ (k : Nat) (L : Al Nat) (F : Nat → Fl) (tv lv rtv : Value) (d : D), k ≤ ns ∧ k ≤ 60 ∧ i = .int .i64 k ∧ Hid (Py k d) ∧ Hid (Da wr w2.heap.size a mb L F tv d) ∧ Hid (Ra wr w2.heap.size rb lv rtv d) ∧ Hid (Below T W wr)) (fun i _ => ns - (intOf i).toNat)
        case atStart => exact ⟨0, L0, F0, _, lv0, tv0, _, by omega, by omega, rfl, hPy, hD5, hR5, hx5⟩
        case round =>
          obtain ⟨k, L, F, tv, lv, rtv, d, hk, hk60, rfl, hPd, hD, hR, hx⟩ := hrel
          by_cases hend : k < ns ∧ k < 60
          · obtain ⟨hlt, h60⟩ := hend
            have i1 : decide ((k : Int) < (ns : Int)) = true := by rw [decide_eq_true_eq]; omega
            have i2 : decide (k < ns) = true := by rw [decide_eq_true_eq]; omega
            have i3 : (k : Int) < (ns : Int) := by omega
            have i4 : (0 : Int) ≤ (k : Int) := by omega
            have g1 : decide ((k : Int) < (60 : Int)) = true := by rw [decide_eq_true_eq]; omega
            have g2 : decide (k < 60) = true := by rw [decide_eq_true_eq]; omega
            obtain ⟨pb, off, xx, vs, rfl, hpb, hfk, hvs, hel0, hcs⟩ := hS'.out.at_ hlt
            have hdo := Lib.hid hel0
            obtain ⟨s, s2, Ab, nb, cb, At2, nt2, ct2, Al, nl, cl, rfl, hnm, hto, _, _, _⟩ := hel0
            have hpb' : pb < T := by rw [← hT'.out]; exact hpb
            have hSc : Hid (∀ x, Below T W x → x.cell? ⟨pb, off + k * 7, none⟩ = some (.int .i64 xx.kind) ∧ x.cell? ⟨pb, off + k * 7 + 1, none⟩ = some (.string s) ∧ x.cell? ⟨pb, off + k * 7 + 2, none⟩ = some (.string s2) ∧ x.cell? ⟨pb, off + k * 7 + 3, none⟩ = some (.int .i64 xx.n) ∧ x.cell? ⟨pb, off + k * 7 + 4, none⟩ = some (.slice Ab nb cb) ∧ x.cell? ⟨pb, off + k * 7 + 5, none⟩ = some (.slice At2 nt2 ct2) ∧ x.cell? ⟨pb, off + k * 7 + 6, none⟩ = some (.slice Al nl cl)) := Lib.hid fun x hb =>
              ⟨(hb.cell (p := ⟨pb, off + k * 7, none⟩) hpb').trans (hcs 0 _ rfl), (hb.cell (p := ⟨pb, off + k * 7 + 1, none⟩) hpb').trans (hcs 1 _ rfl), (hb.cell (p := ⟨pb, off + k * 7 + 2, none⟩) hpb').trans (hcs 2 _ rfl), (hb.cell (p := ⟨pb, off + k * 7 + 3, none⟩) hpb').trans (hcs 3 _ rfl), (hb.cell (p := ⟨pb, off + k * 7 + 4, none⟩) hpb').trans (hcs 4 _ rfl), (hb.cell (p := ⟨pb, off + k * 7 + 5, none⟩) hpb').trans (hcs 5 _ rfl), (hb.cell (p := ⟨pb, off + k * 7 + 6, none⟩) hpb').trans (hcs 6 _ rfl)⟩
            have hDmx := Lib.hid (hDm.out k xx hfk h60)
            have hdoat : Hid (∀ w', Below T W w' → DoEl w' [.int .i64 xx.kind, .string s, .string s2, .int .i64 xx.n, .slice Ab nb cb, .slice At2 nt2 ct2, .slice Al nl cl] xx) := Lib.hid fun w' hb => hel.out w' hb _ _ hdo.out
            have hBig := Lib.hid (hPd.out.big (by omega))
            have hrm := Lib.hid hPd.out.room
            have hPy2 := Lib.hid (hPd.out.act_ hDmx.out)
            have hss : s.size ≤ 1000 := by have := hDmx.out.nm; rw [hnm, Array.length_toList] at this; exact this
            have hact := Lib.hid (act_any wr.drew w2.heap.size a mb L F tv d (hD.out.below (bD (Below.refl _ _))) hBig.out hrm.out _ xx (fun w' hb => hdoat.out w' ((hx.out.trans (bD (Below.refl _ _))).trans (hb.mono hB2))) hDmx.out)
            obtain ⟨X, hX⟩ : ∃ X, actX d xx = X := ⟨_, rfl⟩
            rw [hX] at hPy2 hact
            have hsame : Hid (∀ w6 lv rtv, Ra w6 w2.heap.size rb lv rtv d → Below T W w6 → Calls Tryz.prog 10 #[.pointer (some ⟨rb, 0, none⟩), .agg #[.int .i64 xx.kind, .string s, .string s2, .int .i64 xx.n, .slice Ab nb cb, .slice At2 nt2 ct2, .slice Al nl cl]] w6 fun e w' => e = .returned (.int .i64 X.1) ∧ Rs w2.heap.size rb X.2 w6 w') := Lib.hid fun w6 lv rtv hr hb => by
              have h9 := same_any w6 w2.heap.size rb lv rtv d hr hBig.out hrm.out _ xx (fun w' hb2 => hdoat.out _ (hb.trans (hb2.mono hB2))) hDmx.out
              rw [hX] at h9
              exact h9
            clear hcs hvs hnm hto hfk hdo hpb hPd hX
            go_wp2_with fail
            refine Pl.wp_region_plan 46 (.take 0 (.take 1 (.take 2 (.take 3 (.take 4 (.take 6 (.take 7 (.take 8 (.take 9 (.take 10 (.run 5 (.run 11 (.take 12 (.take 13 (.take 14 (.take 16 (.take 17 (.take 18 (.take 19 (.run 15 (.run 20 (.take 21 (.take 22 (.take 23 (.take 24 (.take 26 (.run 25 (.run 27 (.take 28 (.take 29 (.take 30 (.take 31 (.take 33 (.take 34 (.take 35 (.take 36 (.run 32 (.take 37 (.take 38 (.take 39 (.take 40 (.take 42 (.take 43 (.take 44 (.take 45 (.run 41 .done))))))))))))))))))))))))))))))))))))))))))))))
              (fun x => x.cell? ⟨pb, off + k * 7, none⟩ = some (.int .i64 xx.kind) ∧ x.cell? ⟨pb, off + k * 7 + 1, none⟩ = some (.string s) ∧ x.cell? ⟨pb, off + k * 7 + 2, none⟩ = some (.string s2) ∧ x.cell? ⟨pb, off + k * 7 + 3, none⟩ = some (.int .i64 xx.n) ∧ x.cell? ⟨pb, off + k * 7 + 4, none⟩ = some (.slice Ab nb cb) ∧ x.cell? ⟨pb, off + k * 7 + 5, none⟩ = some (.slice At2 nt2 ct2) ∧ x.cell? ⟨pb, off + k * 7 + 6, none⟩ = some (.slice Al nl cl)) (by kernel_rfl) (by kernel_rfl) (by exact hSc.out _ (hx.out.trans (bD (Below.refl _ _)))) ?_
            simp only [Pl.fill, List.getElem?_cons_zero, List.getElem?_cons_succ, List.drop_succ_cons, List.drop_zero]
            iterate 10
              refine Pl.take_go ?_ (by rfl) (fun _ _ _ h => h) ?_ ?_
              rotate_left
              · (intro x hSw; (try dsimp only at hSw); go_simp; try with_reducible rfl)
              try simp only [Act.put, List.setIfInBounds_toArray, List.set_cons_zero, List.set_cons_succ]
            refine Pl.run_go (fun K hK => ?_)
            go_simp
            refine hact.out.mono ?_
            rintro e w6 ⟨rfl, hbb, hfm, Lb, Fb, tvb, hDb⟩
            have hx6 := Lib.hid ((hx.out.trans (bD (Below.refl _ wr))).trans (hbb.mono hB2))
            have hD6 := Lib.hid hDb
            have hR6 := Lib.hid ((hR.out.below (bD (Below.refl _ wr))).fm hfm)
            have hs6 : Hid (w2.heap.size ≤ w6.heap.size) := Lib.hid (by have := hD6.out.alt; have := hD6.out.base; omega)
            clear hbb hfm hDb hact
            dsimp only
            refine hK.out _ _ (Pl.more_go _ (fun _ h => h) (by exact hSc.out _ hx6.out) ?_)
            clear hK K
            try simp only [Act.put, List.setIfInBounds_toArray, List.set_cons_zero, List.set_cons_succ]
            refine Pl.run_go (fun K hK => ?_)
            go_simp
            refine (hsame.out w6 lv rtv hR6.out hx6.out).mono ?_
            rintro e w7 ⟨rfl, hb7, hm7, lv7, rtv7, hR7⟩
            have hx7 := Lib.hid (hx6.out.trans (hb7.mono hB2))
            have hD7 := Lib.hid (hD6.out.rm hm7 hb7)
            have hR7' := Lib.hid hR7
            obtain ⟨A7, c7, rfl, _⟩ := hR7.sq
            have hSr : Hid (∀ x, Below w7.heap.size w7 x → x.cell? ⟨rb, 1, none⟩ = some (.slice A7 X.2.fs.length c7) ∧ x.cell? ⟨rb, 3, none⟩ = some (.int .i64 (X.2.ops : Nat)) ∧ x.cell? ⟨rb, 4, none⟩ = some (.bool X.2.down)) := Lib.hid fun x hb =>
              ⟨cell_blk (hR7'.out.below hb).blk rfl, cell_blk (hR7'.out.below hb).blk rfl, cell_blk (hR7'.out.below hb).blk rfl⟩
            have hx7w : Hid (∀ x, Below w7.heap.size w7 x → Below T W x) := Lib.hid fun x hb => hx7.out.trans (hb.mono (by have := hx7.out.size; omega))
            clear hb7 hm7 hR7 hD6 hR6 hx6 hs6 hD hR hx
            dsimp only
            refine hK.out _ _ (Pl.more_go (fun x => (x.cell? ⟨pb, off + k * 7, none⟩ = some (.int .i64 xx.kind) ∧ x.cell? ⟨pb, off + k * 7 + 1, none⟩ = some (.string s) ∧ x.cell? ⟨pb, off + k * 7 + 2, none⟩ = some (.string s2) ∧ x.cell? ⟨pb, off + k * 7 + 3, none⟩ = some (.int .i64 xx.n) ∧ x.cell? ⟨pb, off + k * 7 + 4, none⟩ = some (.slice Ab nb cb) ∧ x.cell? ⟨pb, off + k * 7 + 5, none⟩ = some (.slice At2 nt2 ct2) ∧ x.cell? ⟨pb, off + k * 7 + 6, none⟩ = some (.slice Al nl cl)) ∧ x.cell? ⟨rb, 1, none⟩ = some (.slice A7 X.2.fs.length c7) ∧ x.cell? ⟨rb, 3, none⟩ = some (.int .i64 (X.2.ops : Nat)) ∧ x.cell? ⟨rb, 4, none⟩ = some (.bool X.2.down)) (fun _ h => h.1) (by exact ⟨hSc.out _ hx7.out, hSr.out _ (Below.refl _ _)⟩) ?_)
            clear hK K
            try simp only [Act.put, List.setIfInBounds_toArray, List.set_cons_zero, List.set_cons_succ]
            iterate 7
              refine Pl.take_go ?_ (by rfl) (fun _ _ _ h => h) ?_ ?_
              rotate_left
              · (intro x hSw; (try dsimp only at hSw); go_simp; try with_reducible rfl)
              try simp only [Act.put, List.setIfInBounds_toArray, List.set_cons_zero, List.set_cons_succ]
            refine Pl.run_go (fun K hK => ?_)
            go_simp
            refine (Files_any w7 w2.heap.size a mb Lb Fb tvb X.2 hD7.out (by have := hD7.out.len_eq; have := hPy2.out.inv.most; omega) (fun p hp => by have := (hPy2.out.big (by omega)).fl (by omega) p hp; exact ⟨this.1, this.2.1⟩)).mono ?_
            rintro e w8 ⟨v, rfl, hO8, hb8⟩
            obtain ⟨A8, c8, hv8, hq8⟩ := hO8.sq (by omega)
            rw [List.length_map] at hv8 hq8
            subst hv8
            have hq8' := Lib.hid (fe_of hq8)
            have hb8' := Lib.hid hb8
            have p8 := hSr.out _ hb8
            have p8c := hSc.out _ (hx7w.out _ hb8)
            clear hO8 hq8 hb8
            dsimp only
            refine hK.out _ _ (Pl.more_go _ (fun _ h => h) (by exact ⟨p8c, p8⟩) ?_)
            clear hK K p8 p8c
            try simp only [Act.put, List.setIfInBounds_toArray, List.set_cons_zero, List.set_cons_succ]
            refine Pl.run_go (fun K hK => ?_)
            go_simp
            have hq9 := (hR7'.out.below hb8'.out).row.sq' (by omega) (A := A7) (n := X.2.fs.length) (c := c7)
            refine (Same_refl A8 X.2.fs.length c8 A7 X.2.fs.length c7 (X.2.fs.map toIn) w8 hq8'.out (fe_of hq9)).mono ?_
            clear hq9
            rintro e w9 ⟨rfl, q, rfl⟩
            have hb9 := Lib.hid (hb8'.out.trans ((Joins.below_draws _ w8 q).mono hb8'.out.size))
            generalize w8.drewN q = w9 at hb9 ⊢
            have p9 := hSr.out _ hb9.out
            have p9c := hSc.out _ (hx7w.out _ hb9.out)
            clear hq8' hb8'
            dsimp only
            refine hK.out _ _ (Pl.more_go _ (fun _ h => h) (by exact ⟨p9c, p9⟩) ?_)
            clear hK K p9 p9c
            try simp only [Act.put, List.setIfInBounds_toArray, List.set_cons_zero, List.set_cons_succ]
            iterate 5
              refine Pl.take_go ?_ (by rfl) (fun _ _ _ h => h) ?_ ?_
              rotate_left
              · (intro x hSw; (try dsimp only at hSw); go_simp; try with_reducible rfl)
              try simp only [Act.put, List.setIfInBounds_toArray, List.set_cons_zero, List.set_cons_succ]
            refine Pl.run_go (fun K hK => ?_)
            go_simp
            refine (Used_any w9 w2.heap.size a mb Lb Fb tvb X.2 (hD7.out.below hb9.out) (by have := hPy2.out.used; omega)).mono ?_
            rintro e w10 ⟨rfl, hb10⟩
            have hb10' := Lib.hid (hb9.out.trans (hb10.mono hb9.out.size))
            clear hb10
            have p9 := hSr.out _ hb10'.out
            have p9c := hSc.out _ (hx7w.out _ hb10'.out)
            dsimp only
            refine hK.out _ _ (Pl.more_go _ (fun _ h => h) (by exact ⟨p9c, p9⟩) ?_)
            clear hK K p9 p9c
            try simp only [Act.put, List.setIfInBounds_toArray, List.set_cons_zero, List.set_cons_succ]
            refine Pl.run_go (fun K hK => ?_)
            go_simp
            refine (rUsed_any w10 w2.heap.size rb _ _ X.2 (hR7'.out.below hb10'.out) (by have := hPy2.out.used; omega)).mono ?_
            rintro e w11 ⟨rfl, rfl⟩
            have p9 := hSr.out _ hb10'.out
            have p9c := hSc.out _ (hx7w.out _ hb10'.out)
            dsimp only
            refine hK.out _ _ (Pl.more_go _ (fun _ h => h) (by exact ⟨p9c, p9⟩) ?_)
            clear hK K p9 p9c
            try simp only [Act.put, List.setIfInBounds_toArray, List.set_cons_zero, List.set_cons_succ]
            iterate 8
              refine Pl.take_go ?_ (by rfl) (fun _ _ _ h => h) ?_ ?_
              rotate_left
              · (intro x hSw; (try dsimp only at hSw); go_simp; try with_reducible rfl)
              try simp only [Act.put, List.setIfInBounds_toArray, List.set_cons_zero, List.set_cons_succ]
            refine Pl.run_go (fun K hK => ?_)
            go_simp
            refine (Ops_any w10 w2.heap.size a mb Lb Fb tvb X.2 (hD7.out.below hb10'.out)).mono ?_
            rintro e w11 ⟨rfl, rfl⟩
            have p9 := hSr.out _ hb10'.out
            have p9c := hSc.out _ (hx7w.out _ hb10'.out)
            dsimp only
            refine hK.out _ _ (Pl.more_go _ (fun _ h => h) (by exact ⟨p9c, p9⟩) ?_)
            clear hK K p9 p9c
            try simp only [Act.put, List.setIfInBounds_toArray, List.set_cons_zero, List.set_cons_succ]
            iterate 8
              refine Pl.take_go ?_ (by rfl) (fun _ _ _ h => h) ?_ ?_
              rotate_left
              · (intro x hSw; (try dsimp only at hSw); go_simp; try with_reducible rfl)
              try simp only [Act.put, List.setIfInBounds_toArray, List.set_cons_zero, List.set_cons_succ]
            refine Pl.run_go (fun K hK => ?_)
            go_simp
            refine (Down_any w10 w2.heap.size a mb Lb Fb tvb X.2 (hD7.out.below hb10'.out)).mono ?_
            rintro e w11 ⟨rfl, rfl⟩
            have p9 := hSr.out _ hb10'.out
            have p9c := hSc.out _ (hx7w.out _ hb10'.out)
            dsimp only
            refine hK.out _ _ (Pl.more_go _ (fun _ h => h) (by exact ⟨p9c, p9⟩) ?_)
            clear hK K p9 p9c
            try simp only [Act.put, List.setIfInBounds_toArray, List.set_cons_zero, List.set_cons_succ]
            refine Pl.done_go ?_
            obtain ⟨cd, lr, hrd, hrr⟩ : ∃ (cd : Int) (lr : List UInt8), (∀ x, Below w7.heap.size w7 x → Calls Tryz.prog 17 #[.pointer (some ⟨a, 0, none⟩), .string s] x fun e w' => Below x.heap.size x w' ∧ ∃ A n c, e = .returned (.tuple #[.slice A n c, .int .i64 cd]) ∧ Hid (Bs w' A n c lr)) ∧
                (∀ x, Below w7.heap.size w7 x → Calls Tryz.prog 18 #[.pointer (some ⟨rb, 0, none⟩), .string s] x fun e w' => Below x.heap.size x w' ∧ ∃ A n c, e = .returned (.tuple #[.slice A n c, .int .i64 cd]) ∧ Hid (Bs w' A n c lr)) := by
              have hz : ∀ p ∈ X.2.fs, p.2.data.length ≤ 1000000 := fun p hp => by have := len_le_used hp; have := hPy2.out.used; omega
              refine ⟨if (Dk.get X.2.fs s.data.toList).isSome then 0 else 42, ((Dk.get X.2.fs s.data.toList).map (·.data)).getD [], fun x hb => ?_, fun x hb => ?_⟩
              · refine (Read_any x w2.heap.size a mb Lb Fb tvb X.2 (hD7.out.below hb) s (by omega) hz).mono ?_
                rintro e w' ⟨h1, v, l, rfl, h2, rfl⟩
                obtain ⟨A9, c9, rfl, h3⟩ := OwB.slice h2
                exact ⟨h1, _, _, _, rfl, Lib.hid h3⟩
              · refine (rRead_any x w2.heap.size rb _ _ X.2 (hR7'.out.below hb) s hz).mono ?_
                rintro e w' ⟨h1, v, l, rfl, h2, rfl⟩
                obtain ⟨A9, c9, rfl, h3⟩ := OwB.slice h2
                exact ⟨h1, _, _, _, rfl, Lib.hid h3⟩
            have hrd' := Lib.hid hrd
            have hrr' := Lib.hid hrr
            clear hrd hrr
            obtain ⟨_, n1, _⟩ := hSc.out _ (hx7w.out _ hb10'.out)
            go_wp2_with fail
            refine (hrd'.out w10 hb10'.out).mono ?_
            rintro e w11 ⟨hb11, A11, n11, c11, rfl, hbs11⟩
            have hb11' := Lib.hid (hb10'.out.trans (hb11.mono hb10'.out.size))
            clear hb11 n1
            obtain ⟨_, n1, _⟩ := hSc.out _ (hx7w.out _ hb11'.out)
            go_wp2_with fail
            refine (hrr'.out w11 hb11'.out).mono ?_
            rintro e w12 ⟨hb12, A12, n12, c12, rfl, hbs12⟩
            have hbs11' := Lib.hid (hbs11.out.below hb12)
            have hb12' := Lib.hid (hb11'.out.trans (hb12.mono hb11'.out.size))
            clear hb12 n1 hbs11
            go_wp2_with fail
            refine (bytes_same A11 n11 c11 lr A12 n12 c12 w12 hbs11'.out hbs12.out).mono ?_
            rintro e w13 ⟨rfl, q, rfl⟩
            have hb13 := Lib.hid (hb12'.out.trans ((Joins.below_draws _ w12 q).mono hb12'.out.size))
            generalize w12.drewN q = w13 at hb13 ⊢
            clear hbs11' hbs12 hb12' hb11'
            go_wp2_with fail
            go_roundw
            case rel => exact ⟨k + 1, Lb, Fb, tvb, _, _, X.2, by omega, by omega, by go_num, hPy2, Lib.hid (hD7.out.below hb13.out), Lib.hid (hR7'.out.below hb13.out), Lib.hid (hx7w.out _ hb13.out)⟩
            case measure => simp [intOf]; omega
          · by_cases hkn : k < ns
            · have i1 : decide ((k : Int) < (ns : Int)) = true := by rw [decide_eq_true_eq]; omega
              have i2 : decide (k < ns) = true := by rw [decide_eq_true_eq]; omega
              have g1 : decide ((k : Int) < (60 : Int)) = false := by rw [decide_eq_false_iff_not]; omega
              have g2 : decide (k < 60) = false := by rw [decide_eq_false_iff_not]; omega
              go_wp2_with fail
              refine (Names_any wr w2.heap.size a mb L F tv d hD.out (by have := hD.out.len_eq; have := hPd.out.inv.most; omega)).mono ?_
              rintro e w6 ⟨A6, n6, c6, rfl, hnl, hb6, ho6⟩
              have hq6 := Lib.hid (rd_of_own ho6)
              have hx6 := Lib.hid (hx.out.trans (hb6.mono (by have := hx.out.size; omega)))
              have hR6 := Lib.hid (hR.out.below hb6)
              have hfl : Hid (d.fs.length = n6) := Lib.hid (by rw [hnl]; exact hD.out.len_eq)
              have hfs := Lib.hid hD.out.fs
              obtain ⟨A9, c9, rfl, hq9⟩ := hR6.out.sq
              rw [hfl.out] at hq9
              have hq9' := Lib.hid hq9
              have hle6 := Rd.le hq6.out
              have hmx6 := Rd.max hq6.out
              have hle9 := hq9.le
              have hmx9 := hq9.max
              have r6 : w6.cell? ⟨rb, 1, none⟩ = some (.slice A9 d.fs.length c9) := cell_blk hR6.out.blk rfl
              rw [hfl.out] at r6
              clear hb6 ho6 hnl hq9 hD hR hx
              obtain ⟨wz, rfl⟩ : ∃ wz, wz = wr := ⟨wr, rfl⟩
              go_wp2_with fail
              go_loopw [17] (fun i wr => ∃ j : Nat, j ≤ n6 ∧ i = .int .i64 j ∧ Hid (Below w6.heap.size w6 wr)) (fun i _ => n6 - (intOf i).toNat)
              case atStart => exact ⟨0, by omega, rfl, Lib.hid (Below.refl _ _)⟩
              case round =>
                obtain ⟨j, hj, rfl, hbw⟩ := hrel
                have r6' : wr.cell? ⟨rb, 1, none⟩ = some (.slice A9 n6 c9) := by
                  have := cell_blk (hR6.out.below hbw.out).blk (i := 1) rfl
                  rwa [hfl.out] at this
                clear r6
                by_cases hlt6 : j < n6
                · obtain ⟨b6, o6, u6, rfl, hb6, hu6, hc6⟩ := hq6.out.at_ hlt6
                  obtain ⟨b9, o9, f9, vs9, rfl, hb9, hf9, hvs9, hel9, hcs9⟩ := hq9'.out.at_ hlt6
                  obtain ⟨sk, v9, rfl, hnm9, _⟩ := hel9
                  obtain rfl : u6 = .string sk := by
                    rw [hfs.out, List.getElem?_map, List.getElem?_map] at hf9
                    rw [List.getElem?_map] at hu6
                    cases hLj : L[j]? with
                    | none => rw [hLj] at hu6; cases hu6
                    | some p =>
                      rw [hLj] at hf9 hu6
                      simp only [Option.map_some, Option.some.injEq] at hf9 hu6
                      subst hf9
                      rw [← hu6]
                      have h9 : sk = ⟨p.1.toArray⟩ := bytes_ext (by rw [← hnm9]; simp [toIn])
                      rw [h9]
                  have k6 : wr.cell? ⟨b6, o6 + j, none⟩ = some (.string sk) := (hbw.out.cell (p := ⟨b6, o6 + j, none⟩) hb6).trans hc6
                  have k9 : wr.cell? ⟨b9, o9 + j * 3, none⟩ = some (.string sk) := (hbw.out.cell (p := ⟨b9, o9 + j * 3, none⟩) hb9).trans (hcs9 0 _ rfl)
                  have i0 : (j : Int) < (n6 : Int) := by omega
                  have i1 : decide ((j : Int) < (n6 : Int)) = true := by rw [decide_eq_true_eq]; omega
                  have i2 : decide (j < n6) = true := by rw [decide_eq_true_eq]; omega
                  have i3 : decide ((n6 : Int) ≤ (j : Int)) = false := by rw [decide_eq_false_iff_not]; omega
                  have i4 : decide (n6 ≤ j) = false := by rw [decide_eq_false_iff_not]; omega
                  clear hb6 hu6 hc6 hb9 hf9 hvs9 hcs9 hnm9
                  go_wp2_with fail
                  go_big_quiet (fail)
                  go_wp2_with fail
                  go_roundw
                  case rel => exact ⟨j + 1, by omega, by go_num, Lib.hid (hbw.out.trans ((Joins.below_draws _ wr _).mono hbw.out.size))⟩
                  case measure => simp [intOf]; omega
                · obtain rfl : j = n6 := by omega
                  go_wp2_with fail
                  go_ret
                  exact ⟨rfl, by rw [hT'.out]; exact hx6.out.trans (hbw.out.mono (by have := hx6.out.size; omega))⟩
            · have i1 : decide ((k : Int) < (ns : Int)) = false := by rw [decide_eq_false_iff_not]; omega
              have i2 : decide (k < ns) = false := by rw [decide_eq_false_iff_not]; omega
              go_wp2_with fail
              refine (Names_any wr w2.heap.size a mb L F tv d hD.out (by have := hD.out.len_eq; have := hPd.out.inv.most; omega)).mono ?_
              rintro e w6 ⟨A6, n6, c6, rfl, hnl, hb6, ho6⟩
              have hq6 := Lib.hid (rd_of_own ho6)
              have hx6 := Lib.hid (hx.out.trans (hb6.mono (by have := hx.out.size; omega)))
              have hR6 := Lib.hid (hR.out.below hb6)
              have hfl : Hid (d.fs.length = n6) := Lib.hid (by rw [hnl]; exact hD.out.len_eq)
              have hfs := Lib.hid hD.out.fs
              obtain ⟨A9, c9, rfl, hq9⟩ := hR6.out.sq
              rw [hfl.out] at hq9
              have hq9' := Lib.hid hq9
              have hle6 := Rd.le hq6.out
              have hmx6 := Rd.max hq6.out
              have hle9 := hq9.le
              have hmx9 := hq9.max
              have r6 : w6.cell? ⟨rb, 1, none⟩ = some (.slice A9 d.fs.length c9) := cell_blk hR6.out.blk rfl
              rw [hfl.out] at r6
              clear hb6 ho6 hnl hq9 hD hR hx
              obtain ⟨wz, rfl⟩ : ∃ wz, wz = wr := ⟨wr, rfl⟩
              go_wp2_with fail
              go_loopw [17] (fun i wr => ∃ j : Nat, j ≤ n6 ∧ i = .int .i64 j ∧ Hid (Below w6.heap.size w6 wr)) (fun i _ => n6 - (intOf i).toNat)
              case atStart => exact ⟨0, by omega, rfl, Lib.hid (Below.refl _ _)⟩
              case round =>
                obtain ⟨j, hj, rfl, hbw⟩ := hrel
                have r6' : wr.cell? ⟨rb, 1, none⟩ = some (.slice A9 n6 c9) := by
                  have := cell_blk (hR6.out.below hbw.out).blk (i := 1) rfl
                  rwa [hfl.out] at this
                clear r6
                by_cases hlt6 : j < n6
                · obtain ⟨b6, o6, u6, rfl, hb6, hu6, hc6⟩ := hq6.out.at_ hlt6
                  obtain ⟨b9, o9, f9, vs9, rfl, hb9, hf9, hvs9, hel9, hcs9⟩ := hq9'.out.at_ hlt6
                  obtain ⟨sk, v9, rfl, hnm9, _⟩ := hel9
                  obtain rfl : u6 = .string sk := by
                    rw [hfs.out, List.getElem?_map, List.getElem?_map] at hf9
                    rw [List.getElem?_map] at hu6
                    cases hLj : L[j]? with
                    | none => rw [hLj] at hu6; cases hu6
                    | some p =>
                      rw [hLj] at hf9 hu6
                      simp only [Option.map_some, Option.some.injEq] at hf9 hu6
                      subst hf9
                      rw [← hu6]
                      have h9 : sk = ⟨p.1.toArray⟩ := bytes_ext (by rw [← hnm9]; simp [toIn])
                      rw [h9]
                  have k6 : wr.cell? ⟨b6, o6 + j, none⟩ = some (.string sk) := (hbw.out.cell (p := ⟨b6, o6 + j, none⟩) hb6).trans hc6
                  have k9 : wr.cell? ⟨b9, o9 + j * 3, none⟩ = some (.string sk) := (hbw.out.cell (p := ⟨b9, o9 + j * 3, none⟩) hb9).trans (hcs9 0 _ rfl)
                  have i0 : (j : Int) < (n6 : Int) := by omega
                  have i1 : decide ((j : Int) < (n6 : Int)) = true := by rw [decide_eq_true_eq]; omega
                  have i2 : decide (j < n6) = true := by rw [decide_eq_true_eq]; omega
                  have i3 : decide ((n6 : Int) ≤ (j : Int)) = false := by rw [decide_eq_false_iff_not]; omega
                  have i4 : decide (n6 ≤ j) = false := by rw [decide_eq_false_iff_not]; omega
                  clear hb6 hu6 hc6 hb9 hf9 hvs9 hcs9 hnm9
                  go_wp2_with fail
                  go_big_quiet (fail)
                  go_wp2_with fail
                  go_roundw
                  case rel => exact ⟨j + 1, by omega, by go_num, Lib.hid (hbw.out.trans ((Joins.below_draws _ wr _).mono hbw.out.size))⟩
                  case measure => simp [intOf]; omega
                · obtain rfl : j = n6 := by omega
                  go_wp2_with fail
                  go_ret
                  exact ⟨rfl, by rw [hT'.out]; exact hx6.out.trans (hbw.out.mono (by have := hx6.out.size; omega))⟩
end Go.Proofs.YtjhiihmibleecaaGreatDoor.Dk
