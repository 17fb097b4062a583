/- The law DiskAlone. -/
import Derived.Test.YtjhiihmibleecaaDoorDkSmall
import Derived.Test.YtjhiihmibleecaaDoorDkLaw2
namespace Go.Proofs.YtjhiihmibleecaaDoor.Dk
open Go.RowKit

theorem le_sum_of_mem : ∀ {l : List In} {f : In}, f ∈ l → f.data.length ≤ (l.map (·.data.length)).sum
  | [], _, h => by cases h
  | g :: l, f, h => by
    rw [List.map_cons, List.sum_cons]
    rcases List.mem_cons.1 h with rfl | h
    · omega
    · have := le_sum_of_mem h; omega

/-- Names that an operation leaves alone. -/
def KP (x : Dx) (nm : Name) : Bool := decide (nm ≠ x.nm) && (decide (x.kind ≠ 5) || decide (nm ≠ x.to_))

theorem bytes_ext {a b : ByteArray} (h : a.data.toList = b.data.toList) : a = b := by
  cases a; cases b
  rw [Array.toList_inj] at h
  rw [ByteArray.mk.injEq]
  exact h
/-- Rows of files, the rows and the bytes in memory from two places on. -/
abbrev OwG (w : World) (Bd Br : Nat) (v : Value) (l : List In) : Prop := OwS (FoEl Bd) 3 w Br 51 v l
theorem OwG.below {w w' : World} {Bd Br : Nat} {v : Value} {l : List In} (h : OwG w Bd Br v l) (hb : Below w.heap.size w w') : OwG w' Bd Br v l := OwS.below h hb (FoEl.below hb)
theorem OwG.below_draws {w : World} {Bd Br : Nat} {v : Value} {l : List In} (h : OwG w Bd Br v l) (k : Nat) : OwG (w.drewN k) Bd Br v l := h.below (Joins.below_draws _ w k)

theorem Sq.imp {α : Type} {El El' : World → List Value → α → Prop} {k : Nat} {w : World} {A : Option Addr} {n c : Nat} {l : List α} (h : Sq El k w A n c l) (hE : ∀ vs x, El w vs x → El' w vs x) : Sq El' k w A n c l :=
  ⟨h.len, h.le, h.max, h.nil, fun hn => by
    obtain ⟨b, off, e, hlt, hc⟩ := h.cell hn
    refine ⟨b, off, e, hlt, fun i x hi => ?_⟩
    obtain ⟨vs, h1, h2, h3⟩ := hc i x hi
    exact ⟨vs, h1, hE _ _ h2, h3⟩⟩
theorem fe_of {B : Nat} {w : World} {A : Option Addr} {n c : Nat} {l : List In} (h : Sq (FoEl B) 3 w A n c l) : Sq FeEl 3 w A n c l := Sq.imp h fun _ _ h => h.fe
theorem alone_act (d : D) (x : Dx) (h1 : 1 ≤ x.kind) (h6 : x.kind ≤ 6) : ((actX d x).2.fs.map toIn).filter (fun f => KP x f.nm) = (d.fs.map toIn).filter (fun f => KP x f.nm) := by
  have e : ∀ fs : Fs, (fs.map toIn).filter (fun f => KP x f.nm) = (fs.filter fun p => KP x p.1).map toIn := fun fs => by rw [List.filter_map]; rfl
  rw [e, e]
  have h1' : KP x x.nm = false := by simp [KP]
  have h5 : x.kind = 5 → KP x x.to_ = false := fun h => by simp [KP, h]
  congr 1
  unfold actX
  split
  · exact alone_op _ _ _ _ _ _ h1' (fun h => by omega)
  split
  · exact alone_op _ _ _ _ _ _ h1' (fun h => by omega)
  split
  · exact alone_op _ _ _ _ _ _ h1' (fun h => by omega)
  split
  · exact alone_op _ _ _ _ _ _ h1' (fun h => by omega)
  split
  · rename_i h; exact alone_op _ _ _ _ _ _ h1' (fun _ => h5 h)
  split
  · exact alone_op _ _ _ _ _ _ h1' (fun h => by omega)
  split
  · omega
  split
  · omega
  · rfl

theorem DoEl.one (w : World) : ∀ (vs : List Value) (t : Dx), DoEl w vs t → ∀ u ∈ vs, u.oneCell' = true := by
  rintro vs t ⟨s, s2, Ab, nb, cb, At, nt, ct, Al, nl, cl, rfl, _⟩ u hu
  simp at hu
  rcases hu with rfl | rfl | rfl | rfl | rfl | rfl | rfl <;> rfl

set_option maxHeartbeats 4000000 in
set_option maxRecDepth 100000 in
theorem alone_law (A : Option Addr) (n c : Nat) (l : List In) (vs : List Value) (x : Dx) (W : World) (hF : Sq FeEl 3 W A n c l) (hsz : ∀ f ∈ l, f.data.length ≤ 140737488351232) (hx : DoEl W vs x) :
    Calls Tryd.prog 5 #[.slice A n c, .agg vs.toArray] W fun e w' => e = .returned (.bool true) ∧ Below W.heap.size W w' := by
  obtain ⟨s, s2, Ab, nb, cb, At, nt, ct, Al, nl, cl, rfl, hnm, hto, hbs, hrd, hsq⟩ := id hx
  have hba := below_alloc W (.cells #[.int .i64 x.kind, .string s, .string s2, .int .i64 x.n, .slice Ab nb cb, .slice At nt ct, .slice Al nl cl] 45)
  have hnew := heap_alloc_new W (.cells #[.int .i64 x.kind, .string s, .string s2, .int .i64 x.n, .slice Ab nb cb, .slice At nt ct, .slice Al nl cl] 45)
  obtain ⟨T, hT⟩ : ∃ T, W.heap.size = T := ⟨_, rfl⟩
  obtain ⟨w1, hw1⟩ : ∃ w1, W.alloc (.cells #[.int .i64 x.kind, .string s, .string s2, .int .i64 x.n, .slice Ab nb cb, .slice At nt ct, .slice Al nl cl] 45) = w1 := ⟨_, rfl⟩
  rw [hw1] at hba hnew
  rw [hT] at hnew hba
  --BEGIN
  --BEGIN
  --BEGIN
  --BEGIN
  --BEGIN
  --BEGIN
  --BEGIN
  --BEGIN
  have hx1 := Lib.hid hba
  have hT1 := Lib.hid hnew
  have hFat : Hid (∀ w', Below T W w' → Sq FeEl 3 w' A n c l) := Lib.hid fun w' hb => hF.below (FeEl.below (by rw [hT]; exact hb)) (by rw [hT]; exact hb)
  have hxat : Hid (∀ w', Below T W w' → DoEl w' [.int .i64 x.kind, .string s, .string s2, .int .i64 x.n, .slice Ab nb cb, .slice At nt ct, .slice Al nl cl] x) := Lib.hid fun w' hb => DoEl.below (by rw [hT]; exact hb) _ _ hx
  have hsz' := Lib.hid hsz
  have hnm' := Lib.hid hnm
  have hto' := Lib.hid hto
  have hT' := Lib.hid hT
  have hTw : T ≤ W.heap.size := by omega
  clear hF hsz hx hnm hto hbs hrd hsq hba hnew
  go_enter Tryd.func5, Tryd.ntmps5
  go_wp2_with fail
  refine (awake_any _).mono ?_
  rintro e w2 ⟨rfl, hb2⟩
  have hx2 := Lib.hid (hx1.out.trans (hb2.mono (by have := hx1.out.size; omega)))
  have hT2 := Lib.hid ((hb2.block T (Array.getElem?_eq_some_iff.1 hT1.out).1).trans hT1.out)
  clear hb2 hw1 hT
  go_wp2_with fail
  refine (Small_any A n c l w2 (hFat.out _ hx2.out) hsz'.out).mono ?_
  rintro e w2' ⟨b, rfl, hsm, rfl⟩
  have hsm' := Lib.hid hsm
  clear hsm
  have g0 := cell_blk (i := 0) hT2.out rfl
  have g1 := cell_blk (i := 1) hT2.out rfl
  have g2 := cell_blk (i := 2) hT2.out rfl
  have g3 := cell_blk (i := 3) hT2.out rfl
  have g4 := cell_blk (i := 4) hT2.out rfl
  have g5 := cell_blk (i := 5) hT2.out rfl
  have g6 := cell_blk (i := 6) hT2.out rfl
  cases b with
  | false =>
    go_wp2_with fail
    go_ret
    exact ⟨rfl, by rw [hT'.out]; exact hx2.out⟩
  | true =>
    have hS := hsm'.out rfl
    have hS' := Lib.hid hS
    clear hsm' hS
    go_wp2_with fail
    have hba := below_alloc w2 (.cells #[.int .i64 x.kind, .string s, .string s2, .int .i64 x.n, .slice Ab nb cb, .slice At nt ct, .slice Al nl cl] 45)
    have hsq := sq_one (El := DoEl) (k := 7) w2 [.int .i64 x.kind, .string s, .string s2, .int .i64 x.n, .slice Ab nb cb, .slice At nt ct, .slice Al nl cl] x 45 (0, 0) rfl (hxat.out _ (hx2.out.trans (hba.mono (by have := hx2.out.size; omega))))
    refine (small_any _ 1 1 [x] _ hsq).mono ?_
    rintro e w3' ⟨b, rfl, hdm, rfl⟩
    have hx3 := Lib.hid (hx2.out.trans (hba.mono (by have := hx2.out.size; omega)))
    have hT3 := Lib.hid ((hba.block T (Array.getElem?_eq_some_iff.1 hT2.out).1).trans hT2.out)
    have hdm' := Lib.hid hdm
    clear hdm hsq hba g0 g1 g2 g3 g4 g5 g6
    obtain ⟨w3, hw3⟩ : ∃ w3, w2.alloc (.cells #[.int .i64 x.kind, .string s, .string s2, .int .i64 x.n, .slice Ab nb cb, .slice At nt ct, .slice Al nl cl] 45) = w3 := ⟨_, rfl⟩
    have hw3e : w2.alloc (.cells [.int .i64 x.kind, .string s, .string s2, .int .i64 x.n, .slice Ab nb cb, .slice At nt ct, .slice Al nl cl].toArray 45) = w3 := hw3
    rw [hw3] at hx3 hT3
    rw [hw3e]
    clear hw3 hw3e
    have g0 := cell_blk (i := 0) hT3.out rfl
    cases b with
    | false =>
      go_wp2_with fail
      go_ret
      exact ⟨rfl, by rw [hT'.out]; exact hx3.out⟩
    | true =>
      have hDm := Lib.hid (hdm'.out rfl 0 x rfl (by omega))
      clear hdm'
      by_cases k1 : x.kind < 1
      · have d1 : decide (x.kind < 1) = true := by rw [decide_eq_true_eq]; exact k1
        go_wp2_with fail
        go_ret
        exact ⟨rfl, by rw [hT'.out]; exact hx3.out⟩
      have d1 : decide (x.kind < 1) = false := by rw [decide_eq_false_iff_not]; exact k1
      by_cases k6 : 6 < x.kind
      · have d2 : decide (6 < x.kind) = true := by rw [decide_eq_true_eq]; exact k6
        go_wp2_with fail
        go_ret
        exact ⟨rfl, by rw [hT'.out]; exact hx3.out⟩
      have d2 : decide (6 < x.kind) = false := by rw [decide_eq_false_iff_not]; exact k6
      go_wp2_with fail
      refine (Load_any w3 A n c l 32768 (hFat.out _ hx3.out) (by have := hS'.out.len; have := (hFat.out _ hx3.out).len; omega) (fun f hf => ⟨hS'.out.nm f hf, by have h1 := hS'.out.sum; have h2 := le_sum_of_mem hf; omega⟩) (by omega)).mono ?_
      rintro e w4 ⟨hb4, hload⟩
      have hx4 := Lib.hid (hx3.out.trans (hb4.mono (by have := hx3.out.size; omega)))
      have hT4 := Lib.hid ((hb4.block T (Array.getElem?_eq_some_iff.1 hT3.out).1).trans hT3.out)
      clear hb4 g0 d1 d2
      cases hld : load l 32768 with
      | none =>
        rw [hld] at hload
        obtain rfl := hload
        go_wp2_with fail
        go_ret
        exact ⟨rfl, by rw [hT'.out]; exact hx4.out⟩
      | some d =>
        rw [hld] at hload
        obtain ⟨a, mb, rfl, L, F, hD⟩ := hload
        obtain ⟨hI, hdn, htr, hop, hrm⟩ := inv_load hld
        have hu : used d.fs ≤ 32768 := by have := hI.room; rw [hrm] at this; exact this
        have hG : Hid (Good d 0 200 32768) := Lib.hid ⟨hI, by omega, by rw [htr]; simp, hu⟩
        have hrm' : Hid (d.room ≤ 9223372036854775807) := Lib.hid (by rw [hrm]; decide)
        have hD4 := Lib.hid hD
        have hLl : Hid (L.length ≤ 1000) := Lib.hid (by have := hD.len_eq; have := hI.most; omega)
        have hw3T : Hid (T ≤ w3.heap.size) := Lib.hid (by have := hx3.out.size; omega)
        clear hD hI hdn htr hop hrm hu hld
        go_wp2_with fail
        refine (Files_any w4 _ a mb L F _ d hD4.out hLl.out (fun p hp => ⟨(hG.out.fl (by omega) p hp).1, (hG.out.fl (by omega) p hp).2.1⟩)).mono ?_
        rintro e w5 ⟨v5, rfl, ho5, hb5⟩
        have hx5 := Lib.hid (hx4.out.trans (hb5.mono (by have := hx4.out.size; omega)))
        have hT5 := Lib.hid ((hb5.block T (Array.getElem?_eq_some_iff.1 hT4.out).1).trans hT4.out)
        have hD5 := Lib.hid (hD4.out.below hb5)
        have ho5' := Lib.hid ho5
        have h45 := Lib.hid hb5.size
        clear hb5 ho5
        have g0 := cell_blk (i := 0) hT5.out rfl
        have g1 := cell_blk (i := 1) hT5.out rfl
        have g2 := cell_blk (i := 2) hT5.out rfl
        have g3 := cell_blk (i := 3) hT5.out rfl
        have g4 := cell_blk (i := 4) hT5.out rfl
        have g5 := cell_blk (i := 5) hT5.out rfl
        have g6 := cell_blk (i := 6) hT5.out rfl
        go_wp2_with fail
        refine (act_any w5 w3.heap.size a mb L F _ d hD5.out (by have := hG.out; exact ⟨this.inv, by have := this.ops; omega, by have := this.tr; omega, by have := this.used; omega⟩) hrm'.out _ x (fun w' hb => hxat.out _ (hx5.out.trans (hb.mono hw3T.out))) hDm.out).mono ?_
        rintro e w6 ⟨rfl, hb6, hf6, L6, F6, tv6, hD6⟩
        have hx6 := Lib.hid (hx5.out.trans (hb6.mono hw3T.out))
        have hT6 := Lib.hid (hf6 T _ _ _ hT5.out (by decide) (by decide))
        have ho6 := Lib.hid (OwF.fm ho5'.out hf6)
        have hD6' := Lib.hid hD6
        obtain ⟨hG6, _⟩ := hG.out.act_ x hDm.out (by omega)
        have hG6' := Lib.hid hG6
        have h56 := Lib.hid hb6.size
        clear hb6 hf6 hD6 hG6 g0 g1 g2 g3 g4 g5 g6
        go_wp2_with fail
        refine (Files_any w6 _ a mb L6 F6 _ _ hD6'.out (by have := hD6'.out.len_eq; have := hG6'.out.inv.most; omega) (fun p hp => ⟨(hG6'.out.fl (by omega) p hp).1, (hG6'.out.fl (by omega) p hp).2.1⟩)).mono ?_
        rintro e w7 ⟨v7, rfl, ho7, hb7⟩
        have hx7 := Lib.hid (hx6.out.trans (hb7.mono (by have := hx6.out.size; omega)))
        have hT7 := Lib.hid ((hb7.block T (Array.getElem?_eq_some_iff.1 hT6.out).1).trans hT6.out)
        have ho57 := Lib.hid (OwF.below ho6.out hb7)
        have ho7' := Lib.hid ho7
        have h67 := Lib.hid hb7.size
        clear hb7 ho7
        go_wp2_with fail
        obtain ⟨A5, c5, rfl, hq5⟩ := OwS.sq ho57.out (by omega)
        obtain ⟨n5, hn5⟩ : ∃ n5, (d.fs.map toIn).length = n5 := ⟨_, rfl⟩
        obtain ⟨N5, hN5⟩ : ∃ N5, d.fs.map toIn = N5 := ⟨_, rfl⟩
        rw [hN5] at hn5 hq5
        rw [hn5] at hq5
        have hq5' := Lib.hid hq5
        have hle5 := hq5.le
        have hmx5 := hq5.max
        have hn5b : n5 ≤ 64 := by have := hG.out.inv.most; rw [← hn5, ← hN5, List.length_map]; exact this
        have hn5' := Lib.hid hn5
        have hN5' := Lib.hid hN5
        have ho57' : Hid (OwF w7 w4.heap.size (.slice A5 n5 c5) N5) := Lib.hid (by have := ho57.out; rw [hN5, hn5] at this; exact this)
        rw [hN5, hn5]
        clear hq5 hn5 hN5 ho57
        have g0 := cell_blk (i := 0) hT7.out rfl
        go_loopw [9, 11] (fun o i wr => ∃ (k : Nat) (A' : Option Addr) (n' c' : Nat), k ≤ n5 ∧ i = .int .i64 k ∧ o = .slice A' n' c' ∧ n' ≤ k ∧ Hid (OwG wr w4.heap.size w7.heap.size (.slice A' n' c') ((N5.take k).filter fun f => KP x f.nm)) ∧ Hid (Below w7.heap.size w7 wr)) (fun _ i _ => n5 - (intOf i).toNat)
        case atStart => exact ⟨0, none, 0, 0, by omega, rfl, rfl, by omega, Lib.hid (OwS.nil _ _ _), Lib.hid (Below.refl _ _)⟩
        case round =>
          obtain ⟨k, A', n', c', hk, rfl, rfl, hn'k, hO, hbw⟩ := hrel
          by_cases hlt : k < n5
          · obtain ⟨pb, off, f, us, rfl, hpb, hfk, hus, hel, hcs⟩ := (OwS.sq' (OwF.below ho57'.out hbw.out) (by omega)).at_ hlt
            obtain ⟨sk, dv, rfl, hsk, hdv⟩ := hel
            obtain ⟨A0, c0, rfl, hbs0⟩ := OwB.slice hdv
            have k0 : wr.cell? ⟨pb, off + k * 3, none⟩ = some (.string sk) := hcs 0 _ rfl
            have k1 : wr.cell? ⟨pb, off + k * 3 + 1, none⟩ = some (.slice A0 f.data.length c0) := hcs 1 _ rfl
            have k2 : wr.cell? ⟨pb, off + k * 3 + 2, none⟩ = some (.int .i64 f.safe) := hcs 2 _ rfl
            have hTr := Lib.hid ((hbw.out.block T (Array.getElem?_eq_some_iff.1 hT7.out).1).trans hT7.out)
            have t0 : wr.cell? ⟨T, 0, none⟩ = some (.int .i64 x.kind) := cell_blk hTr.out rfl
            have t1 : wr.cell? ⟨T, 1, none⟩ = some (.string s) := cell_blk hTr.out rfl
            have t2 : wr.cell? ⟨T, 2, none⟩ = some (.string s2) := cell_blk hTr.out rfl
            have hfk' := Lib.hid hfk
            have hsk' := Lib.hid hsk
            have hdv' := Lib.hid hdv
            have i0 : (k : Int) < (n5 : Int) := by omega
            clear hcs hus hfk hsk hdv hbs0 g0
            have hq : (if KP x f.nm = true then True else False) ∨ KP x f.nm = false := by cases KP x f.nm <;> simp
            clear hq
            have hcases : ∃ R : Bool, KP x f.nm = R := ⟨_, rfl⟩
            by_cases e1 : sk = s
            · have hq1 : (sk.toList == s.toList) = true := by rw [str_beq]; simpa using e1
              have hkp : Hid (KP x f.nm = false) := Lib.hid (by unfold KP; rw [hsk'.out, hnm'.out, e1]; simp)
              clear e1 hcases
              go_wp2_with fail
              refine Pl.wp_region_plan 23 (.take 0 (.take 1 (.take 2 (.take 3 (.take 4 (.take 5 (.take 6 (.take 7 (.take 8 (.take 9 (.take 10 (.take 11 (.take 12 (.take 13 (.take 14 (.take 15 (.take 16 (.take 17 (.take 18 (.take 19 (.take 20 (.take 21 (.take 22 .done)))))))))))))))))))))))
                (fun x_ => x_.cell? ⟨pb, off + k * 3, none⟩ = some (.string sk) ∧ x_.cell? ⟨T, 0, none⟩ = some (.int .i64 x.kind) ∧ x_.cell? ⟨T, 1, none⟩ = some (.string s) ∧ x_.cell? ⟨T, 2, none⟩ = some (.string s2)) (by kernel_rfl) (by kernel_rfl) (by exact ⟨k0, t0, t1, t2⟩) ?_
              simp only [Pl.fill, List.getElem?_cons_zero, List.getElem?_cons_succ, List.drop_succ_cons, List.drop_zero]
              iterate 9
                refine Pl.take_go ?_ (by rfl) (fun _ _ _ h => h) ?_ ?_
                rotate_left
                · (intro x hSw; (try dsimp only at hSw); go_simp; try with_reducible rfl)
                try simp only [Act.put, List.setIfInBounds_toArray, List.set_cons_zero, List.set_cons_succ]
              iterate 13
                refine Pl.take_skip (by rfl) (fun _ _ _ h => h) ?_
                try simp only [Act.put, List.setIfInBounds_toArray, List.set_cons_zero, List.set_cons_succ]
              iterate 1
                refine Pl.take_go ?_ (by rfl) (fun _ _ _ h => h) ?_ ?_
                rotate_left
                · (intro x hSw; (try dsimp only at hSw); go_simp; try with_reducible rfl)
                try simp only [Act.put, List.setIfInBounds_toArray, List.set_cons_zero, List.set_cons_succ]
              refine Pl.done_go ?_
              go_wp2_with fail
              go_roundw
              case rel => exact ⟨k + 1, A', n', c', by omega, by go_num, rfl, by omega, Lib.hid (by rw [take_snoc hfk'.out, List.filter_append, List.filter_cons, if_neg (by rw [hkp.out]; decide), List.filter_nil, List.append_nil]; exact OwG.below_draws hO.out 1), Lib.hid (bD hbw.out)⟩
              case measure => simp [intOf]; omega
            · have hq1 : (sk.toList == s.toList) = false := by rw [str_beq]; simpa using e1
              by_cases e5 : x.kind = 5
              · have hk5 : (x.kind != 5) = false := by rw [bne_eq_false_iff_eq]; exact e5
                by_cases e2 : sk = s2
                · have hq2 : (sk.toList == s2.toList) = true := by rw [str_beq]; simpa using e2
                  have hkp : Hid (KP x f.nm = false) := Lib.hid (by unfold KP; rw [hsk'.out, hto'.out, e2, e5]; simp)
                  clear e1 e2 e5 hcases
                  go_wp2_with fail
                  refine Pl.wp_region_plan 23 (.take 0 (.take 1 (.take 2 (.take 3 (.take 4 (.take 5 (.take 6 (.take 7 (.take 8 (.take 9 (.take 10 (.take 11 (.take 12 (.take 13 (.take 14 (.take 15 (.take 16 (.take 17 (.take 18 (.take 19 (.take 20 (.take 21 (.take 22 .done)))))))))))))))))))))))
                    (fun x_ => x_.cell? ⟨pb, off + k * 3, none⟩ = some (.string sk) ∧ x_.cell? ⟨T, 0, none⟩ = some (.int .i64 x.kind) ∧ x_.cell? ⟨T, 1, none⟩ = some (.string s) ∧ x_.cell? ⟨T, 2, none⟩ = some (.string s2)) (by kernel_rfl) (by kernel_rfl) (by exact ⟨k0, t0, t1, t2⟩) ?_
                  simp only [Pl.fill, List.getElem?_cons_zero, List.getElem?_cons_succ, List.drop_succ_cons, List.drop_zero]
                  iterate 23
                    refine Pl.take_go ?_ (by rfl) (fun _ _ _ h => h) ?_ ?_
                    rotate_left
                    · (intro x hSw; (try dsimp only at hSw); go_simp; try with_reducible rfl)
                    try simp only [Act.put, List.setIfInBounds_toArray, List.set_cons_zero, List.set_cons_succ]
                  refine Pl.done_go ?_
                  go_wp2_with fail
                  go_roundw
                  case rel => exact ⟨k + 1, A', n', c', by omega, by go_num, rfl, by omega, Lib.hid (by rw [take_snoc hfk'.out, List.filter_append, List.filter_cons, if_neg (by rw [hkp.out]; decide), List.filter_nil, List.append_nil]; exact OwG.below_draws hO.out 1), Lib.hid (bD hbw.out)⟩
                  case measure => simp [intOf]; omega
                · have hq2 : (sk.toList == s2.toList) = false := by rw [str_beq]; simpa using e2
                  have hkp : Hid (KP x f.nm = true) := Lib.hid (by
                    unfold KP
                    have h1 : ¬ f.nm = x.nm := by rw [hsk'.out, hnm'.out]; exact fun h => e1 (bytes_ext h)
                    have h2 : ¬ f.nm = x.to_ := by rw [hsk'.out, hto'.out]; exact fun h => e2 (bytes_ext h)
                    simp [h1, h2])
                  clear e1 e2 e5 hcases
                  go_wp2_with fail
                  refine Pl.wp_region_plan 23 (.take 0 (.take 1 (.take 2 (.take 3 (.take 4 (.take 5 (.take 6 (.take 7 (.take 8 (.take 9 (.take 10 (.take 11 (.take 12 (.take 13 (.take 14 (.take 15 (.take 16 (.take 17 (.take 18 (.take 19 (.take 20 (.take 21 (.take 22 .done)))))))))))))))))))))))
                    (fun x_ => x_.cell? ⟨pb, off + k * 3, none⟩ = some (.string sk) ∧ x_.cell? ⟨T, 0, none⟩ = some (.int .i64 x.kind) ∧ x_.cell? ⟨T, 1, none⟩ = some (.string s) ∧ x_.cell? ⟨T, 2, none⟩ = some (.string s2)) (by kernel_rfl) (by kernel_rfl) (by exact ⟨k0, t0, t1, t2⟩) ?_
                  simp only [Pl.fill, List.getElem?_cons_zero, List.getElem?_cons_succ, List.drop_succ_cons, List.drop_zero]
                  iterate 23
                    refine Pl.take_go ?_ (by rfl) (fun _ _ _ h => h) ?_ ?_
                    rotate_left
                    · (intro x hSw; (try dsimp only at hSw); go_simp; try with_reducible rfl)
                    try simp only [Act.put, List.setIfInBounds_toArray, List.set_cons_zero, List.set_cons_succ]
                  refine Pl.done_go ?_
                  go_wp2_with (at_builtin; apply stop_here)
                  have hbd := bD hbw.out
                  have hOd := OwG.below hO.out (bD (Below.refl wr.heap.size wr))
                  have hdd := OwB.below hdv'.out (bD (Below.refl wr.heap.size wr))
                  have hba := below_alloc wr.drew (.cells #[.string sk, .slice A0 f.data.length c0, .int .i64 f.safe] 51)
                  have hel2 : FoEl w4.heap.size (wr.drew.alloc (.cells [.string sk, .slice A0 f.data.length c0, .int .i64 f.safe].toArray 51)) [.string sk, .slice A0 f.data.length c0, .int .i64 f.safe] f := ⟨sk, _, rfl, hsk'.out, OwB.below hdd hba⟩
                  have hsq2 := Lib.hid (sq_one (El := FoEl w4.heap.size) (k := 3) wr.drew [.string sk, .slice A0 f.data.length c0, .int .i64 f.safe] f 51 (0, 0) rfl hel2)
                  have hOa := Lib.hid (OwG.below hOd hba)
                  have hxa := Lib.hid (hbd.trans (hba.mono hbd.size))
                  have hnk := (OwS.sq' hO.out (by omega)).len
                  have hnk' := Lib.hid hnk
                  have hw47 := h45.out
                  have hw56 := h56.out
                  have hw67 := h67.out
                  have hxs := hxa.out.size
                  clear hbd hOd hdd hba hel2 hnk
                  refine Stop.go (append_sq (El := FoEl w4.heap.size) (k := 3) _ 22 51 (.agg #[.string ⟨#[]⟩, .slice none 0 0, .int .i64 0]) 48 Tryd.underlying22 (by kernel_rfl) rfl (by omega) rfl _ _ rfl w7.heap.size _ _ rfl hOa.out _ 1 1 _ rfl hsq2.out (FoEl.one _) (fun w' hg => FoEl.kept hg (ows_noE hOa.out (by decide))) (n' + 1) ?h3 ?h4 ?h5 ?h6 ?_)
                  case h3 => rw [hnk'.out]
                  case h4 => omega
                  case h5 => omega
                  case h6 => exact hxs
                  intro A6 c6 wz ho6 _ hb6 _
                  have ho6' := Lib.hid ho6
                  have hb6' := Lib.hid (hxa.out.trans hb6)
                  clear ho6 hb6
                  go_wp2_with fail
                  go_roundw
                  case rel => exact ⟨k + 1, A6, n' + 1, c6, by omega, by go_num, by go_num, by omega, Lib.hid (by rw [take_snoc hfk'.out, List.filter_append, List.filter_cons, if_pos hkp.out, List.filter_nil]; exact ho6'.out), hb6'⟩
                  case measure => simp [intOf]; omega
              · have hk5 : (x.kind != 5) = true := by rw [bne_iff_ne]; exact e5
                have hkp : Hid (KP x f.nm = true) := Lib.hid (by
                  unfold KP
                  have h1 : ¬ f.nm = x.nm := by rw [hsk'.out, hnm'.out]; exact fun h => e1 (bytes_ext h)
                  simp [h1, e5])
                clear e1 e5 hcases
                go_wp2_with fail
                refine Pl.wp_region_plan 23 (.take 0 (.take 1 (.take 2 (.take 3 (.take 4 (.take 5 (.take 6 (.take 7 (.take 8 (.take 9 (.take 10 (.take 11 (.take 12 (.take 13 (.take 14 (.take 15 (.take 16 (.take 17 (.take 18 (.take 19 (.take 20 (.take 21 (.take 22 .done)))))))))))))))))))))))
                  (fun x_ => x_.cell? ⟨pb, off + k * 3, none⟩ = some (.string sk) ∧ x_.cell? ⟨T, 0, none⟩ = some (.int .i64 x.kind) ∧ x_.cell? ⟨T, 1, none⟩ = some (.string s) ∧ x_.cell? ⟨T, 2, none⟩ = some (.string s2)) (by kernel_rfl) (by kernel_rfl) (by exact ⟨k0, t0, t1, t2⟩) ?_
                simp only [Pl.fill, List.getElem?_cons_zero, List.getElem?_cons_succ, List.drop_succ_cons, List.drop_zero]
                iterate 13
                  refine Pl.take_go ?_ (by rfl) (fun _ _ _ h => h) ?_ ?_
                  rotate_left
                  · (intro x hSw; (try dsimp only at hSw); go_simp; try with_reducible rfl)
                  try simp only [Act.put, List.setIfInBounds_toArray, List.set_cons_zero, List.set_cons_succ]
                iterate 8
                  refine Pl.take_skip (by rfl) (fun _ _ _ h => h) ?_
                  try simp only [Act.put, List.setIfInBounds_toArray, List.set_cons_zero, List.set_cons_succ]
                iterate 2
                  refine Pl.take_go ?_ (by rfl) (fun _ _ _ h => h) ?_ ?_
                  rotate_left
                  · (intro x hSw; (try dsimp only at hSw); go_simp; try with_reducible rfl)
                  try simp only [Act.put, List.setIfInBounds_toArray, List.set_cons_zero, List.set_cons_succ]
                refine Pl.done_go ?_
                go_wp2_with (at_builtin; apply stop_here)
                have hbd := bD hbw.out
                have hOd := OwG.below hO.out (bD (Below.refl wr.heap.size wr))
                have hdd := OwB.below hdv'.out (bD (Below.refl wr.heap.size wr))
                have hba := below_alloc wr.drew (.cells #[.string sk, .slice A0 f.data.length c0, .int .i64 f.safe] 51)
                have hel2 : FoEl w4.heap.size (wr.drew.alloc (.cells [.string sk, .slice A0 f.data.length c0, .int .i64 f.safe].toArray 51)) [.string sk, .slice A0 f.data.length c0, .int .i64 f.safe] f := ⟨sk, _, rfl, hsk'.out, OwB.below hdd hba⟩
                have hsq2 := Lib.hid (sq_one (El := FoEl w4.heap.size) (k := 3) wr.drew [.string sk, .slice A0 f.data.length c0, .int .i64 f.safe] f 51 (0, 0) rfl hel2)
                have hOa := Lib.hid (OwG.below hOd hba)
                have hxa := Lib.hid (hbd.trans (hba.mono hbd.size))
                have hnk := (OwS.sq' hO.out (by omega)).len
                have hnk' := Lib.hid hnk
                have hw47 := h45.out
                have hw56 := h56.out
                have hw67 := h67.out
                have hxs := hxa.out.size
                clear hbd hOd hdd hba hel2 hnk
                refine Stop.go (append_sq (El := FoEl w4.heap.size) (k := 3) _ 22 51 (.agg #[.string ⟨#[]⟩, .slice none 0 0, .int .i64 0]) 48 Tryd.underlying22 (by kernel_rfl) rfl (by omega) rfl _ _ rfl w7.heap.size _ _ rfl hOa.out _ 1 1 _ rfl hsq2.out (FoEl.one _) (fun w' hg => FoEl.kept hg (ows_noE hOa.out (by decide))) (n' + 1) ?h3 ?h4 ?h5 ?h6 ?_)
                case h3 => rw [hnk'.out]
                case h4 => omega
                case h5 => omega
                case h6 => exact hxs
                intro A6 c6 wz ho6 _ hb6 _
                have ho6' := Lib.hid ho6
                have hb6' := Lib.hid (hxa.out.trans hb6)
                clear ho6 hb6
                go_wp2_with fail
                go_roundw
                case rel => exact ⟨k + 1, A6, n' + 1, c6, by omega, by go_num, by go_num, by omega, Lib.hid (by rw [take_snoc hfk'.out, List.filter_append, List.filter_cons, if_pos hkp.out, List.filter_nil]; exact ho6'.out), hb6'⟩
                case measure => simp [intOf]; omega
          · have hOA : Hid (OwG wr w4.heap.size w7.heap.size (.slice A' n' c') (N5.filter fun f => KP x f.nm)) := Lib.hid (by have := hO.out; rwa [List.take_of_length_le (by rw [hn5'.out]; omega)] at this)
            obtain ⟨wz, rfl⟩ : ∃ wz, wz = wr := ⟨wr, rfl⟩
            obtain ⟨Aa, rfl⟩ : ∃ z, z = A' := ⟨_, rfl⟩
            obtain ⟨na, rfl⟩ : ∃ z, z = n' := ⟨_, rfl⟩
            obtain ⟨ca, rfl⟩ : ∃ z, z = c' := ⟨_, rfl⟩
            have hTz := Lib.hid ((hbw.out.block T (Array.getElem?_eq_some_iff.1 hT7.out).1).trans hT7.out)
            have ho7z := Lib.hid (OwF.below ho7'.out hbw.out)
            have hxz := Lib.hid (hx7.out.trans (hbw.out.mono (by have := hx7.out.size; omega)))
            have hzT : T ≤ wz.heap.size := by have := hxz.out.size; omega
            obtain ⟨kk, rfl⟩ : ∃ z, z = k := ⟨_, rfl⟩
            clear hO hbw g0
            go_wp2_with fail
            obtain ⟨A7, c7, rfl, hq7⟩ := OwS.sq ho7z.out (by omega)
            obtain ⟨n7, hn7⟩ : ∃ n7, ((actX d x).2.fs.map toIn).length = n7 := ⟨_, rfl⟩
            obtain ⟨N7, hN7⟩ : ∃ N7, (actX d x).2.fs.map toIn = N7 := ⟨_, rfl⟩
            rw [hN7] at hn7 hq7
            rw [hn7] at hq7
            have hq7' := Lib.hid hq7
            have hle7 := hq7.le
            have hmx7 := hq7.max
            have hn7b : n7 ≤ 64 := by have := hG6'.out.inv.most; rw [← hn7, ← hN7, List.length_map]; exact this
            have hn7' := Lib.hid hn7
            have hN7' := Lib.hid hN7
            have ho7y : Hid (OwF wz w6.heap.size (.slice A7 n7 c7) N7) := Lib.hid (by have := ho7z.out; rw [hN7, hn7] at this; exact this)
            rw [hN7, hn7]
            clear hq7 hn7 hN7 ho7z
            have g0 := cell_blk (i := 0) hTz.out rfl
            go_loopw [10, 12] (fun o i wr => ∃ (k : Nat) (A' : Option Addr) (n' c' : Nat), k ≤ n7 ∧ i = .int .i64 k ∧ o = .slice A' n' c' ∧ n' ≤ k ∧ Hid (OwG wr w6.heap.size wz.heap.size (.slice A' n' c') ((N7.take k).filter fun f => KP x f.nm)) ∧ Hid (Below wz.heap.size wz wr)) (fun _ i _ => n7 - (intOf i).toNat)
            case atStart => exact ⟨0, none, 0, 0, by omega, rfl, rfl, by omega, Lib.hid (OwS.nil _ _ _), Lib.hid (Below.refl _ _)⟩
            case round =>
              obtain ⟨k, A', n', c', hk, rfl, rfl, hn'k, hO, hbw⟩ := hrel
              by_cases hlt : k < n7
              · obtain ⟨pb, off, f, us, rfl, hpb, hfk, hus, hel, hcs⟩ := (OwS.sq' (OwF.below ho7y.out hbw.out) (by omega)).at_ hlt
                obtain ⟨sk, dv, rfl, hsk, hdv⟩ := hel
                obtain ⟨A0, c0, rfl, hbs0⟩ := OwB.slice hdv
                have k0 : wr.cell? ⟨pb, off + k * 3, none⟩ = some (.string sk) := hcs 0 _ rfl
                have k1 : wr.cell? ⟨pb, off + k * 3 + 1, none⟩ = some (.slice A0 f.data.length c0) := hcs 1 _ rfl
                have k2 : wr.cell? ⟨pb, off + k * 3 + 2, none⟩ = some (.int .i64 f.safe) := hcs 2 _ rfl
                have hTr := Lib.hid ((hbw.out.block T (Array.getElem?_eq_some_iff.1 hTz.out).1).trans hTz.out)
                have t0 : wr.cell? ⟨T, 0, none⟩ = some (.int .i64 x.kind) := cell_blk hTr.out rfl
                have t1 : wr.cell? ⟨T, 1, none⟩ = some (.string s) := cell_blk hTr.out rfl
                have t2 : wr.cell? ⟨T, 2, none⟩ = some (.string s2) := cell_blk hTr.out rfl
                have hfk' := Lib.hid hfk
                have hsk' := Lib.hid hsk
                have hdv' := Lib.hid hdv
                have i0 : (k : Int) < (n7 : Int) := by omega
                clear hcs hus hfk hsk hdv hbs0 g0
                have hq : (if KP x f.nm = true then True else False) ∨ KP x f.nm = false := by cases KP x f.nm <;> simp
                clear hq
                have hcases : ∃ R : Bool, KP x f.nm = R := ⟨_, rfl⟩
                by_cases e1 : sk = s
                · have hq1 : (sk.toList == s.toList) = true := by rw [str_beq]; simpa using e1
                  have hkp : Hid (KP x f.nm = false) := Lib.hid (by unfold KP; rw [hsk'.out, hnm'.out, e1]; simp)
                  clear e1 hcases
                  go_wp2_with fail
                  refine Pl.wp_region_plan 23 (.take 0 (.take 1 (.take 2 (.take 3 (.take 4 (.take 5 (.take 6 (.take 7 (.take 8 (.take 9 (.take 10 (.take 11 (.take 12 (.take 13 (.take 14 (.take 15 (.take 16 (.take 17 (.take 18 (.take 19 (.take 20 (.take 21 (.take 22 .done)))))))))))))))))))))))
                    (fun x_ => x_.cell? ⟨pb, off + k * 3, none⟩ = some (.string sk) ∧ x_.cell? ⟨T, 0, none⟩ = some (.int .i64 x.kind) ∧ x_.cell? ⟨T, 1, none⟩ = some (.string s) ∧ x_.cell? ⟨T, 2, none⟩ = some (.string s2)) (by kernel_rfl) (by kernel_rfl) (by exact ⟨k0, t0, t1, t2⟩) ?_
                  simp only [Pl.fill, List.getElem?_cons_zero, List.getElem?_cons_succ, List.drop_succ_cons, List.drop_zero]
                  iterate 9
                    refine Pl.take_go ?_ (by rfl) (fun _ _ _ h => h) ?_ ?_
                    rotate_left
                    · (intro x hSw; (try dsimp only at hSw); go_simp; try with_reducible rfl)
                    try simp only [Act.put, List.setIfInBounds_toArray, List.set_cons_zero, List.set_cons_succ]
                  iterate 13
                    refine Pl.take_skip (by rfl) (fun _ _ _ h => h) ?_
                    try simp only [Act.put, List.setIfInBounds_toArray, List.set_cons_zero, List.set_cons_succ]
                  iterate 1
                    refine Pl.take_go ?_ (by rfl) (fun _ _ _ h => h) ?_ ?_
                    rotate_left
                    · (intro x hSw; (try dsimp only at hSw); go_simp; try with_reducible rfl)
                    try simp only [Act.put, List.setIfInBounds_toArray, List.set_cons_zero, List.set_cons_succ]
                  refine Pl.done_go ?_
                  go_wp2_with fail
                  go_roundw
                  case rel => exact ⟨k + 1, A', n', c', by omega, by go_num, rfl, by omega, Lib.hid (by rw [take_snoc hfk'.out, List.filter_append, List.filter_cons, if_neg (by rw [hkp.out]; decide), List.filter_nil, List.append_nil]; exact OwG.below_draws hO.out 1), Lib.hid (bD hbw.out)⟩
                  case measure => simp [intOf]; omega
                · have hq1 : (sk.toList == s.toList) = false := by rw [str_beq]; simpa using e1
                  by_cases e5 : x.kind = 5
                  · have hk5 : (x.kind != 5) = false := by rw [bne_eq_false_iff_eq]; exact e5
                    by_cases e2 : sk = s2
                    · have hq2 : (sk.toList == s2.toList) = true := by rw [str_beq]; simpa using e2
                      have hkp : Hid (KP x f.nm = false) := Lib.hid (by unfold KP; rw [hsk'.out, hto'.out, e2, e5]; simp)
                      clear e1 e2 e5 hcases
                      go_wp2_with fail
                      refine Pl.wp_region_plan 23 (.take 0 (.take 1 (.take 2 (.take 3 (.take 4 (.take 5 (.take 6 (.take 7 (.take 8 (.take 9 (.take 10 (.take 11 (.take 12 (.take 13 (.take 14 (.take 15 (.take 16 (.take 17 (.take 18 (.take 19 (.take 20 (.take 21 (.take 22 .done)))))))))))))))))))))))
                        (fun x_ => x_.cell? ⟨pb, off + k * 3, none⟩ = some (.string sk) ∧ x_.cell? ⟨T, 0, none⟩ = some (.int .i64 x.kind) ∧ x_.cell? ⟨T, 1, none⟩ = some (.string s) ∧ x_.cell? ⟨T, 2, none⟩ = some (.string s2)) (by kernel_rfl) (by kernel_rfl) (by exact ⟨k0, t0, t1, t2⟩) ?_
                      simp only [Pl.fill, List.getElem?_cons_zero, List.getElem?_cons_succ, List.drop_succ_cons, List.drop_zero]
                      iterate 23
                        refine Pl.take_go ?_ (by rfl) (fun _ _ _ h => h) ?_ ?_
                        rotate_left
                        · (intro x hSw; (try dsimp only at hSw); go_simp; try with_reducible rfl)
                        try simp only [Act.put, List.setIfInBounds_toArray, List.set_cons_zero, List.set_cons_succ]
                      refine Pl.done_go ?_
                      go_wp2_with fail
                      go_roundw
                      case rel => exact ⟨k + 1, A', n', c', by omega, by go_num, rfl, by omega, Lib.hid (by rw [take_snoc hfk'.out, List.filter_append, List.filter_cons, if_neg (by rw [hkp.out]; decide), List.filter_nil, List.append_nil]; exact OwG.below_draws hO.out 1), Lib.hid (bD hbw.out)⟩
                      case measure => simp [intOf]; omega
                    · have hq2 : (sk.toList == s2.toList) = false := by rw [str_beq]; simpa using e2
                      have hkp : Hid (KP x f.nm = true) := Lib.hid (by
                        unfold KP
                        have h1 : ¬ f.nm = x.nm := by rw [hsk'.out, hnm'.out]; exact fun h => e1 (bytes_ext h)
                        have h2 : ¬ f.nm = x.to_ := by rw [hsk'.out, hto'.out]; exact fun h => e2 (bytes_ext h)
                        simp [h1, h2])
                      clear e1 e2 e5 hcases
                      go_wp2_with fail
                      refine Pl.wp_region_plan 23 (.take 0 (.take 1 (.take 2 (.take 3 (.take 4 (.take 5 (.take 6 (.take 7 (.take 8 (.take 9 (.take 10 (.take 11 (.take 12 (.take 13 (.take 14 (.take 15 (.take 16 (.take 17 (.take 18 (.take 19 (.take 20 (.take 21 (.take 22 .done)))))))))))))))))))))))
                        (fun x_ => x_.cell? ⟨pb, off + k * 3, none⟩ = some (.string sk) ∧ x_.cell? ⟨T, 0, none⟩ = some (.int .i64 x.kind) ∧ x_.cell? ⟨T, 1, none⟩ = some (.string s) ∧ x_.cell? ⟨T, 2, none⟩ = some (.string s2)) (by kernel_rfl) (by kernel_rfl) (by exact ⟨k0, t0, t1, t2⟩) ?_
                      simp only [Pl.fill, List.getElem?_cons_zero, List.getElem?_cons_succ, List.drop_succ_cons, List.drop_zero]
                      iterate 23
                        refine Pl.take_go ?_ (by rfl) (fun _ _ _ h => h) ?_ ?_
                        rotate_left
                        · (intro x hSw; (try dsimp only at hSw); go_simp; try with_reducible rfl)
                        try simp only [Act.put, List.setIfInBounds_toArray, List.set_cons_zero, List.set_cons_succ]
                      refine Pl.done_go ?_
                      go_wp2_with (at_builtin; apply stop_here)
                      have hbd := bD hbw.out
                      have hOd := OwG.below hO.out (bD (Below.refl wr.heap.size wr))
                      have hdd := OwB.below hdv'.out (bD (Below.refl wr.heap.size wr))
                      have hba := below_alloc wr.drew (.cells #[.string sk, .slice A0 f.data.length c0, .int .i64 f.safe] 51)
                      have hel2 : FoEl w6.heap.size (wr.drew.alloc (.cells [.string sk, .slice A0 f.data.length c0, .int .i64 f.safe].toArray 51)) [.string sk, .slice A0 f.data.length c0, .int .i64 f.safe] f := ⟨sk, _, rfl, hsk'.out, OwB.below hdd hba⟩
                      have hsq2 := Lib.hid (sq_one (El := FoEl w6.heap.size) (k := 3) wr.drew [.string sk, .slice A0 f.data.length c0, .int .i64 f.safe] f 51 (0, 0) rfl hel2)
                      have hOa := Lib.hid (OwG.below hOd hba)
                      have hxa := Lib.hid (hbd.trans (hba.mono hbd.size))
                      have hnk := (OwS.sq' hO.out (by omega)).len
                      have hnk' := Lib.hid hnk
                      have hw47 := h45.out
                      have hw56 := h56.out
                      have hw67 := h67.out
                      have hxs := hxa.out.size
                      clear hbd hOd hdd hba hel2 hnk
                      refine Stop.go (append_sq (El := FoEl w6.heap.size) (k := 3) _ 22 51 (.agg #[.string ⟨#[]⟩, .slice none 0 0, .int .i64 0]) 48 Tryd.underlying22 (by kernel_rfl) rfl (by omega) rfl _ _ rfl wz.heap.size _ _ rfl hOa.out _ 1 1 _ rfl hsq2.out (FoEl.one _) (fun w' hg => FoEl.kept hg (ows_noE hOa.out (by decide))) (n' + 1) ?h3 ?h4 ?h5 ?h6 ?_)
                      case h3 => rw [hnk'.out]
                      case h4 => omega
                      case h5 => omega
                      case h6 => exact hxs
                      intro A6 c6 wz ho6 _ hb6 _
                      have ho6' := Lib.hid ho6
                      have hb6' := Lib.hid (hxa.out.trans hb6)
                      clear ho6 hb6
                      go_wp2_with fail
                      go_roundw
                      case rel => exact ⟨k + 1, A6, n' + 1, c6, by omega, by go_num, by go_num, by omega, Lib.hid (by rw [take_snoc hfk'.out, List.filter_append, List.filter_cons, if_pos hkp.out, List.filter_nil]; exact ho6'.out), hb6'⟩
                      case measure => simp [intOf]; omega
                  · have hk5 : (x.kind != 5) = true := by rw [bne_iff_ne]; exact e5
                    have hkp : Hid (KP x f.nm = true) := Lib.hid (by
                      unfold KP
                      have h1 : ¬ f.nm = x.nm := by rw [hsk'.out, hnm'.out]; exact fun h => e1 (bytes_ext h)
                      simp [h1, e5])
                    clear e1 e5 hcases
                    go_wp2_with fail
                    refine Pl.wp_region_plan 23 (.take 0 (.take 1 (.take 2 (.take 3 (.take 4 (.take 5 (.take 6 (.take 7 (.take 8 (.take 9 (.take 10 (.take 11 (.take 12 (.take 13 (.take 14 (.take 15 (.take 16 (.take 17 (.take 18 (.take 19 (.take 20 (.take 21 (.take 22 .done)))))))))))))))))))))))
                      (fun x_ => x_.cell? ⟨pb, off + k * 3, none⟩ = some (.string sk) ∧ x_.cell? ⟨T, 0, none⟩ = some (.int .i64 x.kind) ∧ x_.cell? ⟨T, 1, none⟩ = some (.string s) ∧ x_.cell? ⟨T, 2, none⟩ = some (.string s2)) (by kernel_rfl) (by kernel_rfl) (by exact ⟨k0, t0, t1, t2⟩) ?_
                    simp only [Pl.fill, List.getElem?_cons_zero, List.getElem?_cons_succ, List.drop_succ_cons, List.drop_zero]
                    iterate 13
                      refine Pl.take_go ?_ (by rfl) (fun _ _ _ h => h) ?_ ?_
                      rotate_left
                      · (intro x hSw; (try dsimp only at hSw); go_simp; try with_reducible rfl)
                      try simp only [Act.put, List.setIfInBounds_toArray, List.set_cons_zero, List.set_cons_succ]
                    iterate 8
                      refine Pl.take_skip (by rfl) (fun _ _ _ h => h) ?_
                      try simp only [Act.put, List.setIfInBounds_toArray, List.set_cons_zero, List.set_cons_succ]
                    iterate 2
                      refine Pl.take_go ?_ (by rfl) (fun _ _ _ h => h) ?_ ?_
                      rotate_left
                      · (intro x hSw; (try dsimp only at hSw); go_simp; try with_reducible rfl)
                      try simp only [Act.put, List.setIfInBounds_toArray, List.set_cons_zero, List.set_cons_succ]
                    refine Pl.done_go ?_
                    go_wp2_with (at_builtin; apply stop_here)
                    have hbd := bD hbw.out
                    have hOd := OwG.below hO.out (bD (Below.refl wr.heap.size wr))
                    have hdd := OwB.below hdv'.out (bD (Below.refl wr.heap.size wr))
                    have hba := below_alloc wr.drew (.cells #[.string sk, .slice A0 f.data.length c0, .int .i64 f.safe] 51)
                    have hel2 : FoEl w6.heap.size (wr.drew.alloc (.cells [.string sk, .slice A0 f.data.length c0, .int .i64 f.safe].toArray 51)) [.string sk, .slice A0 f.data.length c0, .int .i64 f.safe] f := ⟨sk, _, rfl, hsk'.out, OwB.below hdd hba⟩
                    have hsq2 := Lib.hid (sq_one (El := FoEl w6.heap.size) (k := 3) wr.drew [.string sk, .slice A0 f.data.length c0, .int .i64 f.safe] f 51 (0, 0) rfl hel2)
                    have hOa := Lib.hid (OwG.below hOd hba)
                    have hxa := Lib.hid (hbd.trans (hba.mono hbd.size))
                    have hnk := (OwS.sq' hO.out (by omega)).len
                    have hnk' := Lib.hid hnk
                    have hw47 := h45.out
                    have hw56 := h56.out
                    have hw67 := h67.out
                    have hxs := hxa.out.size
                    clear hbd hOd hdd hba hel2 hnk
                    refine Stop.go (append_sq (El := FoEl w6.heap.size) (k := 3) _ 22 51 (.agg #[.string ⟨#[]⟩, .slice none 0 0, .int .i64 0]) 48 Tryd.underlying22 (by kernel_rfl) rfl (by omega) rfl _ _ rfl wz.heap.size _ _ rfl hOa.out _ 1 1 _ rfl hsq2.out (FoEl.one _) (fun w' hg => FoEl.kept hg (ows_noE hOa.out (by decide))) (n' + 1) ?h3 ?h4 ?h5 ?h6 ?_)
                    case h3 => rw [hnk'.out]
                    case h4 => omega
                    case h5 => omega
                    case h6 => exact hxs
                    intro A6 c6 wz ho6 _ hb6 _
                    have ho6' := Lib.hid ho6
                    have hb6' := Lib.hid (hxa.out.trans hb6)
                    clear ho6 hb6
                    go_wp2_with fail
                    go_roundw
                    case rel => exact ⟨k + 1, A6, n' + 1, c6, by omega, by go_num, by go_num, by omega, Lib.hid (by rw [take_snoc hfk'.out, List.filter_append, List.filter_cons, if_pos hkp.out, List.filter_nil]; exact ho6'.out), hb6'⟩
                    case measure => simp [intOf]; omega
              · have hOB : OwG wr w6.heap.size wz.heap.size (.slice A' n' c') (N7.filter fun f => KP x f.nm) := by have := hO.out; rwa [List.take_of_length_le (by rw [hn7'.out]; omega)] at this
                have hOA2 := OwG.below hOA.out hbw.out
                have heq : N7.filter (fun f => KP x f.nm) = N5.filter (fun f => KP x f.nm) := by rw [← hN7'.out, ← hN5'.out]; exact alone_act d x (by omega) (by omega)
                rw [heq] at hOB
                have hSm := Lib.hid (Same_refl Aa na ca A' n' c' _ wr (fe_of (OwS.sq' hOA2 (by omega))) (fe_of (OwS.sq' hOB (by omega))))
                have hxf := Lib.hid (hxz.out.trans (hbw.out.mono hzT))
                clear hOA2 hOB heq g0
                go_wp2_with fail
                refine hSm.out.mono ?_
                rintro e w9 ⟨rfl, j, rfl⟩
                go_wp2_with fail
                go_ret
                exact ⟨rfl, by rw [hT'.out]; exact bN hxf.out j⟩
end Go.Proofs.YtjhiihmibleecaaDoor.Dk
