/- Load. -/
import Derived.Test.YtjhiihmibleecaaGreatDoorDkCrash
namespace Go.Proofs.YtjhiihmibleecaaGreatDoor.Dk
open Go.RowKit

theorem loadF_take : ∀ (l : List In) (k : Nat) (fs0 fs : Fs), loadF (l.take k) fs0 = some fs → loadF l fs0 = loadF (l.drop k) fs
  | l, 0, fs0, fs, h => by simp [loadF] at h; subst h; rfl
  | [], k + 1, fs0, fs, h => by simp [loadF] at h; subst h; simp
  | f :: l, k + 1, fs0, fs, h => by
    rw [List.take_succ_cons, loadF] at h
    rw [loadF, List.drop_succ_cons]
    split at h
    · cases h
    · rename_i hn
      rw [if_neg hn]
      exact loadF_take l k _ _ h

theorem loadF_append : ∀ (a b : List In) (fs : Fs), loadF (a ++ b) fs = (loadF a fs).bind (loadF b)
  | [], b, fs => rfl
  | f :: a, b, fs => by
    rw [List.cons_append, loadF, loadF]
    split
    · rfl
    · exact loadF_append a b _
theorem loadF_used : ∀ (l : List In) (fs fs' : Fs), loadF l fs = some fs' → (∀ f ∈ l, f.data.length ≤ 1000000) → used fs' ≤ used fs + l.length * 1000000
  | [], fs, fs', h, _ => by simp [loadF] at h; subst h; simp
  | f :: l, fs, fs', h, hs => by
    rw [loadF] at h
    split at h
    · cases h
    · have := loadF_used l _ fs' h fun g hg => hs g (List.mem_cons_of_mem _ hg)
      rw [used_ins] at this
      have h1 := hs f (List.mem_cons_self ..)
      rw [List.length_cons, Nat.succ_mul]
      simp only at this
      omega

/-- A disk, or none. -/
def LdP (W : World) (X : Option D) (e : Ending) (w' : World) : Prop := Below W.heap.size W w' ∧
  match X with
  | none => e = .returned (.tuple #[.pointer none, .int .i64 80])
  | some d => ∃ b mb, e = .returned (.tuple #[.pointer (some ⟨b, 0, none⟩), .int .i64 0]) ∧ ∃ L F, Da w' W.heap.size b mb L F (.slice none 0 0) d

set_option maxHeartbeats 2000000 in
set_option maxRecDepth 100000 in
theorem Load_any (w : World) (A : Option Addr) (n c : Nat) (l : List In) (room : Int) (h : Sq FeEl 3 w A n c l) (hn : n ≤ 1000) (hsz : ∀ f ∈ l, f.nm.length ≤ 1000 ∧ f.data.length ≤ 1000000) (hroom : room ≤ 9223372036854775807) :
    Calls Tryz.prog 7 #[.slice A n c, .int .i64 room] w (LdP w (load l room)) := by
  have hnew := New_any w room
  have hl := h.len
  have hle := h.le
  have hmx := h.max
  have h' := Lib.hid h
  have hsz' := Lib.hid hsz
  have hl' := Lib.hid hl
  clear h hsz hl
  go_enter Tryz.func7, Tryz.ntmps7
  go_wp2_with fail
  refine hnew.mono ?_
  rintro e w1 ⟨b, mb, rfl, hD, hb1⟩
  have hst : Hid (Da w1 w.heap.size b mb [] (fun _ => ⟨[], 0⟩) (.slice none 0 0) (new room)) := Lib.hid (hD.out _ _ (Nat.le_refl _))
  have hb1' := Lib.hid hb1
  clear hnew hD hb1
  go_wp2_with fail
  go_loopw [13] (fun i wr => ∃ (k : Nat) (L : Al Nat) (F : Nat → Fl) (fs : Fs), k ≤ n ∧ i = .int .i64 k ∧ Hid (loadF (l.take k) [] = some fs) ∧ Hid (Da wr w.heap.size b mb L F (.slice none 0 0) { new room with fs := fs }) ∧ Hid (Below w.heap.size w wr) ∧ Hid (L.length ≤ k)) (fun i _ => n - (intOf i).toNat)
  case atStart => exact ⟨0, [], _, [], by omega, rfl, Lib.hid rfl, hst, hb1', Lib.hid (Nat.le_refl _)⟩
  case round =>
    obtain ⟨k, L, F, fs, hk, rfl, hF, hD, hb, hLk⟩ := hrel
    by_cases hlt : k < n
    · obtain ⟨ab, off, f, vs, rfl, hab, hfk, hvs, hel, hcs⟩ := (h'.out.below (fun vs x => FeEl.below hb.out vs x) hb.out).at_ hlt
      obtain ⟨s, A0, n0, c0, rfl, hnm, hbs⟩ := hel
      have k0 : wr.cell? ⟨ab, off + k * 3, none⟩ = some (.string s) := hcs 0 _ rfl
      have k1 : wr.cell? ⟨ab, off + k * 3 + 1, none⟩ = some (.slice A0 n0 c0) := hcs 1 _ rfl
      have k2 : wr.cell? ⟨ab, off + k * 3 + 2, none⟩ = some (.int .i64 f.safe) := hcs 2 _ rfl
      clear hcs hvs
      --BEGIN
      have hfg : l[k]'(by rw [hl'.out]; exact hlt) = f := by
        rw [List.getElem?_eq_getElem (by rw [hl'.out]; exact hlt)] at hfk
        injection hfk
      have hmemf := List.mem_of_getElem? hfk
      obtain ⟨hz1, hz2⟩ := hsz'.out f hmemf
      have hss : s.size ≤ 1000 := by rw [hnm, Array.length_toList] at hz1; exact hz1
      have hba := below_alloc wr (.cells #[.string s, .slice A0 n0 c0, .int .i64 f.safe] 52)
      have hnew := heap_alloc_new wr (.cells #[.string s, .slice A0 n0 c0, .int .i64 f.safe] 52)
      have hwfs : (wr.alloc (.cells #[.string s, .slice A0 n0 c0, .int .i64 f.safe] 52)).heap.size = wr.heap.size + 1 := by simp
      have hDf := hD.out.below hba
      obtain ⟨T, hT⟩ : ∃ T, wr.heap.size = T := ⟨_, rfl⟩
      obtain ⟨wf, hwf⟩ : ∃ wf, wr.alloc (.cells #[.string s, .slice A0 n0 c0, .int .i64 f.safe] 52) = wf := ⟨_, rfl⟩
      rw [hwf] at hba hnew hDf hwfs
      rw [hT] at hnew hba hwfs
      obtain ⟨G, hG⟩ : ∃ G, Dk.get L f.nm = G := ⟨_, rfl⟩
      have hSx : Hid (∀ x, Below wf.heap.size wf x → x.cell? ⟨T, 0, none⟩ = some (.string s) ∧ x.cell? ⟨T, 1, none⟩ = some (.slice A0 n0 c0) ∧ x.cell? ⟨T, 2, none⟩ = some (.int .i64 f.safe) ∧ x.cell? ⟨b, 1, none⟩ = some (.map (some mb)) ∧
          (Instr.lookup 59 (.map (some mb)) (.string s) false).run Tryz.prog x = .ok (.pointer (G.map fun b => ⟨b, 0, none⟩)) x) := Lib.hid fun x hx => by
        have hDx := hDf.below hx
        have hbx := (hx.block T (by omega)).trans hnew
        refine ⟨cell_blk hbx rfl, cell_blk hbx rfl, cell_blk hbx rfl, hDx.c1, ?_⟩
        have := hDx.look s (by unfold maxLen; omega)
        rw [← hnm, hG] at this
        exact this
      have hS0 := hSx.out wf (Below.refl _ _)
      have hbf : Hid (Below w.heap.size w wf) := Lib.hid (hb.out.trans (hba.mono (by have := hb.out.size; omega)))
      have hDf' := Lib.hid hDf
      have hgetd : Hid (Dk.get fs f.nm = G.map F) := Lib.hid (by have := hD.out.get f.nm; rw [hG] at this; exact this)
      have hn0 : f.data.length = n0 := hbs.len
      have hbs' : Hid (Bs wf A0 n0 c0 f.data) := Lib.hid (hbs.below (by rw [hT]; exact hba))
      have hnc0 := Rd.le hbs
      have hmx0 := Rd.max hbs
      have hn0' := Lib.hid hn0
      have hTblk := Lib.hid hnew
      have hwfs' := Lib.hid hwfs
      have hnm' := Lib.hid hnm
      have hG' := Lib.hid hG
      have hn0b : n0 ≤ 1000000 := by omega
      clear hba hnew hDf hG hmemf hbs hn0 hab hwfs hz1 hz2
      cases G with
      | some gb =>
        simp only [Option.map_some] at hSx hS0 hgetd
        clear hnm
        go_wp2_with fail
        refine Pl.wp_region_plan 27 (.take 0 (.take 1 (.take 2 (.take 3 (.take 4 (.take 5 (.take 6 (.take 7 (.take 8 (.take 9 (.take 10 (.run 11 (.take 12 (.take 13 (.take 14 (.take 15 (.take 16 (.take 17 (.take 18 (.take 19 (.take 20 (.take 21 (.take 22 (.take 23 (.take 24 (.take 25 (.take 26 .done))))))))))))))))))))))))))) (fun x => x.cell? ⟨T, 0, none⟩ = some (.string s) ∧ x.cell? ⟨T, 1, none⟩ = some (.slice A0 n0 c0) ∧ x.cell? ⟨T, 2, none⟩ = some (.int .i64 f.safe) ∧ x.cell? ⟨b, 1, none⟩ = some (.map (some mb)) ∧ (Instr.lookup 59 (.map (some mb)) (.string s) false).run Tryz.prog x = .ok (.pointer (some ⟨gb, 0, none⟩)) x) (by kernel_rfl) (by kernel_rfl) (by exact hSx.out _ (bD (Below.refl _ _))) ?_
        simp only [Pl.fill, List.getElem?_cons_zero, List.getElem?_cons_succ, List.drop_succ_cons, List.drop_zero]
        iterate 9
          refine Pl.take_go ?_ (by rfl) (fun _ _ _ h => h) ?_ ?_
          rotate_left
          · (intro x hSw; (try dsimp only at hSw); go_simp; try with_reducible rfl)
          try simp only [Act.put, List.setIfInBounds_toArray, List.set_cons_zero, List.set_cons_succ]
        iterate 2
          refine Pl.take_skip (by rfl) (fun _ _ _ h => h) ?_
          try simp only [Act.put, List.setIfInBounds_toArray, List.set_cons_zero, List.set_cons_succ]
        refine Pl.run_go (fun K hK => ?_)
        go_simp
        refine hK.out _ _ (Pl.more_go _ (fun _ h => h) (by exact hSx.out _ (bD (Below.refl _ _))) ?_)
        clear hK K
        iterate 1
          refine Pl.take_skip (by rfl) (fun _ _ _ h => h) ?_
          try simp only [Act.put, List.setIfInBounds_toArray, List.set_cons_zero, List.set_cons_succ]
        iterate 2
          refine Pl.take_go ?_ (by rfl) (fun _ _ _ h => h) ?_ ?_
          rotate_left
          · (intro x hSw; (try dsimp only at hSw); go_simp; try with_reducible rfl)
          try simp only [Act.put, List.setIfInBounds_toArray, List.set_cons_zero, List.set_cons_succ]
        iterate 3
          refine Pl.take_skip (by rfl) (fun _ _ _ h => h) ?_
          try simp only [Act.put, List.setIfInBounds_toArray, List.set_cons_zero, List.set_cons_succ]
        iterate 2
          refine Pl.take_go ?_ (by rfl) (fun _ _ _ h => h) ?_ ?_
          rotate_left
          · (intro x hSw; (try dsimp only at hSw); go_simp; try with_reducible rfl)
          try simp only [Act.put, List.setIfInBounds_toArray, List.set_cons_zero, List.set_cons_succ]
        iterate 6
          refine Pl.take_skip (by rfl) (fun _ _ _ h => h) ?_
          try simp only [Act.put, List.setIfInBounds_toArray, List.set_cons_zero, List.set_cons_succ]
        iterate 1
          refine Pl.take_go ?_ (by rfl) (fun _ _ _ h => h) ?_ ?_
          rotate_left
          · (intro x hSw; (try dsimp only at hSw); go_simp; try with_reducible rfl)
          try simp only [Act.put, List.setIfInBounds_toArray, List.set_cons_zero, List.set_cons_succ]
        have hno : Hid (load l room = none) := Lib.hid (by unfold load; rw [loadF_take l k [] fs hF.out, List.drop_eq_getElem_cons (by rw [hl'.out]; exact hlt), hfg, loadF, if_pos (.inl (by rw [hgetd.out]; rfl))])
        refine Pl.done_go ?_
        clear hS0
        go_wp2_with fail
        go_ret2
        rw [hno.out]
        exact ⟨hbf.out.trans (Joins.below_draws _ wf 1), rfl⟩
      | none =>
        simp only [Option.map_none] at hSx hS0 hgetd
        cases hmay : may s.data.toList with
        | false =>
          clear hnm
          go_wp2_with fail
          refine Pl.wp_region_plan 27 (.take 0 (.take 1 (.take 2 (.take 3 (.take 4 (.take 5 (.take 6 (.take 7 (.take 8 (.take 9 (.take 10 (.run 11 (.take 12 (.take 13 (.take 14 (.take 15 (.take 16 (.take 17 (.take 18 (.take 19 (.take 20 (.take 21 (.take 22 (.take 23 (.take 24 (.take 25 (.take 26 .done))))))))))))))))))))))))))) (fun x => x.cell? ⟨T, 0, none⟩ = some (.string s) ∧ x.cell? ⟨T, 1, none⟩ = some (.slice A0 n0 c0) ∧ x.cell? ⟨T, 2, none⟩ = some (.int .i64 f.safe) ∧ x.cell? ⟨b, 1, none⟩ = some (.map (some mb)) ∧ (Instr.lookup 59 (.map (some mb)) (.string s) false).run Tryz.prog x = .ok (.pointer none) x) (by kernel_rfl) (by kernel_rfl) (by exact hSx.out _ (bD (Below.refl _ _))) ?_
          simp only [Pl.fill, List.getElem?_cons_zero, List.getElem?_cons_succ, List.drop_succ_cons, List.drop_zero]
          iterate 11
            refine Pl.take_go ?_ (by rfl) (fun _ _ _ h => h) ?_ ?_
            rotate_left
            · (intro x hSw; (try dsimp only at hSw); go_simp; try with_reducible rfl)
            try simp only [Act.put, List.setIfInBounds_toArray, List.set_cons_zero, List.set_cons_succ]
          refine Pl.run_go (fun K hK => ?_)
          go_simp
          refine (may_any s (by omega) _).mono ?_
          rintro e w3 ⟨rfl, hb3⟩
          have hbm := (bD (Below.refl wf.heap.size wf)).trans (hb3.mono (by simp))
          have hbm' := Lib.hid hbm
          clear hb3
          rw [hmay]
          dsimp only
          refine hK.out _ _ (Pl.more_go _ (fun _ h => h) (by exact hSx.out _ hbm) ?_)
          clear hK K hbm
          iterate 3
            refine Pl.take_go ?_ (by rfl) (fun _ _ _ h => h) ?_ ?_
            rotate_left
            · (intro x hSw; (try dsimp only at hSw); go_simp; try with_reducible rfl)
            try simp only [Act.put, List.setIfInBounds_toArray, List.set_cons_zero, List.set_cons_succ]
          iterate 3
            refine Pl.take_skip (by rfl) (fun _ _ _ h => h) ?_
            try simp only [Act.put, List.setIfInBounds_toArray, List.set_cons_zero, List.set_cons_succ]
          iterate 2
            refine Pl.take_go ?_ (by rfl) (fun _ _ _ h => h) ?_ ?_
            rotate_left
            · (intro x hSw; (try dsimp only at hSw); go_simp; try with_reducible rfl)
            try simp only [Act.put, List.setIfInBounds_toArray, List.set_cons_zero, List.set_cons_succ]
          iterate 6
            refine Pl.take_skip (by rfl) (fun _ _ _ h => h) ?_
            try simp only [Act.put, List.setIfInBounds_toArray, List.set_cons_zero, List.set_cons_succ]
          iterate 1
            refine Pl.take_go ?_ (by rfl) (fun _ _ _ h => h) ?_ ?_
            rotate_left
            · (intro x hSw; (try dsimp only at hSw); go_simp; try with_reducible rfl)
            try simp only [Act.put, List.setIfInBounds_toArray, List.set_cons_zero, List.set_cons_succ]
          have hno : Hid (load l room = none) := Lib.hid (by unfold load; rw [loadF_take l k [] fs hF.out, List.drop_eq_getElem_cons (by rw [hl'.out]; exact hlt), hfg, loadF, if_pos (.inr (.inl (by rw [hnm'.out]; exact hmay)))])
          refine Pl.done_go ?_
          clear hS0
          go_wp2_with fail
          go_ret2
          rw [hno.out]
          exact ⟨hbf.out.trans (hbm'.out.mono (by have := hbf.out.size; omega)), rfl⟩
        | true =>
          by_cases hs0 : f.safe < 0
          · have hd0 : decide (f.safe < 0) = true := by simpa using hs0
            clear hnm
            go_wp2_with fail
            refine Pl.wp_region_plan 27 (.take 0 (.take 1 (.take 2 (.take 3 (.take 4 (.take 5 (.take 6 (.take 7 (.take 8 (.take 9 (.take 10 (.run 11 (.take 12 (.take 13 (.take 14 (.take 15 (.take 16 (.take 17 (.take 18 (.take 19 (.take 20 (.take 21 (.take 22 (.take 23 (.take 24 (.take 25 (.take 26 .done))))))))))))))))))))))))))) (fun x => x.cell? ⟨T, 0, none⟩ = some (.string s) ∧ x.cell? ⟨T, 1, none⟩ = some (.slice A0 n0 c0) ∧ x.cell? ⟨T, 2, none⟩ = some (.int .i64 f.safe) ∧ x.cell? ⟨b, 1, none⟩ = some (.map (some mb)) ∧ (Instr.lookup 59 (.map (some mb)) (.string s) false).run Tryz.prog x = .ok (.pointer none) x) (by kernel_rfl) (by kernel_rfl) (by exact hSx.out _ (bD (Below.refl _ _))) ?_
            simp only [Pl.fill, List.getElem?_cons_zero, List.getElem?_cons_succ, List.drop_succ_cons, List.drop_zero]
            iterate 11
              refine Pl.take_go ?_ (by rfl) (fun _ _ _ h => h) ?_ ?_
              rotate_left
              · (intro x hSw; (try dsimp only at hSw); go_simp; try with_reducible rfl)
              try simp only [Act.put, List.setIfInBounds_toArray, List.set_cons_zero, List.set_cons_succ]
            refine Pl.run_go (fun K hK => ?_)
            go_simp
            refine (may_any s (by omega) _).mono ?_
            rintro e w3 ⟨rfl, hb3⟩
            have hbm := (bD (Below.refl wf.heap.size wf)).trans (hb3.mono (by simp))
            have hbm' := Lib.hid hbm
            clear hb3
            rw [hmay]
            dsimp only
            refine hK.out _ _ (Pl.more_go _ (fun _ h => h) (by exact hSx.out _ hbm) ?_)
            clear hK K hbm
            iterate 8
              refine Pl.take_go ?_ (by rfl) (fun _ _ _ h => h) ?_ ?_
              rotate_left
              · (intro x hSw; (try dsimp only at hSw); go_simp; try with_reducible rfl)
              try simp only [Act.put, List.setIfInBounds_toArray, List.set_cons_zero, List.set_cons_succ]
            iterate 6
              refine Pl.take_skip (by rfl) (fun _ _ _ h => h) ?_
              try simp only [Act.put, List.setIfInBounds_toArray, List.set_cons_zero, List.set_cons_succ]
            iterate 1
              refine Pl.take_go ?_ (by rfl) (fun _ _ _ h => h) ?_ ?_
              rotate_left
              · (intro x hSw; (try dsimp only at hSw); go_simp; try with_reducible rfl)
              try simp only [Act.put, List.setIfInBounds_toArray, List.set_cons_zero, List.set_cons_succ]
            have hno : Hid (load l room = none) := Lib.hid (by unfold load; rw [loadF_take l k [] fs hF.out, List.drop_eq_getElem_cons (by rw [hl'.out]; exact hlt), hfg, loadF, if_pos (.inr (.inr (.inl hs0)))])
            refine Pl.done_go ?_
            clear hS0
            go_wp2_with fail
            go_ret2
            rw [hno.out]
            exact ⟨hbf.out.trans (hbm'.out.mono (by have := hbf.out.size; omega)), rfl⟩
          · have hd0 : decide (f.safe < 0) = false := by simpa using hs0
            by_cases hs1 : (n0 : Int) < f.safe
            · have hd1 : decide ((n0 : Int) < f.safe) = true := by simpa using hs1
              clear hnm
              go_wp2_with fail
              refine Pl.wp_region_plan 27 (.take 0 (.take 1 (.take 2 (.take 3 (.take 4 (.take 5 (.take 6 (.take 7 (.take 8 (.take 9 (.take 10 (.run 11 (.take 12 (.take 13 (.take 14 (.take 15 (.take 16 (.take 17 (.take 18 (.take 19 (.take 20 (.take 21 (.take 22 (.take 23 (.take 24 (.take 25 (.take 26 .done))))))))))))))))))))))))))) (fun x => x.cell? ⟨T, 0, none⟩ = some (.string s) ∧ x.cell? ⟨T, 1, none⟩ = some (.slice A0 n0 c0) ∧ x.cell? ⟨T, 2, none⟩ = some (.int .i64 f.safe) ∧ x.cell? ⟨b, 1, none⟩ = some (.map (some mb)) ∧ (Instr.lookup 59 (.map (some mb)) (.string s) false).run Tryz.prog x = .ok (.pointer none) x) (by kernel_rfl) (by kernel_rfl) (by exact hSx.out _ (bD (Below.refl _ _))) ?_
              simp only [Pl.fill, List.getElem?_cons_zero, List.getElem?_cons_succ, List.drop_succ_cons, List.drop_zero]
              iterate 11
                refine Pl.take_go ?_ (by rfl) (fun _ _ _ h => h) ?_ ?_
                rotate_left
                · (intro x hSw; (try dsimp only at hSw); go_simp; try with_reducible rfl)
                try simp only [Act.put, List.setIfInBounds_toArray, List.set_cons_zero, List.set_cons_succ]
              refine Pl.run_go (fun K hK => ?_)
              go_simp
              refine (may_any s (by omega) _).mono ?_
              rintro e w3 ⟨rfl, hb3⟩
              have hbm := (bD (Below.refl wf.heap.size wf)).trans (hb3.mono (by simp))
              have hbm' := Lib.hid hbm
              clear hb3
              rw [hmay]
              dsimp only
              refine hK.out _ _ (Pl.more_go _ (fun _ h => h) (by exact hSx.out _ hbm) ?_)
              clear hK K hbm
              iterate 15
                refine Pl.take_go ?_ (by rfl) (fun _ _ _ h => h) ?_ ?_
                rotate_left
                · (intro x hSw; (try dsimp only at hSw); go_simp; try with_reducible rfl)
                try simp only [Act.put, List.setIfInBounds_toArray, List.set_cons_zero, List.set_cons_succ]
              have hno : Hid (load l room = none) := Lib.hid (by unfold load; rw [loadF_take l k [] fs hF.out, List.drop_eq_getElem_cons (by rw [hl'.out]; exact hlt), hfg, loadF, if_pos (.inr (.inr (.inr (by rw [hn0'.out]; exact hs1))))])
              refine Pl.done_go ?_
              clear hS0
              go_wp2_with fail
              go_ret2
              rw [hno.out]
              exact ⟨hbf.out.trans (hbm'.out.mono (by have := hbf.out.size; omega)), rfl⟩
            · have hd1 : decide ((n0 : Int) < f.safe) = false := by simpa using hs1
              clear hnm
              go_wp2_with fail
              refine Pl.wp_region_plan 27 (.take 0 (.take 1 (.take 2 (.take 3 (.take 4 (.take 5 (.take 6 (.take 7 (.take 8 (.take 9 (.take 10 (.run 11 (.take 12 (.take 13 (.take 14 (.take 15 (.take 16 (.take 17 (.take 18 (.take 19 (.take 20 (.take 21 (.take 22 (.take 23 (.take 24 (.take 25 (.take 26 .done))))))))))))))))))))))))))) (fun x => x.cell? ⟨T, 0, none⟩ = some (.string s) ∧ x.cell? ⟨T, 1, none⟩ = some (.slice A0 n0 c0) ∧ x.cell? ⟨T, 2, none⟩ = some (.int .i64 f.safe) ∧ x.cell? ⟨b, 1, none⟩ = some (.map (some mb)) ∧ (Instr.lookup 59 (.map (some mb)) (.string s) false).run Tryz.prog x = .ok (.pointer none) x) (by kernel_rfl) (by kernel_rfl) (by exact hSx.out _ (bD (Below.refl _ _))) ?_
              simp only [Pl.fill, List.getElem?_cons_zero, List.getElem?_cons_succ, List.drop_succ_cons, List.drop_zero]
              iterate 11
                refine Pl.take_go ?_ (by rfl) (fun _ _ _ h => h) ?_ ?_
                rotate_left
                · (intro x hSw; (try dsimp only at hSw); go_simp; try with_reducible rfl)
                try simp only [Act.put, List.setIfInBounds_toArray, List.set_cons_zero, List.set_cons_succ]
              refine Pl.run_go (fun K hK => ?_)
              go_simp
              refine (may_any s (by omega) _).mono ?_
              rintro e w3 ⟨rfl, hb3⟩
              have hbm := (bD (Below.refl wf.heap.size wf)).trans (hb3.mono (by simp))
              have hbm' := Lib.hid hbm
              clear hb3
              rw [hmay]
              dsimp only
              refine hK.out _ _ (Pl.more_go _ (fun _ h => h) (by exact hSx.out _ hbm) ?_)
              clear hK K hbm
              iterate 15
                refine Pl.take_go ?_ (by rfl) (fun _ _ _ h => h) ?_ ?_
                rotate_left
                · (intro x hSw; (try dsimp only at hSw); go_simp; try with_reducible rfl)
                try simp only [Act.put, List.setIfInBounds_toArray, List.set_cons_zero, List.set_cons_succ]
              refine Pl.done_go ?_
              have hS3 := hSx.out w3 hbm'.out
              have hbw3 := Lib.hid (hbf.out.trans (hbm'.out.mono hbf.out.size))
              obtain ⟨p0, p1, p2, p3, _⟩ := hS3
              clear hS0
              go_wp2_with fail
              clear p0
              obtain ⟨m, hm⟩ := Int.eq_ofNat_of_zero_le (show 0 ≤ f.safe by omega)
              rw [hm] at p2
              have hlt' := Lib.hid hlt
              have hD3 := hDf'.out.below hbm'.out
              have hD3' := Lib.hid hD3
              have hbs3 := Lib.hid (hbs'.out.below hbm'.out)
              have hm' := Lib.hid hm
              have hT3 : Hid (w3.heap[T]? = some (.cells #[.string s, .slice A0 n0 c0, .int .i64 f.safe] 52)) := Lib.hid ((hbm'.out.block T (by have := hwfs'.out; omega)).trans hTblk.out)
              clear hD3 hm hfg hlt
              refine Pl.wp_region_plan 13 (.take 0 (.take 1 (.take 2 (.take 3 (.take 4 (.take 5 (.take 6 (.take 7 (.take 9 (.take 10 (.run 8 (.take 11 (.run 12 .done)))))))))))))
                (fun x => x.cell? ⟨T, 0, none⟩ = some (.string s) ∧ x.cell? ⟨T, 1, none⟩ = some (.slice A0 n0 c0) ∧ x.cell? ⟨T, 2, none⟩ = some (.int .i64 (m : Nat)) ∧ x.cell? ⟨b, 1, none⟩ = some (.map (some mb))) (by kernel_rfl) (by kernel_rfl) (by exact ⟨cell_blk hT3.out rfl, p1, p2, p3⟩) ?_
              simp only [Pl.fill, List.getElem?_cons_zero, List.getElem?_cons_succ, List.drop_succ_cons, List.drop_zero]
              iterate 10
                refine Pl.take_go ?_ (by rfl) (fun _ _ _ h => h) ?_ ?_
                rotate_left
                · (intro x hSw; (try dsimp only at hSw); go_simp; try with_reducible rfl)
                try simp only [Act.put, List.setIfInBounds_toArray, List.set_cons_zero, List.set_cons_succ]
              refine Pl.run_go (fun K hK => ?_)
              go_simp
              refine (clone_any A0 n0 c0 f.data w3.drew (hbs3.out.below (bD (Below.refl _ _))) (by omega)).mono ?_
              rintro e w4 ⟨v, rfl, ho4, hb4⟩
              have hb34 := (bD (Below.refl w3.heap.size w3)).trans (hb4.mono (by simp))
              have hT4 := (hb34.block T (Array.getElem?_eq_some_iff.1 hT3.out).1).trans hT3.out
              have hb34' := Lib.hid hb34
              have ho4' := Lib.hid (OwB.base ho4 (B' := w.heap.size) (by have := hbw3.out.size; simp; omega))
              have hD4 := Lib.hid (hD3'.out.below hb34)
              rw [hm'.out] at hT4
              obtain ⟨A4, c4, rfl⟩ : ∃ A c, v = .slice A n0 c := by
                obtain ⟨A4, c4, e4, _⟩ := OwB.slice ho4
                rw [hn0'.out] at e4
                exact ⟨A4, c4, e4⟩
              have hT4' := Lib.hid hT4
              clear hb4 ho4 hb34 hT4 p1 p2 p3
              dsimp only
              refine hK.out _ _ (Pl.more_go _ (fun _ h => h) (by exact ⟨cell_blk hT4'.out rfl, cell_blk hT4'.out rfl, cell_blk hT4'.out rfl, hD4.out.c1⟩) ?_)
              clear hK K
              iterate 1
                refine Pl.take_go ?_ (by rfl) (fun _ _ _ h => h) ?_ ?_
                rotate_left
                · (intro x hSw; (try dsimp only at hSw); go_simp; try with_reducible rfl)
                try simp only [Act.put, List.setIfInBounds_toArray, List.set_cons_zero, List.set_cons_succ]
              refine Pl.run_go (fun K hK => ?_)
              go_simp
              have hba := below_alloc w4 (.cells #[.slice A4 n0 c4, .int .i64 (m : Nat)] 65)
              have hnew := heap_alloc_new w4 (.cells #[.slice A4 n0 c4, .int .i64 (m : Nat)] 65)
              obtain ⟨V, hV⟩ : ∃ V, w4.heap.size = V := ⟨_, rfl⟩
              obtain ⟨w5, hw5⟩ : ∃ w5, w4.alloc (.cells #[.slice A4 n0 c4, .int .i64 (m : Nat)] 65) = w5 := ⟨_, rfl⟩
              rw [hw5] at hba hnew ⊢
              rw [hV] at hnew ⊢
              have hT5 := (hba.block T (Array.getElem?_eq_some_iff.1 hT4'.out).1).trans hT4'.out
              have hD5 := hD4.out.below hba
              have hB5 : w.heap.size ≤ V := by have h1 := hbw3.out.size; have h2 := hb34'.out.size; omega
              have hf5 : FileAt w5 w.heap.size V ⟨f.data, m⟩ := ⟨hB5, _, hnew, OwB.below ho4'.out hba⟩
              have hfr : ∀ p ∈ L, p.2 ≠ V := fun p hp => by have := (hD4.out.files p hp).lt; omega
              have hb5 := Lib.hid (hbw3.out.trans ((hb34'.out.mono (by have := hbw3.out.size; omega)).trans (hba.mono (by omega))))
              have hT5' := Lib.hid hT5
              have hD5' := Lib.hid hD5
              have hf5' := Lib.hid hf5
              have hfr' := Lib.hid hfr
              refine hK.out _ _ (Pl.more_go _ (fun _ h => h) (by exact ⟨cell_blk hT5 rfl, cell_blk hT5 rfl, cell_blk hT5 rfl, hD5.c1⟩) ?_)
              clear hK K hT5 hD5 hf5 hfr hba hnew hw5 hV hB5
              refine Pl.done_go ?_
              have hkey := WideMaps.keyOf_string_mk (P := Tryz.prog) Tryz.underlying9 (s := s) (by unfold maxLen; omega)
              have hdl : L.length < maxLen := by have := hLk.out; unfold maxLen; omega
              refine wpList_mapUpdate_own _ rfl _ _ _ 59 rfl 9 58 law_str Tryz.underlying59 ptrElem mb L.length (mp L) rfl hD5'.out.own hdl _ _ _ rfl rfl hkey (.lit (.int .i64 (V : Nat))) [] rfl ?_
              intro w6 h1 h2
              have hno6 : Dk.get L s.data.toList = none := by rw [← hnm'.out]; exact hG'.out
              have hD6 := hD5'.out.addF (n := _) hf5'.out hfr'.out hno6 h2 h1
              have hb6 := Lib.hid (hb5.out.trans (below_row h2 hD5'.out.base.2 hb5.out.size))
              have hD6' := Lib.hid hD6
              have hlen6 : Hid ((ins s.data.toList V L).length ≤ k + 1) := Lib.hid (by rw [ins_len]; have := hLk.out; omega)
              have hF6 : Hid (loadF (l.take (k + 1)) [] = some (ins s.data.toList ⟨f.data, m⟩ fs)) := Lib.hid (by
                rw [take_snoc hfk, loadF_append, hF.out]
                simp only [Option.bind_some]
                rw [loadF, if_neg, loadF, hnm'.out, hm'.out]
                · rfl
                · have e1 := hn0'.out
                  have e2 := hm'.out
                  rw [hgetd.out, hnm'.out, hmay]
                  simp
                  omega)
              clear h1 h2 hD6 hkey hdl hno6
              go_wp2_with fail
              go_roundw
              case rel => exact ⟨k + 1, _, _, _, by have := hlt'.out; omega, by go_num, hF6, hD6', hb6, hlen6⟩
              case measure => simp [intOf]; have := hlt'.out; omega
    · have hkn : k = n := by omega
      subst hkn
      have hFl : Hid (loadF l [] = some fs) := Lib.hid (by have := hF.out; rwa [List.take_of_length_le (by have := hl'.out; omega)] at this)
      have hub := loadF_used l [] fs hFl.out (fun f hf => (hsz'.out f hf).2)
      have hul : used fs ≤ 1000000000 := by rw [used_nil, hl'.out] at hub; have : k * 1000000 ≤ 1000 * 1000000 := Nat.mul_le_mul_right _ hn; omega
      clear hub
      have kr : wr.cell? ⟨b, 0, none⟩ = some (.int .i64 ((room.toNat : Nat) : Int)) := cell_blk hD.out.blk rfl
      have hkr : ∀ x, Below wr.heap.size wr x → x.cell? ⟨b, 0, none⟩ = some (.int .i64 ((room.toNat : Nat) : Int)) := fun x hx => cell_blk (hD.out.below hx).blk rfl
      have hkr' := Lib.hid hkr
      obtain ⟨R, hR⟩ : ∃ R, room.toNat = R := ⟨_, rfl⟩
      obtain ⟨U, hU⟩ : ∃ U, used fs = U := ⟨_, rfl⟩
      have hload : Hid (load l room = if 64 < k ∨ (R : Int) < U then none else some { new room with fs := fs }) := Lib.hid (by unfold load; rw [hFl.out]; show (if 64 < l.length ∨ (room.toNat : Int) < used fs then none else some _) = _; rw [hl'.out, hR, hU])
      rw [hR] at kr hkr'
      rw [hU] at hul
      have hU' := Lib.hid hU
      clear hkr hR hU
      by_cases h64 : 64 < k
      · have hno : Hid (load l room = none) := Lib.hid (by rw [hload.out, if_pos (.inl h64)])
        have d1 : decide ((64 : Int) < (k : Int)) = true := by rw [decide_eq_true_eq]; omega
        have d2 : decide (64 < k) = true := by simpa using h64
        go_wp2_with fail
        refine Pl.wp_region_plan 12 (.take 0 (.take 1 (.take 2 (.take 3 (.take 4 (.take 6 (.take 7 (.take 8 (.take 9 (.run 5 (.take 10 (.take 11 .done)))))))))))) (fun x => x.cell? ⟨b, 0, none⟩ = some (.int .i64 ((R : Nat) : Int))) (by kernel_rfl) (by kernel_rfl) (by exact hkr'.out _ (bD (Below.refl _ _))) ?_
        simp only [Pl.fill, List.getElem?_cons_zero, List.getElem?_cons_succ, List.drop_succ_cons, List.drop_zero]
        iterate 4
          refine Pl.take_go ?_ (by rfl) (fun _ _ _ h => h) ?_ ?_
          rotate_left
          · (intro x hSw; (try dsimp only at hSw); go_simp; try with_reducible rfl)
          try simp only [Act.put, List.setIfInBounds_toArray, List.set_cons_zero, List.set_cons_succ]
        iterate 5
          refine Pl.take_skip (by rfl) (fun _ _ _ h => h) ?_
          try simp only [Act.put, List.setIfInBounds_toArray, List.set_cons_zero, List.set_cons_succ]
        refine Pl.run_go (fun K hK => ?_)
        go_simp
        refine hK.out _ _ (Pl.more_go _ (fun _ h => h) (by exact hkr'.out _ (bD (Below.refl _ _))) ?_)
        clear hK K
        iterate 1
          refine Pl.take_skip (by rfl) (fun _ _ _ h => h) ?_
          try simp only [Act.put, List.setIfInBounds_toArray, List.set_cons_zero, List.set_cons_succ]
        iterate 1
          refine Pl.take_go ?_ (by rfl) (fun _ _ _ h => h) ?_ ?_
          rotate_left
          · (intro x hSw; (try dsimp only at hSw); go_simp; try with_reducible rfl)
          try simp only [Act.put, List.setIfInBounds_toArray, List.set_cons_zero, List.set_cons_succ]
        refine Pl.done_go ?_
        clear kr
        go_wp2_with fail
        go_ret2
        rw [hno.out]
        exact ⟨hb.out.trans (bD (Below.refl _ _) |>.mono hb.out.size), rfl⟩
      · have d1 : decide ((64 : Int) < (k : Int)) = false := by rw [decide_eq_false_iff_not]; omega
        have d2 : decide (64 < k) = false := by simpa using h64
        by_cases hru : R < U
        · have hno : Hid (load l room = none) := Lib.hid (by rw [hload.out, if_pos (.inr (by omega))])
          have d3 : decide (R < U) = true := by simpa using hru
          go_wp2_with fail
          refine Pl.wp_region_plan 12 (.take 0 (.take 1 (.take 2 (.take 3 (.take 4 (.take 6 (.take 7 (.take 8 (.take 9 (.run 5 (.take 10 (.take 11 .done)))))))))))) (fun x => x.cell? ⟨b, 0, none⟩ = some (.int .i64 ((R : Nat) : Int))) (by kernel_rfl) (by kernel_rfl) (by exact hkr'.out _ (bD (Below.refl _ _))) ?_
          simp only [Pl.fill, List.getElem?_cons_zero, List.getElem?_cons_succ, List.drop_succ_cons, List.drop_zero]
          iterate 9
            refine Pl.take_go ?_ (by rfl) (fun _ _ _ h => h) ?_ ?_
            rotate_left
            · (intro x hSw; (try dsimp only at hSw); go_simp; try with_reducible rfl)
            try simp only [Act.put, List.setIfInBounds_toArray, List.set_cons_zero, List.set_cons_succ]
          refine Pl.run_go (fun K hK => ?_)
          go_simp
          refine (Used_any _ _ _ _ _ _ _ _ (hD.out.below (bD (Below.refl _ _))) (by show used fs ≤ 1000000000; rw [hU'.out]; exact hul)).mono ?_
          rintro e w3 ⟨rfl, hb3⟩
          have hbu := Lib.hid ((bD (Below.refl wr.heap.size wr)).trans (hb3.mono (by simp)))
          clear hb3
          rw [show used ({ new room with fs := fs } : D).fs = U from hU'.out]
          dsimp only
          refine hK.out _ _ (Pl.more_go _ (fun _ h => h) (by exact hkr'.out _ hbu.out) ?_)
          clear hK K
          iterate 2
            refine Pl.take_go ?_ (by rfl) (fun _ _ _ h => h) ?_ ?_
            rotate_left
            · (intro x hSw; (try dsimp only at hSw); go_simp; try with_reducible rfl)
            try simp only [Act.put, List.setIfInBounds_toArray, List.set_cons_zero, List.set_cons_succ]
          refine Pl.done_go ?_
          clear kr
          go_wp2_with fail
          go_ret2
          rw [hno.out]
          exact ⟨hb.out.trans (hbu.out.mono hb.out.size), rfl⟩
        · have hyes : Hid (load l room = some { new room with fs := fs }) := Lib.hid (by rw [hload.out, if_neg (by omega)])
          have d3 : decide (R < U) = false := by simpa using hru
          go_wp2_with fail
          refine Pl.wp_region_plan 12 (.take 0 (.take 1 (.take 2 (.take 3 (.take 4 (.take 6 (.take 7 (.take 8 (.take 9 (.run 5 (.take 10 (.take 11 .done)))))))))))) (fun x => x.cell? ⟨b, 0, none⟩ = some (.int .i64 ((R : Nat) : Int))) (by kernel_rfl) (by kernel_rfl) (by exact hkr'.out _ (bD (Below.refl _ _))) ?_
          simp only [Pl.fill, List.getElem?_cons_zero, List.getElem?_cons_succ, List.drop_succ_cons, List.drop_zero]
          iterate 9
            refine Pl.take_go ?_ (by rfl) (fun _ _ _ h => h) ?_ ?_
            rotate_left
            · (intro x hSw; (try dsimp only at hSw); go_simp; try with_reducible rfl)
            try simp only [Act.put, List.setIfInBounds_toArray, List.set_cons_zero, List.set_cons_succ]
          refine Pl.run_go (fun K hK => ?_)
          go_simp
          refine (Used_any _ _ _ _ _ _ _ _ (hD.out.below (bD (Below.refl _ _))) (by show used fs ≤ 1000000000; rw [hU'.out]; exact hul)).mono ?_
          rintro e w3 ⟨rfl, hb3⟩
          have hbu := Lib.hid ((bD (Below.refl wr.heap.size wr)).trans (hb3.mono (by simp)))
          clear hb3
          rw [show used ({ new room with fs := fs } : D).fs = U from hU'.out]
          dsimp only
          refine hK.out _ _ (Pl.more_go _ (fun _ h => h) (by exact hkr'.out _ hbu.out) ?_)
          clear hK K
          iterate 2
            refine Pl.take_go ?_ (by rfl) (fun _ _ _ h => h) ?_ ?_
            rotate_left
            · (intro x hSw; (try dsimp only at hSw); go_simp; try with_reducible rfl)
            try simp only [Act.put, List.setIfInBounds_toArray, List.set_cons_zero, List.set_cons_succ]
          refine Pl.done_go ?_
          clear kr
          go_wp2_with fail
          go_ret2
          rw [hyes.out]
          exact ⟨hb.out.trans (hbu.out.mono hb.out.size), b, mb, rfl, L, F, hD.out.below hbu.out⟩
end Go.Proofs.YtjhiihmibleecaaGreatDoor.Dk
