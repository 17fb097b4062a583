/- The document's Load. -/
import Derived.Test.YtjhiihmibleecaaGreatDoorDkRi
import Derived.Test.YtjhiihmibleecaaGreatDoorDkLoad
namespace Go.Proofs.YtjhiihmibleecaaGreatDoor.Dk
open Go.RowKit

/-- The document's disk, or none. -/
def LdR (W : World) (X : Option D) (e : Ending) (w' : World) : Prop := Below W.heap.size W w' ∧
  match X with
  | none => e = .returned (.tuple #[.pointer none, .int .i64 80])
  | some d => ∃ b lv tv, e = .returned (.tuple #[.pointer (some ⟨b, 0, none⟩), .int .i64 0]) ∧ Ra w' W.heap.size b lv tv d

set_option maxHeartbeats 4000000 in
set_option maxRecDepth 100000 in
theorem rLoad_any (w : World) (A : Option Addr) (n c : Nat) (l : List In) (room : Int) (h : Sq FeEl 3 w A n c l) (hn : n ≤ 1000) (hsz : ∀ f ∈ l, f.nm.length ≤ 1000 ∧ f.data.length ≤ 1000000) (hroom : room ≤ 9223372036854775807) :
    Calls Tryz.prog 8 #[.slice A n c, .int .i64 room] w (LdR w (load l room)) := by
  have hnew := rNew_any w room
  have hl := h.len
  have hle := h.le
  have hmx := h.max
  have h' := Lib.hid h
  have hsz' := Lib.hid hsz
  have hl' := Lib.hid hl
  clear h hsz hl
  go_enter Tryz.func8, Tryz.ntmps8
  go_wp2_with fail
  refine hnew.mono ?_
  rintro e w1 ⟨b, rfl, hD, hb1⟩
  have hst : Hid (Ra w1 w.heap.size b (.slice none 0 0) (.slice none 0 0) (new room)) := Lib.hid (hD.out _ (Nat.le_refl _))
  have hb1' := Lib.hid hb1
  clear hnew hD hb1
  go_wp2_with fail
  go_loopw [7] (fun i wr => ∃ (k : Nat) (fs : Fs) (lv tv : Value), k ≤ n ∧ i = .int .i64 k ∧ Hid (loadF (l.take k) [] = some fs) ∧ Hid (Ra wr w.heap.size b lv tv { new room with fs := fs }) ∧ Hid (Below w.heap.size w wr)) (fun i _ => n - (intOf i).toNat)
  case atStart => exact ⟨0, [], _, _, by omega, rfl, Lib.hid rfl, hst, hb1'⟩
  case round =>
    obtain ⟨k, fs, lv, tv, hk, rfl, hF, hR, hb⟩ := hrel
    have hinv : Hid (Up fs ∧ fs.length = k ∧ (∀ p ∈ fs, may p.1 = true) ∧ used fs ≤ 1000000000) := Lib.hid (by
      obtain ⟨i1, i2, i3, i4⟩ := loadF_inv _ _ _ hF.out List.Pairwise.nil (fun p hp => by cases hp) (fun p hp => by cases hp)
      have hlk : (l.take k).length = k := by rw [List.length_take]; have := hl'.out; omega
      have hu := loadF_used _ _ _ hF.out (fun f hf => (hsz'.out f (List.mem_of_mem_take hf)).2)
      rw [hlk] at hu i4
      refine ⟨i1, by simpa using i4, i3, ?_⟩
      have : used ([] : Fs) = 0 := rfl
      have : k * 1000000 ≤ 1000 * 1000000 := Nat.mul_le_mul_right _ (by omega)
      omega)
    by_cases hlt : k < n
    · obtain ⟨ab, off, f, vs, rfl, hab, hfk, hvs, hel, hcs⟩ := (h'.out.below (fun vs x => FeEl.below hb.out vs x) hb.out).at_ hlt
      obtain ⟨s, A0, n0, c0, rfl, hnm, hbs⟩ := hel
      have k0 : wr.cell? ⟨ab, off + k * 3, none⟩ = some (.string s) := hcs 0 _ rfl
      have k1 : wr.cell? ⟨ab, off + k * 3 + 1, none⟩ = some (.slice A0 n0 c0) := hcs 1 _ rfl
      have k2 : wr.cell? ⟨ab, off + k * 3 + 2, none⟩ = some (.int .i64 f.safe) := hcs 2 _ rfl
      have hfg : l[k]'(by rw [hl'.out]; exact hlt) = f := by
        rw [List.getElem?_eq_getElem (by rw [hl'.out]; exact hlt)] at hfk
        injection hfk
      have hmemf := List.mem_of_getElem? hfk
      obtain ⟨hz1, hz2⟩ := hsz'.out f hmemf
      have hss : s.size ≤ 1000 := by rw [hnm, Array.length_toList] at hz1; exact hz1
      have hba := below_alloc wr (.cells #[.string s, .slice A0 n0 c0, .int .i64 f.safe] 52)
      have hnew := heap_alloc_new wr (.cells #[.string s, .slice A0 n0 c0, .int .i64 f.safe] 52)
      obtain ⟨T, hT⟩ : ∃ T, wr.heap.size = T := ⟨_, rfl⟩
      obtain ⟨wf, hwf⟩ : ∃ wf, wr.alloc (.cells #[.string s, .slice A0 n0 c0, .int .i64 f.safe] 52) = wf := ⟨_, rfl⟩
      have hRf := hR.out.below hba
      have hbs' := hbs.below hba
      rw [hwf] at hba hnew hRf hbs'
      rw [hT] at hnew
      have t0 : wf.cell? ⟨T, 0, none⟩ = some (.string s) := cell_blk hnew rfl
      have t1 : wf.cell? ⟨T, 1, none⟩ = some (.slice A0 n0 c0) := cell_blk hnew rfl
      have t2 : wf.cell? ⟨T, 2, none⟩ = some (.int .i64 f.safe) := cell_blk hnew rfl
      have hat := rAt_any wf w.heap.size b lv tv { new room with fs := fs } hRf s
      have hmy := Lib.hid (May_any s (by omega) wf)
      have hbf : Hid (Below w.heap.size w wf) := Lib.hid (hb.out.trans (hba.mono hb.out.size))
      have hn0 : f.data.length = n0 := hbs.len
      have hRf' := Lib.hid hRf
      have hbs'' := Lib.hid hbs'
      have hdrop : Hid (loadF l [] = loadF (l.drop k) fs) := Lib.hid (loadF_take l k [] fs hF.out)
      have hcons : Hid (l.drop k = f :: l.drop (k + 1)) := Lib.hid (by rw [List.drop_eq_getElem_cons (by rw [hl'.out]; exact hlt), hfg])
      have hnn : Hid (∀ P : Prop, P → ((Dk.get fs f.nm).isSome ∨ may f.nm = false ∨ f.safe < 0 ∨ (f.data.length : Int) < f.safe) → load l room = none) := Lib.hid fun _ _ hc => by
        unfold load
        rw [hdrop.out, hcons.out, loadF, if_pos hc]
      have hnm' := Lib.hid hnm
      have hfk' := Lib.hid hfk
      have hn0' := Lib.hid hn0
      have hn9 : n0 ≤ 1000000 := by omega
      have i0 : (0 : Int) ≤ (k : Int) := by omega
      have i1 : (k : Int) < (n : Int) := by omega
      have hw0 := Lib.hid hwf
      clear hcs hvs hfg hmemf hz1 hz2 hba hnew hRf hbs hbs' hn0 hab hfk hnm
      rcases atI_get (fs := fs) (nm := s.data.toList) with ⟨e1, e2⟩ | ⟨i, f9, e1, e2, e3⟩
      · have e1' : atI ({ new room with fs := fs } : D).fs s.data.toList = -1 := e1
        rw [e1'] at hat
        have hat' := Lib.hid hat
        have e2' := Lib.hid e2
        clear e1 e1' e2 hat
        cases hmay : may s.data.toList with
        | false =>
          have hno := Lib.hid (hnn.out True trivial (.inr (.inl (by rw [hnm'.out]; exact hmay))))
          rw [hmay] at hmy
          clear hmay
          go_wp2_with fail
          refine hat'.out.mono ?_
          rintro e w3 ⟨rfl, rfl⟩
          go_wp2_with fail
          refine hmy.out.mono ?_
          rintro e w3 ⟨rfl, rfl⟩
          go_wp2_with fail
          go_ret2
          rw [hno.out]
          exact ⟨hbf.out, rfl⟩
        | true =>
          rw [hmay] at hmy
          by_cases hs0 : f.safe < 0
          · have d0 : decide (f.safe < 0) = true := by rw [decide_eq_true_eq]; exact hs0
            have hno := Lib.hid (hnn.out True trivial (.inr (.inr (.inl hs0))))
            clear hmay hs0
            go_wp2_with fail
            refine hat'.out.mono ?_
            rintro e w3 ⟨rfl, rfl⟩
            go_wp2_with fail
            refine hmy.out.mono ?_
            rintro e w3 ⟨rfl, rfl⟩
            go_wp2_with fail
            go_ret2
            rw [hno.out]
            exact ⟨hbf.out, rfl⟩
          · have d0 : decide (f.safe < 0) = false := by rw [decide_eq_false_iff_not]; exact hs0
            by_cases hs1 : (n0 : Int) < f.safe
            · have d1 : decide (f.safe > (n0 : Int)) = true := by rw [decide_eq_true_eq]; exact hs1
              have d2 : decide ((n0 : Int) < f.safe) = true := d1
              have hno := Lib.hid (hnn.out True trivial (.inr (.inr (.inr (by rw [hn0'.out]; exact hs1)))))
              clear hmay hs0 hs1
              go_wp2_with fail
              refine hat'.out.mono ?_
              rintro e w3 ⟨rfl, rfl⟩
              go_wp2_with fail
              refine hmy.out.mono ?_
              rintro e w3 ⟨rfl, rfl⟩
              go_wp2_with fail
              go_ret2
              rw [hno.out]
              exact ⟨hbf.out, rfl⟩
            · have d1 : decide (f.safe > (n0 : Int)) = false := by rw [decide_eq_false_iff_not]; exact hs1
              have d2 : decide ((n0 : Int) < f.safe) = false := d1
              obtain ⟨m, hm⟩ := Int.eq_ofNat_of_zero_le (show 0 ≤ f.safe by omega)
              have hput := rPut_any wf w.heap.size b lv tv { new room with fs := fs } hRf'.out s (by omega) A0 n0 c0 f.data hbs''.out (by omega) m (get_none.1 e2'.out) (fun p hp => by have := may_len (hinv.out.2.2.1 p hp); omega) (by have := hinv.out.2.1; show fs.length ≤ _; omega)
              have hput' : Hid (Calls Tryz.prog 31 #[.pointer (some ⟨b, 0, none⟩), .agg #[.string s, .slice A0 n0 c0, .int .i64 f.safe]] wf fun e w' => e = .returned (.tuple #[]) ∧ Rs w.heap.size b { new room with fs := ins s.data.toList ⟨f.data, m⟩ fs } wf w' ∧ wf.grownBy w' (some b)) := Lib.hid (by rw [hm]; exact hput)
              have hF2 : Hid (loadF (l.take (k + 1)) [] = some (ins s.data.toList ⟨f.data, m⟩ fs)) := Lib.hid (by
                rw [take_snoc hfk'.out, loadF_append, hF.out]
                show loadF [f] fs = _
                rw [loadF, if_neg (by
                  rw [hnm'.out, e2'.out]
                  rintro (h | h | h | h)
                  · simp at h
                  · rw [hmay] at h; cases h
                  · exact hs0 h
                  · rw [hn0'.out] at h; exact hs1 h), hnm'.out]
                have : f.safe.toNat = m := by omega
                rw [this]
                rfl)
              clear hmay hs0 hs1 hput hm
              go_wp2_with fail
              refine hat'.out.mono ?_
              rintro e w3 ⟨rfl, rfl⟩
              go_wp2_with fail
              refine hmy.out.mono ?_
              rintro e w3 ⟨rfl, rfl⟩
              go_wp2_with fail
              refine hput'.out.mono ?_
              rintro e w4 ⟨rfl, ⟨hb4, _, lv4, tv4, hr4⟩, _⟩
              have hb4' := Lib.hid (hbf.out.trans hb4)
              have hr4' := Lib.hid hr4
              clear hb4 hr4
              go_wp2_with fail
              go_roundw
              case rel => exact ⟨k + 1, _, lv4, tv4, by omega, by go_num, hF2, hr4', hb4'⟩
              case measure => simp [intOf]; omega
      · have e1' : atI ({ new room with fs := fs } : D).fs s.data.toList = (i : Nat) := e1
        rw [e1'] at hat
        have hno := Lib.hid (hnn.out True trivial (.inl (by rw [hnm'.out, e3]; rfl)))
        have j1 : decide ((i : Int) ≥ 0) = true := by rw [decide_eq_true_eq]; omega
        have hat' := Lib.hid hat
        clear e1 e1' e2 e3 hat
        go_wp2_with fail
        refine hat'.out.mono ?_
        rintro e w3 ⟨rfl, rfl⟩
        go_wp2_with fail
        go_ret2
        rw [hno.out]
        exact ⟨hbf.out, rfl⟩
    · have hkn : k = n := by omega
      have hFl : Hid (loadF l [] = some fs) := Lib.hid (by have := hF.out; rw [List.take_of_length_le (by have := hl'.out; omega)] at this; exact this)
      have c0 : wr.cell? ⟨b, 0, none⟩ = some (.int .i64 ((new room).room : Nat)) := cell_blk hR.out.blk rfl
      have hus := Lib.hid (rUsed_any wr.drew w.heap.size b lv tv { new room with fs := fs } (hR.out.below (bD (Below.refl _ _))) hinv.out.2.2.2)
      have hbd : Hid (Below w.heap.size w wr.drew) := Lib.hid (hb.out.trans (bD (Below.refl _ _)))
      have hRd : Hid (Ra wr.drew w.heap.size b lv tv { new room with fs := fs }) := Lib.hid (hR.out.below (bD (Below.refl _ _)))
      obtain ⟨rm, hrm⟩ : ∃ rm, (new room).room = rm := ⟨_, rfl⟩
      obtain ⟨us, hus2⟩ : ∃ us, used fs = us := ⟨_, rfl⟩
      have hus3 : Hid (Calls Tryz.prog 14 #[.pointer (some ⟨b, 0, none⟩)] wr.drew fun e w' => e = .returned (.int .i64 (us : Nat)) ∧ wr.drew = w') := Lib.hid (by rw [← hus2]; exact hus.out)
      have hld : Hid (load l room = if 64 < n ∨ rm < us then none else some { new room with fs := fs }) := Lib.hid (by
        unfold load
        rw [hFl.out]
        have e1 : ((64 < l.length ∨ (room.toNat : Int) < (used fs : Int)) ↔ (64 < n ∨ rm < us)) := by
          rw [hl'.out, ← hrm, ← hus2]
          show _ ↔ (64 < n ∨ room.toNat < used fs)
          omega
        simp only [e1])
      rw [hrm] at c0
      clear hkn hus hrm hus2 hF hR hb hinv
      by_cases h64 : 64 < n
      · have d0 : decide ((n : Int) > 64) = true := by rw [decide_eq_true_eq]; omega
        have d1 : decide (64 < n) = true := by rw [decide_eq_true_eq]; omega
        have hno : Hid (load l room = none) := Lib.hid (by rw [hld.out, if_pos (.inl h64)])
        clear h64
        go_wp2_with fail
        refine Pl.wp_region_plan 12 (.take 0 (.take 1 (.take 2 (.take 3 (.take 4 (.take 6 (.take 7 (.take 8 (.take 9 (.run 5 (.take 10 (.take 11 .done)))))))))))) (fun x => x.cell? ⟨b, 0, none⟩ = some (.int .i64 (rm : Nat))) (by kernel_rfl) (by kernel_rfl) (by exact c0) ?_
        simp only [Pl.fill, List.getElem?_cons_zero, List.getElem?_cons_succ, List.drop_succ_cons, List.drop_zero]
        iterate 1
          refine Pl.take_go ?_ (by rfl) (fun _ _ _ h => h) ?_ ?_
          rotate_left
          · (intro x hSw; (try dsimp only at hSw); go_simp; try with_reducible rfl)
          try simp only [Act.put, List.setIfInBounds_toArray, List.set_cons_zero, List.set_cons_succ]
        iterate 1
          refine Pl.take_go ?_ (by rfl) (fun _ _ _ h => h) ?_ ?_
          rotate_left
          · (intro x hSw; (try dsimp only at hSw); go_simp; try with_reducible rfl)
          try simp only [Act.put, List.setIfInBounds_toArray, List.set_cons_zero, List.set_cons_succ]
        iterate 1
          refine Pl.take_go ?_ (by rfl) (fun _ _ _ h => h) ?_ ?_
          rotate_left
          · (intro x hSw; (try dsimp only at hSw); go_simp; try with_reducible rfl)
          try simp only [Act.put, List.setIfInBounds_toArray, List.set_cons_zero, List.set_cons_succ]
        iterate 1
          refine Pl.take_go ?_ (by rfl) (fun _ _ _ h => h) ?_ ?_
          rotate_left
          · (intro x hSw; (try dsimp only at hSw); go_simp; try with_reducible rfl)
          try simp only [Act.put, List.setIfInBounds_toArray, List.set_cons_zero, List.set_cons_succ]
        iterate 1
          refine Pl.take_skip (by rfl) (fun _ _ _ h => h) ?_
          try simp only [Act.put, List.setIfInBounds_toArray, List.set_cons_zero, List.set_cons_succ]
        iterate 1
          refine Pl.take_skip (by rfl) (fun _ _ _ h => h) ?_
          try simp only [Act.put, List.setIfInBounds_toArray, List.set_cons_zero, List.set_cons_succ]
        iterate 1
          refine Pl.take_skip (by rfl) (fun _ _ _ h => h) ?_
          try simp only [Act.put, List.setIfInBounds_toArray, List.set_cons_zero, List.set_cons_succ]
        iterate 1
          refine Pl.take_skip (by rfl) (fun _ _ _ h => h) ?_
          try simp only [Act.put, List.setIfInBounds_toArray, List.set_cons_zero, List.set_cons_succ]
        iterate 1
          refine Pl.take_skip (by rfl) (fun _ _ _ h => h) ?_
          try simp only [Act.put, List.setIfInBounds_toArray, List.set_cons_zero, List.set_cons_succ]
        refine Pl.run_go (fun K hK => ?_)
        go_simp
        refine hK.out _ _ (Pl.more_go _ (fun _ h => h) (by exact c0) ?_)
        clear hK K
        try simp only [Act.put, List.setIfInBounds_toArray, List.set_cons_zero, List.set_cons_succ]
        iterate 1
          refine Pl.take_skip (by rfl) (fun _ _ _ h => h) ?_
          try simp only [Act.put, List.setIfInBounds_toArray, List.set_cons_zero, List.set_cons_succ]
        iterate 1
          refine Pl.take_go ?_ (by rfl) (fun _ _ _ h => h) ?_ ?_
          rotate_left
          · (intro x hSw; (try dsimp only at hSw); go_simp; try with_reducible rfl)
          try simp only [Act.put, List.setIfInBounds_toArray, List.set_cons_zero, List.set_cons_succ]
        refine Pl.done_go ?_
        go_wp2_with fail
        go_ret2
        rw [hno.out]
        exact ⟨hbd.out, rfl⟩
      · have d0 : decide ((n : Int) > 64) = false := by rw [decide_eq_false_iff_not]; omega
        have d1 : decide (64 < n) = false := by rw [decide_eq_false_iff_not]; omega
        have hgo : ∀ cnd : Bool, decide ((us : Int) > (rm : Int)) = cnd → load l room = (if cnd = true then none else some { new room with fs := fs }) := fun cnd hc => by
          rw [hld.out]
          cases cnd with
          | true => rw [decide_eq_true_eq] at hc; rw [if_pos (.inr (by omega)), if_pos rfl]
          | false => rw [decide_eq_false_iff_not] at hc; rw [if_neg (by omega), if_neg (by decide)]
        obtain ⟨cnd, hc⟩ : ∃ cnd, decide ((us : Int) > (rm : Int)) = cnd := ⟨_, rfl⟩
        have hgo' := Lib.hid (hgo cnd hc)
        have hc2 : decide ((rm : Int) < (us : Int)) = cnd := hc
        have hc3 : decide (rm < us) = cnd := by rw [← hc]; simp
        clear hgo h64
        go_wp2_with fail
        refine Pl.wp_region_plan 12 (.take 0 (.take 1 (.take 2 (.take 3 (.take 4 (.take 6 (.take 7 (.take 8 (.take 9 (.run 5 (.take 10 (.take 11 .done)))))))))))) (fun x => x.cell? ⟨b, 0, none⟩ = some (.int .i64 (rm : Nat))) (by kernel_rfl) (by kernel_rfl) (by exact c0) ?_
        simp only [Pl.fill, List.getElem?_cons_zero, List.getElem?_cons_succ, List.drop_succ_cons, List.drop_zero]
        iterate 1
          refine Pl.take_go ?_ (by rfl) (fun _ _ _ h => h) ?_ ?_
          rotate_left
          · (intro x hSw; (try dsimp only at hSw); go_simp; try with_reducible rfl)
          try simp only [Act.put, List.setIfInBounds_toArray, List.set_cons_zero, List.set_cons_succ]
        iterate 1
          refine Pl.take_go ?_ (by rfl) (fun _ _ _ h => h) ?_ ?_
          rotate_left
          · (intro x hSw; (try dsimp only at hSw); go_simp; try with_reducible rfl)
          try simp only [Act.put, List.setIfInBounds_toArray, List.set_cons_zero, List.set_cons_succ]
        iterate 1
          refine Pl.take_go ?_ (by rfl) (fun _ _ _ h => h) ?_ ?_
          rotate_left
          · (intro x hSw; (try dsimp only at hSw); go_simp; try with_reducible rfl)
          try simp only [Act.put, List.setIfInBounds_toArray, List.set_cons_zero, List.set_cons_succ]
        iterate 1
          refine Pl.take_go ?_ (by rfl) (fun _ _ _ h => h) ?_ ?_
          rotate_left
          · (intro x hSw; (try dsimp only at hSw); go_simp; try with_reducible rfl)
          try simp only [Act.put, List.setIfInBounds_toArray, List.set_cons_zero, List.set_cons_succ]
        iterate 1
          refine Pl.take_go ?_ (by rfl) (fun _ _ _ h => h) ?_ ?_
          rotate_left
          · (intro x hSw; (try dsimp only at hSw); go_simp; try with_reducible rfl)
          try simp only [Act.put, List.setIfInBounds_toArray, List.set_cons_zero, List.set_cons_succ]
        iterate 1
          refine Pl.take_go ?_ (by rfl) (fun _ _ _ h => h) ?_ ?_
          rotate_left
          · (intro x hSw; (try dsimp only at hSw); go_simp; try with_reducible rfl)
          try simp only [Act.put, List.setIfInBounds_toArray, List.set_cons_zero, List.set_cons_succ]
        iterate 1
          refine Pl.take_go ?_ (by rfl) (fun _ _ _ h => h) ?_ ?_
          rotate_left
          · (intro x hSw; (try dsimp only at hSw); go_simp; try with_reducible rfl)
          try simp only [Act.put, List.setIfInBounds_toArray, List.set_cons_zero, List.set_cons_succ]
        iterate 1
          refine Pl.take_go ?_ (by rfl) (fun _ _ _ h => h) ?_ ?_
          rotate_left
          · (intro x hSw; (try dsimp only at hSw); go_simp; try with_reducible rfl)
          try simp only [Act.put, List.setIfInBounds_toArray, List.set_cons_zero, List.set_cons_succ]
        iterate 1
          refine Pl.take_go ?_ (by rfl) (fun _ _ _ h => h) ?_ ?_
          rotate_left
          · (intro x hSw; (try dsimp only at hSw); go_simp; try with_reducible rfl)
          try simp only [Act.put, List.setIfInBounds_toArray, List.set_cons_zero, List.set_cons_succ]
        refine Pl.run_go (fun K hK => ?_)
        go_simp
        refine hus3.out.mono ?_
        rintro e w3 ⟨rfl, rfl⟩
        dsimp only
        refine hK.out _ _ (Pl.more_go _ (fun _ h => h) (by exact c0) ?_)
        clear hK K
        try simp only [Act.put, List.setIfInBounds_toArray, List.set_cons_zero, List.set_cons_succ]
        iterate 1
          refine Pl.take_go ?_ (by rfl) (fun _ _ _ h => h) ?_ ?_
          rotate_left
          · (intro x hSw; (try dsimp only at hSw); go_simp; try with_reducible rfl)
          try simp only [Act.put, List.setIfInBounds_toArray, List.set_cons_zero, List.set_cons_succ]
        iterate 1
          refine Pl.take_go ?_ (by rfl) (fun _ _ _ h => h) ?_ ?_
          rotate_left
          · (intro x hSw; (try dsimp only at hSw); go_simp; try with_reducible rfl)
          try simp only [Act.put, List.setIfInBounds_toArray, List.set_cons_zero, List.set_cons_succ]
        refine Pl.done_go ?_
        cases cnd with
        | true =>
          have hno : Hid (load l room = none) := hgo'
          go_wp2_with fail
          go_ret2
          rw [hno.out]
          exact ⟨hbd.out, rfl⟩
        | false =>
          have hno : Hid (load l room = some { new room with fs := fs }) := hgo'
          go_wp2_with fail
          go_ret2
          rw [hno.out]
          exact ⟨hbd.out, b, lv, tv, rfl, hRd.out⟩
end Go.Proofs.YtjhiihmibleecaaGreatDoor.Dk
