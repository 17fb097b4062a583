/- Attrs, Same, Nodes, Docs of the document. Printed by xt_same.py. -/
import Derived.Test.YtokdnhdfmgfkeaaGreatDoorMXtLawD
namespace Go.Proofs.YtokdnhdfmgfkeaaGreatDoor.Xt
open Go.RowKit UtfW Xl

theorem strOf_inj {a b : Tx} (h : strOf a = strOf b) : a = b := by
  have := congrArg (fun x : ByteArray => x.data.toList) h
  simpa [strOf] using this
theorem str_ne {a b : Tx} (h : a ≠ b) : ((strOf a).toList == (strOf b).toList) = false := by
  rw [str_beq, decide_eq_false_iff_not]
  exact fun e => h (strOf_inj e)
theorem at_neq (w : World) (x1 y1 x2 y2 : ByteArray) : (binOp .neq 55 (.agg #[.string x1, .string y1]) (.agg #[.string x2, .string y2])).run Tryz.prog w = .ok (.bool (!((x1.toList == x2.toList) && (y1.toList == y2.toList)))) w := by
  have hS : Tryz.prog.underlying 55 = some (.struct (Tryz.prog.fieldsOf 55)) := by kernel_rfl
  have hp : Tryz.prog.stoodInHeld 55 = false := by kernel_rfl
  rw [run_neq_struct, show (10000 : Nat) = 9999 + 1 from rfl, run_equalIn_agg w 9999 55 _ _ hS hp]
  simp only [Program.fieldsOf, Tryz.underlying55]
  go_simp
  by_cases h1 : x1.toList = x2.toList <;> by_cases h2 : y1.toList = y2.toList <;> simp [h1, h2]
theorem at_neq_ (w : World) (a b : At) : (binOp .neq 55 (.agg #[.string (strOf a.1), .string (strOf a.2)]) (.agg #[.string (strOf b.1), .string (strOf b.2)])).run Tryz.prog w = .ok (.bool (decide (a ≠ b))) w := by
  rw [at_neq, str_beq, str_beq]
  congr 2
  rw [← Bool.decide_and, ← decide_not, decide_eq_decide]
  obtain ⟨a1, a2⟩ := a
  obtain ⟨b1, b2⟩ := b
  simp only [ne_eq, Prod.mk.injEq]
  constructor
  · rintro h ⟨rfl, rfl⟩
    exact h ⟨rfl, rfl⟩
  · rintro h ⟨e1, e2⟩
    exact h ⟨strOf_inj e1, strOf_inj e2⟩
theorem Sq.kept_ {α : Type} {El : World → List Value → α → Prop} {k : Nat} {w w' : World} {A : Option Addr} {n c : Nat} {l : List α} (h : Sq El k w A n c l) (hb : Below w.heap.size w w') (hE : ∀ vs x, El w vs x → El w' vs x) : Sq El k w' A n c l :=
  Sq.stay h (fun ad e hn => by
    obtain ⟨b, off, e2, hbl, _⟩ := h.cell hn
    rw [e] at e2
    injection e2 with e2
    rw [e2]
    exact hb.block b hbl) hE
set_option maxHeartbeats 4000000 in
set_option maxRecDepth 100000 in
theorem rattrs_any (w : World) (A1 A2 : Option Addr) (n1 n2 c1 c2 : Nat) (l1 l2 : List At) (h1 : Sq AtEl 2 w A1 n1 c1 l1) (h2 : Sq AtEl 2 w A2 n2 c2 l2) :
    Calls Tryz.prog 70 #[.slice A1 n1 c1, .slice A2 n2 c2] w fun e w' => (∃ B : Bool, e = .returned (.bool B) ∧ (B = true ↔ l1 = l2)) ∧ Below w.heap.size w w' := by
  have hl1 := h1.len
  have hl2 := h2.len
  have hm1 := h1.max
  have hle1 := h1.le
  replace h1 := Lib.hid h1
  replace h2 := Lib.hid h2
  by_cases hn : n1 = n2
  · subst hn
    replace hl1 := Lib.hid hl1
    replace hl2 := Lib.hid hl2
    go_enter Tryz.func70, Tryz.ntmps70
    go_wp2_with fail
    go_loopw [5] (fun v5 wr => ∃ i : Nat, i ≤ n1 ∧ v5 = .int .i64 (i : Nat) ∧ Hid (l1.take i = l2.take i) ∧ Hid (Below w.heap.size w wr)) (fun v5 _ => n1 - (intOf v5).toNat)
    case atStart => exact ⟨0, by omega, rfl, Lib.hid rfl, Lib.hid (Below.refl _ _)⟩
    case round =>
      obtain ⟨i, hi, rfl, hsame, hb⟩ := hrel
      by_cases hlt : i < n1
      · have i1 : decide ((i : Int) < (n1 : Int)) = true := by simp; omega
        have q1 : (i : Int) < (n1 : Int) := by omega
        obtain ⟨b1, off1, ax, vs1, rfl, _, hx1, _, hv1, hc1⟩ := (h1.out.below AtEl.to hb.out).at_ hlt
        obtain ⟨b2, off2, ay, vs2, rfl, _, hx2, _, hv2, hc2⟩ := (h2.out.below AtEl.to hb.out).at_ hlt
        unfold AtEl at hv1 hv2
        subst hv1
        subst hv2
        have m0 := hc1 0 _ rfl
        have m1 := hc1 1 _ rfl
        have m2 := hc2 0 _ rfl
        have m3 := hc2 1 _ rfl
        rw [Nat.add_zero] at m0 m2
        have hbd := Lib.hid (hb.out.trans ((Joins.below_draws wr.heap.size wr 1).mono hb.out.size))
        have hx1 := Lib.hid hx1
        have hx2 := Lib.hid hx2
        have hne := at_neq_ wr.drew ax ay
        clear hc1 hc2
        go_wp2_with fail
        refine Pl.wp_region_plan 8 (.take 0 (.take 1 (.take 2 (.take 3 (.take 4 (.take 5 (.take 6 (.take 7 .done)))))))) (fun x => x.cell? ⟨b1, off1 + i * 2, none⟩ = some (.string (strOf ax.1)) ∧ x.cell? ⟨b1, off1 + i * 2 + 1, none⟩ = some (.string (strOf ax.2)) ∧ x.cell? ⟨b2, off2 + i * 2, none⟩ = some (.string (strOf ay.1)) ∧ x.cell? ⟨b2, off2 + i * 2 + 1, none⟩ = some (.string (strOf ay.2))) (by kernel_rfl) (by kernel_rfl) (by exact ⟨m0, m1, m2, m3⟩) ?_
        simp only [Pl.fill, List.getElem?_cons_zero, List.getElem?_cons_succ, List.drop_succ_cons, List.drop_zero]
        iterate 8
          refine Pl.take_go ?_ (by rfl) (fun _ _ _ h => h) ?_ ?_
          rotate_left
          · (intro x hSw; (try dsimp only at hSw); go_simp; try with_reducible rfl)
          try simp only [Act.put, List.setIfInBounds_toArray, List.set_cons_zero, List.set_cons_succ]
        refine Pl.done_go ?_
        by_cases hxy : ax = ay
        · have hnext : Hid (l1.take (i + 1) = l2.take (i + 1)) := Lib.hid (by rw [take_snoc hx1.out, take_snoc hx2.out, hsame.out, hxy])
          subst hxy
          have hd : decide (ax ≠ ax) = false := by simp
          rw [hd] at hne
          clear hd
          go_wp2_with fail
          go_roundw
          case rel => exact ⟨i + 1, by omega, by go_num, hnext, hbd⟩
          case measure => simp [intOf]; omega
        · have hd : decide (ax ≠ ay) = true := by simpa using hxy
          rw [hd] at hne
          have hno : Hid (l1 ≠ l2) := Lib.hid fun e => by
            rw [e] at hx1
            have h3 := hx1.out.symm.trans hx2.out
            injection h3 with h3
            exact hxy h3
          by_cases e1 : ax.1 = ay.1
          · have e2 : ax.2 ≠ ay.2 := fun e => hxy (Prod.ext e1 e)
            have f1 : (strOf ax.1).toList = (strOf ay.1).toList := by rw [e1]
            have f2 : ¬ (strOf ax.2).toList = (strOf ay.2).toList := by
              have := str_ne e2
              simpa using this
            clear hd hxy e1 e2
            go_wp2_with fail
            (try simp only [Exit.inBlock, Exit.then])
            go_ret
            exact ⟨⟨false, rfl, by simpa using hno.out⟩, hbd.out⟩
          · have f1 : ¬ (strOf ax.1).toList = (strOf ay.1).toList := by
              have := str_ne e1
              simpa using this
            clear hd hxy e1
            go_wp2_with fail
            (try simp only [Exit.inBlock, Exit.then])
            go_ret
            exact ⟨⟨false, rfl, by simpa using hno.out⟩, hbd.out⟩
      · have i1 : decide ((i : Int) < (n1 : Int)) = false := by simp; omega
        have hyes : Hid (l1 = l2) := Lib.hid (by
          have h3 := hsame.out
          rwa [List.take_of_length_le (by rw [hl1.out]; omega), List.take_of_length_le (by rw [hl2.out]; omega)] at h3)
        go_wp2_with fail
        (try simp only [Exit.inBlock, Exit.then])
        go_ret
        exact ⟨⟨true, rfl, by simpa using hyes.out⟩, hb.out⟩
  · have d1 : ((n1 : Int) != (n2 : Int)) = true := bne_iff_ne.2 (fun e => hn (by omega))
    have hno : Hid (l1 ≠ l2) := Lib.hid fun e => hn (by rw [← hl1, ← hl2, e])
    clear hl1 hl2
    go_enter Tryz.func70, Tryz.ntmps70
    go_wp2_with fail
    go_ret
    exact ⟨⟨false, rfl, by simpa using hno.out⟩, Below.refl _ _⟩
set_option maxHeartbeats 8000000 in
set_option maxRecDepth 100000 in
theorem rsame_any : ∀ (k : Nat) (X Y : Nat → Prop) (w : World) (vs us : List Value) (n m : Nd), SizeOf.sizeOf n ≤ k → NdI X w vs n → NdI Y w us m → (∀ j, X j → j < w.heap.size) → (∀ j, Y j → j < w.heap.size) →
    Calls Tryz.prog 37 #[.agg vs.toArray, .agg us.toArray] w fun e w' => (∃ B : Bool, e = .returned (.bool B) ∧ (B = true ↔ n = m)) ∧ Below w.heap.size w w' := by
  intro k
  induction k with
  | zero =>
    intro X Y w vs us n m hk
    obtain ⟨kd, nm, tx, as_, ks⟩ := n
    simp at hk
  | succ k ih =>
    intro X Y w vs us n m hk hn hm hX hY
    obtain ⟨kd, nm, tx, as_, ks⟩ := n
    obtain ⟨kd', nm', tx', as', ks'⟩ := m
    obtain ⟨A, ca, A2, c2, rfl, hA, hK, -, -⟩ := hn.cells
    obtain ⟨B, cb, B2, d2, rfl, hA', hK', -, -⟩ := hm.cells
    have hba := below_alloc w (.cells #[.int .i64 kd, .string (strOf nm), .string (strOf tx), .slice A as_.length ca, .slice A2 ks.length c2] 25)
    have hnb := heap_alloc_new w (.cells #[.int .i64 kd, .string (strOf nm), .string (strOf tx), .slice A as_.length ca, .slice A2 ks.length c2] 25)
    obtain ⟨T, hT⟩ : ∃ T, w.heap.size = T := ⟨_, rfl⟩
    obtain ⟨w1, hw1⟩ : ∃ w1, w.alloc (.cells #[.int .i64 kd, .string (strOf nm), .string (strOf tx), .slice A as_.length ca, .slice A2 ks.length c2] 25) = w1 := ⟨_, rfl⟩
    rw [hw1] at hba hnb
    rw [hT] at hnb
    have hbb := below_alloc w1 (.cells #[.int .i64 kd', .string (strOf nm'), .string (strOf tx'), .slice B as'.length cb, .slice B2 ks'.length d2] 25)
    have hnc := heap_alloc_new w1 (.cells #[.int .i64 kd', .string (strOf nm'), .string (strOf tx'), .slice B as'.length cb, .slice B2 ks'.length d2] 25)
    obtain ⟨U, hU⟩ : ∃ U, w1.heap.size = U := ⟨_, rfl⟩
    obtain ⟨w2, hw2⟩ : ∃ w2, w1.alloc (.cells #[.int .i64 kd', .string (strOf nm'), .string (strOf tx'), .slice B as'.length cb, .slice B2 ks'.length d2] 25) = w2 := ⟨_, rfl⟩
    rw [hw2] at hbb hnc
    rw [hU] at hnc
    have hb02 := hba.trans (hbb.mono hba.size)
    have hnb2 := (hbb.block T (Array.getElem?_eq_some_iff.1 hnb).1).trans hnb
    have x0 : w2.cell? ⟨T, 0, none⟩ = some (.int .i64 kd) := cell_blk hnb2 rfl
    have x1 : w2.cell? ⟨T, 1, none⟩ = some (.string (strOf nm)) := cell_blk hnb2 rfl
    have x2 : w2.cell? ⟨T, 2, none⟩ = some (.string (strOf tx)) := cell_blk hnb2 rfl
    have x3 : w2.cell? ⟨T, 3, none⟩ = some (.slice A as_.length ca) := cell_blk hnb2 rfl
    have x4 : w2.cell? ⟨T, 4, none⟩ = some (.slice A2 ks.length c2) := cell_blk hnb2 rfl
    have y0 : w2.cell? ⟨U, 0, none⟩ = some (.int .i64 kd') := cell_blk hnc rfl
    have y1 : w2.cell? ⟨U, 1, none⟩ = some (.string (strOf nm')) := cell_blk hnc rfl
    have y2 : w2.cell? ⟨U, 2, none⟩ = some (.string (strOf tx')) := cell_blk hnc rfl
    have y3 : w2.cell? ⟨U, 3, none⟩ = some (.slice B as'.length cb) := cell_blk hnc rfl
    have y4 : w2.cell? ⟨U, 4, none⟩ = some (.slice B2 ks'.length d2) := cell_blk hnc rfl
    have hkid : Hid (∀ i x, ks[i]? = some x → SizeOf.sizeOf x ≤ k) := Lib.hid fun i x hx => by
      have := kid_lt (k := kd) (nm := nm) (tx := tx) (as_ := as_) hx
      omega
    have hATT := Lib.hid (rattrs_any w2 A B as_.length as'.length ca cb as_ as' (hA.below AtEl.to hb02) (hA'.below AtEl.to hb02))
    replace ih := Lib.hid ih
    replace hK := Lib.hid hK
    replace hK' := Lib.hid hK'
    replace hX := Lib.hid hX
    replace hY := Lib.hid hY
    replace hb02 := Lib.hid hb02
    have hTl := Lib.hid hnb2
    have hUl := Lib.hid hnc
    clear hba hbb hnb hnc hnb2 hA hA' hn hm hk
    obtain ⟨S1, hS1⟩ : ∃ S, strOf nm = S := ⟨_, rfl⟩
    obtain ⟨S2, hS2⟩ : ∃ S, strOf nm' = S := ⟨_, rfl⟩
    obtain ⟨S3, hS3⟩ : ∃ S, strOf tx = S := ⟨_, rfl⟩
    obtain ⟨S4, hS4⟩ : ∃ S, strOf tx' = S := ⟨_, rfl⟩
    rw [hS1] at x1
    rw [hS2] at y1
    rw [hS3] at x2
    rw [hS4] at y2
    have t1 : (S1.toList == S2.toList) = decide (nm = nm') := by
      rw [str_beq, ← hS1, ← hS2, decide_eq_decide]
      exact ⟨strOf_inj, fun e => by rw [e]⟩
    have t2 : (S3.toList == S4.toList) = decide (tx = tx') := by
      rw [str_beq, ← hS3, ← hS4, decide_eq_decide]
      exact ⟨strOf_inj, fun e => by rw [e]⟩
    clear hS1 hS2 hS3 hS4
    obtain ⟨n1, hn1⟩ : ∃ n1, ks.length = n1 := ⟨_, rfl⟩
    obtain ⟨n2, hn2⟩ : ∃ n2, ks'.length = n2 := ⟨_, rfl⟩
    rw [hn1] at x4 hK
    rw [hn2] at y4 hK'
    have hK1 := hK.out.max
    have hK2 := hK.out.le
    replace hn1 := Lib.hid hn1
    replace hn2 := Lib.hid hn2
    by_cases e0 : kd = kd'
    · subst e0
      have k0 : (kd != kd) = false := by simp
      by_cases e1 : nm = nm'
      · subst e1
        have k1 : (S1.toList == S2.toList) = true := by rw [t1]; simp
        by_cases e2 : tx = tx'
        · subst e2
          have k2 : (S3.toList == S4.toList) = true := by rw [t2]; simp
          clear t1 t2
          go_enter Tryz.func37, Tryz.ntmps37
          go_wp2_with fail
          refine hATT.out.mono ?_
          rintro e w3 ⟨⟨BA, rfl, hBA⟩, hb3⟩
          by_cases e3 : as_ = as'
          · subst e3
            have hBt : BA = true := hBA.2 rfl
            subst hBt
            have x4 := cell_keep x4 hb3
            have y4 := cell_keep y4 hb3
            have hTl3 := Lib.hid ((hb3.block T (Array.getElem?_eq_some_iff.1 hTl.out).1).trans hTl.out)
            have hUl3 := Lib.hid ((hb3.block U (Array.getElem?_eq_some_iff.1 hUl.out).1).trans hUl.out)
            have hb03 := Lib.hid (hb02.out.trans (hb3.mono hb02.out.size))
            clear hb3 hBA
            by_cases e4 : n1 = n2
            · subst e4
              have k4 : ((n1 : Int) != (n1 : Int)) = false := by simp
              go_wp2_with fail
              go_loopw [5] (fun v5 wr => ∃ i : Nat, i ≤ n1 ∧ v5 = .int .i64 (i : Nat) ∧ Hid (ks.take i = ks'.take i) ∧ Hid (Below w3.heap.size w3 wr)) (fun v5 _ => n1 - (intOf v5).toNat)
              case atStart => exact ⟨0, Nat.zero_le _, rfl, Lib.hid rfl, Lib.hid (Below.refl _ _)⟩
              case round =>
                obtain ⟨i, hi, rfl, hsame, hb⟩ := hrel
                have hb0r := Lib.hid (hb03.out.trans (hb.out.mono hb03.out.size))
                have z4 := cell_keep x4 hb.out
                have z5 := cell_keep y4 hb.out
                by_cases hlt : i < n1
                · have i1 : decide ((i : Int) < (n1 : Int)) = true := by simp; omega
                  have q1 : (i : Int) < (n1 : Int) := by omega
                  have hKr := Sq.kept_ hK.out hb0r.out (fun vs x h => NdI.later h hX.out hb0r.out)
                  have hKr' := Sq.kept_ hK'.out hb0r.out (fun vs x h => NdI.later h hY.out hb0r.out)
                  obtain ⟨b1, off1, x, vs1, rfl, _, hx1, _, hv1, hc1⟩ := hKr.at_ hlt
                  obtain ⟨b2, off2, y, vs2, rfl, _, hx2, _, hv2, hc2⟩ := hKr'.at_ hlt
                  have hszx := hkid.out i x hx1
                  obtain ⟨xk, xn, xt, xa, xs⟩ := x
                  obtain ⟨yk, yn, yt, ya, ys⟩ := y
                  obtain ⟨Ax, cax, A2x, c2x, rfl, -⟩ := hv1.cells
                  obtain ⟨Bx, cbx, B2x, d2x, rfl, -⟩ := hv2.cells
                  have m0 := hc1 0 _ rfl
                  have m1 := hc1 1 _ rfl
                  have m2 := hc1 2 _ rfl
                  have m3 := hc1 3 _ rfl
                  have m4 := hc1 4 _ rfl
                  have p0 := hc2 0 _ rfl
                  have p1 := hc2 1 _ rfl
                  have p2 := hc2 2 _ rfl
                  have p3 := hc2 3 _ rfl
                  have p4 := hc2 4 _ rfl
                  rw [Nat.add_zero] at m0 p0
                  have hdr := Joins.below_draws wr.heap.size wr 1
                  have hX1 : ∀ j, X j → j < wr.heap.size := fun j hj => Nat.lt_of_lt_of_le (hX.out j hj) hb0r.out.size
                  have hY1 : ∀ j, Y j → j < wr.heap.size := fun j hj => Nat.lt_of_lt_of_le (hY.out j hj) hb0r.out.size
                  have hrec := Lib.hid (ih.out X Y wr.drew _ _ _ _ hszx (NdI.later hv1 hX1 hdr) (NdI.later hv2 hY1 hdr) (fun j hj => Nat.lt_of_lt_of_le (hX1 j hj) hdr.size) (fun j hj => Nat.lt_of_lt_of_le (hY1 j hj) hdr.size))
                  have hbd := Lib.hid (hb.out.trans (hdr.mono hb.out.size))
                  replace hx1 := Lib.hid hx1
                  replace hx2 := Lib.hid hx2
                  clear hKr hKr' hv1 hv2 hc1 hc2 hdr hX1 hY1 hszx
                  go_wp2_with fail
                  refine Pl.wp_region_plan 10 (.take 0 (.take 1 (.take 2 (.take 3 (.take 4 (.take 5 (.take 6 (.take 7 (.take 8 (.take 9 .done)))))))))) (fun x => x.cell? ⟨T, 4, none⟩ = some (.slice (some ⟨b1, off1, none⟩) n1 c2) ∧ x.cell? ⟨U, 4, none⟩ = some (.slice (some ⟨b2, off2, none⟩) n1 d2) ∧ x.cell? ⟨b1, off1 + i * 5, none⟩ = some (.int .i64 xk) ∧ x.cell? ⟨b1, off1 + i * 5 + 1, none⟩ = some (.string (strOf xn)) ∧ x.cell? ⟨b1, off1 + i * 5 + 2, none⟩ = some (.string (strOf xt)) ∧ x.cell? ⟨b1, off1 + i * 5 + 3, none⟩ = some (.slice Ax xa.length cax) ∧ x.cell? ⟨b1, off1 + i * 5 + 4, none⟩ = some (.slice A2x xs.length c2x) ∧ x.cell? ⟨b2, off2 + i * 5, none⟩ = some (.int .i64 yk) ∧ x.cell? ⟨b2, off2 + i * 5 + 1, none⟩ = some (.string (strOf yn)) ∧ x.cell? ⟨b2, off2 + i * 5 + 2, none⟩ = some (.string (strOf yt)) ∧ x.cell? ⟨b2, off2 + i * 5 + 3, none⟩ = some (.slice Bx ya.length cbx) ∧ x.cell? ⟨b2, off2 + i * 5 + 4, none⟩ = some (.slice B2x ys.length d2x)) (by kernel_rfl) (by kernel_rfl) (by exact ⟨z4, z5, m0, m1, m2, m3, m4, p0, p1, p2, p3, p4⟩) ?_
                  simp only [Pl.fill, List.getElem?_cons_zero, List.getElem?_cons_succ, List.drop_succ_cons, List.drop_zero]
                  iterate 10
                    refine Pl.take_go ?_ (by rfl) (fun _ _ _ h => h) ?_ ?_
                    rotate_left
                    · (intro x hSw; (try dsimp only at hSw); go_simp; try with_reducible rfl)
                    try simp only [Act.put, List.setIfInBounds_toArray, List.set_cons_zero, List.set_cons_succ]
                  refine Pl.done_go ?_
                  go_wp2_with fail
                  refine hrec.out.mono ?_
                  rintro e w5 ⟨⟨BB, rfl, hBB⟩, hb5⟩
                  have hw5 := Lib.hid (hbd.out.trans (hb5.mono hbd.out.size))
                  have hw05 := Lib.hid (hb03.out.trans (hw5.out.mono hb03.out.size))
                  clear hb5 m0 m1 m2 m3 m4 p0 p1 p2 p3 p4
                  cases BB with
                  | true =>
                    have hxy := hBB.1 rfl
                    have hnext : Hid (ks.take (i + 1) = ks'.take (i + 1)) := Lib.hid (by rw [take_snoc hx1.out, take_snoc hx2.out, hsame.out, hxy])
                    clear hBB hxy
                    go_wp2_with fail
                    go_roundw
                    case rel => exact ⟨i + 1, by omega, by go_num, hnext, hw5⟩
                    case measure => simp [intOf]; omega
                  | false =>
                    have hno : Hid (Nd.mk kd nm tx as_ ks ≠ Nd.mk kd nm tx as_ ks') := Lib.hid fun e => by
                      injection e with _ _ _ _ e
                      rw [e] at hx1
                      have h3 := hx1.out.symm.trans hx2.out
                      injection h3 with h3
                      exact absurd (hBB.2 h3) (by decide)
                    clear hBB
                    go_wp2_with fail
                    (try simp only [Exit.inBlock, Exit.then])
                    go_ret
                    exact ⟨⟨false, rfl, by simpa using hno.out⟩, hw05.out⟩
                · have i1 : decide ((i : Int) < (n1 : Int)) = false := by simp; omega
                  have hyes : Hid (ks = ks') := Lib.hid (by
                    have h3 := hsame.out
                    rwa [List.take_of_length_le (by rw [hn1.out]; omega), List.take_of_length_le (by rw [hn2.out]; omega)] at h3)
                  go_wp2_with fail
                  (try simp only [Exit.inBlock, Exit.then])
                  go_ret
                  exact ⟨⟨true, rfl, by simpa using hyes.out⟩, hb0r.out⟩
            · have k4 : ((n1 : Int) != (n2 : Int)) = true := bne_iff_ne.2 (fun e => e4 (by omega))
              have hno : Hid (Nd.mk kd nm tx as_ ks ≠ Nd.mk kd nm tx as_ ks') := Lib.hid fun e => by
                injection e with _ _ _ _ e
                exact e4 (by rw [← hn1.out, ← hn2.out, e])
              go_wp2_with fail
              go_ret
              exact ⟨⟨false, rfl, by simpa using hno.out⟩, hb03.out⟩
          · have hBf : BA = false := by
              cases BA with
              | false => rfl
              | true => exact absurd (hBA.1 rfl) e3
            subst hBf
            have hno : Hid (Nd.mk kd nm tx as_ ks ≠ Nd.mk kd nm tx as' ks') := Lib.hid fun e => by
              injection e with _ _ _ e _
              exact e3 e
            have hb03 := Lib.hid (hb02.out.trans (hb3.mono hb02.out.size))
            clear hb3 hBA
            go_wp2_with fail
            go_ret
            exact ⟨⟨false, rfl, by simpa using hno.out⟩, hb03.out⟩
        · have k2 : (S3.toList == S4.toList) = false := by rw [t2]; simpa using e2
          have hno : Hid (Nd.mk kd nm tx as_ ks ≠ Nd.mk kd nm tx' as' ks') := Lib.hid fun e => by
            injection e with _ _ e _ _
            exact e2 e
          clear t1 t2
          go_enter Tryz.func37, Tryz.ntmps37
          go_wp2_with fail
          go_ret
          exact ⟨⟨false, rfl, by simpa using hno.out⟩, hb02.out⟩
      · have k1 : (S1.toList == S2.toList) = false := by rw [t1]; simpa using e1
        have hno : Hid (Nd.mk kd nm tx as_ ks ≠ Nd.mk kd nm' tx' as' ks') := Lib.hid fun e => by
          injection e with _ e _ _ _
          exact e1 e
        clear t1 t2
        go_enter Tryz.func37, Tryz.ntmps37
        go_wp2_with fail
        go_ret
        exact ⟨⟨false, rfl, by simpa using hno.out⟩, hb02.out⟩
    · have k0 : (kd != kd') = true := by simpa using e0
      have hno : Hid (Nd.mk kd nm tx as_ ks ≠ Nd.mk kd' nm' tx' as' ks') := Lib.hid fun e => by
        injection e with e _ _ _ _
        exact e0 e
      clear t1 t2
      go_enter Tryz.func37, Tryz.ntmps37
      go_wp2_with fail
      go_ret
      exact ⟨⟨false, rfl, by simpa using hno.out⟩, hb02.out⟩
end Go.Proofs.YtokdnhdfmgfkeaaGreatDoor.Xt
