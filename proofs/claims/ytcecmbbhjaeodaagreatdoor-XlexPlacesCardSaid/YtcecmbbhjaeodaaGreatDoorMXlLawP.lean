/- XlexPlaces. Printed by xl_lawp.py. -/
import Derived.Test.YtcecmbbhjaeodaaGreatDoorMXlLawR
import Derived.Test.YtcecmbbhjaeodaaGreatDoorMXlSize
import Derived.Test.YtcecmbbhjaeodaaGreatDoorMXlRname
namespace Go.Proofs.YtcecmbbhjaeodaaGreatDoor.Xl
open Go.RowKit UtfW Er

section
variable (w : World) (A : Option Addr) (n c : Nat) (S : Tx)
set_option maxHeartbeats 8000000 in
set_option maxRecDepth 100000 in
theorem places_law (hBs : Bs w A n c S) (hU : Un w) (hE : En w.heap.size w) :
    Calls Tryz.prog 4 #[.slice A n c] w fun e w' => e = .returned (.bool true) ∧ Below w.heap.size w w' := by
  have hSl : S.length = n := hBs.len
  have hU' := Lib.hid hU
  have hE' := Lib.hid hE
  have hBs' := Lib.hid hBs
  go_enter Tryz.func4, Tryz.ntmps4
  go_wp2_with fail
  refine (awake_any w hU hE).mono ?_
  rintro e w1 ⟨rfl, hb1⟩
  have hb1' := Lib.hid hb1
  clear hb1 hU hE hBs
  by_cases hlen : 8192 < n
  · have i0 : decide ((8192 : Int) < (n : Int)) = true := by simp; omega
    go_wp2_with fail
    (try simp only [Exit.inBlock, Exit.then])
    go_ret
    exact ⟨rfl, hb1'.out⟩
  have i0 : decide ((8192 : Int) < (n : Int)) = false := by simp; omega
  have hlen' : n ≤ 8192 := by omega
  clear hlen
  go_wp2_with fail
  refine (All_any w1 (hU'.out.below hb1'.out) _ n c S (hBs'.out.below hb1'.out) (by omega)).mono ?_
  intro e w2 h2
  obtain ⟨cd, p, ts, hall⟩ : ∃ cd p ts, allF S = (cd, p, ts) := ⟨_, _, _, rfl⟩
  by_cases hcd : cd = 0
  · subst hcd
    obtain ⟨hb2, A2, c2, rfl, ho2⟩ := h2.ok hall
    have hx2 := Lib.hid (hb1'.out.trans (hb2.mono hb1'.out.size))
    have ho2' := Lib.hid ho2
    obtain ⟨hea, hnx⟩ := places hall
    have hsz := Lib.hid (allF_out hall)
    have hea' := Lib.hid hea
    have hnx' := Lib.hid hnx
    have hN := (OwS.sq' ho2 (by decide)).max
    have hN2 := (OwS.sq' ho2 (by decide)).le
    clear h2 hb2 ho2 hea hnx hall hb1'
    go_wp2_with fail
    refine (Code_ok w2).mono ?_
    rintro e w3 ⟨rfl, hb3⟩
    have hx3 := Lib.hid (hx2.out.trans (hb3.mono hx2.out.size))
    have ho3 := Lib.hid (ho2'.out.below hb3)
    clear hb3 ho2' hx2
    go_wp2_with fail
    go_loopw [5, 6, 7] (fun v5 _ _ wr => ∃ i : Nat, i ≤ ts.length ∧ v5 = .int .i64 (i : Nat) ∧ Hid (OwTk wr w1.heap.size (.slice A2 ts.length c2) ts) ∧ Hid (Below w.heap.size w wr)) (fun v5 _ _ _ => ts.length - (intOf v5).toNat)
    case atStart => exact ⟨0, by omega, rfl, ho3, hx3⟩
    case round =>
      clear ho3 hx3
      obtain ⟨i, hi, rfl, hos, hb⟩ := hrel
      by_cases hlt : i < ts.length
      · have i1 : decide ((i : Int) < (ts.length : Int)) = true := by simp; omega
        have q1 : (i : Int) < (ts.length : Int) := by omega
        have hti : ts[i]? = some ts[i] := List.getElem?_eq_getElem hlt
        generalize ts[i] = t at hti
        obtain ⟨b1, off1, At, ct, rfl, _, k0, k1, k2, k3, k4, hats⟩ := tk_at hos.out hti
        have hmt := List.mem_of_getElem? hti
        have hNa := (OwS.sq' hats (by decide)).max
        have hNb := (OwS.sq' hats (by decide)).le
        have hok := hea'.out t hmt
        have hsz2 := hsz.out t hmt
        have htn : t.at_ < n := by have := hok.lt; omega
        have hkd := hok.v.kind
        have htx : t.text.length ≤ 100000 := by have := hsz2.text; omega
        have htnm : t.name.length ≤ 100000 := by have := hsz2.name; omega
        obtain ⟨bA, offA, uA, rfl, _, huA, hcA⟩ := Rd.at_ hBs'.out htn
        obtain ⟨wa, hwa⟩ : ∃ wa, wr.alloc (.cells #[.int .i64 (t.kind : Nat), .int .i64 (t.at_ : Nat), .string (strOf t.name), .string (strOf t.text), .slice At t.attrs.length ct] 39) = wa := ⟨_, rfl⟩
        have hn1 := tb_new wr (t.kind : Nat) (t.at_ : Nat) (strOf t.name) (strOf t.text) (.slice At t.attrs.length ct)
        have hba := below_alloc wr (.cells #[.int .i64 (t.kind : Nat), .int .i64 (t.at_ : Nat), .string (strOf t.name), .string (strOf t.text), .slice At t.attrs.length ct] 39)
        rw [hwa] at hn1 hba
        obtain ⟨tb, htb⟩ : ∃ tb, wr.heap.size = tb := ⟨_, rfl⟩
        rw [htb] at hn1
        obtain ⟨bdt, cbt, wt, hcvt, hbst, hbt⟩ := conv_bytes wa t.text (by omega)
        have hT0 := Lib.hid hn1
        have c0 := hn1.cell 0
        have c1 := hn1.cell 1
        have c3 := hn1.cell 3
        simp only [List.getElem?_toArray, List.getElem?_cons_zero, List.getElem?_cons_succ] at c0 c1 c3
        have hbst' := Lib.hid hbst
        have hxa := Lib.hid (hb.out.trans (hba.mono hb.out.size))
        have hxt := Lib.hid (hxa.out.trans (hbt.mono hxa.out.size))
        have hTt := Lib.hid (hn1.below hbt)
        have hat := Lib.hid ((hats.below hba AtEl.to).below hbt AtEl.to)
        have hot := Lib.hid ((hos.out.below hba).below hbt)
        have hok' := Lib.hid hok
        have hsz' := Lib.hid hsz2
        have huA' := Lib.hid huA
        have hcA' := Lib.hid hcA
        have hti' := Lib.hid hti
        have i2 : decide ((t.at_ : Int) < 0) = false := decide_eq_false (by omega)
        have i3 : decide (n ≤ t.at_) = false := decide_eq_false (by omega)
        have i4 : decide (t.kind < 1) = false := decide_eq_false (by omega)
        have i5 : decide (7 < t.kind) = false := decide_eq_false (by omega)
        clear hn1 hbst hba hbt hats hok hsz2 huA hcA hti hmt
        go_wp2_with fail
        refine (refBad_any _ t.text.length cbt t.text (by omega) wt hbst'.out).mono ?_
        rintro e w4 ⟨rfl, hb4⟩
        rw [Qx.badW_V hok'.out.v.text]
        have hx4 := Lib.hid (hxt.out.trans (hb4.mono hxt.out.size))
        have hT4 := Lib.hid (hTt.out.below hb4)
        have ha4 := Lib.hid (hat.out.below hb4 AtEl.to)
        have ho4 := Lib.hid (hot.out.below hb4)
        clear hb4 hbst' hxt hTt hat hot hxa hwa hcvt c0 c1 c3 k0 k1 k2 k3 k4 i2 i3 i4 i5 htb
        have c0 := hT4.out.cell 0
        have c1 := hT4.out.cell 1
        simp only [List.getElem?_toArray, List.getElem?_cons_zero, List.getElem?_cons_succ] at c0 c1
        go_upto_region 14 with fail
        go_cut [87] (fun v wx => v = .bool false ∧ Hid (Below w4.heap.size w4 wx))
        case first =>
          by_cases hi0 : i = 0
          · have g0 : decide (0 < i) = false := decide_eq_false (by omega)
            go_big_quiet (fail)
            go_wp2_with fail
            go_meet
            exact ⟨rfl, Lib.hid (Joins.below_draws _ _ _)⟩
          · obtain ⟨i', rfl⟩ : ∃ i', i = i' + 1 := ⟨i - 1, by omega⟩
            have g0 : decide (0 < i' + 1) = true := decide_eq_true (by omega)
            have hta : ts[i']? = some (ts[i']'(by omega)) := List.getElem?_eq_getElem (by omega)
            generalize ts[i']'(by omega) = a at hta
            obtain ⟨b1', off1', At', ct', he, _, p0, p1, _, _, _, _⟩ := tk_at ho4.out hta
            simp only [Option.some.injEq, Addr.mk.injEq, and_true] at he
            obtain ⟨rfl, rfl⟩ := he
            obtain ⟨hn1, hn2⟩ := hnx'.out i' a t hta hti'.out
            have g1 : decide (t.at_ ≤ a.at_) = false := decide_eq_false (by omega)
            have g2 : IntKind.i64.wrap (((i' + 1 : Nat) : Int) - 1) = (i' : Int) := by rw [IntWalk.i64_in _ (by omega)]; omega
            have g3 : ((i' : Int) + 1 - 1) = (i' : Int) := by omega
            have g4 : (i' : Int) < (ts.length : Int) := by omega
            by_cases hak : a.kind = 4
            · have htk : t.kind ≠ 4 := fun h => hn2 ⟨hak, h⟩
              have e1 : ((a.kind : Int) == 4) = true := by rw [beq_iff_eq]; omega
              have e2 : ((t.kind : Int) == 4) = false := by rw [beq_eq_false_iff_ne]; omega
              clear hak htk hi0 hn1 hn2 hta
              go_big_quiet (fail)
              go_wp2_with fail
              go_meet
              exact ⟨rfl, Lib.hid (Joins.below_draws _ _ _)⟩
            · have e1 : ((a.kind : Int) == 4) = false := by rw [beq_eq_false_iff_ne]; omega
              clear hak hi0 hn1 hn2 hta
              go_big_quiet (fail)
              go_wp2_with fail
              go_meet
              exact ⟨rfl, Lib.hid (Joins.below_draws _ _ _)⟩
        obtain ⟨rfl, hbc⟩ := hcut
        rename World => w5
        clear c0 c1
        have hx5 := Lib.hid (hx4.out.trans (hbc.out.mono hx4.out.size))
        have hT5 := Lib.hid (hT4.out.below hbc.out)
        have ha5 := Lib.hid (ha4.out.below hbc.out AtEl.to)
        have ho5 := Lib.hid (ho4.out.below hbc.out)
        clear hbc hT4 ha4 ho4 hx4
        have c0 := hT5.out.cell 0
        have c1 := hT5.out.cell 1
        have c2 := hT5.out.cell 2
        simp only [List.getElem?_toArray, List.getElem?_cons_zero, List.getElem?_cons_succ] at c0 c1 c2
        have htn' : (t.at_ : Int) < (n : Int) := by omega
        go_upto_region 16 with fail
        go_cut [122] (fun v wx => v = .bool false ∧ Hid (Below w5.heap.size w5 wx))
        case first =>
          have hdr : Hid (Below w5.heap.size w5 w5.drew) := Lib.hid (Joins.below_draws w5.heap.size w5 1)
          have hnl : (strOf t.name).data.toList = t.name := by simp [strOf]
          have hc60 : Hid (t.kind ≠ 4 → ∀ x, Below w5.heap.size w5 x → x.cell? ⟨bA, offA + t.at_, none⟩ = some (.int .u8 60)) := Lib.hid fun h4 x hx => by
            have h60 := hok'.out.tag h4
            obtain ⟨y, hy, hu⟩ := bv_get huA'.out
            rw [h60] at hy
            injection hy with hy
            subst hy
            rw [hu] at hcA'
            exact cell_keep hcA'.out (hx5.out.trans (hx.mono hx5.out.size))
          have h7 : t.kind = 1 ∨ t.kind = 2 ∨ t.kind = 3 ∨ t.kind = 4 ∨ t.kind = 5 ∨ t.kind = 6 ∨ t.kind = 7 := by omega
          clear c0 c1 c2 i1
          rcases h7 with hk | hk | hk | hk | hk | hk | hk
          · have hnm : nameR t.name = true := by rw [hok'.out.v.name, hk]; rfl
            have hq : Hid (∀ x, Below w5.heap.size w5 x → x.cell? ⟨tb, 0, none⟩ = some (.int .i64 1) ∧ x.cell? ⟨tb, 1, none⟩ = some (.int .i64 (t.at_ : Nat)) ∧ x.cell? ⟨tb, 2, none⟩ = some (.string (strOf t.name)) ∧ x.cell? ⟨bA, offA + t.at_, none⟩ = some (.int .u8 60)) := Lib.hid fun x hx => by
              have e0 := (hT5.out.below hx).cell 0
              rw [hk] at e0
              exact ⟨e0, (hT5.out.below hx).cell 1, (hT5.out.below hx).cell 2, hc60.out (by omega) x hx⟩
            clear hk hc60
            refine Pl.wp_region_plan 33 (.take 0 (.take 1 (.take 2 (.take 3 (.take 4 (.take 5 (.take 6 (.take 7 (.take 8 (.take 9 (.take 10 (.take 11 (.take 12 (.take 13 (.take 14 (.take 15 (.take 16 (.take 17 (.take 18 (.take 19 (.take 20 (.take 21 (.take 22 (.take 23 (.take 24 (.take 25 (.take 26 (.take 27 (.take 28 (.take 29 (.take 30 (.take 31 (.run 32 .done))))))))))))))))))))))))))))))))) (fun x => Below w5.heap.size w5 x) (by kernel_rfl) (by kernel_rfl) (by exact hdr.out) ?_
            simp only [Pl.fill, List.getElem?_cons_zero, List.getElem?_cons_succ, List.drop_succ_cons, List.drop_zero]
            iterate 32
              first
              | (refine Pl.take_go ?_ (by rfl) (fun _ _ _ h => h) ?_ ?_
                 rotate_left
                 · (intro x hSw; obtain ⟨s0, s1, s2, s3⟩ := hq.out x hSw; go_simp; try with_reducible rfl)
                 (try simp only [Act.put, List.setIfInBounds_toArray, List.set_cons_zero, List.set_cons_succ]))
              | (refine Pl.take_skip (by rfl) (fun _ _ _ h => h) ?_
                 (try simp only [Act.put, List.setIfInBounds_toArray, List.set_cons_zero, List.set_cons_succ]))
            refine Pl.run_go (fun K hK => ?_)
            go_simp
            refine (refName_any (strOf t.name) (by rw [strOf_size']; omega) _).mono ?_
            rintro e w6 ⟨rfl, hb6⟩
            rw [hnl, hnm]
            have hb6' := Lib.hid (hdr.out.trans (hb6.mono hdr.out.size))
            dsimp only
            refine hK.out _ _ (Pl.more_go (fun x => Below w6.heap.size w6 x) (fun x hx => hb6'.out.trans (hx.mono hb6'.out.size)) (Below.refl _ _) ?_)
            clear hK K
            try simp only [Act.put, List.setIfInBounds_toArray, List.set_cons_zero, List.set_cons_succ]
            refine Pl.done_go ?_
            go_wp2_with fail
            go_meet
            exact ⟨rfl, hb6'⟩
          · have hnm : nameR t.name = true := by rw [hok'.out.v.name, hk]; rfl
            have hq : Hid (∀ x, Below w5.heap.size w5 x → x.cell? ⟨tb, 0, none⟩ = some (.int .i64 2) ∧ x.cell? ⟨tb, 1, none⟩ = some (.int .i64 (t.at_ : Nat)) ∧ x.cell? ⟨tb, 2, none⟩ = some (.string (strOf t.name)) ∧ x.cell? ⟨bA, offA + t.at_, none⟩ = some (.int .u8 60)) := Lib.hid fun x hx => by
              have e0 := (hT5.out.below hx).cell 0
              rw [hk] at e0
              exact ⟨e0, (hT5.out.below hx).cell 1, (hT5.out.below hx).cell 2, hc60.out (by omega) x hx⟩
            clear hk hc60
            refine Pl.wp_region_plan 33 (.take 0 (.take 1 (.take 2 (.take 3 (.take 4 (.take 5 (.take 6 (.take 7 (.take 8 (.take 9 (.take 10 (.take 11 (.take 12 (.take 13 (.take 14 (.take 15 (.take 16 (.take 17 (.take 18 (.take 19 (.take 20 (.take 21 (.take 22 (.take 23 (.take 24 (.take 25 (.take 26 (.take 27 (.take 28 (.take 29 (.take 30 (.take 31 (.run 32 .done))))))))))))))))))))))))))))))))) (fun x => Below w5.heap.size w5 x) (by kernel_rfl) (by kernel_rfl) (by exact hdr.out) ?_
            simp only [Pl.fill, List.getElem?_cons_zero, List.getElem?_cons_succ, List.drop_succ_cons, List.drop_zero]
            iterate 32
              first
              | (refine Pl.take_go ?_ (by rfl) (fun _ _ _ h => h) ?_ ?_
                 rotate_left
                 · (intro x hSw; obtain ⟨s0, s1, s2, s3⟩ := hq.out x hSw; go_simp; try with_reducible rfl)
                 (try simp only [Act.put, List.setIfInBounds_toArray, List.set_cons_zero, List.set_cons_succ]))
              | (refine Pl.take_skip (by rfl) (fun _ _ _ h => h) ?_
                 (try simp only [Act.put, List.setIfInBounds_toArray, List.set_cons_zero, List.set_cons_succ]))
            refine Pl.run_go (fun K hK => ?_)
            go_simp
            refine (refName_any (strOf t.name) (by rw [strOf_size']; omega) _).mono ?_
            rintro e w6 ⟨rfl, hb6⟩
            rw [hnl, hnm]
            have hb6' := Lib.hid (hdr.out.trans (hb6.mono hdr.out.size))
            dsimp only
            refine hK.out _ _ (Pl.more_go (fun x => Below w6.heap.size w6 x) (fun x hx => hb6'.out.trans (hx.mono hb6'.out.size)) (Below.refl _ _) ?_)
            clear hK K
            try simp only [Act.put, List.setIfInBounds_toArray, List.set_cons_zero, List.set_cons_succ]
            refine Pl.done_go ?_
            go_wp2_with fail
            go_meet
            exact ⟨rfl, hb6'⟩
          · have hnm : nameR t.name = true := by rw [hok'.out.v.name, hk]; rfl
            have hq : Hid (∀ x, Below w5.heap.size w5 x → x.cell? ⟨tb, 0, none⟩ = some (.int .i64 3) ∧ x.cell? ⟨tb, 1, none⟩ = some (.int .i64 (t.at_ : Nat)) ∧ x.cell? ⟨tb, 2, none⟩ = some (.string (strOf t.name)) ∧ x.cell? ⟨bA, offA + t.at_, none⟩ = some (.int .u8 60)) := Lib.hid fun x hx => by
              have e0 := (hT5.out.below hx).cell 0
              rw [hk] at e0
              exact ⟨e0, (hT5.out.below hx).cell 1, (hT5.out.below hx).cell 2, hc60.out (by omega) x hx⟩
            clear hk hc60
            refine Pl.wp_region_plan 33 (.take 0 (.take 1 (.take 2 (.take 3 (.take 4 (.take 5 (.take 6 (.take 7 (.take 8 (.take 9 (.take 10 (.take 11 (.take 12 (.take 13 (.take 14 (.take 15 (.take 16 (.take 17 (.take 18 (.take 19 (.take 20 (.take 21 (.take 22 (.take 23 (.take 24 (.take 25 (.take 26 (.take 27 (.take 28 (.take 29 (.take 30 (.take 31 (.run 32 .done))))))))))))))))))))))))))))))))) (fun x => Below w5.heap.size w5 x) (by kernel_rfl) (by kernel_rfl) (by exact hdr.out) ?_
            simp only [Pl.fill, List.getElem?_cons_zero, List.getElem?_cons_succ, List.drop_succ_cons, List.drop_zero]
            iterate 32
              first
              | (refine Pl.take_go ?_ (by rfl) (fun _ _ _ h => h) ?_ ?_
                 rotate_left
                 · (intro x hSw; obtain ⟨s0, s1, s2, s3⟩ := hq.out x hSw; go_simp; try with_reducible rfl)
                 (try simp only [Act.put, List.setIfInBounds_toArray, List.set_cons_zero, List.set_cons_succ]))
              | (refine Pl.take_skip (by rfl) (fun _ _ _ h => h) ?_
                 (try simp only [Act.put, List.setIfInBounds_toArray, List.set_cons_zero, List.set_cons_succ]))
            refine Pl.run_go (fun K hK => ?_)
            go_simp
            refine (refName_any (strOf t.name) (by rw [strOf_size']; omega) _).mono ?_
            rintro e w6 ⟨rfl, hb6⟩
            rw [hnl, hnm]
            have hb6' := Lib.hid (hdr.out.trans (hb6.mono hdr.out.size))
            dsimp only
            refine hK.out _ _ (Pl.more_go (fun x => Below w6.heap.size w6 x) (fun x hx => hb6'.out.trans (hx.mono hb6'.out.size)) (Below.refl _ _) ?_)
            clear hK K
            try simp only [Act.put, List.setIfInBounds_toArray, List.set_cons_zero, List.set_cons_succ]
            refine Pl.done_go ?_
            go_wp2_with fail
            go_meet
            exact ⟨rfl, hb6'⟩
          · have hnm : nameR t.name = false := by rw [hok'.out.v.name, hk]; rfl
            have hq : Hid (∀ x, Below w5.heap.size w5 x → x.cell? ⟨tb, 0, none⟩ = some (.int .i64 4) ∧ x.cell? ⟨tb, 1, none⟩ = some (.int .i64 (t.at_ : Nat)) ∧ x.cell? ⟨tb, 2, none⟩ = some (.string (strOf t.name))) := Lib.hid fun x hx => by
              have e0 := (hT5.out.below hx).cell 0
              rw [hk] at e0
              exact ⟨e0, (hT5.out.below hx).cell 1, (hT5.out.below hx).cell 2⟩
            clear hk hc60
            refine Pl.wp_region_plan 33 (.take 0 (.take 1 (.take 2 (.take 3 (.take 4 (.take 5 (.take 6 (.take 7 (.take 8 (.take 9 (.take 10 (.take 11 (.take 12 (.take 13 (.take 14 (.take 15 (.take 16 (.take 17 (.take 18 (.take 19 (.take 20 (.take 21 (.take 22 (.take 23 (.take 24 (.take 25 (.take 26 (.take 27 (.take 28 (.take 29 (.take 30 (.take 31 (.run 32 .done))))))))))))))))))))))))))))))))) (fun x => Below w5.heap.size w5 x) (by kernel_rfl) (by kernel_rfl) (by exact hdr.out) ?_
            simp only [Pl.fill, List.getElem?_cons_zero, List.getElem?_cons_succ, List.drop_succ_cons, List.drop_zero]
            iterate 32
              first
              | (refine Pl.take_go ?_ (by rfl) (fun _ _ _ h => h) ?_ ?_
                 rotate_left
                 · (intro x hSw; obtain ⟨s0, s1, s2⟩ := hq.out x hSw; go_simp; try with_reducible rfl)
                 (try simp only [Act.put, List.setIfInBounds_toArray, List.set_cons_zero, List.set_cons_succ]))
              | (refine Pl.take_skip (by rfl) (fun _ _ _ h => h) ?_
                 (try simp only [Act.put, List.setIfInBounds_toArray, List.set_cons_zero, List.set_cons_succ]))
            refine Pl.run_go (fun K hK => ?_)
            go_simp
            refine (refName_any (strOf t.name) (by rw [strOf_size']; omega) _).mono ?_
            rintro e w6 ⟨rfl, hb6⟩
            rw [hnl, hnm]
            have hb6' := Lib.hid (hdr.out.trans (hb6.mono hdr.out.size))
            dsimp only
            refine hK.out _ _ (Pl.more_go (fun x => Below w6.heap.size w6 x) (fun x hx => hb6'.out.trans (hx.mono hb6'.out.size)) (Below.refl _ _) ?_)
            clear hK K
            try simp only [Act.put, List.setIfInBounds_toArray, List.set_cons_zero, List.set_cons_succ]
            refine Pl.done_go ?_
            go_wp2_with fail
            go_meet
            exact ⟨rfl, hb6'⟩
          · have hnm : nameR t.name = false := by rw [hok'.out.v.name, hk]; rfl
            have hq : Hid (∀ x, Below w5.heap.size w5 x → x.cell? ⟨tb, 0, none⟩ = some (.int .i64 5) ∧ x.cell? ⟨tb, 1, none⟩ = some (.int .i64 (t.at_ : Nat)) ∧ x.cell? ⟨tb, 2, none⟩ = some (.string (strOf t.name)) ∧ x.cell? ⟨bA, offA + t.at_, none⟩ = some (.int .u8 60)) := Lib.hid fun x hx => by
              have e0 := (hT5.out.below hx).cell 0
              rw [hk] at e0
              exact ⟨e0, (hT5.out.below hx).cell 1, (hT5.out.below hx).cell 2, hc60.out (by omega) x hx⟩
            clear hk hc60
            refine Pl.wp_region_plan 33 (.take 0 (.take 1 (.take 2 (.take 3 (.take 4 (.take 5 (.take 6 (.take 7 (.take 8 (.take 9 (.take 10 (.take 11 (.take 12 (.take 13 (.take 14 (.take 15 (.take 16 (.take 17 (.take 18 (.take 19 (.take 20 (.take 21 (.take 22 (.take 23 (.take 24 (.take 25 (.take 26 (.take 27 (.take 28 (.take 29 (.take 30 (.take 31 (.run 32 .done))))))))))))))))))))))))))))))))) (fun x => Below w5.heap.size w5 x) (by kernel_rfl) (by kernel_rfl) (by exact hdr.out) ?_
            simp only [Pl.fill, List.getElem?_cons_zero, List.getElem?_cons_succ, List.drop_succ_cons, List.drop_zero]
            iterate 32
              first
              | (refine Pl.take_go ?_ (by rfl) (fun _ _ _ h => h) ?_ ?_
                 rotate_left
                 · (intro x hSw; obtain ⟨s0, s1, s2, s3⟩ := hq.out x hSw; go_simp; try with_reducible rfl)
                 (try simp only [Act.put, List.setIfInBounds_toArray, List.set_cons_zero, List.set_cons_succ]))
              | (refine Pl.take_skip (by rfl) (fun _ _ _ h => h) ?_
                 (try simp only [Act.put, List.setIfInBounds_toArray, List.set_cons_zero, List.set_cons_succ]))
            refine Pl.run_go (fun K hK => ?_)
            go_simp
            refine (refName_any (strOf t.name) (by rw [strOf_size']; omega) _).mono ?_
            rintro e w6 ⟨rfl, hb6⟩
            rw [hnl, hnm]
            have hb6' := Lib.hid (hdr.out.trans (hb6.mono hdr.out.size))
            dsimp only
            refine hK.out _ _ (Pl.more_go (fun x => Below w6.heap.size w6 x) (fun x hx => hb6'.out.trans (hx.mono hb6'.out.size)) (Below.refl _ _) ?_)
            clear hK K
            try simp only [Act.put, List.setIfInBounds_toArray, List.set_cons_zero, List.set_cons_succ]
            refine Pl.done_go ?_
            go_wp2_with fail
            go_meet
            exact ⟨rfl, hb6'⟩
          · have hnm : nameR t.name = false := by rw [hok'.out.v.name, hk]; rfl
            have hq : Hid (∀ x, Below w5.heap.size w5 x → x.cell? ⟨tb, 0, none⟩ = some (.int .i64 6) ∧ x.cell? ⟨tb, 1, none⟩ = some (.int .i64 (t.at_ : Nat)) ∧ x.cell? ⟨tb, 2, none⟩ = some (.string (strOf t.name)) ∧ x.cell? ⟨bA, offA + t.at_, none⟩ = some (.int .u8 60)) := Lib.hid fun x hx => by
              have e0 := (hT5.out.below hx).cell 0
              rw [hk] at e0
              exact ⟨e0, (hT5.out.below hx).cell 1, (hT5.out.below hx).cell 2, hc60.out (by omega) x hx⟩
            clear hk hc60
            refine Pl.wp_region_plan 33 (.take 0 (.take 1 (.take 2 (.take 3 (.take 4 (.take 5 (.take 6 (.take 7 (.take 8 (.take 9 (.take 10 (.take 11 (.take 12 (.take 13 (.take 14 (.take 15 (.take 16 (.take 17 (.take 18 (.take 19 (.take 20 (.take 21 (.take 22 (.take 23 (.take 24 (.take 25 (.take 26 (.take 27 (.take 28 (.take 29 (.take 30 (.take 31 (.run 32 .done))))))))))))))))))))))))))))))))) (fun x => Below w5.heap.size w5 x) (by kernel_rfl) (by kernel_rfl) (by exact hdr.out) ?_
            simp only [Pl.fill, List.getElem?_cons_zero, List.getElem?_cons_succ, List.drop_succ_cons, List.drop_zero]
            iterate 32
              first
              | (refine Pl.take_go ?_ (by rfl) (fun _ _ _ h => h) ?_ ?_
                 rotate_left
                 · (intro x hSw; obtain ⟨s0, s1, s2, s3⟩ := hq.out x hSw; go_simp; try with_reducible rfl)
                 (try simp only [Act.put, List.setIfInBounds_toArray, List.set_cons_zero, List.set_cons_succ]))
              | (refine Pl.take_skip (by rfl) (fun _ _ _ h => h) ?_
                 (try simp only [Act.put, List.setIfInBounds_toArray, List.set_cons_zero, List.set_cons_succ]))
            refine Pl.run_go (fun K hK => ?_)
            go_simp
            refine (refName_any (strOf t.name) (by rw [strOf_size']; omega) _).mono ?_
            rintro e w6 ⟨rfl, hb6⟩
            rw [hnl, hnm]
            have hb6' := Lib.hid (hdr.out.trans (hb6.mono hdr.out.size))
            dsimp only
            refine hK.out _ _ (Pl.more_go (fun x => Below w6.heap.size w6 x) (fun x hx => hb6'.out.trans (hx.mono hb6'.out.size)) (Below.refl _ _) ?_)
            clear hK K
            try simp only [Act.put, List.setIfInBounds_toArray, List.set_cons_zero, List.set_cons_succ]
            refine Pl.done_go ?_
            go_wp2_with fail
            go_meet
            exact ⟨rfl, hb6'⟩
          · have hnm : nameR t.name = true := by rw [hok'.out.v.name, hk]; rfl
            have hq : Hid (∀ x, Below w5.heap.size w5 x → x.cell? ⟨tb, 0, none⟩ = some (.int .i64 7) ∧ x.cell? ⟨tb, 1, none⟩ = some (.int .i64 (t.at_ : Nat)) ∧ x.cell? ⟨tb, 2, none⟩ = some (.string (strOf t.name)) ∧ x.cell? ⟨bA, offA + t.at_, none⟩ = some (.int .u8 60)) := Lib.hid fun x hx => by
              have e0 := (hT5.out.below hx).cell 0
              rw [hk] at e0
              exact ⟨e0, (hT5.out.below hx).cell 1, (hT5.out.below hx).cell 2, hc60.out (by omega) x hx⟩
            clear hk hc60
            refine Pl.wp_region_plan 33 (.take 0 (.take 1 (.take 2 (.take 3 (.take 4 (.take 5 (.take 6 (.take 7 (.take 8 (.take 9 (.take 10 (.take 11 (.take 12 (.take 13 (.take 14 (.take 15 (.take 16 (.take 17 (.take 18 (.take 19 (.take 20 (.take 21 (.take 22 (.take 23 (.take 24 (.take 25 (.take 26 (.take 27 (.take 28 (.take 29 (.take 30 (.take 31 (.run 32 .done))))))))))))))))))))))))))))))))) (fun x => Below w5.heap.size w5 x) (by kernel_rfl) (by kernel_rfl) (by exact hdr.out) ?_
            simp only [Pl.fill, List.getElem?_cons_zero, List.getElem?_cons_succ, List.drop_succ_cons, List.drop_zero]
            iterate 32
              first
              | (refine Pl.take_go ?_ (by rfl) (fun _ _ _ h => h) ?_ ?_
                 rotate_left
                 · (intro x hSw; obtain ⟨s0, s1, s2, s3⟩ := hq.out x hSw; go_simp; try with_reducible rfl)
                 (try simp only [Act.put, List.setIfInBounds_toArray, List.set_cons_zero, List.set_cons_succ]))
              | (refine Pl.take_skip (by rfl) (fun _ _ _ h => h) ?_
                 (try simp only [Act.put, List.setIfInBounds_toArray, List.set_cons_zero, List.set_cons_succ]))
            refine Pl.run_go (fun K hK => ?_)
            go_simp
            refine (refName_any (strOf t.name) (by rw [strOf_size']; omega) _).mono ?_
            rintro e w6 ⟨rfl, hb6⟩
            rw [hnl, hnm]
            have hb6' := Lib.hid (hdr.out.trans (hb6.mono hdr.out.size))
            dsimp only
            refine hK.out _ _ (Pl.more_go (fun x => Below w6.heap.size w6 x) (fun x hx => hb6'.out.trans (hx.mono hb6'.out.size)) (Below.refl _ _) ?_)
            clear hK K
            try simp only [Act.put, List.setIfInBounds_toArray, List.set_cons_zero, List.set_cons_succ]
            refine Pl.done_go ?_
            go_wp2_with fail
            go_meet
            exact ⟨rfl, hb6'⟩
        obtain ⟨rfl, hbc⟩ := hcut
        rename World => w7
        clear c0 c1 c2
        have hx7 := Lib.hid (hx5.out.trans (hbc.out.mono hx5.out.size))
        have hT7 := Lib.hid (hT5.out.below hbc.out)
        have ha7 := Lib.hid (ha5.out.below hbc.out AtEl.to)
        have ho7 := Lib.hid (ho5.out.below hbc.out)
        clear hbc hT5 ha5 ho5 hx5
        go_wp2_with fail
        go_loopw [7] (fun v7 wq => ∃ k : Nat, k ≤ t.attrs.length ∧ v7 = .int .i64 (k : Nat) ∧ Hid (Below w7.heap.size w7 wq)) (fun v7 _ => t.attrs.length - (intOf v7).toNat)
        case atStart => exact ⟨0, by omega, rfl, Lib.hid (Below.refl _ _)⟩
        case round =>
          obtain ⟨k, hk, rfl, hq⟩ := hrel
          have c4 := (hT7.out.below hq.out).cell 4
          simp only [List.getElem?_toArray, List.getElem?_cons_zero, List.getElem?_cons_succ] at c4
          by_cases hkl : k < t.attrs.length
          · have j1 : decide ((k : Int) < (t.attrs.length : Int)) = true := by simp; omega
            have j2 : (k : Int) < (t.attrs.length : Int) := by omega
            obtain ⟨b2, off2, x2, vs2, rfl, _, hx2, _, hv2, hc2⟩ := (OwS.sq' (ha7.out.below hq.out AtEl.to) (by decide)).at_ (i := k) hkl
            unfold AtEl at hv2
            subst hv2
            have m0 := hc2 0 _ rfl
            have m1 := hc2 1 _ rfl
            rw [Nat.add_zero] at m0
            have hmx := List.mem_of_getElem? hx2
            have hav := Lib.hid (hok'.out.v.attrs x2 hmx)
            obtain ⟨z1, z2⟩ := hsz'.out.attrs x2 hmx
            have z1' : x2.1.length ≤ 100000 := by omega
            have z2' : x2.2.length ≤ 100000 := by omega
            clear hc2 hmx hx2 z1 z2
            have hnl : (strOf x2.1).data.toList = x2.1 := by simp [strOf]
            have hns : (strOf x2.1).size = x2.1.length := strOf_size' _
            go_wp2_with fail
            refine (refName_any (strOf x2.1) (by rw [hns]; omega) wr).mono ?_
            rintro e w8 ⟨rfl, hb8⟩
            rw [hnl, hav.out.1]
            have hq8 := Lib.hid (hq.out.trans (hb8.mono hq.out.size))
            have c4 := (hT7.out.below hq8.out).cell 4
            simp only [List.getElem?_toArray, List.getElem?_cons_zero, List.getElem?_cons_succ] at c4
            have m1 := cell_keep m1 hb8
            obtain ⟨bdv, cbv, wv, hcvv, hbsv, hbv⟩ := conv_bytes w8 x2.2 (by omega)
            have hqv := Lib.hid (hq8.out.trans (hbv.mono hq8.out.size))
            have hbsv' := Lib.hid hbsv
            clear hb8 hbsv hbv m0 hnl hns
            go_wp2_with fail
            refine (refBad_any _ x2.2.length cbv x2.2 (by omega) wv hbsv'.out).mono ?_
            rintro e w9 ⟨rfl, hb9⟩
            rw [Qx.badW_V hav.out.2]
            have hq9 := Lib.hid (hqv.out.trans (hb9.mono hqv.out.size))
            clear hb9 hcvv m1 c4
            go_wp2_with fail
            go_roundw
            case rel => exact ⟨k + 1, by omega, by go_num, hq9⟩
            case measure => simp [intOf]; omega
          · have j1 : decide ((k : Int) < (t.attrs.length : Int)) = false := by simp; omega
            have hxq := Lib.hid (hx7.out.trans (hq.out.mono hx7.out.size))
            have hoq := Lib.hid (ho7.out.below hq.out)
            go_wp2_with fail
            go_roundw
            case rel => exact ⟨i + 1, by omega, by go_num, hoq, hxq⟩
            case measure => simp [intOf]; omega
      · have i1 : decide ((i : Int) < (ts.length : Int)) = false := by simp; omega
        go_wp2_with fail
        (try simp only [Exit.inBlock, Exit.then])
        go_ret
        exact ⟨rfl, hb.out⟩
  · obtain ⟨hb2, v, rfl, f2⟩ := h2.no hall hcd
    have hx2 := Lib.hid (hb1'.out.trans (hb2.mono hb1'.out.size))
    have f2' := Lib.hid f2
    obtain ⟨Tv, av, rfl⟩ := f2.iface
    have j0 : (cd == 0) = false := by rw [beq_eq_false_iff_ne]; exact hcd
    have hcd' := Lib.hid hcd
    clear h2 hb2 f2 hall hcd hb1'
    go_wp2_with fail
    refine (Code_any cd p _ _ w.heap.size w2 (hE'.out.on hx2.out) f2'.out).mono ?_
    rintro e w3 ⟨rfl, hb3⟩
    have hx3 := Lib.hid (hx2.out.trans (hb3.mono hx2.out.size))
    clear hb3 f2' hx2
    go_wp2_with fail
    (try simp only [Exit.inBlock, Exit.then])
    go_ret
    exact ⟨rfl, hx3.out⟩
end
end Go.Proofs.YtcecmbbhjaeodaaGreatDoor.Xl
