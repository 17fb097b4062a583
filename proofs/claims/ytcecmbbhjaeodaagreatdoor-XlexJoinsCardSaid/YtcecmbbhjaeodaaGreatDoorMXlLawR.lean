/- XlexPlain. Printed by xl_lawr.py. -/
import Derived.Test.YtcecmbbhjaeodaaGreatDoorMXlNumL
import Derived.Test.YtcecmbbhjaeodaaGreatDoorMUtfEnc
namespace Go.Proofs.YtcecmbbhjaeodaaGreatDoor.Xl
open Go.RowKit UtfW Er

theorem cell_keep {w x : World} {b i : Nat} {v : Value} (h : w.cell? ⟨b, i, none⟩ = some v) (hb : Below w.heap.size w x) : x.cell? ⟨b, i, none⟩ = some v := by
  have hlt : b < w.heap.size := by
    refine Nat.lt_of_not_le fun hn => ?_
    simp [World.cell?, Array.getElem?_eq_none hn] at h
  have e := hb.block b hlt
  simp only [World.cell?] at h ⊢
  rw [e]
  exact h
section
variable (w : World) (S : Tx) (n : Int)
set_option maxHeartbeats 8000000 in
set_option maxRecDepth 100000 in
theorem plain_law (hU : Un w) (hE : En w.heap.size w) (h0 : -2147483648 ≤ n) (h1 : n ≤ 2147483647) :
    Calls Tryz.prog 6 #[.string (strOf S), .int .i32 n] w fun e w' => e = .returned (.bool true) ∧ Below w.heap.size w w' := by
  have hsz : (strOf S).size = S.length := strOf_size' S
  have hls : (strOf S).data.toList = S := by simp [strOf]
  have hU' := Lib.hid hU
  have hE' := Lib.hid hE
  have hn : n.natAbs < 4294967296 := by omega
  have hwn : IntKind.i64.wrap n = n := IntWalk.i64_in _ (by omega)
  have hnum10 := fun w => numberL_any w n hn 10 (.inl rfl)
  have hnum16 := fun w => numberL_any w n hn 16 (.inr rfl)
  have hdoc : Hid (docR n = docR n) := Lib.hid rfl
  have hall := docR_eq hn
  obtain ⟨Dd, hDd⟩ : ∃ Dd, docR n = Dd := ⟨_, rfl⟩
  have hDd' := Lib.hid hDd
  have hDf : [60, 97, 62, 38, 35] ++ numT 10 n ++ [59, 38, 35, 120] ++ numT 16 n ++ [59, 60, 47, 97, 62] = Dd := by rw [← hDd]; rfl
  have hl10 := numT_len 10 n
  have hl16 := numT_len 16 n
  have hDl : Dd.length ≤ 200 := by rw [← hDf]; simp; omega
  rw [hDd] at hall
  have hall' := Lib.hid hall
  clear hall hdoc hDd
  obtain ⟨D10, hD10⟩ : ∃ D, numT 10 n = D := ⟨_, rfl⟩
  obtain ⟨D16, hD16⟩ : ∃ D, numT 16 n = D := ⟨_, rfl⟩
  simp only [hD10] at hnum10
  simp only [hD16] at hnum16
  rw [hD10] at hl10 hDf
  rw [hD16] at hl16 hDf
  clear hD10 hD16
  have hs1 : ∀ w, (Op.stringOp .add ⟨#[60, 97, 62, 38, 35]⟩ (strOf D10)).run Tryz.prog w = .ok (.string (strOf ([60, 97, 62, 38, 35] ++ D10))) w := fun w => add_str w [60, 97, 62, 38, 35] D10 (by simp; omega)
  have hs2 : ∀ w, (Op.stringOp .add (strOf ([60, 97, 62, 38, 35] ++ D10)) ⟨#[59, 38, 35, 120]⟩).run Tryz.prog w = .ok (.string (strOf ([60, 97, 62, 38, 35] ++ D10 ++ [59, 38, 35, 120]))) w := fun w => add_str w _ [59, 38, 35, 120] (by simp; omega)
  have hs3 := fun w => add_str w ([60, 97, 62, 38, 35] ++ D10 ++ [59, 38, 35, 120]) D16 (by simp; omega)
  have hs4 : ∀ w, (Op.stringOp .add (strOf ([60, 97, 62, 38, 35] ++ D10 ++ [59, 38, 35, 120] ++ D16)) ⟨#[59, 60, 47, 97, 62]⟩).run Tryz.prog w = .ok (.string (strOf ([60, 97, 62, 38, 35] ++ D10 ++ [59, 38, 35, 120] ++ D16 ++ [59, 60, 47, 97, 62]))) w := fun w => add_str w _ [59, 60, 47, 97, 62] (by simp; omega)
  rw [hDf] at hs4
  obtain ⟨E3, hE3⟩ : ∃ E, [60, 97, 62, 38, 35] ++ D10 ++ [59, 38, 35, 120] ++ D16 = E := ⟨_, rfl⟩
  rw [hE3] at hs3 hs4
  obtain ⟨E2, hE2⟩ : ∃ E, [60, 97, 62, 38, 35] ++ D10 ++ [59, 38, 35, 120] = E := ⟨_, rfl⟩
  rw [hE2] at hs2 hs3
  obtain ⟨E1, hE1⟩ : ∃ E, [60, 97, 62, 38, 35] ++ D10 = E := ⟨_, rfl⟩
  rw [hE1] at hs1 hs2
  clear hE3 hE2 hE1 hDf
  go_enter Tryz.func6, Tryz.ntmps6
  go_wp2_with fail
  refine (awake_any w hU hE).mono ?_
  rintro e w1 ⟨rfl, hb1⟩
  have hb1' := Lib.hid hb1
  clear hb1 hU hE
  by_cases hlen : 4096 < S.length
  · have i0 : decide ((4096 : Int) < (S.length : Int)) = true := by simp; omega
    go_wp2_with fail
    (try simp only [Exit.inBlock, Exit.then])
    go_ret
    exact ⟨rfl, hb1'.out⟩
  have i0 : decide ((4096 : Int) < (S.length : Int)) = false := by simp; omega
  have hlen' : S.length ≤ 4096 := by omega
  clear hlen
  go_wp2_with fail
  refine (hnum10 w1).mono ?_
  rintro e w2 ⟨rfl, hb2⟩
  have hx2 := Lib.hid (hb1'.out.trans (hb2.mono hb1'.out.size))
  clear hb2 hb1' hnum10
  go_wp2_with fail
  refine (hnum16 w2).mono ?_
  rintro e w2b ⟨rfl, hb2⟩
  have hx2b := Lib.hid (hx2.out.trans (hb2.mono hx2.out.size))
  clear hb2 hx2 hnum16
  obtain ⟨bd0, cb0, wD0, hcv0, hbs0, hbD0⟩ := conv_bytes w2b Dd (by omega)
  have hxD0 := Lib.hid (hx2b.out.trans (hbD0.mono hx2b.out.size))
  have hbs0' := Lib.hid hbs0
  clear hbs0 hbD0
  go_wp2_with fail
  refine (All_any wD0 (hU'.out.below hxD0.out) _ Dd.length cb0 Dd hbs0'.out (by omega)).mono ?_
  intro e w3 h3
  clear hbs0' hcv0 hs1 hs2 hs3 hs4 hl10 hl16
  cases hch : Utf.Char n with
  | true =>
    have hall := hall'.out
    rw [hch, if_pos rfl] at hall
    obtain ⟨hb3, A3, c3, rfl, ho3⟩ := h3.ok hall
    simp only [List.length_cons, List.length_nil] at ho3
    have hx3 := Lib.hid (hxD0.out.trans (hb3.mono hxD0.out.size))
    have ho4 := Lib.hid ho3
    have hch' := Lib.hid hch
    clear h3 hb3 ho3 hall hch hxD0
    go_wp2_with fail
    refine (refchar_any n w3).mono ?_
    rintro e w4 ⟨rfl, hww⟩
    rw [hch'.out]
    subst hww
    have hx4 := hx3
    clear hx3
    obtain ⟨b1, off1, At, ct, rfl, _, _, _, _, k3, _, _⟩ := tk_at ho4.out (i := 1) rfl
    dsimp only at k3
    have hq : Hid (∀ x, Below w4.heap.size w4 x → x.cell? ⟨b1, off1 + 1 * 5 + 3, none⟩ = some (.string (strOf (encB n ++ encB n)))) := Lib.hid fun x hx => cell_keep k3 hx
    have hdr : Hid (Below w4.heap.size w4 w4.drew) := Lib.hid (Joins.below_draws w4.heap.size w4 1)
    have hel : (encB n).length ≤ 4 := by
      have e : ((n.toNat : Nat) : Int) = n := by
        have := hch'.out
        unfold Utf.Char at this
        rw [decide_eq_true_eq] at this
        omega
      rw [← e]
      exact encB_le n.toNat
    have hadd := fun w => add_str w (encB n) (encB n) (by omega)
    have hid1 : ((strOf (encB n ++ encB n)).toList == encB n ++ encB n) = true := by rw [str_eqL]; simp
    clear k3
    go_wp2_with fail
    refine Pl.wp_region_plan 20 (.take 0 (.run 1 (.take 2 (.take 3 (.take 4 (.take 5 (.take 6 (.take 7 (.take 8 (.take 9 (.take 10 (.take 11 (.take 12 (.take 13 (.take 16 (.run 14 (.take 15 (.run 17 (.take 18 (.take 19 .done)))))))))))))))))))) (fun x => Below w4.heap.size w4 x) (by kernel_rfl) (by kernel_rfl) (by exact hdr.out) ?_
    simp only [Pl.fill, List.getElem?_cons_zero, List.getElem?_cons_succ, List.drop_succ_cons, List.drop_zero]
    iterate 1
      first
      | (refine Pl.take_go ?_ (by rfl) (fun _ _ _ h => h) ?_ ?_
         rotate_left
         · (intro x hSw; have s0 := hq.out x hSw; go_simp; try with_reducible rfl)
         (try simp only [Act.put, List.setIfInBounds_toArray, List.set_cons_zero, List.set_cons_succ]))
      | (refine Pl.take_skip (by rfl) (fun _ _ _ h => h) ?_
         (try simp only [Act.put, List.setIfInBounds_toArray, List.set_cons_zero, List.set_cons_succ]))
    refine Pl.run_go (fun K hK => ?_)
    go_simp
    refine (Code_ok _).mono ?_
    rintro e w5 ⟨rfl, hb5⟩
    have hb5' := Lib.hid (hdr.out.trans (hb5.mono hdr.out.size))
    dsimp only
    refine hK.out _ _ (Pl.more_go (fun x => Below w5.heap.size w5 x) (fun x hx => hb5'.out.trans (hx.mono hb5'.out.size)) (Below.refl _ _) ?_)
    clear hK K
    try simp only [Act.put, List.setIfInBounds_toArray, List.set_cons_zero, List.set_cons_succ]
    iterate 13
      first
      | (refine Pl.take_go ?_ (by rfl) (fun _ _ _ h => h) ?_ ?_
         rotate_left
         · (intro x hSw; have s0 := hq.out x (hb5'.out.trans (hSw.mono hb5'.out.size)); go_simp; try with_reducible rfl)
         (try simp only [Act.put, List.setIfInBounds_toArray, List.set_cons_zero, List.set_cons_succ]))
      | (refine Pl.take_skip (by rfl) (fun _ _ _ h => h) ?_
         (try simp only [Act.put, List.setIfInBounds_toArray, List.set_cons_zero, List.set_cons_succ]))
    refine Pl.run_go (fun K hK => ?_)
    go_simp
    refine (refEncode_any n h0 h1 w5).mono ?_
    rintro e w6 ⟨A6, c6, rfl, ho6, hb6⟩
    have hb6' := Lib.hid (hb5'.out.trans (hb6.mono hb5'.out.size))
    have hcv6 : Hid (∀ x, Below w6.heap.size w6 x → (convert 22 9 (.slice A6 (encB n).length c6)).run Tryz.prog x = .ok (.string (strOf (encB n))) x) := Lib.hid fun x hx => Bs.conv (ho6.below hx).bs Tryz.underlying22 Tryz.underlying5 Tryz.underlying9
    dsimp only
    refine hK.out _ _ (Pl.more_go (fun x => Below w6.heap.size w6 x) (fun x hx => hb6.trans (hx.mono hb6.size)) (Below.refl _ _) ?_)
    clear hK K
    try simp only [Act.put, List.setIfInBounds_toArray, List.set_cons_zero, List.set_cons_succ]
    iterate 1
      first
      | (refine Pl.take_go ?_ (by rfl) (fun _ _ _ h => h) ?_ ?_
         rotate_left
         · (intro x hSw; have s0 := hcv6.out x hSw; go_simp; try with_reducible rfl)
         (try simp only [Act.put, List.setIfInBounds_toArray, List.set_cons_zero, List.set_cons_succ]))
      | (refine Pl.take_skip (by rfl) (fun _ _ _ h => h) ?_
         (try simp only [Act.put, List.setIfInBounds_toArray, List.set_cons_zero, List.set_cons_succ]))
    refine Pl.run_go (fun K hK => ?_)
    go_simp
    refine (refEncode_any n h0 h1 w6).mono ?_
    rintro e w7 ⟨A7, c7, rfl, ho7, hb7⟩
    have hb7' := Lib.hid (hb6'.out.trans (hb7.mono hb6'.out.size))
    have hcv7 : Hid (∀ x, Below w7.heap.size w7 x → (convert 22 9 (.slice A7 (encB n).length c7)).run Tryz.prog x = .ok (.string (strOf (encB n))) x) := Lib.hid fun x hx => Bs.conv (ho7.below hx).bs Tryz.underlying22 Tryz.underlying5 Tryz.underlying9
    dsimp only
    refine hK.out _ _ (Pl.more_go (fun x => Below w7.heap.size w7 x) (fun x hx => hb7.trans (hx.mono hb7.size)) (Below.refl _ _) ?_)
    clear hK K
    try simp only [Act.put, List.setIfInBounds_toArray, List.set_cons_zero, List.set_cons_succ]
    iterate 2
      first
      | (refine Pl.take_go ?_ (by rfl) (fun _ _ _ h => h) ?_ ?_
         rotate_left
         · (intro x hSw; have s0 := hcv7.out x hSw; go_simp; try with_reducible rfl)
         (try simp only [Act.put, List.setIfInBounds_toArray, List.set_cons_zero, List.set_cons_succ]))
      | (refine Pl.take_skip (by rfl) (fun _ _ _ h => h) ?_
         (try simp only [Act.put, List.setIfInBounds_toArray, List.set_cons_zero, List.set_cons_succ]))
    refine Pl.done_go ?_
    have hxN := Lib.hid (hx4.out.trans (hb7'.out.mono hx4.out.size))
    have hbN := Lib.hid trivial
    clear hbN
    go_wp2_with fail
    go_loopw [7] (fun v7 wr => ∃ j : Nat, j ≤ S.length ∧ v7 = .int .i64 (j : Nat) ∧ Hid (∀ c ∈ S.take j, c ≠ 60 ∧ c ≠ 38 ∧ c ≠ 93) ∧ Hid (Below w.heap.size w wr)) (fun v7 _ => S.length - (intOf v7).toNat)
    case atStart => exact ⟨0, by omega, rfl, Lib.hid (by simp), hxN⟩
    case round =>
      clear hxN
      obtain ⟨j, hj, rfl, hok, hb⟩ := hrel
      by_cases hlt : j < S.length
      · have i1 : decide ((j : Int) < (S.length : Int)) = true := by simp; omega
        have hx : S[j]? = some S[j] := List.getElem?_eq_getElem hlt
        generalize S[j] = x at hx
        have hlt' : j < (strOf S).size := by omega
        have hgx := str_at hx hlt'
        have q1 : (j : Int) < (S.length : Int) := by omega
        have htk : S.take (j + 1) = S.take j ++ [x] := by rw [List.take_add_one, hx]; rfl
        have htk' := Lib.hid htk
        by_cases h60 : x = 60
        · have j60 : ((x.toNat : Int) == 60) = true := by rw [h60]; rfl
          go_wp2_with fail
          (try simp only [Exit.inBlock, Exit.then])
          go_ret
          exact ⟨rfl, hb.out⟩
        have j60 : ((x.toNat : Int) == 60) = false := by rw [show (60 : Int) = ((60 : UInt8).toNat : Int) from rfl, byte_eq, decide_eq_false h60]
        by_cases h38 : x = 38
        · have j38 : ((x.toNat : Int) == 38) = true := by rw [h38]; rfl
          clear h60
          go_wp2_with fail
          (try simp only [Exit.inBlock, Exit.then])
          go_ret
          exact ⟨rfl, hb.out⟩
        have j38 : ((x.toNat : Int) == 38) = false := by rw [show (38 : Int) = ((38 : UInt8).toNat : Int) from rfl, byte_eq, decide_eq_false h38]
        by_cases h93 : x = 93
        · have j93 : ((x.toNat : Int) == 93) = true := by rw [h93]; rfl
          clear h60 h38
          go_wp2_with fail
          (try simp only [Exit.inBlock, Exit.then])
          go_ret
          exact ⟨rfl, hb.out⟩
        have j93 : ((x.toNat : Int) == 93) = false := by rw [show (93 : Int) = ((93 : UInt8).toNat : Int) from rfl, byte_eq, decide_eq_false h93]
        have hok2 : Hid (∀ c ∈ S.take (j + 1), c ≠ 60 ∧ c ≠ 38 ∧ c ≠ 93) := Lib.hid (by
          rw [htk'.out]
          intro c hc
          rcases List.mem_append.1 hc with hc | hc
          · exact hok.out c hc
          · rw [List.mem_singleton.1 hc]
            exact ⟨h60, h38, h93⟩)
        clear h60 h38 h93 htk
        go_wp2_with fail
        go_roundw
        case rel => exact ⟨j + 1, by omega, by go_num, hok2, hb⟩
        case measure => simp [intOf]; omega
      · have i1 : decide ((j : Int) < (S.length : Int)) = false := by simp; omega
        obtain rfl : j = S.length := by omega
        have hok' : Hid (∀ c ∈ S, c ≠ 60 ∧ c ≠ 38 ∧ c ≠ 93) := Lib.hid (by have := hok.out; rw [List.take_length] at this; exact this)
        clear hok hlt
        obtain ⟨bd, cb, wD, hcv, hbs, hbD⟩ := conv_bytes wr S (by omega)
        have hxD := Lib.hid (hb.out.trans (hbD.mono hb.out.size))
        have hbs' := Lib.hid hbs
        clear hbs hbD
        go_wp2_with fail
        refine (All_any wD (hU'.out.below hxD.out) _ S.length cb S hbs'.out (by omega)).mono ?_
        intro e w3 h3
        obtain ⟨bs2, cb2, wS, hcv2, hbsS, hbS⟩ := conv_bytes w3 S (by omega)
        by_cases hbd : 0 ≤ badW S 0
        · obtain ⟨hb3, v, rfl, f3⟩ := h3.no (all_bad' (by omega) hbd) (by decide)
          have hx3 := Lib.hid (hxD.out.trans (hb3.mono hxD.out.size))
          have hxS := Lib.hid (hx3.out.trans (hbS.mono hx3.out.size))
          have fS := Lib.hid (Fe.later f3 hbS)
          have hbsS' := Lib.hid hbsS
          obtain ⟨Tv, av, rfl⟩ := f3.iface
          obtain ⟨bn, hbn⟩ : ∃ bn, badW S 0 = bn := ⟨_, rfl⟩
          rw [hbn] at hbd
          have i3 : decide (0 ≤ bn) = true := by simpa using hbd
          have hbn' := Lib.hid hbn
          clear h3 hb3 f3 hbsS hbS hbn hbd
          go_wp2_with fail
          refine (refBad_any _ S.length cb2 S (by omega) wS hbsS'.out).mono ?_
          rintro e w4 ⟨rfl, hb4⟩
          rw [hbn'.out]
          have f4 := Lib.hid (Fe.later fS.out hb4)
          have hx4 := Lib.hid (hxS.out.trans (hb4.mono hxS.out.size))
          clear hb4 fS hcv2
          go_wp2_with fail
          refine (Code_any 1 _ _ _ w.heap.size w4 (hE'.out.on hx4.out) f4.out).mono ?_
          rintro e w5 ⟨rfl, hb5⟩
          have hx5 := Lib.hid (hx4.out.trans (hb5.mono hx4.out.size))
          clear hb5 f4
          go_wp2_with fail
          (try simp only [Exit.inBlock, Exit.then])
          go_ret
          exact ⟨rfl, hx5.out⟩
        · have hbd2 : badW S 0 < 0 := by omega
          obtain ⟨bn, hbn⟩ : ∃ bn, badW S 0 = bn := ⟨_, rfl⟩
          have hbn' := Lib.hid hbn
          rw [hbn] at hbd
          have i3 : decide (0 ≤ bn) = false := by simpa using hbd
          by_cases hS0 : S = []
          · have i4 : ((strOf S).toList == []) = true := by rw [str_eqL, hS0]; rfl
            obtain ⟨hb3, A3, c3, rfl, ho3⟩ := h3.ok (p := 0) (ts := []) (by rw [hS0]; exact plain_nil)
            have hx3 := Lib.hid (hxD.out.trans (hb3.mono hxD.out.size))
            have hxS := Lib.hid (hx3.out.trans (hbS.mono hx3.out.size))
            have hbsS' := Lib.hid hbsS
            have hS0' := Lib.hid hS0
            clear h3 hb3 ho3 hbsS hbS hbn hbd hbd2 hS0
            go_wp2_with fail
            refine (refBad_any _ S.length cb2 S (by omega) wS hbsS'.out).mono ?_
            rintro e w4 ⟨rfl, hb4⟩
            rw [hbn'.out]
            have hx4 := Lib.hid (hxS.out.trans (hb4.mono hxS.out.size))
            clear hb4 hcv2
            go_wp2_with fail
            refine (Code_ok w4).mono ?_
            rintro e w5 ⟨rfl, hb5⟩
            have hx5 := Lib.hid (hx4.out.trans (hb5.mono hx4.out.size))
            clear hb5
            go_wp2_with fail
            (try simp only [Exit.inBlock, Exit.then])
            go_ret
            exact ⟨rfl, hx5.out⟩
          · have i4 : ((strOf S).toList == []) = false := by rw [str_eqL, decide_eq_false hS0]
            have hall : ∃ p, allF S = (0, p, [⟨4, 0, [], Utf.lines S, []⟩]) := by
              rcases plain_ok (by omega) hbd2 hS0 (fun h => (hok'.out _ h).1 rfl) (fun h => (hok'.out _ h).2.1 rfl) (fun h => (hok'.out _ h).2.2 rfl) with h | h
              · exact ⟨_, h⟩
              · exact h
            obtain ⟨p, hall⟩ := hall
            obtain ⟨hb3, A3, c3, rfl, ho3⟩ := h3.ok hall
            simp only [List.length_cons, List.length_nil] at ho3
            have hx3 := Lib.hid (hxD.out.trans (hb3.mono hxD.out.size))
            have hxS := Lib.hid (hx3.out.trans (hbS.mono hx3.out.size))
            have hoS := Lib.hid (ho3.below hbS)
            have hbsS' := Lib.hid hbsS
            clear h3 hb3 ho3 hbsS hbS hbn hbd hbd2 hS0 hall
            go_wp2_with fail
            refine (refBad_any _ S.length cb2 S (by omega) wS hbsS'.out).mono ?_
            rintro e w4 ⟨rfl, hb4⟩
            rw [hbn'.out]
            have ho4 := Lib.hid (hoS.out.below hb4)
            have hx4 := Lib.hid (hxS.out.trans (hb4.mono hxS.out.size))
            clear hb4 hoS hcv2
            obtain ⟨b1, off1, At, ct, rfl, _, _, _, _, k3, _, _⟩ := tk_at ho4.out (i := 0) rfl
            rw [Nat.zero_mul, Nat.add_zero] at k3
            dsimp only at k3
            have hq : Hid (∀ x, Below w4.heap.size w4 x → x.cell? ⟨b1, off1 + 3, none⟩ = some (.string (strOf (Utf.lines S)))) := Lib.hid fun x hx => cell_keep k3 hx
            have hdr : Hid (Below w4.heap.size w4 w4.drew) := Lib.hid (Joins.below_draws w4.heap.size w4 1)
            have hid1 : ((strOf (Utf.lines S)).toList == Utf.lines S) = true := by rw [str_eqL]; simp
            clear k3
            go_wp2_with fail
            refine Pl.wp_region_plan 15 (.take 0 (.run 1 (.take 2 (.take 3 (.take 4 (.take 5 (.take 6 (.take 7 (.take 8 (.take 9 (.take 10 (.take 11 (.take 12 (.take 13 (.run 14 .done))))))))))))))) (fun x => Below w4.heap.size w4 x) (by kernel_rfl) (by kernel_rfl) (by exact hdr.out) ?_
            simp only [Pl.fill, List.getElem?_cons_zero, List.getElem?_cons_succ, List.drop_succ_cons, List.drop_zero]
            iterate 1
              first
              | (refine Pl.take_go ?_ (by rfl) (fun _ _ _ h => h) ?_ ?_
                 rotate_left
                 · (intro x hSw; have s0 := hq.out x hSw; go_simp; try with_reducible rfl)
                 (try simp only [Act.put, List.setIfInBounds_toArray, List.set_cons_zero, List.set_cons_succ]))
              | (refine Pl.take_skip (by rfl) (fun _ _ _ h => h) ?_
                 (try simp only [Act.put, List.setIfInBounds_toArray, List.set_cons_zero, List.set_cons_succ]))
            refine Pl.run_go (fun K hK => ?_)
            go_simp
            refine (Code_ok _).mono ?_
            rintro e w5 ⟨rfl, hb5⟩
            have hb5' := Lib.hid (hdr.out.trans (hb5.mono hdr.out.size))
            dsimp only
            refine hK.out _ _ (Pl.more_go (fun x => Below w5.heap.size w5 x) (fun x hx => hb5'.out.trans (hx.mono hb5'.out.size)) (Below.refl _ _) ?_)
            clear hK K
            try simp only [Act.put, List.setIfInBounds_toArray, List.set_cons_zero, List.set_cons_succ]
            iterate 12
              first
              | (refine Pl.take_go ?_ (by rfl) (fun _ _ _ h => h) ?_ ?_
                 rotate_left
                 · (intro x hSw; have s0 := hq.out x (hb5'.out.trans (hSw.mono hb5'.out.size)); go_simp; try with_reducible rfl)
                 (try simp only [Act.put, List.setIfInBounds_toArray, List.set_cons_zero, List.set_cons_succ]))
              | (refine Pl.take_skip (by rfl) (fun _ _ _ h => h) ?_
                 (try simp only [Act.put, List.setIfInBounds_toArray, List.set_cons_zero, List.set_cons_succ]))
            refine Pl.run_go (fun K hK => ?_)
            go_simp
            refine (refLines_any (strOf S) (by rw [hsz]; omega) w5).mono ?_
            rintro e w6 ⟨rfl, hb6⟩
            rw [hls]
            have hx6 := Lib.hid (hx4.out.trans ((hb5'.out.trans (hb6.mono hb5'.out.size)).mono hx4.out.size))
            dsimp only
            refine hK.out _ _ (Pl.more_go (fun x => Below w6.heap.size w6 x) (fun x hx => hb6.trans (hx.mono hb6.size)) (Below.refl _ _) ?_)
            clear hK K
            try simp only [Act.put, List.setIfInBounds_toArray, List.set_cons_zero, List.set_cons_succ]
            refine Pl.done_go ?_
            go_wp2_with fail
            (try simp only [Exit.inBlock, Exit.then])
            go_ret
            exact ⟨rfl, hx6.out⟩
  | false =>
    have hall := hall'.out
    rw [hch, if_neg (by decide)] at hall
    obtain ⟨hb3, v, rfl, f3⟩ := h3.no hall (by decide)
    have hx3 := Lib.hid (hxD0.out.trans (hb3.mono hxD0.out.size))
    have f3' := Lib.hid f3
    have hch' := Lib.hid hch
    obtain ⟨Tv, av, rfl⟩ := f3.iface
    clear h3 hb3 f3 hall hch hxD0
    go_wp2_with fail
    refine (refchar_any n w3).mono ?_
    rintro e w4 ⟨rfl, hww⟩
    rw [hch'.out]
    subst hww
    go_wp2_with fail
    refine (Code_any 5 3 _ _ w.heap.size w4 (hE'.out.on hx3.out) f3'.out).mono ?_
    rintro e w5 ⟨rfl, hb5⟩
    have f5 := Lib.hid (Fe.later f3'.out hb5)
    have hx5 := Lib.hid (hx3.out.trans (hb5.mono hx3.out.size))
    clear hb5 f3' hx3
    go_wp2_with fail
    refine (At_any 5 3 _ _ w.heap.size w5 (hE'.out.on hx5.out) f5.out).mono ?_
    rintro e w6 ⟨rfl, hb6⟩
    have hxN := Lib.hid (hx5.out.trans (hb6.mono hx5.out.size))
    have hbN := Lib.hid trivial
    clear hb6 f5 hx5
    clear hbN
    go_wp2_with fail
    go_loopw [7] (fun v7 wr => ∃ j : Nat, j ≤ S.length ∧ v7 = .int .i64 (j : Nat) ∧ Hid (∀ c ∈ S.take j, c ≠ 60 ∧ c ≠ 38 ∧ c ≠ 93) ∧ Hid (Below w.heap.size w wr)) (fun v7 _ => S.length - (intOf v7).toNat)
    case atStart => exact ⟨0, by omega, rfl, Lib.hid (by simp), hxN⟩
    case round =>
      clear hxN
      obtain ⟨j, hj, rfl, hok, hb⟩ := hrel
      by_cases hlt : j < S.length
      · have i1 : decide ((j : Int) < (S.length : Int)) = true := by simp; omega
        have hx : S[j]? = some S[j] := List.getElem?_eq_getElem hlt
        generalize S[j] = x at hx
        have hlt' : j < (strOf S).size := by omega
        have hgx := str_at hx hlt'
        have q1 : (j : Int) < (S.length : Int) := by omega
        have htk : S.take (j + 1) = S.take j ++ [x] := by rw [List.take_add_one, hx]; rfl
        have htk' := Lib.hid htk
        by_cases h60 : x = 60
        · have j60 : ((x.toNat : Int) == 60) = true := by rw [h60]; rfl
          go_wp2_with fail
          (try simp only [Exit.inBlock, Exit.then])
          go_ret
          exact ⟨rfl, hb.out⟩
        have j60 : ((x.toNat : Int) == 60) = false := by rw [show (60 : Int) = ((60 : UInt8).toNat : Int) from rfl, byte_eq, decide_eq_false h60]
        by_cases h38 : x = 38
        · have j38 : ((x.toNat : Int) == 38) = true := by rw [h38]; rfl
          clear h60
          go_wp2_with fail
          (try simp only [Exit.inBlock, Exit.then])
          go_ret
          exact ⟨rfl, hb.out⟩
        have j38 : ((x.toNat : Int) == 38) = false := by rw [show (38 : Int) = ((38 : UInt8).toNat : Int) from rfl, byte_eq, decide_eq_false h38]
        by_cases h93 : x = 93
        · have j93 : ((x.toNat : Int) == 93) = true := by rw [h93]; rfl
          clear h60 h38
          go_wp2_with fail
          (try simp only [Exit.inBlock, Exit.then])
          go_ret
          exact ⟨rfl, hb.out⟩
        have j93 : ((x.toNat : Int) == 93) = false := by rw [show (93 : Int) = ((93 : UInt8).toNat : Int) from rfl, byte_eq, decide_eq_false h93]
        have hok2 : Hid (∀ c ∈ S.take (j + 1), c ≠ 60 ∧ c ≠ 38 ∧ c ≠ 93) := Lib.hid (by
          rw [htk'.out]
          intro c hc
          rcases List.mem_append.1 hc with hc | hc
          · exact hok.out c hc
          · rw [List.mem_singleton.1 hc]
            exact ⟨h60, h38, h93⟩)
        clear h60 h38 h93 htk
        go_wp2_with fail
        go_roundw
        case rel => exact ⟨j + 1, by omega, by go_num, hok2, hb⟩
        case measure => simp [intOf]; omega
      · have i1 : decide ((j : Int) < (S.length : Int)) = false := by simp; omega
        obtain rfl : j = S.length := by omega
        have hok' : Hid (∀ c ∈ S, c ≠ 60 ∧ c ≠ 38 ∧ c ≠ 93) := Lib.hid (by have := hok.out; rw [List.take_length] at this; exact this)
        clear hok hlt
        obtain ⟨bd, cb, wD, hcv, hbs, hbD⟩ := conv_bytes wr S (by omega)
        have hxD := Lib.hid (hb.out.trans (hbD.mono hb.out.size))
        have hbs' := Lib.hid hbs
        clear hbs hbD
        go_wp2_with fail
        refine (All_any wD (hU'.out.below hxD.out) _ S.length cb S hbs'.out (by omega)).mono ?_
        intro e w3 h3
        obtain ⟨bs2, cb2, wS, hcv2, hbsS, hbS⟩ := conv_bytes w3 S (by omega)
        by_cases hbd : 0 ≤ badW S 0
        · obtain ⟨hb3, v, rfl, f3⟩ := h3.no (all_bad' (by omega) hbd) (by decide)
          have hx3 := Lib.hid (hxD.out.trans (hb3.mono hxD.out.size))
          have hxS := Lib.hid (hx3.out.trans (hbS.mono hx3.out.size))
          have fS := Lib.hid (Fe.later f3 hbS)
          have hbsS' := Lib.hid hbsS
          obtain ⟨Tv, av, rfl⟩ := f3.iface
          obtain ⟨bn, hbn⟩ : ∃ bn, badW S 0 = bn := ⟨_, rfl⟩
          rw [hbn] at hbd
          have i3 : decide (0 ≤ bn) = true := by simpa using hbd
          have hbn' := Lib.hid hbn
          clear h3 hb3 f3 hbsS hbS hbn hbd
          go_wp2_with fail
          refine (refBad_any _ S.length cb2 S (by omega) wS hbsS'.out).mono ?_
          rintro e w4 ⟨rfl, hb4⟩
          rw [hbn'.out]
          have f4 := Lib.hid (Fe.later fS.out hb4)
          have hx4 := Lib.hid (hxS.out.trans (hb4.mono hxS.out.size))
          clear hb4 fS hcv2
          go_wp2_with fail
          refine (Code_any 1 _ _ _ w.heap.size w4 (hE'.out.on hx4.out) f4.out).mono ?_
          rintro e w5 ⟨rfl, hb5⟩
          have hx5 := Lib.hid (hx4.out.trans (hb5.mono hx4.out.size))
          clear hb5 f4
          go_wp2_with fail
          (try simp only [Exit.inBlock, Exit.then])
          go_ret
          exact ⟨rfl, hx5.out⟩
        · have hbd2 : badW S 0 < 0 := by omega
          obtain ⟨bn, hbn⟩ : ∃ bn, badW S 0 = bn := ⟨_, rfl⟩
          have hbn' := Lib.hid hbn
          rw [hbn] at hbd
          have i3 : decide (0 ≤ bn) = false := by simpa using hbd
          by_cases hS0 : S = []
          · have i4 : ((strOf S).toList == []) = true := by rw [str_eqL, hS0]; rfl
            obtain ⟨hb3, A3, c3, rfl, ho3⟩ := h3.ok (p := 0) (ts := []) (by rw [hS0]; exact plain_nil)
            have hx3 := Lib.hid (hxD.out.trans (hb3.mono hxD.out.size))
            have hxS := Lib.hid (hx3.out.trans (hbS.mono hx3.out.size))
            have hbsS' := Lib.hid hbsS
            have hS0' := Lib.hid hS0
            clear h3 hb3 ho3 hbsS hbS hbn hbd hbd2 hS0
            go_wp2_with fail
            refine (refBad_any _ S.length cb2 S (by omega) wS hbsS'.out).mono ?_
            rintro e w4 ⟨rfl, hb4⟩
            rw [hbn'.out]
            have hx4 := Lib.hid (hxS.out.trans (hb4.mono hxS.out.size))
            clear hb4 hcv2
            go_wp2_with fail
            refine (Code_ok w4).mono ?_
            rintro e w5 ⟨rfl, hb5⟩
            have hx5 := Lib.hid (hx4.out.trans (hb5.mono hx4.out.size))
            clear hb5
            go_wp2_with fail
            (try simp only [Exit.inBlock, Exit.then])
            go_ret
            exact ⟨rfl, hx5.out⟩
          · have i4 : ((strOf S).toList == []) = false := by rw [str_eqL, decide_eq_false hS0]
            have hall : ∃ p, allF S = (0, p, [⟨4, 0, [], Utf.lines S, []⟩]) := by
              rcases plain_ok (by omega) hbd2 hS0 (fun h => (hok'.out _ h).1 rfl) (fun h => (hok'.out _ h).2.1 rfl) (fun h => (hok'.out _ h).2.2 rfl) with h | h
              · exact ⟨_, h⟩
              · exact h
            obtain ⟨p, hall⟩ := hall
            obtain ⟨hb3, A3, c3, rfl, ho3⟩ := h3.ok hall
            simp only [List.length_cons, List.length_nil] at ho3
            have hx3 := Lib.hid (hxD.out.trans (hb3.mono hxD.out.size))
            have hxS := Lib.hid (hx3.out.trans (hbS.mono hx3.out.size))
            have hoS := Lib.hid (ho3.below hbS)
            have hbsS' := Lib.hid hbsS
            clear h3 hb3 ho3 hbsS hbS hbn hbd hbd2 hS0 hall
            go_wp2_with fail
            refine (refBad_any _ S.length cb2 S (by omega) wS hbsS'.out).mono ?_
            rintro e w4 ⟨rfl, hb4⟩
            rw [hbn'.out]
            have ho4 := Lib.hid (hoS.out.below hb4)
            have hx4 := Lib.hid (hxS.out.trans (hb4.mono hxS.out.size))
            clear hb4 hoS hcv2
            obtain ⟨b1, off1, At, ct, rfl, _, _, _, _, k3, _, _⟩ := tk_at ho4.out (i := 0) rfl
            rw [Nat.zero_mul, Nat.add_zero] at k3
            dsimp only at k3
            have hq : Hid (∀ x, Below w4.heap.size w4 x → x.cell? ⟨b1, off1 + 3, none⟩ = some (.string (strOf (Utf.lines S)))) := Lib.hid fun x hx => cell_keep k3 hx
            have hdr : Hid (Below w4.heap.size w4 w4.drew) := Lib.hid (Joins.below_draws w4.heap.size w4 1)
            have hid1 : ((strOf (Utf.lines S)).toList == Utf.lines S) = true := by rw [str_eqL]; simp
            clear k3
            go_wp2_with fail
            refine Pl.wp_region_plan 15 (.take 0 (.run 1 (.take 2 (.take 3 (.take 4 (.take 5 (.take 6 (.take 7 (.take 8 (.take 9 (.take 10 (.take 11 (.take 12 (.take 13 (.run 14 .done))))))))))))))) (fun x => Below w4.heap.size w4 x) (by kernel_rfl) (by kernel_rfl) (by exact hdr.out) ?_
            simp only [Pl.fill, List.getElem?_cons_zero, List.getElem?_cons_succ, List.drop_succ_cons, List.drop_zero]
            iterate 1
              first
              | (refine Pl.take_go ?_ (by rfl) (fun _ _ _ h => h) ?_ ?_
                 rotate_left
                 · (intro x hSw; have s0 := hq.out x hSw; go_simp; try with_reducible rfl)
                 (try simp only [Act.put, List.setIfInBounds_toArray, List.set_cons_zero, List.set_cons_succ]))
              | (refine Pl.take_skip (by rfl) (fun _ _ _ h => h) ?_
                 (try simp only [Act.put, List.setIfInBounds_toArray, List.set_cons_zero, List.set_cons_succ]))
            refine Pl.run_go (fun K hK => ?_)
            go_simp
            refine (Code_ok _).mono ?_
            rintro e w5 ⟨rfl, hb5⟩
            have hb5' := Lib.hid (hdr.out.trans (hb5.mono hdr.out.size))
            dsimp only
            refine hK.out _ _ (Pl.more_go (fun x => Below w5.heap.size w5 x) (fun x hx => hb5'.out.trans (hx.mono hb5'.out.size)) (Below.refl _ _) ?_)
            clear hK K
            try simp only [Act.put, List.setIfInBounds_toArray, List.set_cons_zero, List.set_cons_succ]
            iterate 12
              first
              | (refine Pl.take_go ?_ (by rfl) (fun _ _ _ h => h) ?_ ?_
                 rotate_left
                 · (intro x hSw; have s0 := hq.out x (hb5'.out.trans (hSw.mono hb5'.out.size)); go_simp; try with_reducible rfl)
                 (try simp only [Act.put, List.setIfInBounds_toArray, List.set_cons_zero, List.set_cons_succ]))
              | (refine Pl.take_skip (by rfl) (fun _ _ _ h => h) ?_
                 (try simp only [Act.put, List.setIfInBounds_toArray, List.set_cons_zero, List.set_cons_succ]))
            refine Pl.run_go (fun K hK => ?_)
            go_simp
            refine (refLines_any (strOf S) (by rw [hsz]; omega) w5).mono ?_
            rintro e w6 ⟨rfl, hb6⟩
            rw [hls]
            have hx6 := Lib.hid (hx4.out.trans ((hb5'.out.trans (hb6.mono hb5'.out.size)).mono hx4.out.size))
            dsimp only
            refine hK.out _ _ (Pl.more_go (fun x => Below w6.heap.size w6 x) (fun x hx => hb6.trans (hx.mono hb6.size)) (Below.refl _ _) ?_)
            clear hK K
            try simp only [Act.put, List.setIfInBounds_toArray, List.set_cons_zero, List.set_cons_succ]
            refine Pl.done_go ?_
            go_wp2_with fail
            (try simp only [Exit.inBlock, Exit.then])
            go_ret
            exact ⟨rfl, hx6.out⟩
end
end Go.Proofs.YtcecmbbhjaeodaaGreatDoor.Xl
