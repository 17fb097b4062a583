/- The document's Load. -/
import Derived.Test.YtfdpnjebhllpkaaGreatDoorMDkRf
import Derived.Test.YtfdpnjebhllpkaaGreatDoorMSgGd
section
namespace Go.Proofs.YtfdpnjebhllpkaaGreatDoor.Dk
open Go.RowKit

theorem Ra.trs {w : World} {B rb : Nat} {lv tv : Value} {d : D} (h : Ra w B rb lv tv d) : ∃ A c, tv = .slice A d.tr.length c ∧ d.tr.length ≤ c ∧ c ≤ 9223372036854775807 ∧
    ∀ i t, d.tr[i]? = some t → ∃ g, A = some ⟨g, 0, none⟩ ∧ g < w.heap.size ∧ w.cell? ⟨g, i * 3, none⟩ = some (.int .i64 t.1) ∧ w.cell? ⟨g, i * 3 + 1, none⟩ = some (.int .i64 t.2.1) ∧ w.cell? ⟨g, i * 3 + 2, none⟩ = some (.int .i64 t.2.2) := by
  obtain ⟨A, c, h1, h2, h3, h4⟩ := row3_at h.tr
  refine ⟨A, c, h1, h2, h3, fun i t hi => ?_⟩
  have hg := trf_get hi
  obtain ⟨g, e, hlt, hc⟩ := h4 (by intro e; rw [e] at hg; simp at hg)
  exact ⟨g, e, hlt, hc _ _ hg.1, hc _ _ hg.2.1, hc _ _ hg.2.2⟩
theorem Ra.setOps {w : World} {B rb : Nat} {lv tv : Value} {d : D} (h : Ra w B rb lv tv d) (m : Nat) : Ra (w.setCell ⟨rb, 3, none⟩ (.int .i64 (m : Nat))) B rb lv tv { d with ops := m } ∧ Below B w (w.setCell ⟨rb, 3, none⟩ (.int .i64 (m : Nat))) ∧ Rm w (w.setCell ⟨rb, 3, none⟩ (.int .i64 (m : Nat))) :=
  h.setA (d' := { d with ops := m }) (grown_set w ⟨rb, 3, none⟩ (.int .i64 (m : Nat))) (setCell_blk h.blk _) (h.row_set 3 _) (h.tr_set 3 _)
theorem Ra.setDown {w : World} {B rb : Nat} {lv tv : Value} {d : D} (h : Ra w B rb lv tv d) (b : Bool) : Ra (w.setCell ⟨rb, 4, none⟩ (.bool b)) B rb lv tv { d with down := b } ∧ Below B w (w.setCell ⟨rb, 4, none⟩ (.bool b)) ∧ Rm w (w.setCell ⟨rb, 4, none⟩ (.bool b)) :=
  h.setA (d' := { d with down := b }) (grown_set w ⟨rb, 4, none⟩ (.bool b)) (setCell_blk h.blk _) (h.row_set 4 _) (h.tr_set 4 _)

/-- What befalls, as two numbers. -/
def Hurt (tr : List Tr) (i n : Nat) (T p : Int) : Prop := match (tr.drop i).find? (hits n) with | none => T = 0 ∧ p = 0 | some t => T = t.2.1 ∧ p = t.2.2
theorem Hurt.end_ {tr : List Tr} {n i : Nat} (h : tr.length ≤ i) : Hurt tr i n 0 0 := by
  unfold Hurt
  rw [List.drop_eq_nil_of_le h]
  exact ⟨rfl, rfl⟩
theorem Hurt.hit {tr : List Tr} {n i : Nat} {t : Tr} (hi : tr[i]? = some t) (ht : hits n t = true) : Hurt tr i n t.2.1 t.2.2 := by
  obtain ⟨hlt, e⟩ := List.getElem?_eq_some_iff.1 hi
  unfold Hurt
  rw [List.drop_eq_getElem_cons hlt, e, List.find?_cons_of_pos ht]
  exact ⟨rfl, rfl⟩
theorem Hurt.miss {tr : List Tr} {n i : Nat} {t : Tr} {T p : Int} (hi : tr[i]? = some t) (ht : hits n t = false) (h : Hurt tr (i + 1) n T p) : Hurt tr i n T p := by
  obtain ⟨hlt, e⟩ := List.getElem?_eq_some_iff.1 hi
  unfold Hurt at *
  rw [List.drop_eq_getElem_cons hlt, e, List.find?_cons_of_neg (by rw [ht]; decide)]
  exact h
theorem Hurt.out {tr : List Tr} {n : Nat} {T p : Int} (h : Hurt tr 0 n T p) : (trouble tr n = none ∧ T = 0 ∧ p = 0) ∨ (trouble tr n = some (T, p) ∧ 1 ≤ T ∧ T ≤ 3) := by
  unfold Hurt at h
  rw [List.drop_zero] at h
  unfold trouble
  cases hf : tr.find? (hits n) with
  | none => rw [hf] at h; exact .inl ⟨rfl, h⟩
  | some t =>
    rw [hf] at h
    have := List.find?_some hf
    unfold hits at this
    simp at this
    refine .inr ⟨?_, by rw [h.1]; exact this.2.1, by rw [h.1]; exact this.2.2⟩
    rw [h.1, h.2]
    rfl

theorem refuse_cut {d : D} {nm nt : Name} {n : Int} {b : List UInt8} {f : Fl} (h : refuse d 3 nm nt n b = 0) (hg : get d.fs nm = some f) : 0 ≤ n ∧ n ≤ (f.data.length : Int) := by
  unfold refuse at h
  rw [if_neg (by decide), hg] at h
  simp at h
  omega
theorem refuse_one {d : D} {nm nt : Name} {n : Int} {b : List UInt8} (h : refuse d 1 nm nt n b = 0) : get d.fs nm = none := by
  unfold refuse at h
  rw [if_pos rfl] at h
  cases hg : get d.fs nm with
  | none => rfl
  | some f =>
    rw [hg] at h
    split at h
    · omega
    · simp at h
theorem refuse_found {d : D} {K : Nat} {nm nt : Name} {n : Int} {b : List UInt8} (hK : K ≠ 1) (h : refuse d K nm nt n b = 0) : ∃ (i : Nat) (f : Fl), atI d.fs nm = (i : Nat) ∧ d.fs[i]? = some (nm, f) ∧ get d.fs nm = some f := by
  rcases atI_get (fs := d.fs) (nm := nm) with ⟨_, e2⟩ | ⟨i, f, h1⟩
  · unfold refuse at h
    rw [if_neg hK, e2] at h
    simp at h
  · exact ⟨i, f, h1⟩
theorem bs_take {w : World} {A : Option Addr} {n c q : Nat} {l : List UInt8} (h : Bs w A n c l) (hq : q ≤ n) : Bs w A q c (l.take q) := by
  have := h.cut 0 q (by omega) hq A (by intro b off e _; rw [e]; rfl) (fun e => e) (fun e => e)
  rw [Nat.sub_zero, Nat.sub_zero, List.drop_zero] at this
  exact this

set_option maxHeartbeats 4000000 in
set_option maxRecDepth 100000 in
theorem rDo_any (w : World) (B rb : Nat) (lv tv : Value) (d : D) (h : Ra w B rb lv tv d) (hG : Good d 1000 1000 1000000) (hroom : d.room ≤ 9223372036854775807)
    (K : Nat) (hK : 1 ≤ K ∧ K ≤ 6) (s s2 : ByteArray) (hs : s.size ≤ 1000) (hs2 : s2.size ≤ 1000) (n : Int) (Ab : Option Addr) (nb cb : Nat) (b : List UInt8) (hb : ∀ w', Below B w w' → Rm w w' → Bs w' Ab nb cb b) (hnb : nb ≤ 100000) :
    Calls Tryz.prog 82 #[.pointer (some ⟨rb, 0, none⟩), .int .i64 (K : Nat), .string s, .string s2, .int .i64 n, .slice Ab nb cb] w
      fun e w' => e = .returned (.int .i64 (op d K s.data.toList s2.data.toList n b).1) ∧ Rs B rb (op d K s.data.toList s2.data.toList n b).2 w w' := by
  obtain ⟨X, hX⟩ : ∃ X, op d K s.data.toList s2.data.toList n b = X := ⟨_, rfl⟩
  rw [hX]
  unfold op at hX
  have k4 : w.cell? ⟨rb, 4, none⟩ = some (.bool d.down) := cell_blk h.blk rfl
  cases hdn : d.down with
  | true =>
    rw [hdn, if_pos rfl] at hX
    rw [hdn] at k4
    obtain rfl := hX
    have hf := Lib.hid (Rs.refl h)
    clear h hb hdn hG
    go_enter Tryz.func82, Tryz.ntmps82
    go_wp2_with fail
    go_ret
    exact ⟨rfl, hf.out⟩
  | false =>
  rw [hdn, if_neg (by decide)] at hX
  rw [hdn] at k4
  have hops := hG.ops
  have htr := hG.tr
  have k3 : w.cell? ⟨rb, 3, none⟩ = some (.int .i64 (d.ops : Nat)) := cell_blk h.blk rfl
  have f3 : w.frozen? ⟨rb, 3, none⟩ = false := frozen_of_row w rb 3 _ _ h.blk
  obtain ⟨o1, ho1⟩ : ∃ o1, d.ops + 1 = o1 := ⟨_, rfl⟩
  have q1 : IntKind.i64.wrap ((d.ops : Int) + 1) = (o1 : Int) := by rw [show (d.ops : Int) + 1 = (o1 : Int) by omega]; exact wrap_nat o1 (by omega)
  rw [ho1] at hX
  obtain ⟨hR1, hB1, hM1⟩ := h.setOps o1
  have hBw : B ≤ w.heap.size := by have := h.base; have := h.lt; omega
  have hBw1 : B ≤ (w.setCell ⟨rb, 3, none⟩ (.int .i64 (o1 : Nat))).heap.size := by rw [set_size]; exact hBw
  obtain ⟨A, c, htv, hnc, hcm, hrow⟩ := hR1.trs
  subst htv
  have e1 : ({ d with ops := o1 } : D).tr = d.tr := rfl
  rw [e1] at hnc hrow
  obtain ⟨m, hm⟩ : ∃ m, d.tr.length = m := ⟨_, rfl⟩
  have k2 : (w.setCell ⟨rb, 3, none⟩ (.int .i64 (o1 : Nat))).cell? ⟨rb, 2, none⟩ = some (.slice A d.tr.length c) := cell_blk hR1.blk rfl
  rw [hm] at k2 hnc htr
  have q2 : IntKind.i64.wrap ((m : Int) - 1) = (m : Int) - 1 := wrap_sub m 1 (by omega) (by omega)
  obtain ⟨w1, hw1⟩ : ∃ w1, w.setCell ⟨rb, 3, none⟩ (.int .i64 (o1 : Nat)) = w1 := ⟨_, rfl⟩
  rw [hw1] at hR1 hB1 hM1 hrow k2 hBw1
  have hR1' := Lib.hid hR1
  have hB1' := Lib.hid hB1
  have hM1' := Lib.hid hM1
  have hrow' := Lib.hid hrow
  have hX' := Lib.hid hX
  have hG' := Lib.hid hG
  have hb' := Lib.hid hb
  have hm' := Lib.hid hm
  have hdn' := Lib.hid hdn
  clear h hR1 hB1 hM1 hrow hX hG hb hm e1 hdn ho1
  go_enter Tryz.func82, Tryz.ntmps82
  go_wp2_with fail
  clear k4 k3 f3 hw1 k2
  go_loopw [13, 14, 15] (fun t p i wr => ∃ (j : Nat) (T P : Int), j ≤ m ∧ i = .int .i64 ((j : Int) - 1) ∧ t = .int .i64 T ∧ p = .int .i64 P ∧ Hid (Hurt d.tr j o1 T P) ∧ Hid (Below w1.heap.size w1 wr)) (fun _ _ i _ => (intOf i + 1).toNat)
  case atStart => exact ⟨m, 0, 0, Nat.le_refl _, rfl, rfl, rfl, Lib.hid (Hurt.end_ (by have := hm'.out; omega)), Lib.hid (Below.refl _ _)⟩
  case round =>
    obtain ⟨j, T, P, hj, rfl, rfl, rfl, hhu, hbw⟩ := hrel
    have hRr := Lib.hid (hR1'.out.below hbw.out)
    rcases j with _ | j
    · have hGd := hG'.out
      have hmost := hGd.inv.most
      have hus := hGd.used
      have hn' : ∃ n' : Int, n' = (if K = 2 then (nb : Int) else n) := ⟨_, rfl⟩
      obtain ⟨n', hn'⟩ := hn'
      have hbl : b.length = nb := (hb'.out w (Below.refl _ _) (Rm.refl _)).len
      have hre := Lib.hid (rRefuse_any wr B rb lv (.slice A d.tr.length c) { d with ops := o1 } hRr.out K hK s s2 (by omega) (by omega) n' b (fun hk => by rw [hn', if_pos hk, hbl]) (by show used d.fs ≤ _; omega) hroom (by show d.fs.length ≤ _; omega))
      have hre2 : refuse { d with ops := o1 } K s.data.toList s2.data.toList n' b = refuse d K s.data.toList s2.data.toList n b := by
        unfold refuse
        by_cases k2 : K = 2
        · subst k2; rfl
        · rw [hn', if_neg k2]
      rw [hre2] at hre
      have hn'' := Lib.hid hn'
      clear hre2 hGd hn' hmost hus hbl
      have hrest : ∀ wz, Below w1.heap.size w1 wz → True := fun _ _ => trivial
      by_cases hk2 : K = 2
      · subst hk2
        obtain rfl : n' = (nb : Int) := by rw [hn''.out, if_pos rfl]
        go_wp2_with fail
        refine hre.out.mono ?_
        rintro e w3 ⟨rfl, q, rfl⟩
        have hb3 := Lib.hid (hbw.out.trans (Joins.below_draws _ wr q))
        generalize wr.drewN q = w3 at hb3 ⊢
        have hR3 := Lib.hid (hR1'.out.below hb3.out)
        have hon : Hid (∀ dd w', Rs B rb dd w3 w' → Rs B rb dd w w') := Lib.hid fun dd w' hr => hr.on (hB1'.out.trans (hb3.out.mono hBw1)) (hM1'.out.trans (Rm.below hb3.out))
        have hlt3 : Hid (B ≤ w3.heap.size) := Lib.hid (by have := hb3.out.size; omega)
        obtain ⟨R, hRf⟩ : ∃ R, refuse d 2 s.data.toList s2.data.toList n b = R := ⟨_, rfl⟩
        rw [hRf] at hX'
        rw [hRf]
        have hRf' := Lib.hid hRf
        clear hRf hre hbw hRr
        by_cases hR0 : R = 0
        · have hX2 := hX'.out
          rw [hR0, if_neg (by simp)] at hX2
          have hX2' := Lib.hid hX2
          have hRf2 := Lib.hid (hRf'.out.trans hR0)
          subst hR0
          clear hX2 hX' hRf'
          have hat := Lib.hid (rAt_any w3 B rb lv (.slice A d.tr.length c) { d with ops := o1 } hR3.out s)
          rcases hhu.out.out with ⟨htn, rfl, rfl⟩ | ⟨htn, hT1, hT3⟩
          · have hX3 : Hid ((0, { d with ops := o1, fs := act d.fs 2 s.data.toList s2.data.toList n b }) = X) := Lib.hid (by have := hX2'.out; rw [htn] at this; rw [hdn'.out]; exact this)
            clear htn hX2' hhu
            have hX4 : Hid (X = (0, { d with ops := o1, fs := upd s.data.toList (fun f => ⟨f.data ++ b, f.safe⟩) d.fs })) := Lib.hid (by rw [← hX3.out]; rfl)
            obtain ⟨i, f, e1, e2, e3⟩ := refuse_found (by decide) hRf2.out
            have hU := Lib.hid hG'.out.inv.up
            have hfl := Lib.hid (hG'.out.fl (by omega) _ (List.mem_of_getElem? e2))
            have e1' : atI ({ d with ops := o1 } : D).fs s.data.toList = (i : Nat) := e1
            rw [e1'] at hat
            obtain ⟨g, c9, s9, v, hlv, hnc9, hcm9, hBg, hgl, ⟨cs9, hgb⟩, m0, m1, m2, hs9, hov⟩ := hR3.out.at_ e2
            subst hlv
            obtain ⟨A0, c0, rfl, hbs⟩ := OwB.slice hov
            have hbs' := Lib.hid hbs
            obtain ⟨nf, hnf⟩ : ∃ nf, f.data.length = nf := ⟨_, rfl⟩
            obtain ⟨sf, hsf⟩ : ∃ sf, f.safe = sf := ⟨_, rfl⟩
            rw [hnf] at m1
            rw [hsf] at m2
            have hnf' := Lib.hid hnf
            have hsf' := Lib.hid hsf
            have hgb' := Lib.hid hgb
            obtain ⟨len, hlen⟩ : ∃ len, d.fs.length = len := ⟨_, rfl⟩
            have r1 : w3.cell? ⟨rb, 1, none⟩ = some (.slice (some ⟨g, 0, none⟩) d.fs.length c9) := cell_blk hR3.out.blk rfl
            have il : i < d.fs.length := (List.getElem?_eq_some_iff.1 e2).1
            rw [hlen] at r1 il
            have i0 : (0 : Int) ≤ (i : Int) := by omega
            have i1 : (i : Int) < (len : Int) := by omega
            have hlen' := Lib.hid hlen
            have e2' := Lib.hid e2
            have hgl' := Lib.hid hgl
            have hs9' := Lib.hid hs9
            have hov' := Lib.hid hov
            have hbs9 := hbs'
            rw [hnf'.out] at hbs9
            have hnf9 : nf ≤ 1000000000 := by have := hfl.out.2.1; simp only at this; have := hnf'.out; omega
            clear e1 e2 e3 e1' hX3 hRf2 hnf hsf hlen hbs hov hgb hgl hs9
            go_wp2_with fail
            refine hat.out.mono ?_
            rintro e w4 ⟨rfl, rfl⟩
            go_wp2_with fail
            refine Pl.wp_region_plan 17 (.take 0 (.take 1 (.take 2 (.take 3 (.take 4 (.take 6 (.take 7 (.take 8 (.take 9 (.take 10 (.take 11 (.take 12 (.take 13 (.take 15 (.run 5 (.run 14 (.run 16 .done)))))))))))))))))
              (fun x => x.cell? ⟨rb, 1, none⟩ = some (.slice (some ⟨g, 0, none⟩) len c9) ∧ x.cell? ⟨g, i * 3 + 1, none⟩ = some (.slice A0 nf c0)) (by kernel_rfl) (by kernel_rfl) (by exact ⟨r1, m1⟩) ?_
            simp only [Pl.fill, List.getElem?_cons_zero, List.getElem?_cons_succ, List.drop_succ_cons, List.drop_zero]
            iterate 14
              refine Pl.take_go ?_ (by rfl) (fun _ _ _ h => h) ?_ ?_
              rotate_left
              · (intro x hSw; (try dsimp only at hSw); go_simp; try with_reducible rfl)
              try simp only [Act.put, List.setIfInBounds_toArray, List.set_cons_zero, List.set_cons_succ]
            refine Pl.run_go (fun K hK => ?_)
            go_simp
            have hbz : Below w3.heap.size w3 (w3.alloc (.cells #[] 5)).drew := bD (below_alloc w3 _)
            have hnil : OwB (w3.alloc (.cells #[] 5)).drew w3.heap.size 5 (.slice (some ⟨w3.heap.size, 0, none⟩) 0 0) [] := ⟨by simp, .inr ⟨_, _, #[], rfl, Nat.le_refl _, heap_alloc_new w3 _, Nat.le_refl _, by decide, by simp, by simp⟩⟩
            have hnil' := Lib.hid hnil
            have hbz' := Lib.hid hbz
            clear hbz hnil
            obtain ⟨T9, hT⟩ : ∃ T9, w3.heap.size = T9 := ⟨_, rfl⟩
            have hT' := Lib.hid hT
            rw [hT] at hnil' hbz' ⊢
            clear hT
            generalize (w3.alloc (.cells #[] 5)).drew = x1 at hnil' hbz' ⊢
            have hup : ∀ x, Below T9 w3 x → Below w3.heap.size w3 x := fun x hb => by rw [hT'.out]; exact hb
            have hup' := Lib.hid hup
            have hBT : Hid (B ≤ T9) := Lib.hid (by have := hT'.out; have := hlt3.out; omega)
            have hbb : Hid (∀ x, Below T9 w3 x → Bs x Ab nb cb b) := Lib.hid fun x hbx => hb'.out x ((hB1'.out.trans (hb3.out.mono hBw1)).trans (hbx.mono hBT.out)) (hM1'.out.trans ((Rm.below hb3.out).trans (Rm.below (hup x hbx))))
            clear hup
            have p1 := ((hup'.out _ hbz'.out).cell (p := ⟨rb, 1, none⟩) hR3.out.lt).trans r1
            have p2 := ((hup'.out _ hbz'.out).cell (p := ⟨g, i * 3 + 1, none⟩) hgl'.out).trans m1
            refine hK.out _ _ (Pl.more_go _ (fun _ h => h) (by exact ⟨p1, p2⟩) ?_)
            clear hK K p1 p2
            try simp only [Act.put, List.setIfInBounds_toArray, List.set_cons_zero, List.set_cons_succ]
            refine Pl.run_list (fun K hK => ?_)
            refine append_bytes _ 22 5 Tryz.underlying22 (by kernel_rfl) rfl _ _ rfl T9 _ [] rfl hnil'.out A0 nf c0 f.data rfl (hbs9.out.below (hup'.out _ hbz'.out)) nf ?h3 ?h4 ?h5 ?_
            case h3 => simp
            case h4 => omega
            case h5 => have := hbz'.out.size; have := hT'.out; omega
            intro A2 c2 x2 ho hg hb
            have hb2 := Lib.hid (hbz'.out.trans hb)
            have ho2 := Lib.hid ho
            clear ho hg hb hnil' hbz'
            have p1 := ((hup'.out _ hb2.out).cell (p := ⟨rb, 1, none⟩) hR3.out.lt).trans r1
            have p2 := ((hup'.out _ hb2.out).cell (p := ⟨g, i * 3 + 1, none⟩) hgl'.out).trans m1
            refine hK.out _ _ (Pl.more_go _ (fun _ h => h) (by exact ⟨p1, p2⟩) ?_)
            clear hK K p1 p2
            try simp only [Act.put, List.setIfInBounds_toArray, List.set_cons_zero, List.set_cons_succ]
            refine Pl.run_list (fun K hK => ?_)
            refine append_bytes _ 22 5 Tryz.underlying22 (by kernel_rfl) rfl _ _ rfl T9 _ f.data rfl ?g1 Ab nb cb b rfl ?g2 (nf + nb) ?g3 ?g4 ?g5 ?_
            case g1 => have := ho2.out; rw [List.nil_append] at this; exact this
            case g2 => exact hbb.out _ hb2.out
            case g3 => rw [hnf'.out]
            case g4 => omega
            case g5 => have := hb2.out.size; have := hT'.out; have := (hup'.out _ hb2.out).size; omega
            intro A3 c3 x3 ho hg hb
            have hb4 := hb2.out.trans hb
            have hu2 := hup'.out _ hb4
            have hov2 : OwB x3 B 5 (.slice A3 (nf + nb) c3) (f.data ++ b) := OwB.base ho hBT.out
            have hW := Ra.rs_data (d := { d with ops := o1 }) (hR3.out.below hu2) hU.out e2'.out hov2 (gf := fun f => ⟨f.data ++ b, f.safe⟩) rfl
            have p1 := (hu2.cell (p := ⟨rb, 1, none⟩) hR3.out.lt).trans r1
            have p2 := (hu2.cell (p := ⟨g, i * 3 + 1, none⟩) hgl'.out).trans m1
            have hfz : x3.frozen? ⟨g, i * 3 + 1, none⟩ = false := frozen_of_row x3 g _ _ _ ((hu2.block g hgl'.out).trans hgb'.out)
            have hW2 := Lib.hid (hW.rs.on (hb4.mono hBT.out) (Rm.below hu2))
            have hRz := Lib.hid hW.2.2
            clear ho hg hb hb2 hb4 hu2 hov2 hW hup' hT' r1 m1 m0 m2 ho2 hbb
            refine hK.out _ _ (Pl.more_go _ (fun _ h => h) (by exact ⟨p1, p2⟩) ?_)
            clear hK K p1
            try simp only [Act.put, List.setIfInBounds_toArray, List.set_cons_zero, List.set_cons_succ]
            refine Pl.done_go ?_
            go_wp2_with fail
            go_ret
            rw [hX4.out]
            exact ⟨rfl, hon.out _ _ hW2.out⟩
          · have hX3 : Hid ((if T = 3 then (45, { d with ops := o1, fs := part d.fs 2 s.data.toList P b, down := true }) else (39 + T, { d with ops := o1, fs := part d.fs 2 s.data.toList P b })) = X) := Lib.hid (by have := hX2'.out; rw [htn] at this; rw [hdn'.out]; exact this)
            clear htn hX2' hhu
            have hTc : T = 1 ∨ T = 2 ∨ T = 3 := by omega
            have hT0 : decide (T > 0) = true := by rw [decide_eq_true_eq]; omega
            have hT00 : decide (0 < T) = true := by rw [decide_eq_true_eq]; omega
            by_cases hP : 0 < P
            · obtain ⟨pn, rfl⟩ : ∃ pn : Nat, P = pn := ⟨P.toNat, by omega⟩
              have hP1 : decide ((pn : Int) > 0) = true := by rw [decide_eq_true_eq]; omega
              have hP2 : decide (0 < pn) = true := by rw [decide_eq_true_eq]; omega
              obtain ⟨qm, hqm⟩ : ∃ qm, min pn nb = qm := ⟨_, rfl⟩
              have q8 : min (pn : Int) (nb : Int) = (qm : Int) := by omega
              have hqb : qm ≤ nb := by omega
              have hcb := Rd.le (hb'.out w (Below.refl _ _) (Rm.refl _))
              have hlb : b.length = nb := (hb'.out w (Below.refl _ _) (Rm.refl _)).len
              have q9 : (0 : Int) ≤ (qm : Int) ∧ (qm : Int) ≤ (cb : Int) := ⟨by omega, by omega⟩
              have q10 : (qm : Int) ≤ (cb : Int) := by omega
              have q11 : qm ≤ cb := by omega
              have hpt : Hid (part d.fs 2 s.data.toList ((pn : Nat) : Int) b = upd s.data.toList (fun f => ⟨f.data ++ b.take qm, f.safe⟩) d.fs) := Lib.hid (by
                have e : b.take pn = b.take qm := by
                  rw [← hqm]
                  rcases Nat.le_total pn nb with h | h
                  · rw [Nat.min_eq_left h]
                  · rw [Nat.min_eq_right h, List.take_of_length_le (by omega), List.take_of_length_le (by omega)]
                rw [← e]
                rfl)
              obtain ⟨i, f, e1, e2, e3⟩ := refuse_found (by decide) hRf2.out
              have hU := Lib.hid hG'.out.inv.up
              have hfl := Lib.hid (hG'.out.fl (by omega) _ (List.mem_of_getElem? e2))
              have e1' : atI ({ d with ops := o1 } : D).fs s.data.toList = (i : Nat) := e1
              rw [e1'] at hat
              obtain ⟨g, c9, s9, v, hlv, hnc9, hcm9, hBg, hgl, ⟨cs9, hgb⟩, m0, m1, m2, hs9, hov⟩ := hR3.out.at_ e2
              subst hlv
              obtain ⟨A0, c0, rfl, hbs⟩ := OwB.slice hov
              have hbs' := Lib.hid hbs
              obtain ⟨nf, hnf⟩ : ∃ nf, f.data.length = nf := ⟨_, rfl⟩
              obtain ⟨sf, hsf⟩ : ∃ sf, f.safe = sf := ⟨_, rfl⟩
              rw [hnf] at m1
              rw [hsf] at m2
              have hnf' := Lib.hid hnf
              have hsf' := Lib.hid hsf
              have hgb' := Lib.hid hgb
              obtain ⟨len, hlen⟩ : ∃ len, d.fs.length = len := ⟨_, rfl⟩
              have r1 : w3.cell? ⟨rb, 1, none⟩ = some (.slice (some ⟨g, 0, none⟩) d.fs.length c9) := cell_blk hR3.out.blk rfl
              have il : i < d.fs.length := (List.getElem?_eq_some_iff.1 e2).1
              rw [hlen] at r1 il
              have i0 : (0 : Int) ≤ (i : Int) := by omega
              have i1 : (i : Int) < (len : Int) := by omega
              have hlen' := Lib.hid hlen
              have e2' := Lib.hid e2
              have hgl' := Lib.hid hgl
              have hs9' := Lib.hid hs9
              have hov' := Lib.hid hov
              have hbs9 := hbs'
              rw [hnf'.out] at hbs9
              have hnf9 : nf ≤ 1000000000 := by have := hfl.out.2.1; simp only at this; have := hnf'.out; omega

              clear e1 e2 e3 e1' hRf2 hnf hsf hlen hbs hov hgb hgl hs9 hqm hlb hP
              go_wp2_with fail
              refine hat.out.mono ?_
              rintro e w4 ⟨rfl, rfl⟩
              go_wp2_with fail
              refine Pl.wp_region_plan 22 (.take 0 (.take 1 (.take 2 (.take 3 (.take 4 (.take 6 (.take 7 (.take 8 (.take 9 (.take 10 (.take 11 (.take 12 (.take 13 (.take 15 (.take 16 (.take 17 (.take 18 (.take 19 (.take 20 (.run 5 (.run 14 (.run 21 .done))))))))))))))))))))))
                (fun x => x.cell? ⟨rb, 1, none⟩ = some (.slice (some ⟨g, 0, none⟩) len c9) ∧ x.cell? ⟨g, i * 3 + 1, none⟩ = some (.slice A0 nf c0)) (by kernel_rfl) (by kernel_rfl) (by exact ⟨r1, m1⟩) ?_
              simp only [Pl.fill, List.getElem?_cons_zero, List.getElem?_cons_succ, List.drop_succ_cons, List.drop_zero]
              iterate 19
                refine Pl.take_go ?_ (by rfl) (fun _ _ _ h => h) ?_ ?_
                rotate_left
                · (intro x hSw; (try dsimp only at hSw); go_simp; try with_reducible rfl)
                try simp only [Act.put, List.setIfInBounds_toArray, List.set_cons_zero, List.set_cons_succ]
              refine Pl.run_go (fun K hK => ?_)
              go_simp
              have hbz : Below w3.heap.size w3 (w3.alloc (.cells #[] 5)).drew := bD (below_alloc w3 _)
              have hnil : OwB (w3.alloc (.cells #[] 5)).drew w3.heap.size 5 (.slice (some ⟨w3.heap.size, 0, none⟩) 0 0) [] := ⟨by simp, .inr ⟨_, _, #[], rfl, Nat.le_refl _, heap_alloc_new w3 _, Nat.le_refl _, by decide, by simp, by simp⟩⟩
              have hnil' := Lib.hid hnil
              have hbz' := Lib.hid hbz
              clear hbz hnil
              obtain ⟨T9, hT⟩ : ∃ T9, w3.heap.size = T9 := ⟨_, rfl⟩
              have hT' := Lib.hid hT
              rw [hT] at hnil' hbz' ⊢
              clear hT
              generalize (w3.alloc (.cells #[] 5)).drew = x1 at hnil' hbz' ⊢
              have hup : ∀ x, Below T9 w3 x → Below w3.heap.size w3 x := fun x hb => by rw [hT'.out]; exact hb
              have hup' := Lib.hid hup
              have hBT : Hid (B ≤ T9) := Lib.hid (by have := hT'.out; have := hlt3.out; omega)
              have hbb : Hid (∀ x, Below T9 w3 x → Bs x Ab nb cb b) := Lib.hid fun x hbx => hb'.out x ((hB1'.out.trans (hb3.out.mono hBw1)).trans (hbx.mono hBT.out)) (hM1'.out.trans ((Rm.below hb3.out).trans (Rm.below (hup x hbx))))
              clear hup
              have p1 := ((hup'.out _ hbz'.out).cell (p := ⟨rb, 1, none⟩) hR3.out.lt).trans r1
              have p2 := ((hup'.out _ hbz'.out).cell (p := ⟨g, i * 3 + 1, none⟩) hgl'.out).trans m1
              refine hK.out _ _ (Pl.more_go _ (fun _ h => h) (by exact ⟨p1, p2⟩) ?_)
              clear hK K p1 p2
              try simp only [Act.put, List.setIfInBounds_toArray, List.set_cons_zero, List.set_cons_succ]
              refine Pl.run_list (fun K hK => ?_)
              refine append_bytes _ 22 5 Tryz.underlying22 (by kernel_rfl) rfl _ _ rfl T9 _ [] rfl hnil'.out A0 nf c0 f.data rfl (hbs9.out.below (hup'.out _ hbz'.out)) nf ?h3 ?h4 ?h5 ?_
              case h3 => simp
              case h4 => omega
              case h5 => have := hbz'.out.size; have := hT'.out; omega
              intro A2 c2 x2 ho hg hb
              have hb2 := Lib.hid (hbz'.out.trans hb)
              have ho2 := Lib.hid ho
              clear ho hg hb hnil' hbz'
              have p1 := ((hup'.out _ hb2.out).cell (p := ⟨rb, 1, none⟩) hR3.out.lt).trans r1
              have p2 := ((hup'.out _ hb2.out).cell (p := ⟨g, i * 3 + 1, none⟩) hgl'.out).trans m1
              refine hK.out _ _ (Pl.more_go _ (fun _ h => h) (by exact ⟨p1, p2⟩) ?_)
              clear hK K p1 p2
              try simp only [Act.put, List.setIfInBounds_toArray, List.set_cons_zero, List.set_cons_succ]
              refine Pl.run_list (fun K hK => ?_)
              refine append_bytes _ 22 5 Tryz.underlying22 (by kernel_rfl) rfl _ _ rfl T9 _ f.data rfl ?g1 Ab qm cb (b.take qm) rfl ?g2 (nf + qm) ?g3 ?g4 ?g5 ?_
              case g1 => have := ho2.out; rw [List.nil_append] at this; exact this
              case g2 => exact bs_take (hbb.out _ hb2.out) hqb
              case g3 => rw [hnf'.out]
              case g4 => omega
              case g5 => have := hb2.out.size; have := hT'.out; have := (hup'.out _ hb2.out).size; omega
              intro A3 c3 x3 ho hg hb
              have hb4 := hb2.out.trans hb
              have hu2 := hup'.out _ hb4
              have hov2 : OwB x3 B 5 (.slice A3 (nf + qm) c3) (f.data ++ (b.take qm)) := OwB.base ho hBT.out
              have hW := Ra.rs_data (d := { d with ops := o1 }) (hR3.out.below hu2) hU.out e2'.out hov2 (gf := fun f => ⟨f.data ++ (b.take qm), f.safe⟩) rfl
              have p1 := (hu2.cell (p := ⟨rb, 1, none⟩) hR3.out.lt).trans r1
              have p2 := (hu2.cell (p := ⟨g, i * 3 + 1, none⟩) hgl'.out).trans m1
              have hfz : x3.frozen? ⟨g, i * 3 + 1, none⟩ = false := frozen_of_row x3 g _ _ _ ((hu2.block g hgl'.out).trans hgb'.out)
              have hW2 := Lib.hid (hW.rs.on (hb4.mono hBT.out) (Rm.below hu2))
              have hRz := Lib.hid hW.2.2
              clear ho hg hb hb2 hb4 hu2 hov2 hW hup' hT' r1 m1 m0 m2 ho2 hbb
              refine hK.out _ _ (Pl.more_go _ (fun _ h => h) (by exact ⟨p1, p2⟩) ?_)
              clear hK K p1
              try simp only [Act.put, List.setIfInBounds_toArray, List.set_cons_zero, List.set_cons_succ]
              refine Pl.done_go ?_

              have z4 : (x3.setCell ⟨g, i * 3 + 1, none⟩ (.slice A3 (nf + qm) c3)).frozen? ⟨rb, 4, none⟩ = false := frozen_of_row _ rb 4 _ _ hRz.out.blk
              have c4 : (x3.setCell ⟨g, i * 3 + 1, none⟩ (.slice A3 (nf + qm) c3)).cell? ⟨rb, 4, none⟩ = some (.bool d.down) := cell_blk hRz.out.blk rfl
              clear hT1 hT3
              rcases hTc with rfl | rfl | rfl
              · have hX4 : Hid (X = (40, { d with ops := o1, fs := upd s.data.toList (fun f => ⟨f.data ++ b.take qm, f.safe⟩) d.fs })) := Lib.hid (by rw [← hX3.out, if_neg (by decide), hpt.out]; rfl)
                clear hX3 hpt
                go_wp2_with fail
                go_ret
                rw [hX4.out]
                exact ⟨rfl, hon.out _ _ hW2.out⟩
              · have hX4 : Hid (X = (41, { d with ops := o1, fs := upd s.data.toList (fun f => ⟨f.data ++ b.take qm, f.safe⟩) d.fs })) := Lib.hid (by rw [← hX3.out, if_neg (by decide), hpt.out]; rfl)
                clear hX3 hpt
                go_wp2_with fail
                go_ret
                rw [hX4.out]
                exact ⟨rfl, hon.out _ _ hW2.out⟩
              · have hX4 : Hid (X = (45, { d with ops := o1, fs := upd s.data.toList (fun f => ⟨f.data ++ b.take qm, f.safe⟩) d.fs, down := true })) := Lib.hid (by rw [← hX3.out, if_pos rfl, hpt.out])
                clear hX3 hpt
                go_wp2_with fail
                go_ret
                rw [hX4.out]
                obtain ⟨g1, g2, g3⟩ := hRz.out.setDown true
                exact ⟨rfl, hon.out _ _ ⟨hW2.out.1.trans g2, hW2.out.2.1.trans g3, _, _, g1⟩⟩

            · have hP1 : decide (P > 0) = false := by rw [decide_eq_false_iff_not]; omega
              have hP2 : decide (0 < P) = false := by rw [decide_eq_false_iff_not]; omega
              have hpt : Hid (part d.fs 2 s.data.toList P b = d.fs) := Lib.hid (by
                have e : P.toNat = 0 := by omega
                unfold part
                rw [if_pos rfl, e]
                exact upd_id (fun f => by rw [List.take_zero, List.append_nil]) _)
              obtain ⟨i, f, e1, e2, e3⟩ := refuse_found (by decide) hRf2.out
              have hU := Lib.hid hG'.out.inv.up
              have hfl := Lib.hid (hG'.out.fl (by omega) _ (List.mem_of_getElem? e2))
              have e1' : atI ({ d with ops := o1 } : D).fs s.data.toList = (i : Nat) := e1
              rw [e1'] at hat

              have z4 : w3.frozen? ⟨rb, 4, none⟩ = false := frozen_of_row w3 rb 4 _ _ hR3.out.blk
              have c4 : w3.cell? ⟨rb, 4, none⟩ = some (.bool d.down) := cell_blk hR3.out.blk rfl
              clear hT1 hT3 e1 e2 e3 e1' hRf2 hP
              rcases hTc with rfl | rfl | rfl

              · have hX4 : Hid (X = (40, { d with ops := o1 })) := Lib.hid (by rw [← hX3.out, if_neg (by decide), hpt.out]; rfl)
                clear hX3 hpt
                go_wp2_with fail
                refine hat.out.mono ?_
                rintro e w4 ⟨rfl, rfl⟩
                go_wp2_with fail
                go_ret
                rw [hX4.out]
                exact ⟨rfl, hon.out _ _ (Rs.refl hR3.out)⟩
              · have hX4 : Hid (X = (41, { d with ops := o1 })) := Lib.hid (by rw [← hX3.out, if_neg (by decide), hpt.out]; rfl)
                clear hX3 hpt
                go_wp2_with fail
                refine hat.out.mono ?_
                rintro e w4 ⟨rfl, rfl⟩
                go_wp2_with fail
                go_ret
                rw [hX4.out]
                exact ⟨rfl, hon.out _ _ (Rs.refl hR3.out)⟩
              · have hX4 : Hid (X = (45, { d with ops := o1, down := true })) := Lib.hid (by rw [← hX3.out, if_pos rfl, hpt.out])
                clear hX3 hpt
                go_wp2_with fail
                refine hat.out.mono ?_
                rintro e w4 ⟨rfl, rfl⟩
                go_wp2_with fail
                go_ret
                rw [hX4.out]
                obtain ⟨g1, g2, g3⟩ := hR3.out.setDown true
                exact ⟨rfl, hon.out _ _ ⟨g2, g3, _, _, g1⟩⟩
        · have hX2 : Hid ((R, { d with ops := o1 }) = X) := Lib.hid (by have := hX'.out; rw [if_pos hR0] at this; rw [hdn'.out]; exact this)
          have j3 : (R != 0) = true := by simpa using hR0
          clear hX' hRf' hhu hR0
          go_wp2_with fail
          go_ret
          rw [← hX2.out]
          exact ⟨rfl, hon.out _ _ (Rs.refl hR3.out)⟩
      · obtain rfl : n = n' := by rw [hn''.out, if_neg hk2]
        have j2 : ((K : Int) == 2) = false := by rw [beq_eq_false_iff_ne]; omega
        have j2' : (K == 2) = false := by rw [beq_eq_false_iff_ne]; exact hk2
        go_wp2_with fail
        refine hre.out.mono ?_
        rintro e w3 ⟨rfl, q, rfl⟩
        have hb3 := Lib.hid (hbw.out.trans (Joins.below_draws _ wr q))
        generalize wr.drewN q = w3 at hb3 ⊢
        have hR3 := Lib.hid (hR1'.out.below hb3.out)
        have hon : Hid (∀ dd w', Rs B rb dd w3 w' → Rs B rb dd w w') := Lib.hid fun dd w' hr => hr.on (hB1'.out.trans (hb3.out.mono hBw1)) (hM1'.out.trans (Rm.below hb3.out))
        have hlt3 : Hid (B ≤ w3.heap.size) := Lib.hid (by have := hb3.out.size; omega)
        obtain ⟨R, hRf⟩ : ∃ R, refuse d K s.data.toList s2.data.toList n b = R := ⟨_, rfl⟩
        rw [hRf] at hX'
        rw [hRf]
        have hRf' := Lib.hid hRf
        clear hRf hre hbw hRr
        by_cases hR0 : R = 0
        · have hX2 := hX'.out
          rw [hR0, if_neg (by simp)] at hX2
          have hX2' := Lib.hid hX2
          have hRf2 := Lib.hid (hRf'.out.trans hR0)
          subst hR0
          clear hX2 hX' hRf'
          have hat := Lib.hid (rAt_any w3 B rb lv (.slice A d.tr.length c) { d with ops := o1 } hR3.out s)
          rcases hhu.out.out with ⟨htn, rfl, rfl⟩ | ⟨htn, hT1, hT3⟩
          · have hX3 : Hid ((0, { d with ops := o1, fs := act d.fs K s.data.toList s2.data.toList n b }) = X) := Lib.hid (by have := hX2'.out; rw [htn] at this; rw [hdn'.out]; exact this)
            clear htn hX2' hhu
            have hKc : K = 1 ∨ K = 3 ∨ K = 4 ∨ K = 5 ∨ K = 6 := by omega
            rcases hKc with rfl | rfl | rfl | rfl | rfl
            · have hX4 : Hid (X = (0, { d with ops := o1, fs := ins s.data.toList ⟨[], 0⟩ d.fs })) := Lib.hid (by rw [← hX3.out]; rfl)
              have hgn := refuse_one hRf2.out
              have e1 : atI ({ d with ops := o1 } : D).fs s.data.toList = -1 := by
                rcases atI_get (fs := d.fs) (nm := s.data.toList) with ⟨e1, _⟩ | ⟨i, f, _, _, e3⟩
                · exact e1
                · rw [hgn] at e3; cases e3
              rw [e1] at hat
              have hput := Lib.hid (rPut_any w3 B rb lv (.slice A d.tr.length c) { d with ops := o1 } hR3.out s (by omega) none 0 0 [] (Rd.none_ _) (by omega) 0 (get_none.1 hgn) (fun p hp => by have := (hG'.out.fl (by omega) p hp).1; omega) (by have := hG'.out.inv.most; show d.fs.length ≤ _; omega))
              clear hgn e1 hX3 hRf2
              go_wp2_with fail
              refine hat.out.mono ?_
              rintro e w4 ⟨rfl, rfl⟩
              go_wp2_with fail
              refine hput.out.mono ?_
              rintro e w5 ⟨rfl, hp, _⟩
              have hp' := Lib.hid hp
              clear hp
              go_wp2_with fail
              go_ret
              rw [hX4.out]
              exact ⟨rfl, hon.out _ _ hp'.out⟩
            · have hX4 : Hid (X = (0, { d with ops := o1, fs := upd s.data.toList (fun f => ⟨f.data.take n.toNat, min f.safe n.toNat⟩) d.fs })) := Lib.hid (by rw [← hX3.out]; rfl)
              obtain ⟨i, f, e1, e2, e3⟩ := refuse_found (by decide) hRf2.out
              have hU := Lib.hid hG'.out.inv.up
              have hfl := Lib.hid (hG'.out.fl (by omega) _ (List.mem_of_getElem? e2))
              have e1' : atI ({ d with ops := o1 } : D).fs s.data.toList = (i : Nat) := e1
              rw [e1'] at hat
              obtain ⟨hn0, hn1⟩ := refuse_cut hRf2.out e3
              obtain ⟨mn, rfl⟩ : ∃ mn : Nat, n = mn := ⟨n.toNat, by omega⟩
              obtain ⟨g, c9, s9, v, hlv, hnc9, hcm9, hBg, hgl, ⟨cs9, hgb⟩, m0, m1, m2, hs9, hov⟩ := hR3.out.at_ e2
              subst hlv
              obtain ⟨A0, c0, rfl, hbs⟩ := OwB.slice hov
              have hbs' := Lib.hid hbs
              obtain ⟨nf, hnf⟩ : ∃ nf, f.data.length = nf := ⟨_, rfl⟩
              obtain ⟨sf, hsf⟩ : ∃ sf, f.safe = sf := ⟨_, rfl⟩
              rw [hnf] at m1
              rw [hsf] at m2
              have hnf' := Lib.hid hnf
              have hsf' := Lib.hid hsf
              have hgb' := Lib.hid hgb
              obtain ⟨len, hlen⟩ : ∃ len, d.fs.length = len := ⟨_, rfl⟩
              have r1 : w3.cell? ⟨rb, 1, none⟩ = some (.slice (some ⟨g, 0, none⟩) d.fs.length c9) := cell_blk hR3.out.blk rfl
              have il : i < d.fs.length := (List.getElem?_eq_some_iff.1 e2).1
              rw [hlen] at r1 il
              have i0 : (0 : Int) ≤ (i : Int) := by omega
              have i1 : (i : Int) < (len : Int) := by omega
              have hlen' := Lib.hid hlen
              have e2' := Lib.hid e2
              have hgl' := Lib.hid hgl
              have hs9' := Lib.hid hs9
              have hov' := Lib.hid hov
              have hmn : mn ≤ nf := by omega
              have hnc := Rd.le hbs
              rw [hnf] at hnc
              have hnf9 : nf ≤ 1000000000 := by have := hfl.out.2.1; simp only at this; omega
              have hcut := hbs.cut 0 mn (by omega) (by omega) A0 (by intro b off e _; rw [e]; rfl) (fun e => e) (fun e => e)
              rw [Nat.sub_zero, Nat.sub_zero, List.drop_zero] at hcut
              have hcut' := Lib.hid hcut
              have q5 : 0 ≤ (mn : Int) ∧ (mn : Int) ≤ (c0 : Int) := ⟨by omega, by omega⟩
              have q6 : (mn : Int) ≤ (c0 : Int) := by omega
              have q7 : mn ≤ c0 := by omega
              clear e1 e2 e3 e1' hX3 hRf2 hnf hsf hlen hbs hov hgb hgl hs9 hcut hn0 hn1
              go_wp2_with fail
              refine hat.out.mono ?_
              rintro e w4 ⟨rfl, rfl⟩
              go_wp2_with fail
              refine Pl.wp_region_plan 17 (.take 0 (.take 1 (.take 2 (.take 3 (.take 4 (.take 6 (.take 7 (.take 8 (.take 9 (.take 10 (.take 11 (.take 12 (.take 13 (.take 14 (.take 15 (.run 5 (.run 16 .done)))))))))))))))))
                (fun x => x.cell? ⟨rb, 1, none⟩ = some (.slice (some ⟨g, 0, none⟩) len c9) ∧ x.cell? ⟨g, i * 3 + 1, none⟩ = some (.slice A0 nf c0)) (by kernel_rfl) (by kernel_rfl) (by exact ⟨r1, m1⟩) ?_
              simp only [Pl.fill, List.getElem?_cons_zero, List.getElem?_cons_succ, List.drop_succ_cons, List.drop_zero]
              iterate 15
                refine Pl.take_go ?_ (by rfl) (fun _ _ _ h => h) ?_ ?_
                rotate_left
                · (intro x hSw; (try dsimp only at hSw); go_simp; try with_reducible rfl)
                try simp only [Act.put, List.setIfInBounds_toArray, List.set_cons_zero, List.set_cons_succ]
              refine Pl.run_go (fun K hK => ?_)
              go_simp
              have hbz : Below w3.heap.size w3 (w3.alloc (.cells #[] 5)).drew := bD (below_alloc w3 _)
              have hnil : OwB (w3.alloc (.cells #[] 5)).drew w3.heap.size 5 (.slice (some ⟨w3.heap.size, 0, none⟩) 0 0) [] := ⟨by simp, .inr ⟨_, _, #[], rfl, Nat.le_refl _, heap_alloc_new w3 _, Nat.le_refl _, by decide, by simp, by simp⟩⟩
              have hnil' := Lib.hid hnil
              have hbz' := Lib.hid hbz
              clear hbz hnil
              obtain ⟨T, hT⟩ : ∃ T, w3.heap.size = T := ⟨_, rfl⟩
              have hT' := Lib.hid hT
              rw [hT] at hnil' hbz' ⊢
              clear hT
              generalize (w3.alloc (.cells #[] 5)).drew = x1 at hnil' hbz' ⊢
              have hup : ∀ x, Below T w3 x → Below w3.heap.size w3 x := fun x hb => by rw [hT'.out]; exact hb
              have hup' := Lib.hid hup
              clear hup
              have p1 := ((hup'.out _ hbz'.out).cell (p := ⟨rb, 1, none⟩) hR3.out.lt).trans r1
              have p2 := ((hup'.out _ hbz'.out).cell (p := ⟨g, i * 3 + 1, none⟩) hgl'.out).trans m1
              refine hK.out _ _ (Pl.more_go _ (fun _ h => h) (by exact ⟨p1, p2⟩) ?_)
              clear hK K p1 p2
              try simp only [Act.put, List.setIfInBounds_toArray, List.set_cons_zero, List.set_cons_succ]
              refine Pl.run_list (fun K hK => ?_)
              refine append_bytes _ 22 5 Tryz.underlying22 (by kernel_rfl) rfl _ _ rfl T _ [] rfl hnil'.out A0 mn c0 (f.data.take mn) rfl (hcut'.out.below (hup'.out _ hbz'.out)) mn ?h3 ?h4 ?h5 ?_
              case h3 => simp
              case h4 => omega
              case h5 => have := hbz'.out.size; have := hT'.out; omega
              intro A2 c2 x2 ho hg hb
              have hb2 : Below T w3 x2 := hbz'.out.trans hb
              have hu2 := hup'.out _ hb2
              have hov2 : OwB x2 B 5 (.slice A2 mn c2) (f.data.take mn) := OwB.base (by rw [List.nil_append] at ho; exact ho) (by have := hT'.out; have := hlt3.out; omega)
              have hW := Ra.rs_data (d := { d with ops := o1 }) (hR3.out.below hu2) hU.out e2'.out hov2 (gf := fun f => ⟨f.data.take mn, f.safe⟩) rfl
              have p1 := (hu2.cell (p := ⟨rb, 1, none⟩) hR3.out.lt).trans r1
              have p2 := (hu2.cell (p := ⟨g, i * 3 + 1, none⟩) hgl'.out).trans m1
              have hfz : x2.frozen? ⟨g, i * 3 + 1, none⟩ = false := frozen_of_row x2 g _ _ _ ((hu2.block g hgl'.out).trans hgb'.out)
              have hB2 := Lib.hid (hb2.mono (by have := hT'.out; have := hlt3.out; omega : B ≤ T))
              have hM2 := Lib.hid (Rm.below hu2)
              have hW' := Lib.hid hW
              clear ho hg hb hb2 hu2 hov2 hW hnil' hbz' hup' hT' hcut' r1 m1 m0 m2
              refine hK.out _ _ (Pl.more_go _ (fun _ h => h) (by exact ⟨p1, p2⟩) ?_)
              clear hK K p1
              try simp only [Act.put, List.setIfInBounds_toArray, List.set_cons_zero, List.set_cons_succ]
              refine Pl.done_go ?_
              go_wp2_with fail
              generalize x2.setCell ⟨g, i * 3 + 1, none⟩ (.slice A2 mn c2) = w5 at hW' ⊢
              have e5 : (upd s.data.toList (fun f => (⟨f.data.take mn, f.safe⟩ : Fl)) d.fs)[i]? = some (s.data.toList, ⟨f.data.take mn, f.safe⟩) := by
                rw [upd_at hU.out e2'.out, List.getElem?_set_self (List.getElem?_eq_some_iff.1 e2'.out).1]
              have hR5 := hW'.out.2.2
              have e6 : d.fs.length = (upd s.data.toList (fun f => (⟨f.data.take mn, f.safe⟩ : Fl)) d.fs).length := upd_len.symm
              obtain ⟨g', c', s', v', hlv, _, _, _, hgl5, ⟨cs5, hgb5⟩, _, _, n2, _, _⟩ := hR5.at_ e5
              injection hlv with hlv _ _
              injection hlv with hlv
              injection hlv with hlv _ _
              subst hlv
              simp only at n2
              rw [hsf'.out] at n2
              have r5 : w5.cell? ⟨rb, 1, none⟩ = some (.slice (some ⟨g, 0, none⟩) d.fs.length c9) := cell_blk hR5.blk rfl
              rw [hlen'.out] at r5
              rw [e6] at hR5
              have hbz : Below w5.heap.size w5 w5.drew := bD (Below.refl _ _)
              have hS := (((Ra.rs_safe (d := { d with ops := o1, fs := upd s.data.toList (fun f => (⟨f.data.take mn, f.safe⟩ : Fl)) d.fs }) (hR5.below hbz) (show Up (upd s.data.toList (fun f => (⟨f.data.take mn, f.safe⟩ : Fl)) d.fs) from upd_up hU.out) e5 (min sf mn) (gf := fun f => ⟨f.data, min f.safe mn⟩) (by rw [← hsf'.out])).rs).on (hbz.mono (Nat.le_trans hR5.base (Nat.le_of_lt hR5.lt))) (Rm.below hbz))
              rw [show ({ d with ops := o1, fs := upd s.data.toList (fun f => ⟨f.data.take mn, f.safe⟩) d.fs } : D).fs = upd s.data.toList (fun f => (⟨f.data.take mn, f.safe⟩ : Fl)) d.fs from rfl, upd_upd] at hS
              have hfin := Lib.hid (hon.out _ _ (hS.on (hB2.out.trans hW'.out.1) (hM2.out.trans hW'.out.2.1)))
              rw [show ((min sf mn : Nat) : Int) = min (sf : Int) (mn : Int) by omega] at hfin
              have hfz5 : w5.drew.frozen? ⟨g, i * 3 + 2, none⟩ = false := frozen_of_row w5.drew g _ _ _ ((hbz.block g hgl5).trans hgb5)
              have n3 := (hbz.cell (p := ⟨g, i * 3 + 2, none⟩) hgl5).trans n2
              clear hS hR5 e5 e6 hW' hbz hgb5 hfz p2 hgl5
              refine Pl.wp_region_plan 15 (.take 0 (.take 1 (.take 2 (.take 3 (.take 4 (.take 5 (.take 6 (.take 7 (.take 8 (.take 9 (.take 10 (.take 11 (.take 12 (.take 13 (.take 14 .done)))))))))))))))
                (fun x => x.cell? ⟨rb, 1, none⟩ = some (.slice (some ⟨g, 0, none⟩) len c9) ∧ x.cell? ⟨g, i * 3 + 2, none⟩ = some (.int .i64 (sf : Nat))) (by kernel_rfl) (by kernel_rfl) (by exact ⟨r5, n2⟩) ?_
              simp only [Pl.fill, List.getElem?_cons_zero, List.getElem?_cons_succ, List.drop_succ_cons, List.drop_zero]
              iterate 15
                refine Pl.take_go ?_ (by rfl) (fun _ _ _ h => h) ?_ ?_
                rotate_left
                · (intro x hSw; (try dsimp only at hSw); go_simp; try with_reducible rfl)
                try simp only [Act.put, List.setIfInBounds_toArray, List.set_cons_zero, List.set_cons_succ]
              refine Pl.done_go ?_
              clear r5 n2 hR3 hlt3 hgb' hgl' hov' hbs' hat hb3 hon
              generalize w5.drew = wz at hfin hfz5 n3 ⊢
              go_wp2_with fail
              go_ret
              rw [hX4.out]
              exact ⟨rfl, hfin.out⟩
            · have hX4 : Hid (X = (0, { d with ops := o1, fs := upd s.data.toList (fun f => ⟨f.data, f.data.length⟩) d.fs })) := Lib.hid (by rw [← hX3.out]; rfl)
              obtain ⟨i, f, e1, e2, e3⟩ := refuse_found (by decide) hRf2.out
              have hU := Lib.hid hG'.out.inv.up
              have hfl := Lib.hid (hG'.out.fl (by omega) _ (List.mem_of_getElem? e2))
              have e1' : atI ({ d with ops := o1 } : D).fs s.data.toList = (i : Nat) := e1
              rw [e1'] at hat
              obtain ⟨g, c9, s9, v, hlv, hnc9, hcm9, hBg, hgl, ⟨cs9, hgb⟩, m0, m1, m2, hs9, hov⟩ := hR3.out.at_ e2
              subst hlv
              obtain ⟨A0, c0, rfl, hbs⟩ := OwB.slice hov
              have hbs' := Lib.hid hbs
              obtain ⟨nf, hnf⟩ : ∃ nf, f.data.length = nf := ⟨_, rfl⟩
              obtain ⟨sf, hsf⟩ : ∃ sf, f.safe = sf := ⟨_, rfl⟩
              rw [hnf] at m1
              rw [hsf] at m2
              have hnf' := Lib.hid hnf
              have hsf' := Lib.hid hsf
              have hgb' := Lib.hid hgb
              obtain ⟨len, hlen⟩ : ∃ len, d.fs.length = len := ⟨_, rfl⟩
              have r1 : w3.cell? ⟨rb, 1, none⟩ = some (.slice (some ⟨g, 0, none⟩) d.fs.length c9) := cell_blk hR3.out.blk rfl
              have il : i < d.fs.length := (List.getElem?_eq_some_iff.1 e2).1
              rw [hlen] at r1 il
              have i0 : (0 : Int) ≤ (i : Int) := by omega
              have i1 : (i : Int) < (len : Int) := by omega
              have hlen' := Lib.hid hlen
              have e2' := Lib.hid e2
              have hgl' := Lib.hid hgl
              have hs9' := Lib.hid hs9
              have hov' := Lib.hid hov
              have hbz : Below w3.heap.size w3 w3.drew := bD (Below.refl _ _)
              have hfin := Lib.hid (hon.out _ _ ((((hR3.out.below hbz).rs_safe hU.out e2 f.data.length (gf := fun f => ⟨f.data, f.data.length⟩) rfl).rs).on (hbz.mono hlt3.out) (Rm.below hbz)))
              rw [hnf] at hfin
              have hfz : w3.drew.frozen? ⟨g, i * 3 + 2, none⟩ = false := frozen_of_row w3.drew g _ _ _ ((hbz.block g hgl).trans hgb)
              have n2 := (hbz.cell (p := ⟨g, i * 3 + 2, none⟩) hgl).trans m2
              clear e1 e2 e3 e1' hX3 hRf2 hnf hsf hlen hbs hov hgb hgl hs9 hbz
              go_wp2_with fail
              refine hat.out.mono ?_
              rintro e w4 ⟨rfl, rfl⟩
              go_wp2_with fail
              refine Pl.wp_region_plan 14 (.take 0 (.take 1 (.take 2 (.take 3 (.take 4 (.take 5 (.take 6 (.take 7 (.take 8 (.take 9 (.take 10 (.take 11 (.take 12 (.take 13 .done))))))))))))))
                (fun x => x.cell? ⟨rb, 1, none⟩ = some (.slice (some ⟨g, 0, none⟩) len c9) ∧ x.cell? ⟨g, i * 3 + 1, none⟩ = some (.slice A0 nf c0)) (by kernel_rfl) (by kernel_rfl) (by exact ⟨r1, m1⟩) ?_
              simp only [Pl.fill, List.getElem?_cons_zero, List.getElem?_cons_succ, List.drop_succ_cons, List.drop_zero]
              iterate 14
                refine Pl.take_go ?_ (by rfl) (fun _ _ _ h => h) ?_ ?_
                rotate_left
                · (intro x hSw; (try dsimp only at hSw); go_simp; try with_reducible rfl)
                try simp only [Act.put, List.setIfInBounds_toArray, List.set_cons_zero, List.set_cons_succ]
              refine Pl.done_go ?_
              clear r1 m1 m2 m0 hR3 hlt3 hgb' hgl' hov' hbs' hat hb3 hon
              generalize w3.drew = wz at hfin hfz n2 ⊢
              go_wp2_with fail
              go_ret
              rw [hX4.out]
              exact ⟨rfl, hfin.out⟩
            · have hX4 : Hid (∀ f, get d.fs s.data.toList = some f → X = (0, { d with ops := o1, fs := ins s2.data.toList f (del s2.data.toList (del s.data.toList d.fs)) })) := Lib.hid (fun f hf => by rw [← hX3.out]; unfold act; simp [hf])
              obtain ⟨i, f, e1, e2, e3⟩ := refuse_found (by decide) hRf2.out
              have hU := Lib.hid hG'.out.inv.up
              have hfl := Lib.hid (hG'.out.fl (by omega) _ (List.mem_of_getElem? e2))
              have e1' : atI ({ d with ops := o1 } : D).fs s.data.toList = (i : Nat) := e1
              rw [e1'] at hat
              have hX5 := Lib.hid (hX4.out f e3)
              obtain ⟨g, c9, s9, v, hlv, hnc9, hcm9, hBg, hgl, ⟨cs9, hgb⟩, m0, m1, m2, hs9, hov⟩ := hR3.out.at_ e2
              subst hlv
              obtain ⟨A0, c0, rfl, hbs⟩ := OwB.slice hov
              have hbs' := Lib.hid hbs
              obtain ⟨nf, hnf⟩ : ∃ nf, f.data.length = nf := ⟨_, rfl⟩
              obtain ⟨sf, hsf⟩ : ∃ sf, f.safe = sf := ⟨_, rfl⟩
              rw [hnf] at m1
              rw [hsf] at m2
              have hnf' := Lib.hid hnf
              have hsf' := Lib.hid hsf
              have hgb' := Lib.hid hgb
              obtain ⟨len, hlen⟩ : ∃ len, d.fs.length = len := ⟨_, rfl⟩
              have r1 : w3.cell? ⟨rb, 1, none⟩ = some (.slice (some ⟨g, 0, none⟩) d.fs.length c9) := cell_blk hR3.out.blk rfl
              have il : i < d.fs.length := (List.getElem?_eq_some_iff.1 e2).1
              rw [hlen] at r1 il
              have i0 : (0 : Int) ≤ (i : Int) := by omega
              have i1 : (i : Int) < (len : Int) := by omega
              have hlen' := Lib.hid hlen
              have e2' := Lib.hid e2
              have hgl' := Lib.hid hgl
              have hs9' := Lib.hid hs9
              have hov' := Lib.hid hov
              have hnf9 : nf ≤ 1000000000 := by have := hfl.out.2.1; simp only at this; omega
              have hba := below_alloc w3 (.cells #[.string s9, .slice A0 nf c0, .int .i64 (sf : Nat)] 84)
              have hnew := heap_alloc_new w3 (.cells #[.string s9, .slice A0 nf c0, .int .i64 (sf : Nat)] 84)
              obtain ⟨fb, hfb⟩ : ∃ fb, w3.heap.size = fb := ⟨_, rfl⟩
              obtain ⟨w5, hw5⟩ : ∃ w5, w3.alloc (.cells #[.string s9, .slice A0 nf c0, .int .i64 (sf : Nat)] 84) = w5 := ⟨_, rfl⟩
              rw [hw5] at hba hnew
              rw [hfb] at hnew
              have hRm5 := Lib.hid (hR3.out.below hba)
              have hB5 := Lib.hid (hba.mono hlt3.out)
              have hM5 := Lib.hid (Rm.below hba)
              have hov5 := Lib.hid (OwB.below hov hba)
              have hnew' := Lib.hid hnew
              have hgfb : Hid (g < fb) := Lib.hid (by omega)
              have hfb5 : Hid (fb < w5.heap.size) := Lib.hid (Array.getElem?_eq_some_iff.1 hnew).1
              have hdr1 := Lib.hid (rDrop_any w5 B rb _ _ { d with ops := o1 } hRm5.out s hU.out (by have := hG'.out.inv.most; show d.fs.length ≤ _; omega))
              have hfb' := Lib.hid hfb
              clear e1 e2 e3 e1' hX3 hRf2 hnf hsf hlen hbs hov hgb hgl hs9 hba hnew
              go_wp2_with fail
              refine hat.out.mono ?_
              rintro e w4 ⟨rfl, rfl⟩
              go_wp2_with fail
              clear hw5 hfb
              refine hdr1.out.mono ?_
              rintro e w6 ⟨rfl, lv6, tv6, ⟨hb6, hm6, hr6⟩, hg6, hl6⟩
              have hfr6 : Hid (∀ b, lv6.ownBlock = some b → b ≠ fb) := Lib.hid (by
                intro b hbl
                rcases hl6 with rfl | h
                · injection hbl with hbl
                  have hbl2 : g = b := hbl
                  have := hgfb.out
                  omega
                · have := h b hbl
                  have := hfb5.out
                  omega)
              have hrfb : Hid (some fb ≠ some rb) := Lib.hid (by
                intro e
                injection e with e
                have h2 := hRm5.out.blk
                rw [← e, hnew'.out] at h2
                injection h2 with h2
                injection h2 with _ h2 _
                exact absurd h2 (by decide))
              have hn8 : NoE 5 w5 (some rb) := hRm5.out.noB
              have hov6 := Lib.hid (row_kept hov5.out hg6 hn8)
              have hnew6 := Lib.hid ((hg6.block fb hfb5.out hrfb.out).trans hnew'.out)
              have hfb6 : Hid (fb < w6.heap.size) := Lib.hid (Nat.lt_of_lt_of_le hfb5.out hg6.size)
              have hB6 := Lib.hid (hB5.out.trans hb6)
              have hM6 := Lib.hid (hM5.out.trans hm6)
              have hr6' := Lib.hid hr6
              have hdr2 := Lib.hid (rDrop_any w6 B rb lv6 tv6 _ hr6 s2 (del_up hU.out) (by have := hG'.out.inv.most; have := del_len s.data.toList d.fs; show (del s.data.toList d.fs).length ≤ _; omega))
              clear hb6 hm6 hr6 hg6 hl6 hn8 hov5 hnew' hB5 hM5 hdr1 hRm5 hgfb hfb5
              go_wp2_with fail
              refine hdr2.out.mono ?_
              rintro e w7 ⟨rfl, lv7, tv7, ⟨hb7, hm7, hr7⟩, hg7, hl7⟩
              have hfr7 : lv7.ownBlock ≠ some fb := by
                intro hbl
                rcases hl7 with rfl | h
                · exact hfr6.out fb hbl rfl
                · have := h fb hbl
                  have := hfb6.out
                  omega
              have hov7 := Lib.hid (row_kept hov6.out hg7 hr6'.out.noB)
              have hnew7 := (hg7.block fb hfb6.out hrfb.out).trans hnew6.out
              have hr8 := hr7.fset (j := 0) hnew7 hfr7 (.string s2)
              have hov8 := row_kept hov7.out (grown_set w7 ⟨fb, 0, none⟩ (.string s2)) (NoE.of hnew7 (by intro cs fr e; injection e with _ e2 _; exact absurd e2 (by decide)))
              have hb8 : Below B w3 (w7.setCell ⟨fb, 0, none⟩ (.string s2)) := (hB6.out.trans hb7).trans (below_row (grown_set w7 ⟨fb, 0, none⟩ (.string s2)) (show B ≤ fb by have := hfb'.out; have := hlt3.out; omega) (by have := hr7.base; have := hr7.lt; omega))
              have hm8 : Rm w3 (w7.setCell ⟨fb, 0, none⟩ (.string s2)) := (hM6.out.trans hm7).trans (Rm.fset hnew7 _)
              have hnew8 := setCell_blk (i := 0) hnew7 (.string s2)
              have f0 : w7.cell? ⟨fb, 0, none⟩ = some (.string s9) := cell_blk hnew7 rfl
              have z0 : w7.frozen? ⟨fb, 0, none⟩ = false := frozen_of_row w7 fb 0 _ _ hnew7
              have g0 : (w7.setCell ⟨fb, 0, none⟩ (.string s2)).cell? ⟨fb, 0, none⟩ = some (.string s2) := cell_blk hnew8 rfl
              have g1 : (w7.setCell ⟨fb, 0, none⟩ (.string s2)).cell? ⟨fb, 1, none⟩ = some (.slice A0 nf c0) := cell_blk hnew8 rfl
              have g2 : (w7.setCell ⟨fb, 0, none⟩ (.string s2)).cell? ⟨fb, 2, none⟩ = some (.int .i64 (sf : Nat)) := cell_blk hnew8 rfl
              obtain ⟨A8, c8, e8, hbs8⟩ := OwB.slice hov8
              injection e8 with e81 e82 e83
              subst e81; subst e83
              rw [hnf'.out] at hbs8
              have hput := Lib.hid (rPut_any (w7.setCell ⟨fb, 0, none⟩ (.string s2)) B rb lv7 tv7 _ hr8 s2 (by omega) A0 nf c0 f.data hbs8 hnf9 sf (fun p hp => (del_mem.1 hp).2) (fun p hp => by have := (hG'.out.fl (by omega) p (del_mem.1 (del_mem.1 hp).1).1).1; omega) (by have := hG'.out.inv.most; have := del_len s.data.toList d.fs; have := del_len s2.data.toList (del s.data.toList d.fs); show (del s2.data.toList (del s.data.toList d.fs)).length ≤ _; omega))
              have hb8' := Lib.hid hb8
              have hm8' := Lib.hid hm8
              have hff : Hid ((⟨f.data, sf⟩ : Fl) = f) := Lib.hid (by rw [← hsf'.out])
              clear hb7 hm7 hr7 hg7 hl7 hfr7 hnew7 hr8 hov8 hb8 hm8 hnew8 hbs8 e82 hdr2
              go_wp2_with fail
              refine hput.out.mono ?_
              rintro e w9 ⟨rfl, hp, _⟩
              rw [hff.out] at hp
              have hp' := Lib.hid (hon.out _ _ (hp.on hb8'.out hm8'.out))
              clear hp
              go_wp2_with fail
              go_ret
              rw [hX5.out]
              exact ⟨rfl, hp'.out⟩
            · have hX4 : Hid (X = (0, { d with ops := o1, fs := del s.data.toList d.fs })) := Lib.hid (by rw [← hX3.out]; rfl)
              obtain ⟨i, f, e1, e2, e3⟩ := refuse_found (by decide) hRf2.out
              have hU := Lib.hid hG'.out.inv.up
              have hfl := Lib.hid (hG'.out.fl (by omega) _ (List.mem_of_getElem? e2))
              have e1' : atI ({ d with ops := o1 } : D).fs s.data.toList = (i : Nat) := e1
              rw [e1'] at hat
              have hdr := Lib.hid (rDrop_any w3 B rb lv (.slice A d.tr.length c) { d with ops := o1 } hR3.out s hU.out (by have := hG'.out.inv.most; show d.fs.length ≤ _; omega))
              have i1 : decide ((i : Int) ≥ 0) = true := by rw [decide_eq_true_eq]; omega
              clear e1 e2 e3 e1' hX3 hRf2
              go_wp2_with fail
              refine hat.out.mono ?_
              rintro e w4 ⟨rfl, rfl⟩
              go_wp2_with fail
              refine hdr.out.mono ?_
              rintro e w5 ⟨rfl, hp⟩
              have hp' := Lib.hid hp.rs
              clear hp
              go_wp2_with fail
              go_ret
              rw [hX4.out]
              exact ⟨rfl, hon.out _ _ hp'.out⟩
          · have hX3 : Hid ((if T = 3 then (45, { d with ops := o1, fs := part d.fs K s.data.toList P b, down := true }) else (39 + T, { d with ops := o1, fs := part d.fs K s.data.toList P b })) = X) := Lib.hid (by have := hX2'.out; rw [htn] at this; rw [hdn'.out]; exact this)
            clear htn hX2' hhu
            have hpt : Hid (part d.fs K s.data.toList P b = d.fs) := Lib.hid (by unfold part; rw [if_neg hk2])
            have hc4 : w3.frozen? ⟨rb, 4, none⟩ = false := frozen_of_row w3 rb 4 _ _ hR3.out.blk
            have hc4c : w3.cell? ⟨rb, 4, none⟩ = some (.bool d.down) := cell_blk hR3.out.blk rfl
            have hTc : T = 1 ∨ T = 2 ∨ T = 3 := by omega
            clear hT1 hT3
            rcases hTc with rfl | rfl | rfl
            · have hX4 : Hid (X = (40, { d with ops := o1 })) := Lib.hid (by rw [← hX3.out, if_neg (by decide), hpt.out]; rfl)
              clear hX3 hpt hk2
              go_wp2_with fail
              refine hat.out.mono ?_
              rintro e w4 ⟨rfl, rfl⟩
              go_wp2_with fail
              go_ret
              rw [hX4.out]
              exact ⟨rfl, hon.out _ _ (Rs.refl hR3.out)⟩
            · have hX4 : Hid (X = (41, { d with ops := o1 })) := Lib.hid (by rw [← hX3.out, if_neg (by decide), hpt.out]; rfl)
              clear hX3 hpt hk2
              go_wp2_with fail
              refine hat.out.mono ?_
              rintro e w4 ⟨rfl, rfl⟩
              go_wp2_with fail
              go_ret
              rw [hX4.out]
              exact ⟨rfl, hon.out _ _ (Rs.refl hR3.out)⟩
            · have hX4 : Hid (X = (45, { d with ops := o1, down := true })) := Lib.hid (by rw [← hX3.out, if_pos rfl, hpt.out])
              clear hX3 hpt hk2
              go_wp2_with fail
              refine hat.out.mono ?_
              rintro e w4 ⟨rfl, rfl⟩
              go_wp2_with fail
              go_ret
              rw [hX4.out]
              obtain ⟨g1, g2, g3⟩ := hR3.out.setDown true
              exact ⟨rfl, hon.out _ _ ⟨g2, g3, _, _, g1⟩⟩
        · have hX2 : Hid ((R, { d with ops := o1 }) = X) := Lib.hid (by have := hX'.out; rw [if_pos hR0] at this; rw [hdn'.out]; exact this)
          have j3 : (R != 0) = true := by simpa using hR0
          clear hX' hRf' hhu hR0
          go_wp2_with fail
          go_ret
          rw [← hX2.out]
          exact ⟨rfl, hon.out _ _ (Rs.refl hR3.out)⟩
    · have hj1 : ((j + 1 : Nat) : Int) - 1 = (j : Int) := by omega
      rw [hj1]
      have i0 : (0 : Int) ≤ (j : Int) := by omega
      have i1 : decide ((j : Int) ≥ 0) = true := by rw [decide_eq_true_eq]; omega
      have i2 : (j : Int) < (m : Int) := by omega
      have hti : d.tr[j]? = some (d.tr[j]'(by rw [hm'.out]; omega)) := List.getElem?_eq_getElem _
      obtain ⟨t, ht⟩ : ∃ t, t = d.tr[j]'(by rw [hm'.out]; omega) := ⟨_, rfl⟩
      rw [← ht] at hti
      clear ht hj1
      obtain ⟨g, hA, hg, t0, t1, t2⟩ := hrow'.out j t hti
      subst hA
      rw [← hbw.out.cell (p := ⟨g, _, none⟩) hg] at t0 t1 t2
      have k2 : wr.cell? ⟨rb, 2, none⟩ = some (.slice (some ⟨g, 0, none⟩) d.tr.length c) := cell_blk hRr.out.blk rfl
      rw [hm'.out] at k2
      have k3 : ∀ o, (wr.alloc o).cell? ⟨rb, 3, none⟩ = some (.int .i64 (o1 : Nat)) := fun o => ((below_alloc wr o).cell (p := ⟨rb, 3, none⟩) hRr.out.lt).trans (cell_blk hRr.out.blk rfl)
      have q3 : IntKind.i64.wrap ((j : Int) - 1) = (j : Int) - 1 := wrap_sub j 1 (by omega) (by omega)
      obtain ⟨at_, kd, pt⟩ := t
      simp only at t0 t1 t2
      have hti' := Lib.hid hti
      clear hti hg
      by_cases h1 : at_ = ((o1 : Nat) : Int)
      · have j1 : (at_ == ((o1 : Nat) : Int)) = true := by rw [beq_iff_eq]; exact h1
        have h1' := Lib.hid h1
        clear h1
        by_cases h2 : 1 ≤ kd
        · have j2 : decide (1 ≤ kd) = true := by simpa using h2
          by_cases h3 : kd ≤ 3
          · have j3 : decide (kd ≤ 3) = true := by simpa using h3
            have hh := Lib.hid (Hurt.hit hti'.out (n := o1) (by unfold hits; simp [h1'.out, h2, h3]))
            go_wp2_with fail
            go_big_quiet (fail)
            go_wp2_with fail
            go_roundw
            case rel => exact ⟨j, kd, pt, by omega, by go_num, by go_num, by go_num, hh, Lib.hid (below_later hbw.out _ _)⟩
            case measure => simp [intOf]
          · have j3 : decide (kd ≤ 3) = false := by simpa using h3
            have hh := Lib.hid (Hurt.miss hti'.out (n := o1) (by unfold hits; simp [h3]) hhu.out)
            go_wp2_with fail
            go_big_quiet (fail)
            go_wp2_with fail
            go_roundw
            case rel => exact ⟨j, T, P, by omega, by go_num, by go_num, by go_num, hh, Lib.hid (below_later hbw.out _ _)⟩
            case measure => simp [intOf]
        · have j2 : decide (1 ≤ kd) = false := by simpa using h2
          have hh := Lib.hid (Hurt.miss hti'.out (n := o1) (by unfold hits; simp [h2]) hhu.out)
          go_wp2_with fail
          go_big_quiet (fail)
          go_wp2_with fail
          go_roundw
          case rel => exact ⟨j, T, P, by omega, by go_num, by go_num, by go_num, hh, Lib.hid (below_later hbw.out _ _)⟩
          case measure => simp [intOf]
      · have j1 : (at_ == (o1 : Int)) = false := by rw [beq_eq_false_iff_ne]; exact h1
        have hh := Lib.hid (Hurt.miss hti'.out (n := o1) (by unfold hits; simp [h1]) hhu.out)
        go_wp2_with fail
        go_big_quiet (fail)
        go_wp2_with fail
        go_roundw
        case rel => exact ⟨j, T, P, by omega, by go_num, by go_num, by go_num, hh, Lib.hid (below_later hbw.out _ _)⟩
        case measure => simp [intOf]
end Go.Proofs.YtfdpnjebhllpkaaGreatDoor.Dk
end

section
namespace Go.Proofs.YtfdpnjebhllpkaaGreatDoor.Dk
open Go.RowKit

theorem crashF_len (tails : List Int) (i : Nat) (l : Fs) : (crashF tails i l).length = l.length := by
  have := congrArg List.length (crashF_names tails i l)
  simpa using this
theorem crashF_app (tails : List Int) : ∀ (a b : Fs) (i : Nat), crashF tails i (a ++ b) = crashF tails i a ++ crashF tails (i + a.length) b
  | [], b, i => by simp [crashF]
  | p :: a, b, i => by
    rw [List.cons_append, crashF, crashF, crashF_app tails a b (i + 1), List.cons_append, List.length_cons, show i + 1 + a.length = i + (a.length + 1) by omega]

/-- The files, k of them gone through. -/
def crM (tails : List Int) (fs : Fs) (k : Nat) : Fs := crashF tails 0 (fs.take k) ++ fs.drop k
theorem crM_len (tails : List Int) (fs : Fs) (k : Nat) : (crM tails fs k).length = fs.length := by
  unfold crM
  rw [List.length_append, crashF_len, List.length_take, List.length_drop]
  omega
theorem crM_up {tails : List Int} {fs : Fs} (k : Nat) (hU : Up fs) : Up (crM tails fs k) := by
  refine up_of_names (l := fs) ?_ hU
  unfold crM
  rw [List.map_append, crashF_names, ← List.map_append, List.take_append_drop]
theorem crM_get {tails : List Int} {fs : Fs} {k : Nat} {p : Name × Fl} (h : fs[k]? = some p) : (crM tails fs k)[k]? = some p := by
  have hk := (List.getElem?_eq_some_iff.1 h).1
  unfold crM
  rw [List.getElem?_append_right (by rw [crashF_len, List.length_take]; omega), crashF_len, List.length_take, Nat.min_eq_left (by omega), Nat.sub_self, List.getElem?_drop, Nat.add_zero]
  exact h
theorem crM_step {tails : List Int} {fs : Fs} {k : Nat} {nm : Name} {f : Fl} (hU : Up fs) (h : fs[k]? = some (nm, f)) : upd nm (fun f => keep f tails[k]?) (crM tails fs k) = crM tails fs (k + 1) := by
  rw [upd_at (crM_up k hU) (crM_get h)]
  obtain ⟨hk, e⟩ := List.getElem?_eq_some_iff.1 h
  unfold crM
  rw [take_snoc h, crashF_app, List.length_take, Nat.min_eq_left (by omega), Nat.zero_add, List.drop_eq_getElem_cons hk, e, List.append_assoc]
  rw [List.set_append_right _ _ (by rw [crashF_len, List.length_take]; omega), crashF_len, List.length_take, Nat.min_eq_left (by omega), Nat.sub_self]
  rfl
theorem crM_end (tails : List Int) (fs : Fs) : crM tails fs fs.length = crashF tails 0 fs := by
  unfold crM
  rw [List.take_of_length_le (Nat.le_refl _), List.drop_eq_nil_of_le (Nat.le_refl _), List.append_nil]
theorem Ra.noTr {w : World} {B rb : Nat} {lv tv : Value} {d : D} (h : Ra w B rb lv tv d) : Ra (w.setCell ⟨rb, 2, none⟩ (.slice none 0 0)) B rb lv (.slice none 0 0) { d with tr := [] } ∧ Below B w (w.setCell ⟨rb, 2, none⟩ (.slice none 0 0)) ∧ Rm w (w.setCell ⟨rb, 2, none⟩ (.slice none 0 0)) :=
  h.setA (d' := { d with tr := [] }) (grown_set w ⟨rb, 2, none⟩ (.slice none 0 0)) (setCell_blk h.blk _) (h.row_set 2 _) (World.ownsRow_nil _ _ _ _)

set_option maxHeartbeats 4000000 in
set_option maxRecDepth 100000 in
theorem rCrash_any (w : World) (B rb : Nat) (lv tv : Value) (d : D) (h : Ra w B rb lv tv d) (hU : Up d.fs) (hl : d.fs.length ≤ 1000) (hfl : ∀ p ∈ d.fs, p.2.data.length ≤ 1000000000 ∧ p.2.safe ≤ p.2.data.length)
    (At : Option Addr) (nt ct : Nat) (tails : List Int) (hT : ∀ w', Below B w w' → Rd w' At nt ct (tails.map (Value.int .i64))) :
    Calls Tryz.prog 40 #[.pointer (some ⟨rb, 0, none⟩), .slice At nt ct] w fun e w' => e = .returned (.tuple #[]) ∧ Rs B rb (crash d tails) w w' := by
  have hrt := hT w (Below.refl _ _)
  have hnt : tails.length = nt := by have := Rd.len hrt; simpa using this
  have hle := Rd.le hrt
  have hmx := Rd.max hrt
  obtain ⟨A, c, rfl, hq⟩ := h.sq
  have hle2 := hq.le
  have hmx2 := hq.max
  obtain ⟨h1, hb1, hm1⟩ := h.setDown false
  have z4 : w.frozen? ⟨rb, 4, none⟩ = false := frozen_of_row w rb 4 _ _ h.blk
  have c4 : w.cell? ⟨rb, 4, none⟩ = some (.bool d.down) := cell_blk h.blk rfl
  obtain ⟨h2, hb2, hm2⟩ := h1.noTr
  have z2 : (w.setCell ⟨rb, 4, none⟩ (.bool false)).frozen? ⟨rb, 2, none⟩ = false := frozen_of_row _ rb 2 _ _ h1.blk
  have c2 : (w.setCell ⟨rb, 4, none⟩ (.bool false)).cell? ⟨rb, 2, none⟩ = some tv := cell_blk h1.blk rfl
  have hb12 := Lib.hid (hb1.trans hb2)
  have hm12 := Lib.hid (hm1.trans hm2)
  have h2' : Hid (Ra ((w.setCell ⟨rb, 4, none⟩ (.bool false)).setCell ⟨rb, 2, none⟩ (.slice none 0 0)) B rb (.slice A d.fs.length c) (.slice none 0 0) { d with down := false, tr := [], fs := crM tails d.fs 0 }) := Lib.hid h2
  obtain ⟨n, hn⟩ : ∃ n, d.fs.length = n := ⟨_, rfl⟩
  have hn' := Lib.hid hn
  have hU' := Lib.hid hU
  have hfl' := Lib.hid hfl
  have hT' := Lib.hid hT
  have hnt' := Lib.hid hnt
  rw [hn] at hl hle2 h2'
  clear h hq h1 hb1 hm1 h2 hb2 hm2 hn hU hfl hT hrt hnt
  go_enter Tryz.func40, Tryz.ntmps40
  go_wp2_with fail
  clear z4 c4 z2 c2
  go_loopw [4] (fun i wr => ∃ k : Nat, k ≤ n ∧ i = .int .i64 k ∧ Hid (Ra wr B rb (.slice A n c) (.slice none 0 0) { d with down := false, tr := [], fs := crM tails d.fs k }) ∧ Hid (Below B w wr) ∧ Hid (Rm w wr)) (fun i _ => n - (intOf i).toNat)
  case atStart => exact ⟨0, by omega, rfl, h2', hb12, hm12⟩
  case round =>
    obtain ⟨k, hk, rfl, hR, hbw, hmw⟩ := hrel
    have k1 : wr.cell? ⟨rb, 1, none⟩ = some (.slice A n c) := cell_blk hR.out.blk rfl
    by_cases hlt : k < n
    · have hfk : d.fs[k]? = some (d.fs[k]'(by have := hn'.out; omega)) := List.getElem?_eq_getElem _
      obtain ⟨nm, f, hp⟩ : ∃ nm f, d.fs[k]'(by have := hn'.out; omega) = (nm, f) := ⟨_, _, rfl⟩
      rw [hp] at hfk
      obtain ⟨hf1, hf2⟩ := hfl'.out _ (List.mem_of_getElem? hfk)
      simp only at hf1 hf2
      obtain ⟨g, c9, s9, v, hlv, hnc9, hcm9, hBg, hgl, ⟨cs9, hgb⟩, m0, m1, m2, hs9, hov⟩ := hR.out.at_ (crM_get hfk)
      injection hlv with hlv1 hlv2 hlv3
      subst hlv1; subst hlv3
      obtain ⟨A0, c0, rfl, hbs⟩ := OwB.slice hov
      have hnc := Rd.le hbs
      have hcmx := Rd.max hbs
      have hcut := hbs.cut 0 (f.safe + keepN f tails[k]?) (by omega) (keepN_le hf2) A0 (by intro b off e _; rw [e]; rfl) (fun e => e) (fun e => e)
      rw [Nat.sub_zero, Nat.sub_zero, List.drop_zero] at hcut
      have hkn := keepN_le (t := tails[k]?) hf2
      obtain ⟨nf, hnf⟩ : ∃ nf, f.data.length = nf := ⟨_, rfl⟩
      obtain ⟨sf, hsf⟩ : ∃ sf, f.safe = sf := ⟨_, rfl⟩
      obtain ⟨kn, hkn0⟩ : ∃ kn, keepN f tails[k]? = kn := ⟨_, rfl⟩
      have hkeep : keep f tails[k]? = ⟨f.data.take (sf + kn), (f.data.take (sf + kn)).length⟩ := by unfold keep; rw [hkn0, hsf]
      have htl : (f.data.take (sf + kn)).length = sf + kn := by rw [List.length_take, ← hsf, ← hkn0]; omega
      have hkd : kn = (match tails[k]? with | none => 0 | some z => min z.toNat (nf - sf)) := by rw [← hkn0, ← hnf, ← hsf]; rfl
      rw [hsf, hkn0] at hcut
      rw [hnf, hsf, hkn0] at hkn
      rw [hnf] at m1 hf1 hnc
      rw [hsf] at m2
      have hnf' := Lib.hid hnf
      have hsf' := Lib.hid hsf
      have hkeep' := Lib.hid hkeep
      have htl' := Lib.hid htl
      have hkd' := Lib.hid hkd
      have hcut' := Lib.hid hcut
      have hgb' := Lib.hid hgb
      have hgl' := Lib.hid hgl
      have hfk' := Lib.hid hfk
      have hrt := Lib.hid (hT'.out wr hbw.out)
      have i0 : (0 : Int) ≤ (k : Int) := by omega
      have i1 : (k : Int) < (n : Int) := by omega
      have i3 : decide ((k : Int) < (n : Int)) = true := by rw [decide_eq_true_eq]; omega
      have hBr : Hid (B ≤ wr.heap.size) := Lib.hid (by have := hR.out.base; have := hR.out.lt; omega)
      have hrlt := Lib.hid hR.out.lt
      clear hp hfk hs9 hov hbs hcut hnf hsf hkn0 hkeep htl hkd hgb hlv2 hgl m0
      go_upto_region 6 with fail
      go_cut [31] (fun v wx => ∃ cnd : Bool, v = .bool cnd ∧ wr = wx ∧ Hid (if cnd = true then ∃ z, tails[k]? = some z ∧ 0 < z else kn = 0))
      case first =>
        by_cases hk1 : k < nt
        · have htk : tails[k]? = some (tails[k]'(by have := hnt'.out; omega)) := List.getElem?_eq_getElem _
          obtain ⟨z, hz⟩ : ∃ z, tails[k]'(by have := hnt'.out; omega) = z := ⟨_, rfl⟩
          rw [hz] at htk
          have hkz : kn = min z.toNat (nf - sf) := by have := hkd'.out; rw [htk] at this; exact this
          obtain ⟨bt, ot, u, rfl, hbt, hu, hct⟩ := Rd.at_ hrt.out hk1
          rw [List.getElem?_map, htk] at hu
          injection hu with hu
          subst hu
          have t0 : decide ((k : Int) < (nt : Int)) = true := by rw [decide_eq_true_eq]; omega
          have t1 : decide (k < nt) = true := by rw [decide_eq_true_eq]; omega
          have t2 : (k : Int) < (nt : Int) := by omega
          have htk' := Lib.hid htk
          clear hz htk
          by_cases hz0 : 0 < z
          · have t3 : decide (z > 0) = true := by rw [decide_eq_true_eq]; omega
            have t4 : decide (0 < z) = true := t3
            have hcnd : Hid (if true = true then ∃ z, tails[k]? = some z ∧ 0 < z else kn = 0) := Lib.hid ⟨z, htk'.out, hz0⟩
            clear hkz hz0
            go_wp2_with fail
            go_meet
            exact ⟨true, rfl, rfl, hcnd⟩
          · have t3 : decide (z > 0) = false := by rw [decide_eq_false_iff_not]; omega
            have t4 : decide (0 < z) = false := t3
            have hcnd : Hid (if false = true then ∃ z, tails[k]? = some z ∧ 0 < z else kn = 0) := Lib.hid (show kn = 0 by omega)
            clear hkz hz0
            go_wp2_with fail
            go_meet
            exact ⟨false, rfl, rfl, hcnd⟩
        · have t0 : decide ((k : Int) < (nt : Int)) = false := by rw [decide_eq_false_iff_not]; omega
          have t1 : decide (k < nt) = false := by rw [decide_eq_false_iff_not]; omega
          have hk0 : kn = 0 := by
            have := hkd'.out
            rw [List.getElem?_eq_none (by have := hnt'.out; omega)] at this
            exact this
          have hcnd : Hid (if false = true then ∃ z, tails[k]? = some z ∧ 0 < z else kn = 0) := Lib.hid (show kn = 0 from hk0)
          clear hk0
          go_wp2_with fail
          go_meet
          exact ⟨false, rfl, rfl, hcnd⟩
      case rest =>
      obtain ⟨cnd, rfl, hwx, hcnd⟩ := hcut
      subst hwx
      go_upto_if 31 with fail
      go_cut [5] (fun v wx => v = .int .i64 (kn : Nat) ∧ Hid (Below wr.heap.size wr wx))
      case first =>
        cases cnd with
        | false =>
          have hk0 : Hid (kn = 0) := hcnd
          go_wp2_with fail
          go_meet
          exact ⟨by rw [hk0.out]; rfl, Lib.hid (Below.refl _ _)⟩
        | true =>
          obtain ⟨z, htk, hz0⟩ := hcnd.out
          have hkz : kn = min z.toNat (nf - sf) := by have := hkd'.out; rw [htk] at this; exact this
          have hk1 : k < nt := by have := (List.getElem?_eq_some_iff.1 htk).1; have := hnt'.out; omega
          obtain ⟨bt, ot, u, rfl, hbt, hu, hct⟩ := Rd.at_ hrt.out hk1
          rw [List.getElem?_map, htk] at hu
          injection hu with hu
          subst hu
          have t2 : (k : Int) < (nt : Int) := by omega
          have q1 : IntKind.i64.wrap ((nf : Int) - (sf : Int)) = ((nf - sf : Nat) : Int) := by rw [wrap_sub nf sf (by omega) (by omega)]; omega
          have q2 : min z ((nf - sf : Nat) : Int) = (kn : Int) := by omega
          obtain ⟨df, hdf⟩ : ∃ df, nf - sf = df := ⟨_, rfl⟩
          rw [hdf] at q1 q2
          clear hkz hdf hz0 htk hcnd
          go_wp2_with fail
          refine Pl.wp_region_plan 22 (.take 0 (.take 1 (.take 2 (.take 3 (.take 4 (.take 5 (.take 6 (.take 7 (.take 8 (.take 9 (.take 10 (.take 11 (.take 12 (.take 13 (.take 14 (.take 15 (.take 16 (.take 17 (.take 18 (.take 19 (.take 20 (.take 21 .done))))))))))))))))))))))
            (fun x => x.cell? ⟨rb, 1, none⟩ = some (.slice (some ⟨g, 0, none⟩) n c) ∧ x.cell? ⟨g, k * 3 + 1, none⟩ = some (.slice A0 nf c0) ∧ x.cell? ⟨g, k * 3 + 2, none⟩ = some (.int .i64 (sf : Nat)) ∧ x.cell? ⟨bt, ot + k, none⟩ = some (.int .i64 z)) (by kernel_rfl) (by kernel_rfl) (by exact ⟨k1, m1, m2, hct⟩) ?_
          simp only [Pl.fill, List.getElem?_cons_zero, List.getElem?_cons_succ, List.drop_succ_cons, List.drop_zero]
          iterate 22
            refine Pl.take_go ?_ (by rfl) (fun _ _ _ h => h) ?_ ?_
            rotate_left
            · (intro x hSw; (try dsimp only at hSw); go_simp; try with_reducible rfl)
            try simp only [Act.put, List.setIfInBounds_toArray, List.set_cons_zero, List.set_cons_succ]
          refine Pl.done_go ?_
          go_wp2_with fail
          go_meet
          exact ⟨rfl, Lib.hid (bD (Below.refl _ wr))⟩
      case rest =>
      obtain ⟨rfl, hbc⟩ := hcut
      obtain ⟨wz, rfl⟩ : ∃ wz, wz = wc := ⟨wc, rfl⟩
      have hRc := hR.out.below hbc.out
      have e6 : n = (crM tails d.fs k).length := by rw [crM_len]; exact hn'.out.symm
      have r1 : wz.cell? ⟨rb, 1, none⟩ = some (.slice (some ⟨g, 0, none⟩) n c) := cell_blk hRc.blk rfl
      rw [e6] at hRc
      have hRc' := Lib.hid hRc
      have e6' := Lib.hid e6
      obtain ⟨qm, hqm⟩ : ∃ qm, sf + kn = qm := ⟨_, rfl⟩
      have q1 : IntKind.i64.wrap ((sf : Int) + (kn : Int)) = (qm : Int) := by rw [show (sf : Int) + (kn : Int) = (qm : Int) by omega]; exact wrap_nat qm (by omega)
      have hqn : qm ≤ nf := by omega
      rw [hqm] at hcut' hkeep' htl'
      have q2 : (0 : Int) ≤ (qm : Int) ∧ (qm : Int) ≤ (c0 : Int) := ⟨by omega, by omega⟩
      have q3 : (qm : Int) ≤ (c0 : Int) := by omega
      have q4 : qm ≤ c0 := by omega
      have q5 : qm ≤ 1000000000 := by omega
      have hgz := Lib.hid (Nat.lt_of_lt_of_le hgl'.out hbc.out.size)
      have hgbz := Lib.hid ((hbc.out.block g hgl'.out).trans hgb'.out)
      have b1 := (hbc.out.cell (p := ⟨g, k * 3 + 1, none⟩) hgl'.out).trans m1
      have b2 := (hbc.out.cell (p := ⟨g, k * 3 + 2, none⟩) hgl'.out).trans m2
      have hcz := Lib.hid (hcut'.out.below hbc.out)
      have hbwz := Lib.hid (hbw.out.trans (hbc.out.mono hBr.out))
      have hmwz := Lib.hid (hmw.out.trans (Rm.below hbc.out))
      have hBz : Hid (B ≤ wz.heap.size) := Lib.hid (Nat.le_trans hBr.out hbc.out.size)
      clear hRc e6 hqm hcnd hbc hbw hmw hR k1 m1 m2 hcut' hgb' hgl' hrt hkd' hrlt hBr
      go_wp2_with fail
      refine Pl.wp_region_plan 26 (.take 0 (.take 1 (.take 2 (.take 3 (.take 4 (.take 6 (.take 7 (.take 8 (.take 9 (.take 10 (.take 11 (.take 12 (.take 13 (.take 14 (.take 15 (.take 16 (.take 17 (.take 18 (.take 19 (.take 20 (.take 21 (.take 22 (.take 23 (.take 24 (.run 5 (.run 25 .done))))))))))))))))))))))))))
        (fun x => x.cell? ⟨rb, 1, none⟩ = some (.slice (some ⟨g, 0, none⟩) n c) ∧ x.cell? ⟨g, k * 3 + 1, none⟩ = some (.slice A0 nf c0) ∧ x.cell? ⟨g, k * 3 + 2, none⟩ = some (.int .i64 (sf : Nat))) (by kernel_rfl) (by kernel_rfl) (by exact ⟨r1, b1, b2⟩) ?_
      simp only [Pl.fill, List.getElem?_cons_zero, List.getElem?_cons_succ, List.drop_succ_cons, List.drop_zero]
      iterate 24
        refine Pl.take_go ?_ (by rfl) (fun _ _ _ h => h) ?_ ?_
        rotate_left
        · (intro x hSw; (try dsimp only at hSw); go_simp; try with_reducible rfl)
        try simp only [Act.put, List.setIfInBounds_toArray, List.set_cons_zero, List.set_cons_succ]
      refine Pl.run_go (fun K hK => ?_)
      go_simp
      have hbz : Below wz.heap.size wz (wz.alloc (.cells #[] 5)).drew := bD (below_alloc wz _)
      have hnil : OwB (wz.alloc (.cells #[] 5)).drew wz.heap.size 5 (.slice (some ⟨wz.heap.size, 0, none⟩) 0 0) [] := ⟨by simp, .inr ⟨_, _, #[], rfl, Nat.le_refl _, heap_alloc_new wz _, Nat.le_refl _, by decide, by simp, by simp⟩⟩
      have hnil' := Lib.hid hnil
      have hbz' := Lib.hid hbz
      clear hbz hnil
      obtain ⟨T, hT2⟩ : ∃ T, wz.heap.size = T := ⟨_, rfl⟩
      have hT3 := Lib.hid hT2
      rw [hT2] at hnil' hbz' ⊢
      clear hT2
      generalize (wz.alloc (.cells #[] 5)).drew = x1 at hnil' hbz' ⊢
      have hup : Hid (∀ x, Below T wz x → Below wz.heap.size wz x) := Lib.hid fun x hb => by rw [hT3.out]; exact hb
      have p1 := ((hup.out _ hbz'.out).cell (p := ⟨rb, 1, none⟩) hRc'.out.lt).trans r1
      have p2 := ((hup.out _ hbz'.out).cell (p := ⟨g, k * 3 + 1, none⟩) hgz.out).trans b1
      have p3 := ((hup.out _ hbz'.out).cell (p := ⟨g, k * 3 + 2, none⟩) hgz.out).trans b2
      refine hK.out _ _ (Pl.more_go _ (fun _ h => h) (by exact ⟨p1, p2, p3⟩) ?_)
      clear hK K p1 p2 p3
      try simp only [Act.put, List.setIfInBounds_toArray, List.set_cons_zero, List.set_cons_succ]
      refine Pl.run_list (fun K hK => ?_)
      refine append_bytes _ 22 5 Tryz.underlying22 (by kernel_rfl) rfl _ _ rfl T _ [] rfl hnil'.out A0 qm c0 (f.data.take qm) rfl (hcz.out.below (hup.out _ hbz'.out)) qm ?h3 ?h4 ?h5 ?_
      case h3 => simp
      case h4 => omega
      case h5 => have := hbz'.out.size; have := hT3.out; omega
      intro A2 c2 x2 ho hg hb
      have hb2 : Below T wz x2 := hbz'.out.trans hb
      have hu2 := hup.out _ hb2
      have hov2 : OwB x2 B 5 (.slice A2 qm c2) (f.data.take qm) := OwB.base (by rw [List.nil_append] at ho; exact ho) (by have := hT3.out; have := hBz.out; omega)
      have hW := Ra.rs_data (d := { d with down := false, tr := [], fs := crM tails d.fs k }) (hRc'.out.below hu2) (crM_up k hU'.out) (crM_get hfk'.out) hov2 (gf := fun f => ⟨(keep f tails[k]?).data, f.safe⟩) (by rw [hkeep'.out])
      have p1 := (hu2.cell (p := ⟨rb, 1, none⟩) hRc'.out.lt).trans r1
      have p2 := (hu2.cell (p := ⟨g, k * 3 + 1, none⟩) hgz.out).trans b1
      have p3 := (hu2.cell (p := ⟨g, k * 3 + 2, none⟩) hgz.out).trans b2
      have hfz : x2.frozen? ⟨g, k * 3 + 1, none⟩ = false := frozen_of_row x2 g _ _ _ ((hu2.block g hgz.out).trans hgbz.out)
      have n1 : Hid ((x2.setCell ⟨g, k * 3 + 1, none⟩ (.slice A2 qm c2)).cell? ⟨g, k * 3 + 1, none⟩ = some (.slice A2 qm c2)) := Lib.hid (World.cell?_setCell_same (w := x2) (a := ⟨g, k * 3 + 1, none⟩) (v := .slice A2 qm c2) p2)
      have hbw2 := Lib.hid ((hbwz.out.trans (hb2.mono (by have := hT3.out; have := hBz.out; omega : B ≤ T))).trans hW.1)
      have hmw2 := Lib.hid ((hmwz.out.trans (Rm.below hu2)).trans hW.2.1)
      have hR5 := Lib.hid hW.2.2
      clear ho hg hb hb2 hu2 hov2 hW hnil' hbz' hup hT3 hcz r1 b1 b2 hRc' hbwz hmwz hBz hgbz hgz
      refine hK.out _ _ (Pl.more_go _ (fun _ h => h) (by exact ⟨p1, p2, p3⟩) ?_)
      clear hK K p1 p3
      try simp only [Act.put, List.setIfInBounds_toArray, List.set_cons_zero, List.set_cons_succ]
      refine Pl.done_go ?_
      go_wp2_with fail
      generalize x2.setCell ⟨g, k * 3 + 1, none⟩ (.slice A2 qm c2) = w5 at hR5 hbw2 hmw2 n1 ⊢
      clear p2 hfz
      have e5 : (upd nm (fun f => (⟨(keep f tails[k]?).data, f.safe⟩ : Fl)) (crM tails d.fs k))[k]? = some (nm, ⟨(keep f tails[k]?).data, f.safe⟩) := by
        rw [upd_at (crM_up k hU'.out) (crM_get hfk'.out), List.getElem?_set_self (by rw [crM_len]; have := hn'.out; omega)]
      have e7 : (crM tails d.fs k).length = (upd nm (fun f => (⟨(keep f tails[k]?).data, f.safe⟩ : Fl)) (crM tails d.fs k)).length := upd_len.symm
      obtain ⟨g', c', s', v', hlv, _, _, _, hgl5, ⟨cs5, hgb5⟩, _, _, n2, _, _⟩ := hR5.out.at_ e5
      injection hlv with hlv _ _
      injection hlv with hlv
      injection hlv with hlv _ _
      subst hlv
      simp only at n2
      rw [hsf'.out] at n2
      have r5 : w5.cell? ⟨rb, 1, none⟩ = some (.slice (some ⟨g, 0, none⟩) (crM tails d.fs k).length c) := cell_blk hR5.out.blk rfl
      rw [← e6'.out] at r5
      rw [e7] at hR5
      have hbz : Below w5.heap.size w5 w5.drew := bD (Below.refl _ _)
      have hS := Ra.rs_safe (d := { d with down := false, tr := [], fs := upd nm (fun f => (⟨(keep f tails[k]?).data, f.safe⟩ : Fl)) (crM tails d.fs k) }) (hR5.out.below hbz) (show Up (upd nm (fun f => (⟨(keep f tails[k]?).data, f.safe⟩ : Fl)) (crM tails d.fs k)) from upd_up (crM_up k hU'.out)) e5 qm (gf := fun f => ⟨f.data, f.data.length⟩) (by simp only; rw [hkeep'.out]; simp only; rw [htl'.out])
      have e8 : upd nm (fun f => (⟨f.data, f.data.length⟩ : Fl)) (upd nm (fun f => (⟨(keep f tails[k]?).data, f.safe⟩ : Fl)) (crM tails d.fs k)) = crM tails d.fs (k + 1) := by
        rw [upd_upd, ← crM_step hU'.out hfk'.out]
        rfl
      have hBw5 : B ≤ w5.heap.size := by have := hR5.out.base; have := hR5.out.lt; omega
      have hbw3 := Lib.hid ((hbw2.out.trans (hbz.mono hBw5)).trans hS.1)
      have hmw3 := Lib.hid ((hmw2.out.trans (Rm.below hbz)).trans hS.2.1)
      have hR6 := hS.2.2
      rw [show (({ d with down := false, tr := [], fs := upd nm (fun f => (⟨(keep f tails[k]?).data, f.safe⟩ : Fl)) (crM tails d.fs k) } : D).fs).length = n from e7.symm.trans e6'.out.symm, show ({ d with down := false, tr := [], fs := upd nm (fun f => (⟨(keep f tails[k]?).data, f.safe⟩ : Fl)) (crM tails d.fs k) } : D).fs = upd nm (fun f => (⟨(keep f tails[k]?).data, f.safe⟩ : Fl)) (crM tails d.fs k) from rfl, e8] at hR6
      have hR6' := Lib.hid hR6
      have hfz5 : w5.drew.frozen? ⟨g, k * 3 + 2, none⟩ = false := frozen_of_row w5.drew g _ _ _ ((hbz.block g hgl5).trans hgb5)
      have n3 := (hbz.cell (p := ⟨g, k * 3 + 2, none⟩) hgl5).trans n2
      have n1' := n1.out
      clear hS hR6 hR5 e5 e7 e8 hbz hgb5 hgl5 hbw2 hmw2 hBw5 n1 n2
      refine Pl.wp_region_plan 14 (.take 0 (.take 1 (.take 2 (.take 3 (.take 4 (.take 5 (.take 6 (.take 7 (.take 8 (.take 9 (.take 10 (.take 11 (.take 12 (.take 13 .done))))))))))))))
        (fun x => x.cell? ⟨rb, 1, none⟩ = some (.slice (some ⟨g, 0, none⟩) n c) ∧ x.cell? ⟨g, k * 3 + 1, none⟩ = some (.slice A2 qm c2)) (by kernel_rfl) (by kernel_rfl) (by exact ⟨r5, n1'⟩) ?_
      simp only [Pl.fill, List.getElem?_cons_zero, List.getElem?_cons_succ, List.drop_succ_cons, List.drop_zero]
      iterate 14
        refine Pl.take_go ?_ (by rfl) (fun _ _ _ h => h) ?_ ?_
        rotate_left
        · (intro x hSw; (try dsimp only at hSw); go_simp; try with_reducible rfl)
        try simp only [Act.put, List.setIfInBounds_toArray, List.set_cons_zero, List.set_cons_succ]
      refine Pl.done_go ?_
      clear r5 n1'
      generalize w5.drew = wy at hR6' hbw3 hmw3 hfz5 n3 ⊢
      go_wp2_with fail
      go_roundw
      case rel => exact ⟨k + 1, by omega, by go_num, hR6', hbw3, hmw3⟩
      case measure => simp [intOf]; omega
    · have hkn : k = n := by omega
      have i3 : decide ((k : Int) < (n : Int)) = false := by rw [decide_eq_false_iff_not]; omega
      have e : crM tails d.fs k = crashF tails 0 d.fs := by rw [hkn, ← hn'.out]; exact crM_end _ _
      have h3 := hR.out
      rw [e] at h3
      have hf := Lib.hid (show Rs B rb (crash d tails) w wr from ⟨hbw.out, hmw.out, .slice A n c, .slice none 0 0, h3⟩)
      clear e h3
      clear hkn
      go_wp2_with fail
      go_end0
      exact ⟨rfl, hf.out⟩
end Go.Proofs.YtfdpnjebhllpkaaGreatDoor.Dk
end

section
namespace Go.Proofs.YtfdpnjebhllpkaaGreatDoor.Dk
open Go.RowKit

theorem Ra.setTr {w : World} {B rb : Nat} {lv tv tv' : Value} {d : D} {tr' : List Tr} (h : Ra w B rb lv tv d) (htr : w.ownsRow B 121 3 tv' tr'.length (trf tr')) : Ra (w.setCell ⟨rb, 2, none⟩ tv') B rb lv tv' { d with tr := tr' } ∧ Below B w (w.setCell ⟨rb, 2, none⟩ tv') ∧ Rm w (w.setCell ⟨rb, 2, none⟩ tv') :=
  h.setA (d' := { d with tr := tr' }) (grown_set w ⟨rb, 2, none⟩ tv') (setCell_blk h.blk _) (h.row_set 2 _) (row_kept htr (grown_set w ⟨rb, 2, none⟩ tv') h.noT)

set_option maxHeartbeats 1000000 in
set_option maxRecDepth 100000 in
theorem rArm_any (w : World) (B rb : Nat) (lv tv : Value) (d : D) (h : Ra w B rb lv tv d) (A : Option Addr) (n c : Nat) (l : List Tr) (hq : Sq TrEl 3 w A n c l) (hn : n ≤ 1000000) :
    Calls Tryz.prog 39 #[.pointer (some ⟨rb, 0, none⟩), .slice A n c] w fun e w' => e = .returned (.tuple #[]) ∧ Rs B rb (arm d l) w w' := by
  have hba := below_alloc w (.cells #[] 121)
  have hq1 := Lib.hid (hq.below (w' := w.alloc (.cells #[] 121)) (fun _ _ h => h) hba)
  have hnil : OwS TrEl 3 (w.alloc (.cells #[] 121)) w.heap.size 121 (.slice (some ⟨w.heap.size, 0, none⟩) 0 0) [] := ⟨[], ⟨by simp, .inr ⟨_, _, #[], rfl, Nat.le_refl _, heap_alloc_new w _, Nat.le_refl _, by decide, by simp, by simp⟩⟩, Reads.nil _⟩
  have hnil' := Lib.hid hnil
  have h' := Lib.hid h
  clear h hq hba hnil
  go_enter Tryz.func39, Tryz.ntmps39
  go_wp2_with (at_builtin; apply stop_here)
  refine Stop.go (append_sq (El := TrEl) (k := 3) _ 46 121 (.agg #[.int .i64 0, .int .i64 0, .int .i64 0]) 24 Tryz.underlying46 (by kernel_rfl) rfl (by omega) rfl _ _ rfl w.heap.size _ _ rfl hnil'.out _ n c _ rfl hq1.out (TrEl.one _) (fun w' hg _ _ h => h) n ?h3 ?h4 ?h5 ?h6 ?_)
  case h3 => simp
  case h4 => omega
  case h5 => omega
  case h6 => exact (below_alloc w _).size
  intro A2 c2 w2 ho _ hb _
  have hb2 : Below w.heap.size w w2 := (below_alloc w (.cells #[] 121)).trans hb
  have h2 := h'.out.below hb2
  have hBw : B ≤ w.heap.size := by have := h'.out.base; have := h'.out.lt; omega
  have htr : w2.ownsRow B 121 3 (.slice A2 n c2) l.length (trf l) := by
    obtain ⟨xs, h3, h4⟩ := ho
    rw [List.nil_append] at h3 h4
    rw [← reads_trf h4]
    exact ownsRow_base h3 hBw
  obtain ⟨h3, g1, g2⟩ := h2.setTr htr
  obtain ⟨h4, g3, g4⟩ := h3.setOps 0
  have z2 : w2.frozen? ⟨rb, 2, none⟩ = false := frozen_of_row w2 rb 2 _ _ h2.blk
  have c2' : w2.cell? ⟨rb, 2, none⟩ = some tv := cell_blk h2.blk rfl
  have z3 : (w2.setCell ⟨rb, 2, none⟩ (.slice A2 n c2)).frozen? ⟨rb, 3, none⟩ = false := frozen_of_row _ rb 3 _ _ h3.blk
  have c3 : (w2.setCell ⟨rb, 2, none⟩ (.slice A2 n c2)).cell? ⟨rb, 3, none⟩ = some (.int .i64 (d.ops : Nat)) := cell_blk h3.blk rfl
  have hf := Lib.hid (show Rs B rb (arm d l) w _ from ⟨((hb2.mono hBw).trans g1).trans g3, ((Rm.below hb2).trans g2).trans g4, lv, .slice A2 n c2, h4⟩)
  clear ho hb hb2 h2 htr h3 h4 g1 g2 g3 g4 hnil' hq1
  go_wp2_with fail
  go_end0
  exact ⟨rfl, hf.out⟩
end Go.Proofs.YtfdpnjebhllpkaaGreatDoor.Dk
end

section
namespace Go.Proofs.YtfdpnjebhllpkaaGreatDoor.Dk
open Go.RowKit

/-- The document's disk, or none. -/
def LdR (W : World) (X : Option D) (e : Ending) (w' : World) : Prop := Below W.heap.size W w' ∧
  match X with
  | none => e = .returned (.tuple #[.pointer none, .int .i64 80])
  | some d => ∃ b lv tv, e = .returned (.tuple #[.pointer (some ⟨b, 0, none⟩), .int .i64 0]) ∧ Ra w' W.heap.size b lv tv d

set_option maxHeartbeats 4000000 in
set_option maxRecDepth 100000 in
theorem rLoad_any (w : World) (A : Option Addr) (n c : Nat) (l : List In) (room : Int) (h : Sq FeEl 3 w A n c l) (hn : n ≤ 1000) (hsz : ∀ f ∈ l, f.nm.length ≤ 1000 ∧ f.data.length ≤ 1000000) (hroom : room ≤ 9223372036854775807) :
    Calls Tryz.prog 51 #[.slice A n c, .int .i64 room] w (LdR w (load l room)) := by
  have hnew := rNew_any w room
  have hl := h.len
  have hle := h.le
  have hmx := h.max
  have h' := Lib.hid h
  have hsz' := Lib.hid hsz
  have hl' := Lib.hid hl
  clear h hsz hl
  go_enter Tryz.func51, Tryz.ntmps51
  go_wp2_with fail
  refine hnew.mono ?_
  rintro e w1 ⟨b, rfl, hD, hb1⟩
  have hst : Hid (Ra w1 w.heap.size b (.slice none 0 0) (.slice none 0 0) (new room)) := Lib.hid (hD.out _ (Nat.le_refl _))
  have hb1' := Lib.hid hb1
  clear hnew hD hb1
  go_wp2_with fail
  go_loopw [7] (fun i wr => ∃ (k : Nat) (fs : Fs) (lv tv : Value), k ≤ n ∧ i = .int .i64 k ∧ Hid (loadF (l.take k) [] = some fs) ∧ Hid (Ra wr w.heap.size b lv tv { new room with fs := fs }) ∧ Hid (Below w.heap.size w wr)) (fun i _ => n - (intOf i).toNat)
  case atStart => exact ⟨0, [], _, _, by omega, rfl, Lib.hid rfl, hst, hb1'⟩
  case round =>
    obtain ⟨k, fs, lv, tv, hk, rfl, hF, hR, hb⟩ := hrel
    have hinv : Hid (Up fs ∧ fs.length = k ∧ (∀ p ∈ fs, may p.1 = true) ∧ used fs ≤ 1000000000) := Lib.hid (by
      obtain ⟨i1, i2, i3, i4⟩ := loadF_inv _ _ _ hF.out List.Pairwise.nil (fun p hp => by cases hp) (fun p hp => by cases hp)
      have hlk : (l.take k).length = k := by rw [List.length_take]; have := hl'.out; omega
      have hu := loadF_used _ _ _ hF.out (fun f hf => (hsz'.out f (List.mem_of_mem_take hf)).2)
      rw [hlk] at hu i4
      refine ⟨i1, by simpa using i4, i3, ?_⟩
      have : used ([] : Fs) = 0 := rfl
      have : k * 1000000 ≤ 1000 * 1000000 := Nat.mul_le_mul_right _ (by omega)
      omega)
    by_cases hlt : k < n
    · obtain ⟨ab, off, f, vs, rfl, hab, hfk, hvs, hel, hcs⟩ := (h'.out.below (fun vs x => FeEl.below hb.out vs x) hb.out).at_ hlt
      obtain ⟨s, A0, n0, c0, rfl, hnm, hbs⟩ := hel
      have k0 : wr.cell? ⟨ab, off + k * 3, none⟩ = some (.string s) := hcs 0 _ rfl
      have k1 : wr.cell? ⟨ab, off + k * 3 + 1, none⟩ = some (.slice A0 n0 c0) := hcs 1 _ rfl
      have k2 : wr.cell? ⟨ab, off + k * 3 + 2, none⟩ = some (.int .i64 f.safe) := hcs 2 _ rfl
      have hfg : l[k]'(by rw [hl'.out]; exact hlt) = f := by
        rw [List.getElem?_eq_getElem (by rw [hl'.out]; exact hlt)] at hfk
        injection hfk
      have hmemf := List.mem_of_getElem? hfk
      obtain ⟨hz1, hz2⟩ := hsz'.out f hmemf
      have hss : s.size ≤ 1000 := by rw [hnm, Array.length_toList] at hz1; exact hz1
      have hba := below_alloc wr (.cells #[.string s, .slice A0 n0 c0, .int .i64 f.safe] 84)
      have hnew := heap_alloc_new wr (.cells #[.string s, .slice A0 n0 c0, .int .i64 f.safe] 84)
      obtain ⟨T, hT⟩ : ∃ T, wr.heap.size = T := ⟨_, rfl⟩
      obtain ⟨wf, hwf⟩ : ∃ wf, wr.alloc (.cells #[.string s, .slice A0 n0 c0, .int .i64 f.safe] 84) = wf := ⟨_, rfl⟩
      have hRf := hR.out.below hba
      have hbs' := hbs.below hba
      rw [hwf] at hba hnew hRf hbs'
      rw [hT] at hnew
      have t0 : wf.cell? ⟨T, 0, none⟩ = some (.string s) := cell_blk hnew rfl
      have t1 : wf.cell? ⟨T, 1, none⟩ = some (.slice A0 n0 c0) := cell_blk hnew rfl
      have t2 : wf.cell? ⟨T, 2, none⟩ = some (.int .i64 f.safe) := cell_blk hnew rfl
      have hat := rAt_any wf w.heap.size b lv tv { new room with fs := fs } hRf s
      have hmy := Lib.hid (May_any s (by omega) wf)
      have hbf : Hid (Below w.heap.size w wf) := Lib.hid (hb.out.trans (hba.mono hb.out.size))
      have hn0 : f.data.length = n0 := hbs.len
      have hRf' := Lib.hid hRf
      have hbs'' := Lib.hid hbs'
      have hdrop : Hid (loadF l [] = loadF (l.drop k) fs) := Lib.hid (loadF_take l k [] fs hF.out)
      have hcons : Hid (l.drop k = f :: l.drop (k + 1)) := Lib.hid (by rw [List.drop_eq_getElem_cons (by rw [hl'.out]; exact hlt), hfg])
      have hnn : Hid (∀ P : Prop, P → ((Dk.get fs f.nm).isSome ∨ may f.nm = false ∨ f.safe < 0 ∨ (f.data.length : Int) < f.safe) → load l room = none) := Lib.hid fun _ _ hc => by
        unfold load
        rw [hdrop.out, hcons.out, loadF, if_pos hc]
      have hnm' := Lib.hid hnm
      have hfk' := Lib.hid hfk
      have hn0' := Lib.hid hn0
      have hn9 : n0 ≤ 1000000 := by omega
      have i0 : (0 : Int) ≤ (k : Int) := by omega
      have i1 : (k : Int) < (n : Int) := by omega
      have hw0 := Lib.hid hwf
      clear hcs hvs hfg hmemf hz1 hz2 hba hnew hRf hbs hbs' hn0 hab hfk hnm
      rcases atI_get (fs := fs) (nm := s.data.toList) with ⟨e1, e2⟩ | ⟨i, f9, e1, e2, e3⟩
      · have e1' : atI ({ new room with fs := fs } : D).fs s.data.toList = -1 := e1
        rw [e1'] at hat
        have hat' := Lib.hid hat
        have e2' := Lib.hid e2
        clear e1 e1' e2 hat
        cases hmay : may s.data.toList with
        | false =>
          have hno := Lib.hid (hnn.out True trivial (.inr (.inl (by rw [hnm'.out]; exact hmay))))
          rw [hmay] at hmy
          clear hmay
          go_wp2_with fail
          refine hat'.out.mono ?_
          rintro e w3 ⟨rfl, rfl⟩
          go_wp2_with fail
          refine hmy.out.mono ?_
          rintro e w3 ⟨rfl, rfl⟩
          go_wp2_with fail
          go_ret2
          rw [hno.out]
          exact ⟨hbf.out, rfl⟩
        | true =>
          rw [hmay] at hmy
          by_cases hs0 : f.safe < 0
          · have d0 : decide (f.safe < 0) = true := by rw [decide_eq_true_eq]; exact hs0
            have hno := Lib.hid (hnn.out True trivial (.inr (.inr (.inl hs0))))
            clear hmay hs0
            go_wp2_with fail
            refine hat'.out.mono ?_
            rintro e w3 ⟨rfl, rfl⟩
            go_wp2_with fail
            refine hmy.out.mono ?_
            rintro e w3 ⟨rfl, rfl⟩
            go_wp2_with fail
            go_ret2
            rw [hno.out]
            exact ⟨hbf.out, rfl⟩
          · have d0 : decide (f.safe < 0) = false := by rw [decide_eq_false_iff_not]; exact hs0
            by_cases hs1 : (n0 : Int) < f.safe
            · have d1 : decide (f.safe > (n0 : Int)) = true := by rw [decide_eq_true_eq]; exact hs1
              have d2 : decide ((n0 : Int) < f.safe) = true := d1
              have hno := Lib.hid (hnn.out True trivial (.inr (.inr (.inr (by rw [hn0'.out]; exact hs1)))))
              clear hmay hs0 hs1
              go_wp2_with fail
              refine hat'.out.mono ?_
              rintro e w3 ⟨rfl, rfl⟩
              go_wp2_with fail
              refine hmy.out.mono ?_
              rintro e w3 ⟨rfl, rfl⟩
              go_wp2_with fail
              go_ret2
              rw [hno.out]
              exact ⟨hbf.out, rfl⟩
            · have d1 : decide (f.safe > (n0 : Int)) = false := by rw [decide_eq_false_iff_not]; exact hs1
              have d2 : decide ((n0 : Int) < f.safe) = false := d1
              obtain ⟨m, hm⟩ := Int.eq_ofNat_of_zero_le (show 0 ≤ f.safe by omega)
              have hput := rPut_any wf w.heap.size b lv tv { new room with fs := fs } hRf'.out s (by omega) A0 n0 c0 f.data hbs''.out (by omega) m (get_none.1 e2'.out) (fun p hp => by have := may_len (hinv.out.2.2.1 p hp); omega) (by have := hinv.out.2.1; show fs.length ≤ _; omega)
              have hput' : Hid (Calls Tryz.prog 106 #[.pointer (some ⟨b, 0, none⟩), .agg #[.string s, .slice A0 n0 c0, .int .i64 f.safe]] wf fun e w' => e = .returned (.tuple #[]) ∧ Rs w.heap.size b { new room with fs := ins s.data.toList ⟨f.data, m⟩ fs } wf w' ∧ wf.grownBy w' (some b)) := Lib.hid (by rw [hm]; exact hput)
              have hF2 : Hid (loadF (l.take (k + 1)) [] = some (ins s.data.toList ⟨f.data, m⟩ fs)) := Lib.hid (by
                rw [take_snoc hfk'.out, loadF_append, hF.out]
                show loadF [f] fs = _
                rw [loadF, if_neg (by
                  rw [hnm'.out, e2'.out]
                  rintro (h | h | h | h)
                  · simp at h
                  · rw [hmay] at h; cases h
                  · exact hs0 h
                  · rw [hn0'.out] at h; exact hs1 h), hnm'.out]
                have : f.safe.toNat = m := by omega
                rw [this]
                rfl)
              clear hmay hs0 hs1 hput hm
              go_wp2_with fail
              refine hat'.out.mono ?_
              rintro e w3 ⟨rfl, rfl⟩
              go_wp2_with fail
              refine hmy.out.mono ?_
              rintro e w3 ⟨rfl, rfl⟩
              go_wp2_with fail
              refine hput'.out.mono ?_
              rintro e w4 ⟨rfl, ⟨hb4, _, lv4, tv4, hr4⟩, _⟩
              have hb4' := Lib.hid (hbf.out.trans hb4)
              have hr4' := Lib.hid hr4
              clear hb4 hr4
              go_wp2_with fail
              go_roundw
              case rel => exact ⟨k + 1, _, lv4, tv4, by omega, by go_num, hF2, hr4', hb4'⟩
              case measure => simp [intOf]; omega
      · have e1' : atI ({ new room with fs := fs } : D).fs s.data.toList = (i : Nat) := e1
        rw [e1'] at hat
        have hno := Lib.hid (hnn.out True trivial (.inl (by rw [hnm'.out, e3]; rfl)))
        have j1 : decide ((i : Int) ≥ 0) = true := by rw [decide_eq_true_eq]; omega
        have hat' := Lib.hid hat
        clear e1 e1' e2 e3 hat
        go_wp2_with fail
        refine hat'.out.mono ?_
        rintro e w3 ⟨rfl, rfl⟩
        go_wp2_with fail
        go_ret2
        rw [hno.out]
        exact ⟨hbf.out, rfl⟩
    · have hkn : k = n := by omega
      have hFl : Hid (loadF l [] = some fs) := Lib.hid (by have := hF.out; rw [List.take_of_length_le (by have := hl'.out; omega)] at this; exact this)
      have c0 : wr.cell? ⟨b, 0, none⟩ = some (.int .i64 ((new room).room : Nat)) := cell_blk hR.out.blk rfl
      have hus := Lib.hid (rUsed_any wr.drew w.heap.size b lv tv { new room with fs := fs } (hR.out.below (bD (Below.refl _ _))) hinv.out.2.2.2)
      have hbd : Hid (Below w.heap.size w wr.drew) := Lib.hid (hb.out.trans (bD (Below.refl _ _)))
      have hRd : Hid (Ra wr.drew w.heap.size b lv tv { new room with fs := fs }) := Lib.hid (hR.out.below (bD (Below.refl _ _)))
      obtain ⟨rm, hrm⟩ : ∃ rm, (new room).room = rm := ⟨_, rfl⟩
      obtain ⟨us, hus2⟩ : ∃ us, used fs = us := ⟨_, rfl⟩
      have hus3 : Hid (Calls Tryz.prog 107 #[.pointer (some ⟨b, 0, none⟩)] wr.drew fun e w' => e = .returned (.int .i64 (us : Nat)) ∧ wr.drew = w') := Lib.hid (by rw [← hus2]; exact hus.out)
      have hld : Hid (load l room = if 64 < n ∨ rm < us then none else some { new room with fs := fs }) := Lib.hid (by
        unfold load
        rw [hFl.out]
        have e1 : ((64 < l.length ∨ (room.toNat : Int) < (used fs : Int)) ↔ (64 < n ∨ rm < us)) := by
          rw [hl'.out, ← hrm, ← hus2]
          show _ ↔ (64 < n ∨ room.toNat < used fs)
          omega
        simp only [e1])
      rw [hrm] at c0
      clear hkn hus hrm hus2 hF hR hb hinv
      by_cases h64 : 64 < n
      · have d0 : decide ((n : Int) > 64) = true := by rw [decide_eq_true_eq]; omega
        have d1 : decide (64 < n) = true := by rw [decide_eq_true_eq]; omega
        have hno : Hid (load l room = none) := Lib.hid (by rw [hld.out, if_pos (.inl h64)])
        clear h64
        go_wp2_with fail
        refine Pl.wp_region_plan 12 (.take 0 (.take 1 (.take 2 (.take 3 (.take 4 (.take 6 (.take 7 (.take 8 (.take 9 (.run 5 (.take 10 (.take 11 .done)))))))))))) (fun x => x.cell? ⟨b, 0, none⟩ = some (.int .i64 (rm : Nat))) (by kernel_rfl) (by kernel_rfl) (by exact c0) ?_
        simp only [Pl.fill, List.getElem?_cons_zero, List.getElem?_cons_succ, List.drop_succ_cons, List.drop_zero]
        iterate 1
          refine Pl.take_go ?_ (by rfl) (fun _ _ _ h => h) ?_ ?_
          rotate_left
          · (intro x hSw; (try dsimp only at hSw); go_simp; try with_reducible rfl)
          try simp only [Act.put, List.setIfInBounds_toArray, List.set_cons_zero, List.set_cons_succ]
        iterate 1
          refine Pl.take_go ?_ (by rfl) (fun _ _ _ h => h) ?_ ?_
          rotate_left
          · (intro x hSw; (try dsimp only at hSw); go_simp; try with_reducible rfl)
          try simp only [Act.put, List.setIfInBounds_toArray, List.set_cons_zero, List.set_cons_succ]
        iterate 1
          refine Pl.take_go ?_ (by rfl) (fun _ _ _ h => h) ?_ ?_
          rotate_left
          · (intro x hSw; (try dsimp only at hSw); go_simp; try with_reducible rfl)
          try simp only [Act.put, List.setIfInBounds_toArray, List.set_cons_zero, List.set_cons_succ]
        iterate 1
          refine Pl.take_go ?_ (by rfl) (fun _ _ _ h => h) ?_ ?_
          rotate_left
          · (intro x hSw; (try dsimp only at hSw); go_simp; try with_reducible rfl)
          try simp only [Act.put, List.setIfInBounds_toArray, List.set_cons_zero, List.set_cons_succ]
        iterate 1
          refine Pl.take_skip (by rfl) (fun _ _ _ h => h) ?_
          try simp only [Act.put, List.setIfInBounds_toArray, List.set_cons_zero, List.set_cons_succ]
        iterate 1
          refine Pl.take_skip (by rfl) (fun _ _ _ h => h) ?_
          try simp only [Act.put, List.setIfInBounds_toArray, List.set_cons_zero, List.set_cons_succ]
        iterate 1
          refine Pl.take_skip (by rfl) (fun _ _ _ h => h) ?_
          try simp only [Act.put, List.setIfInBounds_toArray, List.set_cons_zero, List.set_cons_succ]
        iterate 1
          refine Pl.take_skip (by rfl) (fun _ _ _ h => h) ?_
          try simp only [Act.put, List.setIfInBounds_toArray, List.set_cons_zero, List.set_cons_succ]
        iterate 1
          refine Pl.take_skip (by rfl) (fun _ _ _ h => h) ?_
          try simp only [Act.put, List.setIfInBounds_toArray, List.set_cons_zero, List.set_cons_succ]
        refine Pl.run_go (fun K hK => ?_)
        go_simp
        refine hK.out _ _ (Pl.more_go _ (fun _ h => h) (by exact c0) ?_)
        clear hK K
        try simp only [Act.put, List.setIfInBounds_toArray, List.set_cons_zero, List.set_cons_succ]
        iterate 1
          refine Pl.take_skip (by rfl) (fun _ _ _ h => h) ?_
          try simp only [Act.put, List.setIfInBounds_toArray, List.set_cons_zero, List.set_cons_succ]
        iterate 1
          refine Pl.take_go ?_ (by rfl) (fun _ _ _ h => h) ?_ ?_
          rotate_left
          · (intro x hSw; (try dsimp only at hSw); go_simp; try with_reducible rfl)
          try simp only [Act.put, List.setIfInBounds_toArray, List.set_cons_zero, List.set_cons_succ]
        refine Pl.done_go ?_
        go_wp2_with fail
        go_ret2
        rw [hno.out]
        exact ⟨hbd.out, rfl⟩
      · have d0 : decide ((n : Int) > 64) = false := by rw [decide_eq_false_iff_not]; omega
        have d1 : decide (64 < n) = false := by rw [decide_eq_false_iff_not]; omega
        have hgo : ∀ cnd : Bool, decide ((us : Int) > (rm : Int)) = cnd → load l room = (if cnd = true then none else some { new room with fs := fs }) := fun cnd hc => by
          rw [hld.out]
          cases cnd with
          | true => rw [decide_eq_true_eq] at hc; rw [if_pos (.inr (by omega)), if_pos rfl]
          | false => rw [decide_eq_false_iff_not] at hc; rw [if_neg (by omega), if_neg (by decide)]
        obtain ⟨cnd, hc⟩ : ∃ cnd, decide ((us : Int) > (rm : Int)) = cnd := ⟨_, rfl⟩
        have hgo' := Lib.hid (hgo cnd hc)
        have hc2 : decide ((rm : Int) < (us : Int)) = cnd := hc
        have hc3 : decide (rm < us) = cnd := by rw [← hc]; simp
        clear hgo h64
        go_wp2_with fail
        refine Pl.wp_region_plan 12 (.take 0 (.take 1 (.take 2 (.take 3 (.take 4 (.take 6 (.take 7 (.take 8 (.take 9 (.run 5 (.take 10 (.take 11 .done)))))))))))) (fun x => x.cell? ⟨b, 0, none⟩ = some (.int .i64 (rm : Nat))) (by kernel_rfl) (by kernel_rfl) (by exact c0) ?_
        simp only [Pl.fill, List.getElem?_cons_zero, List.getElem?_cons_succ, List.drop_succ_cons, List.drop_zero]
        iterate 1
          refine Pl.take_go ?_ (by rfl) (fun _ _ _ h => h) ?_ ?_
          rotate_left
          · (intro x hSw; (try dsimp only at hSw); go_simp; try with_reducible rfl)
          try simp only [Act.put, List.setIfInBounds_toArray, List.set_cons_zero, List.set_cons_succ]
        iterate 1
          refine Pl.take_go ?_ (by rfl) (fun _ _ _ h => h) ?_ ?_
          rotate_left
          · (intro x hSw; (try dsimp only at hSw); go_simp; try with_reducible rfl)
          try simp only [Act.put, List.setIfInBounds_toArray, List.set_cons_zero, List.set_cons_succ]
        iterate 1
          refine Pl.take_go ?_ (by rfl) (fun _ _ _ h => h) ?_ ?_
          rotate_left
          · (intro x hSw; (try dsimp only at hSw); go_simp; try with_reducible rfl)
          try simp only [Act.put, List.setIfInBounds_toArray, List.set_cons_zero, List.set_cons_succ]
        iterate 1
          refine Pl.take_go ?_ (by rfl) (fun _ _ _ h => h) ?_ ?_
          rotate_left
          · (intro x hSw; (try dsimp only at hSw); go_simp; try with_reducible rfl)
          try simp only [Act.put, List.setIfInBounds_toArray, List.set_cons_zero, List.set_cons_succ]
        iterate 1
          refine Pl.take_go ?_ (by rfl) (fun _ _ _ h => h) ?_ ?_
          rotate_left
          · (intro x hSw; (try dsimp only at hSw); go_simp; try with_reducible rfl)
          try simp only [Act.put, List.setIfInBounds_toArray, List.set_cons_zero, List.set_cons_succ]
        iterate 1
          refine Pl.take_go ?_ (by rfl) (fun _ _ _ h => h) ?_ ?_
          rotate_left
          · (intro x hSw; (try dsimp only at hSw); go_simp; try with_reducible rfl)
          try simp only [Act.put, List.setIfInBounds_toArray, List.set_cons_zero, List.set_cons_succ]
        iterate 1
          refine Pl.take_go ?_ (by rfl) (fun _ _ _ h => h) ?_ ?_
          rotate_left
          · (intro x hSw; (try dsimp only at hSw); go_simp; try with_reducible rfl)
          try simp only [Act.put, List.setIfInBounds_toArray, List.set_cons_zero, List.set_cons_succ]
        iterate 1
          refine Pl.take_go ?_ (by rfl) (fun _ _ _ h => h) ?_ ?_
          rotate_left
          · (intro x hSw; (try dsimp only at hSw); go_simp; try with_reducible rfl)
          try simp only [Act.put, List.setIfInBounds_toArray, List.set_cons_zero, List.set_cons_succ]
        iterate 1
          refine Pl.take_go ?_ (by rfl) (fun _ _ _ h => h) ?_ ?_
          rotate_left
          · (intro x hSw; (try dsimp only at hSw); go_simp; try with_reducible rfl)
          try simp only [Act.put, List.setIfInBounds_toArray, List.set_cons_zero, List.set_cons_succ]
        refine Pl.run_go (fun K hK => ?_)
        go_simp
        refine hus3.out.mono ?_
        rintro e w3 ⟨rfl, rfl⟩
        dsimp only
        refine hK.out _ _ (Pl.more_go _ (fun _ h => h) (by exact c0) ?_)
        clear hK K
        try simp only [Act.put, List.setIfInBounds_toArray, List.set_cons_zero, List.set_cons_succ]
        iterate 1
          refine Pl.take_go ?_ (by rfl) (fun _ _ _ h => h) ?_ ?_
          rotate_left
          · (intro x hSw; (try dsimp only at hSw); go_simp; try with_reducible rfl)
          try simp only [Act.put, List.setIfInBounds_toArray, List.set_cons_zero, List.set_cons_succ]
        iterate 1
          refine Pl.take_go ?_ (by rfl) (fun _ _ _ h => h) ?_ ?_
          rotate_left
          · (intro x hSw; (try dsimp only at hSw); go_simp; try with_reducible rfl)
          try simp only [Act.put, List.setIfInBounds_toArray, List.set_cons_zero, List.set_cons_succ]
        refine Pl.done_go ?_
        cases cnd with
        | true =>
          have hno : Hid (load l room = none) := hgo'
          go_wp2_with fail
          go_ret2
          rw [hno.out]
          exact ⟨hbd.out, rfl⟩
        | false =>
          have hno : Hid (load l room = some { new room with fs := fs }) := hgo'
          go_wp2_with fail
          go_ret2
          rw [hno.out]
          exact ⟨hbd.out, b, lv, tv, rfl, hRd.out⟩
end Go.Proofs.YtfdpnjebhllpkaaGreatDoor.Dk
end
