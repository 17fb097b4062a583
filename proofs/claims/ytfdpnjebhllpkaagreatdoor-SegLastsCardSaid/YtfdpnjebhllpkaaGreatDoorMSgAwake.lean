/- What the document fixes of segments. -/
import Derived.Test.YtfdpnjebhllpkaaGreatDoorMSgKeep
import Derived.Test.YtfdpnjebhllpkaaGreatDoorMSgOpen
import Derived.Test.YtfdpnjebhllpkaaGreatDoorMPlan2
import Derived.Test.YtfdpnjebhllpkaaGreatDoorMDkNew
section
namespace Go.Proofs.YtfdpnjebhllpkaaGreatDoor.Sg
open Go.RowKit Ma Dk

/-- The disk is now so; nothing else of the caller's but segments has turned. -/
def Sc (B a mb : Nat) (d : D) (w w' : World) : Prop := Below B w w' ∧ Kc w w' ∧ ∃ L F tv, Da w' B a mb L F tv d
section
variable {B a mb : Nat} {d d1 d2 : D} {w w1 w2 : World}
theorem Sc.of (h : Sd B a mb d w w1) : Sc B a mb d w w1 := ⟨h.1, Kc.fm h.2.1, h.2.2⟩
theorem Sc.sd (h : Sc B a mb d w w1) : Sd B a mb d w1 w1 := ⟨Below.refl _ _, Fm.refl _, h.2.2⟩
theorem Sd.refl_ (h : Sd B a mb d w w1) : Sd B a mb d w1 w1 := ⟨Below.refl _ _, Fm.refl _, h.2.2⟩
theorem Sc.le (h : Sc B a mb d w w1) : B ≤ w1.heap.size := Sd.le (Sc.sd h)
theorem Sc.then_ (h : Sc B a mb d1 w w1) (h2 : Sc B a mb d2 w1 w2) : Sc B a mb d2 w w2 := ⟨h.1.trans h2.1, h.2.1.trans h2.2.1, h2.2.2⟩
theorem Sc.op (h : Sc B a mb d1 w w1) (h2 : Sd B a mb d2 w1 w2) : Sc B a mb d2 w w2 := h.then_ (Sc.of h2)
theorem Sc.bel (h : Sc B a mb d w w1) (hb : Below w1.heap.size w1 w2) : Sc B a mb d w w2 := h.op (Sd.bel (Sc.sd h) hb)
theorem Sc.seg {sb i : Nat} {cs : Array Value} (h : Sc B a mb d w w1) (hh : w1.heap[sb]? = some (.cells cs 118)) (hB : B ≤ sb) (u : Value) : Sc B a mb d w (w1.setCell ⟨sb, i, none⟩ u) := by
  have hle := Sc.le h
  obtain ⟨h1, h2, L, F, tv, hD⟩ := h
  exact ⟨h1.trans (below_row (grown_set w1 ⟨sb, i, none⟩ u) hB hle), h2.trans (Kc.seg hh u), L, F, tv, Da.seg hD hh u⟩
end

def UnP (B a mb sb : Nat) (n : Int) (X : (Int × S) × D) (w : World) (e : Ending) (w' : World) : Prop :=
  ∃ v, e = .returned v ∧ Sc B a mb X.2 w w' ∧ w'.heap[sb]? = some (SegB a n X.1.2) ∧ ErrB w' X.1.1 n segT v

set_option maxHeartbeats 1000000 in
set_option maxRecDepth 100000 in
theorem undo_any (w w0 : World) (B a mb sb N U : Nat) (d : D) (h : Sd B a mb d w0 w) (hG : Bd d N U) (hN : N ≤ 850) (hU : U ≤ 950000) (n : Int) (hok : okN n = true) (hE : Te B w) (sz : Nat) (hsz : sz ≤ 1000000)
    (hsb : w.heap[sb]? = some (SegB a n ⟨sz, false⟩)) (hB : B ≤ sb) (c : Int) (hc : c ≠ 0) :
    Calls Tryz.prog 76 #[.pointer (some ⟨sb, 0, none⟩), .int .i64 c] w (UnP B a mb sb n (undo (c, d) (nameOf seg4 n) ⟨sz, false⟩) w) := by
  obtain ⟨s, hs1, hs2, hs3⟩ := seg_nm hok
  obtain ⟨X, hX⟩ : ∃ X, undo (c, d) (nameOf seg4 n) ⟨sz, false⟩ = X := ⟨_, rfl⟩
  rw [hX]
  rw [← hs2] at hX
  unfold undo at hX
  have hnm : ∀ w', Below B w w' → Calls Tryz.prog 17 #[.int .i64 n] w' fun e w'' => e = .returned (.string s) ∧ Below w'.heap.size w' w'' := fun w' hb => by
    have := segName_any n w' (hE.on hb).tens
    rw [show strOf (nameOf [115, 101, 103, 46] n) = s from hs1] at this
    exact this
  have hnm' := Lib.hid hnm
  have hX' := Lib.hid hX
  have hlt : sb < w.heap.size := (Array.getElem?_eq_some_iff.1 hsb).1
  have hle := Sd.le h
  have k0 : w.cell? ⟨sb, 0, none⟩ = some (.pointer (some ⟨a, 0, none⟩)) := cell_blk hsb rfl
  have k1 : w.cell? ⟨sb, 1, none⟩ = some (.int .i64 n) := cell_blk hsb rfl
  have k2 : w.cell? ⟨sb, 2, none⟩ = some (.int .i64 (sz : Nat)) := cell_blk hsb rfl
  have hSc : Hid (∀ x, Below w.heap.size w x → x.cell? ⟨sb, 0, none⟩ = some (.pointer (some ⟨a, 0, none⟩)) ∧ x.cell? ⟨sb, 1, none⟩ = some (.int .i64 n) ∧ x.cell? ⟨sb, 2, none⟩ = some (.int .i64 (sz : Nat))) := Lib.hid fun x hb =>
    ⟨(hb.cell (p := ⟨sb, 0, none⟩) hlt).trans k0, (hb.cell (p := ⟨sb, 1, none⟩) hlt).trans k1, (hb.cell (p := ⟨sb, 2, none⟩) hlt).trans k2⟩
  have hsb' := Lib.hid hsb
  have h' := Lib.hid h
  have hE' := Lib.hid hE
  clear hX hs1 hs2 hok hnm hsb h hE
  go_enter Tryz.func76, Tryz.ntmps76
  go_wp2_with fail
  refine Pl.wp_region_plan 13 (.take 0 (.take 1 (.take 2 (.take 3 (.take 4 (.take 5 (.take 6 (.take 7 (.take 9 (.take 10 (.take 11 (.take 12 (.run 8 .done)))))))))))))
    (fun x => x.cell? ⟨sb, 0, none⟩ = some (.pointer (some ⟨a, 0, none⟩)) ∧ x.cell? ⟨sb, 1, none⟩ = some (.int .i64 n) ∧ x.cell? ⟨sb, 2, none⟩ = some (.int .i64 (sz : Nat))) (by kernel_rfl) (by kernel_rfl) (by exact ⟨k0, k1, k2⟩) ?_
  simp only [Pl.fill, List.getElem?_cons_zero, List.getElem?_cons_succ, List.drop_succ_cons, List.drop_zero]
  iterate 12
    refine Pl.take_go ?_ (by rfl) (fun _ _ _ h => h) ?_ ?_
    rotate_left
    · (intro x hSw; (try dsimp only at hSw); go_simp; try with_reducible rfl)
    try simp only [Act.put, List.setIfInBounds_toArray, List.set_cons_zero, List.set_cons_succ]
  refine Pl.run_go (fun K hK => ?_)
  go_simp
  refine (hnm'.out _ (bD (Below.refl _ _))).mono ?_
  rintro e w2 ⟨rfl, hb2⟩
  have hx2 := Lib.hid ((bD (Below.refl w.heap.size w)).trans (hb2.mono (by simp)))
  clear hb2 hnm' k0 k1 k2
  dsimp only
  refine hK.out _ _ (Pl.more_go _ (fun _ h => h) (by exact hSc.out _ hx2.out) ?_)
  clear hK K
  refine Pl.done_go ?_
  have hS2 := Lib.hid (Sd.bel h'.out hx2.out)
  go_wp2_with fail
  refine (cut_op hS2.out hG (by omega) (by omega) s (by omega) (sz : Int)).mono ?_
  rintro e w3 ⟨rfl, hst3⟩
  have hB2 : w2.heap[sb]? = some (SegB a n ⟨sz, false⟩) := (hx2.out.block sb hlt).trans hsb'.out
  have hB3 : w3.heap[sb]? = some (SegB a n ⟨sz, false⟩) := hst3.2.1 sb _ _ _ hB2 (by decide) (by decide)
  have hS3 := Lib.hid (Sc.op (Sc.bel (Sc.of (Sd.refl_ h'.out)) hx2.out) hst3)
  clear hst3 hS2 hB2
  obtain ⟨Y, hY⟩ : ∃ Y, op d 3 s.data.toList [] (sz : Int) [] = Y := ⟨_, rfl⟩
  have hX2 := hX'.out
  rw [hY] at hX2 hS3 ⊢
  obtain ⟨c3, d3⟩ := Y
  simp only at hS3 hX2 ⊢
  clear hY hX'
  have k1 : w3.cell? ⟨sb, 1, none⟩ = some (.int .i64 n) := cell_blk hB3 rfl
  by_cases hc3 : c3 = 0
  · subst hc3
    have hX3 : ((c, (⟨sz, false⟩ : S)), d3) = X := hX2
    subst hX3
    clear hX2
    go_wp2_with fail
    refine (fail_any c n hc w3).mono ?_
    rintro e w4 ⟨v, rfl, hb4, he4⟩
    have hS4 := Lib.hid (Sc.bel hS3.out hb4)
    have hB4 : Hid (w4.heap[sb]? = some (SegB a n ⟨sz, false⟩)) := Lib.hid ((hb4.block sb (Array.getElem?_eq_some_iff.1 hB3).1).trans hB3)
    have he4' := Lib.hid he4
    clear hb4 he4
    go_wp2_with fail
    go_ret
    exact ⟨_, rfl, hS4.out, hB4.out, he4'.out⟩
  · have hX3 : ((c, (⟨sz, true⟩ : S)), d3) = X := by rw [← hX2]; simp [hc3]
    subst hX3
    have hne : (c3 != 0) = true := by simpa using hc3
    have k3 : w3.cell? ⟨sb, 3, none⟩ = some (.bool false) := cell_blk hB3 rfl
    have f3 : w3.frozen? ⟨sb, 3, none⟩ = false := frozen_of_row w3 sb 3 _ _ hB3
    have hB5 : (w3.setCell ⟨sb, 3, none⟩ (.bool true)).heap[sb]? = some (SegB a n ⟨sz, true⟩) := setCell_blk hB3 _
    have hS5 := Lib.hid (Sc.seg (i := 3) hS3.out hB3 hB (.bool true))
    have k5 : (w3.setCell ⟨sb, 3, none⟩ (.bool true)).cell? ⟨sb, 1, none⟩ = some (.int .i64 n) := cell_blk hB5 rfl
    clear hX2
    go_wp2_with fail
    refine (fail_any c n hc _).mono ?_
    rintro e w4 ⟨v, rfl, hb4, he4⟩
    have hS4 := Lib.hid (Sc.bel hS5.out hb4)
    have hB4 : Hid (w4.heap[sb]? = some (SegB a n ⟨sz, true⟩)) := Lib.hid ((hb4.block sb (Array.getElem?_eq_some_iff.1 hB5).1).trans hB5)
    have he4' := Lib.hid he4
    clear hb4 he4
    go_wp2_with fail
    go_ret
    exact ⟨_, rfl, hS4.out, hB4.out, he4'.out⟩
end Go.Proofs.YtfdpnjebhllpkaaGreatDoor.Sg
end

section
namespace Go.Proofs.YtfdpnjebhllpkaaGreatDoor.Sg
open Go.RowKit Ma Dk

def AppP (B a mb sb : Nat) (n : Int) (X : (Int × S) × D) (w : World) (e : Ending) (w' : World) : Prop :=
  ∃ er, e = .returned er ∧ Sc B a mb X.2 w w' ∧ w'.heap[sb]? = some (SegB a n X.1.2) ∧ ((X.1.1 = 0 ∧ er = .nilIface) ∨ (X.1.1 ≠ 0 ∧ ErrB w' X.1.1 n segT er))

theorem UnP.app {B a mb sb : Nat} {n : Int} {X : (Int × S) × D} {w w1 w' : World} {e : Ending} (h : UnP B a mb sb n X w1 e w') (hc : X.1.1 ≠ 0) {d : D} (hS : Sc B a mb d w w1) : AppP B a mb sb n X w e w' := by
  obtain ⟨v, h1, h2, h3, h4⟩ := h
  exact ⟨v, h1, hS.then_ h2, h3, .inr ⟨hc, h4⟩⟩
theorem wrapN (n : Nat) (h : n < 9223372036854775808) : IntKind.i64.wrap (n : Int) = (n : Int) := by
  have e : (n : Int) % 2 ^ 64 = n := Int.emod_eq_of_lt (by omega) (by omega)
  simp only [IntKind.wrap, IntKind.bits, IntKind.signed, e]
  rw [if_neg]
  simp
  omega
theorem put_bad {r : List UInt8} (h : bad r = true) : Fr.put r = [] := by
  unfold bad at h
  rw [decide_eq_true_eq] at h
  unfold Fr.put
  rw [if_pos h]
theorem any_bad {ls : List (List UInt8)} {k : Nat} {r : List UInt8} (hk : ls[k]? = some r) (h : bad r = true) : (ls.isEmpty || ls.any bad) = true := by
  rw [Bool.or_eq_true]
  exact .inr (List.any_eq_true.2 ⟨r, List.mem_of_getElem? hk, h⟩)
theorem all_good {ls : List (List UInt8)} (h : ∀ (i : Nat) r, ls[i]? = some r → bad r = false) (hn : 0 < ls.length) : ¬ (ls.isEmpty || ls.any bad) = true := by
  rw [Bool.or_eq_true, not_or]
  refine ⟨?_, ?_⟩
  · cases ls with
    | nil => simp at hn
    | cons _ _ => simp
  · rw [List.any_eq_true]
    rintro ⟨r, hr, hb⟩
    obtain ⟨i, hi⟩ := List.mem_iff_getElem?.1 hr
    rw [h i r hi] at hb
    cases hb
theorem puts_pos {ls : List (List UInt8)} (h : ∀ (i : Nat) r, ls[i]? = some r → bad r = false) (hn : 0 < ls.length) : 0 < (Fr.puts ls).length := by
  cases ls with
  | nil => simp at hn
  | cons r l =>
    rw [puts_cons, put_good (h 0 r rfl), List.length_append, Fr.frame_length]
    omega

set_option maxHeartbeats 2000000 in
set_option maxRecDepth 100000 in
theorem Append_any (w w0 : World) (B a mb sb N U : Nat) (d : D) (h : Sd B a mb d w0 w) (hG : Bd d N U) (hN : N ≤ 800) (hU : U ≤ 800000) (n : Int) (hok : okN n = true) (hE : Te B w) (s : S) (hsz : s.size ≤ 900000)
    (hsb : w.heap[sb]? = some (SegB a n s)) (hB : B ≤ sb) (A : Option Addr) (m c : Nat) (ls : List (List UInt8)) (hR : BsL w A m c ls) (hput : (Fr.puts ls).length ≤ 90000) :
    Calls Tryz.prog 28 #[.pointer (some ⟨sb, 0, none⟩), .slice A m c] w (AppP B a mb sb n (append d (nameOf seg4 n) s ls) w) := by
  obtain ⟨sz, sk⟩ := s
  simp only at hsz
  obtain ⟨X, hX⟩ : ∃ X, append d (nameOf seg4 n) ⟨sz, sk⟩ ls = X := ⟨_, rfl⟩
  rw [hX]
  unfold Sg.append at hX
  have hlt : sb < w.heap.size := (Array.getElem?_eq_some_iff.1 hsb).1
  have hle := Sd.le h
  have k3 : w.cell? ⟨sb, 3, none⟩ = some (.bool sk) := cell_blk hsb rfl
  have k1 : w.cell? ⟨sb, 1, none⟩ = some (.int .i64 n) := cell_blk hsb rfl
  have hmle := hR.le
  have hmmx := hR.max
  have hrl := Lib.hid hR.len
  have hsb' := Lib.hid hsb
  have h' := Lib.hid (Sc.of (Sd.refl_ h))
  have hE' := Lib.hid hE
  have hR' := Lib.hid hR
  have k2 : w.cell? ⟨sb, 2, none⟩ = some (.int .i64 (sz : Nat)) := cell_blk hsb rfl
  cases sk with
  | true =>
    rw [if_pos rfl] at hX
    subst hX
    have h51 : (51 : Int) ≠ 0 := by decide
    clear h hE hR hsb k2
    go_enter Tryz.func28, Tryz.ntmps28
    go_wp2_with fail
    refine (fail_any 51 n h51 w).mono ?_
    rintro e w4 ⟨v, rfl, hb4, he4⟩
    have hS4 := Lib.hid (Sc.bel h'.out hb4)
    have hB4 := Lib.hid ((hb4.block sb hlt).trans hsb'.out)
    have he4' := Lib.hid he4
    clear hb4 he4
    go_wp2_with fail
    go_ret
    exact ⟨_, rfl, hS4.out, hB4.out, .inr ⟨h51, he4'.out⟩⟩
  | false =>
    rw [if_neg (show ¬ (false = true) by decide)] at hX
    have hX' := Lib.hid hX
    clear h hE hR hsb hX
    go_enter Tryz.func28, Tryz.ntmps28
    go_wp2_with fail
    clear k1 k3 k2
    go_loopw [5, 23] (fun v i wr => ∃ (k : Nat) (A' : Option Addr) (c' m' : Nat), k ≤ m ∧ i = .int .i64 k ∧ v = .slice A' m' c' ∧ Hid (m' = (Fr.puts (ls.take k)).length) ∧ Hid (∀ (i : Nat) r, i < k → ls[i]? = some r → bad r = false) ∧
      Hid (OwB wr w.heap.size 5 (.slice A' m' c') (Fr.puts (ls.take k))) ∧ Hid (Below w.heap.size w wr)) (fun _ i _ => m - (intOf i).toNat)
    case atStart => exact ⟨0, none, 0, 0, by omega, rfl, rfl, Lib.hid rfl, Lib.hid (fun i r h => absurd h (by omega)), Lib.hid (OwB.nil _ _ _), Lib.hid (Below.refl _ _)⟩
    case round =>
      obtain ⟨k, A', c', m', hk, rfl, rfl, hm', hgd, hO, hbw⟩ := hrel
      have hBr : Hid (wr.heap[sb]? = some (SegB a n ⟨sz, false⟩)) := Lib.hid ((hbw.out.block sb hlt).trans hsb'.out)
      have hSr := Lib.hid (Sc.bel h'.out hbw.out)
      by_cases hlt2 : k < m
      · have i1 : decide ((k : Int) < (m : Int)) = true := by rw [decide_eq_true_eq]; omega
        have i2 : decide (k < m) = true := by rw [decide_eq_true_eq]; omega
        have i3 : (k : Int) < (m : Int) := by omega
        obtain ⟨b, off, A1, n1, c1, r, rfl, hb, hr, hc1, hbs⟩ := BsL.at_ (hR'.out.below hbw.out) hlt2
        have hput1 := FrW.put_any A1 n1 c1 r wr hbs
        have hr' := Lib.hid hr
        have hpt : Hid (Fr.puts (ls.take (k + 1)) = Fr.puts (ls.take k) ++ Fr.put r) := Lib.hid (Fr.puts_take hr)
        have hpl : (Fr.puts (ls.take k)).length + (Fr.put r).length ≤ 90000 := by
          have h1 := Fr.puts_take_le ls (k + 1)
          rw [hpt.out, List.length_append] at h1
          omega
        clear hr hbs
        cases hbad : bad r with
        | true =>
          have hX2 := hX'.out
          rw [if_pos (any_bad hr'.out hbad)] at hX2
          subst hX2
          rw [put_bad hbad] at hput1
          have h80 : (80 : Int) ≠ 0 := by decide
          clear hbad
          go_wp2_with fail
          refine hput1.mono ?_
          rintro e w3 ⟨A3, c3, rfl, _, hb3⟩
          have hS3 := Lib.hid (Sc.bel hSr.out hb3)
          have hltr : sb < wr.heap.size := (Array.getElem?_eq_some_iff.1 hBr.out).1
          have hB3 := (hb3.block sb hltr).trans hBr.out
          have k1 : w3.cell? ⟨sb, 1, none⟩ = some (.int .i64 n) := cell_blk hB3 rfl
          clear hb3 hput1
          go_wp2_with fail
          refine (fail_any 80 n h80 w3).mono ?_
          rintro e w4 ⟨v, rfl, hb4, he4⟩
          have hS4 := Lib.hid (Sc.bel hS3.out hb4)
          have hB4 := Lib.hid ((hb4.block sb (Array.getElem?_eq_some_iff.1 hB3).1).trans hB3)
          have he4' := Lib.hid he4
          clear hb4 he4
          go_wp2_with fail
          go_ret
          exact ⟨_, rfl, hS4.out, hB4.out, .inr ⟨h80, he4'.out⟩⟩
        | false =>
          have hpp : 0 < (Fr.put r).length := by rw [put_good hbad, Fr.frame_length]; omega
          have hgd2 : Hid (∀ (i : Nat) r, i < k + 1 → ls[i]? = some r → bad r = false) := Lib.hid fun i r2 hi hr2 => by
            rcases Nat.lt_or_ge i k with h9 | h9
            · exact hgd.out i r2 h9 hr2
            · obtain rfl : i = k := by omega
              rw [hr'.out] at hr2
              injection hr2 with hr2
              rw [← hr2]
              exact hbad
          obtain ⟨q, hq⟩ : ∃ q, (Fr.put r).length = q := ⟨_, rfl⟩
          rw [hq] at hput1 hpp hpl
          have hq' := Lib.hid hq
          have i4 : ((q : Int) == 0) = false := by rw [beq_eq_false_iff_ne]; omega
          have i5 : (q == 0) = false := by rw [beq_eq_false_iff_ne]; omega
          clear hbad hq
          go_wp2_with fail
          refine hput1.mono ?_
          rintro e w3 ⟨A3, c3, rfl, ho3, hb3⟩
          have hbw3 := Lib.hid (hbw.out.trans (hb3.mono hbw.out.size))
          have hO3 := Lib.hid (hO.out.below hb3)
          have hbs3 := Lib.hid ho3.bs
          clear ho3 hb3 hput1 hO
          go_wp2_with (at_builtin; apply stop_here)
          refine Stop.go (append_bytes _ 22 5 Tryz.underlying22 (by kernel_rfl) rfl _ _ rfl w.heap.size _ _ rfl hO3.out _ q c3 _ rfl hbs3.out (m' + q) (by rw [hm'.out]) (by have := hm'.out; omega) hbw3.out.size ?_)
          intro A6 c6 w6 h6 _ hb6
          rw [← hpt.out] at h6
          have h6' := Lib.hid h6
          have hx6 := Lib.hid (hbw3.out.trans hb6)
          clear h6 hb6 hO3 hbs3
          go_wp2_with fail
          go_roundw
          case rel => exact ⟨k + 1, A6, c6, m' + q, by omega, by go_num, rfl, Lib.hid (by rw [hpt.out, List.length_append, hm'.out, hq'.out]), hgd2, h6', hx6⟩
          case measure => simp [intOf]; omega
      · have i1 : decide ((k : Int) < (m : Int)) = false := by rw [decide_eq_false_iff_not]; omega
        obtain rfl : k = m := by omega
        have hall : ∀ (i : Nat) r, ls[i]? = some r → bad r = false := fun i r hr => hgd.out i r (by have := (List.getElem?_eq_some_iff.1 hr).1; have := hrl.out; omega) hr
        have htk : ls.take k = ls := List.take_of_length_le (by rw [hrl.out]; exact Nat.le_refl _)
        rw [htk] at hm' hO
        obtain ⟨s, hs1, hs2, hs3⟩ := seg_nm hok
        rw [← hs2] at hX'
        have hs2' := Lib.hid hs2
        by_cases hk0 : k = 0
        · have hX2 := hX'.out
          have hls : ls = [] := List.eq_nil_of_length_eq_zero (by rw [hrl.out]; exact hk0)
          rw [if_pos (by rw [hls]; rfl)] at hX2
          subst hX2
          have hm0 : m' = 0 := by rw [hm'.out, hls]; rfl
          subst hm0
          have h80 : (80 : Int) ≠ 0 := by decide
          have k1 : wr.cell? ⟨sb, 1, none⟩ = some (.int .i64 n) := cell_blk hBr.out rfl
          have hltr : sb < wr.heap.size := (Array.getElem?_eq_some_iff.1 hBr.out).1
          clear hls hk0 hs1 hs2 hall htk
          go_wp2_with fail
          refine (fail_any 80 n h80 wr).mono ?_
          rintro e w4 ⟨v, rfl, hb4, he4⟩
          have hS4 := Lib.hid (Sc.bel hSr.out hb4)
          have hB4 := Lib.hid ((hb4.block sb hltr).trans hBr.out)
          have he4' := Lib.hid he4
          clear hb4 he4
          go_wp2_with fail
          go_ret
          exact ⟨_, rfl, hS4.out, hB4.out, .inr ⟨h80, he4'.out⟩⟩
        · have hpos := puts_pos hall (by rw [hrl.out]; omega)
          have hX2 := hX'.out
          rw [if_neg (all_good hall (by rw [hrl.out]; omega))] at hX2
          have i4 : ((m' : Int) == 0) = false := by rw [beq_eq_false_iff_ne]; have := hm'.out; omega
          have i5 : (m' == 0) = false := by rw [beq_eq_false_iff_ne]; have := hm'.out; omega
          have hm9 : m' ≤ 90000 := by have := hm'.out; omega
          have k1 : wr.cell? ⟨sb, 1, none⟩ = some (.int .i64 n) := cell_blk hBr.out rfl
          have hltr : sb < wr.heap.size := (Array.getElem?_eq_some_iff.1 hBr.out).1
          have hnm := segName_any n wr (hE'.out.sz hbw.out).tens
          rw [show strOf (nameOf [115, 101, 103, 46] n) = s from hs1] at hnm
          have hX3 := Lib.hid hX2
          clear hX2 hk0 hs1 hs2 hall htk hpos hX'
          go_wp2_with fail
          refine hnm.mono ?_
          rintro e w3 ⟨rfl, hb3⟩
          have hS3 := Lib.hid (Sc.bel hSr.out hb3)
          have hB3 := (hb3.block sb hltr).trans hBr.out
          have hO3 := Lib.hid (hO.out.below hb3).bs
          have k0 : w3.cell? ⟨sb, 0, none⟩ = some (.pointer (some ⟨a, 0, none⟩)) := cell_blk hB3 rfl
          clear hb3 hnm k1
          go_wp2_with fail
          refine (append_op (Sc.sd hS3.out) hG (by omega) (by omega) s (by omega) A' m' c' _ hO3.out (by omega)).mono ?_
          rintro e w4 ⟨rfl, hst4⟩
          have hS4 := Lib.hid (Sc.op hS3.out hst4)
          have hB4 : w4.heap[sb]? = some (SegB a n ⟨sz, false⟩) := hst4.2.1 sb _ _ _ hB3 (by decide) (by decide)
          have hG4 := hG.op 2 s.data.toList [] 0 (Fr.puts ls)
          clear hst4 k0 hB3
          unfold appB at hX3
          obtain ⟨Y, hY⟩ : ∃ Y, Dk.op d 2 s.data.toList [] 0 (Fr.puts ls) = Y := ⟨_, rfl⟩
          rw [hY] at hX3 hS4 hG4 ⊢
          obtain ⟨c1, d1⟩ := Y
          simp only at hS4 hG4 hX3 ⊢
          clear hY
          by_cases hc1 : c1 = 0
          · subst hc1
            rw [if_pos rfl] at hX3
            have k0 : w4.cell? ⟨sb, 0, none⟩ = some (.pointer (some ⟨a, 0, none⟩)) := cell_blk hB4 rfl
            go_wp2_with fail
            refine (sync_op (Sc.sd hS4.out) hG4 (by omega) s (by omega)).mono ?_
            rintro e w5 ⟨rfl, hst5⟩
            have hS5 := Lib.hid (Sc.op hS4.out hst5)
            have hB5 : w5.heap[sb]? = some (SegB a n ⟨sz, false⟩) := hst5.2.1 sb _ _ _ hB4 (by decide) (by decide)
            have hG5 := hG4.op0 4 s.data.toList [] 0
            clear hst5 k0 hB4
            obtain ⟨Y, hY⟩ : ∃ Y, Dk.op d1 4 s.data.toList [] 0 [] = Y := ⟨_, rfl⟩
            rw [hY] at hX3 hS5 hG5 ⊢
            obtain ⟨c2, d2⟩ := Y
            simp only at hS5 hG5 hX3 ⊢
            clear hY
            unfold appC at hX3
            simp only at hX3
            by_cases hc2 : c2 = 0
            · subst hc2
              rw [if_neg (by simp)] at hX3
              have hX4 := hX3.out
              rw [← hm'.out] at hX4
              subst hX4
              have k2 : w5.cell? ⟨sb, 2, none⟩ = some (.int .i64 (sz : Nat)) := cell_blk hB5 rfl
              have f2 : w5.frozen? ⟨sb, 2, none⟩ = false := frozen_of_row w5 sb 2 _ _ hB5
              have hw9 : IntKind.i64.wrap ((sz : Int) + (m' : Int)) = ((sz + m' : Nat) : Int) := by rw [show (sz : Int) + (m' : Int) = ((sz + m' : Nat) : Int) by omega]; exact wrapN _ (by omega)
              have hB6 : (w5.setCell ⟨sb, 2, none⟩ (.int .i64 (sz + m' : Nat))).heap[sb]? = some (SegB a n ⟨sz + m', false⟩) := setCell_blk hB5 _
              have hS6 := Lib.hid (Sc.seg (i := 2) hS5.out hB5 hB (.int .i64 (sz + m' : Nat)))
              have hB6' := Lib.hid hB6
              clear hB6
              go_wp2_with fail
              go_ret
              exact ⟨.nilIface, rfl, by simpa using hS6.out, by simpa using hB6'.out, .inl ⟨rfl, rfl⟩⟩
            · rw [if_pos hc2] at hX3
              have hX4 := hX3.out
              have hne : (c2 != 0) = true := by simpa using hc2
              go_wp2_with fail
              refine (undo_any w5 w5 B a mb sb _ _ d2 (Sc.sd hS5.out) hG5 (by omega) (by omega) n hok (hE'.out.on hS5.out.1) sz (by omega) (hB5) hB c2 hc2).mono ?_
              rintro e w9 hun
              rw [← hs2'.out, hX4] at hun
              have hun' := Lib.hid (UnP.app hun (by rw [← hX4]; exact hc2) hS5.out)
              clear hun
              obtain ⟨er, rfl, hSf, hBf, hef⟩ := hun'.out
              clear hun'
              have hf := Lib.hid (⟨er, rfl, hSf, hBf, hef⟩ : AppP B a mb sb n X w (.returned er) w9)
              clear hSf hBf hef
              go_wp2_with fail
              go_ret
              exact hf.out
          · rw [if_neg hc1] at hX3
            unfold appC at hX3
            rw [if_pos hc1] at hX3
            have hX4 := hX3.out
            have hne : (c1 != 0) = true := by simpa using hc1
            go_wp2_with fail
            refine (undo_any w4 w4 B a mb sb _ _ d1 (Sc.sd hS4.out) hG4 (by omega) (by omega) n hok (hE'.out.on hS4.out.1) sz (by omega) (hB4) hB c1 hc1).mono ?_
            rintro e w9 hun
            rw [← hs2'.out, hX4] at hun
            have hun' := Lib.hid (UnP.app hun (by rw [← hX4]; exact hc1) hS4.out)
            clear hun
            obtain ⟨er, rfl, hSf, hBf, hef⟩ := hun'.out
            clear hun'
            have hf := Lib.hid (⟨er, rfl, hSf, hBf, hef⟩ : AppP B a mb sb n X w (.returned er) w9)
            clear hSf hBf hef
            go_wp2_with fail
            go_ret
            exact hf.out
end Go.Proofs.YtfdpnjebhllpkaaGreatDoor.Sg
end

section
namespace Go.Proofs.YtfdpnjebhllpkaaGreatDoor.Sg
open Go.RowKit Ma Dk

abbrev nm7 : Name := nameOf seg4 7
abbrev one : List UInt8 := [111, 110, 101]
def a1 : Int × D := create (new 1000) nm7 (head 7)
def a2 : (Int × S) × D := append a1.2 nm7 ⟨12, false⟩ [one]
theorem a1_ok : a1.1 = 0 := by decide +kernel
theorem a2_ok : a2.1.1 = 0 := by decide +kernel
theorem a3_ok : (open_ a2.2 nm7 (head 7)).1 = (0, [one], 23) := by decide +kernel
theorem bad_one : (Fr.puts [one]).length = 11 := by decide +kernel
theorem name7 : strOf (nameOf [115, 101, 103, 46] 7) = ⟨#[115, 101, 103, 46, 48, 48, 48, 48, 48, 48, 48, 55]⟩ := by decide +kernel

theorem rd_one (w : World) (v : Value) (E : TypeId) (fr : Nat × Nat) : Rd (w.alloc (.cells #[v] E fr)) (some ⟨w.heap.size, 0, none⟩) 1 1 [v] := by
  refine ⟨rfl, Nat.le_refl _, by omega, fun h => by simp at h, fun _ => ⟨_, _, rfl, by simp, fun j u hu => ?_⟩⟩
  have hh : (w.alloc (.cells #[v] E fr)).heap[w.heap.size]? = some (.cells #[v] E fr) := heap_alloc_new w _
  cases j with
  | zero =>
    simp at hu
    subst hu
    simp only [World.cell?, Nat.add_zero, hh]
    rfl
  | succ j => simp at hu
theorem bsl_one (w : World) (A : Option Addr) (n c : Nat) (l : List UInt8) (h : Bs w A n c l) (E : TypeId) (fr : Nat × Nat) : BsL (w.alloc (.cells #[.slice A n c] E fr)) (some ⟨w.heap.size, 0, none⟩) 1 1 [l] := by
  refine ⟨_, rd_one w _ E fr, rfl, fun j u hu => ?_⟩
  cases j with
  | zero =>
    simp at hu
    subst hu
    exact ⟨l, rfl, El.of_bs (h.below (below_alloc w _))⟩
  | succ j => simp at hu

set_option maxHeartbeats 1000000 in
set_option maxRecDepth 100000 in
theorem awake_any (w : World) (hE : Te w.heap.size w) :
    Calls Tryz.prog 11 #[] w fun e w' => e = .returned (.bool true) ∧ Below w.heap.size w w' := by
  have kc := fun (w : World) (C : Array Value) (n c : Nat) => Lib.run_convert_bytes_const (P := Tryz.prog) w 22 5 C n c Tryz.underlying22 Tryz.underlying5
  have hok : okN 7 = true := by decide
  have hE' := Lib.hid hE
  clear hE
  go_enter Tryz.func11, Tryz.ntmps11
  go_wp2_with fail
  refine (New_any w 1000).mono ?_
  rintro e w1 ⟨a, mb, rfl, hD1, hb1⟩
  have hx1 := Lib.hid hb1
  have hS1 : Hid (Sd w.heap.size a mb (new 1000) w1 w1) := Lib.hid (Sd.refl' (hD1.out w.heap.size (fun _ => ⟨[], 0⟩) (Nat.le_refl _)))
  clear hb1 hD1
  go_wp2_with fail
  refine (Create_any w1 w.heap.size a mb 0 0 (new 1000) hS1.out (Bd.new 1000 (by decide)) (by omega) (by omega) 7 hok (hE'.out.on hx1.out)).mono ?_
  rintro e w2 ⟨p, er, rfl, hst2, hres2⟩
  have hc1 : (create (new 1000) (nameOf seg4 7) (head 7)).1 = 0 := a1_ok
  rcases hres2 with ⟨_, rfl, sb, rfl, hsb, hB2⟩ | ⟨hne, _⟩
  case inr => exact absurd hc1 hne
  have hS2 : Hid (Sd w.heap.size a mb a1.2 w1 w2) := Lib.hid hst2
  have hB2' := Lib.hid hB2
  have hsb' : Hid (w.heap.size ≤ sb) := Lib.hid (Nat.le_trans hx1.out.size hsb)
  have hx2 := Lib.hid (hx1.out.trans hst2.1)
  clear hst2 hc1 hsb hB2 hS1
  have hn3 := Lib.hid (bs_lit w2 #[.int .u8 111, .int .u8 110, .int .u8 101] 5 (3, 4) one 3 rfl (by omega) rfl)
  have hba := Lib.hid (below_alloc w2 (.cells #[.int .u8 111, .int .u8 110, .int .u8 101] 5 (3, 4)))
  have hbl := Lib.hid (bsl_one (w2.alloc (.cells #[.int .u8 111, .int .u8 110, .int .u8 101] 5 (3, 4))) _ 3 3 one hn3.out 22 (0, 0))
  have hbb := Lib.hid (hba.out.trans ((below_alloc (w2.alloc (.cells #[.int .u8 111, .int .u8 110, .int .u8 101] 5 (3, 4))) (.cells #[.slice (some ⟨w2.heap.size, 0, none⟩) 3 3] 22)).mono (by simp)))
  go_wp2_with fail
  have hG2 : Bd a1.2 4 12 := by
    have := (Bd.new 1000 (by decide)).create nm7 (head 7)
    exact this.mono (by omega) (by rw [head_len hok]; omega)
  have hlt2 : sb < w2.heap.size := (Array.getElem?_eq_some_iff.1 hB2'.out).1
  refine (Append_any _ _ w.heap.size a mb sb 4 12 a1.2 (Sd.bel hS2.out hbb.out) hG2 (by omega) (by omega) 7 hok ((hE'.out.on hx2.out).on (hbb.out.mono hx2.out.size)) ⟨12, false⟩ (by simp) ((hbb.out.block sb hlt2).trans hB2'.out) hsb'.out _ 1 1 [one] (by simpa using hbl.out) (by rw [bad_one]; omega)).mono ?_
  rintro e w3 ⟨er, rfl, hst3, _, hr3⟩
  have hc2 : (append a1.2 (nameOf seg4 7) ⟨12, false⟩ [one]).1.1 = 0 := a2_ok
  rcases hr3 with ⟨_, rfl⟩ | ⟨hne, _⟩
  case inr => exact absurd hc2 hne
  have hS3 : Hid (Sc w.heap.size a mb a2.2 _ w3) := Lib.hid hst3
  have hx3 := Lib.hid ((hx2.out.trans (hbb.out.mono hx2.out.size)).trans hst3.1)
  have hG3 : Bd a2.2 10 100 := ((hG2.append nm7 ⟨12, false⟩ [one]).1).mono (by omega) (by rw [bad_one]; omega)
  clear hst3 hc2 hba hbl hbb hn3 hlt2 kc
  go_wp2_with fail
  refine (Open_any w3 w.heap.size a mb 10 100 a2.2 (Sc.sd hS3.out) hG3 (by omega) (by omega) 7 hok (hE'.out.on hx3.out)).mono ?_
  rintro e w4 ⟨p, v, er, rfl, ⟨hst4, hr4⟩, A4, c4, hv, ho4⟩
  have hc3 : (open_ a2.2 (nameOf seg4 7) (head 7)).1 = (0, [one], 23) := a3_ok
  rw [hc3] at hr4 hv ho4
  rcases hr4 with ⟨_, rfl, sb2, rfl, _, _⟩ | ⟨hne, _⟩
  case inr => exact absurd rfl hne
  obtain rfl : v = .slice A4 1 c4 := hv
  have hx4 := Lib.hid (hx3.out.trans hst4.1)
  have hbl4 := OwR.bsl ho4
  have hle4 := hbl4.le
  have hmx4 := hbl4.max
  obtain ⟨b5, off5, A5, n5, c5, l5, rfl, hb5, hl5, hc5, hbs5⟩ := hbl4.at_ (k := 0) (by decide)
  obtain rfl : l5 = one := (Option.some.inj hl5).symm
  have k5 : w4.cell? ⟨b5, off5, none⟩ = some (.slice A5 n5 c5) := hc5
  have kcv := hbs5.conv (P := Tryz.prog) (src := 22) (dst := 9) Tryz.underlying22 Tryz.underlying5 Tryz.underlying9
  have hone : strOf one = ⟨#[111, 110, 101]⟩ := rfl
  rw [hone] at kcv
  have hnm := segName_any 7 w4 (hE'.out.on hx4.out).tens
  rw [name7] at hnm
  clear hst4 hc3 ho4 hbl4 hl5 hc5 hbs5 hone
  go_wp2_with fail
  refine hnm.mono ?_
  rintro e w5 ⟨rfl, hb⟩
  have hx5 := Lib.hid (hx4.out.trans (hb.mono hx4.out.size))
  clear hb hnm
  go_wp2_with fail
  go_ret
  exact ⟨rfl, hx5.out⟩
end Go.Proofs.YtfdpnjebhllpkaaGreatDoor.Sg
end
