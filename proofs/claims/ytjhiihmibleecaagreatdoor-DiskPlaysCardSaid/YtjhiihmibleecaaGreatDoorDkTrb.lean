/- What befalls the operation that comes now. -/
import Derived.Test.YtjhiihmibleecaaGreatDoorDkUsed
import Derived.Laws.ResultCell
import Derived.Laws.Rows
import Derived.Deep.Heap
namespace Go.Proofs.YtjhiihmibleecaaGreatDoor.Dk
open Go.RowKit

theorem trf_length (l : List Tr) : (trf l).length = l.length * 3 := by
  induction l with
  | nil => rfl
  | cons p l ih =>
    show (trC p ++ trf l).length = _
    rw [List.length_append, ih, List.length_cons]
    simp [trC]
    omega
theorem trf_get : ∀ {l : List Tr} {k : Nat} {t : Tr}, l[k]? = some t → (trf l)[k * 3]? = some (.int .i64 t.1) ∧ (trf l)[k * 3 + 1]? = some (.int .i64 t.2.1) ∧ (trf l)[k * 3 + 2]? = some (.int .i64 t.2.2)
  | [], _, _, h => by simp at h
  | q :: l, 0, t, h => by
    simp at h
    subst h
    exact ⟨rfl, rfl, rfl⟩
  | q :: l, k + 1, t, h => by
    simp at h
    have := trf_get h
    show (trC q ++ trf l)[(k + 1) * 3]? = _ ∧ (trC q ++ trf l)[(k + 1) * 3 + 1]? = _ ∧ (trC q ++ trf l)[(k + 1) * 3 + 2]? = _
    have h3 : (trC q).length = 3 := rfl
    rw [List.getElem?_append_right (by omega), List.getElem?_append_right (by omega), List.getElem?_append_right (by omega), h3, show (k + 1) * 3 - 3 = k * 3 by omega, show (k + 1) * 3 + 1 - 3 = k * 3 + 1 by omega, show (k + 1) * 3 + 2 - 3 = k * 3 + 2 by omega]
    exact this

/-- A row of three-celled things, read. -/
theorem row3_at {w : World} {B E n : Nat} {v : Value} {xs : List Value} (h : w.ownsRow B E 3 v n xs) : ∃ A c, v = .slice A n c ∧ n ≤ c ∧ c ≤ 9223372036854775807 ∧
    (xs ≠ [] → ∃ g, A = some ⟨g, 0, none⟩ ∧ g < w.heap.size ∧ ∀ j u, xs[j]? = some u → w.cell? ⟨g, j, none⟩ = some u) := by
  obtain ⟨hl, h⟩ := h
  rcases h with ⟨rfl, h0⟩ | ⟨g, cap, cur, rfl, hB, hh, hnc, hm, hs, ht⟩
  · subst h0
    refine ⟨none, 0, rfl, Nat.le_refl _, by omega, fun hne => ?_⟩
    exact absurd (List.eq_nil_of_length_eq_zero (by omega)) hne
  · refine ⟨_, cap, rfl, hnc, by unfold maxLen at hm; omega, fun _ => ⟨g, rfl, (Array.getElem?_eq_some_iff.1 hh).1, fun j u hu => ?_⟩⟩
    rw [← ht, List.getElem?_take] at hu
    split at hu
    · simp only [World.cell?, hh]
      simpa using hu
    · cases hu

theorem Da.trs {w : World} {B a mb : Nat} {L : Al Nat} {F : Nat → Fl} {tv : Value} {d : D} (h : Da w B a mb L F tv d) : ∃ A c, tv = .slice A d.tr.length c ∧ d.tr.length ≤ c ∧ c ≤ 9223372036854775807 ∧
    ∀ i t, d.tr[i]? = some t → ∃ g, A = some ⟨g, 0, none⟩ ∧ g < w.heap.size ∧ w.cell? ⟨g, i * 3, none⟩ = some (.int .i64 t.1) ∧ w.cell? ⟨g, i * 3 + 1, none⟩ = some (.int .i64 t.2.1) ∧ w.cell? ⟨g, i * 3 + 2, none⟩ = some (.int .i64 t.2.2) := by
  obtain ⟨A, c, h1, h2, h3, h4⟩ := row3_at h.tr
  refine ⟨A, c, h1, h2, h3, fun i t hi => ?_⟩
  have hg := trf_get hi
  obtain ⟨g, e, hlt, hc⟩ := h4 (by intro e; rw [e] at hg; simp at hg)
  exact ⟨g, e, hlt, hc _ _ hg.1, hc _ _ hg.2.1, hc _ _ hg.2.2⟩

theorem set_size (w : World) (p : Addr) (x : Value) : (w.setCell p x).heap.size = w.heap.size := by simp [World.setCell]
theorem below_swap {w : World} {a i : Nat} (ha : a < w.heap.size) (o : Obj) (x : Value) : Below w.heap.size (w.setCell ⟨a, i, none⟩ x) ((w.alloc o).setCell ⟨a, i, none⟩ x) := by
  refine ⟨rfl, rfl, rfl, by rw [set_size, set_size]; exact (below_alloc w o).size, fun k hk => ?_⟩
  have h1 : (w.alloc o).heap[k]? = w.heap[k]? := (below_alloc w o).block k hk
  simp only [World.setCell, Array.getElem?_modify, h1]

/-- A trouble's block. -/
def Tb (w : World) (b : Nat) (x y z : Int) : Prop := w.heap[b]? = some (.cells #[.int .i64 x, .int .i64 y, .int .i64 z] 86)
theorem tb_set {w : World} {b : Nat} {x y z : Int} (h : Tb w b x y z) (x' y' z' : Int) :
    Tb (((w.setCell ⟨b, 0, none⟩ (.int .i64 x')).setCell ⟨b, 1, none⟩ (.int .i64 y')).setCell ⟨b, 2, none⟩ (.int .i64 z')) b x' y' z' := by
  have h1 := setCell_blk h (i := 0) (.int .i64 x')
  have h2 := setCell_blk h1 (i := 1) (.int .i64 y')
  exact setCell_blk h2 (i := 2) (.int .i64 z')
theorem load_tb {w : World} {b : Nat} {x y z : Int} (h : Tb w b x y z) : (loadVar 86 ⟨b, 0, none⟩).run Tryz.prog w = .ok (.agg #[.int .i64 x, .int .i64 y, .int .i64 z]) w :=
  run_loadVar_row w b _ _ _ _ _ h Tryz.underlying86 rfl (by kernel_rfl)
theorem res_tb {fn : Func} {p u : Tmp} (hf : fn.results = #[.cell p 86, .tmp u]) {tmps : Array Value} {w : World} {b : Nat} {x y z : Int} {ok : Value}
    (h : Tb w b x y z) (hp : tmps.getD p undef = .pointer (some ⟨b, 0, none⟩)) (hu : tmps.getD u undef = ok) :
    (results fn tmps).run Tryz.prog w = .ok (.tuple #[.agg #[.int .i64 x, .int .i64 y, .int .i64 z], ok]) w := by
  rw [results_cell_tmp hf, hp, hu]
  simp [asAddr, Result.andThen, load_tb h]
theorem later_block {w : World} {R : Nat} (h : R < w.heap.size) (o : Obj) (k : Nat) : ((w.alloc o).drewN k).heap[R]? = w.heap[R]? :=
  ((Joins.below_draws _ (w.alloc o) k).block R (Nat.lt_of_lt_of_le h (below_alloc w o).size)).trans ((below_alloc w o).block R h)
theorem below_later {w0 w : World} (h : Below w0.heap.size w0 w) (o : Obj) (k : Nat) : Below w0.heap.size w0 ((w.alloc o).drewN k) :=
  h.trans (((below_alloc w o).trans ((Joins.below_draws _ (w.alloc o) k).mono (below_alloc w o).size)).mono h.size)
theorem below_set {B b i : Nat} {w0 w : World} (h : Below B w0 w) (hb : B ≤ b) (v : Value) : Below B w0 (w.setCell ⟨b, i, none⟩ v) :=
  h.setCell (p := ⟨b, i, none⟩) hb v

/-- What trouble gives. -/
def TrP (N : Nat) (w2 : World) (d : D) (e : Ending) (w' : World) : Prop :=
  Below N w2 w' ∧ ∃ at_ kd pt bef, e = .returned (.tuple #[.agg #[.int .i64 at_, .int .i64 kd, .int .i64 pt], .bool bef]) ∧
    match trouble d.tr (d.ops + 1) with
    | none => bef = false
    | some (k, p) => bef = true ∧ kd = k ∧ pt = p

theorem hits_first {tr : List Tr} {i n : Nat} {t : Tr} (hi : tr[i]? = some t) (hno : tr.find? (hits n) = (tr.drop i).find? (hits n)) (ht : hits n t = true) : trouble tr n = some t.2 := by
  have hlt := (List.getElem?_eq_some_iff.1 hi).1
  rw [List.getElem?_eq_getElem hlt] at hi
  injection hi with hi
  unfold trouble
  rw [hno, List.drop_eq_getElem_cons hlt, hi, List.find?_cons_of_pos ht]
  rfl
theorem hits_next {tr : List Tr} {i n : Nat} {t : Tr} (hi : tr[i]? = some t) (hno : tr.find? (hits n) = (tr.drop i).find? (hits n)) (ht : hits n t = false) : tr.find? (hits n) = (tr.drop (i + 1)).find? (hits n) := by
  have hlt := (List.getElem?_eq_some_iff.1 hi).1
  rw [List.getElem?_eq_getElem hlt] at hi
  injection hi with hi
  rw [hno, List.drop_eq_getElem_cons hlt, hi, List.find?_cons_of_neg (by rw [ht]; decide)]

set_option maxHeartbeats 1000000 in
set_option maxRecDepth 100000 in
theorem trouble_any (w : World) (B a mb : Nat) (L : Al Nat) (F : Nat → Fl) (tv : Value) (d : D) (h : Da w B a mb L F tv d) (hops : d.ops ≤ 1000000) (htl : d.tr.length ≤ 1000000) :
    Calls Tryz.prog 65 #[.pointer (some ⟨a, 0, none⟩)] w (TrP w.heap.size (w.setCell ⟨a, 3, none⟩ (.int .i64 ((d.ops + 1 : Nat)))) d) := by
  have halt := h.alt
  have c3 : ∀ o, (w.alloc o).cell? ⟨a, 3, none⟩ = some (.int .i64 (d.ops : Nat)) := fun o => ((below_alloc w o).cell (p := ⟨a, 3, none⟩) halt).trans (by simp [World.cell?, h.blk])
  have f3 : ∀ o, (w.alloc o).frozen? ⟨a, 3, none⟩ = false := fun o => frozen_of_row _ a 3 _ _ (((below_alloc w o).block a halt).trans h.blk)
  obtain ⟨hD, _⟩ := h.setOps (d.ops + 1)
  have hsw := below_swap (i := 3) halt (.cells #[.int .i64 0, .int .i64 0, .int .i64 0] 86) (.int .i64 ((d.ops + 1 : Nat)))
  obtain ⟨w2, hw2⟩ : ∃ w2, w.setCell ⟨a, 3, none⟩ (.int .i64 ((d.ops + 1 : Nat))) = w2 := ⟨_, rfl⟩
  have hsz2 : w2.heap.size = w.heap.size := by rw [← hw2]; exact set_size _ _ _
  rw [hw2] at hD hsw ⊢
  rw [show ((d.ops + 1 : Nat) : Int) = (d.ops : Int) + 1 from rfl] at hsw
  obtain ⟨w1, hw1⟩ : ∃ w1, (w.alloc (.cells #[.int .i64 0, .int .i64 0, .int .i64 0] 86)).setCell ⟨a, 3, none⟩ (.int .i64 ((d.ops : Int) + 1)) = w1 := ⟨_, rfl⟩
  rw [hw1] at hsw
  obtain ⟨R, hR⟩ : ∃ R, w.heap.size = R := ⟨_, rfl⟩
  rw [hR] at hsw hsz2 halt ⊢
  have hD' := Lib.hid hD
  have hsw' := Lib.hid hsw
  have hsz2' := Lib.hid hsz2
  obtain ⟨A, c, htv, hnc, hcm, hrow⟩ := hD.trs
  have htv' := Lib.hid htv
  obtain ⟨n, hn⟩ : ∃ n, d.tr.length = n := ⟨_, rfl⟩
  rw [hn] at htv hnc htl
  have hblk1 : ∀ w', Below R w1 w' → w'.heap[a]? = some (.cells #[.int .i64 (d.room : Nat), .map (some mb), .slice A n c, .int .i64 ((d.ops + 1 : Nat)), .bool d.down] 61) := fun w' hb => by
    rw [hb.block a halt, hsw.block a halt]
    have := hD.blk
    rw [htv] at this
    exact this
  have d2 : w1.cell? ⟨a, 2, none⟩ = some (.slice A n c) := by simp [World.cell?, hblk1 w1 (Below.refl _ _)]
  obtain ⟨R0, hR0⟩ : ∃ R0, trouble d.tr (d.ops + 1) = R0 := ⟨_, rfl⟩
  have hR0' := Lib.hid hR0
  have hblk' := Lib.hid hblk1
  have hrow' := Lib.hid hrow
  have hn' := Lib.hid hn
  have hsR : R ≤ w1.heap.size := by have := hsw.size; omega
  have hR1 : R < w1.heap.size := by rw [← hw1, set_size, ← hR]; simp
  have hRn : w1.heap[R]? = some (.cells #[.int .i64 0, .int .i64 0, .int .i64 0] 86) := by
    rw [← hw1]
    have hne : ¬ a = R := by omega
    simp only [World.setCell, Array.getElem?_modify, if_neg hne]
    rw [← hR]
    exact heap_alloc_new w _
  have hRn' := Lib.hid hRn
  clear hD hsw hsz2 hw2 h htv hblk1 hrow hR0 hn hRn
  go_enter Tryz.func65, Tryz.ntmps65
  go_wp2_with fail
  clear d2 hw1 c3 f3 hR
  go_loopw [18] (fun v wr => ∃ i : Nat, i ≤ n ∧ v = .int .i64 (i : Nat) ∧ Hid (d.tr.find? (hits (d.ops + 1)) = (d.tr.drop i).find? (hits (d.ops + 1))) ∧ Hid (Below w1.heap.size w1 wr)) (fun v _ => n - (intOf v).toNat)
  case atStart => exact ⟨0, by omega, rfl, Lib.hid rfl, Lib.hid (Below.refl _ _)⟩
  case round =>
    obtain ⟨i, hi, rfl, hno, hb⟩ := hrel
    have hbR := Lib.hid (hb.out.mono hsR)
    have hRr : R < wr.heap.size := by have := hb.out.size; omega
    by_cases hlt : i < n
    · have i0 : decide ((i : Int) < (n : Int)) = true := by simp; omega
      have hil : (i : Int) < (n : Int) := by omega
      have hti : d.tr[i]? = some (d.tr[i]'(by rw [hn'.out]; exact hlt)) := List.getElem?_eq_getElem _
      obtain ⟨t, ht⟩ : ∃ t, t = d.tr[i]'(by rw [hn'.out]; exact hlt) := ⟨_, rfl⟩
      rw [← ht] at hti
      clear ht
      obtain ⟨g, hA, hg, k0, k1, k2⟩ := hrow'.out i t hti
      subst hA
      have hg2 : g < R := by rw [hsz2'.out] at hg; exact hg
      have hup := hsw'.out.trans hbR.out
      rw [← hup.cell (p := ⟨g, _, none⟩) hg2] at k0 k1 k2
      have k0' : ∀ o, (wr.alloc o).cell? ⟨g, i * 3, none⟩ = some (.int .i64 t.1) := fun o => ((below_alloc wr o).cell (p := ⟨g, _, none⟩) (show g < _ by omega)).trans k0
      have hops3 : ∀ o, (wr.alloc o).cell? ⟨a, 3, none⟩ = some (.int .i64 ((d.ops : Int) + 1)) := fun o => ((below_alloc wr o).cell (p := ⟨a, 3, none⟩) (show a < _ by omega)).trans (by simp [World.cell?, hblk'.out wr hbR.out])
      obtain ⟨at_, kd, pt⟩ := t
      simp only at k0 k1 k2
      have hti' := Lib.hid hti
      clear hti hup hg hg2 k0'
      have hRb : ∀ o, (wr.alloc o).heap[R]? = some (.cells #[.int .i64 0, .int .i64 0, .int .i64 0] 86) := fun o => ((below_alloc wr o).block R hRr).trans ((hb.out.block R hR1).trans hRn'.out)
      have hRf : ∀ o j, (wr.alloc o).frozen? ⟨R, j, none⟩ = false := fun o j => frozen_of_row _ R j _ _ (hRb o)
      have hR0c : ∀ o, (wr.alloc o).cell? ⟨R, 0, none⟩ = some (.int .i64 0) := fun o => by simp [World.cell?, hRb o]
      have hR1c : ∀ o, (wr.alloc o).cell? ⟨R, 1, none⟩ = some (.int .i64 0) := fun o => by simp [World.cell?, hRb o]
      have hR2c : ∀ o, (wr.alloc o).cell? ⟨R, 2, none⟩ = some (.int .i64 0) := fun o => by simp [World.cell?, hRb o]
      have hba : Below R w1 (wr.alloc (.cells #[.int .i64 at_, .int .i64 kd, .int .i64 pt] 86)) := hbR.out.alloc (by omega) _
      have hba' := Lib.hid hba
      clear hRb hba
      by_cases e1 : at_ = (d.ops : Int) + 1
      · have j1 : (at_ == (d.ops : Int) + 1) = true := by rw [beq_iff_eq]; exact e1
        have e1' := Lib.hid e1
        clear e1
        by_cases e2 : 1 ≤ kd
        · have j2 : decide (1 ≤ kd) = true := by simpa using e2
          by_cases e3 : kd ≤ 3
          · have j3 : decide (kd ≤ 3) = true := by simpa using e3
            have hh : hits (d.ops + 1) (at_, kd, pt) = true := by
              unfold hits
              simp [e1'.out, e2, e3]
            have hR' : R0 = some (kd, pt) := by rw [← hR0'.out]; exact hits_first hti'.out hno.out hh
            have hR'' := Lib.hid hR'
            clear hh hR'
            go_wp2_with fail
            go_big_quiet (fail)
            go_wp2_with fail
            have hTb : Tb ((wr.alloc (.cells #[.int .i64 at_, .int .i64 kd, .int .i64 pt] 86)).drewN nq) R 0 0 0 := (later_block hRr _ _).trans ((hb.out.block R hR1).trans hRn'.out)
            refine bodyPost_ret (res_tb rfl (tb_set hTb at_ kd pt) rfl rfl) rfl ?_
            refine ⟨hsw'.out.trans (below_set (below_set (below_set ((below_later hb.out _ _).mono hsR) (Nat.le_refl _) _) (Nat.le_refl _) _) (Nat.le_refl _) _), at_, kd, pt, true, rfl, ?_⟩
            rw [hR0'.out, hR''.out]
            exact ⟨rfl, rfl, rfl⟩
          · have j3 : decide (kd ≤ 3) = false := by simpa using e3
            have hh : hits (d.ops + 1) (at_, kd, pt) = false := by
              unfold hits
              simp [e3]
            have hn2 := Lib.hid (hits_next hti'.out hno.out hh)
            clear hh
            go_wp2_with fail
            go_big_quiet (fail)
            go_wp2_with fail
            go_roundw
            case rel => exact ⟨i + 1, by omega, by go_num, hn2, Lib.hid (below_later hb.out _ _)⟩
            case measure => simp [intOf]; omega
        · have j2 : decide (1 ≤ kd) = false := by simpa using e2
          have hh : hits (d.ops + 1) (at_, kd, pt) = false := by
            unfold hits
            simp [e2]
          have hn2 := Lib.hid (hits_next hti'.out hno.out hh)
          clear hh
          go_wp2_with fail
          go_big_quiet (fail)
          go_wp2_with fail
          go_roundw
          case rel => exact ⟨i + 1, by omega, by go_num, hn2, Lib.hid (below_later hb.out _ _)⟩
          case measure => simp [intOf]; omega
      · have j1 : (at_ == (d.ops : Int) + 1) = false := by rw [beq_eq_false_iff_ne]; exact e1
        have hh : hits (d.ops + 1) (at_, kd, pt) = false := by
          unfold hits
          simp [e1]
        have hn2 := Lib.hid (hits_next hti'.out hno.out hh)
        clear hh
        go_wp2_with fail
        go_big_quiet (fail)
        go_wp2_with fail
        go_roundw
        case rel => exact ⟨i + 1, by omega, by go_num, hn2, Lib.hid (below_later hb.out _ _)⟩
        case measure => simp [intOf]; omega
    · have i0 : decide ((i : Int) < (n : Int)) = false := by simp; omega
      have hRb := (hb.out.block R hR1).trans hRn'.out
      have hRf : ∀ j, wr.frozen? ⟨R, j, none⟩ = false := fun j => frozen_of_row _ R j _ _ hRb
      have hR0c : wr.cell? ⟨R, 0, none⟩ = some (.int .i64 0) := by simp [World.cell?, hRb]
      have hR1c : wr.cell? ⟨R, 1, none⟩ = some (.int .i64 0) := by simp [World.cell?, hRb]
      have hR2c : wr.cell? ⟨R, 2, none⟩ = some (.int .i64 0) := by simp [World.cell?, hRb]
      have hR' : R0 = none := by
        rw [← hR0'.out]
        unfold trouble
        rw [hno.out, List.drop_eq_nil_of_le (by rw [hn'.out]; omega)]
        rfl
      have hR'' := Lib.hid hR'
      have hTb : Hid (Tb wr R 0 0 0) := Lib.hid hRb
      clear hRb hR'
      go_wp2_with fail
      refine bodyPost_ret (res_tb rfl (tb_set hTb.out 0 0 0) rfl rfl) rfl ?_
      refine ⟨hsw'.out.trans (below_set (below_set (below_set hbR.out (Nat.le_refl _) _) (Nat.le_refl _) _) (Nat.le_refl _) _), 0, 0, 0, false, rfl, ?_⟩
      rw [hR0'.out, hR''.out]
end Go.Proofs.YtjhiihmibleecaaGreatDoor.Dk
