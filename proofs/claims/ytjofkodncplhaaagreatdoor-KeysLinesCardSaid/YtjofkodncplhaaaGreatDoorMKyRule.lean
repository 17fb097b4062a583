/- keys.rule. -/
import Derived.Test.YtjofkodncplhaaaGreatDoorMKyWalk
import Derived.Test.YtjofkodncplhaaaGreatDoorMPlan2
import Derived.Laws.ResultCell
import Derived.Laws.Rows
import Derived.Deep.Heap
section
namespace Go.Proofs.YtjofkodncplhaaaGreatDoor.Ky
open Go.RowKit Go.Shelf UtfW

/-- A rule's block. -/
def Kb (w : World) (b : Nat) (A : Option Addr) (n c : Nat) (A' : Option Addr) (n' c' : Nat) : Prop :=
  w.heap[b]? = some (.cells #[.slice A n c, .slice A' n' c'] 27)
section
variable {w w' : World} {b : Nat} {A : Option Addr} {n c : Nat} {A' : Option Addr} {n' c' : Nat}
theorem Kb.lt (h : Kb w b A n c A' n' c') : b < w.heap.size := (Array.getElem?_eq_some_iff.1 h).1
theorem Kb.below (h : Kb w b A n c A' n' c') (hb : Below w.heap.size w w') : Kb w' b A n c A' n' c' := (hb.block b h.lt).trans h
theorem kb_new (w : World) (A : Option Addr) (n c : Nat) (A' : Option Addr) (n' c' : Nat) : Kb (w.alloc (.cells #[.slice A n c, .slice A' n' c'] 27)) w.heap.size A n c A' n' c' := heap_alloc_new w _
theorem Kb.cells (h : Kb w b A n c A' n' c') : w.cell? ⟨b, 0, none⟩ = some (.slice A n c) ∧ w.cell? ⟨b, 1, none⟩ = some (.slice A' n' c') := by
  unfold Kb at h
  constructor <;> simp [World.cell?, h]
theorem Kb.frozen (h : Kb w b A n c A' n' c') (i : Nat) : w.frozen? ⟨b, i, none⟩ = false := frozen_of_row w b i _ _ h
theorem setCell_kb {i : Nat} {cs : Array Value} {E : TypeId} (h : w.heap[b]? = some (.cells cs E)) (v : Value) : (w.setCell ⟨b, i, none⟩ v).heap[b]? = some (.cells (cs.setIfInBounds i v) E) := by
  simp [World.setCell, Array.getElem?_modify, h]
/-- Both stores, one behind the other. -/
theorem kb_set (h : Kb w b A n c A' n' c') (B : Option Addr) (m d : Nat) (B' : Option Addr) (m' d' : Nat) : Kb ((w.setCell ⟨b, 0, none⟩ (.slice B m d)).setCell ⟨b, 1, none⟩ (.slice B' m' d')) b B m d B' m' d' := by
  have h1 := setCell_kb h (i := 0) (.slice B m d)
  exact setCell_kb h1 (i := 1) (.slice B' m' d')
theorem load_kb (h : Kb w b A n c A' n' c') : (loadVar 27 ⟨b, 0, none⟩).run Tryz.prog w = .ok (.agg #[.slice A n c, .slice A' n' c']) w :=
  run_loadVar_row w b _ _ _ _ _ h Tryz.underlying27 rfl (by kernel_rfl)
theorem res_kb {fn : Func} {p u : Tmp} (hf : fn.results = #[.cell p 27, .tmp u]) {tmps : Array Value} {ok : Value}
    (h : Kb w b A n c A' n' c') (hp : tmps.getD p undef = .pointer (some ⟨b, 0, none⟩)) (hu : tmps.getD u undef = ok) :
    (results fn tmps).run Tryz.prog w = .ok (.tuple #[.agg #[.slice A n c, .slice A' n' c'], ok]) w := by
  rw [results_cell_tmp hf, hp, hu]
  simp [asAddr, Result.andThen, load_kb h]
end
theorem below_set {w0 w : World} {B b i : Nat} (h : Below B w0 w) (hb : B ≤ b) (v : Value) : Below B w0 (w.setCell ⟨b, i, none⟩ v) :=
  h.setCell (p := ⟨b, i, none⟩) hb v

theorem Ts.set_ {w : World} {A : Option Addr} {n c b i : Nat} {ts : List Tx} (h : Ts w A n c ts) (hne : ∀ a, A = some a → 0 < n → a.block ≠ b) (v : Value) : Ts (w.setCell ⟨b, i, none⟩ v) A n c ts :=
  { len := Rd.len h, le := Rd.le h, max := Rd.max h, nil := Rd.nil h, cell := fun hn => by
      obtain ⟨b', off, e, hb, hc⟩ := Rd.cell h hn
      refine ⟨b', off, e, by rw [Deep.nblk_setCell]; exact hb, fun j u hu => ?_⟩
      have := hc j u hu
      have hk := Deep.blk_setCell_other w ⟨b, i, none⟩ v b' (by have := hne _ e hn; simpa using this)
      unfold World.cell? at this ⊢
      rw [hk]
      exact this }
theorem OwX.ne_ {w : World} {B E n c b : Nat} {A : Option Addr} {ts : List Tx} (h : OwX w B E (.slice A n c) ts) (hb : b < B) : ∀ a, A = some a → 0 < n → a.block ≠ b := by
  intro a e _ he
  subst e
  rcases h.2 with ⟨h1, _⟩ | ⟨g, cap, cur, h1, h2, _⟩
  · injection h1 with h1
    cases h1
  · injection h1 with h1
    injection h1 with h1
    subst h1
    simp only at he
    omega

/-- The rule of a path. -/
def findR (l : List Rl) (path : List Tx) : Option Rl := l.find? fun r => decide (r.1 = path)
theorem find_has (l : List Rl) (path : List Tx) : (findR l path).isSome = hasB l path := by
  unfold findR hasB
  rw [Bool.eq_iff_iff, List.find?_isSome, List.any_eq_true]
theorem find_none {l : List Rl} {path : List Tx} (h : ∀ (j : Nat) r, l[j]? = some r → r.1 ≠ path) : findR l path = none := by
  unfold findR
  rw [List.find?_eq_none]
  intro r hr
  obtain ⟨j, hj⟩ := List.mem_iff_getElem?.1 hr
  simpa using h j r hj
theorem find_some {l : List Rl} {path : List Tx} {k : Nat} {r : Rl} (hr : l[k]? = some r) (hp : r.1 = path) (h : ∀ (j : Nat) r, j < k → l[j]? = some r → r.1 ≠ path) : findR l path = some r := by
  unfold findR
  have hl := (List.getElem?_eq_some_iff.1 hr).1
  have e : l = l.take k ++ r :: l.drop (k + 1) := by
    have h1 := List.drop_eq_getElem_cons hl
    have h2 : l[k] = r := (List.getElem?_eq_some_iff.1 hr).2
    rw [h2] at h1
    rw [← h1, List.take_append_drop]
  rw [e, List.find?_append]
  have hn : (l.take k).find? (fun r => decide (r.1 = path)) = none := by
    rw [List.find?_eq_none]
    intro x hx
    obtain ⟨j, hj⟩ := List.mem_iff_getElem?.1 hx
    have hjk : j < k := by
      have := (List.getElem?_eq_some_iff.1 hj).1
      rw [List.length_take] at this
      omega
    rw [List.getElem?_take, if_pos hjk] at hj
    simpa using h j x hjk hj
  rw [hn, List.find?_cons_of_pos (by simpa using hp)]
  rfl

/-- What Find answers. -/
def FindP (l : List Rl) (path : List Tx) (w : World) (e : Ending) (w' : World) : Prop :=
  ∃ A n c A' n' c', e = .returned (.tuple #[.agg #[.slice A n c, .slice A' n' c'], .bool (hasB l path)]) ∧ Below w.heap.size w w' ∧ ∀ r, findR l path = some r → Ts w' A n c r.1 ∧ Ts w' A' n' c' r.2

set_option maxHeartbeats 2000000 in
set_option maxRecDepth 100000 in
/-- keys.Find. -/
theorem Find_any (A : Option Addr) (n c : Nat) (l : List Rl) (Ap : Option Addr) (np cp : Nat) (path : List Tx) (w : World) (h : Rs w A n c l) (hp : Ts w Ap np cp path) (hS : ∀ r ∈ l, r.1.length ≤ 1000000000 ∧ r.2.length ≤ 1000000000) :
    Calls Tryz.prog 21 #[.slice A n c, .slice Ap np cp] w (FindP l path w) := by
  have hl := Lib.hid h.len
  have hle := h.le
  have hm := h.max
  have hn0 := kb_new w none 0 0 none 0 0
  have hb0 := below_alloc w (.cells #[.slice none 0 0, .slice none 0 0] 27)
  obtain ⟨T, hT⟩ : ∃ T, w.heap.size = T := ⟨_, rfl⟩
  obtain ⟨w0, hw0⟩ : ∃ w0, w.alloc (.cells #[.slice none 0 0, .slice none 0 0] 27) = w0 := ⟨_, rfl⟩
  have hs0 : w0.heap.size = T + 1 := by rw [← hw0, World.size_alloc, hT]
  rw [hw0] at hb0 hn0
  have h0 := Lib.hid (h.below hb0)
  have hp0 := Lib.hid (hp.below hb0)
  rw [hT] at hn0 hb0
  have hn0' := Lib.hid hn0
  have hb0' := Lib.hid hb0
  have hT' := Lib.hid hT
  have hS' := Lib.hid hS
  clear h hp hn0 hb0 hS
  go_enter Tryz.func21, Tryz.ntmps21
  go_wp2_with fail
  clear hw0 hT
  go_loopw [10] (fun i wr => ∃ k : Nat, k ≤ n ∧ i = .int .i64 k ∧ Hid (∀ (j : Nat) r, j < k → l[j]? = some r → r.1 ≠ path) ∧ Hid (Below w0.heap.size w0 wr)) (fun i _ => n - (intOf i).toNat)
  case atStart => exact ⟨0, by omega, rfl, Lib.hid (fun j r h => absurd h (by omega)), Lib.hid (Below.refl _ _)⟩
  case round =>
    obtain ⟨k, hk, rfl, hno, hb⟩ := hrel
    by_cases hlt : k < n
    · have i1 : decide ((k : Int) < (n : Int)) = true := by rw [decide_eq_true_eq]; omega
      have i2 : decide (k < n) = true := by rw [decide_eq_true_eq]; omega
      have i3 : (k : Int) < (n : Int) := by omega
      obtain ⟨b, off, r, A1, n1, c1, A2, n2, c2, rfl, hbl, hr, t1, t2, k0, k1⟩ := Rs.at_ (h0.out.below hb.out) hlt
      have hx := Lib.hid hb
      obtain ⟨p7, hp7⟩ : ∃ p7, wr.heap.size = p7 := ⟨_, rfl⟩
      have hn7 := kb_new wr A1 n1 c1 A2 n2 c2
      have hb7 := below_alloc wr (.cells #[.slice A1 n1 c1, .slice A2 n2 c2] 27)
      obtain ⟨w7, hw7⟩ : ∃ w7, wr.alloc (.cells #[.slice A1 n1 c1, .slice A2 n2 c2] 27) = w7 := ⟨_, rfl⟩
      rw [hw7] at hn7 hb7
      rw [hp7] at hn7
      have hpT : T < p7 := by have := hb.out.size; omega
      have t1' := Lib.hid (t1.below hb7)
      have t2' := Lib.hid (t2.below hb7)
      have hb7' := Lib.hid (hb.out.trans (hb7.mono hb.out.size))
      have hn7' := Lib.hid hn7
      obtain ⟨k7, k8⟩ := hn7.cells
      have hr' := Lib.hid hr
      clear hn7 hb7 t1 t2 hr
      have heq := equal_any A1 n1 c1 r.1 Ap np cp path w7 t1'.out (hp0.out.below hb7'.out)
      cases hd : decide (r.1 = path) with
      | false =>
        rw [hd] at heq
        have hd' := Lib.hid (of_decide_eq_false hd)
        clear hd
        go_wp2_with fail
        refine heq.mono ?_
        rintro e w8 ⟨rfl, q, rfl⟩
        have hb8 := Lib.hid (hb7'.out.trans (Joins.below_draws _ w7 q))
        clear heq
        go_wp2_with fail
        go_roundw
        case rel =>
          refine ⟨k + 1, by omega, by go_num, Lib.hid fun j r2 hj hr2 => ?_, hb8⟩
          rcases Nat.lt_or_ge j k with h9 | h9
          · exact hno.out j r2 h9 hr2
          · obtain rfl : j = k := by omega
            rw [hr'.out] at hr2
            injection hr2 with hr2
            rw [← hr2]
            exact hd'.out
        case measure => simp [intOf]; omega
      | true =>
        rw [hd] at heq
        have hd' := Lib.hid (of_decide_eq_true hd)
        clear hd
        go_wp2_with fail
        refine heq.mono ?_
        rintro e w8 ⟨rfl, q, rfl⟩
        clear heq
        have hsome : findR l path = some r := find_some hr'.out hd'.out hno.out
        have hsome' := Lib.hid hsome
        have hh : Hid (hasB l path = true) := Lib.hid (by rw [← find_has, hsome]; rfl)
        have hbq : Below w7.heap.size w7 (w7.drewN q) := Joins.below_draws _ _ _
        obtain ⟨w8, hw8⟩ : ∃ w8, w7.drewN q = w8 := ⟨_, rfl⟩
        rw [hw8] at hbq ⊢
        have hn8 := Lib.hid (hn7'.out.below hbq)
        have t18 := Lib.hid (t1'.out.below hbq)
        have t28 := Lib.hid (t2'.out.below hbq)
        have hb8 := Lib.hid (hb7'.out.trans (hbq.mono hb7'.out.size))
        have hs78 := hbq.size
        have hs7 := hb7'.out.size
        clear hsome hbq hw8 k7 k8
        go_wp2_with fail
        have hq0 : Hid (∀ x, Below w8.heap.size w8 x → x.cell? ⟨p7, 0, none⟩ = some (.slice A1 n1 c1) ∧ x.cell? ⟨p7, 1, none⟩ = some (.slice A2 n2 c2)) := Lib.hid fun x hbx => (hn8.out.below hbx).cells
        have hdr : Hid (Below w8.heap.size w8 w8.drew) := Lib.hid (Joins.below_draws w8.heap.size w8 1)
        have hl8 := hS'.out r (List.mem_of_getElem? hr'.out)
        have hc1 : Hid (∀ x, Below w8.heap.size w8 x → Calls Tryz.prog 40 #[.slice A1 n1 c1] x fun e w' => ∃ A' c', e = .returned (.slice A' n1 c') ∧ OwX w' x.heap.size 9 (.slice A' n1 c') r.1 ∧ Below x.heap.size x w') := Lib.hid fun x hbx => clone_any A1 n1 c1 r.1 x (t18.out.below hbx) (by have := t18.out.len; omega)
        have hc2 : Hid (∀ x, Below w8.heap.size w8 x → Calls Tryz.prog 40 #[.slice A2 n2 c2] x fun e w' => ∃ A' c', e = .returned (.slice A' n2 c') ∧ OwX w' x.heap.size 9 (.slice A' n2 c') r.2 ∧ Below x.heap.size x w') := Lib.hid fun x hbx => clone_any A2 n2 c2 r.2 x (t28.out.below hbx) (by have := t28.out.len; omega)
        obtain ⟨q0, q1⟩ := hq0.out _ hdr.out
        refine Pl.wp_region_plan 5 (.take 0 (.take 1 (.take 3 (.take 4 (.run 2 .done))))) (fun x => x.cell? ⟨p7, 0, none⟩ = some (.slice A1 n1 c1) ∧ x.cell? ⟨p7, 1, none⟩ = some (.slice A2 n2 c2)) (by kernel_rfl) (by kernel_rfl) (by exact ⟨q0, q1⟩) ?_
        simp only [Pl.fill, List.getElem?_cons_zero, List.getElem?_cons_succ, List.drop_succ_cons, List.drop_zero]
        iterate 4
          refine Pl.take_go ?_ (by rfl) (fun _ _ _ h => h) ?_ ?_
          rotate_left
          · (intro x hSw; (try dsimp only at hSw); go_simp; try with_reducible rfl)
          try simp only [Act.put, List.setIfInBounds_toArray, List.set_cons_zero, List.set_cons_succ]
        refine Pl.run_go (fun K hK => ?_)
        go_simp
        refine (hc1.out _ hdr.out).mono ?_
        rintro e w9 ⟨A3, c3, rfl, ho3, hb9⟩
        have hb9' := Lib.hid (hdr.out.trans (hb9.mono hdr.out.size))
        have ho3' := Lib.hid ho3
        have hs9 := hb9'.out.size
        clear hb9 ho3 q0 q1
        obtain ⟨q0, q1⟩ := hq0.out _ hb9'.out
        dsimp only
        refine hK.out _ _ (Pl.more_go _ (fun _ h => h) (by exact ⟨q0, q1⟩) ?_)
        clear hK K q0 q1
        refine Pl.done_go ?_
        go_wp2_with fail
        refine (hc2.out _ hb9'.out).mono ?_
        rintro e wA ⟨A4, c4, rfl, ho4, hbA⟩
        have ho3A := Lib.hid (ho3'.out.rd.below hbA)
        have hne3 := Lib.hid (ho3'.out.ne_ (b := T) (by have := hdr.out.size; omega))
        have hne4 := Lib.hid (ho4.ne_ (b := T) (by omega))
        have ho4' := Lib.hid ho4.rd
        have hbA' := Lib.hid (hb9'.out.trans (hbA.mono hs9))
        have hsA := hbA'.out.size
        have hnT : Kb wA T none 0 0 none 0 0 := (hbA'.out.block T (by omega)).trans ((hb8.out.block T (by omega)).trans hn0'.out)
        obtain ⟨c0, c1⟩ := hnT.cells
        have f0 := hnT.frozen 0
        have f1 := hnT.frozen 1
        have hnT' := Lib.hid hnT
        clear hbA ho4 hnT
        go_wp2_with fail
        refine bodyPost_ret (res_kb rfl (kb_set hnT'.out A3 n1 c3 A4 n2 c4) rfl rfl) rfl ?_
        refine ⟨A3, n1, c3, A4, n2, c4, by rw [hh.out]; rfl, ?_, fun r2 hr2 => ?_⟩
        · have hle2 := hT'.out
          exact below_set (below_set (by rw [hle2]; exact hb0'.out.trans ((hb8.out.trans (hbA'.out.mono (by omega))).mono (by omega))) (by omega) _) (by omega) _
        · rw [hsome'.out] at hr2
          injection hr2 with hr2
          subst hr2
          exact ⟨(ho3A.out.set_ hne3.out _).set_ hne3.out _, (ho4'.out.set_ hne4.out _).set_ hne4.out _⟩
    · have i1 : decide ((k : Int) < (n : Int)) = false := by rw [decide_eq_false_iff_not]; omega
      have i2 : decide (k < n) = false := by rw [decide_eq_false_iff_not]; omega
      have hnone : findR l path = none := find_none fun j r hr => hno.out j r (by have := (List.getElem?_eq_some_iff.1 hr).1; have := hl.out; omega) hr
      have hh : hasB l path = false := by rw [← find_has, hnone]; rfl
      have hnT : Kb wr T none 0 0 none 0 0 := (hb.out.block T (by omega)).trans hn0'.out
      obtain ⟨c0, c1⟩ := hnT.cells
      have f0 := hnT.frozen 0
      have f1 := hnT.frozen 1
      have hnT' := Lib.hid hnT
      have hnone' := Lib.hid hnone
      have hh' := Lib.hid hh
      clear hnone hh hnT
      go_wp2_with fail
      refine bodyPost_ret (res_kb rfl (kb_set hnT'.out none 0 0 none 0 0) rfl rfl) rfl ?_
      refine ⟨none, 0, 0, none, 0, 0, by rw [hh'.out]; rfl, ?_, fun r hr => by rw [hnone'.out] at hr; cases hr⟩
      have hle2 := hT'.out
      exact below_set (below_set (by rw [hle2]; exact hb0'.out.trans (hb.out.mono (by omega))) (by omega) _) (by omega) _
end Go.Proofs.YtjofkodncplhaaaGreatDoor.Ky
end

section
namespace Go.Proofs.YtjofkodncplhaaaGreatDoor.Ky
open Go.RowKit Go.Shelf UtfW

theorem rule_no1 {nm : Tx → Bool} {r : Rl} (h : ¬(0 < r.1.length ∧ (1 < r.1.length ∨ r.2.length = 0))) : ruleB nm r = false := by
  unfold ruleB
  rw [decide_eq_false h, Bool.false_and]
theorem rule_yes1 {nm : Tx → Bool} {r : Rl} (h : 0 < r.1.length ∧ (1 < r.1.length ∨ r.2.length = 0)) : ruleB nm r = (r.1.all nm && (r.2.all (keyB nm) && onceB r.2)) := by
  unfold ruleB
  rw [decide_eq_true h, Bool.true_and]

set_option maxHeartbeats 400000 in
set_option maxRecDepth 100000 in
/-- keys.rule. -/
theorem rule_any (A1 : Option Addr) (n1 c1 : Nat) (A2 : Option Addr) (n2 c2 : Nat) (r : Rl) (w : World) (h1 : Ts w A1 n1 c1 r.1) (h2 : Ts w A2 n2 c2 r.2) (hU : Ut w) (hS : Smr 999999 r) :
    Calls Tryz.prog 39 #[.agg #[.slice A1 n1 c1, .slice A2 n2 c2]] w fun e w' => e = .returned (.bool (ruleB nameR r)) ∧ Below w.heap.size w w' := by
  obtain ⟨p, q⟩ := r
  simp only at h1 h2
  have hl1 := h1.len
  have hl2 := h2.len
  have hm1 := Rd.max h1
  have hm2 := Rd.max h2
  have hle1 := Rd.le h1
  have hle2 := Rd.le h2
  have hno := rule_no1 (nm := nameR) (r := (p, q))
  have hyes := rule_yes1 (nm := nameR) (r := (p, q))
  simp only at hno hyes
  rw [hl1, hl2] at hno hyes
  obtain ⟨R, hR⟩ : ∃ R, ruleB nameR (p, q) = R := ⟨_, rfl⟩
  rw [hR] at hno hyes ⊢
  have hno' := Lib.hid hno
  have hyes' := Lib.hid hyes
  have hl1' := Lib.hid hl1
  have hl2' := Lib.hid hl2
  have hS' := Lib.hid hS
  have hn0 := kb_new w A1 n1 c1 A2 n2 c2
  have hb0 := below_alloc w (.cells #[.slice A1 n1 c1, .slice A2 n2 c2] 27)
  obtain ⟨T, hT⟩ : ∃ T, w.heap.size = T := ⟨_, rfl⟩
  obtain ⟨w0, hw0⟩ : ∃ w0, w.alloc (.cells #[.slice A1 n1 c1, .slice A2 n2 c2] 27) = w0 := ⟨_, rfl⟩
  have hs0 : w0.heap.size = T + 1 := by rw [← hw0, World.size_alloc, hT]
  rw [hw0] at hb0 hn0
  have h1' := Lib.hid (h1.below hb0)
  have h2' := Lib.hid (h2.below hb0)
  have hU' := Lib.hid (hU.below hb0)
  have hT' := Lib.hid hT
  rw [hT] at hn0 hb0
  have hn0' := Lib.hid hn0
  have hb0' := Lib.hid (show Below w.heap.size w w0 by rw [hT]; exact hb0)
  obtain ⟨k0, k1⟩ := hn0.cells
  clear h1 h2 hU hn0 hb0 hno hyes hl1 hl2 hR hS
  have htw := Lib.hid (twice_any A2 n2 c2 q w0 h2'.out)
  go_enter Tryz.func39, Tryz.ntmps39
  go_upto_region 1 with fail
  clear hw0 hT
  go_cut [27] (fun v wx => ∃ cnd : Bool, v = .bool cnd ∧ Hid (cnd = true → R = false) ∧ Hid (cnd = false → R = (p.all nameR && q.all (keyB nameR))) ∧ Hid (Below w0.heap.size w0 wx))
  case first =>
    by_cases e0 : n1 = 0
    · subst e0
      go_wp2_with fail
      go_meet
      exact ⟨true, rfl, Lib.hid fun _ => hno'.out (by omega), Lib.hid fun h => (by cases h), Lib.hid (Below.refl _ _)⟩
    · have j1 : ((n1 : Int) == 0) = false := by rw [beq_eq_false_iff_ne]; omega
      have hfin : Hid (0 < n1 ∧ (1 < n1 ∨ n2 = 0) → (onceB q = false → R = false) ∧ (onceB q = true → R = (p.all nameR && q.all (keyB nameR)))) := Lib.hid fun hq => by
        have hR := hyes'.out hq
        exact ⟨fun h => by rw [hR, h]; simp, fun h => by rw [hR, h, Bool.and_true]⟩
      by_cases e1 : n1 = 1
      · subst e1
        by_cases e2 : n2 = 0
        · subst e2
          go_wp2_with fail
          refine htw.out.mono ?_
          rintro e w1 ⟨rfl, hb1⟩
          have hb1' := Lib.hid hb1
          clear hb1
          go_wp2_with fail
          go_meet
          exact ⟨!onceB q, rfl, Lib.hid fun h => (hfin.out ⟨by decide, .inr trivial⟩).1 (by simpa using h), Lib.hid fun h => (hfin.out ⟨by decide, .inr trivial⟩).2 (by simpa using h), hb1'⟩
        · have j3 : decide ((n2 : Int) > 0) = true := by rw [decide_eq_true_eq]; omega
          have j4 : decide (0 < n2) = true := by rw [decide_eq_true_eq]; omega
          go_wp2_with fail
          go_meet
          exact ⟨true, rfl, Lib.hid fun _ => hno'.out (by omega), Lib.hid fun h => (by cases h), Lib.hid (Below.refl _ _)⟩
      · have j2 : ((n1 : Int) == 1) = false := by rw [beq_eq_false_iff_ne]; omega
        have hlt := Lib.hid (show 0 < n1 ∧ (1 < n1 ∨ n2 = 0) by omega)
        go_wp2_with fail
        refine htw.out.mono ?_
        rintro e w1 ⟨rfl, hb1⟩
        have hb1' := Lib.hid hb1
        clear hb1
        go_wp2_with fail
        go_meet
        exact ⟨!onceB q, rfl, Lib.hid fun h => (hfin.out hlt.out).1 (by simpa using h), Lib.hid fun h => (hfin.out hlt.out).2 (by simpa using h), hb1'⟩
  case rest =>
    obtain ⟨cnd, rfl, hc1, hc2, hbw⟩ := hcut
    cases cnd with
    | true =>
      obtain rfl : R = false := hc1.out rfl
      have hx := Lib.hid (hb0'.out.trans (hbw.out.mono hb0'.out.size))
      go_wp2_with fail
      go_ret
      exact ⟨rfl, hx.out⟩
    | false =>
      have hR := Lib.hid (hc2.out rfl)
      obtain ⟨k0, k1⟩ := (hn0'.out.below (hbw.out.mono (by omega))).cells
      clear hc1 hc2
      go_wp2_with fail
      go_loopw [31] (fun i wr => ∃ k : Nat, k ≤ n1 ∧ i = .int .i64 k ∧ Hid ((p.take k).all nameR = true) ∧ Hid (Below w0.heap.size w0 wr)) (fun i _ => n1 - (intOf i).toNat)
      case atStart => exact ⟨0, by omega, rfl, Lib.hid rfl, hbw⟩
      case round =>
        obtain ⟨k, hk, rfl, ho, hb⟩ := hrel
        by_cases hlt : k < n1
        · have i1 : decide ((k : Int) < (n1 : Int)) = true := by rw [decide_eq_true_eq]; omega
          have i2 : decide (k < n1) = true := by rw [decide_eq_true_eq]; omega
          have i3 : (k : Int) < (n1 : Int) := by omega
          obtain ⟨b, off, t, rfl, hbl, ht, hc⟩ := (h1'.out.below hb.out).at_ hlt
          have hnm := name_any (strOf t) (by rw [strOf_size']; have := hS'.out.2.2.1 t (List.mem_of_getElem? ht); omega) wr (hU'.out.below hb.out)
          rw [strOf_data'] at hnm
          have hsz := hb.out.size
          cases hx : nameR t with
          | false =>
            rw [hx] at hnm
            have hf : R = false := by
              rw [hR.out, Bool.and_eq_false_iff]
              exact .inl (List.all_eq_false.2 ⟨t, List.mem_of_getElem? ht, by rw [hx]; decide⟩)
            subst hf
            clear ht hx
            go_wp2_with fail
            refine hnm.mono ?_
            rintro e w2 ⟨rfl, hb2⟩
            have hx2 := Lib.hid (hb0'.out.trans ((hb.out.trans (hb2.mono hsz)).mono hb0'.out.size))
            clear hnm hb2
            go_wp2_with fail
            go_ret
            exact ⟨rfl, hx2.out⟩
          | true =>
            rw [hx] at hnm
            have ho2 := Lib.hid (show (p.take (k + 1)).all nameR = true by rw [take_snoc ht, List.all_append, ho.out]; simp [hx])
            clear ht hx
            go_wp2_with fail
            refine hnm.mono ?_
            rintro e w2 ⟨rfl, hb2⟩
            have hx2 := Lib.hid (hb.out.trans (hb2.mono hsz))
            clear hnm hb2
            go_wp2_with fail
            go_roundw
            case rel => exact ⟨k + 1, by omega, by go_num, ho2, hx2⟩
            case measure => simp [intOf]; omega
        · have i1 : decide ((k : Int) < (n1 : Int)) = false := by rw [decide_eq_false_iff_not]; omega
          have i2 : decide (k < n1) = false := by rw [decide_eq_false_iff_not]; omega
          have hR2 : Hid (R = q.all (keyB nameR)) := Lib.hid (by
            have := ho.out
            rw [List.take_of_length_le (by have := hl1'.out; omega)] at this
            rw [hR.out, this, Bool.true_and])
          obtain ⟨k0, k1⟩ := (hn0'.out.below (hb.out.mono (by omega))).cells
          clear ho hR hbw i1 hk
          go_wp2_with fail
          go_loopw [42] (fun i wq => ∃ k : Nat, k ≤ n2 ∧ i = .int .i64 k ∧ Hid ((q.take k).all (keyB nameR) = true) ∧ Hid (Below w0.heap.size w0 wq)) (fun i _ => n2 - (intOf i).toNat)
          case atStart => exact ⟨0, by omega, rfl, Lib.hid rfl, hb⟩
          case round =>
            clear hb k0 k1 i2 hlt
            obtain ⟨m, hm, rfl, ho, hb⟩ := hrel
            by_cases hlt : m < n2
            · have i1 : decide ((m : Int) < (n2 : Int)) = true := by rw [decide_eq_true_eq]; omega
              have i2 : decide (m < n2) = true := by rw [decide_eq_true_eq]; omega
              have i3 : (m : Int) < (n2 : Int) := by omega
              obtain ⟨b, off, t, rfl, hbl, ht, hc⟩ := (h2'.out.below hb.out).at_ hlt
              have hnm := key_any (strOf t) (by rw [strOf_size']; have := hS'.out.2.2.2 t (List.mem_of_getElem? ht); omega) wr (hU'.out.below hb.out)
              rw [strOf_data'] at hnm
              have hsz := hb.out.size
              cases hx : keyB nameR t with
              | false =>
                rw [hx] at hnm
                have hf : R = false := by
                  rw [hR2.out]
                  exact List.all_eq_false.2 ⟨t, List.mem_of_getElem? ht, by rw [hx]; decide⟩
                subst hf
                clear ht hx
                go_wp2_with fail
                refine hnm.mono ?_
                rintro e w2 ⟨rfl, hb2⟩
                have hx2 := Lib.hid (hb0'.out.trans ((hb.out.trans (hb2.mono hsz)).mono hb0'.out.size))
                clear hnm hb2
                go_wp2_with fail
                go_ret
                exact ⟨rfl, hx2.out⟩
              | true =>
                rw [hx] at hnm
                have ho2 := Lib.hid (show (q.take (m + 1)).all (keyB nameR) = true by rw [take_snoc ht, List.all_append, ho.out]; simp [hx])
                clear ht hx
                go_wp2_with fail
                refine hnm.mono ?_
                rintro e w2 ⟨rfl, hb2⟩
                have hx2 := Lib.hid (hb.out.trans (hb2.mono hsz))
                clear hnm hb2
                go_wp2_with fail
                go_roundw
                case rel => exact ⟨m + 1, by omega, by go_num, ho2, hx2⟩
                case measure => simp [intOf]; omega
            · have i1 : decide ((m : Int) < (n2 : Int)) = false := by rw [decide_eq_false_iff_not]; omega
              have i2 : decide (m < n2) = false := by rw [decide_eq_false_iff_not]; omega
              have hf : R = true := by
                have := ho.out
                rw [List.take_of_length_le (by have := hl2'.out; omega)] at this
                rw [hR2.out, this]
              subst hf
              have hx2 := Lib.hid (hb0'.out.trans (hb.out.mono hb0'.out.size))
              go_wp2_with fail
              go_ret
              exact ⟨rfl, hx2.out⟩
end Go.Proofs.YtjofkodncplhaaaGreatDoor.Ky
end
