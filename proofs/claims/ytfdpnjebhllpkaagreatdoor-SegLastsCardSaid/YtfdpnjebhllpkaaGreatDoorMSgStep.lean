/- The scripts over segments: their steps in memory; the law's small (printed by wip/gen/sg_step.py). -/
import Derived.Test.YtfdpnjebhllpkaaGreatDoorMSgAwake
import Derived.Test.YtfdpnjebhllpkaaGreatDoorMDkMay
namespace Go.Proofs.YtfdpnjebhllpkaaGreatDoor.Sg
open Go.RowKit Ma Dk

/-- A step, plainly. -/
structure Sx where
  kind : Int
  recs : List (List UInt8)
  tails : List Int
  list : List Tr
def SdEl (w : World) (vs : List Value) (x : Sx) : Prop := ∃ Ar nr cr At nt ct Al nl cl, vs = [.int .i64 x.kind, .slice Ar nr cr, .slice At nt ct, .slice Al nl cl] ∧
  BsL w Ar nr cr x.recs ∧ Rd w At nt ct (x.tails.map (Value.int .i64)) ∧ Sq TrEl 3 w Al nl cl x.list
theorem SdEl.below {w w' : World} (hb : Below w.heap.size w w') : ∀ vs x, SdEl w vs x → SdEl w' vs x := by
  rintro vs x ⟨Ar, nr, cr, At, nt, ct, Al, nl, cl, rfl, h3, h4, h5⟩
  exact ⟨Ar, nr, cr, At, nt, ct, Al, nl, cl, rfl, h3.below hb, h4.below hb, h5.below (fun _ _ h => h) hb⟩
/-- A step that is small enough. -/
structure Sm (x : Sx) : Prop where
  recs : x.recs.length ≤ 50
  bytes : (cat x.recs).length ≤ 2000
  tails : x.tails.length ≤ 100
  list : x.list.length ≤ 100
theorem Sm.puts {x : Sx} (h : Sm x) : (Fr.puts x.recs).length ≤ 2400 := by
  have h1 := Fr.puts_le x.recs
  have h2 := h.recs
  have h3 : x.recs.flatten.length ≤ 2000 := h.bytes
  omega

def SmP (l : List Sx) (w : World) (e : Ending) (w' : World) : Prop := ∃ b, e = .returned (.bool b) ∧ (b = true → ∀ (i : Nat) x, l[i]? = some x → i < 30 → Sm x) ∧ w = w'

set_option maxHeartbeats 1000000 in
set_option maxRecDepth 100000 in
theorem small_any (A : Option Addr) (n c : Nat) (l : List Sx) (w : World) (h : Sq SdEl 4 w A n c l) (hz : ∀ x ∈ l, ∀ r ∈ x.recs, r.length ≤ 140737488351232) :
    Calls Tryz.prog 23 #[.slice A n c] w (SmP l w) := by
  have hl := Lib.hid h.len
  have hle := h.le
  have hmx := h.max
  have h' := Lib.hid h
  have hz' := Lib.hid hz
  clear h hz
  go_enter Tryz.func23, Tryz.ntmps23
  go_wp2_with fail
  go_loop [3] (fun i => ∃ (k : Nat), k ≤ n ∧ k ≤ 30 ∧ i = .int .i64 k ∧ Hid (∀ (i : Nat) x, l[i]? = some x → i < k → Sm x)) (fun i => n - (intOf i).toNat)
  case atStart => exact ⟨0, by omega, by omega, rfl, Lib.hid fun i x _ h => absurd h (by omega)⟩
  case round =>
    obtain ⟨k, hk, hk60, rfl, hrel⟩ := hrel
    by_cases hlt : k < n
    · by_cases h60 : k < 30
      · have d0 : decide ((k : Int) < (30 : Int)) = true := by rw [decide_eq_true_eq]; omega
        have d1 : decide (k < 30) = true := by rw [decide_eq_true_eq]; omega
        obtain ⟨b, off, x, vs, rfl, hb, hf, hvs, hel, hcs⟩ := h'.out.at_ hlt
        obtain ⟨Ar, nr, cr, At, nt, ct, Al, nl, cl, rfl, hbs, hrd, hsq⟩ := hel
        have k1 : w.cell? ⟨b, off + k * 4 + 1, none⟩ = some (.slice Ar nr cr) := hcs 1 _ rfl
        have k2 : w.cell? ⟨b, off + k * 4 + 2, none⟩ = some (.slice At nt ct) := hcs 2 _ rfl
        have k3 : w.cell? ⟨b, off + k * 4 + 3, none⟩ = some (.slice Al nl cl) := hcs 3 _ rfl
        have l1 : Hid (x.recs.length = nr) := Lib.hid hbs.len
        have l2 : Hid (x.tails.length = nt) := Lib.hid (by have := Rd.len hrd; simpa using this)
        have l3 : Hid (x.list.length = nl) := Lib.hid hsq.len
        have hf' := Lib.hid hf
        have hTot : Hid (nr ≤ 50 → Calls Tryz.prog 68 #[.slice Ar nr cr] w fun e w' => e = .returned (.int .i64 ((cat x.recs).length : Nat)) ∧ w = w') := Lib.hid fun h9 =>
          FrW.total_any Ar nr cr x.recs w hbs (cat_small (hz'.out x (List.mem_of_getElem? hf)) (by rw [l1.out]; omega))
        clear hcs hvs hbs hrd hsq hf
        obtain ⟨tt, htt⟩ : ∃ tt, (cat x.recs).length = tt := ⟨_, rfl⟩
        rw [htt] at hTot
        have htt' := Lib.hid htt
        clear htt
        by_cases t0 : 50 < nr
        · have p0 : decide ((50 : Int) < (nr : Int)) = true := by rw [decide_eq_true_eq]; omega
          have r0 : decide (50 < nr) = true := by rw [decide_eq_true_eq]; omega
          go_wp2_with fail
          go_ret
          exact ⟨false, rfl, fun h => (by cases h), rfl⟩
        have p0 : decide ((50 : Int) < (nr : Int)) = false := by rw [decide_eq_false_iff_not]; omega
        have r0 : decide (50 < nr) = false := by rw [decide_eq_false_iff_not]; omega
        have h50 : nr ≤ 50 := by omega
        by_cases t1 : 2000 < tt
        · have p1 : decide ((2000 : Int) < (tt : Int)) = true := by rw [decide_eq_true_eq]; omega
          have r1 : decide (2000 < tt) = true := by rw [decide_eq_true_eq]; omega
          go_wp2_with fail
          refine (hTot.out h50).mono ?_
          rintro e w' ⟨rfl, rfl⟩
          go_wp2_with fail
          go_ret
          exact ⟨false, rfl, fun h => (by cases h), rfl⟩
        have p1 : decide ((2000 : Int) < (tt : Int)) = false := by rw [decide_eq_false_iff_not]; omega
        have r1 : decide (2000 < tt) = false := by rw [decide_eq_false_iff_not]; omega
        by_cases t2 : 100 < nt
        · have p2 : decide ((100 : Int) < (nt : Int)) = true := by rw [decide_eq_true_eq]; omega
          have r2 : decide (100 < nt) = true := by rw [decide_eq_true_eq]; omega
          go_wp2_with fail
          refine (hTot.out h50).mono ?_
          rintro e w' ⟨rfl, rfl⟩
          go_wp2_with fail
          go_ret
          exact ⟨false, rfl, fun h => (by cases h), rfl⟩
        have p2 : decide ((100 : Int) < (nt : Int)) = false := by rw [decide_eq_false_iff_not]; omega
        have r2 : decide (100 < nt) = false := by rw [decide_eq_false_iff_not]; omega
        by_cases t3 : 100 < nl
        · have p3 : decide ((100 : Int) < (nl : Int)) = true := by rw [decide_eq_true_eq]; omega
          have r3 : decide (100 < nl) = true := by rw [decide_eq_true_eq]; omega
          go_wp2_with fail
          refine (hTot.out h50).mono ?_
          rintro e w' ⟨rfl, rfl⟩
          go_wp2_with fail
          go_ret
          exact ⟨false, rfl, fun h => (by cases h), rfl⟩
        have p3 : decide ((100 : Int) < (nl : Int)) = false := by rw [decide_eq_false_iff_not]; omega
        have r3 : decide (100 < nl) = false := by rw [decide_eq_false_iff_not]; omega
        go_wp2_with fail
        refine (hTot.out h50).mono ?_
        rintro e w' ⟨rfl, rfl⟩
        go_wp2_with fail
        go_round
        case rel =>
          refine ⟨k + 1, by omega, by omega, by go_num, Lib.hid fun i y hi hik => ?_⟩
          by_cases e : i = k
          · subst e
            rw [hf'.out] at hi
            injection hi with hi
            subst hi
            exact ⟨by rw [l1.out]; omega, by rw [htt'.out]; omega, by rw [l2.out]; omega, by rw [l3.out]; omega⟩
          · exact hrel.out i y hi (by omega)
        case measure => simp [intOf]; omega
      · have d0 : decide ((k : Int) < (30 : Int)) = false := by rw [decide_eq_false_iff_not]; omega
        have d1 : decide (k < 30) = false := by rw [decide_eq_false_iff_not]; omega
        go_wp2_with fail
        go_ret
        exact ⟨true, rfl, fun _ i x hi h => hrel.out i x hi (by omega), rfl⟩
    · go_wp2_with fail
      go_ret
      exact ⟨true, rfl, fun _ i x hi h => hrel.out i x hi (by have := (List.getElem?_eq_some_iff.1 hi).1; have := hl.out; omega), rfl⟩

theorem Sick_any (w : World) (a sb : Nat) (n : Int) (s : S) (h : w.heap[sb]? = some (SegB a n s)) :
    Calls Tryz.prog 27 #[.pointer (some ⟨sb, 0, none⟩)] w fun e w' => e = .returned (.bool s.sick) ∧ w = w' := by
  have k : w.cell? ⟨sb, 3, none⟩ = some (.bool s.sick) := cell_blk h rfl
  clear h
  go_enter Tryz.func27, Tryz.ntmps27
  go_wp2_with fail
  go_ret
  exact ⟨rfl, rfl⟩

/-- A record among the arguments: its bytes lie below block T. -/
def KeEl (T : Nat) (w : World) (vs : List Value) (r : List UInt8) : Prop := ∃ A n c, vs = [.slice A n c] ∧ Bs w A n c r ∧ ∀ b, A = some b → 0 < n → b.block < T
theorem KeEl.one {T : Nat} (w : World) : ∀ (vs : List Value) (t : List UInt8), KeEl T w vs t → ∀ u ∈ vs, u.oneCell' = true := by
  rintro vs t ⟨A, n, c, rfl, _⟩ u hu
  rw [List.mem_singleton.1 hu]
  rfl
theorem KeEl.below {T : Nat} {w w' : World} (hb : Below T w w') (hT : T ≤ w.heap.size) : ∀ vs x, KeEl T w vs x → KeEl T w' vs x := by
  rintro vs x ⟨A, n, c, rfl, h, hlt⟩
  refine ⟨A, n, c, rfl, ⟨Rd.len h, Rd.le h, Rd.max h, Rd.nil h, fun hn => ?_⟩, hlt⟩
  obtain ⟨b, off, e, hlt2, hc⟩ := Rd.cell h hn
  have hbT := hlt _ e hn
  exact ⟨b, off, e, Nat.lt_of_lt_of_le hlt2 hb.size, fun j u hu => (hb.cell (p := ⟨b, off + j, none⟩) hbT).trans (hc j u hu)⟩
theorem BsL.ke {w : World} {A : Option Addr} {n c : Nat} {ls : List (List UInt8)} (h : BsL w A n c ls) : Sq (KeEl w.heap.size) 1 w A n c ls := by
  obtain ⟨xs, h1, h2, h3⟩ := h
  refine ⟨h2, h1.le, h1.max, h1.nil, fun hn => ?_⟩
  obtain ⟨b, off, e, hb, hc⟩ := h1.cell hn
  refine ⟨b, off, e, hb, fun i x hx => ?_⟩
  have hi : i < xs.length := by have := (List.getElem?_eq_some_iff.1 hx).1; have := h1.len; omega
  obtain ⟨r, hr, A1, n1, c1, hu, hbs, _⟩ := h3 i xs[i] (List.getElem?_eq_getElem hi)
  rw [hx] at hr
  injection hr with hr
  subst hr
  refine ⟨[xs[i]], rfl, ⟨A1, n1, c1, by rw [hu], hbs, fun b1 e1 hn1 => ?_⟩, fun j v hj => ?_⟩
  · obtain ⟨b2, off2, e2, hb2, _⟩ := Rd.cell hbs hn1
    rw [e1] at e2
    injection e2 with e2
    rw [e2]
    exact hb2
  · cases j with
    | succ j => simp at hj
    | zero =>
      simp at hj
      subst hj
      rw [Nat.mul_one, Nat.add_zero]
      exact hc i _ (List.getElem?_eq_getElem hi)
theorem Sq.bsl {T : Nat} {w : World} {A : Option Addr} {n c : Nat} {ls : List (List UInt8)} (h : Sq (KeEl T) 1 w A n c ls) : BsL w A n c ls := by
  obtain ⟨xs, hr, hc⟩ := h.cells
  have hl := hr.len
  refine ⟨xs, ⟨by rw [hl, h.len, Nat.mul_one], h.le, h.max, h.nil, fun hn => ?_⟩, h.len, fun j u hu => ?_⟩
  · obtain ⟨b, off, e, hb, hc⟩ := hc hn
    exact ⟨b, off, e, hb, hc (by decide)⟩
  · have hj : j < ls.length := by have := (List.getElem?_eq_some_iff.1 hu).1; omega
    obtain ⟨vs, hk, ⟨A1, n1, c1, rfl, hbs, _⟩, hc1⟩ := hr.at_ (List.getElem?_eq_getElem hj)
    have h0 := hc1 0 _ rfl
    rw [Nat.mul_one, Nat.add_zero, hu] at h0
    injection h0 with h0
    subst h0
    exact ⟨_, List.getElem?_eq_getElem hj, El.of_bs hbs⟩
theorem BsL.cut {w : World} {A : Option Addr} {n c : Nat} {ls : List (List UInt8)} (h : BsL w A n c ls) (lo hi : Nat) (h1 : lo ≤ hi) (h2 : hi ≤ n) (A' : Option Addr)
    (hA : ∀ b off, A = some ⟨b, off, none⟩ → lo < c → A' = some ⟨b, off + lo, none⟩) (hA0 : A = none → A' = none) (hA1 : A ≠ none → A' ≠ none) : BsL w A' (hi - lo) (c - lo) ((ls.drop lo).take (hi - lo)) := by
  obtain ⟨xs, k1, k2, k3⟩ := h
  have hl := k1.len
  refine ⟨_, k1.cut lo hi h1 h2 A' hA hA0 hA1, by rw [List.length_take, List.length_drop]; omega, fun j u hu => ?_⟩
  have hj : j < hi - lo := by have := (List.getElem?_eq_some_iff.1 hu).1; rw [List.length_take] at this; omega
  rw [List.getElem?_take_of_lt hj, List.getElem?_drop] at hu ⊢
  exact k3 _ u hu
theorem BsL.to {w : World} {A : Option Addr} {n c q : Nat} {ls : List (List UInt8)} (h : BsL w A n c ls) (hq : q ≤ n) : BsL w A q c (ls.take q) := by
  have := BsL.cut h 0 q (by omega) hq A (by intro b off e _; rw [e]; rfl) (fun e => e) (fun e => e)
  rw [Nat.sub_zero, Nat.sub_zero, List.drop_zero] at this
  exact this
theorem BsL.from_ {w : World} {A : Option Addr} {n c g : Nat} {ls : List (List UInt8)} (h : BsL w A n c ls) (hg : g ≤ n) :
    (c = g → BsL w A (n - g) 0 (ls.drop g)) ∧ (¬ c = g → BsL w (A.map fun x => x.add g) (n - g) (c - g) (ls.drop g)) := by
  have hl := h.len
  have hcut : ∀ A1, (∀ b off, A = some ⟨b, off, none⟩ → g < c → A1 = some ⟨b, off + g, none⟩) → (A = none → A1 = none) → (A ≠ none → A1 ≠ none) → BsL w A1 (n - g) (c - g) (ls.drop g) := fun A1 h1 h2 h3 => by
    have h := BsL.cut h g n hg (Nat.le_refl _) A1 h1 h2 h3
    rw [List.take_of_length_le (by rw [List.length_drop]; omega)] at h
    exact h
  refine ⟨fun hcg => ?_, fun hcg => ?_⟩
  · have h := hcut A (fun b off _ hlt => by omega) (fun h => h) (fun h => h)
    rw [show c - g = 0 from by omega] at h
    exact h
  · exact hcut _ (fun b off hA _ => by subst hA; simp only [Option.map_some, Addr.add]; split <;> simp_all) (fun h => by subst h; rfl) (fun h1 h2 => h1 (by simpa using h2))
end Go.Proofs.YtfdpnjebhllpkaaGreatDoor.Sg
