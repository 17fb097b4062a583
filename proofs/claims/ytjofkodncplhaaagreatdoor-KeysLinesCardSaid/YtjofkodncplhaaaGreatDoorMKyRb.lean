/- The document's functions on rows of texts: Texts, Find, Frontier, Rules. -/
import Derived.Test.YtjofkodncplhaaaGreatDoorMKyRmath
import Derived.Test.YtjofkodncplhaaaGreatDoorMKyRow
import Derived.Test.YtjofkodncplhaaaGreatDoorMKyFront
import Derived.Deep.QuietTactic
import Derived.BigQuiet
namespace Go.Proofs.YtjofkodncplhaaaGreatDoor.Ky
open Go.RowKit Go.Shelf UtfW

theorem str_eq (a b : Tx) : ((strOf a).toList == (strOf b).toList) = decide (a = b) := by
  rw [Lib.toList_data, Lib.toList_data, strOf_data', strOf_data', Bool.eq_iff_iff, beq_iff_eq, decide_eq_true_eq]

set_option maxHeartbeats 1000000 in
set_option maxRecDepth 100000 in
/-- The document's Texts. -/
theorem refTexts_any (A : Option Addr) (n c : Nat) (xs : List Tx) (A2 : Option Addr) (n2 c2 : Nat) (ys : List Tx) (w : World) (h : Ts w A n c xs) (h2 : Ts w A2 n2 c2 ys) :
    Calls Tryz.prog 11 #[.slice A n c, .slice A2 n2 c2] w fun e w' => e = .returned (.bool (decide (xs = ys))) ∧ ∃ q, w' = w.drewN q := by
  have hl := h.len
  have hl2 := h2.len
  have hm := Rd.max h
  have hm2 := Rd.max h2
  have hle := Rd.le h
  have hle2 := Rd.le h2
  by_cases hn : n = n2
  · subst hn
    obtain ⟨R, hR⟩ : ∃ R, decide (xs = ys) = R := ⟨_, rfl⟩
    rw [hR]
    have hR' := Lib.hid hR
    have h' := Lib.hid h
    have h2' := Lib.hid h2
    have hl' := Lib.hid hl
    have hl2' := Lib.hid hl2
    clear hR h h2 hl hl2
    go_enter Tryz.func11, Tryz.ntmps11
    go_wp2_with fail
    go_loopw [5] (fun i wr => ∃ (k q : Nat), k ≤ n ∧ i = .int .i64 k ∧ Hid (xs.take k = ys.take k) ∧ wr = w.drewN q) (fun i _ => n - (intOf i).toNat)
    case atStart => exact ⟨0, 0, by omega, rfl, Lib.hid rfl, rfl⟩
    case round =>
      obtain ⟨k, q, hk, rfl, heq, hq⟩ := hrel
      have hb := Joins.below_draws w.heap.size w q
      rw [← hq] at hb
      have hq' := Lib.hid hq
      clear hq
      by_cases hlt : k < n
      · have i1 : decide ((k : Int) < (n : Int)) = true := by rw [decide_eq_true_eq]; omega
        have i2 : decide (k < n) = true := by rw [decide_eq_true_eq]; omega
        have i3 : (k : Int) < (n : Int) := by omega
        obtain ⟨b, off, t, rfl, hbl, ht, k0⟩ := (h'.out.below hb).at_ hlt
        obtain ⟨b2, off2, t2, rfl, hbl2, ht2, k1⟩ := (h2'.out.below hb).at_ hlt
        have hse := str_eq t t2
        have ht' := Lib.hid ht
        have ht2' := Lib.hid ht2
        clear ht ht2
        cases hd : decide (t = t2) with
        | true =>
          rw [hd] at hse
          have hn2 := Lib.hid ((eq_take ht'.out ht2'.out heq.out).2 (of_decide_eq_true hd))
          clear hd
          obtain ⟨S, hS⟩ : ∃ S, strOf t = S := ⟨_, rfl⟩
          obtain ⟨S2, hS2⟩ : ∃ S2, strOf t2 = S2 := ⟨_, rfl⟩
          rw [hS, hS2] at hse
          simp only [tv, hS, hS2] at k0 k1
          clear hS hS2
          go_wp2_with fail
          go_big_quiet (fail)
          go_wp2_with fail
          go_roundw
          case rel => exact ⟨k + 1, q + nq, by omega, by go_num, hn2, by rw [hq'.out]; exact World.drewN_drewN _ _ _⟩
          case measure => simp [intOf]; omega
        | false =>
          rw [hd] at hse
          have hf : Hid (R = false) := Lib.hid (by
            rw [← hR'.out, decide_eq_false_iff_not]
            exact ne_of_at ht'.out ht2'.out (of_decide_eq_false hd))
          clear hd
          obtain ⟨S, hS⟩ : ∃ S, strOf t = S := ⟨_, rfl⟩
          obtain ⟨S2, hS2⟩ : ∃ S2, strOf t2 = S2 := ⟨_, rfl⟩
          rw [hS, hS2] at hse
          simp only [tv, hS, hS2] at k0 k1
          clear hS hS2
          go_wp2_with fail
          go_big_quiet (fail)
          go_wp2_with fail
          go_ret
          exact ⟨by rw [hf.out]; rfl, q + nq, by rw [hq'.out]; exact World.drewN_drewN _ _ _⟩
      · have i1 : decide ((k : Int) < (n : Int)) = false := by rw [decide_eq_false_iff_not]; omega
        have i2 : decide (k < n) = false := by rw [decide_eq_false_iff_not]; omega
        have hf : Hid (R = true) := Lib.hid (by
          rw [← hR'.out, decide_eq_true_eq]
          have := heq.out
          rw [List.take_of_length_le (by have := hl'.out; omega), List.take_of_length_le (by have := hl2'.out; omega)] at this
          exact this)
        go_wp2_with fail
        go_ret
        exact ⟨by rw [hf.out]; rfl, q, hq'.out⟩
  · have hne : decide (xs = ys) = false := by
      rw [decide_eq_false_iff_not]
      rintro rfl
      omega
    rw [hne]
    have i1 : ((n : Int) == (n2 : Int)) = false := by rw [beq_eq_false_iff_ne]; omega
    clear hl hl2 hne
    go_enter Tryz.func11, Tryz.ntmps11
    go_wp2_with fail
    go_ret
    exact ⟨rfl, 0, rfl⟩

theorem rs_len {w : World} {A : Option Addr} {n c : Nat} {l : List Rl} (h : Rs w A n c l) : l.length = n := h.len

set_option maxHeartbeats 1000000 in
set_option maxRecDepth 100000 in
/-- The document's Find. -/
theorem refFind_any (A : Option Addr) (n c : Nat) (l : List Rl) (Ap : Option Addr) (np cp : Nat) (path : List Tx) (w : World) (h : Rs w A n c l) (hp : Ts w Ap np cp path) :
    Calls Tryz.prog 13 #[.slice A n c, .slice Ap np cp] w fun e w' => e = .returned (.int .i64 (idxR l path)) ∧ ∃ q, w' = w.drewN q := by
  have hl' := Lib.hid h.len
  have hm := h.max
  have hle := h.le
  obtain ⟨R, hR⟩ : ∃ R, idxR l path = R := ⟨_, rfl⟩
  rw [hR]
  have hR' := Lib.hid hR
  have h' := Lib.hid h
  have hp' := Lib.hid hp
  clear hR h hp
  go_enter Tryz.func13, Tryz.ntmps13
  go_wp2_with fail
  go_loopw [5] (fun i wr => ∃ (k q : Nat), k ≤ n ∧ i = .int .i64 k ∧ Hid (hasB (l.take k) path = false) ∧ wr = w.drewN q) (fun i _ => n - (intOf i).toNat)
  case atStart => exact ⟨0, 0, by omega, rfl, Lib.hid rfl, rfl⟩
  case round =>
    obtain ⟨k, q, hk, rfl, hno, hq⟩ := hrel
    have hb := Joins.below_draws w.heap.size w q
    rw [← hq] at hb
    have hq' := Lib.hid hq
    clear hq
    by_cases hlt : k < n
    · have i1 : decide ((k : Int) < (n : Int)) = true := by rw [decide_eq_true_eq]; omega
      have i2 : decide (k < n) = true := by rw [decide_eq_true_eq]; omega
      have i3 : (k : Int) < (n : Int) := by omega
      obtain ⟨b, off, r, A1, n1, c1, A2, n2, c2, rfl, hbl, hr, t1, t2, k0, k1⟩ := Rs.at_ (h'.out.below hb) hlt
      have heq := refTexts_any A1 n1 c1 r.1 Ap np cp path wr t1 (hp'.out.below hb)
      have hr' := Lib.hid hr
      clear hr t1 t2
      cases hd : decide (r.1 = path) with
      | true =>
        rw [hd] at heq
        have hf : Hid (R = (k : Nat)) := Lib.hid (by rw [← hR'.out]; exact idx_here hr'.out (of_decide_eq_true hd) hno.out)
        clear hd
        go_wp2_with fail
        refine heq.mono ?_
        rintro e w1 ⟨rfl, q1, rfl⟩
        go_wp2_with fail
        go_ret
        exact ⟨by rw [hf.out]; rfl, q + q1, by rw [hq'.out]; exact World.drewN_drewN _ _ _⟩
      | false =>
        rw [hd] at heq
        have hno2 : Hid (hasB (l.take (k + 1)) path = false) := Lib.hid (by rw [take_one hr'.out, has_snoc, hno.out, hd]; rfl)
        clear hd
        go_wp2_with fail
        refine heq.mono ?_
        rintro e w1 ⟨rfl, q1, rfl⟩
        go_wp2_with fail
        go_roundw
        case rel => exact ⟨k + 1, q + q1, by omega, by go_num, hno2, by rw [hq'.out]; exact World.drewN_drewN _ _ _⟩
        case measure => simp [intOf]; omega
    · have i1 : decide ((k : Int) < (n : Int)) = false := by rw [decide_eq_false_iff_not]; omega
      have i2 : decide (k < n) = false := by rw [decide_eq_false_iff_not]; omega
      have hf : Hid (R = -1) := Lib.hid (by
        rw [← hR'.out]
        refine idx_none' ?_
        rw [← hno.out, List.take_of_length_le (by have := hl'.out; omega)])
      go_wp2_with fail
      go_ret
      exact ⟨by rw [hf.out]; rfl, q, hq'.out⟩

set_option maxHeartbeats 1000000 in
set_option maxRecDepth 100000 in
/-- The document's Frontier. -/
theorem refFront_any (A : Option Addr) (n c : Nat) (l : List Rl) (Ap : Option Addr) (np cp : Nat) (path : List Tx) (w : World) (h : Rs w A n c l) (hp : Ts w Ap np cp path) :
    Calls Tryz.prog 23 #[.slice A n c, .slice Ap np cp] w fun e w' => e = .returned (.bool (frontB l path)) ∧ ∃ q, w' = w.drewN q := by
  have hl' := Lib.hid h.len
  have hlp := Lib.hid hp.len
  have hm := h.max
  have hle := h.le
  have hmp := Rd.max hp
  have hlep := Rd.le hp
  obtain ⟨R, hR⟩ : ∃ R, frontB l path = R := ⟨_, rfl⟩
  rw [hR]
  have hR' := Lib.hid hR
  have h' := Lib.hid h
  have hp' := Lib.hid hp
  clear hR h hp
  go_enter Tryz.func23, Tryz.ntmps23
  go_wp2_with fail
  go_loopw [5] (fun i wr => ∃ (k q : Nat), k ≤ n ∧ i = .int .i64 k ∧ Hid (overB (l.take k) path = false) ∧ wr = w.drewN q) (fun i _ => n - (intOf i).toNat)
  case atStart => exact ⟨0, 0, by omega, rfl, Lib.hid rfl, rfl⟩
  case round =>
    obtain ⟨k, q, hk, rfl, hno, hq⟩ := hrel
    have hb := Joins.below_draws w.heap.size w q
    rw [← hq] at hb
    have hq' := Lib.hid hq
    clear hq
    by_cases hlt : k < n
    · have i1 : decide ((k : Int) < (n : Int)) = true := by rw [decide_eq_true_eq]; omega
      have i2 : decide (k < n) = true := by rw [decide_eq_true_eq]; omega
      have i3 : (k : Int) < (n : Int) := by omega
      obtain ⟨b, off, r, A1, n1, c1, A2, n2, c2, rfl, hbl, hr, t1, t2, k0, k1⟩ := Rs.at_ (h'.out.below hb) hlt
      have hl1 := Lib.hid t1.len
      have hle1 := Rd.le t1
      have hr' := Lib.hid hr
      clear hr t2
      have hno2 : Hid (∀ V, decide (path.length < r.1.length ∧ r.1.take path.length = path) = V → overB (l.take (k + 1)) path = V) := Lib.hid fun V hV => by rw [take_one hr'.out, over_snoc, hno.out, hV]; rfl
      by_cases hlt2 : np < n1
      · have j1 : decide ((n1 : Int) > (np : Int)) = true := by rw [decide_eq_true_eq]; omega
        have j2 : decide (np < n1) = true := by rw [decide_eq_true_eq]; omega
        have hcut : Ts wr A1 np c1 (r.1.take np) := by
          have := t1.cut 0 np (by omega) (by omega) A1 (fun b' o' e _ => e) (fun h => h) (fun h => h)
          rw [Nat.sub_zero, Nat.sub_zero, List.drop_zero] at this
          exact this
        have heq := refTexts_any A1 np c1 (r.1.take np) Ap np cp path wr hcut (hp'.out.below hb)
        have hmc : np ≤ c1 := by omega
        clear hcut t1
        cases hd : decide (r.1.take np = path) with
        | true =>
          rw [hd] at heq
          have hf : Hid (R = false) := Lib.hid (by
            have h1 := hno2.out true (by
              rw [decide_eq_true_eq, hlp.out]
              exact ⟨by have := hl1.out; omega, of_decide_eq_true hd⟩)
            rw [← hR'.out, front_over]
            have : overB l path = true := by
              unfold overB at h1 ⊢
              rw [List.any_eq_true] at h1 ⊢
              obtain ⟨x, hx, hp⟩ := h1
              exact ⟨x, List.mem_of_mem_take hx, hp⟩
            rw [this]
            simp)
          clear hd
          go_wp2_with fail
          refine heq.mono ?_
          rintro e w1 ⟨rfl, q1, rfl⟩
          go_wp2_with fail
          go_ret
          exact ⟨by rw [hf.out]; rfl, q + q1, by rw [hq'.out]; exact World.drewN_drewN _ _ _⟩
        | false =>
          rw [hd] at heq
          have hno3 := Lib.hid (hno2.out false (by
            rw [decide_eq_false_iff_not, hlp.out]
            exact fun h => of_decide_eq_false hd h.2))
          clear hd
          go_wp2_with fail
          refine heq.mono ?_
          rintro e w1 ⟨rfl, q1, rfl⟩
          go_wp2_with fail
          go_roundw
          case rel => exact ⟨k + 1, q + q1, by omega, by go_num, hno3, by rw [hq'.out]; exact World.drewN_drewN _ _ _⟩
          case measure => simp [intOf]; omega
      · have j1 : decide ((n1 : Int) > (np : Int)) = false := by rw [decide_eq_false_iff_not]; omega
        have j2 : decide (np < n1) = false := by rw [decide_eq_false_iff_not]; omega
        have hno3 := Lib.hid (hno2.out false (by
          rw [decide_eq_false_iff_not, hlp.out]
          exact fun h => by have := hl1.out; omega))
        clear t1
        go_wp2_with fail
        go_roundw
        case rel => exact ⟨k + 1, q, by omega, by go_num, hno3, hq'.out⟩
        case measure => simp [intOf]; omega
    · have i1 : decide ((k : Int) < (n : Int)) = false := by rw [decide_eq_false_iff_not]; omega
      have i2 : decide (k < n) = false := by rw [decide_eq_false_iff_not]; omega
      have hfi := refFind_any A n c l Ap np cp path wr (h'.out.below hb) (hp'.out.below hb)
      have hge := idx_ge (l := l) (p := path)
      obtain ⟨z, hz⟩ : ∃ z, idxR l path = z := ⟨_, rfl⟩
      have hf : Hid (R = hasB l path) := Lib.hid (by
        rw [← hR'.out, front_over]
        have := hno.out
        rw [List.take_of_length_le (by have := hl'.out; omega)] at this
        rw [this]
        simp)
      rw [hz] at hfi hge
      clear hz
      obtain ⟨hv, hhv⟩ : ∃ hv, hasB l path = hv := ⟨_, rfl⟩
      rw [hhv] at hge hf
      clear hhv
      obtain rfl := hf.out
      go_wp2_with fail
      refine hfi.mono ?_
      rintro e w1 ⟨rfl, q1, rfl⟩
      go_wp2_with fail
      go_ret
      exact ⟨by first | rfl | (rw [← hge]), q + q1, by rw [hq'.out]; exact World.drewN_drewN _ _ _⟩
end Go.Proofs.YtjofkodncplhaaaGreatDoor.Ky
