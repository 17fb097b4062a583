/- keys.Frontier. -/
import Derived.Test.YtjofkodncplhaaaGreatDoorMKyLine
namespace Go.Proofs.YtjofkodncplhaaaGreatDoor.Ky
open Go.RowKit Go.Shelf UtfW

/-- What makes a path no frontier. -/
def over (path : List Tx) (r : Rl) : Bool := decide (path.length < r.1.length ∧ r.1.take path.length = path)
theorem front_eq (l : List Rl) (path : List Tx) : frontB l path = (hasB l path && !(l.any (over path))) := rfl
theorem has_snoc (l : List Rl) (r : Rl) (path : List Tx) : hasB (l ++ [r]) path = (hasB l path || decide (r.1 = path)) := by
  unfold hasB
  rw [List.any_append]
  simp
theorem over_no {l : List Rl} {path : List Tx} {r : Rl} (h : r ∈ l) (ho : over path r = true) : frontB l path = false := by
  rw [front_eq, List.any_eq_true.2 ⟨r, h, ho⟩]
  simp

set_option maxHeartbeats 1000000 in
set_option maxRecDepth 100000 in
/-- keys.Frontier. -/
theorem Front_any (A : Option Addr) (n c : Nat) (l : List Rl) (Ap : Option Addr) (np cp : Nat) (path : List Tx) (w : World) (h : Rs w A n c l) (hp : Ts w Ap np cp path) :
    Calls Tryz.prog 12 #[.slice A n c, .slice Ap np cp] w fun e w' => e = .returned (.bool (frontB l path)) ∧ Below w.heap.size w w' := by
  have hl' := Lib.hid h.len
  have hlp := Lib.hid hp.len
  have hm := h.max
  have hle := h.le
  have hmp := Rd.max hp
  have hlep := Rd.le hp
  obtain ⟨R, hR⟩ : ∃ R, frontB l path = R := ⟨_, rfl⟩
  rw [hR]
  have hR' := Lib.hid hR
  have h' := Lib.hid h
  have hp' := Lib.hid hp
  clear hR h hp
  go_enter Tryz.func12, Tryz.ntmps12
  go_wp2_with fail
  go_loopw [5, 11] (fun o i wr => ∃ (k : Nat) (ok : Bool), k ≤ n ∧ i = .int .i64 k ∧ o = .bool ok ∧ Hid (ok = hasB (l.take k) path) ∧ Hid ((l.take k).any (over path) = false) ∧ Hid (Below w.heap.size w wr)) (fun _ i _ => n - (intOf i).toNat)
  case atStart => exact ⟨0, false, by omega, rfl, rfl, Lib.hid rfl, Lib.hid rfl, Lib.hid (Below.refl _ _)⟩
  case round =>
    obtain ⟨k, ok, hk, rfl, rfl, hok, hno, hb⟩ := hrel
    by_cases hlt : k < n
    · have i1 : decide ((k : Int) < (n : Int)) = true := by rw [decide_eq_true_eq]; omega
      have i2 : decide (k < n) = true := by rw [decide_eq_true_eq]; omega
      have i3 : (k : Int) < (n : Int) := by omega
      obtain ⟨b, off, r, A1, n1, c1, A2, n2, c2, rfl, hbl, hr, t1, t2, k0, k1⟩ := Rs.at_ (h'.out.below hb.out) hlt
      have hn7 := kb_new wr A1 n1 c1 A2 n2 c2
      have hb7 := below_alloc wr (.cells #[.slice A1 n1 c1, .slice A2 n2 c2] 27)
      obtain ⟨p7, hp7⟩ : ∃ p7, wr.heap.size = p7 := ⟨_, rfl⟩
      obtain ⟨w7, hw7⟩ : ∃ w7, wr.alloc (.cells #[.slice A1 n1 c1, .slice A2 n2 c2] 27) = w7 := ⟨_, rfl⟩
      rw [hw7] at hn7 hb7
      rw [hp7] at hn7
      have hb7' := Lib.hid (hb.out.trans (hb7.mono hb.out.size))
      have hl1 := t1.len
      have hm1 := Rd.max t1
      have hle1 := Rd.le t1
      have t1' := t1.below hb7
      obtain ⟨k7, k8⟩ := hn7.cells
      have hoR : Hid (over path r = true → R = false) := Lib.hid fun g => by rw [← hR'.out]; exact over_no (List.mem_of_getElem? hr) g
      have hok2 : Hid (hasB (l.take (k + 1)) path = (ok || decide (r.1 = path))) := Lib.hid (by rw [take_snoc hr, has_snoc, hok.out])
      have hno2 : Hid (over path r = false → (l.take (k + 1)).any (over path) = false) := Lib.hid fun g => by
        rw [take_snoc hr, List.any_append, hno.out]
        simp [g]
      obtain ⟨m, hm9⟩ : ∃ m, min n1 np = m := ⟨_, rfl⟩
      have hcut : Ts w7 A1 m c1 (r.1.take m) := by
        have := t1'.cut 0 m (by omega) (by omega) A1 (fun b' o' e _ => e) (fun h => h) (fun h => h)
        rw [Nat.sub_zero, Nat.sub_zero, List.drop_zero] at this
        exact this
      have heq := equal_any A1 m c1 (r.1.take m) Ap np cp path w7 hcut (hp'.out.below hb7'.out)
      have hmc : m ≤ c1 := by omega
      have hmin : min (n1 : Int) (np : Int) = (m : Int) := by omega
      have hr' := Lib.hid hr
      have hl1' := Lib.hid hl1
      clear hn7 hb7 t1 t2 t1' hcut hr hl1
      have hlp2 := hlp.out
      have htl : (r.1.take m).length = m := by rw [List.length_take]; have := hl1'.out; omega
      cases hd : decide (r.1.take m = path) with
      | false =>
        rw [hd] at heq
        have hd1 := of_decide_eq_false hd
        have g1 : decide (r.1 = path) = false := by
          rw [decide_eq_false_iff_not]
          intro e
          refine hd1 ?_
          have h10 : r.1.length = path.length := by rw [e]
          rw [List.take_of_length_le (by have := hl1'.out; omega), e]
        have g2 : over path r = false := by
          unfold over
          rw [decide_eq_false_iff_not]
          rintro ⟨e1, e2⟩
          refine hd1 ?_
          have : m = path.length := by have := hl1'.out; omega
          rw [this, e2]
        have ho2 := Lib.hid (hno2.out g2)
        have hk2 := Lib.hid (show ok = hasB (l.take (k + 1)) path by rw [hok2.out, g1, Bool.or_false])
        clear hd hd1 g1 g2 hno2 hok2 htl hlp2
        go_wp2_with fail
        refine heq.mono ?_
        rintro e w8 ⟨rfl, q, rfl⟩
        have hb8 := Lib.hid (hb7'.out.trans (Joins.below_draws _ w7 q))
        clear heq
        go_wp2_with fail
        go_roundw
        case rel => exact ⟨k + 1, ok, by omega, by go_num, rfl, hk2, ho2, hb8⟩
        case measure => simp [intOf]; omega
      | true =>
        rw [hd] at heq
        have hd1 := of_decide_eq_true hd
        rw [hd1] at htl
        by_cases hlt2 : np < n1
        · have g2 : over path r = true := by
            unfold over
            rw [decide_eq_true_eq]
            have := hl1'.out
            refine ⟨by omega, ?_⟩
            have e : m = path.length := by omega
            rw [← e]
            exact hd1
          obtain rfl : R = false := hoR.out g2
          have j1 : decide ((n1 : Int) > (np : Int)) = true := by rw [decide_eq_true_eq]; omega
          have j2 : decide (np < n1) = true := by rw [decide_eq_true_eq]; omega
          clear hd hd1 g2 hno2 hok2 htl hlp2
          go_wp2_with fail
          refine heq.mono ?_
          rintro e w8 ⟨rfl, q, rfl⟩
          have hb8 := Lib.hid (hb7'.out.trans (Joins.below_draws _ w7 q))
          obtain ⟨w8, hw8⟩ : ∃ w8, w7.drewN q = w8 := ⟨_, rfl⟩
          have k9 : w8.cell? ⟨p7, 0, none⟩ = some (.slice A1 n1 c1) := by rw [← hw8]; exact ((Joins.below_draws _ w7 q).cell (World.block_lt_of_cell? w7 _ k7)).trans k7
          rw [hw8] at hb8 ⊢
          clear heq hw8
          go_wp2_with fail
          go_ret
          exact ⟨rfl, hb8.out⟩
        · have g2 : over path r = false := by
            unfold over
            rw [decide_eq_false_iff_not]
            rintro ⟨e1, _⟩
            have := hl1'.out
            omega
          have g1 : decide (r.1 = path) = true := by
            rw [decide_eq_true_eq]
            rw [List.take_of_length_le (by have := hl1'.out; omega)] at hd1
            exact hd1
          have ho2 := Lib.hid (hno2.out g2)
          have hk2 := Lib.hid (show true = hasB (l.take (k + 1)) path by rw [hok2.out, g1, Bool.or_true])
          have j1 : decide ((n1 : Int) > (np : Int)) = false := by rw [decide_eq_false_iff_not]; omega
          have j2 : decide (np < n1) = false := by rw [decide_eq_false_iff_not]; omega
          clear hd hd1 g1 g2 hno2 hok2 htl hlp2
          go_wp2_with fail
          refine heq.mono ?_
          rintro e w8 ⟨rfl, q, rfl⟩
          have hb8 := Lib.hid (hb7'.out.trans (Joins.below_draws _ w7 q))
          obtain ⟨w8, hw8⟩ : ∃ w8, w7.drewN q = w8 := ⟨_, rfl⟩
          have k9 : w8.cell? ⟨p7, 0, none⟩ = some (.slice A1 n1 c1) := by rw [← hw8]; exact ((Joins.below_draws _ w7 q).cell (World.block_lt_of_cell? w7 _ k7)).trans k7
          rw [hw8] at hb8 ⊢
          clear heq hw8
          go_wp2_with fail
          go_roundw
          case rel => exact ⟨k + 1, true, by omega, by go_num, rfl, hk2, ho2, hb8⟩
          case measure => simp [intOf]; omega
    · have i1 : decide ((k : Int) < (n : Int)) = false := by rw [decide_eq_false_iff_not]; omega
      have i2 : decide (k < n) = false := by rw [decide_eq_false_iff_not]; omega
      have hf : ok = R := by
        have e : l.take k = l := List.take_of_length_le (by have := hl'.out; omega)
        have h1 := hok.out
        have h2 := hno.out
        rw [e] at h1 h2
        rw [← hR'.out, front_eq, h2, h1]
        simp
      subst hf
      go_wp2_with fail
      go_ret
      exact ⟨rfl, hb.out⟩
end Go.Proofs.YtjofkodncplhaaaGreatDoor.Ky
