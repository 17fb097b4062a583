/- The document's rule. -/
import Derived.Test.YtjofkodncplhaaaGreatDoorMKyRa
import Derived.Test.YtjofkodncplhaaaGreatDoorMKyRb
import Derived.Test.YtjofkodncplhaaaGreatDoorMKyWalk
import Derived.Test.YtjofkodncplhaaaGreatDoorMKyRule
section
namespace Go.Proofs.YtjofkodncplhaaaGreatDoor.Ky
open Go.RowKit Go.Shelf UtfW

set_option maxHeartbeats 1000000 in
set_option maxRecDepth 100000 in
/-- The document's placed. -/
theorem refPlaced_any (A : Option Addr) (n c : Nat) (l : List Rl) (A1 : Option Addr) (n1 c1 : Nat) (A2 : Option Addr) (n2 c2 : Nat) (r : Rl) (w : World) (h : Rs w A n c l) (h1 : Ts w A1 n1 c1 r.1) (hne : r.1 ≠ []) :
    Calls Tryz.prog 25 #[.slice A n c, .agg #[.slice A1 n1 c1, .slice A2 n2 c2]] w fun e w' => e = .returned (.bool (placedB l r)) ∧ Below w.heap.size w w' := by
  obtain ⟨p, q⟩ := r
  simp only at h1 hne
  have hl1 := h1.len
  have hl := h.len
  have hm := h.max
  have hle := h.le
  have hm1 := Rd.max h1
  have hle1 := Rd.le h1
  have hpos : 0 < n1 := by have := List.length_pos_iff.2 hne; omega
  have hP : placedB l (p, q) = (!hasB l p && (if n1 = 1 then decide (n = 0) else hasB l p.dropLast)) := by
    unfold placedB
    simp only
    rw [hl1, hl]
  obtain ⟨R, hR⟩ : ∃ R, placedB l (p, q) = R := ⟨_, rfl⟩
  rw [hR] at hP ⊢
  have hP' := Lib.hid hP
  have hn0 := kb_new w A1 n1 c1 A2 n2 c2
  have hb0 := below_alloc w (.cells #[.slice A1 n1 c1, .slice A2 n2 c2] 27)
  obtain ⟨T, hT⟩ : ∃ T, w.heap.size = T := ⟨_, rfl⟩
  obtain ⟨w0, hw0⟩ : ∃ w0, w.alloc (.cells #[.slice A1 n1 c1, .slice A2 n2 c2] 27) = w0 := ⟨_, rfl⟩
  have hs0 : w0.heap.size = T + 1 := by rw [← hw0, World.size_alloc, hT]
  rw [hw0] at hb0 hn0
  have h' := Lib.hid (h.below hb0)
  have h1' := Lib.hid (h1.below hb0)
  have hT' := Lib.hid hT
  rw [hT] at hn0 hb0
  have hn0' := Lib.hid hn0
  have hb0' := Lib.hid (show Below w.heap.size w w0 by rw [hT]; exact hb0)
  obtain ⟨k0, k1⟩ := hn0.cells
  have hf1 := refFind_any A n c l A1 n1 c1 p w0 h'.out h1'.out
  have hge := idx_ge (l := l) (p := p)
  have hl1' := Lib.hid hl1
  obtain ⟨z, hz⟩ : ∃ z, idxR l p = z := ⟨_, rfl⟩
  obtain ⟨H, hH⟩ : ∃ H, hasB l p = H := ⟨_, rfl⟩
  rw [hz] at hf1 hge
  rw [hH] at hge hP'
  have hf1' := Lib.hid hf1
  clear h h1 hn0 hb0 hP hl1 hl hR hne hz hH hf1
  go_enter Tryz.func25, Tryz.ntmps25
  go_wp2_with fail
  clear hw0 hT
  refine hf1'.out.mono ?_
  rintro e w1 ⟨rfl, q1, hw1⟩
  have hb1 := Joins.below_draws w0.heap.size w0 q1
  rw [← hw1] at hb1
  have hb1' := Lib.hid (hb0'.out.trans (hb1.mono hb0'.out.size))
  have hb1'' := Lib.hid hb1
  clear k0 k1 hw1
  obtain ⟨k0, k1⟩ := (hn0'.out.below hb1).cells
  clear hb1
  cases H with
  | true =>
    obtain rfl : R = false := by rw [hP'.out]; rfl
    have g1 : decide (0 ≤ z) = true := hge
    go_wp2_with fail
    go_ret
    exact ⟨rfl, hb1'.out⟩
  | false =>
    have g1 : decide (0 ≤ z) = false := hge
    by_cases h1e : n1 = 1
    · have j1 : ((n1 : Int) == 1) = true := by rw [beq_iff_eq]; omega
      have hf : Hid (R = decide (n = 0)) := Lib.hid (by rw [hP'.out, if_pos h1e]; rfl)
      by_cases h0 : n = 0
      · have j2 : ((n : Int) == 0) = true := by rw [beq_iff_eq]; omega
        obtain rfl : R = true := by rw [hf.out]; exact decide_eq_true h0
        clear h1e h0
        go_wp2_with fail
        go_ret
        exact ⟨rfl, hb1'.out⟩
      · have j2 : ((n : Int) == 0) = false := by rw [beq_eq_false_iff_ne]; omega
        obtain rfl : R = false := by rw [hf.out]; exact decide_eq_false h0
        clear h1e h0
        go_wp2_with fail
        go_ret
        exact ⟨rfl, hb1'.out⟩
    · have j1 : ((n1 : Int) == 1) = false := by rw [beq_eq_false_iff_ne]; omega
      have hf : Hid (R = hasB l p.dropLast) := Lib.hid (by rw [hP'.out, if_neg h1e]; rfl)
      obtain ⟨m, rfl⟩ : ∃ m, n1 = m + 1 := ⟨n1 - 1, by omega⟩
      have hcut : Ts w1 A1 m c1 p.dropLast := by
        have := (h1'.out.below hb1''.out).cut 0 m (by omega) (by omega) A1 (fun b' o' e _ => e) (fun h => h) (fun h => h)
        rw [Nat.sub_zero, Nat.sub_zero, List.drop_zero] at this
        rw [List.dropLast_eq_take, hl1'.out, Nat.add_sub_cancel]
        exact this
      have hmc : m ≤ c1 := by omega
      have hf2 := refFind_any A n c l A1 m c1 p.dropLast w1 (h'.out.below hb1''.out) hcut
      have hge2 := idx_ge (l := l) (p := p.dropLast)
      obtain ⟨z2, hz2⟩ : ∃ z, idxR l p.dropLast = z := ⟨_, rfl⟩
      rw [hz2] at hf2 hge2
      rw [← hf.out] at hge2
      have hf2' := Lib.hid hf2
      have g2 : decide (0 ≤ z2) = R := hge2
      clear hz2 hf2 hcut hge2
      go_wp2_with fail
      refine hf2'.out.mono ?_
      rintro e w2 ⟨rfl, q2, hw2⟩
      have hb2 := Joins.below_draws w1.heap.size w1 q2
      rw [← hw2] at hb2
      have hb2' := Lib.hid (hb1'.out.trans (hb2.mono hb1'.out.size))
      clear hb2 hw2 k0 k1
      go_wp2_with fail
      go_ret
      exact ⟨rfl, hb2'.out⟩

theorem strip_at (t : Tx) : (t = [] ∧ strip t = []) ∨ (∃ r, t = 64 :: r ∧ strip t = r) ∨ (∃ b r, t = b :: r ∧ b ≠ 64 ∧ strip t = t) := by
  cases t with
  | nil => exact .inl ⟨rfl, rfl⟩
  | cons b r =>
    by_cases hb : b = 64
    · subst hb
      exact .inr (.inl ⟨r, rfl, rfl⟩)
    · refine .inr (.inr ⟨b, r, rfl, hb, ?_⟩)
      rcases strip_ways (b :: r) with ⟨r', e, _⟩ | e
      · injection e with e1 e2
        exact absurd e1 hb
      · exact e
theorem strOf_drop1 (b : UInt8) (r : Tx) : (strOf (b :: r)).extract 1 (strOf (b :: r)).size = strOf r := by
  rw [bs_cut, strOf_data', strOf_size']
  simp
theorem strOf_drop1' (b : UInt8) (r : Tx) (n : Nat) (h : (b :: r).length = n) : (strOf (b :: r)).extract 1 n = strOf r := by
  rw [← h, bs_cut, strOf_data']
  simp

set_option maxHeartbeats 1000000 in
set_option maxRecDepth 100000 in
/-- The document's Key. -/
theorem refKey_any (s : ByteArray) (hs : s.size ≤ 900000) (w : World) :
    Calls Tryz.prog 45 #[.string s] w fun e w' => e = .returned (.bool (keyB nameR s.data.toList)) ∧ Below w.heap.size w w' := by
  have hsp := refSplit_any s 47 hs w
  by_cases h0 : s.data.toList = [46]
  · have hk : keyB nameR s.data.toList = true := by rw [h0]; exact key_dot
    rw [hk]
    have i0 : (s.toList == [46]) = true := by rw [Lib.toList_data, h0]; rfl
    clear hk h0 hsp
    go_enter Tryz.func45, Tryz.ntmps45
    go_wp2_with fail
    go_ret
    exact ⟨rfl, Below.refl _ _⟩
  · have hk := key_not (nm := nameR) h0
    have i0 : (s.toList == [46]) = false := by rw [Lib.toList_data, beq_eq_false_iff_ne]; exact h0
    obtain ⟨R, hR⟩ : ∃ R, keyB nameR s.data.toList = R := ⟨_, rfl⟩
    rw [hR] at hk ⊢
    have hkp : Hid (R = (partsK s.data.toList).all nameR) := Lib.hid hk
    have hpl := parts_len s.data.toList
    have hat : Hid (∀ k x, (split 47 s.data.toList)[k]? = some x → (partsK s.data.toList)[k]? = some (if k + 1 = (split 47 s.data.toList).length then strip x else x)) := Lib.hid fun k x hx => parts_at hx
    have hne := split_ne 47 s.data.toList
    have hsm := split_small 47 s.data.toList
    have hsz : s.data.toList.length ≤ 900000 := by rw [Array.length_toList]; exact hs
    obtain ⟨L, hL⟩ : ∃ L, split 47 s.data.toList = L := ⟨_, rfl⟩
    obtain ⟨P, hPe⟩ : ∃ P, partsK s.data.toList = P := ⟨_, rfl⟩
    rw [hL] at hsp hne hsm hat hpl
    rw [hPe] at hkp hat hpl
    have hsm' := Lib.hid (fun x hx => Nat.le_trans (hsm x hx) hsz)
    obtain ⟨n, hn⟩ : ∃ n, L.length = n := ⟨_, rfl⟩
    rw [hn] at hsp hat hpl
    have hn' := Lib.hid hn
    have hpl' := Lib.hid hpl
    have hnp : 0 < n := by have := List.length_pos_iff.2 hne; omega
    clear hR hL hPe h0 hk hsm hne hsz hn hpl
    go_enter Tryz.func45, Tryz.ntmps45
    go_wp2_with fail
    refine hsp.mono ?_
    rintro e w1 ⟨A, c, rfl, hb, ho⟩
    have ho' := Lib.hid ho
    have hb' := Lib.hid hb
    have hm := Rd.max ho.rd
    have hle := Rd.le ho.rd
    clear hsp ho hb
    go_wp2_with fail
    go_loopw [4] (fun i wr => ∃ k : Nat, k ≤ n ∧ i = .int .i64 k ∧ Hid ((P.take k).all nameR = true) ∧ Hid (Below w.heap.size w wr) ∧ Hid (OwX wr w.heap.size 9 (.slice A n c) L)) (fun i _ => n - (intOf i).toNat)
    case atStart => exact ⟨0, by omega, rfl, Lib.hid rfl, hb', ho'⟩
    case round =>
      obtain ⟨k, hk, rfl, hall, hb, ho⟩ := hrel
      by_cases hlt : k < n
      · have i1 : decide ((k : Int) < (n : Int)) = true := by rw [decide_eq_true_eq]; omega
        have i2 : decide (k < n) = true := by rw [decide_eq_true_eq]; omega
        have i3 : (k : Int) < (n : Int) := by omega
        obtain ⟨b, off, t, rfl, hbl, ht, k0⟩ := ho.out.rd.at_ hlt
        have htl := hsm'.out t (List.mem_of_getElem? ht)
        have hp := hat.out k t ht
        obtain ⟨y, hy⟩ : ∃ y, (if k + 1 = n then strip t else t) = y := ⟨_, rfl⟩
        rw [hy] at hp
        have hp' := Lib.hid hp
        have hy' := Lib.hid hy
        have hb2 := Lib.hid hb.out
        have hyl : y.length ≤ 900000 := by
          rw [← hy]
          split
          · rcases strip_at t with ⟨rfl, e⟩ | ⟨r, rfl, e⟩ | ⟨b, r, rfl, _, e⟩
            · rw [e]; simp
            · rw [e]; simp at htl; omega
            · rw [e]; exact htl
          · exact htl
        clear ht hp hy
        go_upto_region 8 with fail
        go_cut [33] (fun v wx => ∃ cnd : Bool, v = .bool cnd ∧ Hid (cnd = true → t = 64 :: y) ∧ Hid (cnd = false → t = y) ∧ wx = wr)
        case first =>
          by_cases hke : k + 1 = n
          · have e1 : ((k : Int) == (n : Int) - 1) = true := by rw [beq_iff_eq]; omega
            have hy2 : strip t = y := by rw [← hy'.out, if_pos hke]
            clear hke
            rcases strip_at t with ⟨rfl, e⟩ | ⟨r, rfl, e⟩ | ⟨b', r, rfl, hb9, e⟩
            · obtain rfl : y = [] := by rw [← hy2, e]
              have e2 : (strOf []).toList.isEmpty = true := by rw [strOf_empty]; rfl
              go_wp2_with fail
              go_meet
              exact ⟨false, rfl, Lib.hid (by simp), Lib.hid (by simp), by first | rfl | trivial⟩
            · obtain rfl : y = r := by rw [← hy2, e]
              have e2 : (strOf (64 :: y)).toList.isEmpty = false := by rw [strOf_empty]; rfl
              clear e hy2
              obtain ⟨S, hS⟩ : ∃ S, strOf (64 :: y) = S := ⟨_, rfl⟩
              have e3 : 0 < S.size := by rw [← hS, strOf_size']; simp
              have e4 : (((S[0]'e3).toNat : Int) == 64) = true := by subst hS; rfl
              simp only [tv] at k0 ⊢
              rw [hS] at k0 e2
              simp only [hS]
              have hS' := Lib.hid hS
              clear hS
              go_wp2_with fail
              have hSe := hS'.out
              subst hSe
              go_meet
              exact ⟨true, rfl, Lib.hid (by simp), Lib.hid (by simp), by first | rfl | trivial⟩
            · obtain rfl : y = b' :: r := by rw [← hy2, e]
              have e2 : (strOf (b' :: r)).toList.isEmpty = false := by rw [strOf_empty]; rfl
              clear e hy2
              obtain ⟨S, hS⟩ : ∃ S, strOf (b' :: r) = S := ⟨_, rfl⟩
              have e3 : 0 < S.size := by rw [← hS, strOf_size']; simp
              have e4 : (((S[0]'e3).toNat : Int) == 64) = false := by
                subst hS
                rw [beq_eq_false_iff_ne]
                intro h
                have h2 : (b'.toNat : Int) = 64 := h
                exact hb9 (UInt8.toNat_inj.1 (by rw [show b'.toNat = 64 by omega]; rfl))
              simp only [tv] at k0 ⊢
              rw [hS] at k0 e2
              simp only [hS]
              have hS' := Lib.hid hS
              clear hS hb9
              go_wp2_with fail
              have hSe := hS'.out
              subst hSe
              go_meet
              exact ⟨false, rfl, Lib.hid (by simp), Lib.hid (by simp), by first | rfl | trivial⟩
          · have e1 : ((k : Int) == (n : Int) - 1) = false := by rw [beq_eq_false_iff_ne]; omega
            obtain rfl : t = y := by rw [← hy'.out, if_neg hke]
            clear hke
            go_wp2_with fail
            go_meet
            exact ⟨false, rfl, Lib.hid (by simp), Lib.hid (by simp), by first | rfl | trivial⟩
        case rest =>
        obtain ⟨cnd, rfl, hc1, hc2, rfl⟩ := hcut
        go_upto_if 33 with fail
        go_cut [5] (fun v wx => v = .string (strOf y) ∧ wx = wc)
        case first =>
          cases cnd with
          | false =>
            obtain rfl := hc2.out rfl
            clear hc1 hc2
            go_wp2_with fail
            go_meet
            exact ⟨rfl, by first | rfl | trivial⟩
          | true =>
            obtain rfl := hc1.out rfl
            have e5 := strOf_drop1 64 y
            have e6 : 1 ≤ (strOf (64 :: y)).size := by rw [strOf_size']; simp
            obtain ⟨S, hS⟩ : ∃ S, strOf (64 :: y) = S := ⟨_, rfl⟩
            simp only [tv] at k0 ⊢
            rw [hS] at k0 e5 e6
            simp only [hS]
            clear hS hc1 hc2
            go_wp2_with fail
            go_meet
            exact ⟨by first | rfl | rw [e5], by first | rfl | trivial⟩
        case rest =>
          obtain ⟨rfl, rfl⟩ := hcut
          have hnm := refName_any (strOf y) (by rw [strOf_size']; omega) wc
          rw [strOf_data'] at hnm
          clear k0
          cases hx : nameR y with
          | false =>
            rw [hx] at hnm
            have hf : R = false := by
              rw [hkp.out, List.all_eq_false]
              exact ⟨y, List.mem_of_getElem? hp'.out, by rw [hx]; decide⟩
            subst hf
            clear hx
            go_wp2_with fail
            refine hnm.mono ?_
            rintro e w2 ⟨rfl, hb3⟩
            have hx2 := Lib.hid (hb2.out.trans (hb3.mono hb2.out.size))
            clear hnm hb3
            go_wp2_with fail
            go_ret
            exact ⟨rfl, hx2.out⟩
          | true =>
            rw [hx] at hnm
            have ho2 := Lib.hid (show (P.take (k + 1)).all nameR = true by rw [all_take _ hp'.out, hall.out, hx]; rfl)
            clear hx
            go_wp2_with fail
            refine hnm.mono ?_
            rintro e w2 ⟨rfl, hb3⟩
            have hx2 := Lib.hid (hb2.out.trans (hb3.mono hb2.out.size))
            have ho3 := Lib.hid (ho.out.below hb3)
            clear hnm hb3
            go_wp2_with fail
            go_roundw
            case rel => exact ⟨k + 1, by omega, by go_num, ho2, hx2, ho3⟩
            case measure => simp [intOf]; omega
      · have i1 : decide ((k : Int) < (n : Int)) = false := by rw [decide_eq_false_iff_not]; omega
        have i2 : decide (k < n) = false := by rw [decide_eq_false_iff_not]; omega
        have hf : R = true := by
          have := hall.out
          rw [List.take_of_length_le (by have := hpl'.out; omega)] at this
          rw [hkp.out, this]
        subst hf
        go_wp2_with fail
        go_ret
        exact ⟨rfl, hb.out⟩
end Go.Proofs.YtjofkodncplhaaaGreatDoor.Ky
end

section
namespace Go.Proofs.YtjofkodncplhaaaGreatDoor.Ky
open Go.RowKit Go.Shelf UtfW

theorem contains_snoc (l : List Tx) (y x : Tx) : (l ++ [y]).contains x = (l.contains x || decide (x = y)) := by
  rw [Bool.eq_iff_iff]
  simp

set_option maxHeartbeats 2000000 in
set_option maxRecDepth 100000 in
/-- The document's rule. -/
theorem refRule_any (A1 : Option Addr) (n1 c1 : Nat) (A2 : Option Addr) (n2 c2 : Nat) (r : Rl) (w : World) (h1 : Ts w A1 n1 c1 r.1) (h2 : Ts w A2 n2 c2 r.2) (hS : Smr 900000 r) :
    Calls Tryz.prog 24 #[.agg #[.slice A1 n1 c1, .slice A2 n2 c2]] w fun e w' => e = .returned (.bool (ruleB nameR r)) ∧ Below w.heap.size w w' := by
  obtain ⟨p, q⟩ := r
  simp only at h1 h2
  have hl1 := h1.len
  have hl2 := h2.len
  have hm1 := Rd.max h1
  have hm2 := Rd.max h2
  have hle1 := Rd.le h1
  have hle2 := Rd.le h2
  obtain ⟨R, hR⟩ : ∃ R, ruleB nameR (p, q) = R := ⟨_, rfl⟩
  rw [hR]
  have hR' : Hid (R = (decide (0 < n1 ∧ (1 < n1 ∨ n2 = 0)) && (p.all nameR && (q.all (keyB nameR) && onceB q)))) := Lib.hid (by
    rw [← hR]
    unfold ruleB
    simp only
    rw [hl1, hl2])
  have hl1' := Lib.hid hl1
  have hl2' := Lib.hid hl2
  have hS' := Lib.hid hS
  have hn0 := kb_new w A1 n1 c1 A2 n2 c2
  have hb0 := below_alloc w (.cells #[.slice A1 n1 c1, .slice A2 n2 c2] 27)
  obtain ⟨T, hT⟩ : ∃ T, w.heap.size = T := ⟨_, rfl⟩
  obtain ⟨w0, hw0⟩ : ∃ w0, w.alloc (.cells #[.slice A1 n1 c1, .slice A2 n2 c2] 27) = w0 := ⟨_, rfl⟩
  have hs0 : w0.heap.size = T + 1 := by rw [← hw0, World.size_alloc, hT]
  rw [hw0] at hb0 hn0
  have h1' := Lib.hid (h1.below hb0)
  have h2' := Lib.hid (h2.below hb0)
  have hT' := Lib.hid hT
  rw [hT] at hn0 hb0
  have hn0' := Lib.hid hn0
  have hb0' := Lib.hid (show Below w.heap.size w w0 by rw [hT]; exact hb0)
  obtain ⟨k0, k1⟩ := hn0.cells
  obtain ⟨ok0, hok0⟩ : ∃ b, decide (0 < n1 ∧ (1 < n1 ∨ n2 = 0)) = b := ⟨_, rfl⟩
  rw [hok0] at hR'
  clear h1 h2 hn0 hb0 hl1 hl2 hR hS
  go_enter Tryz.func24, Tryz.ntmps24
  go_upto_region 1 with fail
  clear hw0 hT
  go_cut [3] (fun v wx => v = .bool ok0 ∧ wx = w0)
  case first =>
    by_cases e0 : n1 = 0
    · have j1 : decide ((n1 : Int) > 0) = false := by rw [decide_eq_false_iff_not]; omega
      have j2 : decide (0 < n1) = false := by rw [decide_eq_false_iff_not]; omega
      obtain rfl : false = ok0 := by rw [← hok0]; exact (decide_eq_false (by omega)).symm
      clear hok0 e0
      go_wp2_with fail
      go_meet
      exact ⟨rfl, rfl⟩
    · have j1 : decide ((n1 : Int) > 0) = true := by rw [decide_eq_true_eq]; omega
      have j2 : decide (0 < n1) = true := by rw [decide_eq_true_eq]; omega
      by_cases e1 : n1 = 1
      · have j3 : decide ((n1 : Int) > 1) = false := by rw [decide_eq_false_iff_not]; omega
        have j4 : decide (1 < n1) = false := by rw [decide_eq_false_iff_not]; omega
        by_cases e2 : n2 = 0
        · have j5 : ((n2 : Int) == 0) = true := by rw [beq_iff_eq]; omega
          obtain rfl : true = ok0 := by rw [← hok0]; exact (decide_eq_true (by omega)).symm
          clear hok0 e0 e1 e2
          go_wp2_with fail
          go_meet
          exact ⟨rfl, rfl⟩
        · have j5 : ((n2 : Int) == 0) = false := by rw [beq_eq_false_iff_ne]; omega
          obtain rfl : false = ok0 := by rw [← hok0]; exact (decide_eq_false (by omega)).symm
          clear hok0 e0 e1 e2
          go_wp2_with fail
          go_meet
          exact ⟨rfl, rfl⟩
      · have j3 : decide ((n1 : Int) > 1) = true := by rw [decide_eq_true_eq]; omega
        have j4 : decide (1 < n1) = true := by rw [decide_eq_true_eq]; omega
        obtain rfl : true = ok0 := by rw [← hok0]; exact (decide_eq_true (by omega)).symm
        clear hok0 e0 e1
        go_wp2_with fail
        go_meet
        exact ⟨rfl, rfl⟩
  case rest =>
    obtain ⟨rfl, rfl⟩ := hcut
    clear hok0 k0 k1
    obtain ⟨wv, hwv⟩ : ∃ wv, wv = wc := ⟨wc, rfl⟩
    subst hwv
    go_wp2_with fail
    go_loopw [3, 4] (fun o i wr => ∃ (k : Nat) (ok : Bool), k ≤ n1 ∧ i = .int .i64 k ∧ o = .bool ok ∧ Hid (ok = (ok0 && (p.take k).all nameR)) ∧ Hid (Below wv.heap.size wv wr)) (fun _ i _ => n1 - (intOf i).toNat)
    case atStart => exact ⟨0, ok0, by omega, rfl, rfl, Lib.hid (by simp), Lib.hid (Below.refl _ _)⟩
    case round =>
      obtain ⟨k, ok, hk, rfl, rfl, hok, hb⟩ := hrel
      obtain ⟨k0, k1⟩ := (hn0'.out.below (hb.out.mono (by omega))).cells
      by_cases hlt : k < n1
      · have i1 : decide ((k : Int) < (n1 : Int)) = true := by rw [decide_eq_true_eq]; omega
        have i2 : decide (k < n1) = true := by rw [decide_eq_true_eq]; omega
        have i3 : (k : Int) < (n1 : Int) := by omega
        obtain ⟨b, off, t, rfl, hbl, ht, kk⟩ := (h1'.out.below hb.out).at_ hlt
        have hnm := refName_any (strOf t) (by rw [strOf_size']; have := hS'.out.2.2.1 t (List.mem_of_getElem? ht); omega) wr
        rw [strOf_data'] at hnm
        have hx2 : Hid ((p.take (k + 1)).all nameR = ((p.take k).all nameR && nameR t)) := Lib.hid (all_take _ ht)
        obtain ⟨V, hV⟩ : ∃ V, nameR t = V := ⟨_, rfl⟩
        rw [hV] at hnm hx2
        clear ht hV
        cases ok with
        | false =>
          have hok2 : Hid (false = (ok0 && (p.take (k + 1)).all nameR)) := Lib.hid (by rw [hx2.out, ← Bool.and_assoc, ← hok.out]; rfl)
          clear hnm
          go_wp2_with fail
          go_roundw
          case rel => exact ⟨k + 1, false, by omega, by go_num, rfl, hok2, hb⟩
          case measure => simp [intOf]; omega
        | true =>
          have hok2 : Hid (V = (ok0 && (p.take (k + 1)).all nameR)) := Lib.hid (by rw [hx2.out, ← Bool.and_assoc, ← hok.out]; rfl)
          go_wp2_with fail
          refine hnm.mono ?_
          rintro e w2 ⟨rfl, hb3⟩
          have hxx := Lib.hid (hb.out.trans (hb3.mono hb.out.size))
          clear hnm hb3 k0 k1 kk
          go_wp2_with fail
          go_roundw
          case rel => exact ⟨k + 1, V, by omega, by go_num, rfl, hok2, hxx⟩
          case measure => simp [intOf]; omega
      · have i1 : decide ((k : Int) < (n1 : Int)) = false := by rw [decide_eq_false_iff_not]; omega
        have i2 : decide (k < n1) = false := by rw [decide_eq_false_iff_not]; omega
        have hR2 : Hid (R = (ok && (q.all (keyB nameR) && onceB q))) := Lib.hid (by
          have := hok.out
          rw [List.take_of_length_le (by have := hl1'.out; omega)] at this
          rw [hR'.out, this, Bool.and_assoc])
        obtain ⟨okA, hokA⟩ : ∃ okA, ok = okA := ⟨_, rfl⟩
        rw [hokA] at hR2 hok ⊢
        clear hokA hok hR' i1 hk
        obtain ⟨wz, hwz⟩ : ∃ wz, wz = wr := ⟨wr, rfl⟩
        subst hwz
        have hbz := Lib.hid hb.out
        clear hb
        go_wp2_with fail
        go_loopw [3, 5] (fun o i wq => ∃ (k : Nat) (ok : Bool), k ≤ n2 ∧ i = .int .i64 k ∧ o = .bool ok ∧ Hid (ok = (okA && ((q.take k).all (keyB nameR) && onceB (q.take k)))) ∧ Hid (Below wv.heap.size wv wq)) (fun _ i _ => n2 - (intOf i).toNat)
        case atStart => exact ⟨0, okA, by omega, rfl, rfl, Lib.hid (by simp [onceB]), hbz⟩
        case round =>
          clear k0 k1 i2 hlt
          obtain ⟨m, ok, hm, rfl, rfl, hok, hb⟩ := hrel
          obtain ⟨k0, k1⟩ := (hn0'.out.below (hb.out.mono (by omega))).cells
          by_cases hlt : m < n2
          · have i1 : decide ((m : Int) < (n2 : Int)) = true := by rw [decide_eq_true_eq]; omega
            have i2 : decide (m < n2) = true := by rw [decide_eq_true_eq]; omega
            have i3 : (m : Int) < (n2 : Int) := by omega
            obtain ⟨b, off, t, rfl, hbl, ht, kk⟩ := (h2'.out.below hb.out).at_ hlt
            have hnm := refKey_any (strOf t) (by rw [strOf_size']; have := hS'.out.2.2.2 t (List.mem_of_getElem? ht); omega) wr
            rw [strOf_data'] at hnm
            obtain ⟨V, hV⟩ : ∃ V, keyB nameR t = V := ⟨_, rfl⟩
            have hstep : Hid ((okA && ((q.take (m + 1)).all (keyB nameR) && onceB (q.take (m + 1)))) = (ok && V && !(q.take m).contains t)) := Lib.hid (by
              rw [all_take _ ht, take_one ht, once_snoc, hok.out, hV]
              cases okA <;> cases (q.take m).all (keyB nameR) <;> cases V <;> cases onceB (q.take m) <;> rfl)
            rw [hV] at hnm
            have ht' := Lib.hid ht
            clear ht hV
            go_upto_region 9 with fail
            go_cut [3] (fun v wx => v = .bool (ok && V) ∧ Hid (Below wv.heap.size wv wx))
            case first =>
              cases ok with
              | false =>
                clear hnm
                go_wp2_with fail
                go_meet
                exact ⟨rfl, hb⟩
              | true =>
                go_wp2_with fail
                refine hnm.mono ?_
                rintro e w2 ⟨rfl, hb3⟩
                have hxx := Lib.hid (hb.out.trans (hb3.mono hb.out.size))
                clear hnm hb3 k0 k1 kk
                go_wp2_with fail
                go_meet
                exact ⟨by simp, hxx⟩
            case rest =>
              obtain ⟨rfl, hbc⟩ := hcut
              obtain ⟨okM, hokM⟩ : ∃ okM, (ok && V) = okM := ⟨_, rfl⟩
              rw [hokM] at hstep ⊢
              clear hokM hok hb k0 k1 kk hnm
              obtain ⟨wy, hwy⟩ : ∃ wy, wy = wr := ⟨wr, rfl⟩
              subst hwy
              go_wp2_with fail
              go_loopw [3, 6] (fun o i wq => ∃ (j : Nat) (ok : Bool), j ≤ m ∧ i = .int .i64 j ∧ o = .bool ok ∧ Hid (ok = (okM && !(q.take j).contains t)) ∧ Hid (Below wv.heap.size wv wq)) (fun _ i _ => m - (intOf i).toNat)
              case atStart => exact ⟨0, okM, by omega, rfl, rfl, Lib.hid (by simp), hbc⟩
              case round =>
                clear i1 i2 hlt
                obtain ⟨j, okJ, hj, rfl, rfl, hokJ, hb⟩ := hrel
                obtain ⟨k0, k1⟩ := (hn0'.out.below (hb.out.mono (by omega))).cells
                by_cases hlt : j < m
                · have i1 : decide ((j : Int) < (m : Int)) = true := by rw [decide_eq_true_eq]; omega
                  have i2 : decide (j < m) = true := by rw [decide_eq_true_eq]; omega
                  have i4 : (j : Int) < (n2 : Int) := by omega
                  obtain ⟨b9, off9, t9, e9, hbl9, ht9, kk9⟩ := (h2'.out.below hb.out).at_ (show m < n2 by omega)
                  injection e9 with e9
                  injection e9 with e9 e10 _
                  subst e9; subst e10
                  have hte : t9 = t := by have := ht'.out; rw [ht9] at this; injection this
                  subst hte
                  obtain ⟨b9, off9, t2, e9, hbl8, ht2, kk8⟩ := (h2'.out.below hb.out).at_ (show j < n2 by omega)
                  injection e9 with e9
                  injection e9 with e9 e10 _
                  subst e9; subst e10
                  have hsn : Hid ((q.take (j + 1)).contains t9 = ((q.take j).contains t9 || decide (t9 = t2))) := Lib.hid (by rw [take_one ht2, contains_snoc])
                  have hse := str_eq t9 t2
                  clear ht9 ht2
                  cases okJ with
                  | false =>
                    have hok2 : Hid (false = (okM && !(q.take (j + 1)).contains t9)) := Lib.hid (by
                      rw [hsn.out, Bool.not_or, ← Bool.and_assoc, ← hokJ.out]
                      rfl)
                    clear hse kk8 kk9
                    go_wp2_with fail
                    go_quiet (fail)
                    have hbq := Lib.hid (hb.out.trans ((Joins.below_draws wr.heap.size wr nq).mono hb.out.size))
                    go_wp2_with fail
                    go_roundw
                    case rel => exact ⟨j + 1, false, by omega, by go_num, rfl, hok2, hbq⟩
                    case measure => simp [intOf]; omega
                  | true =>
                    have hok2 : Hid ((!decide (t9 = t2)) = (okM && !(q.take (j + 1)).contains t9)) := Lib.hid (by
                      rw [hsn.out, Bool.not_or, ← Bool.and_assoc, ← hokJ.out]
                      rfl)
                    obtain ⟨D, hD⟩ : ∃ D, decide (t9 = t2) = D := ⟨_, rfl⟩
                    rw [hD] at hse hok2
                    obtain ⟨S, hS⟩ : ∃ S, strOf t9 = S := ⟨_, rfl⟩
                    obtain ⟨S2, hS2⟩ : ∃ S2, strOf t2 = S2 := ⟨_, rfl⟩
                    simp only [tv] at kk8 kk9
                    rw [hS, hS2] at hse
                    rw [hS2] at kk8
                    rw [hS] at kk9
                    clear hD hS hS2
                    go_wp2_with fail
                    go_quiet (fail)
                    have hbq := Lib.hid (hb.out.trans ((Joins.below_draws wr.heap.size wr nq).mono hb.out.size))
                    go_wp2_with fail
                    go_roundw
                    case rel => exact ⟨j + 1, !D, by omega, by go_num, by first | rfl | (rw [hse]), hok2, hbq⟩
                    case measure => simp [intOf]; omega
                · have i1 : decide ((j : Int) < (m : Int)) = false := by rw [decide_eq_false_iff_not]; omega
                  have i2 : decide (j < m) = false := by rw [decide_eq_false_iff_not]; omega
                  obtain rfl : j = m := by omega
                  have hfin : Hid (okJ = (okA && ((q.take (j + 1)).all (keyB nameR) && onceB (q.take (j + 1))))) := Lib.hid (by rw [hstep.out, hokJ.out])
                  clear hlt
                  go_wp2_with fail
                  go_roundw
                  case rel => exact ⟨j + 1, okJ, by omega, by go_num, rfl, hfin, hb⟩
                  case measure => simp [intOf]; omega
          · have i1 : decide ((m : Int) < (n2 : Int)) = false := by rw [decide_eq_false_iff_not]; omega
            have i2 : decide (m < n2) = false := by rw [decide_eq_false_iff_not]; omega
            have hf : ok = R := by
              have := hok.out
              rw [List.take_of_length_le (by have := hl2'.out; omega)] at this
              rw [hR2.out, this]
            subst hf
            have hx2 := Lib.hid (hb0'.out.trans (hb.out.mono hb0'.out.size))
            go_wp2_with fail
            go_ret
            exact ⟨rfl, hx2.out⟩
end Go.Proofs.YtjofkodncplhaaaGreatDoor.Ky
end
