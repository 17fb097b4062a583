/- The document's functions on texts: Split, Join, Texts, Find. -/
import Derived.Test.YtjofkodncplhaaaGreatDoorMKyRmath
import Derived.Test.YtjofkodncplhaaaGreatDoorMKyParse
import Derived.Test.YtjofkodncplhaaaGreatDoorMUtfName2
import Derived.Test.YtjofkodncplhaaaGreatDoorMUtfLines2
namespace Go.Proofs.YtjofkodncplhaaaGreatDoor.Ky
open Go.RowKit Go.Shelf UtfW

theorem bs_at {s : ByteArray} {k : Nat} (h : k < s.size) : s.data.toList[k]? = some (s[k]'h) := by
  rw [List.getElem?_eq_getElem (by rw [Array.length_toList]; exact h)]
  rfl
theorem bs_len (s : ByteArray) : s.data.toList.length = s.size := by rw [Array.length_toList]; rfl
theorem bs_cut (s : ByteArray) (i j : Nat) : s.extract i j = strOf ((s.data.toList.take j).drop i) := by
  rw [extract_cut, List.drop_take]

set_option maxHeartbeats 2000000 in
set_option maxRecDepth 100000 in
/-- The document's Split. -/
theorem refSplit_any (s : ByteArray) (c : UInt8) (hs : s.size ≤ 900000) (w : World) :
    Calls Tryz.prog 35 #[.string s, .int .u8 (c.toNat : Nat)] w fun e w' => ∃ (A : Option Addr) (cc : Nat), e = .returned (.slice A (split c s.data.toList).length cc) ∧ Below w.heap.size w w' ∧ OwX w' w.heap.size 9 (.slice A (split c s.data.toList).length cc) (split c s.data.toList) := by
  have HL := Lib.hid (bs_len s)
  have hsl := split_len c s.data.toList
  rw [HL.out] at hsl
  obtain ⟨L, hL⟩ : ∃ L, split c s.data.toList = L := ⟨_, rfl⟩
  rw [hL] at hsl ⊢
  obtain ⟨nn, hnn⟩ : ∃ nn, L.length = nn := ⟨_, rfl⟩
  rw [hnn] at hsl ⊢
  have hL' := Lib.hid hL
  have hnn' := Lib.hid hnn
  clear hL hnn
  obtain ⟨B, hB⟩ : ∃ B, w.heap.size = B := ⟨_, rfl⟩
  have hB' := Lib.hid hB
  rw [hB]
  clear hB
  go_enter Tryz.func35, Tryz.ntmps35
  go_wp2_with fail
  go_loopw [5, 6, 7] (fun v f i wr => ∃ (A : Option Addr) (cc m fr k : Nat) (out : List Tx), v = .slice A m cc ∧ f = .int .i64 fr ∧ i = .int .i64 k ∧ fr ≤ k ∧ k ≤ s.size + 1 ∧ m ≤ fr ∧ Hid (out.length = m) ∧ Hid (OwX wr B 9 (.slice A m cc) out) ∧ Hid (Below B w wr) ∧
    Hid (k ≤ s.size → split c (s.data.toList.take k) = out ++ [(s.data.toList.take k).drop fr]) ∧ Hid (k = s.size + 1 → out = L)) (fun _ _ i _ => s.size + 1 - (intOf i).toNat)
  case atStart => exact ⟨none, 0, 0, 0, 0, [], rfl, rfl, rfl, by omega, by omega, by omega, Lib.hid rfl, Lib.hid (OwX.nil _ _ _), Lib.hid (Below.refl _ _), Lib.hid fun _ => rfl, Lib.hid fun h => by omega⟩
  case round =>
    obtain ⟨A, cc, m, fr, k, out, rfl, rfl, rfl, hfk, hk, hmf, hm, ho, hb, h1, h2⟩ := hrel
    have hbs := hb.out.size
    by_cases hke : k = s.size + 1
    · have i1 : decide ((k : Int) ≤ (s.size : Int)) = false := by rw [decide_eq_false_iff_not]; omega
      have i2 : decide (k ≤ s.size) = false := by rw [decide_eq_false_iff_not]; omega
      have hol := h2.out hke
      have hmn : m = nn := by rw [← hm.out, hol, hnn'.out]
      subst hmn
      have ho' : Hid (OwX wr B 9 (.slice A m cc) L) := Lib.hid (by rw [← hol]; exact ho.out)
      clear hke hol
      go_wp2_with fail
      go_ret
      exact ⟨A, cc, rfl, hb.out, ho'.out⟩
    · have i1 : decide ((k : Int) ≤ (s.size : Int)) = true := by rw [decide_eq_true_eq]; omega
      have i2 : decide (k ≤ s.size) = true := by rw [decide_eq_true_eq]; omega
      have hks : k ≤ s.size := by omega
      have e1 := Lib.hid (h1.out hks)
      obtain ⟨t1, ht1⟩ : ∃ t1, (s.data.toList.take k).drop fr = t1 := ⟨_, rfl⟩
      have hcutS : s.extract fr k = strOf t1 := by rw [bs_cut, ht1]
      rw [ht1] at e1
      have ht1' := Lib.hid ht1
      have hlit : Hid (Ts (wr.alloc (.cells #[.string (strOf t1)] 9)) (some ⟨wr.heap.size, 0, none⟩) 1 1 [t1]) := Lib.hid (ts_lit wr (strOf t1) t1 9 (0, 0) rfl)
      have hbA := Lib.hid (below_alloc wr (.cells #[.string (strOf t1)] 9))
      have hln := Lib.hid (by rw [List.length_append, hm.out]; rfl : (out ++ [t1]).length = m + 1)
      clear ht1 h1 h2
      by_cases hkl : k = s.size
      · have i3 : ((k : Int) == (s.size : Int)) = true := by rw [beq_iff_eq]; omega
        have hlast : Hid (out ++ [t1] = L) := Lib.hid (by
          have := e1.out
          rw [hkl, List.take_of_length_le (by have := HL.out; omega)] at this
          rw [← this, hL'.out])
        have i5 : k ≤ s.size := by omega
        have hkl' := Lib.hid hkl
        clear hkl
        go_wp2_with (at_builtin; apply stop_here)
        refine Stop.go (append_ts _ 23 9 Tryz.underlying23 str_info rfl _ _ rfl B _ out rfl (ho.out.below hbA.out) _ 1 1 [t1] rfl hlit.out (m + 1) (by rw [hm.out]) (by omega) (by have := hbA.out.size; have := hB'.out; omega) ?_)
        intro A3 c3 wB g1 g2 g3
        have g1' := Lib.hid g1
        have hbB := Lib.hid (hb.out.trans ((hbA.out.mono (by have := hB'.out; omega)).trans g3))
        clear g1 g2 g3
        go_wp2_with fail
        go_roundw
        case rel => exact ⟨A3, c3, m + 1, k + 1, k + 1, out ++ [t1], rfl, by go_num, by go_num, by omega, by omega, by omega, hln, g1', hbB, Lib.hid fun h => by have := hkl'.out; omega, Lib.hid fun _ => hlast.out⟩
        case measure => simp [intOf]; omega
      · have i3 : ((k : Int) == (s.size : Int)) = false := by rw [beq_eq_false_iff_ne]; omega
        have i4 : k < s.size := by omega
        have hat := Lib.hid (bs_at i4)
        by_cases hc : s[k]'i4 = c
        · have e4 : (((s[k]'i4).toNat : Int) == (c.toNat : Int)) = true := by rw [hc, beq_self_eq_true]
          have hsp : Hid (split c (s.data.toList.take (k + 1)) = out ++ [t1] ++ [(s.data.toList.take (k + 1)).drop (k + 1)]) := Lib.hid (by
            rw [take_one hat.out, split_snoc e1.out, if_pos hc, ← take_one hat.out, take_drop_end])
          clear hc
          go_wp2_with (at_builtin; apply stop_here)
          refine Stop.go (append_ts _ 23 9 Tryz.underlying23 str_info rfl _ _ rfl B _ out rfl (ho.out.below hbA.out) _ 1 1 [t1] rfl hlit.out (m + 1) (by rw [hm.out]) (by omega) (by have := hbA.out.size; have := hB'.out; omega) ?_)
          intro A3 c3 wB g1 g2 g3
          have g1' := Lib.hid g1
          have hbB := Lib.hid (hb.out.trans ((hbA.out.mono (by have := hB'.out; omega)).trans g3))
          clear g1 g2 g3
          go_wp2_with fail
          go_roundw
          case rel => exact ⟨A3, c3, m + 1, k + 1, k + 1, out ++ [t1], rfl, by go_num, by go_num, by omega, by omega, by omega, hln, g1', hbB, Lib.hid fun _ => hsp.out, Lib.hid fun h => by omega⟩
          case measure => simp [intOf]; omega
        · have e4 : (((s[k]'i4).toNat : Int) == (c.toNat : Int)) = false := by
            rw [beq_eq_false_iff_ne]
            exact fun h => hc (UInt8.toNat_inj.1 (by omega))
          have hsp : Hid (split c (s.data.toList.take (k + 1)) = out ++ [(s.data.toList.take (k + 1)).drop fr]) := Lib.hid (by
            rw [take_drop_one hfk hat.out, ht1'.out, take_one hat.out, split_snoc e1.out, if_neg hc])
          clear hc
          go_wp2_with fail
          go_roundw
          case rel => exact ⟨A, cc, m, fr, k + 1, out, rfl, rfl, by go_num, by omega, by omega, hmf, hm, ho, hb, Lib.hid fun _ => hsp.out, Lib.hid fun h => by omega⟩
          case measure => simp [intOf]; omega

theorem str_add (a b : Tx) : strOf a ++ strOf b = strOf (a ++ b) := strOf_add a b

set_option maxHeartbeats 2000000 in
set_option maxRecDepth 100000 in
/-- The document's Join. -/
theorem refJoin_any (A : Option Addr) (n c : Nat) (ts : List Tx) (sep : Tx) (w : World) (h : Ts w A n c ts) (hN : n ≤ 100000) (hS : sep.length ≤ 1000) (hL : lens ts ≤ 1000000) :
    Calls Tryz.prog 27 #[.slice A n c, .string (strOf sep)] w fun e w' => e = .returned (.string (strOf (join sep ts))) ∧ w' = w := by
  have hl := Lib.hid h.len
  have hle := Rd.le h
  have hm := Rd.max h
  obtain ⟨X, hX⟩ : ∃ X, join sep ts = X := ⟨_, rfl⟩
  rw [hX]
  have hX' := Lib.hid hX
  have h' := Lib.hid h
  obtain ⟨SP, hSP⟩ : ∃ SP, strOf sep = SP := ⟨_, rfl⟩
  rw [hSP]
  have hSPl : SP.size = sep.length := by rw [← hSP, strOf_size']
  have hSP' := Lib.hid hSP
  have hlen : Hid (∀ j, j ≤ n → (join sep (ts.take j)).length ≤ 101000000) := Lib.hid fun j hj => by
    have h1 := join_len sep (ts.take j)
    have h2 : lens (ts.take j) ≤ lens ts := by
      have := lens_append (ts.take j) (ts.drop j)
      rw [List.take_append_drop] at this
      omega
    have h3 : (ts.take j).length ≤ n := by rw [List.length_take]; omega
    have h4 : (ts.take j).length * sep.length ≤ 100000 * 1000 := Nat.mul_le_mul (by omega) hS
    omega
  have hL' := Lib.hid hL
  clear hX h hSP hL
  go_enter Tryz.func27, Tryz.ntmps27
  go_wp2_with fail
  go_loopw [5, 6] (fun o i wr => ∃ (k : Nat) (S : ByteArray), k ≤ n ∧ i = .int .i64 k ∧ o = .string S ∧ Hid (S = strOf (join sep (ts.take k))) ∧ wr = w) (fun _ i _ => n - (intOf i).toNat)
  case atStart => exact ⟨0, ⟨#[]⟩, by omega, rfl, rfl, Lib.hid rfl, rfl⟩
  case round =>
    obtain ⟨k, S, hk, rfl, rfl, hS1, rfl⟩ := hrel
    have hSz : S.size ≤ 101000000 := by
      have := hlen.out k hk
      rw [hS1.out, strOf_size']
      exact this
    by_cases hlt : k < n
    · have i1 : decide ((k : Int) < (n : Int)) = true := by rw [decide_eq_true_eq]; omega
      have i2 : decide (k < n) = true := by rw [decide_eq_true_eq]; omega
      have i3 : (k : Int) < (n : Int) := by omega
      obtain ⟨b, off, t, rfl, hbl, ht, k0⟩ := h'.out.at_ hlt
      have htl : t.length ≤ 1000000 := by
        have := lens_le (List.mem_of_getElem? ht)
        have := hL'.out
        omega
      have hj := Lib.hid (join_take sep ht)
      obtain ⟨Z, hZ⟩ : ∃ Z, strOf t = Z := ⟨_, rfl⟩
      have hZl : Z.size ≤ 1000000 := by rw [← hZ, strOf_size']; exact htl
      simp only [tv, hZ] at k0
      have hZ' := Lib.hid hZ
      have hk1 : k + 1 ≤ n := hlt
      clear hZ ht
      rcases Nat.eq_zero_or_pos k with rfl | hkp
      · obtain ⟨S2, hS2⟩ : ∃ S2, S ++ Z = S2 := ⟨_, rfl⟩
        have e1 := fun w => run_string_add_sum (P := Tryz.prog) w S Z (by omega)
        rw [hS2] at e1
        have hn2 : Hid (S2 = strOf (join sep (ts.take (0 + 1)))) := Lib.hid (by
          rw [hj.out, if_pos rfl, ← hS2, hS1.out, ← hZ'.out, strOf_add]
          rfl)
        clear hS2
        simp only [Nat.add_zero] at k0
        go_wp2_with fail
        go_roundw
        case rel => exact ⟨1, S2, by omega, by go_num, rfl, hn2, by first | rfl | trivial⟩
        case measure => simp [intOf]; omega
      · have j1 : decide ((k : Int) > 0) = true := by rw [decide_eq_true_eq]; omega
        have j2 : decide (0 < k) = true := by rw [decide_eq_true_eq]; omega
        obtain ⟨S1, hS1e⟩ : ∃ S1, S ++ SP = S1 := ⟨_, rfl⟩
        have e0 := fun w => run_string_add_sum (P := Tryz.prog) w S SP (by omega)
        rw [hS1e] at e0
        have hS1l : S1.size ≤ 101001000 := by rw [← hS1e, ByteArray.size_append]; omega
        obtain ⟨S2, hS2⟩ : ∃ S2, S1 ++ Z = S2 := ⟨_, rfl⟩
        have e1 := fun w => run_string_add_sum (P := Tryz.prog) w S1 Z (by omega)
        rw [hS2] at e1
        have hn2 : Hid (S2 = strOf (join sep (ts.take (k + 1)))) := Lib.hid (by
          rw [hj.out, if_neg (by omega), ← hS2, ← hS1e, hS1.out, ← hZ'.out, ← hSP'.out, strOf_add, strOf_add])
        clear hS2 hS1e
        go_wp2_with fail
        go_roundw
        case rel => exact ⟨k + 1, S2, by omega, by go_num, rfl, hn2, by first | rfl | trivial⟩
        case measure => simp [intOf]; omega
    · have i1 : decide ((k : Int) < (n : Int)) = false := by rw [decide_eq_false_iff_not]; omega
      have i2 : decide (k < n) = false := by rw [decide_eq_false_iff_not]; omega
      have hf : Hid (S = strOf X) := Lib.hid (by
        rw [hS1.out, ← hX'.out, List.take_of_length_le (by have := hl.out; omega)])
      go_wp2_with fail
      go_ret
      exact ⟨by rw [hf.out]; rfl, by first | rfl | trivial⟩
end Go.Proofs.YtjofkodncplhaaaGreatDoor.Ky
