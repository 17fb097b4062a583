/- The document's placed and Key. -/
import Derived.RangeFuncNested
import Derived.RangeFuncBound
import Derived.RangeFuncCalls
import Derived.RangeFuncLeaves
import Derived.Test.YtdnfnkicmfkkmaaGreatDoorVKyRb
import Derived.Shelf.Abstract
import Derived.Shelf.RegionOpen
import Derived.WalkKit
import Derived.OwnWalkIn
import Derived.TacticsInMore
import Derived.LoopNIn
import Derived.LoopIn
import Derived.BigRegionIn
import Derived.Test.YtdnfnkicmfkkmaaGreatDoorVKyLine
import Derived.Test.YtdnfnkicmfkkmaaGreatDoorVErrWalk2
import Derived.Maps.OwnIn
import Derived.Test.YtdnfnkicmfkkmaaGreatDoorVUtfEnc
set_option linter.unusedVariables false
set_option linter.unusedSimpArgs false
section

end

section
namespace Go.Proofs.YtdnfnkicmfkkmaaGreatDoor.Ky
open Go.RowKit Go.Shelf UtfW
attribute [local go_sem] Oper.semAt_some
end Go.Proofs.YtdnfnkicmfkkmaaGreatDoor.Ky
end

section
namespace Go.Proofs.YtdnfnkicmfkkmaaGreatDoor.Ky
open Go.RowKit Go.Shelf UtfW
/-! ### Rules of the call's own -/
end Go.Proofs.YtdnfnkicmfkkmaaGreatDoor.Ky
end

section
namespace Go.Proofs.YtdnfnkicmfkkmaaGreatDoor.Ky
open Go.RowKit Go.Shelf UtfW
theorem bs_at {s : ByteArray} {k : Nat} (h : k < s.size) : s.data.toList[k]? = some (s[k]'h) := by
 rw [List.getElem?_eq_getElem (by rw [Array.length_toList]; exact h)];rfl
theorem bs_len (s : ByteArray) : s.data.toList.length = s.size := by rw [Array.length_toList]; rfl
theorem bs_cut (s : ByteArray) (i j : Nat) : s.extract i j = strOf ((s.data.toList.take j).drop i) := by
 rw [extract_cut, List.drop_take]
set_option maxHeartbeats 2000000 in
set_option maxRecDepth 100000 in
theorem refSplit_any (s : ByteArray) (c : UInt8) (hs : s.size <= 900000) (w : World) :
  Calls Tryz.prog 140 #[.string s, .int .u8 (c.toNat : Nat)] w fun e w' => ∃ (A : Option Addr) (cc : Nat), e = .returned (.slice A (split c s.data.toList).length cc) /\ Below w.heap.size w w' /\ OwX w' w.heap.size 9 (.slice A (split c s.data.toList).length cc) (split c s.data.toList) := by
 have HL := Hd (bs_len s);have hsl := split_len c s.data.toList;rw [HL.out] at hsl;obtain ⟨L, hL⟩ : ∃ L, split c s.data.toList = L := ⟨_, rfl⟩;rw [hL] at hsl ⊢;obtain ⟨nn, hnn⟩ : ∃ nn, L.length = nn := ⟨_, rfl⟩;rw [hnn] at hsl ⊢;have hL' := Hd hL;have hnn' := Hd hnn;clear hL hnn;obtain ⟨B, hB⟩ : ∃ B, w.heap.size = B := ⟨_, rfl⟩;have hB' := Hd hB;rw [hB];clear hB
 go_enter Tryz.func140, Tryz.ntmps140
 go_wp2_with fail
 go_loopw [5, 6, 7] (fun v f i wr => ∃ (A : Option Addr) (cc m fr k : Nat) (out : List Tx), v = .slice A m cc /\ f = .int .i64 fr /\ i = .int .i64 k /\ fr <= k /\ k <= s.size + 1 /\ m <= fr /\ Hid (out.length = m) /\ Hid (OwX wr B 9 (.slice A m cc) out) /\ Hid (Below B w wr) ∧
  Hid (k <= s.size -> split c (s.data.toList.take k) = out ++ [(s.data.toList.take k).drop fr]) /\ Hid (k = s.size + 1 -> out = L)) (fun _ _ i _ => s.size + 1 - (intOf i).toNat)
 case atStart => exact ⟨none, 0, 0, 0, 0, [], rfl, rfl, rfl, by omega, by omega, by omega, Hd rfl, Hd (OwX.nil _ _ _), Hd (Below.refl _ _), Hd fun _ => rfl, Hd fun h => by omega⟩
 case round =>
  obtain ⟨A, cc, m, fr, k, out, rfl, rfl, rfl, hfk, hk, hmf, hm, ho, hb, h1, h2⟩ := hrel;have hbs := hb.out.size
  by_cases hke : k = s.size + 1
  ·have i1 : decide ((k : Int) <= (s.size : Int)) = false := by rw [decide_eq_false_iff_not]; omega
   have i2 : decide (k <= s.size) = false := by rw [decide_eq_false_iff_not]; omega
   have hol := h2.out hke;have hmn : m = nn := by rw [<- hm.out, hol, hnn'.out]
   subst hmn;have ho' : Hid (OwX wr B 9 (.slice A m cc) L) := Hd (by rw [<- hol]; exact ho.out);clear hke hol;go_wp2_with fail;go_ret;exact ⟨A, cc, rfl, hb.out, ho'.out⟩
  ·have i1 : decide ((k : Int) <= (s.size : Int)) = true := by rw [decide_eq_true_eq]; omega
   have i2 : decide (k <= s.size) = true := by rw [decide_eq_true_eq]; omega
   have hks : k <= s.size := by omega
   have e1 := Hd (h1.out hks);obtain ⟨t1, ht1⟩ : ∃ t1, (s.data.toList.take k).drop fr = t1 := ⟨_, rfl⟩;have hcutS : s.extract fr k = strOf t1 := by rw [bs_cut, ht1]
   rw [ht1] at e1;have ht1' := Hd ht1;have hlit : Hid (Ts (wr.alloc (.cells #[.string (strOf t1)] 9)) (some ⟨wr.heap.size, 0, none⟩) 1 1 [t1]) := Hd (ts_lit wr (strOf t1) t1 9 (0, 0) rfl);have hbA := Hd (below_alloc wr (.cells #[.string (strOf t1)] 9));have hln := Hd (by rw [List.length_append, hm.out]; rfl : (out ++ [t1]).length = m + 1);clear ht1 h1 h2
   by_cases hkl : k = s.size
   ·have i3 : ((k : Int) == (s.size : Int)) = true := by rw [beq_iff_eq]; omega
    have hlast : Hid (out ++ [t1] = L) := Hd (by
     have := e1.out;rw [hkl, List.take_of_length_le (by have := HL.out; omega)] at this
     rw [<- this, hL'.out])
    have i5 : k <= s.size := (by omega);have hkl' := Hd hkl;clear hkl
    go_wp2_with (at_builtin; apply stop_here)
    refine Stop.go (append_ts _ 33 9 Tryz.underlying33 str_info rfl _ _ rfl B _ out rfl (ho.out.below hbA.out) _ 1 1 [t1] rfl hlit.out (m + 1) (by rw [hm.out]) (by omega) (by have := hbA.out.size; have := hB'.out; omega) ?_);intro A3 c3 wB g1 g2 g3;have g1' := Hd g1;have hbB := Hd (hb.out.trans ((hbA.out.mono (by have := hB'.out; omega)).trans g3));clear g1 g2 g3;go_wp2_with fail;go_roundw
    case rel => exact ⟨A3, c3, m + 1, k + 1, k + 1, out ++ [t1], rfl, by go_num, by go_num, by omega, by omega, by omega, hln, g1', hbB, Hd fun h => by have := hkl'.out; omega, Hd fun _ => hlast.out⟩
    case measure => simp [intOf]; omega
   ·have i3 : ((k : Int) == (s.size : Int)) = false := by rw [beq_eq_false_iff_ne]; omega
    have i4 : k < s.size := (by omega);have hat := Hd (bs_at i4)
    by_cases hc : s[k]'i4 = c
    ·have e4 : (((s[k]'i4).toNat : Int) == (c.toNat : Int)) = true := by rw [hc, beq_self_eq_true]
     have hsp : Hid (split c (s.data.toList.take (k + 1)) = out ++ [t1] ++ [(s.data.toList.take (k + 1)).drop (k + 1)]) := Hd (by
      rw [take_one hat.out, split_snoc e1.out, if_pos hc, <- take_one hat.out, take_drop_end])
     clear hc
     go_wp2_with (at_builtin; apply stop_here)
     refine Stop.go (append_ts _ 33 9 Tryz.underlying33 str_info rfl _ _ rfl B _ out rfl (ho.out.below hbA.out) _ 1 1 [t1] rfl hlit.out (m + 1) (by rw [hm.out]) (by omega) (by have := hbA.out.size; have := hB'.out; omega) ?_);intro A3 c3 wB g1 g2 g3;have g1' := Hd g1;have hbB := Hd (hb.out.trans ((hbA.out.mono (by have := hB'.out; omega)).trans g3));clear g1 g2 g3;go_wp2_with fail;go_roundw
     case rel => exact ⟨A3, c3, m + 1, k + 1, k + 1, out ++ [t1], rfl, by go_num, by go_num, by omega, by omega, by omega, hln, g1', hbB, Hd fun _ => hsp.out, Hd fun h => by omega⟩
     case measure => simp [intOf]; omega
    ·have e4 : (((s[k]'i4).toNat : Int) == (c.toNat : Int)) = false := by
      rw [beq_eq_false_iff_ne];exact fun h => hc (UInt8.toNat_inj.1 (by omega))
     have hsp : Hid (split c (s.data.toList.take (k + 1)) = out ++ [(s.data.toList.take (k + 1)).drop fr]) := Hd (by
      rw [take_drop_one hfk hat.out, ht1'.out, take_one hat.out, split_snoc e1.out, if_neg hc])
     clear hc;go_wp2_with fail;go_roundw
     case rel => exact ⟨A, cc, m, fr, k + 1, out, rfl, rfl, by go_num, by omega, by omega, hmf, hm, ho, hb, Hd fun _ => hsp.out, Hd fun h => by omega⟩
     case measure => simp [intOf]; omega
set_option maxHeartbeats 2000000 in
set_option maxRecDepth 100000 in
theorem refJoin_any (A : Option Addr) (n c : Nat) (ts : List Tx) (sep : Tx) (w : World) (h : Ts w A n c ts) (hN : n <= 100000) (hS : sep.length <= 1000) (hL : lens ts <= 100000000) :
  Calls Tryz.prog 107 #[.slice A n c, .string (strOf sep)] w fun e w' => e = .returned (.string (strOf (join sep ts))) /\ w' = w := by
 have hl := Hd h.len;have hle := Rd.le h;have hm := Rd.max h;obtain ⟨X, hX⟩ : ∃ X, join sep ts = X := ⟨_, rfl⟩;rw [hX];have hX' := Hd hX;have h' := Hd h;obtain ⟨SP, hSP⟩ : ∃ SP, strOf sep = SP := ⟨_, rfl⟩;rw [hSP];have hSPl : SP.size = sep.length := by rw [<- hSP, strOf_size']
 have hSP' := Hd hSP
 have hlen : Hid (∀ j, j <= n -> (join sep (ts.take j)).length <= 201000000) := Hd fun j hj => by
  have h1 := join_len sep (ts.take j)
  have h2 : lens (ts.take j) <= lens ts := by
   have := lens_append (ts.take j) (ts.drop j);rw [List.take_append_drop] at this;omega
  have h3 : (ts.take j).length <= n := by rw [List.length_take]; omega
  have h4 : (ts.take j).length * sep.length <= 100000 * 1000 := Nat.mul_le_mul (by omega) hS;omega
 have hL' := Hd hL;clear hX h hSP hL
 go_enter Tryz.func107, Tryz.ntmps107
 go_wp2_with fail
 go_loopw [5, 6] (fun o i wr => ∃ (k : Nat) (S : ByteArray), k <= n /\ i = .int .i64 k /\ o = .string S /\ Hid (S = strOf (join sep (ts.take k))) /\ wr = w) (fun _ i _ => n - (intOf i).toNat)
 case atStart => exact ⟨0, ⟨#[]⟩, by omega, rfl, rfl, Hd rfl, rfl⟩
 case round =>
  obtain ⟨k, S, hk, rfl, rfl, hS1, rfl⟩ := hrel
  have hSz : S.size <= 201000000 := by
   have := hlen.out k hk;rw [hS1.out, strOf_size'];exact this
  by_cases hlt : k < n
  ·have i1 : decide ((k : Int) < (n : Int)) = true := by rw [decide_eq_true_eq]; omega
   have i2 : decide (k < n) = true := by rw [decide_eq_true_eq]; omega
   have i3 : (k : Int) < (n : Int) := by omega
   obtain ⟨b, off, t, rfl, hbl, ht, k0⟩ := h'.out.at_ hlt
   have htl : t.length <= 100000000 := by
    have := lens_le (List.mem_of_getElem? ht);have := hL'.out;omega
   have hj := Hd (join_take sep ht);obtain ⟨Z, hZ⟩ : ∃ Z, strOf t = Z := ⟨_, rfl⟩;have hZl : Z.size <= 100000000 := by rw [<- hZ, strOf_size']; exact htl
   simp only [tv, hZ] at k0;have hZ' := Hd hZ;have hk1 : k + 1 <= n := hlt;clear hZ ht;rcases Nat.eq_zero_or_pos k with rfl | hkp
   ·obtain ⟨S2, hS2⟩ : ∃ S2, S ++ Z = S2 := ⟨_, rfl⟩;have e1 := fun w => run_string_add_sum (P := Tryz.prog) w S Z (by omega)
    rw [hS2] at e1
    have hn2 : Hid (S2 = strOf (join sep (ts.take (0 + 1)))) := Hd (by
     rw [hj.out, if_pos rfl, <- hS2, hS1.out, <- hZ'.out, strOf_add]
     rfl)
    clear hS2;simp only [Nat.add_zero] at k0;go_wp2_with fail;go_roundw
    case rel => exact ⟨1, S2, by omega, by go_num, rfl, hn2, by first | rfl | trivial⟩
    case measure => simp [intOf]; omega
   ·have j1 : decide ((k : Int) > 0) = true := by rw [decide_eq_true_eq]; omega
    have j2 : decide (0 < k) = true := by rw [decide_eq_true_eq]; omega
    obtain ⟨S1, hS1e⟩ : ∃ S1, S ++ SP = S1 := ⟨_, rfl⟩;have e0 := fun w => run_string_add_sum (P := Tryz.prog) w S SP (by omega)
    rw [hS1e] at e0;have hS1l : S1.size <= 201001000 := by rw [<- hS1e, ByteArray.size_append]; omega
    obtain ⟨S2, hS2⟩ : ∃ S2, S1 ++ Z = S2 := ⟨_, rfl⟩;have e1 := fun w => run_string_add_sum (P := Tryz.prog) w S1 Z (by omega)
    rw [hS2] at e1
    have hn2 : Hid (S2 = strOf (join sep (ts.take (k + 1)))) := Hd (by
     rw [hj.out, if_neg (by omega), <- hS2, <- hS1e, hS1.out, <- hZ'.out, <- hSP'.out, strOf_add, strOf_add])
    clear hS2 hS1e;go_wp2_with fail;go_roundw
    case rel => exact ⟨k + 1, S2, by omega, by go_num, rfl, hn2, by first | rfl | trivial⟩
    case measure => simp [intOf]; omega
  ·have i1 : decide ((k : Int) < (n : Int)) = false := by rw [decide_eq_false_iff_not]; omega
   have i2 : decide (k < n) = false := by rw [decide_eq_false_iff_not]; omega
   have hf : Hid (S = strOf X) := Hd (by
    rw [hS1.out, <- hX'.out, List.take_of_length_le (by have := hl.out; omega)])
   go_wp2_with fail;go_ret;exact ⟨by rw [hf.out]; rfl, by first | rfl | trivial⟩
end Go.Proofs.YtdnfnkicmfkkmaaGreatDoor.Ky
end

section
namespace Go.Proofs.YtdnfnkicmfkkmaaGreatDoor.Ky
open Go.RowKit Go.Shelf UtfW
set_option maxHeartbeats 1000000 in
set_option maxRecDepth 100000 in
theorem refPlaced_any (A : Option Addr) (n c : Nat) (l : List Rl) (A1 : Option Addr) (n1 c1 : Nat) (A2 : Option Addr) (n2 c2 : Nat) (r : Rl) (w : World) (h : Rs w A n c l) (h1 : Ts w A1 n1 c1 r.1) (hne : r.1 ≠ []) :
  Calls Tryz.prog 70 #[.slice A n c, .agg #[.slice A1 n1 c1, .slice A2 n2 c2]] w fun e w' => e = .returned (.bool (placedB l r)) /\ Below w.heap.size w w' := by
 obtain ⟨p, q⟩ := r;simp only at h1 hne;have hl1 := h1.len;have hl := h.len;have hm := h.max;have hle := h.le;have hm1 := Rd.max h1;have hle1 := Rd.le h1;have hpos : 0 < n1 := by have := List.length_pos_iff.2 hne; omega
 have hP : placedB l (p, q) = (!hasB l p && (if n1 = 1 then decide (n = 0) else hasB l p.dropLast)) := by
  unfold placedB;simp only;rw [hl1, hl]
 obtain ⟨R, hR⟩ : ∃ R, placedB l (p, q) = R := ⟨_, rfl⟩;rw [hR] at hP ⊢;have hP' := Hd hP;have hn0 := kb_new w A1 n1 c1 A2 n2 c2;have hb0 := below_alloc w (.cells #[.slice A1 n1 c1, .slice A2 n2 c2] 70);obtain ⟨T, hT⟩ : ∃ T, w.heap.size = T := ⟨_, rfl⟩;obtain ⟨w0, hw0⟩ : ∃ w0, w.alloc (.cells #[.slice A1 n1 c1, .slice A2 n2 c2] 70) = w0 := ⟨_, rfl⟩;have hs0 : w0.heap.size = T + 1 := by rw [<- hw0, World.size_alloc, hT]
 rw [hw0] at hb0 hn0;have h' := Hd (h.below hb0);have h1' := Hd (h1.below hb0);have hT' := Hd hT;rw [hT] at hn0 hb0;have hn0' := Hd hn0;have hb0' := Hd (show Below w.heap.size w w0 by rw [hT]; exact hb0);obtain ⟨k0, k1⟩ := hn0.cells;have hf1 := refFind_any A n c l A1 n1 c1 p w0 h'.out h1'.out;have hge := idx_ge (l := l) (p := p);have hl1' := Hd hl1;obtain ⟨z, hz⟩ : ∃ z, idxR l p = z := ⟨_, rfl⟩;obtain ⟨H, hH⟩ : ∃ H, hasB l p = H := ⟨_, rfl⟩;rw [hz] at hf1 hge;rw [hH] at hge hP';have hf1' := Hd hf1;clear h h1 hn0 hb0 hP hl1 hl hR hne hz hH hf1
 go_enter Tryz.func70, Tryz.ntmps70
 go_wp2_with fail;clear hw0 hT;refine hf1'.out.mono ?_;rintro e w1 ⟨rfl, q1, hw1⟩;have hb1 := Joins.below_draws w0.heap.size w0 q1;rw [<- hw1] at hb1;have hb1' := Hd (hb0'.out.trans (hb1.mono hb0'.out.size));have hb1'' := Hd hb1;clear k0 k1 hw1;obtain ⟨k0, k1⟩ := (hn0'.out.below hb1).cells;clear hb1
 cases H with
 | true =>
  obtain rfl : R = false := by rw [hP'.out]; rfl
  have g1 : decide (0 <= z) = true := hge;go_wp2_with fail;go_ret;exact ⟨rfl, hb1'.out⟩
 | false =>
  have g1 : decide (0 <= z) = false := hge
  by_cases h1e : n1 = 1
  ·have j1 : ((n1 : Int) == 1) = true := by rw [beq_iff_eq]; omega
   have hf : Hid (R = decide (n = 0)) := Hd (by rw [hP'.out, if_pos h1e]; rfl)
   by_cases h0 : n = 0
   ·have j2 : ((n : Int) == 0) = true := by rw [beq_iff_eq]; omega
    obtain rfl : R = true := by rw [hf.out]; exact decide_eq_true h0
    clear h1e h0;go_wp2_with fail;go_ret;exact ⟨rfl, hb1'.out⟩
   ·have j2 : ((n : Int) == 0) = false := by rw [beq_eq_false_iff_ne]; omega
    obtain rfl : R = false := by rw [hf.out]; exact decide_eq_false h0
    clear h1e h0;go_wp2_with fail;go_ret;exact ⟨rfl, hb1'.out⟩
  ·have j1 : ((n1 : Int) == 1) = false := by rw [beq_eq_false_iff_ne]; omega
   have hf : Hid (R = hasB l p.dropLast) := Hd (by rw [hP'.out, if_neg h1e]; rfl);obtain ⟨m, rfl⟩ : ∃ m, n1 = m + 1 := ⟨n1 - 1, by omega⟩
   have hcut : Ts w1 A1 m c1 p.dropLast := by
    have := (h1'.out.below hb1''.out).cut 0 m (by omega) (by omega) A1 (fun b' o' e _ => e) (fun h => h) (fun h => h);rw [Nat.sub_zero, Nat.sub_zero, List.drop_zero] at this;rw [List.dropLast_eq_take, hl1'.out, Nat.add_sub_cancel];exact this
   have hmc : m <= c1 := by omega
   have hf2 := refFind_any A n c l A1 m c1 p.dropLast w1 (h'.out.below hb1''.out) hcut;have hge2 := idx_ge (l := l) (p := p.dropLast);obtain ⟨z2, hz2⟩ : ∃ z, idxR l p.dropLast = z := ⟨_, rfl⟩;rw [hz2] at hf2 hge2;rw [<- hf.out] at hge2;have hf2' := Hd hf2;have g2 : decide (0 <= z2) = R := hge2;clear hz2 hf2 hcut hge2;go_wp2_with fail;refine hf2'.out.mono ?_;rintro e w2 ⟨rfl, q2, hw2⟩;have hb2 := Joins.below_draws w1.heap.size w1 q2;rw [<- hw2] at hb2;have hb2' := Hd (hb1'.out.trans (hb2.mono hb1'.out.size));clear hb2 hw2 k0 k1;go_wp2_with fail;go_ret;exact ⟨rfl, hb2'.out⟩
theorem strip_at (t : Tx) : (t = [] /\ strip t = []) \/ (∃ r, t = 64 :: r /\ strip t = r) \/ (∃ b r, t = b :: r /\ b ≠ 64 /\ strip t = t) := by
 cases t with
 | nil => exact .inl ⟨rfl, rfl⟩
 | cons b r =>
  by_cases hb : b = 64
  ·subst hb;exact .inr (.inl ⟨r, rfl, rfl⟩)
  ·refine .inr (.inr ⟨b, r, rfl, hb, ?_⟩);rcases strip_ways (b :: r) with ⟨r', e, _⟩ | e
   ·injection e with e1 e2;exact absurd e1 hb
   ·exact e
theorem strOf_drop1 (b : UInt8) (r : Tx) : (strOf (b :: r)).extract 1 (strOf (b :: r)).size = strOf r := by
 rw [bs_cut, strOf_data', strOf_size'];simp
set_option maxHeartbeats 1000000 in
set_option maxRecDepth 100000 in
theorem refKey_any (s : ByteArray) (hs : s.size <= 900000) (w : World) :
  Calls Tryz.prog 109 #[.string s] w fun e w' => e = .returned (.bool (keyB nameR s.data.toList)) /\ Below w.heap.size w w' := by
 have hsp := refSplit_any s 47 hs w
 by_cases h0 : s.data.toList = [46]
 ·have hk : keyB nameR s.data.toList = true := by rw [h0]; exact key_dot
  rw [hk];have i0 : (s.toList == [46]) = true := by rw [Lib.toList_data, h0]; rfl
  clear hk h0 hsp
  go_enter Tryz.func109, Tryz.ntmps109
  go_wp2_with fail;go_ret;exact ⟨rfl, Below.refl _ _⟩
 ·have hk := key_not (nm := nameR) h0;have i0 : (s.toList == [46]) = false := by rw [Lib.toList_data, beq_eq_false_iff_ne]; exact h0
  obtain ⟨R, hR⟩ : ∃ R, keyB nameR s.data.toList = R := ⟨_, rfl⟩;rw [hR] at hk ⊢;have hkp : Hid (R = (partsK s.data.toList).all nameR) := Hd hk;have hpl := parts_len s.data.toList;have hat : Hid (∀ k x, (split 47 s.data.toList)[k]? = some x -> (partsK s.data.toList)[k]? = some (if k + 1 = (split 47 s.data.toList).length then strip x else x)) := Hd fun k x hx => parts_at hx
  have hne := split_ne 47 s.data.toList;have hsm := split_small 47 s.data.toList;have hsz : s.data.toList.length <= 900000 := by rw [Array.length_toList]; exact hs
  obtain ⟨L, hL⟩ : ∃ L, split 47 s.data.toList = L := ⟨_, rfl⟩;obtain ⟨P, hPe⟩ : ∃ P, partsK s.data.toList = P := ⟨_, rfl⟩;rw [hL] at hsp hne hsm hat hpl;rw [hPe] at hkp hat hpl;have hsm' := Hd (fun x hx => Nat.le_trans (hsm x hx) hsz);obtain ⟨n, hn⟩ : ∃ n, L.length = n := ⟨_, rfl⟩;rw [hn] at hsp hat hpl;have hn' := Hd hn;have hpl' := Hd hpl;have hnp : 0 < n := by have := List.length_pos_iff.2 hne; omega
  clear hR hL hPe h0 hk hsm hne hsz hn hpl
  go_enter Tryz.func109, Tryz.ntmps109
  go_wp2_with fail;refine hsp.mono ?_;rintro e w1 ⟨A, c, rfl, hb, ho⟩;have ho' := Hd ho;have hb' := Hd hb;have hm := Rd.max ho.rd;have hle := Rd.le ho.rd;clear hsp ho hb;go_wp2_with fail
  go_loopw [4] (fun i wr => ∃ k : Nat, k <= n /\ i = .int .i64 k /\ Hid ((P.take k).all nameR = true) /\ Hid (Below w.heap.size w wr) /\ Hid (OwX wr w.heap.size 9 (.slice A n c) L)) (fun i _ => n - (intOf i).toNat)
  case atStart => exact ⟨0, by omega, rfl, Hd rfl, hb', ho'⟩
  case round =>
   obtain ⟨k, hk, rfl, hall, hb, ho⟩ := hrel
   by_cases hlt : k < n
   ·have i1 : decide ((k : Int) < (n : Int)) = true := by rw [decide_eq_true_eq]; omega
    have i2 : decide (k < n) = true := by rw [decide_eq_true_eq]; omega
    have i3 : (k : Int) < (n : Int) := (by omega);obtain ⟨b, off, t, rfl, hbl, ht, k0⟩ := ho.out.rd.at_ hlt;have htl := hsm'.out t (List.mem_of_getElem? ht);have hp := hat.out k t ht;obtain ⟨y, hy⟩ : ∃ y, (if k + 1 = n then strip t else t) = y := ⟨_, rfl⟩;rw [hy] at hp;have hp' := Hd hp;have hy' := Hd hy;have hb2 := Hd hb.out
    have hyl : y.length <= 900000 := by
     rw [<- hy]
     split
     ·rcases strip_at t with ⟨rfl, e⟩ | ⟨r, rfl, e⟩ | ⟨b, r, rfl, _, e⟩
      ·rw [e]; simp
      ·rw [e]; simp at htl; omega
      ·rw [e]; exact htl
     ·exact htl
    clear ht hp hy
    go_upto_region 8 with fail
    go_cut [33] (fun v wx => ∃ cnd : Bool, v = .bool cnd /\ Hid (cnd = true -> t = 64 :: y) /\ Hid (cnd = false -> t = y) /\ wx = wr)
    case first =>
     by_cases hke : k + 1 = n
     ·have e1 : ((k : Int) == (n : Int) - 1) = true := by rw [beq_iff_eq]; omega
      have hy2 : strip t = y := (by rw [<- hy'.out, if_pos hke]);clear hke;rcases strip_at t with ⟨rfl, e⟩ | ⟨r, rfl, e⟩ | ⟨b', r, rfl, hb9, e⟩
      ·obtain rfl : y = [] := by rw [<- hy2, e]
       have e2 : (strOf []).toList.isEmpty = true := by rw [strOf_empty]; rfl
       go_wp2_with fail
       go_meet
       exact ⟨false, rfl, Hd (by simp), Hd (by simp), by first | rfl | trivial⟩
      ·obtain rfl : y = r := by rw [<- hy2, e]
       have e2 : (strOf (64 :: y)).toList.isEmpty = false := by rw [strOf_empty]; rfl
       clear e hy2;obtain ⟨S, hS⟩ : ∃ S, strOf (64 :: y) = S := ⟨_, rfl⟩;have e3 : 0 < S.size := by rw [<- hS, strOf_size']; simp
       have e4 : (((S[0]'e3).toNat : Int) == 64) = true := by subst hS; rfl
       simp only [tv] at k0 ⊢;rw [hS] at k0 e2;simp only [hS];have hS' := Hd hS;clear hS;go_wp2_with fail;have hSe := hS'.out;subst hSe
       go_meet
       exact ⟨true, rfl, Hd (by simp), Hd (by simp), by first | rfl | trivial⟩
      ·obtain rfl : y = b' :: r := by rw [<- hy2, e]
       have e2 : (strOf (b' :: r)).toList.isEmpty = false := by rw [strOf_empty]; rfl
       clear e hy2;obtain ⟨S, hS⟩ : ∃ S, strOf (b' :: r) = S := ⟨_, rfl⟩;have e3 : 0 < S.size := by rw [<- hS, strOf_size']; simp
       have e4 : (((S[0]'e3).toNat : Int) == 64) = false := by
        subst hS;rw [beq_eq_false_iff_ne];intro h;have h2 : (b'.toNat : Int) = 64 := h;exact hb9 (UInt8.toNat_inj.1 (by rw [show b'.toNat = 64 by omega]; rfl))
       simp only [tv] at k0 ⊢;rw [hS] at k0 e2;simp only [hS];have hS' := Hd hS;clear hS hb9;go_wp2_with fail;have hSe := hS'.out;subst hSe
       go_meet
       exact ⟨false, rfl, Hd (by simp), Hd (by simp), by first | rfl | trivial⟩
     ·have e1 : ((k : Int) == (n : Int) - 1) = false := by rw [beq_eq_false_iff_ne]; omega
      obtain rfl : t = y := by rw [<- hy'.out, if_neg hke]
      clear hke;go_wp2_with fail
      go_meet
      exact ⟨false, rfl, Hd (by simp), Hd (by simp), by first | rfl | trivial⟩
    case rest =>
    obtain ⟨cnd, rfl, hc1, hc2, rfl⟩ := hcut
    go_upto_if 33 with fail
    go_cut [5] (fun v wx => v = .string (strOf y) /\ wx = wc)
    case first =>
     cases cnd with
     | false =>
      obtain rfl := hc2.out rfl;clear hc1 hc2;go_wp2_with fail
      go_meet
      exact ⟨rfl, by first | rfl | trivial⟩
     | true =>
      obtain rfl := hc1.out rfl;have e5 := strOf_drop1 64 y;have e6 : 1 <= (strOf (64 :: y)).size := by rw [strOf_size']; simp
      obtain ⟨S, hS⟩ : ∃ S, strOf (64 :: y) = S := ⟨_, rfl⟩;simp only [tv] at k0 ⊢;rw [hS] at k0 e5 e6;simp only [hS];clear hS hc1 hc2;go_wp2_with fail
      go_meet
      exact ⟨by first | rfl | rw [e5], by first | rfl | trivial⟩
    case rest =>
     obtain ⟨rfl, rfl⟩ := hcut;have hnm := refName_any (strOf y) (by rw [strOf_size']; omega) wc;rw [strOf_data'] at hnm;clear k0
     cases hx : nameR y with
     | false =>
      rw [hx] at hnm
      have hf : R = false := by
       rw [hkp.out, List.all_eq_false];exact ⟨y, List.mem_of_getElem? hp'.out, by rw [hx]; decide⟩
      subst hf;clear hx;go_wp2_with fail;refine hnm.mono ?_;rintro e w2 ⟨rfl, hb3⟩;have hx2 := Hd (hb2.out.trans (hb3.mono hb2.out.size));clear hnm hb3;go_wp2_with fail;go_ret;exact ⟨rfl, hx2.out⟩
     | true =>
      rw [hx] at hnm;have ho2 := Hd (show (P.take (k + 1)).all nameR = true by rw [all_take _ hp'.out, hall.out, hx]; rfl);clear hx;go_wp2_with fail;refine hnm.mono ?_;rintro e w2 ⟨rfl, hb3⟩;have hx2 := Hd (hb2.out.trans (hb3.mono hb2.out.size));have ho3 := Hd (ho.out.below hb3);clear hnm hb3;go_wp2_with fail;go_roundw
      case rel => exact ⟨k + 1, by omega, by go_num, ho2, hx2, ho3⟩
      case measure => simp [intOf]; omega
   ·have i1 : decide ((k : Int) < (n : Int)) = false := by rw [decide_eq_false_iff_not]; omega
    have i2 : decide (k < n) = false := by rw [decide_eq_false_iff_not]; omega
    have hf : R = true := by
     have := hall.out;rw [List.take_of_length_le (by have := hpl'.out; omega)] at this;rw [hkp.out, this]
    subst hf;go_wp2_with fail;go_ret;exact ⟨rfl, hb.out⟩
end Go.Proofs.YtdnfnkicmfkkmaaGreatDoor.Ky
end
