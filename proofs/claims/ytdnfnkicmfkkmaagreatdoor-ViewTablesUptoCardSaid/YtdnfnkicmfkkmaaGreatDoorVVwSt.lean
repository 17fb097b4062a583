/- The law ViewSpans. Printed by vw_st.py. -/
import Derived.Test.YtdnfnkicmfkkmaaGreatDoorVVwSc
import Derived.Test.YtdnfnkicmfkkmaaGreatDoorVUtfEnc
import Derived.Shelf.Slices.Reverse
import Derived.Sort.OwnSortedInts
import Derived.Shelf.Lay
import Derived.Ground.NamesProg
import Derived.Test.YtdnfnkicmfkkmaaGreatDoorVKyRb
import Derived.Test.YtdnfnkicmfkkmaaGreatDoorVItoaS
import Derived.Test.YtdnfnkicmfkkmaaGreatDoorVVwKey
import Derived.Test.YtdnfnkicmfkkmaaGreatDoorVNoOrd
import Derived.Test.YtdnfnkicmfkkmaaGreatDoorVErrItoa
set_option linter.unusedVariables false
set_option linter.unusedSimpArgs false
section
namespace Go.Proofs.YtdnfnkicmfkkmaaGreatDoor.Vw
open Go.RowKit UtfW Xl Xt
section
variable (t : List Q) (i k : Nat)
theorem in_self : inQ t xSelf i k = decide (k = i) := by unfold inQ; rw [if_pos rfl]
theorem in_child_ : inQ t xChild i k = (plainQ t k && decide (parAt t k = i)) := by
 unfold inQ;rw [if_neg (by decide), if_neg (by decide), if_neg (by decide), if_neg (by decide), if_pos rfl]
theorem in_parent : inQ t xParent i k = (plainQ t k && decide (parAt t i = k)) := by
 unfold inQ;rw [if_neg (by decide), if_neg (by decide), if_neg (by decide), if_neg (by decide), if_neg (by decide), if_pos rfl]
theorem in_anc : inQ t xAnc i k = (plainQ t k && below t k i) := by
 unfold inQ;rw [if_neg (by decide), if_neg (by decide), if_neg (by decide), if_neg (by decide), if_neg (by decide : ¬ xAnc = xChild), if_neg (by decide), if_pos rfl]
theorem in_desc : inQ t xDesc i k = (plainQ t k && below t i k) := by
 unfold inQ;rw [if_neg (by decide), if_neg (by decide), if_neg (by decide), if_neg (by decide), if_neg (by decide : ¬ xDesc = xChild), if_neg (by decide), if_neg (by decide), if_pos rfl]
theorem in_foll : inQ t xFoll i k = (plainQ t k && (decide (i < k) && !below t i k)) := by
 unfold inQ;rw [if_neg (by decide), if_neg (by decide), if_neg (by decide), if_neg (by decide), if_neg (by decide : ¬ xFoll = xChild), if_neg (by decide), if_neg (by decide), if_neg (by decide), if_pos rfl]
theorem in_prec : inQ t xPrec i k = (plainQ t k && (decide (k < i) && !below t k i)) := by
 unfold inQ;rw [if_neg (by decide), if_neg (by decide), if_neg (by decide), if_neg (by decide), if_neg (by decide : ¬ xPrec = xChild), if_neg (by decide), if_neg (by decide), if_neg (by decide), if_neg (by decide), if_pos rfl]
theorem in_follS : inQ t xFollS i k = (plainQ t k && (decide (i < k) && sibQ t i k)) := by
 unfold inQ;rw [if_neg (by decide), if_neg (by decide), if_neg (by decide), if_neg (by decide), if_neg (by decide : ¬ xFollS = xChild), if_neg (by decide), if_neg (by decide), if_neg (by decide), if_neg (by decide), if_neg (by decide), if_pos rfl]
theorem in_precS : inQ t xPrecS i k = (plainQ t k && (decide (k < i) && sibQ t i k)) := by
 unfold inQ;rw [if_neg (by decide), if_neg (by decide), if_neg (by decide), if_neg (by decide), if_neg (by decide : ¬ xPrecS = xChild), if_neg (by decide), if_neg (by decide), if_neg (by decide), if_neg (by decide), if_neg (by decide), if_neg (by decide), if_pos rfl]
end
end Go.Proofs.YtdnfnkicmfkkmaaGreatDoor.Vw
end

section
namespace Go.Proofs.YtdnfnkicmfkkmaaGreatDoor.Vw
open Go.RowKit UtfW Xl Xt Xo No
open Go.Proofs.YtdnfnkicmfkkmaaGreatDoor (Ky.frontB Ky.Rl)
open Go.Proofs.YtdnfnkicmfkkmaaGreatDoor.Ky (Ts OwX tv join Rs)
theorem axq (a c : Tx) : ((strOf a).toList == c) = decide (a = c) := by
 rw [Lib.toList_data, show (strOf a).data.toList = a by simp [strOf], Bool.eq_iff_iff];simp
set_option maxHeartbeats 20000000 in
set_option maxRecDepth 100000 in
theorem in_any {t : List Q} (hT : Tab t) (A : Option Addr) (n c : Nat) (w : World) (h : Sq QEl 6 w A n c t) (axis : Tx) (i k : Nat) (hi : i < n) (hk : k < n) :
    Calls Tryz.prog 43 #[.slice A n c, .string (strOf axis), .int .i64 (i : Nat), .int .i64 (k : Nat)] w fun e w' => e = .returned (.bool (inQ t axis i k)) /\ Below w.heap.size w w' := by
  have hl := h.len;have l1 := h.le;have l2 := h.max;obtain ⟨b0, o0, rfl⟩ := q_adr h (by omega);have hbl : b0 < w.heap.size := h.lt _ rfl (by omega);have hcall1 := Hd (above_any hT _ n c w h k i hi);have hcall2 := Hd (above_any hT _ n c w h i k hk);have hcall1d : ∀ wy, Hid (Below w.heap.size w wy) -> Hid _ := fun wy hb => Hd (above_any hT _ n c wy (h.below QEl.to hb.out) k i hi)
  have hcall2d : ∀ wy, Hid (Below w.heap.size w wy) -> Hid _ := fun wy hb => Hd (above_any hT _ n c wy (h.below QEl.to hb.out) i k hk)
  obtain ⟨qi, hqi, m0, m1, m2, m3, m4, m5⟩ := q_row h hi;obtain ⟨qk, hqk, u0, u1, u2, u3, u4, u5⟩ := q_row h hk;have eki := Hd (at_some hqi);have ekk := Hd (at_some hqk);have hpl : Hid (plainQ t k = decide (qk.kind ≠ 5)) := Hd (by unfold plainQ; rw [ekk.out.1]);obtain ⟨SA, hSA⟩ : ∃ S, strOf axis = S := ⟨_, rfl⟩;rw [hSA];have e3 : (i : Int) < (n : Int) := by omega
  have e4 : (k : Int) < (n : Int) := by omega
  clear h hl hT hqi hqk m1 m2 m4 m5 u1 u2 u4 u5
  go_enter Tryz.func43, Tryz.ntmps43
  by_cases hax : axis = xSelf
  · have s0 : (SA.toList == [115, 101, 108, 102]) = true := by rw [<- hSA, axq, show [115, 101, 108, 102] = xSelf from rfl, hax]; simp
    have hv : Hid (inQ t axis i k = ((k : Int) == (i : Int))) := Hd (by rw [hax, in_self, Bool.eq_iff_iff, decide_eq_true_eq, beq_iff_eq]; omega);go_wp2_with fail;go_ret;exact ⟨by rw [hv.out]; rfl, Below.refl _ _⟩
  have n0 := hax;have s0 : (SA.toList == [115, 101, 108, 102]) = false := by rw [<- hSA, axq, show [115, 101, 108, 102] = xSelf from rfl]; exact decide_eq_false n0
  clear hax
  by_cases hax : axis = xAncS
  · have s1 : (SA.toList == [97, 110, 99, 101, 115, 116, 111, 114, 45, 111, 114, 45, 115, 101, 108, 102]) = true := by rw [<- hSA, axq, show [97, 110, 99, 101, 115, 116, 111, 114, 45, 111, 114, 45, 115, 101, 108, 102] = xAncS from rfl, hax]; simp
    have hv : Hid (inQ t axis i k = (decide (k = i) || below t k i)) := Hd (by rw [hax]; unfold inQ; rw [if_neg (by decide), if_pos rfl])
    by_cases hki : k = i
    · have k1 : ((k : Int) == (i : Int)) = true := by rw [beq_iff_eq]; omega
      have hv2 : Hid (inQ t axis i k = true) := Hd (by rw [hv.out, decide_eq_true hki]; rfl);clear hki;go_wp2_with fail;go_ret;exact ⟨by rw [hv2.out]; rfl, Below.refl _ _⟩
    · have k1 : ((k : Int) == (i : Int)) = false := by rw [beq_eq_false_iff_ne]; omega
      have hv2 : Hid (inQ t axis i k = below t k i) := Hd (by rw [hv.out, decide_eq_false hki]; rfl);clear hki;go_wp2_with fail;refine hcall1.out.mono ?_;rintro e w' ⟨rfl, rfl⟩;go_wp2_with fail;go_ret;exact ⟨by rw [hv2.out]; rfl, Below.refl _ _⟩
  have n1 := hax;have s1 : (SA.toList == [97, 110, 99, 101, 115, 116, 111, 114, 45, 111, 114, 45, 115, 101, 108, 102]) = false := by rw [<- hSA, axq, show [97, 110, 99, 101, 115, 116, 111, 114, 45, 111, 114, 45, 115, 101, 108, 102] = xAncS from rfl]; exact decide_eq_false n1
  clear hax
  by_cases hax : axis = xDescS
  · have s2 : (SA.toList == [100, 101, 115, 99, 101, 110, 100, 97, 110, 116, 45, 111, 114, 45, 115, 101, 108, 102]) = true := by rw [<- hSA, axq, show [100, 101, 115, 99, 101, 110, 100, 97, 110, 116, 45, 111, 114, 45, 115, 101, 108, 102] = xDescS from rfl, hax]; simp
    have hv : Hid (inQ t axis i k = (decide (k = i) || (plainQ t k && below t i k))) := Hd (by rw [hax]; unfold inQ; rw [if_neg (by decide), if_neg (by decide), if_pos rfl])
    by_cases hki : k = i
    · have k1 : ((k : Int) == (i : Int)) = true := by rw [beq_iff_eq]; omega
      have hv2 : Hid (inQ t axis i k = true) := Hd (by rw [hv.out, decide_eq_true hki]; rfl);clear hki;go_wp2_with fail;go_ret;exact ⟨by rw [hv2.out]; rfl, Below.refl _ _⟩
    have k1 : ((k : Int) == (i : Int)) = false := by rw [beq_eq_false_iff_ne]; omega
    by_cases hk5 : qk.kind = 5
    · have hv2 : Hid (inQ t axis i k = false) := Hd (by rw [hv.out, decide_eq_false hki, hpl.out, decide_eq_false (fun h => h hk5)]; rfl)
      rw [hk5] at u0;clear hki hk5;go_wp2_with fail;go_ret;exact ⟨by rw [hv2.out]; rfl, Below.refl _ _⟩
    · have hv2 : Hid (inQ t axis i k = below t i k) := Hd (by rw [hv.out, decide_eq_false hki, hpl.out, decide_eq_true hk5]; simp)
      have k5 : (qk.kind == 5) = false := by rw [beq_eq_false_iff_ne]; exact hk5
      clear hki hk5;go_wp2_with fail;refine hcall2.out.mono ?_;rintro e w' ⟨rfl, rfl⟩;go_wp2_with fail;go_ret;exact ⟨by rw [hv2.out]; rfl, Below.refl _ _⟩
  have n2 := hax;have s2 : (SA.toList == [100, 101, 115, 99, 101, 110, 100, 97, 110, 116, 45, 111, 114, 45, 115, 101, 108, 102]) = false := by rw [<- hSA, axq, show [100, 101, 115, 99, 101, 110, 100, 97, 110, 116, 45, 111, 114, 45, 115, 101, 108, 102] = xDescS from rfl]; exact decide_eq_false n2
  clear hax
  by_cases hax : axis = xAttr
  · have s3 : (SA.toList == [97, 116, 116, 114, 105, 98, 117, 116, 101]) = true := by rw [<- hSA, axq, show [97, 116, 116, 114, 105, 98, 117, 116, 101] = xAttr from rfl, hax]; simp
    have hv : Hid (inQ t axis i k = (!plainQ t k && decide (parAt t k = i))) := Hd (by rw [hax]; unfold inQ; rw [if_neg (by decide), if_neg (by decide), if_neg (by decide), if_pos rfl])
    by_cases hk5 : qk.kind = 5
    · have hv2 : Hid (inQ t axis i k = (qk.parent == (i : Int))) := Hd (by rw [hv.out, hpl.out, decide_eq_false (fun h => h hk5), ekk.out.2.1]; rfl)
      rw [hk5] at u0;clear hk5;go_wp2_with fail;go_ret;exact ⟨by rw [hv2.out]; rfl, Below.refl _ _⟩
    · have hv2 : Hid (inQ t axis i k = false) := Hd (by rw [hv.out, hpl.out, decide_eq_true hk5]; rfl)
      have k5 : (qk.kind == 5) = false := by rw [beq_eq_false_iff_ne]; exact hk5
      clear hk5;go_wp2_with fail;go_ret;exact ⟨by rw [hv2.out]; rfl, Below.refl _ _⟩
  have n3 := hax;have s3 : (SA.toList == [97, 116, 116, 114, 105, 98, 117, 116, 101]) = false := by rw [<- hSA, axq, show [97, 116, 116, 114, 105, 98, 117, 116, 101] = xAttr from rfl]; exact decide_eq_false n3
  clear hax
  by_cases hk5 : qk.kind = 5
  · have hv : Hid (inQ t axis i k = false) := Hd (by unfold inQ; rw [if_neg n0, if_neg n1, if_neg n2, if_neg n3, hpl.out, decide_eq_false (fun h => h hk5)]; rfl)
    rw [hk5] at u0;clear hk5;go_wp2_with fail;go_ret;exact ⟨by rw [hv.out]; rfl, Below.refl _ _⟩
  have hplt : Hid (plainQ t k = true) := Hd (by rw [hpl.out]; exact decide_eq_true hk5);have k5 : (qk.kind == 5) = false := by rw [beq_eq_false_iff_ne]; exact hk5
  have hbd := Hd (Joins.below_draws w.heap.size w 1)
  go_upto_region 14 with fail
  go_cut [10] (fun v wy => v = .bool (sibQ t i k) /\ Hid (Below w.heap.size w wy))
  case first =>
    clear n0 n1 n2 n3
    by_cases g1 : qi.kind = 5
    · have hz : Hid (sibQ t i k = false) := Hd (by unfold sibQ; rw [eki.out.1]; exact decide_eq_false fun h => h.1 g1)
      rw [g1] at m0;clear g1;go_wp2_with fail;refine Pl.wp_region_plan 22 (.take 0 (.take 1 (.take 2 (.take 3 (.take 4 (.take 5 (.take 6 (.take 7 (.take 8 (.take 9 (.take 10 (.take 11 (.take 12 (.take 13 (.take 14 (.take 15 (.take 16 (.take 17 (.take 18 (.take 19 (.take 20 (.take 21 .done)))))))))))))))))))))) (fun x => x.cell? ⟨b0, o0 + i * 6, none⟩ = some (.int .i64 5) /\ x.cell? ⟨b0, o0 + i * 6 + 3, none⟩ = some (.int .i64 qi.parent) /\ x.cell? ⟨b0, o0 + k * 6 + 3, none⟩ = some (.int .i64 qk.parent)) (by kernel_rfl) (by kernel_rfl) (by exact ⟨m0, m3, u3⟩) ?_;simp only [Pl.fill, Al_4, Al_5, Al_6, Al_7]
      iterate 22
        first
        | (refine Pl.take_go ?_ (by rfl) (fun _ _ _ h => h) ?_ ?_
           rotate_left
           · (intro x hSw; (try (dsimp only at hSw)); go_simp; try with_reducible rfl)
           (try simp only [Act.put, Al_1, Al_2, Al_3]))
        | (refine Pl.take_skip (by rfl) (fun _ _ _ h => h) ?_
           (try simp only [Act.put, Al_1, Al_2, Al_3]))
      refine Pl.done_go ?_;go_wp2_with fail
      go_meet
      exact ⟨by rw [hz.out], hbd⟩
    · have j1 : (qi.kind != 5) = true := by rw [bne_iff_ne]; exact g1
      by_cases g2 : qi.parent = qk.parent
      · have hz : Hid (sibQ t i k = decide (0 <= qi.parent)) := Hd (by unfold sibQ; rw [eki.out.1, eki.out.2.1, ekk.out.2.1]; exact decide_eq_decide.2 ⟨fun h => h.2.2, fun h => ⟨g1, g2, h⟩⟩)
        have j2 : (qi.parent == qk.parent) = true := by rw [beq_iff_eq]; exact g2
        clear g1 g2;go_wp2_with fail;refine Pl.wp_region_plan 22 (.take 0 (.take 1 (.take 2 (.take 3 (.take 4 (.take 5 (.take 6 (.take 7 (.take 8 (.take 9 (.take 10 (.take 11 (.take 12 (.take 13 (.take 14 (.take 15 (.take 16 (.take 17 (.take 18 (.take 19 (.take 20 (.take 21 .done)))))))))))))))))))))) (fun x => x.cell? ⟨b0, o0 + i * 6, none⟩ = some (.int .i64 qi.kind) /\ x.cell? ⟨b0, o0 + i * 6 + 3, none⟩ = some (.int .i64 qi.parent) /\ x.cell? ⟨b0, o0 + k * 6 + 3, none⟩ = some (.int .i64 qk.parent)) (by kernel_rfl) (by kernel_rfl) (by exact ⟨m0, m3, u3⟩) ?_;simp only [Pl.fill, Al_4, Al_5, Al_6, Al_7]
        iterate 22
          first
          | (refine Pl.take_go ?_ (by rfl) (fun _ _ _ h => h) ?_ ?_
             rotate_left
             · (intro x hSw; (try (dsimp only at hSw)); go_simp; try with_reducible rfl)
             (try simp only [Act.put, Al_1, Al_2, Al_3]))
          | (refine Pl.take_skip (by rfl) (fun _ _ _ h => h) ?_
             (try simp only [Act.put, Al_1, Al_2, Al_3]))
        refine Pl.done_go ?_;go_wp2_with fail
        go_meet
        exact ⟨by rw [hz.out], hbd⟩
      · have hz : Hid (sibQ t i k = false) := Hd (by unfold sibQ; rw [eki.out.1, eki.out.2.1, ekk.out.2.1]; exact decide_eq_false fun h => g2 h.2.1)
        have j2 : (qi.parent == qk.parent) = false := by rw [beq_eq_false_iff_ne]; exact g2
        clear g1 g2;go_wp2_with fail;refine Pl.wp_region_plan 22 (.take 0 (.take 1 (.take 2 (.take 3 (.take 4 (.take 5 (.take 6 (.take 7 (.take 8 (.take 9 (.take 10 (.take 11 (.take 12 (.take 13 (.take 14 (.take 15 (.take 16 (.take 17 (.take 18 (.take 19 (.take 20 (.take 21 .done)))))))))))))))))))))) (fun x => x.cell? ⟨b0, o0 + i * 6, none⟩ = some (.int .i64 qi.kind) /\ x.cell? ⟨b0, o0 + i * 6 + 3, none⟩ = some (.int .i64 qi.parent) /\ x.cell? ⟨b0, o0 + k * 6 + 3, none⟩ = some (.int .i64 qk.parent)) (by kernel_rfl) (by kernel_rfl) (by exact ⟨m0, m3, u3⟩) ?_;simp only [Pl.fill, Al_4, Al_5, Al_6, Al_7]
        iterate 22
          first
          | (refine Pl.take_go ?_ (by rfl) (fun _ _ _ h => h) ?_ ?_
             rotate_left
             · (intro x hSw; (try (dsimp only at hSw)); go_simp; try with_reducible rfl)
             (try simp only [Act.put, Al_1, Al_2, Al_3]))
          | (refine Pl.take_skip (by rfl) (fun _ _ _ h => h) ?_
             (try simp only [Act.put, Al_1, Al_2, Al_3]))
        refine Pl.done_go ?_;go_wp2_with fail
        go_meet
        exact ⟨by rw [hz.out], hbd⟩
  case rest =>
    obtain ⟨rfl, hbz⟩ := hcut;have m3 := (hbz.out.cell (p := ⟨b0, o0 + i * 6 + 3, none⟩) hbl).trans m3;have u3 := (hbz.out.cell (p := ⟨b0, o0 + k * 6 + 3, none⟩) hbl).trans u3;clear m0 u0
    by_cases hax : axis = xChild
    · have s4 : (SA.toList == [99, 104, 105, 108, 100]) = true := by rw [<- hSA, axq, show [99, 104, 105, 108, 100] = xChild from rfl, hax]; simp
      have hv : Hid (inQ t axis i k = (qk.parent == (i : Int))) := Hd (by rw [hax, in_child_, hplt.out, Bool.true_and, ekk.out.2.1]; rfl);go_wp2_with fail;go_ret;exact ⟨by rw [hv.out]; rfl, hbz.out⟩
    have n4 := hax;have s4 : (SA.toList == [99, 104, 105, 108, 100]) = false := by rw [<- hSA, axq, show [99, 104, 105, 108, 100] = xChild from rfl]; exact decide_eq_false n4
    clear hax
    by_cases hax : axis = xParent
    · have s5 : (SA.toList == [112, 97, 114, 101, 110, 116]) = true := by rw [<- hSA, axq, show [112, 97, 114, 101, 110, 116] = xParent from rfl, hax]; simp
      have hv : Hid (inQ t axis i k = (qi.parent == (k : Int))) := Hd (by rw [hax, in_parent, hplt.out, Bool.true_and, eki.out.2.1]; rfl);go_wp2_with fail;go_ret;exact ⟨by rw [hv.out]; rfl, hbz.out⟩
    have n5 := hax;have s5 : (SA.toList == [112, 97, 114, 101, 110, 116]) = false := by rw [<- hSA, axq, show [112, 97, 114, 101, 110, 116] = xParent from rfl]; exact decide_eq_false n5
    clear hax
    by_cases hax : axis = xAnc
    · have s6 : (SA.toList == [97, 110, 99, 101, 115, 116, 111, 114]) = true := by rw [<- hSA, axq, show [97, 110, 99, 101, 115, 116, 111, 114] = xAnc from rfl, hax]; simp
      have hv : Hid (inQ t axis i k = below t k i) := Hd (by rw [hax, in_anc, hplt.out, Bool.true_and]);go_wp2_with fail;refine (hcall1d wc hbz).out.mono ?_;rintro e w' ⟨rfl, rfl⟩;go_wp2_with fail;go_ret;exact ⟨by rw [hv.out]; rfl, hbz.out⟩
    have n6 := hax;have s6 : (SA.toList == [97, 110, 99, 101, 115, 116, 111, 114]) = false := by rw [<- hSA, axq, show [97, 110, 99, 101, 115, 116, 111, 114] = xAnc from rfl]; exact decide_eq_false n6
    clear hax
    by_cases hax : axis = xDesc
    · have s7 : (SA.toList == [100, 101, 115, 99, 101, 110, 100, 97, 110, 116]) = true := by rw [<- hSA, axq, show [100, 101, 115, 99, 101, 110, 100, 97, 110, 116] = xDesc from rfl, hax]; simp
      have hv : Hid (inQ t axis i k = below t i k) := Hd (by rw [hax, in_desc, hplt.out, Bool.true_and]);go_wp2_with fail;refine (hcall2d wc hbz).out.mono ?_;rintro e w' ⟨rfl, rfl⟩;go_wp2_with fail;go_ret;exact ⟨by rw [hv.out]; rfl, hbz.out⟩
    have n7 := hax;have s7 : (SA.toList == [100, 101, 115, 99, 101, 110, 100, 97, 110, 116]) = false := by rw [<- hSA, axq, show [100, 101, 115, 99, 101, 110, 100, 97, 110, 116] = xDesc from rfl]; exact decide_eq_false n7
    clear hax
    by_cases hax : axis = xFoll
    · have s8 : (SA.toList == [102, 111, 108, 108, 111, 119, 105, 110, 103]) = true := by rw [<- hSA, axq, show [102, 111, 108, 108, 111, 119, 105, 110, 103] = xFoll from rfl, hax]; simp
      have hv : Hid (inQ t axis i k = (decide (i < k) && !below t i k)) := Hd (by rw [hax, in_foll, hplt.out, Bool.true_and])
      by_cases hlt : i < k
      · have hv2 : Hid (inQ t axis i k = !below t i k) := Hd (by rw [hv.out, decide_eq_true hlt]; rfl)
        have k1 : decide ((i : Int) < (k : Int)) = true := by rw [decide_eq_true_eq]; omega
        have k2 : decide (i < k) = true := decide_eq_true hlt;clear hlt;go_wp2_with fail;refine (hcall2d wc hbz).out.mono ?_;rintro e w' ⟨rfl, rfl⟩;go_wp2_with fail;go_ret;exact ⟨by rw [hv2.out]; rfl, hbz.out⟩
      · have hv2 : Hid (inQ t axis i k = false) := Hd (by rw [hv.out, decide_eq_false hlt]; rfl)
        have k1 : decide ((i : Int) < (k : Int)) = false := by rw [decide_eq_false_iff_not]; omega
        have k2 : decide (i < k) = false := decide_eq_false hlt;clear hlt;go_wp2_with fail;go_ret;exact ⟨by rw [hv2.out]; rfl, hbz.out⟩
    have n8 := hax;have s8 : (SA.toList == [102, 111, 108, 108, 111, 119, 105, 110, 103]) = false := by rw [<- hSA, axq, show [102, 111, 108, 108, 111, 119, 105, 110, 103] = xFoll from rfl]; exact decide_eq_false n8
    clear hax
    by_cases hax : axis = xPrec
    · have s9 : (SA.toList == [112, 114, 101, 99, 101, 100, 105, 110, 103]) = true := by rw [<- hSA, axq, show [112, 114, 101, 99, 101, 100, 105, 110, 103] = xPrec from rfl, hax]; simp
      have hv : Hid (inQ t axis i k = (decide (k < i) && !below t k i)) := Hd (by rw [hax, in_prec, hplt.out, Bool.true_and])
      by_cases hlt : k < i
      · have hv2 : Hid (inQ t axis i k = !below t k i) := Hd (by rw [hv.out, decide_eq_true hlt]; rfl)
        have k1 : decide ((k : Int) < (i : Int)) = true := by rw [decide_eq_true_eq]; omega
        have k2 : decide (k < i) = true := decide_eq_true hlt;clear hlt;go_wp2_with fail;refine (hcall1d wc hbz).out.mono ?_;rintro e w' ⟨rfl, rfl⟩;go_wp2_with fail;go_ret;exact ⟨by rw [hv2.out]; rfl, hbz.out⟩
      · have hv2 : Hid (inQ t axis i k = false) := Hd (by rw [hv.out, decide_eq_false hlt]; rfl)
        have k1 : decide ((k : Int) < (i : Int)) = false := by rw [decide_eq_false_iff_not]; omega
        have k2 : decide (k < i) = false := decide_eq_false hlt;clear hlt;go_wp2_with fail;go_ret;exact ⟨by rw [hv2.out]; rfl, hbz.out⟩
    have n9 := hax;have s9 : (SA.toList == [112, 114, 101, 99, 101, 100, 105, 110, 103]) = false := by rw [<- hSA, axq, show [112, 114, 101, 99, 101, 100, 105, 110, 103] = xPrec from rfl]; exact decide_eq_false n9
    clear hax
    by_cases hax : axis = xFollS
    · have s10 : (SA.toList == [102, 111, 108, 108, 111, 119, 105, 110, 103, 45, 115, 105, 98, 108, 105, 110, 103]) = true := by rw [<- hSA, axq, show [102, 111, 108, 108, 111, 119, 105, 110, 103, 45, 115, 105, 98, 108, 105, 110, 103] = xFollS from rfl, hax]; simp
      have hv : Hid (inQ t axis i k = (decide (i < k) && sibQ t i k)) := Hd (by rw [hax, in_follS, hplt.out, Bool.true_and])
      by_cases hlt : i < k
      · have hv2 : Hid (inQ t axis i k = sibQ t i k) := Hd (by rw [hv.out, decide_eq_true hlt]; rfl)
        have k1 : decide ((i : Int) < (k : Int)) = true := by rw [decide_eq_true_eq]; omega
        have k2 : decide (i < k) = true := decide_eq_true hlt;clear hlt;go_wp2_with fail;go_ret;exact ⟨by rw [hv2.out]; rfl, hbz.out⟩
      · have hv2 : Hid (inQ t axis i k = false) := Hd (by rw [hv.out, decide_eq_false hlt]; rfl)
        have k1 : decide ((i : Int) < (k : Int)) = false := by rw [decide_eq_false_iff_not]; omega
        have k2 : decide (i < k) = false := decide_eq_false hlt;clear hlt;go_wp2_with fail;go_ret;exact ⟨by rw [hv2.out]; rfl, hbz.out⟩
    have n10 := hax;have s10 : (SA.toList == [102, 111, 108, 108, 111, 119, 105, 110, 103, 45, 115, 105, 98, 108, 105, 110, 103]) = false := by rw [<- hSA, axq, show [102, 111, 108, 108, 111, 119, 105, 110, 103, 45, 115, 105, 98, 108, 105, 110, 103] = xFollS from rfl]; exact decide_eq_false n10
    clear hax
    by_cases hax : axis = xPrecS
    · have s11 : (SA.toList == [112, 114, 101, 99, 101, 100, 105, 110, 103, 45, 115, 105, 98, 108, 105, 110, 103]) = true := by rw [<- hSA, axq, show [112, 114, 101, 99, 101, 100, 105, 110, 103, 45, 115, 105, 98, 108, 105, 110, 103] = xPrecS from rfl, hax]; simp
      have hv : Hid (inQ t axis i k = (decide (k < i) && sibQ t i k)) := Hd (by rw [hax, in_precS, hplt.out, Bool.true_and])
      by_cases hlt : k < i
      · have hv2 : Hid (inQ t axis i k = sibQ t i k) := Hd (by rw [hv.out, decide_eq_true hlt]; rfl)
        have k1 : decide ((k : Int) < (i : Int)) = true := by rw [decide_eq_true_eq]; omega
        have k2 : decide (k < i) = true := decide_eq_true hlt;clear hlt;go_wp2_with fail;go_ret;exact ⟨by rw [hv2.out]; rfl, hbz.out⟩
      · have hv2 : Hid (inQ t axis i k = false) := Hd (by rw [hv.out, decide_eq_false hlt]; rfl)
        have k1 : decide ((k : Int) < (i : Int)) = false := by rw [decide_eq_false_iff_not]; omega
        have k2 : decide (k < i) = false := decide_eq_false hlt;clear hlt;go_wp2_with fail;go_ret;exact ⟨by rw [hv2.out]; rfl, hbz.out⟩
    have n11 := hax;have s11 : (SA.toList == [112, 114, 101, 99, 101, 100, 105, 110, 103, 45, 115, 105, 98, 108, 105, 110, 103]) = false := by rw [<- hSA, axq, show [112, 114, 101, 99, 101, 100, 105, 110, 103, 45, 115, 105, 98, 108, 105, 110, 103] = xPrecS from rfl]; exact decide_eq_false n11
    clear hax;have hv : Hid (inQ t axis i k = false) := Hd (by unfold inQ; rw [if_neg n0, if_neg n1, if_neg n2, if_neg n3, if_neg n4, if_neg n5, if_neg n6, if_neg n7, if_neg n8, if_neg n9, if_neg n10, if_neg n11, Bool.and_false]);go_wp2_with fail;go_ret;exact ⟨by rw [hv.out]; rfl, hbz.out⟩
end Go.Proofs.YtdnfnkicmfkkmaaGreatDoor.Vw
end

section
namespace Go.Proofs.YtdnfnkicmfkkmaaGreatDoor.Vw
open Go.RowKit UtfW Xl Xt Xo No
open Go.Proofs.YtdnfnkicmfkkmaaGreatDoor (Ky.frontB Ky.Rl)
open Go.Proofs.YtdnfnkicmfkkmaaGreatDoor.Ky (Ts OwX tv join Rs)
def IEl (_ : World) (vs : List Value) (x : Nat) : Prop := vs = [.int .i64 (x : Nat)]
theorem IEl.one {w : World} : ∀ vs x, IEl w vs x -> ∀ u ∈ vs, u.oneCell' = true := by
 rintro vs x rfl u hu;simp at hu;rw [hu];rfl
theorem IEl.to {w w' : World} : ∀ vs x, IEl w vs x -> IEl w' vs x := fun _ _ h => h
theorem i_adr {w : World} {A : Option Addr} {n c : Nat} {t : List Nat} (h : Sq IEl 1 w A n c t) (hn : 0 < n) : ∃ b o, A = some ⟨b, o, none⟩ := by
 obtain ⟨b, o, _, _, e, _⟩ := h.at_ hn;exact ⟨b, o, e⟩
theorem i_row {w : World} {b o n c : Nat} {t : List Nat} (h : Sq IEl 1 w (some ⟨b, o, none⟩) n c t) {k : Nat} (hk : k < n) : ∃ q, t[k]? = some q /\ w.cell? ⟨b, o + k, none⟩ = some (.int .i64 (q : Nat)) := by
 obtain ⟨b', o', q, vs, e, _, hq, _, hv, hc⟩ := h.at_ hk;injection e with e;injection e with e1 e2;subst e1 e2;obtain rfl : vs = _ := hv;have := hc 0 _ rfl;rw [Nat.mul_one, Nat.add_zero] at this;exact ⟨q, hq, this⟩
set_option maxHeartbeats 20000000 in
set_option maxRecDepth 100000 in
theorem ints_any (A : Option Addr) (n c : Nat) (xs : List Nat) (A2 : Option Addr) (n2 c2 : Nat) (ys : List Nat) (w : World) (h : Sq IEl 1 w A n c xs) (h2 : Sq IEl 1 w A2 n2 c2 ys) :
    Calls Tryz.prog 16 #[.slice A n c, .slice A2 n2 c2] w fun e w' => e = .returned (.bool (decide (xs = ys))) /\ Below w.heap.size w w' := by
  have hl := h.len;have hl2 := h2.len;have l1 := h.le;have l2 := h.max;have l3 := h2.le;have l4 := h2.max;obtain ⟨R, hR⟩ : ∃ R, decide (xs = ys) = R := ⟨_, rfl⟩;rw [hR]
  by_cases hn : n = n2
  · subst hn
    have h' := Hd h;have h2' := Hd h2;have hlH := Hd hl;have hl2H := Hd hl2;have hRH := Hd hR;clear h h2 hl hl2 hR
    go_enter Tryz.func16, Tryz.ntmps16
    go_wp2_with fail
    go_loopw [5] (fun vi wr => ∃ k : Nat, k <= n /\ vi = .int .i64 (k : Nat) /\ Hid (xs.take k = ys.take k) /\ Hid (Below w.heap.size w wr)) (fun vi _ => n - (intOf vi).toNat)
    case atStart => exact ⟨0, by omega, rfl, Hd rfl, Hd (Below.refl _ _)⟩
    case round =>
      obtain ⟨k, hk, rfl, hsame, hb⟩ := hrel
      by_cases hlt : k < n
      · have i1 : decide ((k : Int) < (n : Int)) = true := by rw [decide_eq_true_eq]; omega
        have i2 : decide (k < n) = true := by rw [decide_eq_true_eq]; omega
        have i3 : (k : Int) < (n : Int) := (by omega);obtain ⟨b1, o1, rfl⟩ := i_adr h'.out (by omega);obtain ⟨b2, o2, rfl⟩ := i_adr h2'.out (by omega);obtain ⟨qa, hx1, m0⟩ := i_row (h'.out.below IEl.to hb.out) hlt;obtain ⟨qb, hx2, u0⟩ := i_row (h2'.out.below IEl.to hb.out) hlt;have hbd := Hd (hb.out.trans ((Joins.below_draws wr.heap.size wr 1).mono hb.out.size));have hx1H := Hd hx1;have hx2H := Hd hx2;clear hx1 hx2;go_wp2_with fail;refine Pl.wp_region_plan 8 (.take 0 (.take 1 (.take 2 (.take 3 (.take 4 (.take 5 (.take 6 (.take 7 .done)))))))) (fun x => x.cell? ⟨b1, o1 + k, none⟩ = some (.int .i64 (qa : Nat)) /\ x.cell? ⟨b2, o2 + k, none⟩ = some (.int .i64 (qb : Nat))) (by kernel_rfl) (by kernel_rfl) (by exact ⟨m0, u0⟩) ?_;simp only [Pl.fill, Al_4, Al_5, Al_6, Al_7]
        iterate 8
          first
          | (refine Pl.take_go ?_ (by rfl) (fun _ _ _ h => h) ?_ ?_
             rotate_left
             · (intro x hSw; (try (dsimp only at hSw)); go_simp; try with_reducible rfl)
             (try simp only [Act.put, Al_1, Al_2, Al_3]))
          | (refine Pl.take_skip (by rfl) (fun _ _ _ h => h) ?_
             (try simp only [Act.put, Al_1, Al_2, Al_3]))
        refine Pl.done_go ?_;clear m0 u0
        by_cases hxy : qa = qb
        · have hnext : Hid (xs.take (k + 1) = ys.take (k + 1)) := Hd (by rw [take_snoc hx1H.out, take_snoc hx2H.out, hsame.out, hxy])
          have hd : ((qa : Int) != (qb : Int)) = false := by rw [bne_eq_false_iff_eq]; omega
          have hd2 : (qa != qb) = false := by rw [bne_eq_false_iff_eq]; exact hxy
          clear hxy;go_wp2_with fail;go_roundw
          case rel => exact ⟨k + 1, by omega, by go_num, hnext, hbd⟩
          case measure => simp [intOf]; omega
        · have hd : ((qa : Int) != (qb : Int)) = true := by rw [bne_iff_ne]; omega
          have hd2 : (qa != qb) = true := by rw [bne_iff_ne]; exact hxy
          have hno : Hid (R = false) := Hd (by
            rw [<- hRH.out];refine decide_eq_false fun e => ?_
            have h3 := hx1H.out;rw [e, hx2H.out] at h3;injection h3 with h3
            exact hxy h3.symm)
          clear hxy;go_wp2_with fail;go_ret;exact ⟨by rw [hno.out]; rfl, hbd.out⟩
      · have i1 : decide ((k : Int) < (n : Int)) = false := by rw [decide_eq_false_iff_not]; omega
        have i2 : decide (k < n) = false := by rw [decide_eq_false_iff_not]; omega
        have e1 : k = n := (by omega);subst e1
        have hyes : Hid (R = true) := Hd (by
          rw [<- hRH.out];refine decide_eq_true ?_;have h1 := hsame.out;rw [List.take_of_length_le (by rw [hlH.out]; exact Nat.le_refl _), List.take_of_length_le (by rw [hl2H.out]; exact Nat.le_refl _)] at h1
          exact h1)
        go_wp2_with fail;go_ret;exact ⟨by rw [hyes.out]; rfl, hb.out⟩
  · have hno : Hid (R = false) := Hd (by
      rw [<- hR];refine decide_eq_false fun e => hn ?_
      rw [<- hl, <- hl2, e])
    have e1 : ((n : Int) != (n2 : Int)) = true := by rw [bne_iff_ne]; omega
    have e2 : (n != n2) = true := by rw [bne_iff_ne]; exact hn
    clear h h2 hl hl2 hR hn
    go_enter Tryz.func16, Tryz.ntmps16
    go_wp2_with fail;go_ret;exact ⟨by rw [hno.out]; rfl, Below.refl _ _⟩
end Go.Proofs.YtdnfnkicmfkkmaaGreatDoor.Vw
end

section
namespace Go.Proofs.YtdnfnkicmfkkmaaGreatDoor.Vw
open Go.RowKit UtfW Xl Xt Xo No
open Go.Proofs.YtdnfnkicmfkkmaaGreatDoor (Ky.frontB Ky.Rl)
open Go.Proofs.YtdnfnkicmfkkmaaGreatDoor.Ky (Ts OwX tv join Rs)
theorem info_i : (Tryz.prog.info? 3).map (fun i => (i.zero, i.size, i.bytes)) = some (some (.int .i64 0), 1, 8) := by kernel_rfl
def axK (t : List Q) (axis : Tx) (i n : Nat) (bk : Bool) (k : Nat) : List Nat := ((List.range k).map fun k => if bk then n - 1 - k else k).filter (inQ t axis i)
theorem axK_succ (t : List Q) (axis : Tx) (i n : Nat) (bk : Bool) (k : Nat) : axK t axis i n bk (k + 1) = axK t axis i n bk k ++ (if inQ t axis i (if bk then n - 1 - k else k) then [if bk then n - 1 - k else k] else []) := by
 unfold axK;rw [List.range_succ, List.map_append, List.filter_append]
 congr 1
 rw [List.map_singleton];generalize (if bk then n - 1 - k else k) = j
 cases h : inQ t axis i j <;> simp [List.filter, h]
theorem axK_all (t : List Q) (axis : Tx) (i n : Nat) (hn : t.length = n) : axK t axis i n (backQ axis) n = axisR t axis i := by
 unfold axK axisR;subst hn
 cases backQ axis with
 | false => simp
 | true =>
  simp only [if_true];rw [<- List.filter_reverse]
  congr 1
  apply List.ext_getElem
  ·simp
  ·intro k h1 h2;simp
def axR (t : List Q) (axis : Tx) (i : Int) : List Nat := if i < 0 \/ (t.length : Int) <= i then [] else axisR t axis i.toNat
set_option maxHeartbeats 20000000 in
set_option maxRecDepth 100000 in
theorem raxis_any {t : List Q} (hT : Tab t) (A : Option Addr) (n c : Nat) (w : World) (h : Sq QEl 6 w A n c t) (axis : Tx) (i : Int) (hn : n <= 1000000) :
  Calls Tryz.prog 18 #[.slice A n c, .string (strOf axis), .int .i64 i] w fun e w' => ∃ A' m c', e = .returned (.slice A' m c') /\ OwS IEl 1 w' w.heap.size 3 (.slice A' m c') (axR t axis i) /\ Below w.heap.size w w' := by
 have hl := h.len;have l1 := h.le;have l2 := h.max;have h' := Hd h;have hlH := Hd hl;have hTH := Hd hT;obtain ⟨SA, hSA⟩ : ∃ S, strOf axis = S := ⟨_, rfl⟩;rw [hSA];have hSAH := Hd hSA;clear h hT hSA
 by_cases hi0 : i < 0
 ·have hv : axR t axis i = [] := by unfold axR; rw [if_pos (.inl hi0)]
  rw [hv];have e1 : decide (i < 0) = true := by rw [decide_eq_true_eq]; exact hi0
  clear hl hv
  go_enter Tryz.func18, Tryz.ntmps18
  go_wp2_with fail;go_ret;exact ⟨_, _, _, rfl, OwS.nil _ _ _, Below.refl _ _⟩
 have e1 : decide (i < 0) = false := by rw [decide_eq_false_iff_not]; exact hi0
 by_cases hin : (n : Int) <= i
 ·have hv : axR t axis i = [] := by unfold axR; rw [if_pos (.inr (by omega))]
  rw [hv];have e2 : decide ((n : Int) <= i) = true := by rw [decide_eq_true_eq]; exact hin
  clear hl hv
  go_enter Tryz.func18, Tryz.ntmps18
  go_wp2_with fail;go_ret;exact ⟨_, _, _, rfl, OwS.nil _ _ _, Below.refl _ _⟩
 have e2 : decide ((n : Int) <= i) = false := by rw [decide_eq_false_iff_not]; exact hin
 obtain ⟨i, rfl⟩ : ∃ m : Nat, i = (m : Int) := ⟨i.toNat, by omega⟩;have hi : i < n := by omega
 have hv : axR t axis i = axisR t axis i := by unfold axR; rw [if_neg (by omega), Int.toNat_natCast]
 have hvH : Hid (axR t axis i = axK t axis i n (backQ axis) n) := Hd (by rw [hv, axK_all t axis i n hl]);clear hl hv
 go_enter Tryz.func18, Tryz.ntmps18
 go_upto_region 4 with fail
 go_cut [8] (fun v wy => v = .bool (backQ axis) /\ Hid (wy = w))
 case first =>
  by_cases hax : axis = xAnc
  ·have s0 : (SA.toList == [97, 110, 99, 101, 115, 116, 111, 114]) = true := by rw [<- hSAH.out, axq, show [97, 110, 99, 101, 115, 116, 111, 114] = xAnc from rfl, hax]; simp
   have hz : Hid (backQ axis = true) := Hd (by unfold backQ; rw [hax]; decide);clear hax;go_wp2_with fail
   go_meet
   exact ⟨by rw [hz.out], Hd rfl⟩
  have n0 := Hd hax;have s0 : (SA.toList == [97, 110, 99, 101, 115, 116, 111, 114]) = false := by rw [<- hSAH.out, axq, show [97, 110, 99, 101, 115, 116, 111, 114] = xAnc from rfl]; exact decide_eq_false hax
  clear hax
  by_cases hax : axis = xAncS
  ·have s1 : (SA.toList == [97, 110, 99, 101, 115, 116, 111, 114, 45, 111, 114, 45, 115, 101, 108, 102]) = true := by rw [<- hSAH.out, axq, show [97, 110, 99, 101, 115, 116, 111, 114, 45, 111, 114, 45, 115, 101, 108, 102] = xAncS from rfl, hax]; simp
   have hz : Hid (backQ axis = true) := Hd (by unfold backQ; rw [hax]; decide);clear hax;go_wp2_with fail
   go_meet
   exact ⟨by rw [hz.out], Hd rfl⟩
  have n1 := Hd hax;have s1 : (SA.toList == [97, 110, 99, 101, 115, 116, 111, 114, 45, 111, 114, 45, 115, 101, 108, 102]) = false := by rw [<- hSAH.out, axq, show [97, 110, 99, 101, 115, 116, 111, 114, 45, 111, 114, 45, 115, 101, 108, 102] = xAncS from rfl]; exact decide_eq_false hax
  clear hax
  by_cases hax : axis = xPrec
  ·have s2 : (SA.toList == [112, 114, 101, 99, 101, 100, 105, 110, 103]) = true := by rw [<- hSAH.out, axq, show [112, 114, 101, 99, 101, 100, 105, 110, 103] = xPrec from rfl, hax]; simp
   have hz : Hid (backQ axis = true) := Hd (by unfold backQ; rw [hax]; decide);clear hax;go_wp2_with fail
   go_meet
   exact ⟨by rw [hz.out], Hd rfl⟩
  have n2 := Hd hax;have s2 : (SA.toList == [112, 114, 101, 99, 101, 100, 105, 110, 103]) = false := by rw [<- hSAH.out, axq, show [112, 114, 101, 99, 101, 100, 105, 110, 103] = xPrec from rfl]; exact decide_eq_false hax
  clear hax
  by_cases hax : axis = xPrecS
  ·have s3 : (SA.toList == [112, 114, 101, 99, 101, 100, 105, 110, 103, 45, 115, 105, 98, 108, 105, 110, 103]) = true := by rw [<- hSAH.out, axq, show [112, 114, 101, 99, 101, 100, 105, 110, 103, 45, 115, 105, 98, 108, 105, 110, 103] = xPrecS from rfl, hax]; simp
   have hz : Hid (backQ axis = true) := Hd (by unfold backQ; rw [hax]; decide);clear hax;go_wp2_with fail
   go_meet
   exact ⟨by rw [hz.out], Hd rfl⟩
  have n3 := Hd hax;have s3 : (SA.toList == [112, 114, 101, 99, 101, 100, 105, 110, 103, 45, 115, 105, 98, 108, 105, 110, 103]) = false := by rw [<- hSAH.out, axq, show [112, 114, 101, 99, 101, 100, 105, 110, 103, 45, 115, 105, 98, 108, 105, 110, 103] = xPrecS from rfl]; exact decide_eq_false hax
  clear hax;have hz : Hid (backQ axis = false) := Hd (by unfold backQ; exact decide_eq_false (fun h => h.elim n0.out fun h => h.elim n1.out fun h => h.elim n2.out n3.out));go_wp2_with fail
  go_meet
  exact ⟨by rw [hz.out], Hd rfl⟩
 case rest =>
  obtain ⟨rfl, hwc⟩ := hcut;obtain rfl := hwc.out;obtain ⟨BK, hBK⟩ : ∃ B, backQ axis = B := ⟨_, rfl⟩;rw [hBK] at hvH ⊢;clear hBK;go_wp2_with fail
  go_loopw [7, 9] (fun v vi wr => ∃ (k : Nat) (Ao : Option Addr) (m co : Nat), k <= n /\ m <= k /\ vi = .int .i64 (k : Nat) /\ v = .slice Ao m co /\ Hid ((axK t axis i n BK k).length = m) /\ Hid (OwS IEl 1 wr wc.heap.size 3 (.slice Ao m co) (axK t axis i n BK k)) /\ Hid (Below wc.heap.size wc wr)) (fun _ vi _ => n - (intOf vi).toNat)
  case atStart => exact ⟨0, none, 0, 0, by omega, by omega, rfl, rfl, Hd rfl, Hd (OwS.nil _ _ _), Hd (Below.refl _ _)⟩
  case round =>
   obtain ⟨k, Ao, m, co, hk, hmk, rfl, rfl, hm, how, hb⟩ := hrel
   by_cases hlt : k < n
   ·have i1 : decide ((k : Int) < (n : Int)) = true := by rw [decide_eq_true_eq]; omega
    have i2 : decide (k < n) = true := by rw [decide_eq_true_eq]; omega
    have i3 : (k : Int) < (n : Int) := by omega
    cases BK with
    | false =>
     obtain ⟨j, hj⟩ : ∃ j, (if false = true then n - 1 - k else k) = j := ⟨_, rfl⟩;have hjn : j < n := by rw [<- hj]; simpa using hlt
     obtain rfl : k = j := by simpa using hj
     have hcall := in_any hTH.out _ n c wr (h'.out.below QEl.to hb.out) axis i k hi hjn;rw [hSAH.out] at hcall;have hcallH := Hd hcall;have hpt := Hd (axK_succ t axis i n false k);rw [show (if false then n - 1 - k else k) = k from hj] at hpt;clear hcall
     cases hin : inQ t axis i k with
     | false =>
      rw [hin] at hcallH;have hnext : Hid (axK t axis i n false (k + 1) = axK t axis i n false k) := Hd (by rw [hpt.out, hin]; simp);clear hin hpt hj;go_wp2_with fail;refine hcallH.out.mono ?_;rintro e w4 ⟨rfl, hb4⟩;have hb4H := Hd (hb.out.trans (hb4.mono hb.out.size));have how4 : Hid (OwS IEl 1 w4 wc.heap.size 3 (.slice Ao m co) (axK t axis i n false (k + 1))) := Hd (by rw [hnext.out]; exact how.out.below hb4 IEl.to);have hm4 : Hid ((axK t axis i n false (k + 1)).length = m) := Hd (by rw [hnext.out]; exact hm.out);clear hb4 hcallH;go_wp2_with fail;go_roundw
      case rel => exact ⟨k + 1, Ao, m, co, by omega, by omega, by go_num, rfl, hm4, how4, hb4H⟩
      case measure => simp [intOf]; omega
     | true =>
      rw [hin] at hcallH;have hnext : Hid (axK t axis i n false (k + 1) = axK t axis i n false k ++ [k]) := Hd (by rw [hpt.out, hin]; simp);clear hin hpt hj;go_wp2_with fail;refine hcallH.out.mono ?_;rintro e w4 ⟨rfl, hb4⟩;have hb4H := Hd (hb.out.trans (hb4.mono hb.out.size));have how4 := how.out.below hb4 IEl.to;have hbl4 := below_alloc w4 (.cells #[.int .i64 (k : Nat)] 3);have hlit := Hd (ows_lit (El := IEl) (k := 1) w4 [.int .i64 (k : Nat)] k 3 rfl (by decide) rfl);have how5 := Hd (how4.below hbl4 IEl.to);have hb5 := Hd (hb4H.out.trans (hbl4.mono hb4H.out.size));clear hb4 how4 hbl4 hcallH
      go_wp2_with (at_builtin; apply stop_here)
      refine Stop.go (append_sq (El := IEl) (k := 1) _ 37 3 (.int .i64 0) 8 Tryz.underlying37 info_i rfl (by omega) rfl _ _ rfl wc.heap.size (.slice Ao m co) (axK t axis i n false k) rfl how5.out _ 1 1 [k] rfl (hlit.out.sq' (by omega)) IEl.one (fun _ _ => IEl.to) (m + 1) (by rw [hm.out]) (by omega) (by omega) hb5.out.size ?_);intro A8 c8 x8 ho8 hg8 hb8 hv8;have hb9 := Hd (hb5.out.trans hb8);have ho9 : Hid (OwS IEl 1 x8 wc.heap.size 3 (.slice A8 (m + 1) c8) (axK t axis i n false (k + 1))) := Hd (by rw [hnext.out]; exact ho8);have hm9 : Hid ((axK t axis i n false (k + 1)).length = m + 1) := Hd (by rw [hnext.out, List.length_append, hm.out]; rfl);clear ho8 hg8 hb8 hv8;go_wp2_with fail;go_roundw
      case rel => exact ⟨k + 1, A8, m + 1, c8, by omega, by omega, by go_num, rfl, hm9, ho9, hb9⟩
      case measure => simp [intOf]; omega
    | true =>
     obtain ⟨j, hj⟩ : ∃ j, (if true = true then n - 1 - k else k) = j := ⟨_, rfl⟩;have hj1 : n - 1 - k = j := (by simpa using hj);have hjn : j < n := (by omega);have e7 : (n : Int) - 1 - (k : Int) = (j : Int) := (by omega);have hcall := in_any hTH.out _ n c wr (h'.out.below QEl.to hb.out) axis i j hi hjn;rw [hSAH.out] at hcall;have hcallH := Hd hcall;have hpt := Hd (axK_succ t axis i n true k);rw [show (if true then n - 1 - k else k) = j from hj] at hpt;clear hcall
     cases hin : inQ t axis i j with
     | false =>
      rw [hin] at hcallH;have hnext : Hid (axK t axis i n true (k + 1) = axK t axis i n true k) := Hd (by rw [hpt.out, hin]; simp);clear hin hpt hj;go_wp2_with fail;refine hcallH.out.mono ?_;rintro e w4 ⟨rfl, hb4⟩;have hb4H := Hd (hb.out.trans (hb4.mono hb.out.size));have how4 : Hid (OwS IEl 1 w4 wc.heap.size 3 (.slice Ao m co) (axK t axis i n true (k + 1))) := Hd (by rw [hnext.out]; exact how.out.below hb4 IEl.to);have hm4 : Hid ((axK t axis i n true (k + 1)).length = m) := Hd (by rw [hnext.out]; exact hm.out);clear hb4 hcallH;go_wp2_with fail;go_roundw
      case rel => exact ⟨k + 1, Ao, m, co, by omega, by omega, by go_num, rfl, hm4, how4, hb4H⟩
      case measure => simp [intOf]; omega
     | true =>
      rw [hin] at hcallH;have hnext : Hid (axK t axis i n true (k + 1) = axK t axis i n true k ++ [j]) := Hd (by rw [hpt.out, hin]; simp);clear hin hpt hj;go_wp2_with fail;refine hcallH.out.mono ?_;rintro e w4 ⟨rfl, hb4⟩;have hb4H := Hd (hb.out.trans (hb4.mono hb.out.size));have how4 := how.out.below hb4 IEl.to;have hbl4 := below_alloc w4 (.cells #[.int .i64 (j : Nat)] 3);have hlit := Hd (ows_lit (El := IEl) (k := 1) w4 [.int .i64 (j : Nat)] j 3 rfl (by decide) rfl);have how5 := Hd (how4.below hbl4 IEl.to);have hb5 := Hd (hb4H.out.trans (hbl4.mono hb4H.out.size));clear hb4 how4 hbl4 hcallH
      go_wp2_with (at_builtin; apply stop_here)
      refine Stop.go (append_sq (El := IEl) (k := 1) _ 37 3 (.int .i64 0) 8 Tryz.underlying37 info_i rfl (by omega) rfl _ _ rfl wc.heap.size (.slice Ao m co) (axK t axis i n true k) rfl how5.out _ 1 1 [j] rfl (hlit.out.sq' (by omega)) IEl.one (fun _ _ => IEl.to) (m + 1) (by rw [hm.out]) (by omega) (by omega) hb5.out.size ?_);intro A8 c8 x8 ho8 hg8 hb8 hv8;have hb9 := Hd (hb5.out.trans hb8);have ho9 : Hid (OwS IEl 1 x8 wc.heap.size 3 (.slice A8 (m + 1) c8) (axK t axis i n true (k + 1))) := Hd (by rw [hnext.out]; exact ho8);have hm9 : Hid ((axK t axis i n true (k + 1)).length = m + 1) := Hd (by rw [hnext.out, List.length_append, hm.out]; rfl);clear ho8 hg8 hb8 hv8;go_wp2_with fail;go_roundw
      case rel => exact ⟨k + 1, A8, m + 1, c8, by omega, by omega, by go_num, rfl, hm9, ho9, hb9⟩
      case measure => simp [intOf]; omega
   ·have i1 : decide ((k : Int) < (n : Int)) = false := by rw [decide_eq_false_iff_not]; omega
    have i2 : decide (k < n) = false := by rw [decide_eq_false_iff_not]; omega
    obtain rfl : k = n := by omega
    go_wp2_with fail;go_ret;exact ⟨_, _, _, rfl, by rw [hvH.out]; exact how.out, hb.out⟩
end Go.Proofs.YtdnfnkicmfkkmaaGreatDoor.Vw
end

section
namespace Go.Proofs.YtdnfnkicmfkkmaaGreatDoor.Vw
open Go.RowKit UtfW Xl Xt Xo No
open Go.Proofs.YtdnfnkicmfkkmaaGreatDoor (Ky.frontB Ky.Rl)
open Go.Proofs.YtdnfnkicmfkkmaaGreatDoor.Ky (Ts OwX tv join Rs)
set_option maxHeartbeats 20000000 in
set_option maxRecDepth 100000 in
theorem vplain_any (q : Q) (w : World) :
  Calls Tryz.prog 37 #[.agg #[.int .i64 q.kind, .string (strOf q.name), .string (strOf q.text), .int .i64 q.parent, .int .i64 (q.fin : Nat), .string (strOf q.path)]] w fun e w' => e = .returned (.bool (q.kind != 5)) /\ Below w.heap.size w w' := by
 have hb1 := below_alloc w (.cells #[.int .i64 q.kind, .string (strOf q.name), .string (strOf q.text), .int .i64 q.parent, .int .i64 (q.fin : Nat), .string (strOf q.path)] 41);have hk1 := heap_alloc_new w (.cells #[.int .i64 q.kind, .string (strOf q.name), .string (strOf q.text), .int .i64 q.parent, .int .i64 (q.fin : Nat), .string (strOf q.path)] 41);obtain ⟨T, hT⟩ : ∃ T, w.heap.size = T := ⟨_, rfl⟩;obtain ⟨w1, hw1⟩ : ∃ w1, w.alloc (.cells #[.int .i64 q.kind, .string (strOf q.name), .string (strOf q.text), .int .i64 q.parent, .int .i64 (q.fin : Nat), .string (strOf q.path)] 41) = w1 := ⟨_, rfl⟩;rw [hw1] at hb1 hk1;have g0 := Xp.cell_blk hk1 (i := 0) rfl;rw [hT] at g0;have hb1H := Hd hb1;clear hk1 hb1
 go_enter Tryz.func37, Tryz.ntmps37
 go_wp2_with fail;go_ret;exact ⟨rfl, hb1H.out⟩
set_option maxHeartbeats 20000000 in
set_option maxRecDepth 100000 in
theorem axis1_any (q : Q) (w : World) (bi i : Nat) (hi : w.cell? ⟨bi, 0, none⟩ = some (.int .i64 (i : Nat))) (hbi : bi < w.heap.size) :
  Calls Tryz.prog 36 #[.agg #[.int .i64 q.kind, .string (strOf q.name), .string (strOf q.text), .int .i64 q.parent, .int .i64 (q.fin : Nat), .string (strOf q.path)], .pointer (some ⟨bi, 0, none⟩)] w fun e w' => e = .returned (.bool ((q.kind != 5) && (q.parent == (i : Int)))) /\ Below w.heap.size w w' := by
 have hb1 := below_alloc w (.cells #[.int .i64 q.kind, .string (strOf q.name), .string (strOf q.text), .int .i64 q.parent, .int .i64 (q.fin : Nat), .string (strOf q.path)] 41);have hk1 := heap_alloc_new w (.cells #[.int .i64 q.kind, .string (strOf q.name), .string (strOf q.text), .int .i64 q.parent, .int .i64 (q.fin : Nat), .string (strOf q.path)] 41);have c0 := (hb1.cell (p := ⟨bi, 0, none⟩) hbi).trans hi;obtain ⟨T, hT⟩ : ∃ T, w.heap.size = T := ⟨_, rfl⟩;obtain ⟨w1, hw1⟩ : ∃ w1, w.alloc (.cells #[.int .i64 q.kind, .string (strOf q.name), .string (strOf q.text), .int .i64 q.parent, .int .i64 (q.fin : Nat), .string (strOf q.path)] 41) = w1 := ⟨_, rfl⟩;rw [hw1] at hb1 hk1 c0;have g0 := Xp.cell_blk hk1 (i := 0) rfl;have g1 := Xp.cell_blk hk1 (i := 1) rfl;have g2 := Xp.cell_blk hk1 (i := 2) rfl;have g3 := Xp.cell_blk hk1 (i := 3) rfl;have g4 := Xp.cell_blk hk1 (i := 4) rfl;have g5 := Xp.cell_blk hk1 (i := 5) rfl;rw [hT] at g0 g1 g2 g3 g4 g5;have hp := Hd (vplain_any q w1);have hT1 : Hid (T < w1.heap.size) := Hd (by rw [<- hT]; exact (Array.getElem?_eq_some_iff.1 hk1).1);have hbi1 : Hid (bi < w1.heap.size) := Hd (Nat.lt_of_lt_of_le hbi hb1.size);have hb1H := Hd hb1;clear hk1 hb1 hi hbi
 go_enter Tryz.func36, Tryz.ntmps36
 go_wp2_with fail;clear hw1 hT;refine hp.out.mono ?_;rintro e w2 ⟨rfl, hb2⟩;have d0 := (hb2.cell (p := ⟨bi, 0, none⟩) hbi1.out).trans c0;have d3 := (hb2.cell (p := ⟨T, 3, none⟩) hT1.out).trans g3;have hb := Hd (hb1H.out.trans (hb2.mono hb1H.out.size));clear hb2 c0 g0 g1 g2 g3 g4 g5 hp
 cases hk : (q.kind != 5) with
 | true =>
  have hkH := Hd hk;go_wp2_with fail;go_ret;exact ⟨by (try rw [hkH.out]); first | rfl | (simp; done), hb.out⟩
 | false =>
  have hkH := Hd hk;go_wp2_with fail;go_ret;exact ⟨by (try rw [hkH.out]); first | rfl | (simp; done), hb.out⟩
set_option maxHeartbeats 20000000 in
set_option maxRecDepth 100000 in
theorem axis2_any (q : Q) (w : World) (bi i : Nat) (hi : w.cell? ⟨bi, 0, none⟩ = some (.int .i64 (i : Nat))) (hbi : bi < w.heap.size) :
  Calls Tryz.prog 38 #[.agg #[.int .i64 q.kind, .string (strOf q.name), .string (strOf q.text), .int .i64 q.parent, .int .i64 (q.fin : Nat), .string (strOf q.path)], .pointer (some ⟨bi, 0, none⟩)] w fun e w' => e = .returned (.bool (!(q.kind != 5) && (q.parent == (i : Int)))) /\ Below w.heap.size w w' := by
 have hb1 := below_alloc w (.cells #[.int .i64 q.kind, .string (strOf q.name), .string (strOf q.text), .int .i64 q.parent, .int .i64 (q.fin : Nat), .string (strOf q.path)] 41);have hk1 := heap_alloc_new w (.cells #[.int .i64 q.kind, .string (strOf q.name), .string (strOf q.text), .int .i64 q.parent, .int .i64 (q.fin : Nat), .string (strOf q.path)] 41);have c0 := (hb1.cell (p := ⟨bi, 0, none⟩) hbi).trans hi;obtain ⟨T, hT⟩ : ∃ T, w.heap.size = T := ⟨_, rfl⟩;obtain ⟨w1, hw1⟩ : ∃ w1, w.alloc (.cells #[.int .i64 q.kind, .string (strOf q.name), .string (strOf q.text), .int .i64 q.parent, .int .i64 (q.fin : Nat), .string (strOf q.path)] 41) = w1 := ⟨_, rfl⟩;rw [hw1] at hb1 hk1 c0;have g0 := Xp.cell_blk hk1 (i := 0) rfl;have g1 := Xp.cell_blk hk1 (i := 1) rfl;have g2 := Xp.cell_blk hk1 (i := 2) rfl;have g3 := Xp.cell_blk hk1 (i := 3) rfl;have g4 := Xp.cell_blk hk1 (i := 4) rfl;have g5 := Xp.cell_blk hk1 (i := 5) rfl;rw [hT] at g0 g1 g2 g3 g4 g5;have hp := Hd (vplain_any q w1);have hT1 : Hid (T < w1.heap.size) := Hd (by rw [<- hT]; exact (Array.getElem?_eq_some_iff.1 hk1).1);have hbi1 : Hid (bi < w1.heap.size) := Hd (Nat.lt_of_lt_of_le hbi hb1.size);have hb1H := Hd hb1;clear hk1 hb1 hi hbi
 go_enter Tryz.func38, Tryz.ntmps38
 go_wp2_with fail;clear hw1 hT;refine hp.out.mono ?_;rintro e w2 ⟨rfl, hb2⟩;have d0 := (hb2.cell (p := ⟨bi, 0, none⟩) hbi1.out).trans c0;have d3 := (hb2.cell (p := ⟨T, 3, none⟩) hT1.out).trans g3;have hb := Hd (hb1H.out.trans (hb2.mono hb1H.out.size));clear hb2 c0 g0 g1 g2 g3 g4 g5 hp
 cases hk : (q.kind != 5) with
 | true =>
  have hkH := Hd hk;go_wp2_with fail;go_ret;exact ⟨by (try rw [hkH.out]); first | rfl | (simp; done), hb.out⟩
 | false =>
  have hkH := Hd hk;go_wp2_with fail;go_ret;exact ⟨by (try rw [hkH.out]); first | rfl | (simp; done), hb.out⟩
set_option maxHeartbeats 20000000 in
set_option maxRecDepth 100000 in
theorem axis3_any (q : Q) (w : World) (bi i : Nat) (hi : w.cell? ⟨bi, 0, none⟩ = some (.int .i64 (i : Nat))) (hbi : bi < w.heap.size) :
  Calls Tryz.prog 42 #[.agg #[.int .i64 q.kind, .string (strOf q.name), .string (strOf q.text), .int .i64 q.parent, .int .i64 (q.fin : Nat), .string (strOf q.path)], .pointer (some ⟨bi, 0, none⟩)] w fun e w' => e = .returned (.bool ((q.kind != 5) && (decide (q.fin <= i)))) /\ Below w.heap.size w w' := by
 have hb1 := below_alloc w (.cells #[.int .i64 q.kind, .string (strOf q.name), .string (strOf q.text), .int .i64 q.parent, .int .i64 (q.fin : Nat), .string (strOf q.path)] 41);have hk1 := heap_alloc_new w (.cells #[.int .i64 q.kind, .string (strOf q.name), .string (strOf q.text), .int .i64 q.parent, .int .i64 (q.fin : Nat), .string (strOf q.path)] 41);have c0 := (hb1.cell (p := ⟨bi, 0, none⟩) hbi).trans hi;obtain ⟨T, hT⟩ : ∃ T, w.heap.size = T := ⟨_, rfl⟩;obtain ⟨w1, hw1⟩ : ∃ w1, w.alloc (.cells #[.int .i64 q.kind, .string (strOf q.name), .string (strOf q.text), .int .i64 q.parent, .int .i64 (q.fin : Nat), .string (strOf q.path)] 41) = w1 := ⟨_, rfl⟩;rw [hw1] at hb1 hk1 c0;have g0 := Xp.cell_blk hk1 (i := 0) rfl;have g1 := Xp.cell_blk hk1 (i := 1) rfl;have g2 := Xp.cell_blk hk1 (i := 2) rfl;have g3 := Xp.cell_blk hk1 (i := 3) rfl;have g4 := Xp.cell_blk hk1 (i := 4) rfl;have g5 := Xp.cell_blk hk1 (i := 5) rfl;rw [hT] at g0 g1 g2 g3 g4 g5;have hp := Hd (vplain_any q w1);have hT1 : Hid (T < w1.heap.size) := Hd (by rw [<- hT]; exact (Array.getElem?_eq_some_iff.1 hk1).1);have hbi1 : Hid (bi < w1.heap.size) := Hd (Nat.lt_of_lt_of_le hbi hb1.size);have hb1H := Hd hb1;clear hk1 hb1 hi hbi
 go_enter Tryz.func42, Tryz.ntmps42
 go_wp2_with fail;clear hw1 hT;refine hp.out.mono ?_;rintro e w2 ⟨rfl, hb2⟩;have d0 := (hb2.cell (p := ⟨bi, 0, none⟩) hbi1.out).trans c0;have d4 := (hb2.cell (p := ⟨T, 4, none⟩) hT1.out).trans g4;have hb := Hd (hb1H.out.trans (hb2.mono hb1H.out.size));clear hb2 c0 g0 g1 g2 g3 g4 g5 hp
 cases hk : (q.kind != 5) with
 | true =>
  have hkH := Hd hk;go_wp2_with fail;go_ret;exact ⟨by (try rw [hkH.out]); first | rfl | (simp; done), hb.out⟩
 | false =>
  have hkH := Hd hk;go_wp2_with fail;go_ret;exact ⟨by (try rw [hkH.out]); first | rfl | (simp; done), hb.out⟩
end Go.Proofs.YtdnfnkicmfkkmaaGreatDoor.Vw
end

section
namespace Go.Proofs.YtdnfnkicmfkkmaaGreatDoor.Vw
open Go.RowKit UtfW Xl Xt Xo No
open Go.Proofs.YtdnfnkicmfkkmaaGreatDoor (Ky.frontB Ky.Rl)
open Go.Proofs.YtdnfnkicmfkkmaaGreatDoor.Ky (Ts OwX tv join Rs)
theorem spanQ_succ {a k : Nat} (h : a <= k) (p : Nat -> Bool) : spanQ a (k + 1) p = spanQ a k p ++ (if p k then [k] else []) := by
 unfold spanQ;rw [show k + 1 - a = (k - a) + 1 by omega, List.range'_1_concat, List.filter_append, show a + (k - a) = k by omega]
 congr 1
 cases h : p k <;> simp [List.filter, h]
theorem spanQ_nil {a k : Nat} (h : k <= a) (p : Nat -> Bool) : spanQ a k p = [] := by
 unfold spanQ;rw [show k - a = 0 by omega];rfl
set_option maxHeartbeats 20000000 in
set_option maxRecDepth 100000 in
theorem span_any {t : List Q} (A : Option Addr) (n c : Nat) (w : World) (h : Sq QEl 6 w A n c t) (hn : n <= 1000000) (a b : Nat) (hbn : b <= n) (fn : FuncId) (cap : Array Value) (p : Nat -> Bool)
  (eF : ∀ args w, (callFunc fn args).run Tryz.prog w = .ok (.enter fn args) w)
  (hF : ∀ (k : Nat) (q : Q) (w1 : World), t[k]? = some q -> Below w.heap.size w w1 -> Calls Tryz.prog fn (#[.agg #[.int .i64 q.kind, .string (strOf q.name), .string (strOf q.text), .int .i64 q.parent, .int .i64 (q.fin : Nat), .string (strOf q.path)]] ++ cap) w1 fun e w2 => e = .returned (.bool (p k)) /\ Below w1.heap.size w1 w2) :
  Calls Tryz.prog 35 #[.slice A n c, .int .i64 (a : Nat), .int .i64 (b : Nat), .func (.func fn) #[] cap] w fun e w' => ∃ A' m c', e = .returned (.slice A' m c') /\ OwS IEl 1 w' w.heap.size 3 (.slice A' m c') (spanQ a b p) /\ Below w.heap.size w w' := by
 have hl := h.len;have l1 := h.le;have l2 := h.max;have h' := Hd h;have hFH := Hd hF;clear h hF
 go_enter Tryz.func35, Tryz.ntmps35
 go_wp2_with fail
 go_loopw [9, 10] (fun v vi wr => ∃ (k : Nat) (Ao : Option Addr) (m co : Nat), a <= k /\ (k <= b \/ k = a) /\ m <= k /\ vi = .int .i64 (k : Nat) /\ v = .slice Ao m co /\ Hid ((spanQ a k p).length = m) /\ Hid (OwS IEl 1 wr w.heap.size 3 (.slice Ao m co) (spanQ a k p)) /\ Hid (Below w.heap.size w wr)) (fun _ vi _ => b - (intOf vi).toNat)
 case atStart => exact ⟨a, none, 0, 0, by omega, .inr rfl, by omega, rfl, rfl, Hd (by rw [spanQ_nil (Nat.le_refl _)]; rfl), Hd (by rw [spanQ_nil (Nat.le_refl _)]; exact OwS.nil _ _ _), Hd (Below.refl _ _)⟩
 case round =>
  obtain ⟨k, Ao, m, co, hak, hkb, hmk, rfl, rfl, hm, how, hb⟩ := hrel
  by_cases hlt : k < b
  ·have i1 : decide ((k : Int) < (b : Int)) = true := by rw [decide_eq_true_eq]; omega
   have i2 : decide (k < b) = true := by rw [decide_eq_true_eq]; omega
   have i3 : (k : Int) < (b : Int) := by omega
   have hkn : k < n := by omega
   have i4 : (k : Int) < (n : Int) := by omega
   obtain ⟨b0, o0, rfl⟩ := q_adr h'.out (by omega);obtain ⟨q, hq, g0, g1, g2, g3, g4, g5⟩ := q_row (h'.out.below QEl.to hb.out) hkn;have hcall := Hd (hFH.out k q wr hq hb.out);have hpt := Hd (spanQ_succ hak p);clear hq
   cases hin : p k with
   | false =>
    rw [hin] at hcall;have hnext : Hid (spanQ a (k + 1) p = spanQ a k p) := Hd (by rw [hpt.out, hin]; simp);clear hin hpt;go_wp2_with fail;refine hcall.out.mono ?_;rintro e w4 ⟨rfl, hb4⟩;have hb4H := Hd (hb.out.trans (hb4.mono hb.out.size));have how4 : Hid (OwS IEl 1 w4 w.heap.size 3 (.slice Ao m co) (spanQ a (k + 1) p)) := Hd (by rw [hnext.out]; exact how.out.below hb4 IEl.to);have hm4 : Hid ((spanQ a (k + 1) p).length = m) := Hd (by rw [hnext.out]; exact hm.out);clear hb4 hcall g0 g1 g2 g3 g4 g5;go_wp2_with fail;go_roundw
    case rel => exact ⟨k + 1, Ao, m, co, by omega, .inl (by omega), by omega, by go_num, rfl, hm4, how4, hb4H⟩
    case measure => simp [intOf]; omega
   | true =>
    rw [hin] at hcall;have hnext : Hid (spanQ a (k + 1) p = spanQ a k p ++ [k]) := Hd (by rw [hpt.out, hin]; simp);clear hin hpt;go_wp2_with fail;refine hcall.out.mono ?_;rintro e w4 ⟨rfl, hb4⟩;have hb4H := Hd (hb.out.trans (hb4.mono hb.out.size));have how4 := how.out.below hb4 IEl.to;have hbl4 := below_alloc w4 (.cells #[.int .i64 (k : Nat)] 3);have hlit := Hd (ows_lit (El := IEl) (k := 1) w4 [.int .i64 (k : Nat)] k 3 rfl (by decide) rfl);have how5 := Hd (how4.below hbl4 IEl.to);have hb5 := Hd (hb4H.out.trans (hbl4.mono hb4H.out.size));clear hb4 how4 hbl4 hcall g0 g1 g2 g3 g4 g5
    go_wp2_with (at_builtin; apply stop_here)
    refine Stop.go (append_sq (El := IEl) (k := 1) _ 37 3 (.int .i64 0) 8 Tryz.underlying37 info_i rfl (by omega) rfl _ _ rfl w.heap.size (.slice Ao m co) (spanQ a k p) rfl how5.out _ 1 1 [k] rfl (hlit.out.sq' (by omega)) IEl.one (fun _ _ => IEl.to) (m + 1) (by rw [hm.out]) (by omega) (by omega) hb5.out.size ?_);intro A8 c8 x8 ho8 hg8 hb8 hv8;have hb9 := Hd (hb5.out.trans hb8);have ho9 : Hid (OwS IEl 1 x8 w.heap.size 3 (.slice A8 (m + 1) c8) (spanQ a (k + 1) p)) := Hd (by rw [hnext.out]; exact ho8);have hm9 : Hid ((spanQ a (k + 1) p).length = m + 1) := Hd (by rw [hnext.out, List.length_append, hm.out]; rfl);clear ho8 hg8 hb8 hv8;go_wp2_with fail;go_roundw
    case rel => exact ⟨k + 1, A8, m + 1, c8, by omega, .inl (by omega), by omega, by go_num, rfl, hm9, ho9, hb9⟩
    case measure => simp [intOf]; omega
  ·have i1 : decide ((k : Int) < (b : Int)) = false := by rw [decide_eq_false_iff_not]; omega
   have i2 : decide (k < b) = false := by rw [decide_eq_false_iff_not]; omega
   have he : Hid (spanQ a k p = spanQ a b p) := Hd (by
    rcases Nat.eq_or_lt_of_le (show b <= k by omega) with e | e
    ·rw [e]
    ·rw [spanQ_nil (show k <= a by omega), spanQ_nil (show b <= a by omega)])
   go_wp2_with fail;go_ret;exact ⟨_, _, _, rfl, by rw [<- he.out]; exact how.out, hb.out⟩
end Go.Proofs.YtdnfnkicmfkkmaaGreatDoor.Vw
end

section
namespace Go.Proofs.YtdnfnkicmfkkmaaGreatDoor.Vw
open Go.RowKit UtfW Xl Xt Xo No
open Go.Proofs.YtdnfnkicmfkkmaaGreatDoor (Ky.frontB Ky.Rl)
open Go.Proofs.YtdnfnkicmfkkmaaGreatDoor.Ky (Ts OwX tv join Rs)
theorem anc_len (t : List Q) (i : Nat) : (ancL t i).length <= i := by
 unfold ancL;rw [List.length_reverse];refine Nat.le_trans (List.length_filter_le _ _) ?_;simp
def AncR (t : List Q) (n : Nat) (i : Nat) (done : List Nat) (P : Int) : Prop := (P = -1 /\ done = ancL t i) \/ ∃ k : Nat, k < n /\ P = (k : Int) /\ done ++ k :: ancL t k = ancL t i
theorem AncR.start {t : List Q} (hT : Tab t) {n i : Nat} (hn : t.length = n) (hi : i < n) : AncR t n i [] (parAt t i) := by
 rcases Nat.eq_zero_or_pos i with rfl | h0
 ·exact .inl ⟨hT.root.1, (hT.anc_end (by omega) (by rw [hT.root.1]; omega)).symm⟩
 ·obtain ⟨j, e, e1, _⟩ := hT.up i h0 (by omega);exact .inr ⟨j, by omega, e, (hT.anc_step (by omega) e).symm⟩
theorem AncR.step {t : List Q} (hT : Tab t) {n i k : Nat} {done : List Nat} (hn : t.length = n) (hk : k < n) (h : done ++ k :: ancL t k = ancL t i) : AncR t n i (done ++ [k]) (parAt t k) := by
 rcases Nat.eq_zero_or_pos k with rfl | h0
 ·exact .inl ⟨hT.root.1, by rw [<- h, hT.anc_end (i := 0) (by omega) (by rw [hT.root.1]; omega)]⟩
 ·obtain ⟨j, e, e1, _⟩ := hT.up k h0 (by omega);exact .inr ⟨j, by omega, e, by rw [<- h, hT.anc_step (i := k) (by omega) e]; simp⟩
set_option maxHeartbeats 20000000 in
set_option maxRecDepth 100000 in
theorem anc_any {t : List Q} (hT : Tab t) (A : Option Addr) (n c : Nat) (w : World) (h : Sq QEl 6 w A n c t) (hn : n <= 1000000) (i : Nat) (hi : i < n) :
  Calls Tryz.prog 39 #[.slice A n c, .int .i64 (i : Nat)] w fun e w' => ∃ A' m c', e = .returned (.slice A' m c') /\ OwS IEl 1 w' w.heap.size 3 (.slice A' m c') (ancL t i) /\ Below w.heap.size w w' := by
 have hl := h.len;have l1 := h.le;have l2 := h.max;obtain ⟨b0, o0, rfl⟩ := q_adr h (by omega);have h' := Hd h;have hlH := Hd hl;have hTH := Hd hT;obtain ⟨q, hq, m0, m1, m2, m3, m4, m5⟩ := q_row h hi;have hst : Hid (AncR t n i [] q.parent) := Hd (by rw [<- (at_some hq).2.1]; exact AncR.start hT hl hi);obtain ⟨P0, hP0⟩ : ∃ P, q.parent = P := ⟨_, rfl⟩;rw [hP0] at m3 hst;have e3 : (i : Int) < (n : Int) := by omega
 have hal := Hd (anc_len t i);clear h hl hT m0 m1 m2 m4 m5 hq hP0
 go_enter Tryz.func39, Tryz.ntmps39
 go_wp2_with fail
 go_loopw [5, 6] (fun v vi wr => ∃ (done : List Nat) (Ao : Option Addr) (m co : Nat) (P : Int), vi = .int .i64 P /\ v = .slice Ao m co /\ Hid (done.length = m) /\ Hid (AncR t n i done P) /\ Hid (OwS IEl 1 wr w.heap.size 3 (.slice Ao m co) done) /\ Hid (Below w.heap.size w wr)) (fun _ vi _ => (intOf vi + 1).toNat)
 case atStart => exact ⟨[], none, 0, 0, P0, rfl, rfl, Hd rfl, hst, Hd (OwS.nil _ _ _), Hd (Below.refl _ _)⟩
 case round =>
  obtain ⟨done, Ao, m, co, P, rfl, rfl, hm, hr, how, hb⟩ := hrel;rcases hr.out with ⟨rfl, hdn⟩ | ⟨k, hk, rfl, hdn⟩
  ·have hdnH := Hd hdn;clear hr hdn;go_wp2_with fail;go_ret;exact ⟨_, _, _, rfl, by rw [<- hdnH.out]; exact how.out, hb.out⟩
  ·have hnx := Hd (AncR.step hTH.out hlH.out hk hdn)
   have hmb : m + 1 <= 1000000 := by
    have h1 := congrArg List.length hdn;have h2 := hal.out;have h3 := hm.out;simp at h1;omega
   clear hr hdn;have e1 : decide ((0 : Int) <= (k : Int)) = true := by rw [decide_eq_true_eq]; omega
   have e4 : (k : Int) < (n : Int) := by omega
   have hbl := below_alloc wr (.cells #[.int .i64 (k : Nat)] 3);have hlit := Hd (ows_lit (El := IEl) (k := 1) wr [.int .i64 (k : Nat)] k 3 rfl (by decide) rfl);have how5 := Hd (how.out.below hbl IEl.to);have hb5 := Hd (hb.out.trans (hbl.mono hb.out.size));clear hbl
   go_wp2_with (at_builtin; apply stop_here)
   refine Stop.go (append_sq (El := IEl) (k := 1) _ 37 3 (.int .i64 0) 8 Tryz.underlying37 info_i rfl (by omega) rfl _ _ rfl w.heap.size (.slice Ao m co) done rfl how5.out _ 1 1 [k] rfl (hlit.out.sq' (by omega)) IEl.one (fun _ _ => IEl.to) (m + 1) (by rw [hm.out]) (by omega) (by omega) hb5.out.size ?_);intro A8 c8 x8 ho8 hg8 hb8 hv8;have hb9 := Hd (hb5.out.trans hb8);have ho9 := Hd ho8;have hm9 : Hid ((done ++ [k]).length = m + 1) := Hd (by rw [List.length_append, hm.out]; rfl);clear ho8 hg8 hb8 hv8;obtain ⟨q, hq, m0, m1, m2, m3, m4, m5⟩ := q_row (h'.out.below QEl.to hb9.out) hk;have hpq : parAt t k = q.parent := (at_some hq).2.1
   have hlt9 : Hid (q.parent < (k : Int)) := Hd (by
    rw [<- hpq];rcases Nat.eq_zero_or_pos k with rfl | h0
    ·rw [hTH.out.root.1]; omega
    ·obtain ⟨j, e, e1, _⟩ := hTH.out.up k h0 (by rw [hlH.out]; exact hk)
     rw [e]; omega)
   rw [hpq] at hnx;clear hq hpq m0 m1 m2 m4 m5;go_wp2_with fail;go_roundw
   case rel => exact ⟨done ++ [k], A8, m + 1, c8, q.parent, rfl, rfl, hm9, hnx, ho9, hb9⟩
   case measure => have := hlt9.out; simp [intOf]; omega
end Go.Proofs.YtdnfnkicmfkkmaaGreatDoor.Vw
end

section
namespace Go.Proofs
open Go.Shelf Go.RowKit
shelf_lay Lays.n112 Nm 112 at Tryz as Tryz.lays112
end Go.Proofs
namespace Go.Proofs.YtdnfnkicmfkkmaaGreatDoor.Vw
open Go.RowKit UtfW Xl Xt Xo No
open Go.Proofs.YtdnfnkicmfkkmaaGreatDoor (Ky.frontB Ky.Rl)
open Go.Proofs.YtdnfnkicmfkkmaaGreatDoor.Ky (Ts OwX tv join Rs)
def iv (x : Nat) : Value := .int .i64 (x : Nat)
theorem reads_i {w : World} {xs : List Value} {l : List Nat} (h : Reads IEl 1 w xs l) : xs = l.map iv := by
 obtain ⟨V, rfl, h1, h2, h3⟩ := h
 have hV : V = l.map fun x => [iv x] := by
  apply List.ext_getElem (by simpa using h1);intro j hj hj2;rw [List.getElem_map];exact h3 j V[j] (l[j]'(by simpa using hj2)) (List.getElem?_eq_getElem hj) (List.getElem?_eq_getElem (by simpa using hj2))
 rw [hV];clear h1 h2 h3 hV
 induction l with
 | nil => rfl
 | cons x l ih => simp [ih]
theorem i_reads (w : World) (l : List Nat) : Reads IEl 1 w (l.map iv) l := by
 refine ⟨l.map fun x => [iv x], ?_, by simp, fun v hv => ?_, fun i vs x hi hx => ?_⟩
 ·induction l with
  | nil => rfl
  | cons x l ih => simpa using ih
 ·obtain ⟨x, _, rfl⟩ := List.mem_map.1 hv;rfl
 ·rw [List.getElem?_map, hx] at hi;simp at hi;rw [<- hi];rfl
def zi (l : List Nat) : List Int := l.map Int.ofNat
theorem ows_rev {w : World} {B E : Nat} {A : Option Addr} {m c : Nat} {l : List Nat} (h : OwS IEl 1 w B E (.slice A m c) l) (hB : B <= w.heap.size) : (m = 0 /\ l = []) \/ ∃ g, A = some ⟨g, 0, none⟩ /\ l.length = m /\ Go.Sort.Holds (Value.int .i64) w g 0 (zi l).toArray ∧
  ∀ n, OwS IEl 1 (Go.Sort.putRow (Value.int .i64) (Go.Sort.ahead w n) g 0 (zi l).reverse.toArray) B E (.slice A m c) l.reverse /\ Below B w (Go.Sort.putRow (Value.int .i64) (Go.Sort.ahead w n) g 0 (zi l).reverse.toArray) := by
 obtain ⟨xs, h1, h2⟩ := h;obtain rfl := reads_i h2;obtain ⟨e1, e2⟩ := h1;rcases e2 with ⟨hv, hx⟩ | ⟨g, cap, cur, hv, hg, hb, hn, hcap, hsz, htk⟩
 ·injection hv with _ hm _;exact .inl ⟨hm, List.eq_nil_of_length_eq_zero hx⟩
 ·injection hv with hv1 hv2 hv3;subst hv1 hv2 hv3;have hzl : (zi l).length = l.length := List.length_map _;refine .inr ⟨g, rfl, rfl, fun j hj => ⟨?_, frozen_of_row w g _ _ _ hb⟩, fun n => ⟨?_, ?_⟩⟩
  ·have hjl : j < l.length := by simpa [hzl] using hj
   have h5 : (cur.toList.take (l.length * 1))[j]? = some (iv l[j]) := by rw [htk, List.getElem?_map, List.getElem?_eq_getElem hjl]; rfl
   rw [Nat.mul_one, List.getElem?_take_of_lt hjl, Array.getElem?_toList] at h5;simp only [World.cell?, hb, Nat.zero_add];rw [h5];simp [iv, zi, hjl]
  ·have h6 := ownsRow_sortedI (n := n) (os := #[]) (ss := zi l) (ts := (zi l).reverse) (by simp) hg hb (by rw [hzl]; exact hn) hcap hsz;rw [Go.Sort.grow_empty, hzl, show (zi l).reverse.map (Value.int .i64) = l.reverse.map iv by simp [zi, iv]] at h6;refine ⟨_, ?_, i_reads _ _⟩;rw [List.length_reverse];exact h6
  ·have h7 := grownBy_sortedI (w := w) (g := g) (n := n) (os := #[]) (zi l).reverse.toArray;rw [Go.Sort.grow_empty] at h7;exact (Below.refl B w).grown h7 hB (fun k hk => by injection hk with hk; omega)
set_option maxHeartbeats 2000000 in
set_option maxRecDepth 100000 in
theorem back_any {B : Nat} {A : Option Addr} {m c : Nat} {l : List Nat} (w : World) (h : OwS IEl 1 w B 3 (.slice A m c) l) (hB : B <= w.heap.size) (hm : m <= 1000000) :
  Calls Tryz.prog 41 #[.slice A m c] w fun e w' => e = .returned (.slice A m c) /\ OwS IEl 1 w' B 3 (.slice A m c) l.reverse /\ Below B w w' := by
 rcases ows_rev h hB with ⟨rfl, rfl⟩ | ⟨g, rfl, rfl, hH, hr⟩
 ·have hcall := Hd (Any.slices_Reverse_int_empty Tryz.lays112 A c w);have hH := Hd h;clear h
  go_enter Tryz.func41, Tryz.ntmps41
  go_wp2_with fail;refine hcall.out.mono ?_;rintro e w' ⟨rfl, rfl⟩;go_wp2_with fail;go_ret;exact ⟨rfl, hH.out, Below.refl _ _⟩
 ·have hc := Any.slices_Reverse_int Tryz.lays112 g 0 c (zi l) w hH (by rw [show (zi l).length = l.length from List.length_map _]; omega);rw [show (zi l).length = l.length from List.length_map _] at hc;have hcall := Hd hc;have hrH := Hd hr;clear h hH hc hr
  go_enter Tryz.func41, Tryz.ntmps41
  go_wp2_with fail;refine hcall.out.mono ?_;rintro e w' ⟨rfl, n, rfl⟩;go_wp2_with fail;go_ret;exact ⟨rfl, (hrH.out n).1, (hrH.out n).2⟩
end Go.Proofs.YtdnfnkicmfkkmaaGreatDoor.Vw
end

section
namespace Go.Proofs.YtdnfnkicmfkkmaaGreatDoor.Vw
open Go.RowKit UtfW Xl Xt Xo No
open Go.Proofs.YtdnfnkicmfkkmaaGreatDoor (Ky.frontB Ky.Rl)
open Go.Proofs.YtdnfnkicmfkkmaaGreatDoor.Ky (Ts OwX tv join Rs)
set_option maxHeartbeats 20000000 in
set_option maxRecDepth 100000 in
theorem sib1_any {t : List Q} (q : Q) (A : Option Addr) (n c : Nat) (w : World) (h : Sq QEl 6 w A n c t) (i : Nat) (hi : i < n) (bt bi : Nat) (ht : w.cell? ⟨bt, 0, none⟩ = some (.slice A n c)) (hi0 : w.cell? ⟨bi, 0, none⟩ = some (.int .i64 (i : Nat))) (hbt : bt < w.heap.size) (hbi : bi < w.heap.size) :
    Calls Tryz.prog 67 #[.agg #[.int .i64 q.kind, .string (strOf q.name), .string (strOf q.text), .int .i64 q.parent, .int .i64 (q.fin : Nat), .string (strOf q.path)], .pointer (some ⟨bt, 0, none⟩), .pointer (some ⟨bi, 0, none⟩)] w fun e w' => e = .returned (.bool ((q.kind != 5) && (q.parent == parAt t i))) /\ Below w.heap.size w w' := by
  have hl := h.len;have l1 := h.le;have l2 := h.max;obtain ⟨b0, o0, rfl⟩ := q_adr h (by omega);have hb0l : b0 < w.heap.size := h.lt _ rfl (by omega);have hb1 := below_alloc w (.cells #[.int .i64 q.kind, .string (strOf q.name), .string (strOf q.text), .int .i64 q.parent, .int .i64 (q.fin : Nat), .string (strOf q.path)] 41);have hk1 := heap_alloc_new w (.cells #[.int .i64 q.kind, .string (strOf q.name), .string (strOf q.text), .int .i64 q.parent, .int .i64 (q.fin : Nat), .string (strOf q.path)] 41);have hbd : Below w.heap.size w (w.alloc (.cells #[.int .i64 q.kind, .string (strOf q.name), .string (strOf q.text), .int .i64 q.parent, .int .i64 (q.fin : Nat), .string (strOf q.path)] 41)).drew := hb1.trans ((Joins.below_draws w.heap.size _ 1));obtain ⟨r, hr, u0, u1, u2, u3, u4, u5⟩ := q_row (h.below QEl.to hbd) hi;have hpr : parAt t i = r.parent := (at_some hr).2.1;rw [hpr];have c0 := (hbd.cell (p := ⟨bt, 0, none⟩) hbt).trans ht;have c1 := (hbd.cell (p := ⟨bi, 0, none⟩) hbi).trans hi0
  have hlT : w.heap.size < (w.alloc (.cells #[.int .i64 q.kind, .string (strOf q.name), .string (strOf q.text), .int .i64 q.parent, .int .i64 (q.fin : Nat), .string (strOf q.path)] 41)).drew.heap.size := by
    have h1 : (w.alloc (.cells #[.int .i64 q.kind, .string (strOf q.name), .string (strOf q.text), .int .i64 q.parent, .int .i64 (q.fin : Nat), .string (strOf q.path)] 41)).heap.size = w.heap.size + 1 := World.size_alloc _ _;have h2 := (Joins.below_draws w.heap.size (w.alloc (.cells #[.int .i64 q.kind, .string (strOf q.name), .string (strOf q.text), .int .i64 q.parent, .int .i64 (q.fin : Nat), .string (strOf q.path)] 41)) 1).size;exact Nat.lt_of_lt_of_le (by omega) h2
  obtain ⟨T, hT⟩ : ∃ T, w.heap.size = T := ⟨_, rfl⟩;obtain ⟨w1, hw1⟩ : ∃ w1, w.alloc (.cells #[.int .i64 q.kind, .string (strOf q.name), .string (strOf q.text), .int .i64 q.parent, .int .i64 (q.fin : Nat), .string (strOf q.path)] 41) = w1 := ⟨_, rfl⟩;rw [hw1] at hbd hk1 c0 c1 u3 hlT;rw [hT] at hk1 hlT;have g0 := Xp.cell_blk hk1 (i := 0) rfl;have g1 := Xp.cell_blk hk1 (i := 1) rfl;have g2 := Xp.cell_blk hk1 (i := 2) rfl;have g3 := Xp.cell_blk hk1 (i := 3) rfl;have g4 := Xp.cell_blk hk1 (i := 4) rfl;have g5 := Xp.cell_blk hk1 (i := 5) rfl;have hp := Hd (vplain_any q w1.drew);have hbdH := Hd hbd;have hlTH := Hd hlT;have hS2 : Hid (∀ x, Below w1.drew.heap.size w1.drew x -> (x.cell? ⟨T, 0, none⟩ = some (.int .i64 q.kind) /\ x.cell? ⟨T, 1, none⟩ = some (.string (strOf q.name)) /\ x.cell? ⟨T, 2, none⟩ = some (.string (strOf q.text)) /\ x.cell? ⟨T, 3, none⟩ = some (.int .i64 q.parent) /\ x.cell? ⟨T, 4, none⟩ = some (.int .i64 (q.fin : Nat)) /\ x.cell? ⟨T, 5, none⟩ = some (.string (strOf q.path)) /\ x.cell? ⟨bt, 0, none⟩ = some (.slice (some ⟨b0, o0, none⟩) n c) /\ x.cell? ⟨bi, 0, none⟩ = some (.int .i64 (i : Nat)) /\ x.cell? ⟨b0, o0 + i * 6 + 3, none⟩ = some (.int .i64 r.parent))) := Hd fun x hb => ⟨(hb.cell (p := ⟨T, 0, none⟩) hlT).trans g0, (hb.cell (p := ⟨T, 1, none⟩) hlT).trans g1, (hb.cell (p := ⟨T, 2, none⟩) hlT).trans g2, (hb.cell (p := ⟨T, 3, none⟩) hlT).trans g3, (hb.cell (p := ⟨T, 4, none⟩) hlT).trans g4, (hb.cell (p := ⟨T, 5, none⟩) hlT).trans g5, (hb.cell (p := ⟨bt, 0, none⟩) (Nat.lt_of_lt_of_le hbt hbd.size)).trans c0, (hb.cell (p := ⟨bi, 0, none⟩) (Nat.lt_of_lt_of_le hbi hbd.size)).trans c1, (hb.cell (p := ⟨b0, o0 + i * 6 + 3, none⟩) (Nat.lt_of_lt_of_le hb0l hbd.size)).trans u3⟩
  have e3 : (i : Int) < (n : Int) := by omega
  clear hb1 hk1 hbd h hr ht hi0 hbt hbi hb0l u0 u1 u2 u3 u4 u5 c0 c1 hlT hpr hl
  cases hk : (q.kind != 5) with
  | true =>
    rw [hk] at hp;have hkH := Hd hk;clear hk
    go_enter Tryz.func67, Tryz.ntmps67
    go_wp2_with fail;clear hw1 hT;refine Pl.wp_region_plan 10 (.take 0 (.run 1 (.take 2 (.take 3 (.take 4 (.take 5 (.take 6 (.take 7 (.take 8 (.take 9 .done)))))))))) (fun x => x.cell? ⟨T, 0, none⟩ = some (.int .i64 q.kind) /\ x.cell? ⟨T, 1, none⟩ = some (.string (strOf q.name)) /\ x.cell? ⟨T, 2, none⟩ = some (.string (strOf q.text)) /\ x.cell? ⟨T, 3, none⟩ = some (.int .i64 q.parent) /\ x.cell? ⟨T, 4, none⟩ = some (.int .i64 (q.fin : Nat)) /\ x.cell? ⟨T, 5, none⟩ = some (.string (strOf q.path)) /\ x.cell? ⟨bt, 0, none⟩ = some (.slice (some ⟨b0, o0, none⟩) n c) /\ x.cell? ⟨bi, 0, none⟩ = some (.int .i64 (i : Nat)) /\ x.cell? ⟨b0, o0 + i * 6 + 3, none⟩ = some (.int .i64 r.parent)) (by kernel_rfl) (by kernel_rfl) (by exact hS2.out _ (Below.refl _ _)) ?_;simp only [Pl.fill, Al_4, Al_5, Al_6, Al_7]
    iterate 1
      first
      | (refine Pl.take_go ?_ (by rfl) (fun _ _ _ h => h) ?_ ?_
         rotate_left
         · (intro x hSw; (try (dsimp only at hSw)); go_simp; try with_reducible rfl)
         (try simp only [Act.put, Al_1, Al_2, Al_3]))
      | (refine Pl.take_skip (by rfl) (fun _ _ _ h => h) ?_
         (try simp only [Act.put, Al_1, Al_2, Al_3]))
    refine Pl.run_go (fun K hK => ?_);go_simp;refine hp.out.mono ?_;rintro e w2 ⟨rfl, hb2⟩;have hb := Hd (hbdH.out.trans (hb2.mono hbdH.out.size));have hs2 := hS2.out w2 hb2;clear hb2 hp;dsimp only;refine hK.out _ _ (Pl.more_go (fun x => x.cell? ⟨T, 0, none⟩ = some (.int .i64 q.kind) /\ x.cell? ⟨T, 1, none⟩ = some (.string (strOf q.name)) /\ x.cell? ⟨T, 2, none⟩ = some (.string (strOf q.text)) /\ x.cell? ⟨T, 3, none⟩ = some (.int .i64 q.parent) /\ x.cell? ⟨T, 4, none⟩ = some (.int .i64 (q.fin : Nat)) /\ x.cell? ⟨T, 5, none⟩ = some (.string (strOf q.path)) /\ x.cell? ⟨bt, 0, none⟩ = some (.slice (some ⟨b0, o0, none⟩) n c) /\ x.cell? ⟨bi, 0, none⟩ = some (.int .i64 (i : Nat)) /\ x.cell? ⟨b0, o0 + i * 6 + 3, none⟩ = some (.int .i64 r.parent)) (fun _ h => h) (by exact hs2) ?_);clear hK K
    try simp only [Act.put, Al_1, Al_2, Al_3]
    iterate 8
      first
      | (refine Pl.take_go ?_ (by rfl) (fun _ _ _ h => h) ?_ ?_
         rotate_left
         · (intro x hSw; (try (dsimp only at hSw)); go_simp; try with_reducible rfl)
         (try simp only [Act.put, Al_1, Al_2, Al_3]))
      | (refine Pl.take_skip (by rfl) (fun _ _ _ h => h) ?_
         (try simp only [Act.put, Al_1, Al_2, Al_3]))
    refine Pl.done_go ?_;go_wp2_with fail;go_ret;exact ⟨by (try rw [hkH.out]); first | rfl | (simp; done), hb.out⟩
  | false =>
    rw [hk] at hp;have hkH := Hd hk;clear hk
    go_enter Tryz.func67, Tryz.ntmps67
    go_wp2_with fail;clear hw1 hT;refine Pl.wp_region_plan 10 (.take 0 (.run 1 (.take 2 (.take 3 (.take 4 (.take 5 (.take 6 (.take 7 (.take 8 (.take 9 .done)))))))))) (fun x => x.cell? ⟨T, 0, none⟩ = some (.int .i64 q.kind) /\ x.cell? ⟨T, 1, none⟩ = some (.string (strOf q.name)) /\ x.cell? ⟨T, 2, none⟩ = some (.string (strOf q.text)) /\ x.cell? ⟨T, 3, none⟩ = some (.int .i64 q.parent) /\ x.cell? ⟨T, 4, none⟩ = some (.int .i64 (q.fin : Nat)) /\ x.cell? ⟨T, 5, none⟩ = some (.string (strOf q.path)) /\ x.cell? ⟨bt, 0, none⟩ = some (.slice (some ⟨b0, o0, none⟩) n c) /\ x.cell? ⟨bi, 0, none⟩ = some (.int .i64 (i : Nat)) /\ x.cell? ⟨b0, o0 + i * 6 + 3, none⟩ = some (.int .i64 r.parent)) (by kernel_rfl) (by kernel_rfl) (by exact hS2.out _ (Below.refl _ _)) ?_;simp only [Pl.fill, Al_4, Al_5, Al_6, Al_7]
    iterate 1
      first
      | (refine Pl.take_go ?_ (by rfl) (fun _ _ _ h => h) ?_ ?_
         rotate_left
         · (intro x hSw; (try (dsimp only at hSw)); go_simp; try with_reducible rfl)
         (try simp only [Act.put, Al_1, Al_2, Al_3]))
      | (refine Pl.take_skip (by rfl) (fun _ _ _ h => h) ?_
         (try simp only [Act.put, Al_1, Al_2, Al_3]))
    refine Pl.run_go (fun K hK => ?_);go_simp;refine hp.out.mono ?_;rintro e w2 ⟨rfl, hb2⟩;have hb := Hd (hbdH.out.trans (hb2.mono hbdH.out.size));have hs2 := hS2.out w2 hb2;clear hb2 hp;dsimp only;refine hK.out _ _ (Pl.more_go (fun x => x.cell? ⟨T, 0, none⟩ = some (.int .i64 q.kind) /\ x.cell? ⟨T, 1, none⟩ = some (.string (strOf q.name)) /\ x.cell? ⟨T, 2, none⟩ = some (.string (strOf q.text)) /\ x.cell? ⟨T, 3, none⟩ = some (.int .i64 q.parent) /\ x.cell? ⟨T, 4, none⟩ = some (.int .i64 (q.fin : Nat)) /\ x.cell? ⟨T, 5, none⟩ = some (.string (strOf q.path)) /\ x.cell? ⟨bt, 0, none⟩ = some (.slice (some ⟨b0, o0, none⟩) n c) /\ x.cell? ⟨bi, 0, none⟩ = some (.int .i64 (i : Nat)) /\ x.cell? ⟨b0, o0 + i * 6 + 3, none⟩ = some (.int .i64 r.parent)) (fun _ h => h) (by exact hs2) ?_);clear hK K
    try simp only [Act.put, Al_1, Al_2, Al_3]
    iterate 8
      first
      | (refine Pl.take_go ?_ (by rfl) (fun _ _ _ h => h) ?_ ?_
         rotate_left
         · (intro x hSw; (try (dsimp only at hSw)); go_simp; try with_reducible rfl)
         (try simp only [Act.put, Al_1, Al_2, Al_3]))
      | (refine Pl.take_skip (by rfl) (fun _ _ _ h => h) ?_
         (try simp only [Act.put, Al_1, Al_2, Al_3]))
    refine Pl.done_go ?_;go_wp2_with fail;go_ret;exact ⟨by (try rw [hkH.out]); first | rfl | (simp; done), hb.out⟩
end Go.Proofs.YtdnfnkicmfkkmaaGreatDoor.Vw
end

section
namespace Go.Proofs.YtdnfnkicmfkkmaaGreatDoor.Vw
open Go.RowKit UtfW Xl Xt Xo No
open Go.Proofs.YtdnfnkicmfkkmaaGreatDoor (Ky.frontB Ky.Rl)
open Go.Proofs.YtdnfnkicmfkkmaaGreatDoor.Ky (Ts OwX tv join Rs)
set_option maxHeartbeats 20000000 in
set_option maxRecDepth 100000 in
theorem sib_any {t : List Q} (A : Option Addr) (n c : Nat) (w : World) (h : Sq QEl 6 w A n c t) (hn : n <= 1000000) (i : Nat) (hi : i < n) (a b : Nat) (hbn : b <= n) :
  Calls Tryz.prog 40 #[.slice A n c, .int .i64 (i : Nat), .int .i64 (a : Nat), .int .i64 (b : Nat)] w fun e w' => ∃ A' m c', e = .returned (.slice A' m c') /\ OwS IEl 1 w' w.heap.size 3 (.slice A' m c') (sibP t i a b) /\ Below w.heap.size w w' := by
 have hl := h.len;have l1 := h.le;have l2 := h.max;obtain ⟨b0, o0, rfl⟩ := q_adr h (by omega);have hb1 := below_alloc w (.cells #[.slice (some ⟨b0, o0, none⟩) n c] 30);have hk1 := heap_alloc_new w (.cells #[.slice (some ⟨b0, o0, none⟩) n c] 30);obtain ⟨T, hT⟩ : ∃ T, w.heap.size = T := ⟨_, rfl⟩;obtain ⟨w1, hw1⟩ : ∃ w1, w.alloc (.cells #[.slice (some ⟨b0, o0, none⟩) n c] 30) = w1 := ⟨_, rfl⟩;rw [hw1] at hb1 hk1;rw [hT] at hk1;have hT1 : T < w1.heap.size := (Array.getElem?_eq_some_iff.1 hk1).1;have hb2 := below_alloc w1 (.cells #[.int .i64 (i : Nat)] 3);have hk2 := heap_alloc_new w1 (.cells #[.int .i64 (i : Nat)] 3);obtain ⟨U, hU⟩ : ∃ T, w1.heap.size = T := ⟨_, rfl⟩;obtain ⟨w2, hw2⟩ : ∃ w2, w1.alloc (.cells #[.int .i64 (i : Nat)] 3) = w2 := ⟨_, rfl⟩;rw [hw2] at hb2 hk2;rw [hU] at hk2;have hU2 : U < w2.heap.size := (Array.getElem?_eq_some_iff.1 hk2).1;have hT2 : T < w2.heap.size := Nat.lt_of_lt_of_le hT1 hb2.size;have g1 := (hb2.cell (p := ⟨T, 0, none⟩) hT1).trans (Xp.cell_blk hk1 (i := 0) rfl);have g2 := Xp.cell_blk hk2 (i := 0) rfl;have hb12 := hb1.trans (hb2.mono hb1.size);have h2 := h.below QEl.to hb12;obtain ⟨q, hq, u0, u1, u2, u3, u4, u5⟩ := q_row h2 hi;have hat := at_some hq;have e3 : (i : Int) < (n : Int) := by omega
 have hspan := Hd (span_any _ n c w2 h2 hn a b hbn 67 #[.pointer (some ⟨T, 0, none⟩), .pointer (some ⟨U, 0, none⟩)] (fun k => plainQ t k && decide (parAt t k = parAt t i)) (fun args w => by kernel_rfl) (fun k x w3 hx hb3 => by
  have hxk := at_some hx
  have e : (plainQ t k && decide (parAt t k = parAt t i)) = ((x.kind != 5) && (x.parent == parAt t i)) := by
   unfold plainQ;rw [hxk.1, hxk.2.1]
   congr 1
   ·rw [Bool.eq_iff_iff, decide_eq_true_eq, bne_iff_ne]
  rw [e]
  exact sib1_any x _ n c w3 (h2.below QEl.to hb3) i hi T U ((hb3.cell (p := ⟨T, 0, none⟩) hT2).trans g1) ((hb3.cell (p := ⟨U, 0, none⟩) hU2).trans g2) (Nat.lt_of_lt_of_le hT2 hb3.size) (Nat.lt_of_lt_of_le hU2 hb3.size)))
 have hb12H := Hd hb12;have hatH := Hd hat;clear h h2 hb1 hb2 hk1 hk2 hb12 hT1 hU2 hT2 hq hat u1 u2 u4 u5 hl
 by_cases hk5 : q.kind = 5
 ·have hz : Hid (sibP t i a b = []) := Hd (by unfold sibP; rw [if_pos (.inl (by rw [hatH.out.1]; exact hk5))]);have k5 : (q.kind == 5) = true := by rw [beq_iff_eq]; exact hk5
  clear hk5 hspan
  go_enter Tryz.func40, Tryz.ntmps40
  go_wp2_with fail;go_ret;exact ⟨_, _, _, rfl, by rw [hz.out]; exact OwS.nil _ _ _, hb12H.out⟩
 have k5 : (q.kind == 5) = false := by rw [beq_eq_false_iff_ne]; exact hk5
 by_cases hp0 : q.parent < 0
 ·have hz : Hid (sibP t i a b = []) := Hd (by unfold sibP; rw [if_pos (.inr (by rw [hatH.out.2.1]; exact hp0))]);have k6 : decide (q.parent < 0) = true := decide_eq_true hp0;clear hk5 hspan hp0
  go_enter Tryz.func40, Tryz.ntmps40
  go_wp2_with fail;go_ret;exact ⟨_, _, _, rfl, by rw [hz.out]; exact OwS.nil _ _ _, hb12H.out⟩
 have k6 : decide (q.parent < 0) = false := decide_eq_false hp0;have hz : Hid (sibP t i a b = spanQ a b fun k => plainQ t k && decide (parAt t k = parAt t i)) := Hd (by unfold sibP; rw [if_neg (by rw [hatH.out.1, hatH.out.2.1]; exact fun h => h.elim hk5 hp0)]);clear hk5 hp0
 go_enter Tryz.func40, Tryz.ntmps40
 go_wp2_with fail;refine hspan.out.mono ?_;rintro e w3 ⟨A', m, c', rfl, ho, hb⟩;have hoH := Hd ho;have hbH := Hd hb;clear ho hb hspan;go_wp2_with fail;go_ret;exact ⟨_, _, _, rfl, by rw [hz.out]; exact hoH.out.down hb12H.out.size, hb12H.out.trans (hbH.out.mono hb12H.out.size)⟩
end Go.Proofs.YtdnfnkicmfkkmaaGreatDoor.Vw
end

section
namespace Go.Proofs.YtdnfnkicmfkkmaaGreatDoor.Vw
open Go.RowKit UtfW Xl Xt Xo No
open Go.Proofs.YtdnfnkicmfkkmaaGreatDoor (Ky.frontB Ky.Rl Ky.join Ky.okb Ky.ok_ne Ky.names)
/-! ### Steps are told apart -/
def Tail (s : Tx) : Prop := s = [] \/ ∃ u, s = 47 :: u
theorem cut_same {P : UInt8 -> Prop} : ∀ {x y s r : Tx}, (∀ b ∈ x, ¬ P b) -> (∀ b ∈ y, ¬ P b) -> (∀ b, s.head? = some b -> P b) -> (∀ b, r.head? = some b -> P b) -> x ++ s = y ++ r -> x = y /\ s = r
 | [], [], s, r, _, _, _, _, e => ⟨rfl, e⟩
 | [], b :: y, s, r, _, hy, hs, _, e => by
  exfalso;simp only [List.nil_append, List.cons_append] at e;exact hy b (by simp) (hs b (by rw [e]; rfl))
 | a :: x, [], s, r, hx, _, _, hr, e => by
  exfalso;simp only [List.nil_append, List.cons_append] at e;exact hx a (by simp) (hr a (by rw [<- e]; rfl))
 | a :: x, b :: y, s, r, hx, hy, hs, hr, e => by
  simp only [List.cons_append, List.cons.injEq] at e;obtain ⟨h1, h2⟩ := cut_same (fun c hc => hx c (by simp [hc])) (fun c hc => hy c (by simp [hc])) hs hr e.2;exact ⟨by rw [e.1, h1], h2⟩
theorem Tail.head {s : Tx} (h : Tail s) : ∀ b, s.head? = some b -> b = 47 := by
 rcases h with rfl | ⟨u, rfl⟩
 ·intro b hb; simp at hb
 ·intro b hb; simpa using hb.symm
theorem tail_same {x y s r : Tx} (hx : 47 ∉ x) (hy : 47 ∉ y) (hs : Tail s) (hr : Tail r) (e : x ++ s = y ++ r) : x = y /\ s = r :=
 cut_same (P := fun b => b = 47) (fun b hb he => hx (he ▸ hb)) (fun b hb he => hy (he ▸ hb)) hs.head hr.head e
def endB (b : UInt8) : Prop := b = 44 \/ b = 125
theorem esc1_ways (c : UInt8) : (esc1 c = [92, c] /\ (c = 92 \/ c = 123 \/ c = 125 \/ c = 44 \/ c = 47)) \/ (esc1 c = [c] /\ c ≠ 92 /\ c ≠ 123 /\ c ≠ 125 /\ c ≠ 44 /\ c ≠ 47) := by
 unfold esc1
 split
 ·rename_i h; exact .inl ⟨rfl, h⟩
 ·rename_i h
  simp only [not_or] at h;exact .inr ⟨rfl, h⟩
theorem escV_same : ∀ {a b r s : Tx}, (∃ c r', r = c :: r' /\ endB c) -> (∃ c s', s = c :: s' /\ endB c) -> escV a ++ r = escV b ++ s -> a = b /\ r = s
 | [], [], r, s, _, _, e => ⟨rfl, e⟩
 | [], d :: b, r, s, hr, _, e => by
  exfalso;obtain ⟨c, r', rfl, hc⟩ := hr;simp only [escV, List.flatMap_nil, List.flatMap_cons, List.nil_append, List.append_assoc] at e;rcases esc1_ways d with ⟨h, _⟩ | ⟨h, h1, h2, h3, h4, h5⟩
  ·rw [h] at e;simp only [List.cons_append, List.cons.injEq] at e;rw [e.1] at hc;rcases hc with hc | hc <;> simp at hc
  ·rw [h] at e;simp only [List.cons_append, List.cons.injEq] at e;rw [e.1] at hc;rcases hc with hc | hc
   ·exact h4 hc
   ·exact h3 hc
 | d :: a, [], r, s, hr, hs, e => by
  exfalso;obtain ⟨c, s', rfl, hc⟩ := hs;simp only [escV, List.flatMap_nil, List.flatMap_cons, List.nil_append, List.append_assoc] at e;rcases esc1_ways d with ⟨h, _⟩ | ⟨h, h1, h2, h3, h4, h5⟩
  ·rw [h] at e;simp only [List.cons_append, List.cons.injEq] at e;rw [<- e.1] at hc;rcases hc with hc | hc <;> simp at hc
  ·rw [h] at e;simp only [List.cons_append, List.cons.injEq] at e;rw [<- e.1] at hc;rcases hc with hc | hc
   ·exact h4 hc
   ·exact h3 hc
 | c :: a, d :: b, r, s, hr, hs, e => by
  have e2 : esc1 c ++ (escV a ++ r) = esc1 d ++ (escV b ++ s) := by
   simpa only [escV, List.flatMap_cons, List.append_assoc] using e
  have hcd : c = d /\ escV a ++ r = escV b ++ s := by
   rcases esc1_ways c with ⟨h, hc⟩ | ⟨h, h1, h2, h3, h4, h5⟩ <;> rcases esc1_ways d with ⟨g, hd⟩ | ⟨g, g1, g2, g3, g4, g5⟩ <;> rw [h, g] at e2 <;> simp only [List.cons_append, List.nil_append, List.cons.injEq] at e2
   ·exact e2.2
   ·exact absurd e2.1.symm g1
   ·exact absurd e2.1 h1
   ·exact e2
  obtain ⟨rfl, h2⟩ := hcd;obtain ⟨rfl, h3⟩ := escV_same hr hs h2;exact ⟨rfl, h3⟩
theorem joinV_same : ∀ {l m : List Tx} {r s : Tx}, l ≠ [] -> m ≠ [] -> Ky.join [44] (l.map escV) ++ 125 :: r = Ky.join [44] (m.map escV) ++ 125 :: s -> l = m /\ r = s
 | [], _, _, _, h, _, _ => absurd rfl h
 | _, [], _, _, _, h, _ => absurd rfl h
 | [a], [b], r, s, _, _, e => by
  obtain ⟨rfl, h⟩ := escV_same ⟨125, r, rfl, .inr rfl⟩ ⟨125, s, rfl, .inr rfl⟩ (by simpa [Ky.join] using e);exact ⟨rfl, by simpa using h⟩
 | [a], b :: b2 :: m, r, s, _, _, e => by
  exfalso;obtain ⟨_, h⟩ := escV_same (r := 125 :: r) (s := 44 :: (Ky.join [44] ((b2 :: m).map escV) ++ 125 :: s)) ⟨125, r, rfl, .inr rfl⟩ ⟨44, _, rfl, .inl rfl⟩ (by simpa [Ky.join] using e);simp at h
 | a :: a2 :: l, [b], r, s, _, _, e => by
  exfalso;obtain ⟨_, h⟩ := escV_same (r := 44 :: (Ky.join [44] ((a2 :: l).map escV) ++ 125 :: r)) (s := 125 :: s) ⟨44, _, rfl, .inl rfl⟩ ⟨125, s, rfl, .inr rfl⟩ (by simpa [Ky.join] using e);simp at h
 | a :: a2 :: l, b :: b2 :: m, r, s, _, _, e => by
  obtain ⟨rfl, h⟩ := escV_same (r := 44 :: (Ky.join [44] ((a2 :: l).map escV) ++ 125 :: r)) (s := 44 :: (Ky.join [44] ((b2 :: m).map escV) ++ 125 :: s)) ⟨44, _, rfl, .inl rfl⟩ ⟨44, _, rfl, .inl rfl⟩ (by simpa [Ky.join] using e);obtain ⟨h2, h3⟩ := joinV_same (l := a2 :: l) (m := b2 :: m) (by simp) (by simp) (by simpa using h);exact ⟨by rw [h2], h3⟩
def Nam (x : Tx) : Prop := x ≠ [] /\ ∀ b ∈ x, b ≠ 47 /\ b ≠ 123 /\ b ≠ 35 /\ b ≠ 64
theorem nam_of {x : Tx} (h : nameR x = true) : Nam x := by
 obtain ⟨h1, h2⟩ := Ky.names x h
 exact ⟨h1, fun b hb => by
  obtain ⟨g1, g2, _, _, _, g6, g7, _⟩ := Ky.ok_ne (h2 b hb)
  exact ⟨g1, g2, g6, g7⟩⟩
theorem endS_same {a b : Stp} {s r : Tx} (ha : Nam a.1) (hb : Nam b.1) (hs : Tail s) (hr : Tail r) (e : endS a ++ s = endS b ++ r) : a = b /\ s = r := by
 obtain ⟨n, k⟩ := a;obtain ⟨m, j⟩ := b
 have hx : ∃ x, endS (n, k) ++ s = n ++ x /\ (k = [] -> x = s) /\ (k ≠ [] -> x = 123 :: (Ky.join [44] (k.map escV) ++ 125 :: s)) := by
  unfold endS
  by_cases hk : k = []
  ·exact ⟨s, by simp [hk], fun _ => rfl, fun h => absurd hk h⟩
  ·exact ⟨_, by simp [hk], fun h => absurd h hk, fun _ => rfl⟩
 have hy : ∃ x, endS (m, j) ++ r = m ++ x /\ (j = [] -> x = r) /\ (j ≠ [] -> x = 123 :: (Ky.join [44] (j.map escV) ++ 125 :: r)) := by
  unfold endS
  by_cases hk : j = []
  ·exact ⟨r, by simp [hk], fun _ => rfl, fun h => absurd hk h⟩
  ·exact ⟨_, by simp [hk], fun h => absurd h hk, fun _ => rfl⟩
 obtain ⟨x, ex, x1, x2⟩ := hx;obtain ⟨y, ey, y1, y2⟩ := hy;rw [ex, ey] at e
 have hhx : ∀ c, x.head? = some c -> c = 47 \/ c = 123 := fun c hc => by
  by_cases hk : k = []
  ·rw [x1 hk] at hc; exact .inl (hs.head c hc)
  ·rw [x2 hk] at hc; right; simpa using hc.symm
 have hhy : ∀ c, y.head? = some c -> c = 47 \/ c = 123 := fun c hc => by
  by_cases hk : j = []
  ·rw [y1 hk] at hc; exact .inl (hr.head c hc)
  ·rw [y2 hk] at hc; right; simpa using hc.symm
 obtain ⟨rfl, rfl⟩ := cut_same (P := fun c => c = 47 \/ c = 123) (fun c hc h => by have := ha.2 c hc; rcases h with h | h <;> simp [h] at this) (fun c hc h => by have := hb.2 c hc; rcases h with h | h <;> simp [h] at this) hhx hhy e
 by_cases hk : k = [] <;> by_cases hj : j = []
 ·subst hk hj;exact ⟨rfl, by rw [<- x1 rfl, y1 rfl]⟩
 ·exfalso;have e1 := x1 hk;rw [y2 hj] at e1;have := hs.head 123 (by rw [<- e1]; rfl);simp at this
 ·exfalso;have e1 := y1 hj;rw [x2 hk] at e1;have := hr.head 123 (by rw [<- e1]; rfl);simp at this
 ·have e1 := x2 hk;rw [y2 hj] at e1;obtain ⟨h1, h2⟩ := joinV_same hj hk (by simpa using e1);exact ⟨by rw [h1], h2.symm⟩
theorem dec_ne (n : Nat) : Lib.decDigits n ≠ [] := by
 rw [Lib.decDigits]
 split <;> simp
theorem dec_low : ∀ (n : Nat), ∀ b ∈ Lib.decDigits n, 48 <= b.toNat /\ b.toNat <= 57 := by
 intro n
 induction n using Nat.strongRecOn with
 | ind n ih =>
  intro b hb;rw [Lib.decDigits] at hb
  split at hb
  ·rename_i h
   obtain rfl : b = UInt8.ofNat (48 + n) := by simpa using hb
   rw [UInt8.toNat_ofNat'];omega
  ·rename_i h
   rcases List.mem_append.1 hb with hb | hb
   ·exact ih (n / 10) (by omega) b hb
   ·obtain rfl : b = UInt8.ofNat (48 + n % 10) := by simpa using hb
    rw [UInt8.toNat_ofNat'];omega
theorem dec_inj : ∀ {n m : Nat}, Lib.decDigits n = Lib.decDigits m -> n = m := by
 intro n
 induction n using Nat.strongRecOn with
 | ind n ih =>
  intro m e;rw [Lib.decDigits.eq_1 n, Lib.decDigits.eq_1 m] at e
  have hb : ∀ a b : Nat, a < 10 -> b < 10 -> UInt8.ofNat (48 + a) = UInt8.ofNat (48 + b) -> a = b := fun a b ha hb e => by
   have := congrArg UInt8.toNat e;rw [UInt8.toNat_ofNat', UInt8.toNat_ofNat'] at this;omega
  split at e <;> split at e
  ·exact hb _ _ (by omega) (by omega) (by simpa using e)
  ·exfalso;have := congrArg List.length e;simp only [List.length_append, List.length_cons, List.length_nil] at this;exact dec_ne (m / 10) (List.eq_nil_of_length_eq_zero (by omega))
  ·exfalso;have := congrArg List.length e;simp only [List.length_append, List.length_cons, List.length_nil] at this;exact dec_ne (n / 10) (List.eq_nil_of_length_eq_zero (by omega))
  ·obtain ⟨h1, h2⟩ := List.append_inj' e rfl;have := ih (n / 10) (by omega) h1;have := hb (n % 10) (m % 10) (by omega) (by omega) (by simpa using h2);omega
theorem dec_no (n : Nat) : 47 ∉ Lib.decDigits n := fun h => by
 have := dec_low n 47 h;simp at this
/-! ### Paths below a path -/
structure Pa (a p : Nat) (path : Tx) (rows : List Q) : Prop where
 up : ∀ (i : Nat) (x : Q), rows[i]? = some x -> (x.parent = p /\ ∃ u, u ≠ [] /\ x.path = path ++ 47 :: u) \/ ∃ (j : Nat) (y : Q), j < i /\ rows[j]? = some y /\ x.parent = ((a + j : Nat) : Int) /\ ∃ u, x.path = y.path ++ 47 :: u
theorem Pa.append {a p : Nat} {path : Tx} {r1 r2 : List Q} (h1 : Pa a p path r1) (h2 : Pa (a + r1.length) p path r2) : Pa a p path (r1 ++ r2) := by
 refine ⟨fun i x hi => ?_⟩;rcases Nat.lt_or_ge i r1.length with hl | hl
 ·rw [List.getElem?_append_left hl] at hi;rcases h1.up i x hi with h | ⟨j, y, hj, hy, e, hu⟩
  ·exact .inl h
  ·exact .inr ⟨j, y, hj, by rw [List.getElem?_append_left (by omega)]; exact hy, e, hu⟩
 ·rw [List.getElem?_append_right hl] at hi;rcases h2.up _ x hi with h | ⟨j, y, hj, hy, e, hu⟩
  ·exact .inl h
  ·refine .inr ⟨r1.length + j, y, by omega, ?_, by rw [e]; congr 1; omega, hu⟩;rw [List.getElem?_append_right (by omega), show r1.length + j - r1.length = j by omega];exact hy
theorem Pa.cons {a p : Nat} {path : Tx} {x : Q} {rows : List Q} (hx : x.parent = p) (u : Tx) (hu : u ≠ []) (hpath : x.path = path ++ 47 :: u) (h : Pa (a + 1) a x.path rows) : Pa a p path (x :: rows) := by
 refine ⟨fun i y hi => ?_⟩
 cases i with
 | zero => simp at hi; subst hi; exact .inl ⟨hx, u, hu, hpath⟩
 | succ i =>
  rw [List.getElem?_cons_succ] at hi;rcases h.up i y hi with ⟨e, v, _, hv⟩ | ⟨j, q, hj, hq, e, hv⟩
  ·exact .inr ⟨0, x, by omega, rfl, by rw [e]; simp, v, hv⟩
  ·exact .inr ⟨j + 1, q, by omega, by rw [List.getElem?_cons_succ]; exact hq, by rw [e]; congr 1; omega, hv⟩
def attrStep (a : At) : Tx := 64 :: a.1
theorem attr_path (p : Nat) (path : Tx) : ∀ (n : Nat) (l : List At) (q : Q), q ∈ attrRows p path n l -> ∃ a ∈ l, q.path = path ++ 47 :: attrStep a
 | _, [], q, h => by simp [attrRows] at h
 | n, a :: l, q, h => by
  unfold attrRows at h;rcases List.mem_cons.1 h with rfl | h
  ·exact ⟨a, by simp, rfl⟩
  ·obtain ⟨b, hb, e⟩ := attr_path p path (n + 1) l q h;exact ⟨b, by simp [hb], e⟩
theorem attr_Pa (p : Nat) (path : Tx) : ∀ (n : Nat) (l : List At), (∀ a ∈ l, Nam a.1) -> Pa n p path (attrRows p path n l)
 | _, [], _ => ⟨fun i x h => by simp [attrRows] at h⟩
 | n, a :: l, h => by
  unfold attrRows;have h1 : Pa n p path [(⟨5, a.1, a.2, p, n + 1, path ++ 47 :: 64 :: a.1⟩ : Q)] := Pa.cons rfl (64 :: a.1) (by simp) rfl ⟨fun i x h => by simp at h⟩;exact Pa.append (r1 := [(⟨5, a.1, a.2, p, n + 1, path ++ 47 :: 64 :: a.1⟩ : Q)]) h1 (attr_Pa p path (n + 1) l fun b hb => h b (by simp [hb]))
theorem attr_paths (p : Nat) (path : Tx) : ∀ (n : Nat) (l : List At), (attrRows p path n l).map (·.path) = l.map fun a => path ++ 47 :: attrStep a
 | _, [] => rfl
 | n, a :: l => by simp [attrRows, attr_paths p path (n + 1) l, attrStep]
def stepT (l : List Ky.Rl) (names : List Tx) (keyed : Bool) (i : Nat) (x : Nd) : Tx := if keyed then endS (stepK l names x) else 35 :: Lib.decDigits (i + 1)
def Told (l : List Ky.Rl) (names : List Tx) (keyed : Bool) (ks : List Nd) : Prop := keyed = true -> (∀ x ∈ ks, Nam x.name) /\ (ks.map (stepK l names)).Nodup
theorem endS_head {s : Stp} {c : UInt8} {r : Tx} (h : s.1 = c :: r) : ∃ z, endS s = c :: z := by
 unfold endS;rw [h]
 split
 ·exact ⟨r, rfl⟩
 ·exact ⟨_, by rw [List.cons_append, List.cons_append]⟩
theorem step_head {l : List Ky.Rl} {names : List Tx} {keyed : Bool} {i : Nat} {x : Nd} (h : keyed = true -> Nam x.name) : ∃ c r, stepT l names keyed i x = c :: r /\ c ≠ 64 := by
 unfold stepT
 cases keyed with
 | false => exact ⟨35, _, rfl, by decide⟩
 | true =>
  have hn := h rfl;rw [if_pos rfl]
  cases hx : x.name with
  | nil => exact absurd hx hn.1
  | cons c r =>
   have hc := (hn.2 c (by rw [hx]; simp)).2.2.2;obtain ⟨z, hz⟩ := endS_head (s := stepK l names x) (c := c) (r := r) hx;exact ⟨c, z, hz, hc⟩
theorem step_same {l : List Ky.Rl} {names : List Tx} {keyed : Bool} {i j : Nat} {x y : Nd} {s r : Tx} (hx : keyed = true -> Nam x.name /\ Nam y.name) (hs : Tail s) (hr : Tail r) (e : stepT l names keyed i x ++ s = stepT l names keyed j y ++ r) :
  (keyed = true -> stepK l names x = stepK l names y) /\ (keyed = false -> i = j) := by
 unfold stepT at e
 cases keyed with
 | true =>
  rw [if_pos rfl, if_pos rfl] at e;exact ⟨fun _ => (endS_same (hx rfl).1 (hx rfl).2 hs hr e).1, fun h => by simp at h⟩
 | false =>
  simp only [Bool.false_eq_true, if_false, List.cons_append, List.cons.injEq, true_and] at e;have h1 := (tail_same (dec_no _) (dec_no _) hs hr e).1;have := dec_inj h1;exact ⟨fun h => by simp at h, fun _ => by omega⟩
theorem nodup_append_of {α : Type} {a b : List α} (ha : a.Nodup) (hb : b.Nodup) (h : ∀ x ∈ a, x ∉ b) : (a ++ b).Nodup := by
 rw [List.nodup_append];exact ⟨ha, hb, fun x hx y hy e => h x hx (e ▸ hy)⟩
theorem tail_cons (s : Tx) : Tail (47 :: s) := .inr ⟨s, rfl⟩
mutual
theorem tabN_paths (l : List Ky.Rl) : ∀ (n : Nd) (names : List Tx) (a p : Nat) (path : Tx), fairN n = true -> (names ≠ [] -> nfN l names n) →
  ∃ x rest, tabN l names a p path n = x :: rest /\ x.parent = p /\ x.path = path /\ Pa (a + 1) a path rest /\ (∀ q ∈ rest, ∃ s, q.path = path ++ 47 :: s) /\ ((x :: rest).map (·.path)).Nodup
 | .mk k nm tx as_ ks, names, a, p, path, hf, hn => by
  have hfk := (fair_kids hf).2
  have has : (∀ b ∈ as_, Nam b.1) /\ (as_.map (·.1)).Nodup := by
   by_cases hk : k = 1
   ·have := (attrsOk_iff.1 (fair_el hf hk).2.2.1);exact ⟨fun b hb => nam_of (this.1 b hb).1, this.2⟩
   ·have : as_ = [] := by
     unfold fairN at hf;rw [if_neg hk] at hf
     split at hf
     ·simp only [Bool.and_eq_true, List.isEmpty_iff] at hf; exact hf.1.1.1.1
     ·split at hf
      ·simp only [Bool.and_eq_true, List.isEmpty_iff] at hf; exact hf.1.1.1.1.1
      ·split at hf
       ·simp only [Bool.and_eq_true, List.isEmpty_iff] at hf; exact hf.1.1.1.1.1.1
       ·simp at hf
    subst this;simp
  have ht : Told l names (decide (names ≠ []) && !Ky.frontB l names) ks /\ ((decide (names ≠ []) && !Ky.frontB l names) = true -> nfL l names ks) := by
   constructor
   ·intro hk;simp only [Bool.and_eq_true, decide_eq_true_eq, Bool.not_eq_true'] at hk;have h1 := hn hk.1;unfold nfN at h1;obtain ⟨h2, h3⟩ := h1.2 hk.2;refine ⟨fun x hx => ?_, h3⟩;have h4 := (nfL_iff.1 h2 x hx).2
    cases x with
    | mk k2 nm2 tx2 as2 ks2 =>
     unfold nfN at h4;exact nam_of (fair_el (hfk _ hx) h4.1).1
   ·intro hk;simp only [Bool.and_eq_true, decide_eq_true_eq, Bool.not_eq_true'] at hk;have h1 := hn hk.1;unfold nfN at h1;exact (h1.2 hk.2).1
  unfold tabN;obtain ⟨k1, k2, k3⟩ := tabL_paths l ks names (decide (names ≠ []) && !Ky.frontB l names) (a + 1 + as_.length) a path 0 hfk ht.1 ht.2;refine ⟨_, _, rfl, rfl, rfl, Pa.append (attr_Pa a path (a + 1) as_ has.1) (by rw [attrRows_len]; exact k1), fun q hq => ?_, ?_⟩
  ·rcases List.mem_append.1 hq with hq | hq
   ·obtain ⟨b, _, e⟩ := attr_path a path _ _ q hq;exact ⟨_, e⟩
   ·obtain ⟨i, x, s, _, _, e, _⟩ := k2 q hq;exact ⟨_, e⟩
  ·rw [List.map_cons, List.nodup_cons, List.map_append]
   have hne : ∀ s : Tx, path ≠ path ++ 47 :: s := fun s e => by
    have := congrArg List.length e;simp at this
   refine ⟨fun hm => ?_, nodup_append_of ?_ k3 fun z hz hz2 => ?_⟩
   ·rcases List.mem_append.1 hm with hm | hm
    ·obtain ⟨q, hq, e⟩ := List.mem_map.1 hm;obtain ⟨b, _, e2⟩ := attr_path a path _ _ q hq;exact hne _ (e.symm.trans e2)
    ·obtain ⟨q, hq, e⟩ := List.mem_map.1 hm;obtain ⟨i, x, s, _, _, e2, _⟩ := k2 q hq;exact hne _ (e.symm.trans e2)
   ·rw [attr_paths];have hmm : as_.map (fun b => path ++ 47 :: attrStep b) = (as_.map (·.1)).map fun b => path ++ 47 :: 64 :: b := by rw [List.map_map]; rfl
    rw [hmm];unfold List.Nodup;rw [List.pairwise_map];exact has.2.imp fun hne e => hne (by simpa using e)
   ·obtain ⟨q, hq, e⟩ := List.mem_map.1 hz;obtain ⟨b, hb, e2⟩ := attr_path a path _ _ q hq;obtain ⟨q2, hq2, e3⟩ := List.mem_map.1 hz2;obtain ⟨i, x, s, hx, hs, e4, _⟩ := k2 q2 hq2;obtain ⟨c, r, ec, hc⟩ := step_head (l := l) (names := names) (i := i) (x := x) fun hk => (ht.1 hk).1 x hx
    have e5 := e2.symm.trans (e.trans (e3.symm.trans e4));rw [ec] at e5;unfold attrStep at e5;simp only [List.cons_append, List.append_cancel_left_eq, List.cons.injEq, true_and] at e5;exact hc e5.1.symm
theorem tabL_paths (l : List Ky.Rl) : ∀ (ks : List Nd) (names : List Tx) (keyed : Bool) (a p : Nat) (path : Tx) (i : Nat), (∀ x ∈ ks, fairN x = true) -> Told l names keyed ks -> (keyed = true -> nfL l names ks) →
  Pa a p path (tabL l names keyed a p path i ks) /\ (∀ q ∈ tabL l names keyed a p path i ks, ∃ j x s, x ∈ ks /\ Tail s /\ q.path = path ++ 47 :: (stepT l names keyed j x ++ s) /\ i <= j) /\ ((tabL l names keyed a p path i ks).map (·.path)).Nodup
 | [], _, _, _, _, _, _, _, _, _ => by
  unfold tabL;exact ⟨⟨fun i x h => by simp at h⟩, fun q h => by simp at h, by simp⟩
 | x :: xs, names, keyed, a, p, path, i, hf, ht, hn => by
  unfold tabL;have hsn : (if keyed then endS (stepK l names x) else 35 :: Lib.decDigits (i + 1)) = stepT l names keyed i x := rfl;rw [hsn]
  obtain ⟨y, rest, e, e1, e2, e3, e4, e5⟩ := tabN_paths l x (if keyed then names ++ [x.name] else []) a p (path ++ 47 :: stepT l names keyed i x) (hf x (by simp)) (fun hne => by
   cases keyed with
   | false => simp at hne
   | true =>
    have := hn rfl;unfold nfL at this;rw [if_pos rfl]
    exact this.2.1)
  have ht2 : Told l names keyed xs := fun hk => ⟨fun z hz => (ht hk).1 z (by simp [hz]), by have := (ht hk).2; rw [List.map_cons, List.nodup_cons] at this; exact this.2⟩
  obtain ⟨k1, k2, k3⟩ := tabL_paths l xs names keyed (a + (tabN l (if keyed then names ++ [x.name] else []) a p (path ++ 47 :: stepT l names keyed i x) x).length) p path (i + 1) (fun z hz => hf z (by simp [hz])) ht2 (fun hk => by
   have := hn hk;unfold nfL at this
   exact this.2.2)
  have hst : stepT l names keyed i x ≠ [] := by
   obtain ⟨c, r, h, _⟩ := step_head (l := l) (names := names) (i := i) (x := x) fun hk => (ht hk).1 x (by simp)
   rw [h]; simp
  simp only at k1 k2 k3 ⊢;rw [e] at k1 k2 k3 ⊢
  have hfirst : ∀ q ∈ y :: rest, ∃ s, Tail s /\ q.path = path ++ 47 :: (stepT l names keyed i x ++ s) := fun q hq => by
   rcases List.mem_cons.1 hq with rfl | hq
   ·exact ⟨[], .inl rfl, by rw [e2, List.append_nil]⟩
   ·obtain ⟨s, hs⟩ := e4 q hq;exact ⟨47 :: s, tail_cons s, by rw [hs]; simp⟩
  refine ⟨Pa.append (Pa.cons e1 _ hst e2 (by rw [e2]; exact e3)) k1, fun q hq => ?_, ?_⟩
  ·rcases List.mem_append.1 hq with hq | hq
   ·obtain ⟨s, hs, e6⟩ := hfirst q hq;exact ⟨i, x, s, by simp, hs, e6, Nat.le_refl _⟩
   ·obtain ⟨j, z, s, hz, hs, e6, hj⟩ := k2 q hq;exact ⟨j, z, s, by simp [hz], hs, e6, by omega⟩
  ·rw [List.map_append];refine nodup_append_of e5 k3 fun z hz hz2 => ?_
   obtain ⟨q, hq, eq⟩ := List.mem_map.1 hz;obtain ⟨s, hs, e6⟩ := hfirst q hq;obtain ⟨q2, hq2, eq2⟩ := List.mem_map.1 hz2;obtain ⟨j, z2, s2, hz2', hs2, e7, hj⟩ := k2 q2 hq2;have e8 := e6.symm.trans (eq.trans (eq2.symm.trans e7));simp only [List.append_cancel_left_eq, List.cons.injEq, true_and] at e8;obtain ⟨w1, w2⟩ := step_same (fun hk => ⟨(ht hk).1 x (by simp), (ht hk).1 z2 (by simp [hz2'])⟩) hs hs2 e8
   cases hkk : keyed with
   | false => have := w2 hkk; omega
   | true =>
    have h1 := w1 hkk;have h2 := (ht hkk).2;rw [List.map_cons, List.nodup_cons] at h2;exact h2.1 (h1 ▸ List.mem_map_of_mem hz2')
end
def pathAt (t : List Q) (k : Nat) : Tx := match t[k]? with | some x => x.path | none => []
structure Paths (t : List Q) : Prop where
 one : ∀ i k, i < t.length -> k < i -> pathAt t i ≠ pathAt t k
 up : ∀ (i : Nat), 0 < i -> i < t.length -> ∃ (j : Nat) (u : Tx), parAt t i = (j : Int) /\ j < i /\ u ≠ [] /\ pathAt t i = pathAt t j ++ u
theorem tabD_paths (l : List Ky.Rl) (x : Nd) (hf : fairN x = true) (hk : x.kind = 1) (hn : nfN l [x.name] x) : Paths (tabD l x) /\ 1 < (tabD l x).length := by
 obtain ⟨y, rest, e, e1, e2, e3, e4, e5⟩ := tabN_paths l x [x.name] 1 0 (47 :: x.name) hf (fun _ => hn)
 have hnm : Nam x.name := by
  cases x with
  | mk k nm tx as_ ks => exact nam_of (fair_el hf hk).1
 unfold tabD;rw [e];refine ⟨⟨fun i k hi hki he => ?_, fun i h0 hi => ?_⟩, by simp⟩
 ·have hnd : (((⟨6, [], [], -1, (y :: rest).length + 1, [47]⟩ : Q) :: y :: rest).map (·.path)).Nodup := by
   rw [List.map_cons, List.nodup_cons];refine ⟨fun hm => ?_, e5⟩;obtain ⟨q, hq, eq⟩ := List.mem_map.1 hm;simp only at eq
   have hlen : 2 <= q.path.length := by
    have h2 : 0 < x.name.length := List.length_pos_iff.2 hnm.1;rcases List.mem_cons.1 hq with rfl | hq
    ·rw [e2]; simp; omega
    ·obtain ⟨s, hs⟩ := e4 q hq;rw [hs]; simp; omega
   rw [eq] at hlen;simp at hlen
  have hi' : i < (((⟨6, [], [], -1, (y :: rest).length + 1, [47]⟩ : Q) :: y :: rest).map (·.path)).length := by rw [List.length_map]; exact hi
  have hk' : k < (((⟨6, [], [], -1, (y :: rest).length + 1, [47]⟩ : Q) :: y :: rest).map (·.path)).length := by omega
  have hp : ∀ (t : List Q) (m : Nat) (h : m < (t.map (·.path)).length), (t.map (·.path))[m] = pathAt t m := fun t m h => by
   rw [List.length_map] at h;unfold pathAt;rw [List.getElem_map, List.getElem?_eq_getElem h]
  have := (List.getElem_inj (h₀ := hi') (h₁ := hk') hnd).1 (by rw [hp, hp]; exact he);omega
 ·obtain ⟨i, rfl⟩ : ∃ m, i = m + 1 := ⟨i - 1, by omega⟩
  have hpy : ∀ (k : Nat) (q : Q), rest[k]? = some q -> pathAt ((⟨6, [], [], -1, (y :: rest).length + 1, [47]⟩ : Q) :: y :: rest) (k + 2) = q.path /\ parAt ((⟨6, [], [], -1, (y :: rest).length + 1, [47]⟩ : Q) :: y :: rest) (k + 2) = q.parent := fun k q hq => by
   unfold pathAt parAt;rw [List.getElem?_cons_succ, List.getElem?_cons_succ, hq];exact ⟨rfl, rfl⟩
  cases i with
  | zero =>
   refine ⟨0, x.name, ?_, by omega, hnm.1, ?_⟩
   ·exact e1
   ·exact e2
  | succ i =>
   have hil : i < rest.length := by simpa using hi
   obtain ⟨q, hq⟩ : ∃ q, rest[i]? = some q := ⟨_, List.getElem?_eq_getElem hil⟩;rcases e3.up i q hq with ⟨f1, u, _, f2⟩ | ⟨j, q2, hj, hq2, f1, u, f2⟩
   ·refine ⟨1, 47 :: u, (hpy i q hq).2.trans f1, by omega, by simp, ?_⟩;rw [(hpy i q hq).1, f2]
    show _ = y.path ++ _
    rw [e2]
   ·refine ⟨j + 2, 47 :: u, by rw [(hpy i q hq).2, f1]; congr 1; omega, by omega, by simp, ?_⟩;rw [(hpy i q hq).1, f2, (hpy j q2 hq2).1]
end Go.Proofs.YtdnfnkicmfkkmaaGreatDoor.Vw
end

section
namespace Go.Proofs.YtdnfnkicmfkkmaaGreatDoor.Vw
open Go.RowKit UtfW Xl Xt Xo No
open Go.Proofs.YtdnfnkicmfkkmaaGreatDoor (Ky.frontB Ky.Rl)
theorem root_of {l : List Ky.Rl} {n x : Nd} (h : NormR l n = .ok x) : ∃ r l', l = r :: l' /\ r.1 = [x.name] /\ r.2 = [] := by
 unfold NormR at h
 split at h
 ·simp at h
 ·rename_i hm
  split at h
  ·simp at h
  ·rename_i hf
   simp only [not_or, Bool.not_eq_false, ne_eq, Decidable.not_not] at hf;have hm' : Ky.mayB nameR l = true := by simpa using hm
   split at h
   ·simp at h
   ·rename_i r l'
    split at h
    ·simp at h
    ·rename_i p ps hp
     split at h
     ·simp at h
     ·rename_i hne
      obtain ⟨n1, n2, n3, n4⟩ := normN_ok _ n _ 0 x hf.1 hf.2 h;have hnm : n.name = p := (by simpa using hne);unfold Ky.mayB at hm';simp only [Bool.and_eq_true] at hm';have h2 := hm'.2;unfold Ky.mayP at h2;simp only [Bool.and_eq_true] at h2;have h4 := h2.1.2
      have h1 : ps = [] := by
       unfold Ky.placedB at h4
       by_cases hl : r.1.length = 1
       ·rw [hp] at hl
        simpa using hl
       ·rw [if_neg hl] at h4;simp [Ky.hasB] at h4
      have h5 := h2.1.1;unfold Ky.ruleB at h5;simp only [Bool.and_eq_true] at h5;have h6 := of_decide_eq_true h5.1;refine ⟨r, l', rfl, by rw [hp, h1, n3, hnm], ?_⟩;rw [hp, h1] at h6;simp at h6;exact h6
structure NfD (l : List Ky.Rl) (x : Nd) : Prop where
 may : Ky.mayB nameR l = true
 wts : Ky.wts l < 3000
 fair : fairN x = true
 kind : x.kind = 1
 nf : nfN l [x.name] x
 root : ∃ r l', l = r :: l' /\ r.1 = [x.name] /\ r.2 = []
 w : wN x <= 1200
theorem NfD.of {l : List Ky.Rl} {n x : Nd} (h : NormR l n = .ok x) (hw : Ky.wts l < 3000) (hn : wN n <= 1200) : NfD l x :=
 have h1 := NormR_ok h
 ⟨h1.1, hw, h1.2.1, h1.2.2.1, h1.2.2.2, root_of h, Nat.le_trans (NormR_w h) hn⟩
section
variable {l : List Ky.Rl} {x : Nd} (h : NfD l x)
include h
theorem NfD.tab : Tab (tabD l x) := tabD_tab l x h.fair
theorem NfD.paths : Paths (tabD l x) /\ 1 < (tabD l x).length := tabD_paths l x h.fair h.kind h.nf
theorem NfD.len : (tabD l x).length <= 1201 := by
 have h1 := tabN_w l x [x.name] 1 0 (47 :: x.name);have h2 := h.w;unfold tabD;simp only [List.length_cons];omega
theorem NfD.txt : txS (tabD l x) <= 1200 := by
 have h1 := tabN_txS l x [x.name] 1 0 (47 :: x.name);have h2 := h.w;unfold tabD;rw [txS_cons];simp only [List.length_nil];omega
end
def axP (t : List Q) (axis : Tx) (i : Int) : List Nat := if i < 0 \/ (t.length : Int) <= i then [] else axisP t axis i.toNat
end Go.Proofs.YtdnfnkicmfkkmaaGreatDoor.Vw
end

section
namespace Go.Proofs.YtdnfnkicmfkkmaaGreatDoor.Vw
open Go.RowKit UtfW Xl Xt Xo No
open Go.Proofs.YtdnfnkicmfkkmaaGreatDoor (Ky.frontB Ky.Rl)
open Go.Proofs.YtdnfnkicmfkkmaaGreatDoor.Ky (Ts OwX tv join Rs)
theorem sq_none {α : Type} {El : World -> List Value -> α -> Prop} {k : Nat} (w : World) : Sq El k w none 0 0 [] := ⟨rfl, by omega, by omega, fun _ => ⟨rfl, rfl⟩, fun h => by omega⟩
theorem Sq.cut0 {w : World} {A : Option Addr} {c : Nat} {l : List Nat} (h : Sq IEl 1 w A 0 c l) : Sq IEl 1 w A 0 c [] := by
 have := List.eq_nil_of_length_eq_zero h.len
 rwa [this] at h
theorem Sq.cut1 {w : World} {A : Option Addr} {m c : Nat} {l : List Nat} (h : Sq IEl 1 w A m c l) (hm : 0 < m) : Sq IEl 1 w A 1 c (l.take 1) := by
 have h1 := Sq.cut h 0 1 (by omega) (by omega) A (fun b off e _ => by rw [e]; simp) (fun h => h)
 simpa using h1
theorem spanQ_len (a b : Nat) (p : Nat -> Bool) : (spanQ a b p).length <= b - a := by
 unfold spanQ;refine Nat.le_trans (List.length_filter_le _ _) ?_;simp
theorem sibP_len (t : List Q) (i a b : Nat) : (sibP t i a b).length <= b - a := by
 unfold sibP
 split
 ·simp
 ·exact spanQ_len _ _ _
theorem ho2len {w : World} {B E : Nat} {A : Option Addr} {m c : Nat} {l : List Nat} (h : OwS IEl 1 w B E (.slice A m c) l) (hl : l.length <= 1000000) : m <= 1000000 := by
 rw [<- (h.sq' (by decide)).len]; exact hl
set_option maxHeartbeats 2000000 in
set_option maxRecDepth 100000 in
theorem spanP_any {t : List Q} (A : Option Addr) (n c : Nat) (w : World) (h : Sq QEl 6 w A n c t) (hn : n <= 1000000) (a b : Nat) (hbn : b <= n) :
  Calls Tryz.prog 35 #[.slice A n c, .int .i64 (a : Nat), .int .i64 (b : Nat), .func (.func 37) #[] #[]] w fun e w' => ∃ A' m c', e = .returned (.slice A' m c') /\ OwS IEl 1 w' w.heap.size 3 (.slice A' m c') (spanQ a b (plainQ t)) /\ Below w.heap.size w w' :=
 span_any A n c w h hn a b hbn _ _ _ (fun args w => by kernel_rfl) fun k x w3 hx hb3 => by
  have hxk := at_some hx
  have e : plainQ t k = (x.kind != 5) := by
   unfold plainQ;rw [hxk.1, Bool.eq_iff_iff, decide_eq_true_eq, bne_iff_ne]
  rw [e];exact vplain_any x w3
set_option maxHeartbeats 20000000 in
set_option maxRecDepth 100000 in
theorem spanC_any {t : List Q} (A : Option Addr) (n c : Nat) (w : World) (h : Sq QEl 6 w A n c t) (hn : n <= 1000000) (i T : Nat) (hT : w.cell? ⟨T, 0, none⟩ = some (.int .i64 (i : Nat))) (hTl : T < w.heap.size) (a b : Nat) (hbn : b <= n) :
  Calls Tryz.prog 35 #[.slice A n c, .int .i64 (a : Nat), .int .i64 (b : Nat), .func (.func 36) #[] #[.pointer (some ⟨T, 0, none⟩)]] w fun e w' => ∃ A' m c', e = .returned (.slice A' m c') /\ OwS IEl 1 w' w.heap.size 3 (.slice A' m c') (spanQ a b fun k => plainQ t k && decide (parAt t k = i)) /\ Below w.heap.size w w' :=
 span_any A n c w h hn a b hbn _ _ _ (fun args w => by kernel_rfl) fun k x w3 hx hb3 => by
  have hxk := at_some hx
  have e : (plainQ t k && decide (parAt t k = i)) = ((x.kind != 5) && (x.parent == (i : Int))) := by
   unfold plainQ;rw [hxk.1, hxk.2.1]
   congr 1
   first | (rw [Bool.eq_iff_iff, decide_eq_true_eq, bne_iff_ne]; done) | (simp [bne]; done) | (simp [bne]; rfl)
  rw [e];exact axis1_any x w3 T i ((hb3.cell (p := ⟨T, 0, none⟩) hTl).trans hT) (Nat.lt_of_lt_of_le hTl hb3.size)
set_option maxHeartbeats 20000000 in
set_option maxRecDepth 100000 in
theorem spanA_any {t : List Q} (A : Option Addr) (n c : Nat) (w : World) (h : Sq QEl 6 w A n c t) (hn : n <= 1000000) (i T : Nat) (hT : w.cell? ⟨T, 0, none⟩ = some (.int .i64 (i : Nat))) (hTl : T < w.heap.size) (a b : Nat) (hbn : b <= n) :
  Calls Tryz.prog 35 #[.slice A n c, .int .i64 (a : Nat), .int .i64 (b : Nat), .func (.func 38) #[] #[.pointer (some ⟨T, 0, none⟩)]] w fun e w' => ∃ A' m c', e = .returned (.slice A' m c') /\ OwS IEl 1 w' w.heap.size 3 (.slice A' m c') (spanQ a b fun k => !plainQ t k && decide (parAt t k = i)) /\ Below w.heap.size w w' :=
 span_any A n c w h hn a b hbn _ _ _ (fun args w => by kernel_rfl) fun k x w3 hx hb3 => by
  have hxk := at_some hx
  have e : (!plainQ t k && decide (parAt t k = i)) = (!(x.kind != 5) && (x.parent == (i : Int))) := by
   unfold plainQ;rw [hxk.1, hxk.2.1]
   congr 1
   first | (rw [Bool.eq_iff_iff, decide_eq_true_eq, bne_iff_ne]; done) | (simp [bne]; done) | (simp [bne]; rfl)
  rw [e];exact axis2_any x w3 T i ((hb3.cell (p := ⟨T, 0, none⟩) hTl).trans hT) (Nat.lt_of_lt_of_le hTl hb3.size)
set_option maxHeartbeats 20000000 in
set_option maxRecDepth 100000 in
theorem spanB_any {t : List Q} (A : Option Addr) (n c : Nat) (w : World) (h : Sq QEl 6 w A n c t) (hn : n <= 1000000) (i T : Nat) (hT : w.cell? ⟨T, 0, none⟩ = some (.int .i64 (i : Nat))) (hTl : T < w.heap.size) (a b : Nat) (hbn : b <= n) :
  Calls Tryz.prog 35 #[.slice A n c, .int .i64 (a : Nat), .int .i64 (b : Nat), .func (.func 42) #[] #[.pointer (some ⟨T, 0, none⟩)]] w fun e w' => ∃ A' m c', e = .returned (.slice A' m c') /\ OwS IEl 1 w' w.heap.size 3 (.slice A' m c') (spanQ a b fun k => plainQ t k && decide (finAt t k <= i)) /\ Below w.heap.size w w' :=
 span_any A n c w h hn a b hbn _ _ _ (fun args w => by kernel_rfl) fun k x w3 hx hb3 => by
  have hxk := at_some hx
  have e : (plainQ t k && decide (finAt t k <= i)) = ((x.kind != 5) && decide (x.fin <= i)) := by
   unfold plainQ;rw [hxk.1, hxk.2.2.1]
   congr 1
   first | (rw [Bool.eq_iff_iff, decide_eq_true_eq, bne_iff_ne]; done) | (simp [bne]; done) | (simp [bne]; rfl)
  rw [e];exact axis3_any x w3 T i ((hb3.cell (p := ⟨T, 0, none⟩) hTl).trans hT) (Nat.lt_of_lt_of_le hTl hb3.size)
set_option maxHeartbeats 20000000 in
set_option maxRecDepth 100000 in
theorem paxis_any {t : List Q} (hT : Tab t) (A : Option Addr) (n c : Nat) (w : World) (h : Sq QEl 6 w A n c t) (axis : Tx) (i : Int) (hn0 : n <= 100000) :
    Calls Tryz.prog 17 #[.slice A n c, .string (strOf axis), .int .i64 i] w fun e w' => ∃ A' m c', e = .returned (.slice A' m c') /\ Sq IEl 1 w' A' m c' (axP t axis i) /\ Below w.heap.size w w' := by
  have hl := h.len;have l1 := h.le;have l2 := h.max;have hTH := Hd hT;have hlH := Hd hl;have h' := Hd h;have hn : n <= 1000000 := by omega
  clear hT h;obtain ⟨SA, hSA⟩ : ∃ S, strOf axis = S := ⟨_, rfl⟩;rw [hSA];have hSAH := Hd hSA;clear hSA;have hb1 := below_alloc w (.cells #[.int .i64 i] 3);have hk1 := heap_alloc_new w (.cells #[.int .i64 i] 3);obtain ⟨T, hT⟩ : ∃ T, w.heap.size = T := ⟨_, rfl⟩;obtain ⟨w1, hw1⟩ : ∃ w1, w.alloc (.cells #[.int .i64 i] 3) = w1 := ⟨_, rfl⟩;rw [hw1] at hb1 hk1;rw [hT] at hk1;have hT1 : T < w1.heap.size := (Array.getElem?_eq_some_iff.1 hk1).1;have g0 := Xp.cell_blk hk1 (i := 0) rfl;have hb1H := Hd hb1;have hk1H := Hd hk1;clear hb1 hk1
  by_cases hi0 : i < 0
  · have hv : Hid (axP t axis i = []) := Hd (by unfold axP; rw [if_pos (.inl hi0)])
    have e1 : decide (i < 0) = true := by rw [decide_eq_true_eq]; exact hi0
    clear hl hi0
    go_enter Tryz.func17, Tryz.ntmps17
    go_wp2_with fail;go_ret;exact ⟨_, _, _, rfl, by rw [hv.out]; exact sq_none _, hb1H.out⟩
  have e1 : decide (i < 0) = false := by rw [decide_eq_false_iff_not]; exact hi0
  by_cases hin : (n : Int) <= i
  · have hv : Hid (axP t axis i = []) := Hd (by unfold axP; rw [if_pos (.inr (by omega))])
    have e2 : decide ((n : Int) <= i) = true := by rw [decide_eq_true_eq]; exact hin
    clear hl hi0 hin
    go_enter Tryz.func17, Tryz.ntmps17
    go_wp2_with fail;go_ret;exact ⟨_, _, _, rfl, by rw [hv.out]; exact sq_none _, hb1H.out⟩
  have e2 : decide ((n : Int) <= i) = false := by rw [decide_eq_false_iff_not]; exact hin
  obtain ⟨i, rfl⟩ : ∃ m : Nat, i = (m : Int) := ⟨i.toNat, by omega⟩;have hi : i < n := by omega
  rw [show axP t axis i = axisP t axis i by unfold axP; rw [if_neg (by omega), Int.toNat_natCast]];have h1 := h'.out.below QEl.to hb1H.out;obtain ⟨b0, o0, rfl⟩ := q_adr h1 (by omega);obtain ⟨q, hq, u0, u1, u2, u3, u4, u5⟩ := q_row h1 hi;have hat := Hd (at_some hq);have hfq : Hid (finAt t i = q.fin) := Hd hat.out.2.2.1;have hfn : Hid (q.fin <= n) := Hd (by rw [<- hfq.out, <- hl]; exact hTH.out.fin_le (by omega));have hfnn : q.fin <= n := hfn.out;have hb2 := below_alloc w1 (.cells #[.int .i64 q.kind, .string (strOf q.name), .string (strOf q.text), .int .i64 q.parent, .int .i64 (q.fin : Nat), .string (strOf q.path)] 41);have hk2 := heap_alloc_new w1 (.cells #[.int .i64 q.kind, .string (strOf q.name), .string (strOf q.text), .int .i64 q.parent, .int .i64 (q.fin : Nat), .string (strOf q.path)] 41);obtain ⟨U, hU⟩ : ∃ T, w1.heap.size = T := ⟨_, rfl⟩;obtain ⟨w2, hw2⟩ : ∃ w2, w1.alloc (.cells #[.int .i64 q.kind, .string (strOf q.name), .string (strOf q.text), .int .i64 q.parent, .int .i64 (q.fin : Nat), .string (strOf q.path)] 41) = w2 := ⟨_, rfl⟩;rw [hw2] at hb2 hk2;rw [hU] at hk2;have g1 := (hb2.cell (p := ⟨T, 0, none⟩) hT1).trans g0;have g4 := Xp.cell_blk hk2 (i := 4) rfl;have hT2H : Hid (T < w2.heap.size) := Hd (Nat.lt_of_lt_of_le hT1 hb2.size);have hU2H : Hid (U < w2.heap.size) := Hd (Array.getElem?_eq_some_iff.1 hk2).1;have hb12H := Hd (hb1H.out.trans (hb2.mono hb1H.out.size));have h2H := Hd (h1.below QEl.to hb2);have e3 : (i : Int) < (n : Int) := by omega
  clear hb2 hk2 h1 hq hl hi0 hin h' hb1H hk1H hT1
  go_enter Tryz.func17, Tryz.ntmps17
  go_upto_region 4 with fail
  clear hw1 hw2 hT hU g0 u0 u1 u2 u3 u4 u5
  by_cases hax : axis = xSelf
  · have s0 : (SA.toList == [115, 101, 108, 102]) = true := by rw [<- hSAH.out, axq, show [115, 101, 108, 102] = xSelf from rfl, hax]; simp
    have hv : Hid (axisP t axis i = [i]) := Hd (by rw [hax]; unfold axisP; rw [if_pos rfl]);clear hax;have hbl := below_alloc w2 (.cells #[.int .i64 (i : Nat)] 3);have hlit := Hd (ows_lit (El := IEl) (k := 1) w2 [.int .i64 (i : Nat)] i 3 rfl (by decide) rfl);have hblH := Hd (hb12H.out.trans (hbl.mono hb12H.out.size));clear hbl;go_wp2_with fail;go_ret;exact ⟨_, _, _, rfl, by rw [hv.out]; exact hlit.out.sq' (by decide), hblH.out⟩
  have n0 := Hd hax;have s0 : (SA.toList == [115, 101, 108, 102]) = false := by rw [<- hSAH.out, axq, show [115, 101, 108, 102] = xSelf from rfl]; exact decide_eq_false n0.out
  clear hax
  by_cases hax : axis = xChild
  · have s1 : (SA.toList == [99, 104, 105, 108, 100]) = true := by rw [<- hSAH.out, axq, show [99, 104, 105, 108, 100] = xChild from rfl, hax]; simp
    have hv : Hid (axisP t axis i = spanQ (i + 1) (finAt t i) fun k => plainQ t k && decide (parAt t k = i)) := Hd (by rw [hax]; unfold axisP; rw [if_neg (by decide), if_pos rfl]);clear hax;have hc := Hd (spanC_any _ n c w2 h2H.out hn i T g1 hT2H.out (i + 1) q.fin hfn.out);rw [show ((i + 1 : Nat) : Int) = (i : Int) + 1 by omega] at hc;go_wp2_with fail;refine hc.out.mono ?_;rintro e w3 ⟨A', m, c', rfl, ho, hb⟩;have hoH := Hd ho;have hbH := Hd hb;clear ho hb hc;go_wp2_with fail;go_ret;exact ⟨_, _, _, rfl, by rw [hv.out, hfq.out]; exact hoH.out.sq' (by decide), hb12H.out.trans (hbH.out.mono hb12H.out.size)⟩
  have n1 := Hd hax;have s1 : (SA.toList == [99, 104, 105, 108, 100]) = false := by rw [<- hSAH.out, axq, show [99, 104, 105, 108, 100] = xChild from rfl]; exact decide_eq_false n1.out
  clear hax
  by_cases hax : axis = xAttr
  · have s2 : (SA.toList == [97, 116, 116, 114, 105, 98, 117, 116, 101]) = true := by rw [<- hSAH.out, axq, show [97, 116, 116, 114, 105, 98, 117, 116, 101] = xAttr from rfl, hax]; simp
    have hv : Hid (axisP t axis i = spanQ (i + 1) (finAt t i) fun k => !plainQ t k && decide (parAt t k = i)) := Hd (by rw [hax]; unfold axisP; rw [if_neg (by decide), if_neg (by decide), if_pos rfl]);clear hax;have hc := Hd (spanA_any _ n c w2 h2H.out hn i T g1 hT2H.out (i + 1) q.fin hfn.out);rw [show ((i + 1 : Nat) : Int) = (i : Int) + 1 by omega] at hc;go_wp2_with fail;refine hc.out.mono ?_;rintro e w3 ⟨A', m, c', rfl, ho, hb⟩;have hoH := Hd ho;have hbH := Hd hb;clear ho hb hc;go_wp2_with fail;go_ret;exact ⟨_, _, _, rfl, by rw [hv.out, hfq.out]; exact hoH.out.sq' (by decide), hb12H.out.trans (hbH.out.mono hb12H.out.size)⟩
  have n2 := Hd hax;have s2 : (SA.toList == [97, 116, 116, 114, 105, 98, 117, 116, 101]) = false := by rw [<- hSAH.out, axq, show [97, 116, 116, 114, 105, 98, 117, 116, 101] = xAttr from rfl]; exact decide_eq_false n2.out
  clear hax
  by_cases hax : axis = xParent
  · have s3 : (SA.toList == [112, 97, 114, 101, 110, 116]) = true := by rw [<- hSAH.out, axq, show [112, 97, 114, 101, 110, 116] = xParent from rfl, hax]; simp
    have hv : Hid (axisP t axis i = (ancL t i).take 1) := Hd (by rw [hax]; unfold axisP; rw [if_neg (by decide), if_neg (by decide), if_neg (by decide), if_pos rfl]);clear hax;have hba := Hd (Joins.below_draws w2.heap.size w2 1);have hc := Hd (anc_any hTH.out _ n c w2.drew (h2H.out.below QEl.to hba.out) hn i hi);have g1d : w2.drew.cell? ⟨T, 0, none⟩ = some (.int .i64 (i : Nat)) := g1
    go_upto_region 12 with fail
    refine Pl.wp_region_plan 5 (.take 0 (.take 1 (.take 3 (.take 4 (.run 2 .done))))) (fun x => x.cell? ⟨T, 0, none⟩ = some (.int .i64 (i : Nat))) (by kernel_rfl) (by kernel_rfl) (by exact g1d) ?_;simp only [Pl.fill, Al_4, Al_5, Al_6, Al_7]
    iterate 4
      first
      | (refine Pl.take_go ?_ (by rfl) (fun _ _ _ h => h) ?_ ?_
         rotate_left
         · (intro x hSw; (try (have hs1 := hSw)); go_simp; try with_reducible rfl)
         (try simp only [Act.put, Al_1, Al_2, Al_3]))
      | (refine Pl.take_skip (by rfl) (fun _ _ _ h => h) ?_
         (try simp only [Act.put, Al_1, Al_2, Al_3]))
    refine Pl.run_go (fun K hK => ?_);go_simp;refine hc.out.mono ?_;rintro e w3 ⟨A', m, c', rfl, ho, hb⟩;have hb3 := Hd (hba.out.trans (hb.mono hba.out.size));have hc2 := Hd (anc_any hTH.out _ n c w3 (h2H.out.below QEl.to hb3.out) hn i hi);have hoH := Hd ho;clear ho hb hc;dsimp only;refine hK.out _ _ (Pl.more_go (fun x => x.cell? ⟨T, 0, none⟩ = some (.int .i64 (i : Nat))) (fun _ h => h) (by exact (hb3.out.cell (p := ⟨T, 0, none⟩) hT2H.out).trans g1) ?_);clear hK K
    try simp only [Act.put, Al_1, Al_2, Al_3]
    refine Pl.done_go ?_;go_wp2_with fail;refine hc2.out.mono ?_;rintro e w4 ⟨A4, m4, c4, rfl, ho4, hb4⟩;have hb4H := Hd (hb3.out.trans (hb4.mono hb3.out.size));have hsq := ho4.sq' (by decide);have hs3 := (hoH.out.below hb4 IEl.to).sq' (by decide);obtain rfl : m4 = m := by rw [<- hsq.len, <- hs3.len]
    have hlen := hsq.len;have hle4 := hs3.le;have hmx4 := hs3.max;clear ho4 hsq hoH hc2 hb4;rcases Nat.eq_zero_or_pos m4 with h0 | h0
    · subst h0
      have hz : ancL t i = [] := List.eq_nil_of_length_eq_zero hlen;have hs4 := Hd hs3;have hvz : Hid (axisP t axis i = []) := Hd (by rw [hv.out, hz]; rfl);clear hs3 hz hlen;go_wp2_with fail;go_ret;exact ⟨_, _, _, rfl, by rw [hvz.out]; exact Sq.cut0 hs4.out, hb12H.out.trans (hb4H.out.mono hb12H.out.size)⟩
    · have hs4 := Hd hs3
      have i9 : decide ((m4 : Int) < 1) = false := by rw [decide_eq_false_iff_not]; omega
      have i8 : (1 : Int) <= (m4 : Int) := (by omega);clear hs3 hlen;go_wp2_with fail;go_ret;exact ⟨_, _, _, rfl, by rw [hv.out, show (min (1 : Int) (m4 : Int)).toNat = 1 by omega]; exact Sq.cut1 hs4.out h0, hb12H.out.trans (hb4H.out.mono hb12H.out.size)⟩
  have n3 := Hd hax;have s3 : (SA.toList == [112, 97, 114, 101, 110, 116]) = false := by rw [<- hSAH.out, axq, show [112, 97, 114, 101, 110, 116] = xParent from rfl]; exact decide_eq_false n3.out
  clear hax
  by_cases hax : axis = xAnc
  · have s4 : (SA.toList == [97, 110, 99, 101, 115, 116, 111, 114]) = true := by rw [<- hSAH.out, axq, show [97, 110, 99, 101, 115, 116, 111, 114] = xAnc from rfl, hax]; simp
    have hv : Hid (axisP t axis i = ancL t i) := Hd (by rw [hax]; unfold axisP; rw [if_neg (by decide), if_neg (by decide), if_neg (by decide), if_neg (by decide), if_pos rfl]);clear hax;have hc := Hd (anc_any hTH.out _ n c w2 h2H.out hn i hi);go_wp2_with fail;refine hc.out.mono ?_;rintro e w3 ⟨A', m, c', rfl, ho, hb⟩;have hoH := Hd ho;have hbH := Hd hb;clear ho hb hc;go_wp2_with fail;go_ret;exact ⟨_, _, _, rfl, by rw [hv.out]; exact hoH.out.sq' (by decide), hb12H.out.trans (hbH.out.mono hb12H.out.size)⟩
  have n4 := Hd hax;have s4 : (SA.toList == [97, 110, 99, 101, 115, 116, 111, 114]) = false := by rw [<- hSAH.out, axq, show [97, 110, 99, 101, 115, 116, 111, 114] = xAnc from rfl]; exact decide_eq_false n4.out
  clear hax
  by_cases hax : axis = xAncS
  · have s5 : (SA.toList == [97, 110, 99, 101, 115, 116, 111, 114, 45, 111, 114, 45, 115, 101, 108, 102]) = true := by rw [<- hSAH.out, axq, show [97, 110, 99, 101, 115, 116, 111, 114, 45, 111, 114, 45, 115, 101, 108, 102] = xAncS from rfl, hax]; simp
    have hv : Hid (axisP t axis i = i :: ancL t i) := Hd (by rw [hax]; unfold axisP; rw [if_neg (by decide), if_neg (by decide), if_neg (by decide), if_neg (by decide), if_neg (by decide), if_pos rfl]);clear hax;have hba : Below w2.heap.size w2 w2.drew := Joins.below_draws w2.heap.size w2 1;have g1d : w2.drew.cell? ⟨T, 0, none⟩ = some (.int .i64 (i : Nat)) := g1;have g4d : w2.drew.cell? ⟨U, 4, none⟩ = some (.int .i64 (q.fin : Nat)) := g4;have hmlH : Hid ((ancL t i).length <= 100000) := Hd (by have := anc_len t i; omega)
    go_upto_region 16 with fail
    refine Pl.wp_region_plan 5 (.take 0 (.take 2 (.take 3 (.two 1 (.run 4 .done) 4 (.run 1 .done))))) (fun x => x.cell? ⟨T, 0, none⟩ = some (.int .i64 (i : Nat))) (by kernel_rfl) (by kernel_rfl) (by exact g1d) ?_;simp only [Pl.fill, Al_4, Al_5, Al_6, Al_7]
    iterate 3
      first
      | (refine Pl.take_go ?_ (by rfl) (fun _ _ _ h => h) ?_ ?_
         rotate_left
         · (intro x hSw; (try (skip)); go_simp; try with_reducible rfl)
         (try simp only [Act.put, Al_1, Al_2, Al_3]))
      | (refine Pl.take_skip (by rfl) (fun _ _ _ h => h) ?_
         (try simp only [Act.put, Al_1, Al_2, Al_3]))
    refine Pl.two_go ?_ ?_
    · refine Pl.run_go (fun K hK => ?_)
      go_simp;have hx2 := hba.trans (below_alloc w2.drew (.cells #[.int .i64 (i : Nat)] 3));have hlit0 := ows_lit (El := IEl) (k := 1) w2.drew [.int .i64 (i : Nat)] i 3 rfl (by decide) rfl;have hcB := anc_any hTH.out _ n c ((w2.drew.alloc (.cells #[.int .i64 (i : Nat)] 3))) (h2H.out.below QEl.to hx2) hn i hi;refine hK.out _ _ (Pl.more_go _ (fun _ h => h) (by exact (hx2.cell (p := ⟨T, 0, none⟩) hT2H.out).trans g1) ?_);clear hK K
      try simp only [Act.put, Al_1, Al_2, Al_3]
      refine Pl.run_go (fun K hK => ?_);go_simp;refine hcB.mono ?_;rintro e x4 ⟨A', m, c', rfl, ho, hb⟩;have hx4 := hx2.trans (hb.mono hx2.size);have hlit := (hlit0.below hb IEl.to).down hba.size;have ho4 := ho;refine hK.out _ _ (Pl.more_go _ (fun _ h => h) (by exact (hx4.cell (p := ⟨T, 0, none⟩) hT2H.out).trans g1) ?_);clear hK K
      try simp only [Act.put, Al_1, Al_2, Al_3]
      refine Pl.done_go ?_;have hml : m <= 100000 := by rw [<- (ho4.sq' (by decide)).len]; exact hmlH.out
      have hx4H := Hd hx4;have hlitH := Hd hlit;have ho4H := Hd (ho4.sq' (by decide));clear ho4 hlit hx4 ho hb
      go_wp2_with (at_builtin; apply stop_here)
      refine Stop.go (append_sq (El := IEl) (k := 1) _ 37 3 (.int .i64 0) 8 Tryz.underlying37 info_i rfl (by omega) rfl _ _ rfl w2.heap.size _ [i] rfl hlitH.out _ m c' (ancL t i) rfl ho4H.out IEl.one (fun _ _ => IEl.to) (1 + m) rfl (by omega) (by omega) hx4H.out.size ?_);intro A8 c8 x8 ho8 hg8 hb8 hv8;have hb9 := Hd (hx4H.out.trans hb8);have ho9 := Hd ho8;clear ho8 hg8 hb8 hv8;go_wp2_with fail;go_ret;exact ⟨_, _, _, rfl, by rw [hv.out]; exact ho9.out.sq' (by decide), hb12H.out.trans (hb9.out.mono hb12H.out.size)⟩
    · have hcA := anc_any hTH.out _ n c (w2.drew) (h2H.out.below QEl.to hba) hn i hi
      refine Pl.run_go (fun K hK => ?_);go_simp;refine hcA.mono ?_;rintro e x3 ⟨A', m, c', rfl, ho, hb⟩;have hx3 := hba.trans hb;refine hK.out _ _ (Pl.more_go _ (fun _ h => h) (by exact (hx3.cell (p := ⟨T, 0, none⟩) hT2H.out).trans g1) ?_);clear hK K
      try simp only [Act.put, Al_1, Al_2, Al_3]
      refine Pl.run_go (fun K hK => ?_);go_simp;have hx4 := hx3.trans ((below_alloc x3 (.cells #[.int .i64 (i : Nat)] 3)).mono hx3.size);have hlit := (ows_lit (El := IEl) (k := 1) x3 [.int .i64 (i : Nat)] i 3 rfl (by decide) rfl).down hx3.size;have ho4 : OwS IEl 1 (x3.alloc (.cells #[.int .i64 (i : Nat)] 3)) w2.drew.heap.size 3 (.slice A' m c') (ancL t i) := ho.below (below_alloc x3 (.cells #[.int .i64 (i : Nat)] 3)) IEl.to;refine hK.out _ _ (Pl.more_go _ (fun _ h => h) (by exact (hx4.cell (p := ⟨T, 0, none⟩) hT2H.out).trans g1) ?_);clear hK K
      try simp only [Act.put, Al_1, Al_2, Al_3]
      refine Pl.done_go ?_;have hml : m <= 100000 := by rw [<- (ho4.sq' (by decide)).len]; exact hmlH.out
      have hx4H := Hd hx4;have hlitH := Hd hlit;have ho4H := Hd (ho4.sq' (by decide));clear ho4 hlit hx4 ho hb
      go_wp2_with (at_builtin; apply stop_here)
      refine Stop.go (append_sq (El := IEl) (k := 1) _ 37 3 (.int .i64 0) 8 Tryz.underlying37 info_i rfl (by omega) rfl _ _ rfl w2.heap.size _ [i] rfl hlitH.out _ m c' (ancL t i) rfl ho4H.out IEl.one (fun _ _ => IEl.to) (1 + m) rfl (by omega) (by omega) hx4H.out.size ?_);intro A8 c8 x8 ho8 hg8 hb8 hv8;have hb9 := Hd (hx4H.out.trans hb8);have ho9 := Hd ho8;clear ho8 hg8 hb8 hv8;go_wp2_with fail;go_ret;exact ⟨_, _, _, rfl, by rw [hv.out]; exact ho9.out.sq' (by decide), hb12H.out.trans (hb9.out.mono hb12H.out.size)⟩
  have n5 := Hd hax;have s5 : (SA.toList == [97, 110, 99, 101, 115, 116, 111, 114, 45, 111, 114, 45, 115, 101, 108, 102]) = false := by rw [<- hSAH.out, axq, show [97, 110, 99, 101, 115, 116, 111, 114, 45, 111, 114, 45, 115, 101, 108, 102] = xAncS from rfl]; exact decide_eq_false n5.out
  clear hax
  by_cases hax : axis = xDesc
  · have s6 : (SA.toList == [100, 101, 115, 99, 101, 110, 100, 97, 110, 116]) = true := by rw [<- hSAH.out, axq, show [100, 101, 115, 99, 101, 110, 100, 97, 110, 116] = xDesc from rfl, hax]; simp
    have hv : Hid (axisP t axis i = spanQ (i + 1) (finAt t i) (plainQ t)) := Hd (by rw [hax]; unfold axisP; rw [if_neg (by decide), if_neg (by decide), if_neg (by decide), if_neg (by decide), if_neg (by decide), if_neg (by decide), if_pos rfl]);clear hax;have hc := Hd (spanP_any _ n c w2 h2H.out hn (i + 1) q.fin hfn.out);rw [show ((i + 1 : Nat) : Int) = (i : Int) + 1 by omega] at hc;go_wp2_with fail;refine hc.out.mono ?_;rintro e w3 ⟨A', m, c', rfl, ho, hb⟩;have hoH := Hd ho;have hbH := Hd hb;clear ho hb hc;go_wp2_with fail;go_ret;exact ⟨_, _, _, rfl, by rw [hv.out, hfq.out]; exact hoH.out.sq' (by decide), hb12H.out.trans (hbH.out.mono hb12H.out.size)⟩
  have n6 := Hd hax;have s6 : (SA.toList == [100, 101, 115, 99, 101, 110, 100, 97, 110, 116]) = false := by rw [<- hSAH.out, axq, show [100, 101, 115, 99, 101, 110, 100, 97, 110, 116] = xDesc from rfl]; exact decide_eq_false n6.out
  clear hax
  by_cases hax : axis = xDescS
  · have s7 : (SA.toList == [100, 101, 115, 99, 101, 110, 100, 97, 110, 116, 45, 111, 114, 45, 115, 101, 108, 102]) = true := by rw [<- hSAH.out, axq, show [100, 101, 115, 99, 101, 110, 100, 97, 110, 116, 45, 111, 114, 45, 115, 101, 108, 102] = xDescS from rfl, hax]; simp
    have hv : Hid (axisP t axis i = i :: spanQ (i + 1) (finAt t i) (plainQ t)) := Hd (by rw [hax]; unfold axisP; rw [if_neg (by decide), if_neg (by decide), if_neg (by decide), if_neg (by decide), if_neg (by decide), if_neg (by decide), if_neg (by decide), if_pos rfl]);clear hax;have hba : Below w2.heap.size w2 w2.drew := Joins.below_draws w2.heap.size w2 1;have g1d : w2.drew.cell? ⟨T, 0, none⟩ = some (.int .i64 (i : Nat)) := g1;have g4d : w2.drew.cell? ⟨U, 4, none⟩ = some (.int .i64 (q.fin : Nat)) := g4;have hmlH : Hid ((spanQ (i + 1) q.fin (plainQ t)).length <= 100000) := Hd (by have := spanQ_len (i + 1) q.fin (plainQ t); have := hfn.out; omega);have hwr : IntKind.i64.wrap ((i : Int) + 1) = (i : Int) + 1 := wrap_id (by omega) (by omega)
    go_upto_region 20 with fail
    refine Pl.wp_region_plan 8 (.take 0 (.take 2 (.take 3 (.take 4 (.take 5 (.take 6 (.two 1 (.run 7 .done) 7 (.run 1 .done)))))))) (fun x => x.cell? ⟨T, 0, none⟩ = some (.int .i64 (i : Nat)) /\ x.cell? ⟨U, 4, none⟩ = some (.int .i64 (q.fin : Nat))) (by kernel_rfl) (by kernel_rfl) (by exact ⟨g1d, g4d⟩) ?_;simp only [Pl.fill, Al_4, Al_5, Al_6, Al_7]
    iterate 6
      first
      | (refine Pl.take_go ?_ (by rfl) (fun _ _ _ h => h) ?_ ?_
         rotate_left
         · (intro x hSw; (try (skip)); go_simp; try with_reducible rfl)
         (try simp only [Act.put, Al_1, Al_2, Al_3]))
      | (refine Pl.take_skip (by rfl) (fun _ _ _ h => h) ?_
         (try simp only [Act.put, Al_1, Al_2, Al_3]))
    refine Pl.two_go ?_ ?_
    · refine Pl.run_go (fun K hK => ?_)
      go_simp;have hx2 := hba.trans (below_alloc w2.drew (.cells #[.int .i64 (i : Nat)] 3));have hlit0 := ows_lit (El := IEl) (k := 1) w2.drew [.int .i64 (i : Nat)] i 3 rfl (by decide) rfl;have hcB := spanP_any _ n c ((w2.drew.alloc (.cells #[.int .i64 (i : Nat)] 3))) (h2H.out.below QEl.to hx2) hn (i + 1) q.fin hfn.out;rw [show ((i + 1 : Nat) : Int) = (i : Int) + 1 by omega] at hcB;refine hK.out _ _ (Pl.more_go _ (fun _ h => h) (by exact ⟨(hx2.cell (p := ⟨T, 0, none⟩) hT2H.out).trans g1, (hx2.cell (p := ⟨U, 4, none⟩) hU2H.out).trans g4⟩) ?_);clear hK K
      try simp only [Act.put, Al_1, Al_2, Al_3]
      refine Pl.run_go (fun K hK => ?_);go_simp;refine hcB.mono ?_;rintro e x4 ⟨A', m, c', rfl, ho, hb⟩;have hx4 := hx2.trans (hb.mono hx2.size);have hlit := (hlit0.below hb IEl.to).down hba.size;have ho4 := ho;refine hK.out _ _ (Pl.more_go _ (fun _ h => h) (by exact ⟨(hx4.cell (p := ⟨T, 0, none⟩) hT2H.out).trans g1, (hx4.cell (p := ⟨U, 4, none⟩) hU2H.out).trans g4⟩) ?_);clear hK K
      try simp only [Act.put, Al_1, Al_2, Al_3]
      refine Pl.done_go ?_;have hml : m <= 100000 := by rw [<- (ho4.sq' (by decide)).len]; exact hmlH.out
      have hx4H := Hd hx4;have hlitH := Hd hlit;have ho4H := Hd (ho4.sq' (by decide));clear ho4 hlit hx4 ho hb
      go_wp2_with (at_builtin; apply stop_here)
      refine Stop.go (append_sq (El := IEl) (k := 1) _ 37 3 (.int .i64 0) 8 Tryz.underlying37 info_i rfl (by omega) rfl _ _ rfl w2.heap.size _ [i] rfl hlitH.out _ m c' (spanQ (i + 1) q.fin (plainQ t)) rfl ho4H.out IEl.one (fun _ _ => IEl.to) (1 + m) rfl (by omega) (by omega) hx4H.out.size ?_);intro A8 c8 x8 ho8 hg8 hb8 hv8;have hb9 := Hd (hx4H.out.trans hb8);have ho9 := Hd ho8;clear ho8 hg8 hb8 hv8;go_wp2_with fail;go_ret;exact ⟨_, _, _, rfl, by rw [hv.out, hfq.out]; exact ho9.out.sq' (by decide), hb12H.out.trans (hb9.out.mono hb12H.out.size)⟩
    · have hcA := spanP_any _ n c (w2.drew) (h2H.out.below QEl.to hba) hn (i + 1) q.fin hfn.out
      rw [show ((i + 1 : Nat) : Int) = (i : Int) + 1 by omega] at hcA;refine Pl.run_go (fun K hK => ?_);go_simp;refine hcA.mono ?_;rintro e x3 ⟨A', m, c', rfl, ho, hb⟩;have hx3 := hba.trans hb;refine hK.out _ _ (Pl.more_go _ (fun _ h => h) (by exact ⟨(hx3.cell (p := ⟨T, 0, none⟩) hT2H.out).trans g1, (hx3.cell (p := ⟨U, 4, none⟩) hU2H.out).trans g4⟩) ?_);clear hK K
      try simp only [Act.put, Al_1, Al_2, Al_3]
      refine Pl.run_go (fun K hK => ?_);go_simp;have hx4 := hx3.trans ((below_alloc x3 (.cells #[.int .i64 (i : Nat)] 3)).mono hx3.size);have hlit := (ows_lit (El := IEl) (k := 1) x3 [.int .i64 (i : Nat)] i 3 rfl (by decide) rfl).down hx3.size;have ho4 : OwS IEl 1 (x3.alloc (.cells #[.int .i64 (i : Nat)] 3)) w2.drew.heap.size 3 (.slice A' m c') (spanQ (i + 1) q.fin (plainQ t)) := ho.below (below_alloc x3 (.cells #[.int .i64 (i : Nat)] 3)) IEl.to;refine hK.out _ _ (Pl.more_go _ (fun _ h => h) (by exact ⟨(hx4.cell (p := ⟨T, 0, none⟩) hT2H.out).trans g1, (hx4.cell (p := ⟨U, 4, none⟩) hU2H.out).trans g4⟩) ?_);clear hK K
      try simp only [Act.put, Al_1, Al_2, Al_3]
      refine Pl.done_go ?_;have hml : m <= 100000 := by rw [<- (ho4.sq' (by decide)).len]; exact hmlH.out
      have hx4H := Hd hx4;have hlitH := Hd hlit;have ho4H := Hd (ho4.sq' (by decide));clear ho4 hlit hx4 ho hb
      go_wp2_with (at_builtin; apply stop_here)
      refine Stop.go (append_sq (El := IEl) (k := 1) _ 37 3 (.int .i64 0) 8 Tryz.underlying37 info_i rfl (by omega) rfl _ _ rfl w2.heap.size _ [i] rfl hlitH.out _ m c' (spanQ (i + 1) q.fin (plainQ t)) rfl ho4H.out IEl.one (fun _ _ => IEl.to) (1 + m) rfl (by omega) (by omega) hx4H.out.size ?_);intro A8 c8 x8 ho8 hg8 hb8 hv8;have hb9 := Hd (hx4H.out.trans hb8);have ho9 := Hd ho8;clear ho8 hg8 hb8 hv8;go_wp2_with fail;go_ret;exact ⟨_, _, _, rfl, by rw [hv.out, hfq.out]; exact ho9.out.sq' (by decide), hb12H.out.trans (hb9.out.mono hb12H.out.size)⟩
  have n7 := Hd hax;have s7 : (SA.toList == [100, 101, 115, 99, 101, 110, 100, 97, 110, 116, 45, 111, 114, 45, 115, 101, 108, 102]) = false := by rw [<- hSAH.out, axq, show [100, 101, 115, 99, 101, 110, 100, 97, 110, 116, 45, 111, 114, 45, 115, 101, 108, 102] = xDescS from rfl]; exact decide_eq_false n7.out
  clear hax
  by_cases hax : axis = xFoll
  · have s8 : (SA.toList == [102, 111, 108, 108, 111, 119, 105, 110, 103]) = true := by rw [<- hSAH.out, axq, show [102, 111, 108, 108, 111, 119, 105, 110, 103] = xFoll from rfl, hax]; simp
    have hv : Hid (axisP t axis i = spanQ (finAt t i) t.length (plainQ t)) := Hd (by rw [hax]; unfold axisP; rw [if_neg (by decide), if_neg (by decide), if_neg (by decide), if_neg (by decide), if_neg (by decide), if_neg (by decide), if_neg (by decide), if_neg (by decide), if_pos rfl]);clear hax;have hc := Hd (spanP_any _ n c w2 h2H.out hn q.fin n (Nat.le_refl _));go_wp2_with fail;refine hc.out.mono ?_;rintro e w3 ⟨A', m, c', rfl, ho, hb⟩;have hoH := Hd ho;have hbH := Hd hb;clear ho hb hc;go_wp2_with fail;go_ret;exact ⟨_, _, _, rfl, by rw [hv.out, hfq.out, hlH.out]; exact hoH.out.sq' (by decide), hb12H.out.trans (hbH.out.mono hb12H.out.size)⟩
  have n8 := Hd hax;have s8 : (SA.toList == [102, 111, 108, 108, 111, 119, 105, 110, 103]) = false := by rw [<- hSAH.out, axq, show [102, 111, 108, 108, 111, 119, 105, 110, 103] = xFoll from rfl]; exact decide_eq_false n8.out
  clear hax
  by_cases hax : axis = xFollS
  · have s9 : (SA.toList == [102, 111, 108, 108, 111, 119, 105, 110, 103, 45, 115, 105, 98, 108, 105, 110, 103]) = true := by rw [<- hSAH.out, axq, show [102, 111, 108, 108, 111, 119, 105, 110, 103, 45, 115, 105, 98, 108, 105, 110, 103] = xFollS from rfl, hax]; simp
    have hv : Hid (axisP t axis i = sibP t i (finAt t i) t.length) := Hd (by rw [hax]; unfold axisP; rw [if_neg (by decide), if_neg (by decide), if_neg (by decide), if_neg (by decide), if_neg (by decide), if_neg (by decide), if_neg (by decide), if_neg (by decide), if_neg (by decide), if_pos rfl]);clear hax;have hc := Hd (sib_any _ n c w2 h2H.out hn i hi q.fin n (Nat.le_refl _));go_wp2_with fail;refine hc.out.mono ?_;rintro e w3 ⟨A', m, c', rfl, ho, hb⟩;have hoH := Hd ho;have hbH := Hd hb;clear ho hb hc;go_wp2_with fail;go_ret;exact ⟨_, _, _, rfl, by rw [hv.out, hfq.out, hlH.out]; exact hoH.out.sq' (by decide), hb12H.out.trans (hbH.out.mono hb12H.out.size)⟩
  have n9 := Hd hax;have s9 : (SA.toList == [102, 111, 108, 108, 111, 119, 105, 110, 103, 45, 115, 105, 98, 108, 105, 110, 103]) = false := by rw [<- hSAH.out, axq, show [102, 111, 108, 108, 111, 119, 105, 110, 103, 45, 115, 105, 98, 108, 105, 110, 103] = xFollS from rfl]; exact decide_eq_false n9.out
  clear hax
  by_cases hax : axis = xPrec
  · have s10 : (SA.toList == [112, 114, 101, 99, 101, 100, 105, 110, 103]) = true := by rw [<- hSAH.out, axq, show [112, 114, 101, 99, 101, 100, 105, 110, 103] = xPrec from rfl, hax]; simp
    have hv : Hid (axisP t axis i = (spanQ 0 i fun k => plainQ t k && decide (finAt t k <= i)).reverse) := Hd (by rw [hax]; unfold axisP; rw [if_neg (by decide), if_neg (by decide), if_neg (by decide), if_neg (by decide), if_neg (by decide), if_neg (by decide), if_neg (by decide), if_neg (by decide), if_neg (by decide), if_neg (by decide), if_pos rfl]);clear hax;have hc := Hd (spanB_any _ n c w2 h2H.out hn i T g1 hT2H.out 0 i (by omega));rw [show ((0 : Nat) : Int) = 0 from rfl] at hc;go_wp2_with fail;refine hc.out.mono ?_;rintro e w3 ⟨A', m, c', rfl, ho, hb⟩;have hoH := Hd ho;have hbH := Hd hb;clear ho hb hc;have hml := Hd (ho2len hoH.out (by have := spanQ_len 0 i fun k => plainQ t k && decide (finAt t k <= i); omega));have hc2 := Hd (back_any w3 hoH.out hbH.out.size hml.out);clear hoH;go_wp2_with fail;refine hc2.out.mono ?_;rintro e w4 ⟨rfl, ho4, hb4⟩;have hoH := Hd ho4;have hbH2 := Hd (hbH.out.trans hb4);clear ho4 hb4 hc2;go_wp2_with fail;go_ret;exact ⟨_, _, _, rfl, by rw [hv.out]; exact hoH.out.sq' (by decide), hb12H.out.trans (hbH2.out.mono hb12H.out.size)⟩
  have n10 := Hd hax;have s10 : (SA.toList == [112, 114, 101, 99, 101, 100, 105, 110, 103]) = false := by rw [<- hSAH.out, axq, show [112, 114, 101, 99, 101, 100, 105, 110, 103] = xPrec from rfl]; exact decide_eq_false n10.out
  clear hax
  by_cases hax : axis = xPrecS
  · have s11 : (SA.toList == [112, 114, 101, 99, 101, 100, 105, 110, 103, 45, 115, 105, 98, 108, 105, 110, 103]) = true := by rw [<- hSAH.out, axq, show [112, 114, 101, 99, 101, 100, 105, 110, 103, 45, 115, 105, 98, 108, 105, 110, 103] = xPrecS from rfl, hax]; simp
    have hv : Hid (axisP t axis i = (sibP t i 0 i).reverse) := Hd (by rw [hax]; unfold axisP; rw [if_neg (by decide), if_neg (by decide), if_neg (by decide), if_neg (by decide), if_neg (by decide), if_neg (by decide), if_neg (by decide), if_neg (by decide), if_neg (by decide), if_neg (by decide), if_neg (by decide), if_pos rfl]);clear hax;have hc := Hd (sib_any _ n c w2 h2H.out hn i hi 0 i (by omega));rw [show ((0 : Nat) : Int) = 0 from rfl] at hc;go_wp2_with fail;refine hc.out.mono ?_;rintro e w3 ⟨A', m, c', rfl, ho, hb⟩;have hoH := Hd ho;have hbH := Hd hb;clear ho hb hc;have hml := Hd (ho2len hoH.out (by have := sibP_len t i 0 i; omega));have hc2 := Hd (back_any w3 hoH.out hbH.out.size hml.out);clear hoH;go_wp2_with fail;refine hc2.out.mono ?_;rintro e w4 ⟨rfl, ho4, hb4⟩;have hoH := Hd ho4;have hbH2 := Hd (hbH.out.trans hb4);clear ho4 hb4 hc2;go_wp2_with fail;go_ret;exact ⟨_, _, _, rfl, by rw [hv.out]; exact hoH.out.sq' (by decide), hb12H.out.trans (hbH2.out.mono hb12H.out.size)⟩
  have n11 := Hd hax;have s11 : (SA.toList == [112, 114, 101, 99, 101, 100, 105, 110, 103, 45, 115, 105, 98, 108, 105, 110, 103]) = false := by rw [<- hSAH.out, axq, show [112, 114, 101, 99, 101, 100, 105, 110, 103, 45, 115, 105, 98, 108, 105, 110, 103] = xPrecS from rfl]; exact decide_eq_false n11.out
  clear hax;have hv : Hid (axisP t axis i = []) := Hd (by unfold axisP; rw [if_neg n0.out, if_neg n1.out, if_neg n2.out, if_neg n3.out, if_neg n4.out, if_neg n5.out, if_neg n6.out, if_neg n7.out, if_neg n8.out, if_neg n9.out, if_neg n10.out, if_neg n11.out]);go_wp2_with fail;go_ret;exact ⟨_, _, _, rfl, by rw [hv.out]; exact sq_none _, hb12H.out⟩
end Go.Proofs.YtdnfnkicmfkkmaaGreatDoor.Vw
end

section
namespace Go.Proofs.YtdnfnkicmfkkmaaGreatDoor.Vw
open Go.RowKit UtfW Xl Xt Xo No
open Go.Proofs.YtdnfnkicmfkkmaaGreatDoor (Ky.frontB Ky.Rl)
open Go.Proofs.YtdnfnkicmfkkmaaGreatDoor.Ky (Ts OwX tv join Rs)
end Go.Proofs.YtdnfnkicmfkkmaaGreatDoor.Vw
end

section
namespace Go.Proofs.YtdnfnkicmfkkmaaGreatDoor.Vw
open Go.RowKit UtfW Xl Xt Xo No
open Go.Proofs.YtdnfnkicmfkkmaaGreatDoor (Ky.frontB Ky.Rl)
open Go.Proofs.YtdnfnkicmfkkmaaGreatDoor.Ky (Ts OwX tv join Rs)
theorem resN {r : Except (Int × Nat) Nd} {B0 B : Nat} {e : Ending} {w' : World} (h : NormP B0 B r e w') : ∃ (o0 : Int) (o1 o2 : ByteArray) (o3 : Option Addr) (o4 o5 : Nat) (o6 : Option Addr) (o7 o8 : Nat) (cd : Int) (p : Nat), e = .returned (.tuple #[.agg #[.int .i64 o0, .string o1, .string o2, .slice o3 o4 o5, .slice o6 o7 o8], .int .i64 cd, .int .i64 (p : Nat)]) /\ ((cd = 0) -> ∃ x, r = .ok x /\ NdI (fun k => k < B0 \/ (B <= k /\ k < w'.heap.size)) w' [.int .i64 o0, .string o1, .string o2, .slice o3 o4 o5, .slice o6 o7 o8] x) := by
 unfold NormP at h
 cases r with
 | error c =>
  obtain ⟨cd, p⟩ := c;exact ⟨_, _, _, _, _, _, _, _, _, cd, p, h.2, fun e => absurd e h.1⟩
 | ok x =>
  obtain ⟨vs, rfl, hx⟩ := h;obtain ⟨kd, nm, tx, as_, kz, ekn⟩ : ∃ kd nm tx as_ kz, x = Nd.mk kd nm tx as_ kz := by cases x; exact ⟨_, _, _, _, _, rfl⟩
  have hx0 := hx;rw [ekn] at hx0;obtain ⟨Ai, ci, Ak, ck, rfl, _⟩ := hx0.cells;exact ⟨_, _, _, _, _, _, _, _, _, 0, 0, rfl, fun _ => ⟨x, rfl, hx⟩⟩
set_option maxHeartbeats 20000000 in
set_option maxRecDepth 100000 in
theorem lnormal_any (w : World) (Al : Option Addr) (nl cl : Nat) (l : List Ky.Rl) (vs : List Value) (n : Nd) (hl : Rs w Al nl cl l) (hbig : Ky.Big l) (hn : NdI (fun j => j < w.heap.size) w vs n) (hup : wN n <= 1152921504606846976) :
  Calls Tryz.prog 9 #[.slice Al nl cl, .agg vs.toArray] w fun e w' => (∃ (o0 : Int) (o1 o2 : ByteArray) (o3 : Option Addr) (o4 o5 : Nat) (o6 : Option Addr) (o7 o8 : Nat) (V : Bool), e = .returned (.tuple #[.agg #[.int .i64 o0, .string o1, .string o2, .slice o3 o4 o5, .slice o6 o7 o8], .bool V]) /\ (V = true -> ∃ x, NdI (fun j => j < w'.heap.size) w' [.int .i64 o0, .string o1, .string o2, .slice o3 o4 o5, .slice o6 o7 o8] x /\ NfD l x)) /\ Below w.heap.size w w' := by
 obtain ⟨kd, nm, tx, as_, kz, ekn⟩ : ∃ kd nm tx as_ kz, n = Nd.mk kd nm tx as_ kz := by cases n; exact ⟨_, _, _, _, _, rfl⟩
 have hn0 := hn;rw [ekn] at hn0;obtain ⟨Ai, ci, Ak, ck, rfl, _⟩ := hn0.cells;obtain ⟨li, hli⟩ : ∃ la, as_.length = la := ⟨_, rfl⟩;obtain ⟨lk, hlk⟩ : ∃ lk, kz.length = lk := ⟨_, rfl⟩;obtain ⟨S1, hS1⟩ : ∃ S, strOf nm = S := ⟨_, rfl⟩;obtain ⟨S2, hS2⟩ : ∃ S, strOf tx = S := ⟨_, rfl⟩;rw [hli, hlk, hS1, hS2] at hn;rw [hli, hlk, hS1, hS2];clear hn0 hli hlk hS1 hS2 ekn;obtain ⟨T, hT⟩ : ∃ T, w.heap.size = T := ⟨_, rfl⟩;obtain ⟨w1, hw1⟩ : ∃ w1, w.alloc (.cells #[.int .i64 kd, .string S1, .string S2, .slice Ai li ci, .slice Ak lk ck] 26) = w1 := ⟨_, rfl⟩;obtain ⟨w2, hw2⟩ : ∃ w2, w1.alloc (.cells #[.int .i64 0, .string ⟨#[]⟩, .string ⟨#[]⟩, .slice none 0 0, .slice none 0 0] 26) = w2 := ⟨_, rfl⟩;obtain ⟨w3, hw3⟩ : ∃ w3, w2.alloc (.cells #[.int .i64 kd, .string S1, .string S2, .slice Ai li ci, .slice Ak lk ck] 26) = w3 := ⟨_, rfl⟩;have hs1 : w1.heap.size = T + 1 := by rw [<- hw1, World.size_alloc, hT]
 have hs2 : w2.heap.size = T + 2 := by rw [<- hw2, World.size_alloc, hs1]
 have hs3 : w3.heap.size = T + 3 := by rw [<- hw3, World.size_alloc, hs2]
 have hb1 : Below w.heap.size w w1 := by rw [<- hw1]; exact (Below.refl _ _).alloc (Nat.le_refl _) _
 have hb2 : Below w1.heap.size w1 w2 := by rw [<- hw2]; exact (Below.refl _ _).alloc (Nat.le_refl _) _
 have hb3 : Below w2.heap.size w2 w3 := by rw [<- hw3]; exact (Below.refl _ _).alloc (Nat.le_refl _) _
 have hk1 : w1.heap[T]? = some (.cells #[.int .i64 kd, .string S1, .string S2, .slice Ai li ci, .slice Ak lk ck] 26) := by rw [<- hw1, <- hT]; exact heap_alloc_new w _
 have hk2 : w2.heap[T + 1]? = some (.cells #[.int .i64 0, .string ⟨#[]⟩, .string ⟨#[]⟩, .slice none 0 0, .slice none 0 0] 26) := by rw [<- hw2, <- hs1]; exact heap_alloc_new w1 _
 have hk1' := (hb2.block T (by omega)).trans hk1;have hbw : Below w.heap.size w w2 := hb1.trans (hb2.mono hb1.size);have hbw3 : Below w.heap.size w w3 := hbw.trans (hb3.mono hbw.size)
 have hall : Hid (∀ x, Below w2.heap.size w2 x -> (x.cell? ⟨T, 0, none⟩ = some (.int .i64 kd) /\ x.cell? ⟨T, 1, none⟩ = some (.string S1) /\ x.cell? ⟨T, 2, none⟩ = some (.string S2) /\ x.cell? ⟨T, 3, none⟩ = some (.slice Ai li ci) /\ x.cell? ⟨T, 4, none⟩ = some (.slice Ak lk ck)) /\ x.heap[T + 1]? = some (.cells #[.int .i64 0, .string ⟨#[]⟩, .string ⟨#[]⟩, .slice none 0 0, .slice none 0 0] 26)) := Hd fun x hx => by
  have g1 := (hx.block T (by omega)).trans hk1';exact ⟨⟨Xp.cell_blk g1 (i := 0) rfl, Xp.cell_blk g1 (i := 1) rfl, Xp.cell_blk g1 (i := 2) rfl, Xp.cell_blk g1 (i := 3) rfl, Xp.cell_blk g1 (i := 4) rfl⟩, (hx.block (T + 1) (by omega)).trans hk2⟩
 have hlit := ows_lit (El := NdE (fun j => j < T)) (k := 5) w2 [.int .i64 kd, .string S1, .string S2, .slice Ai li ci, .slice Ak lk ck] n 26 rfl (by decide) (by rw [show w2.alloc (.cells ([.int .i64 kd, .string S1, .string S2, .slice Ai li ci, .slice Ak lk ck] : List Value).toArray 26) = w3 from hw3, <- hT]; exact hn.later (fun j hj => hj) hbw3);rw [show w2.alloc (.cells ([.int .i64 kd, .string S1, .string S2, .slice Ai li ci, .slice Ak lk ck] : List Value).toArray 26) = w3 from hw3, hs2] at hlit;have hnx := Hd (fun (x : World) (hx : Below w.heap.size w x) => NdI.later hn (fun j hj => hj) hx);have hlx := Hd (fun (x : World) (hx : Below w.heap.size w x) => hl.below hx);have hfit := Hd (rFits_any (fun j => j < T) Al nl cl l _ 1 1 [n] w3 (hl.below hbw3) hbig (hlit.sq' (by decide)) (fun j hj => by omega) (fun x hx => by rw [List.mem_singleton.1 hx]; exact hup));obtain ⟨u0, u1, u2, u3, u4⟩ := (hall.out w2 (Below.refl _ _)).1;have hbw' := Hd hbw;have hb23 := Hd hb3;have hTw := Hd hT;have hs2' := Hd hs2;clear hl hbig hn hup hlit hb1 hb2 hb3 hbw hbw3 hk1 hk2 hk1'
 go_enter Tryz.func9, Tryz.ntmps9
 go_wp2_with fail;refine hfit.out.mono ?_;rintro e w4 ⟨⟨V, rfl, hV⟩, hb4⟩;have hb4' := Hd (hb23.out.trans (hb4.mono hb23.out.size));have hVH := Hd hV;clear hw1 hw2 hw3 hT hs1 hs2 hs3 hb4 hfit hV u0 u1 u2 u3 u4;obtain ⟨⟨u0, u1, u2, u3, u4⟩, hr4⟩ := hall.out w4 hb4'.out
 cases V with
 | false =>
  have hbz := hb4';clear u0 u1 u2 u3 u4;obtain ⟨g1, g2, g3⟩ := set5 hr4 (.int .i64 0) (.string ⟨#[]⟩) (.string ⟨#[]⟩) (.slice none 0 0) (.slice none 0 0);have hg1 := Hd g1;have hbF := Hd (Below.set5 (b := T + 1) (hbw'.out.trans (hbz.out.mono hbw'.out.size)) (by have := hTw.out; omega) (.int .i64 0) (.string ⟨#[]⟩) (.string ⟨#[]⟩) (.slice none 0 0) (.slice none 0 0));have zg := fun i => frozen_of_row w4 (T + 1) i _ _ hr4
  have z0 := Xp.cell_blk hr4 (i := 0) rfl;have z1 := Xp.cell_blk hr4 (i := 1) rfl;have z2 := Xp.cell_blk hr4 (i := 2) rfl;have z3 := Xp.cell_blk hr4 (i := 3) rfl;have z4 := Xp.cell_blk hr4 (i := 4) rfl;have hg2 := Hd g2;clear g1 g2 g3 hr4;go_wp2_with fail;exact bodyPost_ret (res_nd2 (x := .bool false) rfl hg1.out rfl rfl) rfl ⟨⟨_, _, _, _, _, _, _, _, _, false, rfl, fun h => by cases h⟩, hbF.out⟩
 | true =>
  have hF := Hd (hVH.out rfl);have hb04 := Hd (hbw'.out.trans (hb4'.out.mono hbw'.out.size));have hnr := Hd (rNormal_any T Al nl cl l [.int .i64 kd, .string S1, .string S2, .slice Ai li ci, .slice Ak lk ck] n w4 (by have := hb04.out.size; have := hTw.out; omega) (hlx.out w4 hb04.out) (by rw [<- hTw.out]; exact hnx.out w4 hb04.out) (rls_of hF.out.2.1) (by have := hF.out.2.2.2 n (by simp); omega));clear hr4;go_wp2_with fail;refine hnr.out.mono ?_;rintro e w5 ⟨hnp, hb5⟩;obtain ⟨o0, o1, o2, o3, o4, o5, o6, o7, o8, cd, p, rfl, hok⟩ := resN hnp;have hokH := Hd hok;have hb5' := Hd (hb4'.out.trans (hb5.mono hb4'.out.size));have hba := below_alloc w5 (.cells #[.int .i64 o0, .string o1, .string o2, .slice o3 o4 o5, .slice o6 o7 o8] 26);have hk6 := heap_alloc_new w5 (.cells #[.int .i64 o0, .string o1, .string o2, .slice o3 o4 o5, .slice o6 o7 o8] 26);have hbz := Hd (hb5'.out.trans (hba.mono hb5'.out.size));have hbaH := Hd hba;obtain ⟨D, hD⟩ : ∃ D, w5.heap.size = D := ⟨_, rfl⟩;obtain ⟨w6, hw6⟩ : ∃ x, w5.alloc (.cells #[.int .i64 o0, .string o1, .string o2, .slice o3 o4 o5, .slice o6 o7 o8] 26) = x := ⟨_, rfl⟩;rw [hw6] at hk6 hbz hbaH;rw [hD] at hk6;have y0 := Xp.cell_blk hk6 (i := 0) rfl;have y1 := Xp.cell_blk hk6 (i := 1) rfl;have y2 := Xp.cell_blk hk6 (i := 2) rfl;have y3 := Xp.cell_blk hk6 (i := 3) rfl;have y4 := Xp.cell_blk hk6 (i := 4) rfl;clear hok hnp hb5 hnr hba u0 u1 u2 u3 u4 hk6;obtain ⟨_, hr6⟩ := hall.out w6 hbz.out;obtain ⟨g1, g2, g3⟩ := set5 hr6 (.int .i64 o0) (.string o1) (.string o2) (.slice o3 o4 o5) (.slice o6 o7 o8);have hg1 := Hd g1;have hbF := Hd (Below.set5 (b := T + 1) (hbw'.out.trans (hbz.out.mono hbw'.out.size)) (by have := hTw.out; omega) (.int .i64 o0) (.string o1) (.string o2) (.slice o3 o4 o5) (.slice o6 o7 o8))
  have hfin : Hid (cd = 0 -> ∃ x, NdI (fun j => j < (World.setCell (World.setCell (World.setCell (World.setCell (World.setCell w6 ⟨(T + 1), 0, none⟩ (.int .i64 o0)) ⟨(T + 1), 1, none⟩ (.string o1)) ⟨(T + 1), 2, none⟩ (.string o2)) ⟨(T + 1), 3, none⟩ (.slice o3 o4 o5)) ⟨(T + 1), 4, none⟩ (.slice o6 o7 o8)).heap.size) (World.setCell (World.setCell (World.setCell (World.setCell (World.setCell w6 ⟨(T + 1), 0, none⟩ (.int .i64 o0)) ⟨(T + 1), 1, none⟩ (.string o1)) ⟨(T + 1), 2, none⟩ (.string o2)) ⟨(T + 1), 3, none⟩ (.slice o3 o4 o5)) ⟨(T + 1), 4, none⟩ (.slice o6 o7 o8)) [.int .i64 o0, .string o1, .string o2, .slice o3 o4 o5, .slice o6 o7 o8] x /\ NfD l x) := Hd fun h0 => by
   obtain ⟨x, hx1, hx2⟩ := hokH.out h0;refine ⟨x, ?_, NfD.of hx1 hF.out.2.1 (hF.out.2.2.2 n (by simp))⟩;have q1 := hbaH.out.size;have q2 := hb4'.out.size;have q3 := hs2'.out;have q4 := hTw.out;have q5 := hb5'.out.size
   exact hx2.stay fun k hk => by
    have hkk : k < w5.heap.size := by rcases hk with hk | hk <;> omega
    exact ⟨by rw [g3]; omega, (g2 k (by rcases hk with hk | hk <;> omega)).trans (hbaH.out.block k hkk)⟩
  have zg := fun i => frozen_of_row w6 (T + 1) i _ _ hr6
  have z0 := Xp.cell_blk hr6 (i := 0) rfl;have z1 := Xp.cell_blk hr6 (i := 1) rfl;have z2 := Xp.cell_blk hr6 (i := 2) rfl;have z3 := Xp.cell_blk hr6 (i := 3) rfl;have z4 := Xp.cell_blk hr6 (i := 4) rfl;clear g1 g2 g3 hr6
  cases hcd : (cd == 0) with
  | false =>
   have hcdH := Hd hcd;go_wp2_with fail;exact bodyPost_ret (res_nd2 (x := .bool false) rfl hg1.out rfl rfl) rfl ⟨⟨_, _, _, _, _, _, _, _, _, false, rfl, fun h => by cases h⟩, hbF.out⟩
  | true =>
   have hcdH := Hd hcd;go_wp2_with fail;exact bodyPost_ret (res_nd2 (x := .bool true) rfl hg1.out rfl rfl) rfl ⟨⟨_, _, _, _, _, _, _, _, _, true, rfl, fun _ => hfin.out (by simpa using hcdH.out)⟩, hbF.out⟩
end Go.Proofs.YtdnfnkicmfkkmaaGreatDoor.Vw
end

section
namespace Go.Proofs.YtdnfnkicmfkkmaaGreatDoor.Vw
open Go.RowKit UtfW Xl Xt Xo No
open Go.Proofs.YtdnfnkicmfkkmaaGreatDoor (Ky.frontB Ky.Rl)
open Go.Proofs.YtdnfnkicmfkkmaaGreatDoor.Ky (Ts OwX tv join Rs)
theorem sq_lit2 {α : Type} {El : World -> List Value -> α -> Prop} {k : Nat} (w : World) (va vb : List Value) (x y : α) (E : TypeId) (hk : va.length = k) (hk2 : vb.length = k) (h : El (w.alloc (.cells (va ++ vb).toArray E)) va x) (h2 : El (w.alloc (.cells (va ++ vb).toArray E)) vb y) :
  Sq El k (w.alloc (.cells (va ++ vb).toArray E)) (some ⟨w.heap.size, 0, none⟩) 2 2 [x, y] := by
 refine ⟨rfl, by omega, by omega, fun h => by simp at h, fun _ => ⟨_, _, rfl, by simp [World.size_alloc], fun i z hz => ?_⟩⟩;have hh : (w.alloc (.cells (va ++ vb).toArray E)).heap[w.heap.size]? = some (.cells (va ++ vb).toArray E) := heap_alloc_new w _
 match i, hz with
 | 0, hz =>
  injection hz with hz;subst hz;refine ⟨va, hk, h, fun j v hv => ?_⟩;have hj := (List.getElem?_eq_some_iff.1 hv).1;simp only [World.cell?, hh, Nat.zero_add, Nat.zero_mul, List.getElem?_toArray];rw [List.getElem?_append_left hj, hv];rfl
 | 1, hz =>
  injection hz with hz;subst hz;refine ⟨vb, hk2, h2, fun j v hv => ?_⟩;simp only [World.cell?, hh, Nat.zero_add, Nat.one_mul, List.getElem?_toArray];rw [List.getElem?_append_right (by omega), show k + j - va.length = j by omega, hv];rfl
def awN : Nd := .mk 1 [97] [] [([120], [49])] [textN [116], .mk 1 [98] [] [] []]
def awL : List Ky.Rl := [([[97]], [])]
def awT : List Q := [⟨6, [], [], -1, 5, [47]⟩, ⟨1, [97], [], 0, 5, [47, 97]⟩, ⟨5, [120], [49], 1, 3, [47, 97, 47, 64, 120]⟩, ⟨2, [], [116], 1, 4, [47, 97, 47, 35, 49]⟩, ⟨1, [98], [], 1, 5, [47, 97, 47, 35, 50]⟩]
theorem awT_eq : tabD awL awN = awT := by decide +kernel
theorem awT_tab : Tab awT := by rw [<- awT_eq]; exact tabD_tab _ _ (by decide +kernel)
theorem awT_foll : axP awT [102, 111, 108, 108, 111, 119, 105, 110, 103] 2 = [3, 4] := by decide +kernel
theorem awT_prec : axP awT [112, 114, 101, 99, 101, 100, 105, 110, 103] 4 = [3] := by decide +kernel
theorem awT_val : valP awT 0 = [116] := by decide +kernel
theorem nd_leaf {X : Nat -> Prop} (w : World) (kd : Int) (nm tx : Tx) : NdI X w [.int .i64 kd, .string (strOf nm), .string (strOf tx), .slice none 0 0, .slice none 0 0] (.mk kd nm tx [] []) :=
 NdI.make (A := none) (A2 := none) (as_ := []) (ks := []) (sq_none w) (fun a h => by cases h) (sq_none w) (fun a h => by cases h)
set_option maxHeartbeats 20000000 in
set_option maxRecDepth 100000 in
theorem awake_any (w : World) (hU : Ut w) (hTn : Nu.Tens w) :
  Calls Tryz.prog 8 #[] w fun e w' => e = .returned (.bool true) /\ Below w.heap.size w w' := by
 obtain ⟨w1, hw1⟩ : ∃ x, w.alloc (.cells #[.string ⟨#[120]⟩, .string ⟨#[49]⟩] 68) = x := ⟨_, rfl⟩;obtain ⟨w2, hw2⟩ : ∃ x, w1.alloc (.cells #[.int .i64 2, .string ⟨#[]⟩, .string ⟨#[116]⟩, .slice none 0 0, .slice none 0 0, .int .i64 1, .string ⟨#[98]⟩, .string ⟨#[]⟩, .slice none 0 0, .slice none 0 0] 26) = x := ⟨_, rfl⟩;obtain ⟨B0, hB0⟩ : ∃ x, w.heap.size = x := ⟨_, rfl⟩;obtain ⟨B1, hB1⟩ : ∃ x, w1.heap.size = x := ⟨_, rfl⟩;obtain ⟨w3, hw3⟩ : ∃ x, w2.alloc (.cells #[.int .i64 1, .string ⟨#[97]⟩, .string ⟨#[]⟩, .slice (some ⟨B0, 0, none⟩) 1 1, .slice (some ⟨B1, 0, none⟩) 2 2] 26) = x := ⟨_, rfl⟩;obtain ⟨B2, hB2⟩ : ∃ x, w2.heap.size = x := ⟨_, rfl⟩;obtain ⟨w4, hw4⟩ : ∃ x, w3.alloc (.cells #[.string ⟨#[97]⟩] 9) = x := ⟨_, rfl⟩;obtain ⟨B3, hB3⟩ : ∃ x, w3.heap.size = x := ⟨_, rfl⟩;obtain ⟨w5, hw5⟩ : ∃ x, w4.alloc (.cells #[.slice (some ⟨B3, 0, none⟩) 1 1, .slice none 0 0] 70) = x := ⟨_, rfl⟩;obtain ⟨B4, hB4⟩ : ∃ x, w4.heap.size = x := ⟨_, rfl⟩;have b1 : Below w.heap.size w w1 := by rw [<- hw1]; exact below_alloc w _
 have b2 : Below w1.heap.size w1 w2 := by rw [<- hw2]; exact below_alloc w1 _
 have b3 : Below w2.heap.size w2 w3 := by rw [<- hw3]; exact below_alloc w2 _
 have b4 : Below w3.heap.size w3 w4 := by rw [<- hw4]; exact below_alloc w3 _
 have b5 : Below w4.heap.size w4 w5 := by rw [<- hw5]; exact below_alloc w4 _
 have b12 := b2.trans (b3.mono b2.size);have b35 := b4.trans (b5.mono b4.size);have b02 := b1.trans (b2.mono b1.size);have b03 := b02.trans (b3.mono b02.size);have b05 := b03.trans (b35.mono b03.size)
 have hat : Sq AtEl 2 w1 (some ⟨B0, 0, none⟩) 1 1 [([120], [49])] := by
  rw [<- hw1, <- hB0];exact (ows_lit (El := AtEl) (k := 2) w [.string ⟨#[120]⟩, .string ⟨#[49]⟩] ([120], [49]) 68 rfl (by decide) rfl).sq' (by decide)
 have hks : Sq (NdE (fun j => j < w2.heap.size)) 5 w2 (some ⟨B1, 0, none⟩) 2 2 [textN [116], .mk 1 [98] [] [] []] := by
  have h1 := sq_lit2 (El := NdE (fun j => j < w2.heap.size)) (k := 5) w1 [.int .i64 2, .string ⟨#[]⟩, .string ⟨#[116]⟩, .slice none 0 0, .slice none 0 0] [.int .i64 1, .string ⟨#[98]⟩, .string ⟨#[]⟩, .slice none 0 0, .slice none 0 0] (textN [116]) (.mk 1 [98] [] [] []) 26 rfl rfl (nd_leaf _ 2 [] [116]) (nd_leaf _ 1 [98] []);rw [show w1.alloc (.cells ([.int .i64 2, .string ⟨#[]⟩, .string ⟨#[116]⟩, .slice none 0 0, .slice none 0 0] ++ [.int .i64 1, .string ⟨#[98]⟩, .string ⟨#[]⟩, .slice none 0 0, .slice none 0 0] : List Value).toArray 26) = w2 from hw2, hB1] at h1;exact h1
 have hB1l : B1 < w2.heap.size := by rw [<- hw2, World.size_alloc, hB1]; omega
 have hB0l : B0 < w2.heap.size := by have := b2.size; rw [<- hw1, World.size_alloc, hB0] at this; omega
 have hnd : NdI (fun j => j < w2.heap.size) w2 [.int .i64 1, .string ⟨#[97]⟩, .string ⟨#[]⟩, .slice (some ⟨B0, 0, none⟩) 1 1, .slice (some ⟨B1, 0, none⟩) 2 2] awN := NdI.make (nm := [97]) (tx := []) (as_ := [([120], [49])]) (ks := [textN [116], .mk 1 [98] [] [] []]) (hat.below AtEl.to b2) (fun a e _ => by injection e with e; rw [<- e]; exact hB0l) hks (fun a e _ => by injection e with e; rw [<- e]; exact hB1l);have hnd5 := hnd.later (fun j hj => hj) (b3.trans (b35.mono b3.size))
 have hts : Ts w4 (some ⟨B3, 0, none⟩) 1 1 [[97]] := by
  rw [<- hw4, <- hB3];exact Ky.ts_lit w3 ⟨#[97]⟩ [97] 9 (0, 0) rfl
 have hrs : Rs w5 (some ⟨B4, 0, none⟩) 1 1 awL := by
  have h1 := (ows_lit (El := Ky.RlEl) (k := 2) w4 [.slice (some ⟨B3, 0, none⟩) 1 1, .slice none 0 0] ([[97]], []) 70 rfl (by decide) (by rw [show w4.alloc (.cells ([.slice (some ⟨B3, 0, none⟩) 1 1, .slice none 0 0] : List Value).toArray 70) = w5 from hw5]; exact ⟨_, _, _, _, _, _, rfl, hts.below b5, Ts.nil _⟩)).sq' (by decide);rw [show w4.alloc (.cells ([.slice (some ⟨B3, 0, none⟩) 1 1, .slice none 0 0] : List Value).toArray 70) = w5 from hw5, hB4] at h1;exact h1
 have hk3 : w3.heap[B2]? = some (.cells #[.int .i64 1, .string ⟨#[97]⟩, .string ⟨#[]⟩, .slice (some ⟨B0, 0, none⟩) 1 1, .slice (some ⟨B1, 0, none⟩) 2 2] 26) := by rw [<- hw3, <- hB2]; exact heap_alloc_new w2 _
 have hk4 := (b4.block B2 (Array.getElem?_eq_some_iff.1 hk3).1).trans hk3;have hk5 := (b5.block B2 (Array.getElem?_eq_some_iff.1 hk4).1).trans hk4;have y0 := Xp.cell_blk hk5 (i := 0) rfl;have y1 := Xp.cell_blk hk5 (i := 1) rfl;have y2 := Xp.cell_blk hk5 (i := 2) rfl;have y3 := Xp.cell_blk hk5 (i := 3) rfl;have y4 := Xp.cell_blk hk5 (i := 4) rfl;have hdoc := vdoc_any (fun j => j < w2.heap.size) w5 (hU.below b05) (hTn.below b05) _ 1 1 awL [.int .i64 1, .string ⟨#[97]⟩, .string ⟨#[]⟩, .slice (some ⟨B0, 0, none⟩) 1 1, .slice (some ⟨B1, 0, none⟩) 2 2] awN hrs hnd5 (fun j hj => by have := (b3.trans (b35.mono b3.size)).size; omega) (by decide +kernel) (by decide +kernel) (by unfold awN nfN; exact ⟨rfl, fun h => absurd h (by decide +kernel)⟩) ⟨_, _, rfl, rfl, rfl⟩ (by decide +kernel);rw [awT_eq] at hdoc;have hdocH := Hd hdoc;have hb05 := Hd b05;clear b1 b2 b3 b4 b5 b12 b35 b02 b03 b05 hat hks hB1l hB0l hnd hnd5 hts hrs hk3 hk4 hk5 hdoc hU hTn
 go_enter Tryz.func8, Tryz.ntmps8
 go_wp2_with fail;refine hdocH.out.mono ?_;rintro e w6 ⟨A, m, c, rfl, ho, hb6⟩;have hb06 := Hd (hb05.out.trans (hb6.mono hb05.out.size));have hsq := ho.sq' (by decide);obtain rfl : 5 = m := hsq.len;obtain ⟨b0, o0, rfl⟩ := q_adr hsq (by decide);obtain ⟨q0, hq0, c00, c01, c02, c03, c04, c05⟩ := q_row hsq (show 0 < 5 by decide);obtain ⟨q2, hq2, c20, c21, c22, c23, c24, c25⟩ := q_row hsq (show 2 < 5 by decide);obtain rfl : (⟨6, [], [], -1, 5, [47]⟩ : Q) = q0 := by injection hq0
 obtain rfl : (⟨5, [120], [49], 1, 3, [47, 97, 47, 64, 120]⟩ : Q) = q2 := by injection hq2
 have hl5 := hsq.le;have hm5 := hsq.max;have hsqH := Hd hsq;have hx1 := Hd (paxis_any awT_tab _ 5 c w6 hsq [102, 111, 108, 108, 111, 119, 105, 110, 103] 2 (by decide));rw [awT_foll] at hx1;simp only [Nat.zero_mul, Nat.add_zero] at c04;have c24' : w6.cell? ⟨b0, o0 + 12 + 4, none⟩ = some (.int .i64 3) := c24;have c04' : w6.cell? ⟨b0, o0 + 4, none⟩ = some (.int .i64 5) := c04;clear hw1 hw2 hw3 hw4 hw5 hB0 hB1 hB2 hB3 hB4 y0 y1 y2 y3 y4 hdocH ho hb6 hsq hq0 hq2 c00 c01 c02 c03 c05 c20 c21 c22 c23 c25 c24 c04;go_wp2_with fail;refine hx1.out.mono ?_;rintro e w7 ⟨A7, m7, c7, rfl, hs7, hb7⟩;have hb67 := Hd hb7;have ha8 := below_alloc w7 (.cells #[.int .i64 3, .int .i64 4] 3);have hb68 := Hd (hb7.trans (ha8.mono hb7.size));have hlit8 := sq_lit2 (El := IEl) (k := 1) w7 [.int .i64 3] [.int .i64 4] 3 4 3 rfl rfl rfl rfl;have hi8 := Hd (ints_any _ _ _ [3, 4] _ _ _ [3, 4] _ (hs7.below IEl.to ha8) hlit8);rw [decide_eq_true rfl] at hi8;clear hx1 hb7 hs7 ha8 hlit8 c04' c24';go_wp2_with fail;refine hi8.out.mono ?_;rintro e w9 ⟨rfl, hb9⟩;have hb69 := Hd (hb68.out.trans (hb9.mono hb68.out.size));have hx2 := Hd (paxis_any awT_tab _ 5 c w9 (hsqH.out.below QEl.to hb69.out) [112, 114, 101, 99, 101, 100, 105, 110, 103] 4 (by decide));rw [awT_prec] at hx2;clear hi8 hb9;go_wp2_with fail;refine hx2.out.mono ?_;rintro e wa ⟨Aa, ma, ca, rfl, hsa, hba⟩;have haa := below_alloc wa (.cells #[.int .i64 3] 3);have hb6a := Hd (hb69.out.trans ((hba.trans (haa.mono hba.size)).mono hb69.out.size));have hlita := (ows_lit (El := IEl) (k := 1) wa [.int .i64 3] 3 3 rfl (by decide) rfl).sq' (by decide);have hia := Hd (ints_any _ _ _ [3] _ _ _ [3] _ (hsa.below IEl.to haa) hlita);rw [decide_eq_true rfl] at hia;clear hx2 hba hsa haa hlita;go_wp2_with fail;refine hia.out.mono ?_;rintro e wb ⟨rfl, hbb⟩;have hb6b := Hd (hb6a.out.trans (hbb.mono hb6a.out.size));have hx3 := Hd (pvalue_any awT_tab _ 5 c wb (hsqH.out.below QEl.to hb6b.out) (by decide) 0)
 rw [awT_val] at hx3;clear hia hbb;go_wp2_with fail;refine hx3.out.mono ?_;rintro e wc ⟨rfl, hbc⟩;have hb6c := Hd (hb6b.out.trans (hbc.mono hb6b.out.size));obtain ⟨q4, hq4, c40, c41, c42, c43, c44, c45⟩ := q_row (hsqH.out.below QEl.to hb6c.out) (show 4 < 5 by decide);obtain rfl : (⟨1, [98], [], 1, 5, [47, 97, 47, 35, 50]⟩ : Q) = q4 := by injection hq4
 have c45' : wc.cell? ⟨b0, o0 + 24 + 5, none⟩ = some (.string ⟨#[47, 97, 47, 35, 50]⟩) := c45;have hF := Hd (hb06.out.trans (hb6c.out.mono hb06.out.size));have v1 : ((strOf [116]).toList == [116]) = true := by rw [axq]; exact decide_eq_true rfl
 clear hx3 hbc hq4 c40 c41 c42 c43 c44 c45;go_wp2_with fail;go_ret;exact ⟨rfl, hF.out⟩
end Go.Proofs.YtdnfnkicmfkkmaaGreatDoor.Vw
end

section
namespace Go.Proofs.YtdnfnkicmfkkmaaGreatDoor.Vw
open Go.RowKit UtfW Xl Xt Xo No
open Go.Proofs.YtdnfnkicmfkkmaaGreatDoor (Ky.frontB Ky.Rl)
open Go.Proofs.YtdnfnkicmfkkmaaGreatDoor.Ky (Ts OwX tv join Rs)
end Go.Proofs.YtdnfnkicmfkkmaaGreatDoor.Vw
end

section
namespace Go.Proofs.YtdnfnkicmfkkmaaGreatDoor.Vw
open Go.RowKit UtfW Xl Xt Xo No
open Go.Proofs.YtdnfnkicmfkkmaaGreatDoor (Ky.frontB Ky.Rl)
open Go.Proofs.YtdnfnkicmfkkmaaGreatDoor.Ky (Ts OwX tv join Rs)
theorem strOf_sz (t : Tx) : (strOf t).size = t.length := by simp [strOf, ByteArray.size]
def axN : List Tx := [[97, 110, 99, 101, 115, 116, 111, 114], [97, 110, 99, 101, 115, 116, 111, 114, 45, 111, 114, 45, 115, 101, 108, 102], [97, 116, 116, 114, 105, 98, 117, 116, 101], [99, 104, 105, 108, 100], [100, 101, 115, 99, 101, 110, 100, 97, 110, 116], [100, 101, 115, 99, 101, 110, 100, 97, 110, 116, 45, 111, 114, 45, 115, 101, 108, 102], [102, 111, 108, 108, 111, 119, 105, 110, 103], [102, 111, 108, 108, 111, 119, 105, 110, 103, 45, 115, 105, 98, 108, 105, 110, 103], [110, 97, 109, 101, 115, 112, 97, 99, 101], [112, 97, 114, 101, 110, 116], [112, 114, 101, 99, 101, 100, 105, 110, 103], [112, 114, 101, 99, 101, 100, 105, 110, 103, 45, 115, 105, 98, 108, 105, 110, 103], [115, 101, 108, 102]]
theorem owx_lit (w : World) (ts : List Tx) (E : TypeId) (hl : ts.length <= 1000) : OwX (w.alloc (.cells (ts.map tv).toArray E)) w.heap.size E (.slice (some ⟨w.heap.size, 0, none⟩) ts.length ts.length) ts :=
 ⟨by simp, .inr ⟨_, _, (ts.map tv).toArray, rfl, Nat.le_refl _, heap_alloc_new w _, Nat.le_refl _, by unfold maxLen; omega, by simp, List.take_of_length_le (by simp)⟩⟩
theorem axes_any (w : World) : Calls Tryz.prog 13 #[] w fun e w' => e = .returned (.slice (some ⟨w.heap.size, 0, none⟩) 13 13) /\ OwX w' w.heap.size 9 (.slice (some ⟨w.heap.size, 0, none⟩) 13 13) axN /\ Below w.heap.size w w' := by
 have hlit := owx_lit w axN 9 (by decide);have hba := below_alloc w (.cells (axN.map tv).toArray 9);obtain ⟨w1, hw1⟩ : ∃ x, w.alloc (.cells (axN.map tv).toArray 9) = x := ⟨_, rfl⟩;rw [hw1] at hlit hba;have hl := Hd hlit;have hb := Hd hba;have hw1' := Hd hw1;clear hlit hba hw1
 go_enter Tryz.func13, Tryz.ntmps13
 go_wp2_with fail;go_ret;rw [<- hw1'.out] at hl hb;exact ⟨rfl, hl.out, hb.out⟩
set_option maxHeartbeats 20000000 in
set_option maxRecDepth 100000 in
theorem tables_law (w : World) (hU : Ut w) (hTn : Nu.Tens w) (Al : Option Addr) (nl cl : Nat) (l : List Ky.Rl) (vs : List Value) (n : Nd) (hl : Rs w Al nl cl l) (hbig : Ky.Big l) (hn : NdI (fun j => j < w.heap.size) w vs n) (hup : wN n <= 1152921504606846976) (S : ByteArray) :
    Calls Tryz.prog 3 #[.slice Al nl cl, .agg vs.toArray, .string S] w fun e w' => e = .returned (.bool true) /\ Below w.heap.size w w' := by
  obtain ⟨kd, nm, tx, as_, kz, ekn⟩ : ∃ kd nm tx as_ kz, n = Nd.mk kd nm tx as_ kz := by cases n; exact ⟨_, _, _, _, _, rfl⟩
  have hn0 := hn;rw [ekn] at hn0;obtain ⟨Ai, ci, Ak, ck, rfl, _⟩ := hn0.cells;obtain ⟨li, hli⟩ : ∃ la, as_.length = la := ⟨_, rfl⟩;obtain ⟨lk, hlk⟩ : ∃ lk, kz.length = lk := ⟨_, rfl⟩;obtain ⟨S1, hS1⟩ : ∃ S, strOf nm = S := ⟨_, rfl⟩;obtain ⟨S2, hS2⟩ : ∃ S, strOf tx = S := ⟨_, rfl⟩;rw [hli, hlk, hS1, hS2] at hn;rw [hli, hlk, hS1, hS2];clear hn0 hli hlk hS1 hS2 ekn;obtain ⟨T, hT⟩ : ∃ T, w.heap.size = T := ⟨_, rfl⟩;obtain ⟨w1, hw1⟩ : ∃ w1, w.alloc (.cells #[.int .i64 kd, .string S1, .string S2, .slice Ai li ci, .slice Ak lk ck] 26) = w1 := ⟨_, rfl⟩;have hs1 : w1.heap.size = T + 1 := by rw [<- hw1, World.size_alloc, hT]
  have hb1 : Below w.heap.size w w1 := by rw [<- hw1]; exact (Below.refl _ _).alloc (Nat.le_refl _) _
  have hk1 : w1.heap[T]? = some (.cells #[.int .i64 kd, .string S1, .string S2, .slice Ai li ci, .slice Ak lk ck] 26) := by rw [<- hw1, <- hT]; exact heap_alloc_new w _
  have hall : Hid (∀ x, Below w1.heap.size w1 x -> x.cell? ⟨T, 0, none⟩ = some (.int .i64 kd) /\ x.cell? ⟨T, 1, none⟩ = some (.string S1) /\ x.cell? ⟨T, 2, none⟩ = some (.string S2) /\ x.cell? ⟨T, 3, none⟩ = some (.slice Ai li ci) /\ x.cell? ⟨T, 4, none⟩ = some (.slice Ak lk ck)) := Hd fun x hx => by
    have g1 := (hx.block T (by omega)).trans hk1;exact ⟨Xp.cell_blk g1 (i := 0) rfl, Xp.cell_blk g1 (i := 1) rfl, Xp.cell_blk g1 (i := 2) rfl, Xp.cell_blk g1 (i := 3) rfl, Xp.cell_blk g1 (i := 4) rfl⟩
  have haw := Hd (awake_any w1 (hU.below hb1) (hTn.below hb1));have hnor := Hd (fun (x : World) (hx : Below w.heap.size w x) => lnormal_any x Al nl cl l [.int .i64 kd, .string S1, .string S2, .slice Ai li ci, .slice Ak lk ck] n (hl.below hx) hbig ((NdI.later hn (fun j hj => hj) hx).stay fun j hj => ⟨Nat.lt_of_lt_of_le hj hx.size, rfl⟩) hup);have hlx := Hd (fun (x : World) (hx : Below w.heap.size w x) => hl.below hx);have hUx := Hd (fun (x : World) (hx : Below w.heap.size w x) => And.intro (hU.below hx) (hTn.below hx));have hb1' := Hd hb1;clear hl hbig hn hup hU hTn hb1 hk1 hs1
  go_enter Tryz.func3, Tryz.ntmps3
  go_wp2_with fail;refine haw.out.mono ?_;rintro e w2 ⟨rfl, hb2⟩;have hb2' := Hd hb2;clear hw1 hT hb2 haw;obtain ⟨u0, u1, u2, u3, u4⟩ := hall.out w2 hb2'.out;have hb02 := Hd (hb1'.out.trans (hb2'.out.mono hb1'.out.size));have hnr := Hd (hnor.out w2 hb02.out);go_wp2_with fail;refine hnr.out.mono ?_;rintro e w3 ⟨⟨o0, o1, o2, o3, o4, o5, o6, o7, o8, V, rfl, hV⟩, hb3⟩;have hVH := Hd hV;have hb03 := Hd (hb02.out.trans (hb3.mono hb02.out.size));have hba := below_alloc w3 (.cells #[.int .i64 o0, .string o1, .string o2, .slice o3 o4 o5, .slice o6 o7 o8] 26);have hk4 := heap_alloc_new w3 (.cells #[.int .i64 o0, .string o1, .string o2, .slice o3 o4 o5, .slice o6 o7 o8] 26);have hbaH := Hd hba;obtain ⟨D, hD⟩ : ∃ D, w3.heap.size = D := ⟨_, rfl⟩;obtain ⟨w4, hw4⟩ : ∃ x, w3.alloc (.cells #[.int .i64 o0, .string o1, .string o2, .slice o3 o4 o5, .slice o6 o7 o8] 26) = x := ⟨_, rfl⟩;rw [hw4] at hk4 hbaH hba;rw [hD] at hk4;have hD4 : Hid (D < w4.heap.size) := Hd (Array.getElem?_eq_some_iff.1 hk4).1
  have hdx : Hid (∀ x, Below w4.heap.size w4 x -> x.cell? ⟨D, 0, none⟩ = some (.int .i64 o0) /\ x.cell? ⟨D, 1, none⟩ = some (.string o1) /\ x.cell? ⟨D, 2, none⟩ = some (.string o2) /\ x.cell? ⟨D, 3, none⟩ = some (.slice o3 o4 o5) /\ x.cell? ⟨D, 4, none⟩ = some (.slice o6 o7 o8)) := Hd fun x hx => by
    have g1 := (hx.block D hD4.out).trans hk4;exact ⟨Xp.cell_blk g1 (i := 0) rfl, Xp.cell_blk g1 (i := 1) rfl, Xp.cell_blk g1 (i := 2) rfl, Xp.cell_blk g1 (i := 3) rfl, Xp.cell_blk g1 (i := 4) rfl⟩
  have hb04 := Hd (hb03.out.trans (hba.mono hb03.out.size));clear hV hb3 hba hk4 hnr u0 u1 u2 u3 u4
  by_cases hS : (S.size : Int) > 100
  · have e1 : decide ((S.size : Int) > 100) = true := by rw [decide_eq_true_eq]; exact hS
    have e2 : decide ((100 : Int) < (S.size : Int)) = true := by rw [decide_eq_true_eq]; exact hS
    cases V <;> (go_wp2_with fail; go_ret; exact ⟨rfl, hb04.out⟩)
  have e1 : decide ((S.size : Int) > 100) = false := by rw [decide_eq_false_iff_not]; exact hS
  have e2 : decide ((100 : Int) < (S.size : Int)) = false := by rw [decide_eq_false_iff_not]; exact hS
  cases V with
  | false =>
    go_wp2_with fail;go_ret;exact ⟨rfl, hb04.out⟩
  | true =>
    obtain ⟨x, hx0, hN0⟩ := hVH.out rfl;have hNf := Hd hN0;have hnx : Hid (∀ y, Below w4.heap.size w4 y -> NdI (fun j => j < w3.heap.size) y [.int .i64 o0, .string o1, .string o2, .slice o3 o4 o5, .slice o6 o7 o8] x) := Hd fun y hy => NdI.later hx0 (fun j hj => hj) (hbaH.out.trans (hy.mono hbaH.out.size))
    have hX3 : Hid (∀ y, Below w4.heap.size w4 y -> ∀ j, j < w3.heap.size -> j < y.heap.size) := Hd fun y hy j hj => Nat.lt_of_lt_of_le hj (Nat.le_trans hbaH.out.size hy.size)
    obtain ⟨y0, y1, y2, y3, y4⟩ := hdx.out w4 (Below.refl _ _);clear hx0 hN0 hVH hall;have hdoc := Hd (vdoc_any _ w4 (hUx.out w4 hb04.out).1 (hUx.out w4 hb04.out).2 Al nl cl l [.int .i64 o0, .string o1, .string o2, .slice o3 o4 o5, .slice o6 o7 o8] x (hlx.out w4 hb04.out) (hnx.out w4 (Below.refl _ _)) (hX3.out w4 (Below.refl _ _)) hNf.out.wts hNf.out.fair hNf.out.nf hNf.out.root hNf.out.w);go_wp2_with fail;refine hdoc.out.mono ?_;rintro e w5 ⟨A, m, c, rfl, ho5, hb5⟩;have hb45 := Hd hb5;have hb05 := Hd (hb04.out.trans (hb5.mono hb04.out.size));obtain ⟨t, ht⟩ : ∃ t, tabD l x = t := ⟨_, rfl⟩;rw [ht] at ho5;have htH := Hd ht;have hsq := Hd (ho5.sq' (by decide));have hlt : Hid (t.length = m) := Hd hsq.out.len;have hm1 : m <= 1201 := by rw [<- hlt.out, <- ht]; exact hNf.out.len
    have hm2 : 1 < m := by rw [<- hlt.out, <- ht]; exact hNf.out.paths.2
    have hTab : Hid (Tab t) := Hd (by rw [<- ht]; exact hNf.out.tab);have hPath : Hid (Paths t) := Hd (by rw [<- ht]; exact hNf.out.paths.1);have htx : Hid (txS t <= 1200) := Hd (by rw [<- ht]; exact hNf.out.txt);have l1 := hsq.out.le;have l2 := hsq.out.max;clear hdoc ho5 hb5 ht y0 y1 y2 y3 y4 hw4 hD;obtain ⟨ax, hax⟩ : ∃ t : Tx, S = strOf t := ⟨S.data.toList, by simp [strOf]⟩
    have hSz : Hid (ax.length <= 100) := Hd (by
      have h1 : S.size = ax.length := by rw [hax, strOf_sz]
      omega)
    have haxH := Hd hax;clear hax;obtain ⟨y0, y1, y2, y3, y4⟩ := hdx.out w5 hb45.out;have hrd := Hd (rdoc_any _ w5 Al nl cl l [.int .i64 o0, .string o1, .string o2, .slice o3 o4 o5, .slice o6 o7 o8] x (hlx.out w5 hb05.out) (hnx.out w5 hb45.out) (hX3.out w5 hb45.out) hNf.out.wts hNf.out.may hNf.out.nf hNf.out.w);rw [htH.out] at hrd;go_wp2_with fail;refine hrd.out.mono ?_;rintro e w6 ⟨A2, m2, c2, rfl, ho6, hb6⟩;have hs2 := Hd (ho6.sq' (by decide));have hb56 := Hd hb6;have hb06 := Hd (hb05.out.trans (hb6.mono hb05.out.size));have htb := Hd (tables_any _ _ _ t _ _ _ t w6 (hsq.out.below QEl.to hb6) hs2.out);rw [decide_eq_true rfl] at htb;clear ho6 hb6 hrd y0 y1 y2 y3 y4;go_wp2_with fail;refine htb.out.mono ?_;rintro e w7 ⟨rfl, hb7⟩;have hb57 := Hd (hb56.out.trans (hb7.mono hb56.out.size));have hb07 := Hd (hb06.out.trans (hb7.mono hb06.out.size));have haxs := Hd (axes_any w7);clear hb7 htb;go_wp2_with fail;refine haxs.out.mono ?_;rintro e w8 ⟨rfl, ho8, hb8⟩;have hb78 := Hd hb8;obtain ⟨B7, hB7⟩ : ∃ b, w7.heap.size = b := ⟨_, rfl⟩;rw [hB7] at ho8;have ho8H := Hd ho8;have hB7H := Hd hB7;have hbl := below_alloc w8 (.cells #[.string S] 9);have hlit := Hd (Ky.ts_lit w8 S ax 9 (0, 0) haxH.out);have hoA := Hd (ho8.below hbl);have hblH := Hd (hb78.out.trans (hbl.mono hb78.out.size));have hszA : Hid (B7 <= (w8.alloc (.cells #[.string S] 9)).heap.size) := Hd (by rw [<- hB7]; exact hblH.out.size);rw [hB7];clear ho8 hb8 haxs hbl hB7
    go_wp2_with (at_builtin; apply stop_here)
    refine Stop.go (Ky.append_ts _ 33 9 Tryz.underlying33 Ky.str_info rfl _ _ rfl B7 (.slice (some ⟨B7, 0, none⟩) 13 13) axN rfl hoA.out _ 1 1 [ax] rfl hlit.out 14 rfl (by omega) hszA.out ?_);intro A9 c9 w9 ho9 hg9 hb9;have hb89 : Hid (Below w7.heap.size w7 w9) := Hd (hblH.out.trans (by rw [hB7H.out]; exact hb9));have hal := Hd ho9.rd;have hal1 := hal.out.le;have hal2 := hal.out.max;have hb09 := Hd (hb07.out.trans (hb89.out.mono hb07.out.size));have hb59 := Hd (hb57.out.trans (hb89.out.mono hb57.out.size))
    have hallen : Hid (∀ x ∈ axN ++ [ax], x.length <= 100) := Hd (by
      intro x hx;rcases List.mem_append.1 hx with h | h
      · exact (show ∀ x ∈ axN, x.length <= 100 by decide) x h
      · rw [List.mem_singleton.1 h]; exact hSz.out)
    clear ho9 hg9 hb9;go_wp2_with fail
    go_loopw [11] (fun vi wr => ∃ (i : Int), -1 <= i /\ i <= (m : Int) + 1 /\ vi = .int .i64 i /\ Hid (Below w9.heap.size w9 wr)) (fun vi _ => ((m : Int) + 2 - intOf vi).toNat)
    case atStart => exact ⟨-1, by omega, by omega, rfl, Hd (Below.refl _ _)⟩
    case round =>
      obtain ⟨i, hi0, hi1, rfl, hbr⟩ := hrel;have hb5r := Hd (hb59.out.trans (hbr.out.mono hb59.out.size))
      by_cases hlt1 : i <= (m : Int)
      · have i1 : decide (i <= (m : Int)) = true := by rw [decide_eq_true_eq]; exact hlt1
        have hpv := Hd (pvalue_any hTab.out A m c wr (hsq.out.below QEl.to hb5r.out) (by have := htx.out; omega) i);rw [val_eq hTab.out] at hpv;obtain ⟨VS, hVS⟩ : ∃ S, strOf (valQ t i) = S := ⟨_, rfl⟩;rw [hVS] at hpv;obtain ⟨wz, rfl⟩ : ∃ wz, wz = wr := ⟨wr, rfl⟩;go_wp2_with fail;refine hpv.out.mono ?_;rintro e wa ⟨rfl, hba⟩;have hbza := Hd hba;have hb5a := Hd (hb5r.out.trans (hba.mono hb5r.out.size));have hrv := Hd (rvalue_any hTab.out A m c wa (hsq.out.below QEl.to hb5a.out) (by have := htx.out; omega) i);rw [hVS] at hrv;clear hba hpv hVS;go_wp2_with fail;refine hrv.out.mono ?_;rintro e wb ⟨rfl, hwb⟩;subst hwb;have hss : (VS.toList != VS.toList) = false := (by simp);clear hrv;go_wp2_with fail
        go_loopw [12] (fun vk wr => ∃ (k : Nat), k <= 14 /\ vk = .int .i64 (k : Nat) /\ Hid (Below wz.heap.size wz wr)) (fun vk _ => 14 - (intOf vk).toNat)
        case atStart => exact ⟨0, by omega, rfl, hbza⟩
        case round =>
          obtain ⟨k, hk, rfl, hbk⟩ := hrel;have hb5k := Hd (hb5r.out.trans (hbk.out.mono hb5r.out.size))
          by_cases hlt2 : k < 14
          · skip
            have k1 : decide ((k : Int) < 14) = true := by rw [decide_eq_true_eq]; omega
            have k2 : decide (k < 14) = true := by rw [decide_eq_true_eq]; omega
            have k3 : (k : Int) < 14 := by omega
            by_cases hm120 : m < 120
            · have j1 : decide ((m : Int) < 120) = true := by rw [decide_eq_true_eq]; omega
              have j2 : decide (m < 120) = true := by rw [decide_eq_true_eq]; omega
              have hwd : Below wr.heap.size wr wr.drew := Joins.below_draws wr.heap.size wr 1;obtain ⟨ba, oa, X, rfl, hbX, hX, hcX⟩ := Ky.Ts.at_ (hal.out.below (hbr.out.trans (hbk.out.mono hbr.out.size))) hlt2;have hax1 := Hd (paxis_any hTab.out A m c wr.drew (hsq.out.below QEl.to (hb5k.out.trans (hwd.mono hb5k.out.size))) X i (by omega));have hrx := Hd (fun (y : World) (hy : Below wr.heap.size wr y) => raxis_any hTab.out A m c y (hsq.out.below QEl.to (hb5k.out.trans (hy.mono hb5k.out.size))) X i (by omega));have hcX' := Hd (fun (y : World) (hy : Below wr.heap.size wr y) => (hy.cell (p := ⟨ba, oa + k, none⟩) hbX).trans hcX);have hwdH := Hd hwd;have hcd : wr.drew.cell? ⟨ba, oa + k, none⟩ = some (tv X) := (hwd.cell (p := ⟨ba, oa + k, none⟩) hbX).trans hcX
              have axe : Hid (axP t X i = axR t X i) := Hd (by
                unfold axP axR
                split
                · rfl
                · exact axis_eq hTab.out (by have := hlt.out; omega) X)
              have i7 : (k : Int) < 14 := (by omega);clear hX hcX hwd hbX;obtain ⟨SX, hSX⟩ : ∃ S, strOf X = S := ⟨_, rfl⟩;rw [Ky.tv, hSX] at hcd;rw [hSX] at hax1;simp only [Ky.tv, hSX] at hcX' hrx;clear hSX
              go_upto_region 18 with fail
              refine Pl.wp_region_plan 13 (.take 0 (.take 1 (.take 2 (.take 3 (.take 4 (.take 5 (.take 7 (.take 8 (.take 9 (.take 10 (.take 11 (.take 12 (.run 6 .done))))))))))))) (fun x => x.cell? ⟨ba, oa + k, none⟩ = some (.string SX)) (by kernel_rfl) (by kernel_rfl) (by exact hcd) ?_;simp only [Pl.fill, Al_4, Al_5, Al_6, Al_7]
              iterate 12
                first
                | (refine Pl.take_go ?_ (by rfl) (fun _ _ _ h => h) ?_ ?_
                   rotate_left
                   · (intro x hSw; (try (dsimp only at hSw)); go_simp; try with_reducible rfl)
                   (try simp only [Act.put, Al_1, Al_2, Al_3]))
                | (refine Pl.take_skip (by rfl) (fun _ _ _ h => h) ?_
                   (try simp only [Act.put, Al_1, Al_2, Al_3]))
              refine Pl.run_go (fun K hK => ?_);go_simp;refine hax1.out.mono ?_;rintro e wc ⟨A5, m5, c5, rfl, hs5, hb5⟩;have hbwc := Hd (hwdH.out.trans (hb5.mono hwdH.out.size));have hcc := Hd (hrx.out wc hbwc.out);have hs5H := Hd hs5;clear hb5 hs5 hax1;dsimp only;refine hK.out _ _ (Pl.more_go (fun x => x.cell? ⟨ba, oa + k, none⟩ = some (.string SX)) (fun _ h => h) (by exact hcX'.out _ hbwc.out) ?_);clear hK K
              try simp only [Act.put, Al_1, Al_2, Al_3]
              refine Pl.done_go ?_;go_wp2_with fail;refine hcc.out.mono ?_;rintro e we ⟨A6, m6, c6, rfl, ho6, hb6⟩;have hbwe := Hd (hbwc.out.trans (hb6.mono hbwc.out.size));have hin := Hd (ints_any _ _ _ (axP t X i) _ _ _ (axR t X i) we (hs5H.out.below IEl.to hb6) (ho6.sq' (by decide)));rw [axe.out, decide_eq_true rfl] at hin;clear hcc ho6 hb6;go_wp2_with fail;refine hin.out.mono ?_;rintro e wf ⟨rfl, hb7⟩;have hbzf := Hd (hbk.out.trans ((hbwe.out.trans (hb7.mono hbwe.out.size)).mono hbk.out.size));clear hin hb7;go_wp2_with fail;go_roundw
              case rel => exact ⟨k + 1, by omega, by go_num, hbzf⟩
              case measure => simp [intOf]; omega
            · have j1 : decide ((m : Int) < 120) = false := by rw [decide_eq_false_iff_not]; omega
              have j2 : decide (m < 120) = false := by rw [decide_eq_false_iff_not]; omega
              have hbrr := Hd (hbr.out.trans (hbk.out.mono hbr.out.size));go_wp2_with fail;go_roundw
              case rel => exact ⟨i + 1, by omega, by omega, by go_num, hbrr⟩
              case measure => simp [intOf]; omega
          · skip
            have k1 : decide ((k : Int) < 14) = false := by rw [decide_eq_false_iff_not]; omega
            have k2 : decide (k < 14) = false := by rw [decide_eq_false_iff_not]; omega
            have hbrr := Hd (hbr.out.trans (hbk.out.mono hbr.out.size));go_wp2_with fail;go_roundw
            case rel => exact ⟨i + 1, by omega, by omega, by go_num, hbrr⟩
            case measure => simp [intOf]; omega
      · have i1 : decide (i <= (m : Int)) = false := by rw [decide_eq_false_iff_not]; exact hlt1
        have hbF := Hd (hb09.out.trans (hbr.out.mono hb09.out.size));go_wp2_with fail;go_ret;exact ⟨rfl, hbF.out⟩
end Go.Proofs.YtdnfnkicmfkkmaaGreatDoor.Vw
end

section
namespace Go.Proofs.YtdnfnkicmfkkmaaGreatDoor.Vw
open Go.RowKit UtfW Xl Xt Xo No
open Go.Proofs.YtdnfnkicmfkkmaaGreatDoor (Ky.frontB Ky.Rl)
open Go.Proofs.YtdnfnkicmfkkmaaGreatDoor.Ky (Ts OwX tv join Rs)
end Go.Proofs.YtdnfnkicmfkkmaaGreatDoor.Vw
end

section
namespace Go.Proofs.YtdnfnkicmfkkmaaGreatDoor.Vw
open Go.RowKit UtfW Xl Xt Xo No
open Go.Proofs.YtdnfnkicmfkkmaaGreatDoor (Ky.frontB Ky.Rl)
open Go.Proofs.YtdnfnkicmfkkmaaGreatDoor.Ky (Ts OwX tv join Rs)
end Go.Proofs.YtdnfnkicmfkkmaaGreatDoor.Vw
end
