/- The document's Elements. Printed by no_rf.py. -/
import Derived.Test.YtdnfnkicmfkkmaaGreatDoorVUtfEnc
import Derived.Test.YtdnfnkicmfkkmaaGreatDoorVKyLine
import Derived.Test.YtdnfnkicmfkkmaaGreatDoorVXtW
import Derived.Test.YtdnfnkicmfkkmaaGreatDoorVKyRd
import Derived.Test.YtdnfnkicmfkkmaaGreatDoorVNoRb
import Derived.Test.YtdnfnkicmfkkmaaGreatDoorVNoOrd
import Derived.Test.YtdnfnkicmfkkmaaGreatDoorVXpDoc
import Derived.Test.YtdnfnkicmfkkmaaGreatDoorVStrLaws
set_option linter.unusedVariables false
set_option linter.unusedSimpArgs false
section
namespace Go.Proofs.YtdnfnkicmfkkmaaGreatDoor.No
open Go.RowKit UtfW Xl Xt Xo
open Go.Proofs.YtdnfnkicmfkkmaaGreatDoor.Ky (OwX)
def VCur (T : Nat) (X : Nat -> Prop) (x : World) (cur : Nd) : Prop := ∃ vs, x.heap[T]? = some (.cells vs.toArray 26) /\ NdI X x vs cur
theorem VCur.stay {T : Nat} {X : Nat -> Prop} {x x' : World} {cur : Nd} (h : VCur T X x cur) (hT : x'.heap[T]? = x.heap[T]?) (hX : ∀ k, X k -> x'.heap[k]? = x.heap[k]?) : VCur T X x' cur := by
 obtain ⟨vs, h1, h2⟩ := h;exact ⟨vs, hT.trans h1, h2.stay fun k hk => ⟨hk, hX k hk⟩⟩
theorem VCur.open_ {T : Nat} {X : Nat -> Prop} {x : World} {cur : Nd} (h : VCur T X x cur) : ∃ kd nm tx as_ kz Aa ca Ak ck, cur = .mk kd nm tx as_ kz /\ x.heap[T]? = some (.cells #[.int .i64 kd, .string (strOf nm), .string (strOf tx), .slice Aa as_.length ca, .slice Ak kz.length ck] 26) ∧
  Sq AtEl 2 x Aa as_.length ca as_ /\ Sq (NdE X) 5 x Ak kz.length ck kz := by
 obtain ⟨vs, h1, h2⟩ := h
 cases cur with
 | mk kd nm tx as_ kz =>
  obtain ⟨Aa, ca, Ak, ck, rfl, hA, hK, _, _⟩ := h2.cells;exact ⟨kd, nm, tx, as_, kz, Aa, ca, Ak, ck, rfl, h1, hA, hK⟩
theorem list5_of {α : Type} {l : List α} (h : l.length = 5) : ∃ a b c d e, l = [a, b, c, d, e] := by
 match l, h with
 | [a, b, c, d, e], _ => exact ⟨a, b, c, d, e, rfl⟩
theorem own_set {x : World} {B E n c T : Nat} {A : Option Addr} {ps : List Tx} (h : OwX x B E (.slice A n c) ps) (hT : T < B) (i : Nat) (u : Value) : OwX (x.setCell ⟨T, i, none⟩ u) B E (.slice A n c) ps :=
 World.ownsRow.kept h (grown_set x ⟨T, i, none⟩ u) (.inr fun e => by have := (World.ownsRow.lt h T e).1; omega)
theorem find_none_of {l : List At} {p : Tx} (h : ∀ (q : Nat) y, l[q]? = some y -> y.1 ≠ p) : (l.find? fun a => decide (a.1 = p)) = none := by
 rw [List.find?_eq_none];intro x hx he;obtain ⟨i, hi⟩ := List.mem_iff_getElem?.1 hx;exact h i x hi (of_decide_eq_true he)
theorem find_at {p : Tx} : ∀ {l : List At} {j : Nat} {y : At}, (∀ (q : Nat) z, q < j -> l[q]? = some z -> z.1 ≠ p) -> l[j]? = some y -> y.1 = p -> (l.find? fun a => decide (a.1 = p)) = some y
 | [], j, y, _, h, _ => by simp at h
 | x :: l, 0, y, _, h, e => by
  simp only [List.getElem?_cons_zero, Option.some.injEq] at h;subst h;rw [List.find?_cons_of_pos (by simpa using e)]
 | x :: l, j + 1, y, h1, h, e => by
  have h0 := h1 0 x (Nat.succ_pos j) rfl;rw [List.find?_cons_of_neg (by simpa using h0)];exact find_at (l := l) (j := j) (y := y) (fun q z hq hz => h1 (q + 1) z (Nat.succ_lt_succ hq) (by simpa using hz)) (by simpa using h) e
theorem onlyK_snoc {ks : List Nd} {j : Nat} {x : Nd} {p : Tx} (h : ks[j]? = some x) : onlyK (ks.take (j + 1)) p = onlyK (ks.take j) p ++ (if x.kind = 1 /\ x.name = p then [x] else []) := by
 unfold onlyK;rw [take_snoc h, List.filter_append]
 congr 1
 by_cases h1 : x.kind = 1 <;> by_cases h2 : x.name = p <;> simp [List.filter, h1, h2]
theorem onlyK_mem {ks : List Nd} {p : Tx} {x : Nd} (h : x ∈ onlyK ks p) : x ∈ ks := (List.mem_filter.1 h).1
section
variable {w : World} {X : Nat -> Prop}
set_option maxHeartbeats 20000000 in
set_option maxRecDepth 100000 in
theorem rvalue_parts (vs : List Value) (n : Nd) (ps : List Tx) (path : Tx) (hn : NdI X w vs n) (hX : ∀ j, X j -> j < w.heap.size) (hw : wN n <= 1000000) (hpl : path.length <= 900000) (hdot : path ≠ [46]) (hps : Ky.split 47 path = ps) (hne : ∀ p ∈ ps, p ≠ []) :
    Calls Tryz.prog 131 #[.agg vs.toArray, .string (strOf path)] w fun e w' => e = .returned (.tuple #[.string (strOf ((valueP ps n).getD [])), .bool (valueP ps n).isSome]) /\ Below w.heap.size w w' := by
  have hsp := Hd (fun x => Ky.refSplit_any (strOf path) 47 (by rw [strOf_size']; exact hpl) x)
  have hse : ((strOf path).toList == [46]) = false := by
    rw [Lib.toList_data, strOf_data'];exact beq_eq_false_iff_ne.2 hdot
  obtain ⟨PS, hPS⟩ : ∃ S, strOf path = S := ⟨_, rfl⟩;rw [hPS] at hse;have hpd : (strOf path).data.toList = path := strOf_data' path;rw [hPS] at hpd;rw [hPS] at hsp ⊢;simp only [hpd] at hsp;rw [hps] at hsp;obtain ⟨np, hnp⟩ : ∃ np, ps.length = np := ⟨_, rfl⟩;rw [hnp] at hsp;obtain ⟨T, hT⟩ : ∃ T, w.heap.size = T := ⟨_, rfl⟩;obtain ⟨w1, hw1⟩ : ∃ w1, w.alloc (.cells vs.toArray 26) = w1 := ⟨_, rfl⟩;have hb1 : Below w.heap.size w w1 := by rw [<- hw1]; exact (Below.refl _ _).alloc (Nat.le_refl _) _
  have hs1 : w1.heap.size = T + 1 := by rw [<- hw1, World.size_alloc, hT]
  have hv1 : Hid (VCur T X w1 n) := Hd ⟨vs, by rw [<- hw1, <- hT]; exact heap_alloc_new w _, hn.later hX hb1⟩;obtain ⟨R, hR⟩ : ∃ R, valueP ps n = R := ⟨_, rfl⟩;rw [hR];have hR' := Hd hR;have hXT : Hid (∀ j, X j -> j < T) := Hd (by rw [<- hT]; exact hX);have hw' := Hd hw;have hne' := Hd hne;have hnp' := Hd hnp;have hb1' := Hd hb1;have hs1' := Hd hs1;have hTw := Hd hT;have hvl : vs.length = 5 := hn.len;obtain ⟨v0, v1, v2, v3, v4, rfl⟩ : ∃ a b c d e, vs = [a, b, c, d, e] := list5_of hvl;clear hps hpd hPS hpl hdot hX hb1 hs1 hR hw hne hnp hn hvl
  go_enter Tryz.func131, Tryz.ntmps131
  go_wp2_with fail;refine (hsp.out _).mono ?_;rintro e w2 ⟨AL, cL, rfl, hb2, hol⟩;have hb02 := Hd (hb1'.out.trans (hb2.mono hb1'.out.size));have hv2 := Hd (hv1.out.stay (hb2.block T (by have := hs1'.out; omega)) fun j hj => hb2.block j (by have := hXT.out j hj; have := hs1'.out; omega));have hol2 : Hid (OwX w2 (T + 1) 9 (.slice AL np cL) ps) := Hd (by have := hol; rw [hs1'.out] at this; exact this);have l5 := Rd.le hol.rd;have l6 := Rd.max hol.rd;clear hb2 hol hsp hv1 hw1 hse;go_wp2_with fail
  go_loopw [7] (fun i wr => ∃ (k : Nat), k <= np /\ i = .int .i64 k /\ Hid (∃ cur, VCur T X wr cur /\ valueP (ps.drop k) cur = R /\ wN cur <= 1000000) /\ Hid (OwX wr (T + 1) 9 (.slice AL np cL) ps) /\ Hid (Below w.heap.size w wr)) (fun i _ => np - (intOf i).toNat)
  case atStart => exact ⟨0, by omega, rfl, Hd ⟨n, hv2.out, by rw [List.drop_zero]; exact hR'.out, hw'.out⟩, hol2, hb02⟩
  case round =>
    obtain ⟨k, hk, rfl, hcur, hol, hb⟩ := hrel;clear hv2 hol2 hb02;obtain ⟨cur, hvc, hval, hwc⟩ := hcur.out;obtain ⟨kd, nm, tx, as_, kz, Aa, ca, Ak, ck, rfl, hTb, hA, hK⟩ := hvc.open_;obtain ⟨la, hla⟩ : ∃ la, as_.length = la := ⟨_, rfl⟩;obtain ⟨lk, hlk⟩ : ∃ lk, kz.length = lk := ⟨_, rfl⟩;obtain ⟨S1, hS1⟩ : ∃ S, strOf nm = S := ⟨_, rfl⟩;obtain ⟨S2, hS2⟩ : ∃ S, strOf tx = S := ⟨_, rfl⟩;rw [hla, hlk, hS1, hS2] at hTb;rw [hla] at hA;rw [hlk] at hK;have t3 : wr.cell? ⟨T, 3, none⟩ = some (.slice Aa la ca) := Xp.cell_blk hTb (i := 3) rfl;have t4 : wr.cell? ⟨T, 4, none⟩ = some (.slice Ak lk ck) := Xp.cell_blk hTb (i := 4) rfl;have hTl : T < wr.heap.size := (Array.getElem?_eq_some_iff.1 hTb).1;have l1 := hA.le;have l2 := hA.max;have l3 := hK.le;have l4 := hK.max;rw [wN] at hwc;have hwc' := Hd hwc;have hvalH := Hd hval;have hTbH := Hd hTb;have hAH := Hd hA;have hKH := Hd hK;have hTlH := Hd hTl;have hlkH := Hd hlk;have hlaH := Hd hla;clear hvc hval hwc hTb hA hK hla hlk hS1 hS2 hTl
    by_cases hlt : k < np
    · have i1 : decide ((k : Int) < (np : Int)) = true := by rw [decide_eq_true_eq]; omega
      have i2 : decide (k < np) = true := by rw [decide_eq_true_eq]; omega
      have i3 : (k : Int) < (np : Int) := (by omega);obtain ⟨b, off, p, eAL, hbl, hp, k0⟩ := hol.out.rd.at_ hlt;subst eAL;have hpne : p ≠ [] := hne'.out p (List.mem_of_getElem? hp);obtain ⟨c0, pr, rfl⟩ : ∃ c0 pr, p = c0 :: pr := by cases p with | nil => exact absurd rfl hpne | cons a b => exact ⟨a, b, rfl⟩
      obtain ⟨S, hS⟩ : ∃ S, strOf (c0 :: pr) = S := ⟨_, rfl⟩;simp only [Ky.tv, hS] at k0
      have hdrop : Hid (ps.drop k = (c0 :: pr) :: ps.drop (k + 1)) := Hd (by
        have h1 := (List.getElem?_eq_some_iff.1 hp);obtain ⟨l1, e1⟩ := h1
        rw [List.drop_eq_getElem_cons l1, e1])
      have e3 : 0 < S.size := by rw [<- hS, strOf_size']; simp
      have hb64 : (((S[0]'e3).toNat : Int) == 64) = decide (c0 = 64) := by
        subst hS;rw [Bool.eq_iff_iff, beq_iff_eq, decide_eq_true_eq];constructor
        · intro h
          have h2 : (c0.toNat : Int) = 64 := h;exact UInt8.toNat_inj.1 (by rw [show c0.toNat = 64 by omega]; rfl)
        · intro h
          subst h;rfl
      have hpH := Hd hp;have hblH := Hd hbl;have hSH := Hd hS;clear hpne hp hbl hcur;obtain ⟨wx, hwx⟩ : ∃ z, z = wr := ⟨_, rfl⟩;subst hwx
      by_cases hc : c0 = 64
      · subst hc
        rw [decide_eq_true rfl] at hb64;have hRf : Hid (R = (as_.find? fun a => decide (a.1 = pr)).map (·.2)) := Hd (by rw [<- hvalH.out, hdrop.out]; unfold valueP; rw [if_pos (show (64 :: pr : Tx).head? = some 64 from rfl)]; rfl);have e5 : S.extract 1 S.size = strOf pr := by rw [<- hS]; exact Ky.strOf_drop1 64 pr
        have e6 : 1 <= S.size := e3;have e7 : (1 : Int) <= (S.size : Int) := (by omega);have e8 : (0 : Int) <= 1 /\ (1 : Int) <= (S.size : Int) := ⟨by omega, e7⟩;clear hS;go_wp2_with fail;clear hb64
        go_loopw [8] (fun i wq => ∃ j : Nat, j <= la /\ i = .int .i64 j /\ Hid (∀ (q : Nat) y, q < j -> as_[q]? = some y -> y.1 ≠ pr) /\ Hid (Below wx.heap.size wx wq)) (fun i _ => la - (intOf i).toNat)
        case atStart => exact ⟨0, by omega, rfl, Hd (fun q y hq => absurd hq (by omega)), Hd (Below.refl _ _)⟩
        case round =>
          obtain ⟨j, hj, rfl, hno, hb3⟩ := hrel;have s3 := (hb3.out.cell (p := ⟨T, 3, none⟩) hTlH.out).trans t3;have sk := (hb3.out.cell (p := ⟨b, off + k, none⟩) hblH.out).trans k0
          by_cases hjl : j < la
          · have q1 : decide ((j : Int) < (la : Int)) = true := by rw [decide_eq_true_eq]; omega
            have q2 : decide (j < la) = true := by rw [decide_eq_true_eq]; omega
            have q3 : (j : Int) < (la : Int) := (by omega);obtain ⟨b2, off2, y, vs2, eAa, hbl2, hy, hvs2, hel2, hcs2⟩ := (hAH.out.below AtEl.to hb3.out).at_ hjl;subst eAa;obtain ⟨y1, y2⟩ := y;obtain rfl : vs2 = [.string (strOf y1), .string (strOf y2)] := hel2;have n0 : wr.cell? ⟨b2, off2 + j * 2, none⟩ = some (.string (strOf y1)) := hcs2 0 _ rfl;have n1 : wr.cell? ⟨b2, off2 + j * 2 + 1, none⟩ = some (.string (strOf y2)) := hcs2 1 _ rfl;have hse := Ky.str_eq y1 pr;have hyH := Hd hy;have hbl2H := Hd hbl2;obtain ⟨U1, hU1⟩ : ∃ S, strOf y1 = S := ⟨_, rfl⟩;obtain ⟨PR, hPR⟩ : ∃ S, strOf pr = S := ⟨_, rfl⟩;rw [hU1] at n0;rw [hU1, hPR] at hse;rw [hPR] at e5;clear hcs2 hvs2 hy hbl2 hU1 hPR
            cases hd : decide (y1 = pr) with
            | true =>
              rw [hd] at hse;have hv : Hid (R = some y2) := Hd (by rw [hRf.out, find_at hno.out hyH.out (of_decide_eq_true hd)]; rfl);clear hd;go_wp2_with fail;refine Pl.wp_region_plan 11 (.take 0 (.take 1 (.take 2 (.take 3 (.take 4 (.take 5 (.take 6 (.take 7 (.take 8 (.take 9 (.take 10 .done))))))))))) (fun x => x.cell? ⟨T, 3, none⟩ = some (.slice (some ⟨b2, off2, none⟩) la ca) /\ x.cell? ⟨b2, off2 + j * 2, none⟩ = some (.string U1) /\ x.cell? ⟨b, off + k, none⟩ = some (.string S)) (by kernel_rfl) (by kernel_rfl) (by exact ⟨s3, n0, sk⟩) ?_;simp only [Pl.fill, Al_4, Al_5, Al_6, Al_7]
              iterate 11
                first
                | (refine Pl.take_go ?_ (by rfl) (fun _ _ _ h => h) ?_ ?_
                   rotate_left
                   · (intro x hSw; (try (dsimp only at hSw)); go_simp; try with_reducible rfl)
                   (try simp only [Act.put, Al_1, Al_2, Al_3]))
                | (refine Pl.take_skip (by rfl) (fun _ _ _ h => h) ?_
                   (try simp only [Act.put, Al_1, Al_2, Al_3]))
              refine Pl.done_go ?_;have hdw := Hd (Joins.below_draws wr.heap.size wr 1);have r3 : wr.drew.cell? ⟨T, 3, none⟩ = some (.slice (some ⟨b2, off2, none⟩) la ca) := s3;have r1 : wr.drew.cell? ⟨b2, off2 + j * 2 + 1, none⟩ = some (.string (strOf y2)) := n1;clear s3 n0 n1 sk;go_wp2_with fail
              go_ret2
              exact ⟨by rw [hv.out]; rfl, hb.out.trans ((hb3.out.trans (hdw.out.mono hb3.out.size)).mono hb.out.size)⟩
            | false =>
              rw [hd] at hse
              have hno2 : Hid (∀ (q : Nat) z, q < j + 1 -> as_[q]? = some z -> z.1 ≠ pr) := Hd fun q z hq hz => by
                by_cases e : q = j
                · subst e
                  rw [hyH.out] at hz;injection hz with hz;rw [<- hz];exact of_decide_eq_false hd
                · exact hno.out q z (by omega) hz
              clear hd;go_wp2_with fail;refine Pl.wp_region_plan 11 (.take 0 (.take 1 (.take 2 (.take 3 (.take 4 (.take 5 (.take 6 (.take 7 (.take 8 (.take 9 (.take 10 .done))))))))))) (fun x => x.cell? ⟨T, 3, none⟩ = some (.slice (some ⟨b2, off2, none⟩) la ca) /\ x.cell? ⟨b2, off2 + j * 2, none⟩ = some (.string U1) /\ x.cell? ⟨b, off + k, none⟩ = some (.string S)) (by kernel_rfl) (by kernel_rfl) (by exact ⟨s3, n0, sk⟩) ?_;simp only [Pl.fill, Al_4, Al_5, Al_6, Al_7]
              iterate 11
                first
                | (refine Pl.take_go ?_ (by rfl) (fun _ _ _ h => h) ?_ ?_
                   rotate_left
                   · (intro x hSw; (try (dsimp only at hSw)); go_simp; try with_reducible rfl)
                   (try simp only [Act.put, Al_1, Al_2, Al_3]))
                | (refine Pl.take_skip (by rfl) (fun _ _ _ h => h) ?_
                   (try simp only [Act.put, Al_1, Al_2, Al_3]))
              refine Pl.done_go ?_;have hdw := Hd (Joins.below_draws wr.heap.size wr 1);clear s3 n0 n1 sk;go_wp2_with fail;go_roundw
              case rel => exact ⟨j + 1, by omega, by go_num, hno2, Hd (hb3.out.trans (hdw.out.mono hb3.out.size))⟩
              case measure => simp [intOf]; omega
          · have q1 : decide ((j : Int) < (la : Int)) = false := by rw [decide_eq_false_iff_not]; omega
            have q2 : decide (j < la) = false := by rw [decide_eq_false_iff_not]; omega
            have hv : Hid (R = none) := Hd (by
              rw [hRf.out, find_none_of fun q y hy => hno.out q y (by have := (List.getElem?_eq_some_iff.1 hy).1; have := hlaH.out; omega) hy]
              rfl)
            go_wp2_with fail
            go_ret2
            exact ⟨by rw [hv.out]; rfl, hb.out.trans (hb3.out.mono hb.out.size)⟩
      · rw [decide_eq_false hc] at hb64
        have hnx : Hid (R = match onlyK kz (c0 :: pr) with | [x] => valueP (ps.drop (k + 1)) x | _ => none) := Hd (by
          rw [<- hvalH.out, hdrop.out]
          conv => lhs; unfold valueP
          rw [if_neg (by simpa using hc)]
          rfl)
        clear hS;obtain ⟨N, hN⟩ : ∃ N, wx.heap.size = N := ⟨_, rfl⟩;obtain ⟨w3, hw3⟩ : ∃ w3, wx.alloc (.cells #[.int .i64 0, .string ⟨#[]⟩, .string ⟨#[]⟩, .slice none 0 0, .slice none 0 0] 26) = w3 := ⟨_, rfl⟩;have hb3a : Below wx.heap.size wx w3 := by rw [<- hw3]; exact (Below.refl _ _).alloc (Nat.le_refl _) _
        have hn3 : w3.heap[N]? = some (.cells #[.int .i64 0, .string ⟨#[]⟩, .string ⟨#[]⟩, .slice none 0 0, .slice none 0 0] 26) := by rw [<- hw3, <- hN]; exact heap_alloc_new wx _
        have hv3 : Hid (VCur N X w3 (.mk 0 [] [] [] [])) := Hd ⟨_, hn3, nd_leaf rfl rfl⟩;have hb3 := Hd hb3a;have hNH := Hd hN;have hXx : Hid (∀ j, X j -> j < wx.heap.size) := Hd fun j hj => Nat.lt_trans (hXT.out j hj) hTlH.out
        have hSeq : Hid (∀ t : Tx, ((strOf t).toList == S.toList) = decide (t = c0 :: pr)) := Hd fun t => by rw [<- hSH.out]; exact Ky.str_eq t (c0 :: pr)
        clear hb3a hn3;go_wp2_with fail;clear hw3 hN hb64
        go_loopw [9, 11] (fun mv i wq => ∃ (j m : Nat), j <= lk /\ m <= j /\ i = .int .i64 j /\ mv = .int .i64 m /\ Hid (m = (onlyK (kz.take j) (c0 :: pr)).length) /\ Hid (∃ y, VCur N X wq y /\ ∀ l0 z, onlyK (kz.take j) (c0 :: pr) = l0 ++ [z] -> y = z) /\ Hid (Below wx.heap.size wx wq)) (fun _ i _ => lk - (intOf i).toNat)
        case atStart => exact ⟨0, 0, by omega, by omega, rfl, rfl, Hd rfl, Hd ⟨_, hv3.out, fun l0 z h => by have := congrArg List.length h; simp [onlyK] at this⟩, hb3⟩
        case round =>
          obtain ⟨j, m, hj, hmj, rfl, rfl, hm, hvy, hb4⟩ := hrel;clear hv3 hb3;have s4 := (hb4.out.cell (p := ⟨T, 4, none⟩) hTlH.out).trans t4;have sk := (hb4.out.cell (p := ⟨b, off + k, none⟩) hblH.out).trans k0
          by_cases hjl : j < lk
          · have q1 : decide ((j : Int) < (lk : Int)) = true := by rw [decide_eq_true_eq]; omega
            have q2 : decide (j < lk) = true := by rw [decide_eq_true_eq]; omega
            have q3 : (j : Int) < (lk : Int) := (by omega);obtain ⟨b2, off2, kid, vs2, eAk, hbl2, hy, hvs2, hel2, hcs2⟩ := (Xp.sq_keep hKH.out hb4.out fun vs y h => NdI.later h hXx.out hb4.out).at_ hjl;subst eAk;obtain ⟨kd2, nm2, tx2, as2, kz2, rfl⟩ : ∃ kd nm tx as_ kz, kid = Nd.mk kd nm tx as_ kz := by cases kid; exact ⟨_, _, _, _, _, rfl⟩
            obtain ⟨A3, c3, A4, c4, rfl, _⟩ := hel2.cells;have hyH := Hd hy;have hbl2H := Hd hbl2;have hel2H := Hd hel2;have hse := hSeq.out nm2;obtain ⟨n3, hn3⟩ : ∃ n, as2.length = n := ⟨_, rfl⟩;obtain ⟨n4, hn4⟩ : ∃ n, kz2.length = n := ⟨_, rfl⟩;rw [hn3, hn4] at hcs2 hel2H;obtain ⟨U1, hU1⟩ : ∃ S, strOf nm2 = S := ⟨_, rfl⟩;obtain ⟨U2, hU2⟩ : ∃ S, strOf tx2 = S := ⟨_, rfl⟩;rw [hU1] at hse;rw [hU1, hU2] at hcs2 hel2H;have d0 : wr.cell? ⟨b2, off2 + j * 5, none⟩ = some (.int .i64 kd2) := hcs2 0 _ rfl;have d1 : wr.cell? ⟨b2, off2 + j * 5 + 1, none⟩ = some (.string U1) := hcs2 1 _ rfl;have d2 : wr.cell? ⟨b2, off2 + j * 5 + 2, none⟩ = some (.string U2) := hcs2 2 _ rfl;have d3 : wr.cell? ⟨b2, off2 + j * 5 + 3, none⟩ = some (.slice A3 n3 c3) := hcs2 3 _ rfl;have d4 : wr.cell? ⟨b2, off2 + j * 5 + 4, none⟩ = some (.slice A4 n4 c4) := hcs2 4 _ rfl;clear hcs2 hvs2 hy hbl2 hel2 hU1 hU2 hn3 hn4
            go_upto_region 19 with fail
            go_cut [82] (fun v wy => ∃ cnd : Bool, v = .bool cnd /\ Hid (cnd = true ↔ kd2 = 1 /\ nm2 = c0 :: pr) /\ Hid (Below wr.heap.size wr wy))
            case first =>
              by_cases hk1 : kd2 = 1
              · have e9 : (kd2 == 1) = true := by rw [hk1]; rfl
                cases hd : decide (nm2 = c0 :: pr) with
                | true =>
                  rw [hd] at hse;have hcnd : Hid (true = true ↔ kd2 = 1 /\ nm2 = c0 :: pr) := Hd ⟨fun _ => ⟨hk1, of_decide_eq_true hd⟩, fun _ => rfl⟩;clear hd hk1 d2 d3 d4;go_wp2_with fail;refine Pl.wp_region_plan 18 (.take 0 (.take 1 (.take 2 (.take 3 (.take 4 (.take 5 (.take 6 (.take 7 (.take 8 (.take 9 (.take 10 (.take 11 (.take 12 (.take 13 (.take 14 (.take 15 (.take 16 (.take 17 .done)))))))))))))))))) (fun x => x.cell? ⟨T, 4, none⟩ = some (.slice (some ⟨b2, off2, none⟩) lk ck) /\ x.cell? ⟨b2, off2 + j * 5, none⟩ = some (.int .i64 kd2) /\ x.cell? ⟨b2, off2 + j * 5 + 1, none⟩ = some (.string U1) /\ x.cell? ⟨b, off + k, none⟩ = some (.string S)) (by kernel_rfl) (by kernel_rfl) (by exact ⟨s4, d0, d1, sk⟩) ?_;simp only [Pl.fill, Al_4, Al_5, Al_6, Al_7]
                  iterate 18
                    first
                    | (refine Pl.take_go ?_ (by rfl) (fun _ _ _ h => h) ?_ ?_
                       rotate_left
                       · (intro x hSw; (try (dsimp only at hSw)); go_simp; try with_reducible rfl)
                       (try simp only [Act.put, Al_1, Al_2, Al_3]))
                    | (refine Pl.take_skip (by rfl) (fun _ _ _ h => h) ?_
                       (try simp only [Act.put, Al_1, Al_2, Al_3]))
                  refine Pl.done_go ?_;clear s4 d0 d1 sk;go_wp2_with fail
                  go_meet
                  exact ⟨_, rfl, Hd (by simpa using hcnd.out), Hd (Joins.below_draws _ _ 1)⟩
                | false =>
                  rw [hd] at hse;have hcnd : Hid (false = true ↔ kd2 = 1 /\ nm2 = c0 :: pr) := Hd ⟨fun h => absurd h (by decide), fun h => absurd h.2 (of_decide_eq_false hd)⟩;clear hd hk1 d2 d3 d4;go_wp2_with fail;refine Pl.wp_region_plan 18 (.take 0 (.take 1 (.take 2 (.take 3 (.take 4 (.take 5 (.take 6 (.take 7 (.take 8 (.take 9 (.take 10 (.take 11 (.take 12 (.take 13 (.take 14 (.take 15 (.take 16 (.take 17 .done)))))))))))))))))) (fun x => x.cell? ⟨T, 4, none⟩ = some (.slice (some ⟨b2, off2, none⟩) lk ck) /\ x.cell? ⟨b2, off2 + j * 5, none⟩ = some (.int .i64 kd2) /\ x.cell? ⟨b2, off2 + j * 5 + 1, none⟩ = some (.string U1) /\ x.cell? ⟨b, off + k, none⟩ = some (.string S)) (by kernel_rfl) (by kernel_rfl) (by exact ⟨s4, d0, d1, sk⟩) ?_;simp only [Pl.fill, Al_4, Al_5, Al_6, Al_7]
                  iterate 18
                    first
                    | (refine Pl.take_go ?_ (by rfl) (fun _ _ _ h => h) ?_ ?_
                       rotate_left
                       · (intro x hSw; (try (dsimp only at hSw)); go_simp; try with_reducible rfl)
                       (try simp only [Act.put, Al_1, Al_2, Al_3]))
                    | (refine Pl.take_skip (by rfl) (fun _ _ _ h => h) ?_
                       (try simp only [Act.put, Al_1, Al_2, Al_3]))
                  refine Pl.done_go ?_;clear s4 d0 d1 sk;go_wp2_with fail
                  go_meet
                  exact ⟨_, rfl, hcnd, Hd (Joins.below_draws _ _ 1)⟩
              · have e9 : (kd2 == 1) = false := beq_eq_false_iff_ne.2 hk1
                have hcnd : Hid (false = true ↔ kd2 = 1 /\ nm2 = c0 :: pr) := Hd ⟨fun h => absurd h (by decide), fun h => absurd h.1 hk1⟩;clear hk1 d2 d3 d4 hse;go_wp2_with fail;refine Pl.wp_region_plan 18 (.take 0 (.take 1 (.take 2 (.take 3 (.take 4 (.take 5 (.take 6 (.take 7 (.take 8 (.take 9 (.take 10 (.take 11 (.take 12 (.take 13 (.take 14 (.take 15 (.take 16 (.take 17 .done)))))))))))))))))) (fun x => x.cell? ⟨T, 4, none⟩ = some (.slice (some ⟨b2, off2, none⟩) lk ck) /\ x.cell? ⟨b2, off2 + j * 5, none⟩ = some (.int .i64 kd2) /\ x.cell? ⟨b2, off2 + j * 5 + 1, none⟩ = some (.string U1) /\ x.cell? ⟨b, off + k, none⟩ = some (.string S)) (by kernel_rfl) (by kernel_rfl) (by exact ⟨s4, d0, d1, sk⟩) ?_;simp only [Pl.fill, Al_4, Al_5, Al_6, Al_7]
                iterate 18
                  first
                  | (refine Pl.take_go ?_ (by rfl) (fun _ _ _ h => h) ?_ ?_
                     rotate_left
                     · (intro x hSw; (try (dsimp only at hSw)); go_simp; try with_reducible rfl)
                     (try simp only [Act.put, Al_1, Al_2, Al_3]))
                  | (refine Pl.take_skip (by rfl) (fun _ _ _ h => h) ?_
                     (try simp only [Act.put, Al_1, Al_2, Al_3]))
                refine Pl.done_go ?_;clear s4 d0 d1 sk;go_wp2_with fail
                go_meet
                exact ⟨_, rfl, hcnd, Hd (Joins.below_draws _ _ 1)⟩
            case rest =>
              obtain ⟨cnd, rfl, hcnd, hb5⟩ := hcut;have hb45 := Hd (hb4.out.trans (hb5.out.mono hb4.out.size));have hsn := onlyK_snoc (p := c0 :: pr) hyH.out;obtain ⟨y, hvyN, hlast⟩ := hvy.out;have hNlt : N < wr.heap.size := by obtain ⟨vsN, h1, _⟩ := hvyN; exact (Array.getElem?_eq_some_iff.1 h1).1
              have hvyc := hvyN.stay (x' := wc) (hb5.out.block N hNlt) fun q hq => hb5.out.block q (Nat.lt_of_lt_of_le (hXx.out q hq) hb4.out.size)
              cases cnd with
              | true =>
                have hc2 := hcnd.out.1 rfl;obtain ⟨vsN, h1N, h2N⟩ := hvyc;obtain ⟨x0, x1, x2, x3, x4, rfl⟩ := list5_of h2N.len;have f0 := (hb5.out.cell (p := ⟨b2, off2 + j * 5, none⟩) hbl2H.out).trans d0;have f1 := (hb5.out.cell (p := ⟨b2, off2 + j * 5 + 1, none⟩) hbl2H.out).trans d1;have f2 := (hb5.out.cell (p := ⟨b2, off2 + j * 5 + 2, none⟩) hbl2H.out).trans d2;have f3 := (hb5.out.cell (p := ⟨b2, off2 + j * 5 + 3, none⟩) hbl2H.out).trans d3;have f4 := (hb5.out.cell (p := ⟨b2, off2 + j * 5 + 4, none⟩) hbl2H.out).trans d4;have g4 := (hb45.out.cell (p := ⟨T, 4, none⟩) hTlH.out).trans t4;have z := fun i => frozen_of_row wc N i _ _ h1N
                have o0 : wc.cell? ⟨N, 0, none⟩ = some x0 := Xp.cell_blk h1N (i := 0) rfl;have o1 : wc.cell? ⟨N, 1, none⟩ = some x1 := Xp.cell_blk h1N (i := 1) rfl;have o2 : wc.cell? ⟨N, 2, none⟩ = some x2 := Xp.cell_blk h1N (i := 2) rfl;have o3 : wc.cell? ⟨N, 3, none⟩ = some x3 := Xp.cell_blk h1N (i := 3) rfl;have o4 : wc.cell? ⟨N, 4, none⟩ = some x4 := Xp.cell_blk h1N (i := 4) rfl;have hge : wx.heap.size <= N := Nat.le_of_eq hNH.out;have hq0 := (blk_setCell (blk_setCell (blk_setCell (blk_setCell (blk_setCell h1N (i := 0) (.int .i64 kd2)) (i := 1) (.string U1)) (i := 2) (.string U2)) (i := 3) (.slice A3 n3 c3)) (i := 4) (.slice A4 n4 c4));have hb0 := (Below.setCell (p := ⟨N, 4, none⟩) (Below.setCell (p := ⟨N, 3, none⟩) (Below.setCell (p := ⟨N, 2, none⟩) (Below.setCell (p := ⟨N, 1, none⟩) (Below.setCell (p := ⟨N, 0, none⟩) hb45.out hge (.int .i64 kd2)) hge (.string U1)) hge (.string U2)) hge (.slice A3 n3 c3)) hge (.slice A4 n4 c4));obtain ⟨w9, hw9⟩ : ∃ w9, (World.setCell (World.setCell (World.setCell (World.setCell (World.setCell wc ⟨N, 0, none⟩ (.int .i64 kd2)) ⟨N, 1, none⟩ (.string U1)) ⟨N, 2, none⟩ (.string U2)) ⟨N, 3, none⟩ (.slice A3 n3 c3)) ⟨N, 4, none⟩ (.slice A4 n4 c4)) = w9 := ⟨_, rfl⟩;rw [hw9] at hq0 hb0;have hq : Hid (w9.heap[N]? = some (.cells #[.int .i64 kd2, .string U1, .string U2, .slice A3 n3 c3, .slice A4 n4 c4] 26)) := Hd hq0;have hb9 := Hd hb0;have hw9H := Hd hw9;clear hq0 hb0 hw9;have hc2H := Hd hc2;clear hc2 hge h1N h2N hvyN hlast hNlt;rw [show (Nd.mk kd2 nm2 tx2 as2 kz2).kind = kd2 from rfl, show (Nd.mk kd2 nm2 tx2 as2 kz2).name = nm2 from rfl] at hsn;have hsnH := Hd hsn;clear hsn;clear d0 d1 d2 d3 d4 s4 sk hvy;go_wp2_with fail;go_roundw
                case rel =>
                  rw [hw9H.out];refine ⟨j + 1, m + 1, by omega, by omega, by go_num, by go_num, Hd ?_, Hd ⟨.mk kd2 nm2 tx2 as2 kz2, ⟨[.int .i64 kd2, .string U1, .string U2, .slice A3 n3 c3, .slice A4 n4 c4], hq.out, ?_⟩, fun l0 z0 hz => ?_⟩, hb9⟩
                  · rw [hsnH.out, if_pos hc2H.out, List.length_append, <- hm.out]; rfl
                  · exact hel2H.out.stay fun q hq2 => ⟨hq2, (hb9.out.block q (hXx.out q hq2)).trans (hb4.out.block q (hXx.out q hq2)).symm⟩
                  · rw [hsnH.out, if_pos hc2H.out] at hz
                    have h9 := (List.append_inj' hz rfl).2;injection h9
                case measure => simp [intOf]; omega
              | false =>
                have hc2 : ¬ (kd2 = 1 /\ nm2 = c0 :: pr) := fun h => by have := hcnd.out.2 h; cases this
                rw [show (Nd.mk kd2 nm2 tx2 as2 kz2).kind = kd2 from rfl, show (Nd.mk kd2 nm2 tx2 as2 kz2).name = nm2 from rfl, if_neg hc2, List.append_nil] at hsn;have hsnH := Hd hsn;have hv9 : Hid (∃ y, VCur N X wc y /\ ∀ l0 z, onlyK (kz.take (j + 1)) (c0 :: pr) = l0 ++ [z] -> y = z) := Hd ⟨y, hvyc, by rw [hsn]; exact hlast⟩;clear hc2 hsn hvyc hlast hvyN hNlt d0 d1 d2 d3 d4 s4 sk hvy;go_wp2_with fail;go_roundw
                case rel => exact ⟨j + 1, m, by omega, by omega, by go_num, rfl, Hd (by rw [hsnH.out]; exact hm.out), hv9, hb45⟩
                case measure => simp [intOf]; omega
          · have q1 : decide ((j : Int) < (lk : Int)) = false := by rw [decide_eq_false_iff_not]; omega
            have q2 : decide (j < lk) = false := by rw [decide_eq_false_iff_not]; omega
            have ej : j = lk := (by omega);subst ej;have hall : kz.take j = kz := List.take_of_length_le (by rw [hlkH.out]; exact Nat.le_refl _);rw [hall] at hm hvy;obtain ⟨y, hvyN, hlast⟩ := hvy.out
            by_cases hm1 : m = 1
            · subst hm1
              obtain ⟨xo, hxo⟩ : ∃ xo, onlyK kz (c0 :: pr) = [xo] := by
                have := hm.out
                match ho : onlyK kz (c0 :: pr), this with
                | [a], _ => exact ⟨a, rfl⟩
              have hy := hlast [] xo hxo;subst hy;have hRn : Hid (valueP (ps.drop (k + 1)) y = R) := Hd (by rw [hnx.out, hxo])
              have hwy : Hid (wN y <= 1000000) := Hd (by
                have h1 : y ∈ kz := onlyK_mem (p := c0 :: pr) (by rw [hxo]; simp);have h2 := wL_mem h1;have := hwc'.out
                omega)
              obtain ⟨vsN, h1N, h2N⟩ := hvyN;obtain ⟨kd3, nm3, tx3, as3, kz3, hye⟩ : ∃ kd nm tx as_ kz, y = Nd.mk kd nm tx as_ kz := by cases y; exact ⟨_, _, _, _, _, rfl⟩
              rw [hye] at h2N;obtain ⟨A3, c3, A4, c4, rfl, _⟩ := h2N.cells;rw [<- hye] at h2N;obtain ⟨n3, hn3⟩ : ∃ n, as3.length = n := ⟨_, rfl⟩;obtain ⟨n4, hn4⟩ : ∃ n, kz3.length = n := ⟨_, rfl⟩;obtain ⟨U1, hU1⟩ : ∃ S, strOf nm3 = S := ⟨_, rfl⟩;obtain ⟨U2, hU2⟩ : ∃ S, strOf tx3 = S := ⟨_, rfl⟩;rw [hn3, hn4, hU1, hU2] at h1N h2N;clear hye hn3 hn4 hU1 hU2;have hTw2 := (hb4.out.block T hTlH.out).trans hTbH.out;have z := fun i => frozen_of_row wr T i _ _ hTw2
              have f0 : wr.cell? ⟨N, 0, none⟩ = some (.int .i64 kd3) := Xp.cell_blk h1N (i := 0) rfl;have f1 : wr.cell? ⟨N, 1, none⟩ = some (.string U1) := Xp.cell_blk h1N (i := 1) rfl;have f2 : wr.cell? ⟨N, 2, none⟩ = some (.string U2) := Xp.cell_blk h1N (i := 2) rfl;have f3 : wr.cell? ⟨N, 3, none⟩ = some (.slice A3 n3 c3) := Xp.cell_blk h1N (i := 3) rfl;have f4 : wr.cell? ⟨N, 4, none⟩ = some (.slice A4 n4 c4) := Xp.cell_blk h1N (i := 4) rfl;have o0 : wr.cell? ⟨T, 0, none⟩ = some (.int .i64 kd) := Xp.cell_blk hTw2 (i := 0) rfl;have o1 : wr.cell? ⟨T, 1, none⟩ = some (.string S1) := Xp.cell_blk hTw2 (i := 1) rfl;have o2 : wr.cell? ⟨T, 2, none⟩ = some (.string S2) := Xp.cell_blk hTw2 (i := 2) rfl;have o3 : wr.cell? ⟨T, 3, none⟩ = some (.slice Aa la ca) := Xp.cell_blk hTw2 (i := 3) rfl;have o4 : wr.cell? ⟨T, 4, none⟩ = some (.slice Ak j ck) := Xp.cell_blk hTw2 (i := 4) rfl;have hbw : Below w.heap.size w wr := hb.out.trans (hb4.out.mono hb.out.size);have hge : w.heap.size <= T := Nat.le_of_eq hTw.out;have hT1 : T < T + 1 := Nat.lt_succ_self T;have hq0 := (blk_setCell (blk_setCell (blk_setCell (blk_setCell (blk_setCell hTw2 (i := 0) (.int .i64 kd3)) (i := 1) (.string U1)) (i := 2) (.string U2)) (i := 3) (.slice A3 n3 c3)) (i := 4) (.slice A4 n4 c4));have hb0 := (Below.setCell (p := ⟨T, 4, none⟩) (Below.setCell (p := ⟨T, 3, none⟩) (Below.setCell (p := ⟨T, 2, none⟩) (Below.setCell (p := ⟨T, 1, none⟩) (Below.setCell (p := ⟨T, 0, none⟩) hbw hge (.int .i64 kd3)) hge (.string U1)) hge (.string U2)) hge (.slice A3 n3 c3)) hge (.slice A4 n4 c4))
              have hol0 : OwX (World.setCell (World.setCell (World.setCell (World.setCell (World.setCell wr ⟨T, 0, none⟩ (.int .i64 kd3)) ⟨T, 1, none⟩ (.string U1)) ⟨T, 2, none⟩ (.string U2)) ⟨T, 3, none⟩ (.slice A3 n3 c3)) ⟨T, 4, none⟩ (.slice A4 n4 c4)) (T + 1) 9 (.slice (some ⟨b, off, none⟩) np cL) ps := own_set (own_set (own_set (own_set (own_set (hol.out.below hb4.out) hT1 0 (.int .i64 kd3)) hT1 1 (.string U1)) hT1 2 (.string U2)) hT1 3 (.slice A3 n3 c3)) hT1 4 (.slice A4 n4 c4);have hX0 : ∀ q, q ≠ T -> (World.setCell (World.setCell (World.setCell (World.setCell (World.setCell wr ⟨T, 0, none⟩ (.int .i64 kd3)) ⟨T, 1, none⟩ (.string U1)) ⟨T, 2, none⟩ (.string U2)) ⟨T, 3, none⟩ (.slice A3 n3 c3)) ⟨T, 4, none⟩ (.slice A4 n4 c4)).heap[q]? = wr.heap[q]? := fun q hq => by rw [set_other hq, set_other hq, set_other hq, set_other hq, set_other hq]
              obtain ⟨w9, hw9⟩ : ∃ w9, (World.setCell (World.setCell (World.setCell (World.setCell (World.setCell wr ⟨T, 0, none⟩ (.int .i64 kd3)) ⟨T, 1, none⟩ (.string U1)) ⟨T, 2, none⟩ (.string U2)) ⟨T, 3, none⟩ (.slice A3 n3 c3)) ⟨T, 4, none⟩ (.slice A4 n4 c4)) = w9 := ⟨_, rfl⟩;rw [hw9] at hq0 hb0 hol0 hX0;have hq : Hid (w9.heap[T]? = some (.cells #[.int .i64 kd3, .string U1, .string U2, .slice A3 n3 c3, .slice A4 n4 c4] 26)) := Hd hq0;have hb9 := Hd hb0;have hol9 := Hd hol0;have hX9 := Hd hX0;have hw9H := Hd hw9;clear hq0 hb0 hol0 hX0 hw9;have h2NH := Hd h2N;clear hbw hge hT1 hTw2 h1N h2N hlast hxo hvy hall s4 sk;go_wp2_with fail;go_roundw
              case rel =>
                rw [hw9H.out];refine ⟨k + 1, by omega, by go_num, Hd ⟨y, ⟨[.int .i64 kd3, .string U1, .string U2, .slice A3 n3 c3, .slice A4 n4 c4], hq.out, h2NH.out.stay fun q hq2 => ⟨hq2, hX9.out q (Nat.ne_of_lt (hXT.out q hq2))⟩⟩, hRn.out, hwy.out⟩, hol9, hb9⟩
              case measure => simp [intOf]; omega
            · have hv : Hid (R = none) := Hd (by
                rw [hnx.out];have := hm.out
                match ho : onlyK kz (c0 :: pr), this with
                | [], _ => rfl
                | [a], h => exact absurd h hm1
                | _ :: _ :: _, _ => rfl)
              have e9 : ((m : Int) != 1) = true := by rw [bne_iff_ne]; omega
              clear hvyN hlast hvy hall sk hm1;go_wp2_with fail
              go_ret2
              exact ⟨by rw [hv.out]; rfl, hb.out.trans (hb4.out.mono hb.out.size)⟩
    · have i1 : decide ((k : Int) < (np : Int)) = false := by rw [decide_eq_false_iff_not]; omega
      have i2 : decide (k < np) = false := by rw [decide_eq_false_iff_not]; omega
      have e1 : k = np := (by omega);subst e1
      have hv : Hid (R = some (writeL kz)) := Hd (by
        have h1 := hvalH.out;rw [List.drop_eq_nil_of_le (by rw [hnp'.out]; exact Nat.le_refl _)] at h1
        rw [<- h1]; rfl)
      have hcall := Hd (Xp.rnodes_any X wr Ak lk ck kz hKH.out (fun j hj => Nat.lt_trans (hXT.out j hj) hTlH.out) (fun i x hi => Xp.rNode_any _ X x (Nat.le_refl _) (Xp.wN_sm x (by have := wL_mem (List.mem_of_getElem? hi); have := hwc'.out; omega)) (by have := Xp.wN_wr x; have := wL_mem (List.mem_of_getElem? hi); have := hwc'.out; omega)) (by have := Xp.wL_wr kz; have := hwc'.out; omega));clear hcur hol;go_wp2_with fail;refine hcall.out.mono ?_;rintro e w9 ⟨rfl, hb9⟩;have hb9H := Hd hb9;clear hb9;go_wp2_with fail
      go_ret2
      exact ⟨by rw [hv.out]; rfl, hb.out.trans (hb9H.out.mono hb.out.size)⟩
end
set_option maxHeartbeats 2000000 in
set_option maxRecDepth 100000 in
theorem rvalue_any (X : Nat -> Prop) (w : World) (vs : List Value) (n : Nd) (path : Tx) (hn : NdI X w vs n) (hX : ∀ j, X j -> j < w.heap.size) (hw : wN n <= 1000000) (hpl : path.length <= 900000) (hne : path ≠ [46] -> ∀ p ∈ Ky.split 47 path, p ≠ []) :
  Calls Tryz.prog 131 #[.agg vs.toArray, .string (strOf path)] w fun e w' => e = .returned (.tuple #[.string (strOf ((valueR n path).getD [])), .bool (valueR n path).isSome]) /\ Below w.heap.size w w' := by
 by_cases hdot : path = [46]
 ·subst hdot;have hr : valueR n [46] = some (writeL n.kids) := by unfold valueR; rw [if_pos rfl]
  rw [hr];have hse : ((strOf [46]).toList == [46]) = true := by rw [Lib.toList_data, strOf_data']; rfl
  obtain ⟨PS, hPS⟩ : ∃ S, strOf [46] = S := ⟨_, rfl⟩;rw [hPS] at hse ⊢;obtain ⟨T, hT⟩ : ∃ T, w.heap.size = T := ⟨_, rfl⟩;obtain ⟨kd, nm, tx, as_, kz, rfl⟩ : ∃ kd nm tx as_ kz, n = Nd.mk kd nm tx as_ kz := by cases n; exact ⟨_, _, _, _, _, rfl⟩
  obtain ⟨Aa, ca, Ak, ck, rfl, hA, hK, _, _⟩ := hn.cells;obtain ⟨la, hla⟩ : ∃ la, as_.length = la := ⟨_, rfl⟩;obtain ⟨lk, hlk⟩ : ∃ lk, kz.length = lk := ⟨_, rfl⟩;obtain ⟨S1, hS1⟩ : ∃ S, strOf nm = S := ⟨_, rfl⟩;obtain ⟨S2, hS2⟩ : ∃ S, strOf tx = S := ⟨_, rfl⟩;rw [hlk] at hK;rw [hla, hlk, hS1, hS2];obtain ⟨w1, hw1⟩ : ∃ w1, w.alloc (.cells #[.int .i64 kd, .string S1, .string S2, .slice Aa la ca, .slice Ak lk ck] 26) = w1 := ⟨_, rfl⟩;have hb1 : Below w.heap.size w w1 := by rw [<- hw1]; exact (Below.refl _ _).alloc (Nat.le_refl _) _
  have hn1 : w1.heap[T]? = some (.cells #[.int .i64 kd, .string S1, .string S2, .slice Aa la ca, .slice Ak lk ck] 26) := by rw [<- hw1, <- hT]; exact heap_alloc_new w _
  have t4 : w1.cell? ⟨T, 4, none⟩ = some (.slice Ak lk ck) := Xp.cell_blk hn1 (i := 4) rfl;rw [wN] at hw;have hcall := Hd (Xp.rnodes_any X w1 Ak lk ck kz (Xp.sq_keep hK hb1 fun vs y h => NdI.later h hX hb1) (fun j hj => Nat.lt_of_lt_of_le (hX j hj) hb1.size) (fun i x hi => Xp.rNode_any _ X x (Nat.le_refl _) (Xp.wN_sm x (by have := wL_mem (List.mem_of_getElem? hi); omega)) (by have := Xp.wN_wr x; have := wL_mem (List.mem_of_getElem? hi); omega)) (by have := Xp.wL_wr kz; omega));have hb1H := Hd hb1;clear hn hA hK hX hw hne hr hPS hS1 hS2 hla hlk hn1 hb1
  go_enter Tryz.func131, Tryz.ntmps131
  go_wp2_with fail;refine hcall.out.mono ?_;rintro e w9 ⟨rfl, hb9⟩;have hb9H := Hd hb9;clear hb9;go_wp2_with fail
  go_ret2
  exact ⟨rfl, hb1H.out.trans (hb9H.out.mono hb1H.out.size)⟩
 ·have h := rvalue_parts (w := w) (X := X) vs n (Ky.split 47 path) path hn hX hw hpl hdot rfl (hne hdot);have hr : valueR n path = valueP (Ky.split 47 path) n := by unfold valueR; rw [if_neg hdot]
  rw [hr];exact h
end Go.Proofs.YtdnfnkicmfkkmaaGreatDoor.No
end

section
namespace Go.Proofs.YtdnfnkicmfkkmaaGreatDoor.No
open Go.RowKit UtfW Xl Xt Xo
open Go.Proofs.YtdnfnkicmfkkmaaGreatDoor.Ky (Ts OwX tv)
theorem keyR_snoc (n : Nd) (p : Tx) : ∀ ks : List Tx, keyR n (ks ++ [p]) = match keyR n ks with | none => none | some l => (valueR n p).map fun v => l ++ [v]
 | [] => by
  simp only [List.nil_append, keyR]
  cases valueR n p <;> rfl
 | k :: ks => by
  simp only [List.cons_append, keyR]
  cases valueR n k with
  | none => rfl
  | some v =>
   simp only;rw [keyR_snoc n p ks]
   cases keyR n ks with
   | none => rfl
   | some l => cases valueR n p <;> rfl
theorem keyR_none {n : Nd} {p : Tx} : ∀ {ks : List Tx}, p ∈ ks -> valueR n p = none -> keyR n ks = none
 | k :: ks, h, hv => by
  simp only [keyR];rcases List.mem_cons.1 h with rfl | h
  ·rw [hv]
  ·cases valueR n k with
   | none => rfl
   | some v => simp only [keyR_none h hv]; rfl
theorem keyR_len {n : Nd} : ∀ {ks : List Tx} {l : List Tx}, keyR n ks = some l -> l.length = ks.length
 | [], l, h => by simp only [keyR] at h; injection h with h; subst h; rfl
 | k :: ks, l, h => by
  simp only [keyR] at h
  cases hv : valueR n k with
  | none => rw [hv] at h; simp at h
  | some v =>
   rw [hv] at h;simp only at h
   cases hk : keyR n ks with
   | none => rw [hk] at h; simp at h
   | some m =>
    rw [hk] at h;simp only [Option.map_some, Option.some.injEq] at h;subst h;rw [List.length_cons, List.length_cons, keyR_len hk]
def KeyP (B E : Nat) (key : Option (List Tx)) (e : Ending) (w' : World) : Prop := match key with
 | none => e = .returned (.tuple #[.slice none 0 0, .bool false])
 | some l => ∃ A c, e = .returned (.tuple #[.slice A l.length c, .bool true]) /\ OwX w' B E (.slice A l.length c) l
set_option maxHeartbeats 8000000 in
set_option maxRecDepth 100000 in
theorem rKey_any (X : Nat -> Prop) (w : World) (A1 : Option Addr) (n1 c1 : Nat) (A2 : Option Addr) (n2 c2 : Nat) (ks : List Tx) (vs : List Value) (n : Nd) (h2 : Ts w A2 n2 c2 ks) (hn : NdI X w vs n) (hX : ∀ j, X j -> j < w.heap.size) (hw : wN n <= 1000000)
    (hsm : ks.length <= 900000 /\ ∀ k ∈ ks, k.length <= 900000) (hne : ∀ k ∈ ks, k ≠ [46] -> ∀ p ∈ Ky.split 47 k, p ≠ []) :
    Calls Tryz.prog 95 #[.agg #[.slice A1 n1 c1, .slice A2 n2 c2], .agg vs.toArray] w fun e w' => KeyP w.heap.size 9 (keyR n ks) e w' /\ Below w.heap.size w w' := by
  have hl2 := Hd h2.len;have hle2 := Rd.le h2;have hm2 := Rd.max h2;obtain ⟨T, hT⟩ : ∃ T, w.heap.size = T := ⟨_, rfl⟩;obtain ⟨kd, nm, tx, as_, kz, hne0⟩ : ∃ kd nm tx as_ kz, n = Nd.mk kd nm tx as_ kz := by cases n; exact ⟨_, _, _, _, _, rfl⟩
  have hn0 := hn;rw [hne0] at hn0;obtain ⟨Aa, ca, Ak, ck, rfl, _⟩ := hn0.cells;obtain ⟨la, hla⟩ : ∃ la, as_.length = la := ⟨_, rfl⟩;obtain ⟨lk, hlk⟩ : ∃ lk, kz.length = lk := ⟨_, rfl⟩;obtain ⟨S1, hS1⟩ : ∃ S, strOf nm = S := ⟨_, rfl⟩;obtain ⟨S2, hS2⟩ : ∃ S, strOf tx = S := ⟨_, rfl⟩;rw [hla, hlk, hS1, hS2] at hn;rw [hla, hlk, hS1, hS2];obtain ⟨w1, hw1⟩ : ∃ w1, w.alloc (.cells #[.slice A1 n1 c1, .slice A2 n2 c2] 70) = w1 := ⟨_, rfl⟩;obtain ⟨w2, hw2⟩ : ∃ w2, w1.alloc (.cells #[.int .i64 kd, .string S1, .string S2, .slice Aa la ca, .slice Ak lk ck] 26) = w2 := ⟨_, rfl⟩;have hs1 : w1.heap.size = T + 1 := by rw [<- hw1, World.size_alloc, hT]
  have hs2 : w2.heap.size = T + 2 := by rw [<- hw2, World.size_alloc, hs1]
  have hb1 : Below w.heap.size w w1 := by rw [<- hw1]; exact (Below.refl _ _).alloc (Nat.le_refl _) _
  have hb2 : Below w1.heap.size w1 w2 := by rw [<- hw2]; exact (Below.refl _ _).alloc (Nat.le_refl _) _
  have hk1 : w1.heap[T]? = some (.cells #[.slice A1 n1 c1, .slice A2 n2 c2] 70) := by rw [<- hw1, <- hT]; exact heap_alloc_new w _
  have hk2 : w2.heap[T + 1]? = some (.cells #[.int .i64 kd, .string S1, .string S2, .slice Aa la ca, .slice Ak lk ck] 26) := by rw [<- hw2, <- hs1]; exact heap_alloc_new w1 _
  have hk1' := (hb2.block T (by omega)).trans hk1;have hbw : Below w.heap.size w w2 := hb1.trans (hb2.mono hb1.size)
  have hall : Hid (∀ x, Below w2.heap.size w2 x -> (x.cell? ⟨T, 1, none⟩ = some (.slice A2 n2 c2) /\ x.cell? ⟨T + 1, 0, none⟩ = some (.int .i64 kd) /\ x.cell? ⟨T + 1, 1, none⟩ = some (.string S1) /\ x.cell? ⟨T + 1, 2, none⟩ = some (.string S2) /\ x.cell? ⟨T + 1, 3, none⟩ = some (.slice Aa la ca) /\ x.cell? ⟨T + 1, 4, none⟩ = some (.slice Ak lk ck)) /\ Ts x A2 n2 c2 ks) := Hd fun x hx => by
    have g1 := (hx.block T (by omega)).trans hk1';have g2 := (hx.block (T + 1) (by omega)).trans hk2;exact ⟨⟨Xp.cell_blk g1 (i := 1) rfl, Xp.cell_blk g2 (i := 0) rfl, Xp.cell_blk g2 (i := 1) rfl, Xp.cell_blk g2 (i := 2) rfl, Xp.cell_blk g2 (i := 3) rfl, Xp.cell_blk g2 (i := 4) rfl⟩, h2.below (hbw.trans (hx.mono hbw.size))⟩
  have hval : Hid (∀ x p, Below w2.heap.size w2 x -> p ∈ ks -> Calls Tryz.prog 131 #[.agg #[.int .i64 kd, .string S1, .string S2, .slice Aa la ca, .slice Ak lk ck], .string (strOf p)] x fun e w' => e = .returned (.tuple #[.string (strOf ((valueR n p).getD [])), .bool (valueR n p).isSome]) /\ Below x.heap.size x w') := Hd fun x p hx hp =>
    rvalue_any X x [.int .i64 kd, .string S1, .string S2, .slice Aa la ca, .slice Ak lk ck] n p (hn.later hX (hbw.trans (hx.mono hbw.size))) (fun j hj => Nat.lt_of_lt_of_le (hX j hj) (hbw.trans (hx.mono hbw.size)).size) hw (hsm.2 p hp) (hne p hp)
  have hbw' := Hd hbw;have hsm' := Hd hsm;have hs2' := Hd hs2;have hTw := Hd hT;have hn2 : n2 <= 900000 := by rw [<- hl2.out]; exact hsm.1
  obtain ⟨KR, hKR⟩ : ∃ KR, keyR n ks = KR := ⟨_, rfl⟩;rw [hKR];have hKR' := Hd hKR;clear hn hn0 hne0 h2 hX hw hsm hne hk1 hk1' hk2 hb1 hb2 hbw hla hlk hS1 hS2 hs2 hKR
  go_enter Tryz.func95, Tryz.ntmps95
  go_wp2_with fail;clear hw1 hw2 hT hs1
  go_loopw [6, 7] (fun v i wr => ∃ (k : Nat) (Ao : Option Addr) (co : Nat), k <= n2 /\ i = .int .i64 k /\ v = .slice Ao k co /\ Hid (∃ out, keyR n (ks.take k) = some out /\ OwX wr w2.heap.size 9 (.slice Ao k co) out) /\ Hid (Below w2.heap.size w2 wr)) (fun _ i _ => n2 - (intOf i).toNat)
  case atStart => exact ⟨0, none, 0, by omega, rfl, rfl, Hd ⟨[], rfl, OwX.nil _ _ _⟩, Hd (Below.refl _ _)⟩
  case round =>
    obtain ⟨k, Ao, co, hk, rfl, rfl, hout, hb⟩ := hrel;obtain ⟨⟨r1, u0, u1, u2, u3, u4⟩, htk⟩ := hall.out wr hb.out
    by_cases hlt : k < n2
    · have i1 : decide ((k : Int) < (n2 : Int)) = true := by rw [decide_eq_true_eq]; omega
      have i2 : decide (k < n2) = true := by rw [decide_eq_true_eq]; omega
      have i3 : (k : Int) < (n2 : Int) := (by omega);obtain ⟨b, off, p, eA, hbl, hp, sk⟩ := htk.at_ hlt;subst eA;have hpm := List.mem_of_getElem? hp;have hpH := Hd hp;have hblH := Hd hbl;have hvc : Hid (∀ x, Below wr.heap.size wr x -> Calls Tryz.prog 131 #[.agg #[.int .i64 kd, .string S1, .string S2, .slice Aa la ca, .slice Ak lk ck], .string (strOf p)] x fun e w' => e = .returned (.tuple #[.string (strOf ((valueR n p).getD [])), .bool (valueR n p).isSome]) /\ Below x.heap.size x w') := Hd fun x hx => hval.out x p (hb.out.trans (hx.mono hb.out.size)) hpm
      obtain ⟨S, hS⟩ : ∃ S, strOf p = S := ⟨_, rfl⟩;simp only [tv, hS] at sk hvc;clear htk hp hbl hS
      cases hv : valueR n p with
      | none =>
        rw [hv] at hvc;have hnone : Hid (KR = none) := Hd (by rw [<- hKR'.out]; exact keyR_none hpm hv);clear hv hpm;have hvc1 := Hd (hvc.out wr.drew (Joins.below_draws wr.heap.size wr 1));go_wp2_with fail;refine Pl.wp_region_plan 11 (.take 0 (.take 1 (.take 2 (.take 3 (.take 4 (.take 5 (.run 6 (.take 7 (.take 8 (.take 9 (.take 10 .done))))))))))) (fun x => x.cell? ⟨T, 1, none⟩ = some (.slice (some ⟨b, off, none⟩) n2 c2) /\ x.cell? ⟨b, off + k, none⟩ = some (.string S) /\ x.cell? ⟨T + 1, 0, none⟩ = some (.int .i64 kd) /\ x.cell? ⟨T + 1, 1, none⟩ = some (.string S1) /\ x.cell? ⟨T + 1, 2, none⟩ = some (.string S2) /\ x.cell? ⟨T + 1, 3, none⟩ = some (.slice Aa la ca) /\ x.cell? ⟨T + 1, 4, none⟩ = some (.slice Ak lk ck)) (by kernel_rfl) (by kernel_rfl) (by exact ⟨r1, sk, u0, u1, u2, u3, u4⟩) ?_;simp only [Pl.fill, Al_4, Al_5, Al_6, Al_7]
        iterate 6
          first
          | (refine Pl.take_go ?_ (by rfl) (fun _ _ _ h => h) ?_ ?_
             rotate_left
             · (intro x hSw; (try (dsimp only at hSw)); go_simp; try with_reducible rfl)
             (try simp only [Act.put, Al_1, Al_2, Al_3]))
          | (refine Pl.take_skip (by rfl) (fun _ _ _ h => h) ?_
             (try simp only [Act.put, Al_1, Al_2, Al_3]))
        refine Pl.run_go (fun K hK => ?_);go_simp;refine hvc1.out.mono ?_;rintro e w3 ⟨rfl, hb3⟩;have hb3x : Below wr.heap.size wr w3 := (show Below wr.heap.size wr wr.drew from Joins.below_draws wr.heap.size wr 1).trans hb3;have hb3w := Hd (hb.out.trans (hb3x.mono hb.out.size));have hb3' := Hd hb3x;have sk3 := (hb3x.cell (p := ⟨b, off + k, none⟩) hblH.out).trans sk;obtain ⟨⟨q1, y0, y1, y2, y3, y4⟩, _⟩ := hall.out w3 hb3w.out;clear hb3 hb3x;dsimp only;refine hK.out _ _ (Pl.more_go _ (fun _ h => h) (by exact ⟨q1, sk3, y0, y1, y2, y3, y4⟩) ?_);clear hK K
        try simp only [Act.put, Al_1, Al_2, Al_3]
        iterate 4
          first
          | (refine Pl.take_go ?_ (by rfl) (fun _ _ _ h => h) ?_ ?_
             rotate_left
             · (intro x hSw; (try (dsimp only at hSw)); go_simp; try with_reducible rfl)
             (try simp only [Act.put, Al_1, Al_2, Al_3]))
          | (refine Pl.take_skip (by rfl) (fun _ _ _ h => h) ?_
             (try simp only [Act.put, Al_1, Al_2, Al_3]))
        refine Pl.done_go ?_;clear r1 u0 u1 u2 u3 u4 sk sk3 q1 y0 y1 y2 y3 y4;go_wp2_with fail
        go_ret2
        exact ⟨by unfold KeyP; rw [hnone.out]; rfl, hbw'.out.trans (hb3w.out.mono hbw'.out.size)⟩
      | some val =>
        rw [hv] at hvc;obtain ⟨out, hko, how⟩ := hout.out;have holen : Hid (out.length = k) := Hd (by rw [keyR_len hko, List.length_take, hl2.out]; omega);have hkn : Hid (keyR n (ks.take (k + 1)) = some (out ++ [val])) := Hd (by rw [take_snoc hpH.out, keyR_snoc, hko]; simp only; rw [hv]; rfl);clear hv hpm hko;have howH := Hd how;clear how;have hvc1 := Hd (hvc.out wr.drew (Joins.below_draws wr.heap.size wr 1));go_wp2_with fail;refine Pl.wp_region_plan 11 (.take 0 (.take 1 (.take 2 (.take 3 (.take 4 (.take 5 (.run 6 (.take 7 (.take 8 (.take 9 (.take 10 .done))))))))))) (fun x => x.cell? ⟨T, 1, none⟩ = some (.slice (some ⟨b, off, none⟩) n2 c2) /\ x.cell? ⟨b, off + k, none⟩ = some (.string S) /\ x.cell? ⟨T + 1, 0, none⟩ = some (.int .i64 kd) /\ x.cell? ⟨T + 1, 1, none⟩ = some (.string S1) /\ x.cell? ⟨T + 1, 2, none⟩ = some (.string S2) /\ x.cell? ⟨T + 1, 3, none⟩ = some (.slice Aa la ca) /\ x.cell? ⟨T + 1, 4, none⟩ = some (.slice Ak lk ck)) (by kernel_rfl) (by kernel_rfl) (by exact ⟨r1, sk, u0, u1, u2, u3, u4⟩) ?_;simp only [Pl.fill, Al_4, Al_5, Al_6, Al_7]
        iterate 6
          first
          | (refine Pl.take_go ?_ (by rfl) (fun _ _ _ h => h) ?_ ?_
             rotate_left
             · (intro x hSw; (try (dsimp only at hSw)); go_simp; try with_reducible rfl)
             (try simp only [Act.put, Al_1, Al_2, Al_3]))
          | (refine Pl.take_skip (by rfl) (fun _ _ _ h => h) ?_
             (try simp only [Act.put, Al_1, Al_2, Al_3]))
        refine Pl.run_go (fun K hK => ?_);go_simp;refine hvc1.out.mono ?_;rintro e w3 ⟨rfl, hb3⟩;have hb3x : Below wr.heap.size wr w3 := (show Below wr.heap.size wr wr.drew from Joins.below_draws wr.heap.size wr 1).trans hb3;have hb3w := Hd (hb.out.trans (hb3x.mono hb.out.size));have hb3' := Hd hb3x;have sk3 := (hb3x.cell (p := ⟨b, off + k, none⟩) hblH.out).trans sk;obtain ⟨⟨q1, y0, y1, y2, y3, y4⟩, _⟩ := hall.out w3 hb3w.out;clear hb3 hb3x;dsimp only;refine hK.out _ _ (Pl.more_go _ (fun _ h => h) (by exact ⟨q1, sk3, y0, y1, y2, y3, y4⟩) ?_);clear hK K
        try simp only [Act.put, Al_1, Al_2, Al_3]
        iterate 4
          first
          | (refine Pl.take_go ?_ (by rfl) (fun _ _ _ h => h) ?_ ?_
             rotate_left
             · (intro x hSw; (try (dsimp only at hSw)); go_simp; try with_reducible rfl)
             (try simp only [Act.put, Al_1, Al_2, Al_3]))
          | (refine Pl.take_skip (by rfl) (fun _ _ _ h => h) ?_
             (try simp only [Act.put, Al_1, Al_2, Al_3]))
        refine Pl.done_go ?_;clear r1 u0 u1 u2 u3 u4 sk sk3 q1 y0 y1 y2 y3 y4;have hlit := Hd (Ky.ts_lit w3 (strOf val) val 9 (0, 0) rfl);have hbl3 := below_alloc w3 (.cells #[.string (strOf val)] 9);have ho3 := Hd ((howH.out.below hb3'.out).below hbl3);have hb3z := Hd (hb3w.out.trans (hbl3.mono hb3w.out.size));clear hbl3
        go_wp2_with (at_builtin; apply stop_here)
        refine Stop.go (Ky.append_ts _ 33 9 Tryz.underlying33 Ky.str_info rfl _ _ rfl w2.heap.size _ out rfl ho3.out _ 1 1 [val] rfl hlit.out (k + 1) (by rw [holen.out]) (by omega) hb3z.out.size ?_);intro A8 c8 x8 ho8 hg8 hb8;have hb9 := Hd (hb3z.out.trans hb8);have ho9 : Hid (∃ out, keyR n (ks.take (k + 1)) = some out /\ OwX x8 w2.heap.size 9 (.slice A8 (k + 1) c8) out) := Hd ⟨_, hkn.out, ho8⟩;clear ho8 hg8 hb8;go_wp2_with fail;go_roundw
        case rel => exact ⟨k + 1, A8, c8, by omega, by go_num, rfl, ho9, hb9⟩
        case measure => simp [intOf]; omega
    · have i1 : decide ((k : Int) < (n2 : Int)) = false := by rw [decide_eq_false_iff_not]; omega
      have i2 : decide (k < n2) = false := by rw [decide_eq_false_iff_not]; omega
      have e1 : k = n2 := (by omega);subst e1;obtain ⟨out, hko, how⟩ := hout.out;rw [List.take_of_length_le (by rw [hl2.out]; exact Nat.le_refl _)] at hko;have hkl : out.length = k := (by rw [keyR_len hko, hl2.out]);have hv : Hid (KR = some out) := Hd (by rw [<- hKR'.out]; exact hko);have howH := Hd how;have hklH := Hd hkl;clear hko how htk u0 u1 u2 u3 u4 hout hkl;go_wp2_with fail
      go_ret2
      refine ⟨?_, hbw'.out.trans (hb.out.mono hbw'.out.size)⟩;unfold KeyP;rw [hv.out];refine ⟨Ao, co, by rw [hklH.out]; rfl, ?_⟩;rw [hklH.out];exact howH.out.down (by have := hs2'.out; have := hTw.out; omega)
end Go.Proofs.YtdnfnkicmfkkmaaGreatDoor.No
end

section
namespace Go.Proofs.YtdnfnkicmfkkmaaGreatDoor.No
open Go.RowKit
open Go.Proofs.YtdnfnkicmfkkmaaGreatDoor.Ky (Ts OwX tv Tx)
def TvEl (_ : World) (vs : List Value) (t : Tx) : Prop := vs = [tv t]
theorem owx_of_ows {w : World} {B E : Nat} {v : Value} {ts : List Tx} (h : OwS TvEl 1 w B E v ts) : OwX w B E v ts := by
 obtain ⟨xs, h1, L, rfl, hl, h2, h3⟩ := h
 have e : L = ts.map fun t => [tv t] := by
  apply List.ext_getElem?;intro i;rw [List.getElem?_map]
  by_cases hi : i < ts.length
  ·have hL : L[i]? = some L[i] := List.getElem?_eq_getElem (by omega);have hT : ts[i]? = some ts[i] := List.getElem?_eq_getElem hi;rw [hL, hT, h3 i _ _ hL hT];rfl
  ·rw [List.getElem?_eq_none (by omega), List.getElem?_eq_none (by omega)];rfl
 have e2 : L.flatten = ts.map tv := by
  rw [e];clear h1 hl h2 h3 e
  induction ts with
  | nil => rfl
  | cons t ts ih => simp [ih]
 rw [e2] at h1;exact h1
theorem sq_of_ts {w : World} {A : Option Addr} {n c : Nat} {ts : List Tx} (h : Ts w A n c ts) : Sq TvEl 1 w A n c ts := by
 refine ⟨h.len, Rd.le h, Rd.max h, fun e => Rd.nil h e, fun hn => ?_⟩
 ·obtain ⟨b, off, t, e, hb, _⟩ := h.at_ hn;refine ⟨b, off, e, hb, fun i x hi => ⟨[tv x], rfl, rfl, fun j v hj => ?_⟩⟩;have hil : i < n := by have := (List.getElem?_eq_some_iff.1 hi).1; have := h.len; omega
  obtain ⟨b2, off2, t2, e2, _, ht2, hc⟩ := h.at_ hil;rw [e] at e2;injection e2 with e2;injection e2 with e3 e4;subst e3 e4;rw [hi] at ht2;injection ht2 with ht2;subst ht2
  cases j with
  | zero =>
   simp only [List.getElem?_cons_zero, Option.some.injEq] at hj;subst hj;rw [Nat.mul_one, Nat.add_zero];exact hc
  | succ j => simp at hj
end Go.Proofs.YtdnfnkicmfkkmaaGreatDoor.No
end

section
namespace Go.Proofs.YtdnfnkicmfkkmaaGreatDoor
open Go.RowKit
structure Elt {α : Type} (El : (Nat -> Prop) -> World -> List Value -> α -> Prop) : Prop where
 stay : ∀ {X X' : Nat -> Prop} {w w' : World} {vs : List Value} {x : α}, (∀ k, X k -> X' k /\ w'.heap[k]? = w.heap[k]?) -> El X w vs x -> El X' w' vs x
 one : ∀ {X : Nat -> Prop} {w : World} {vs : List Value} {x : α}, El X w vs x -> ∀ u ∈ vs, u.oneCell' = true
def XB (B0 B : Nat) (x : World) (v : Value) : Nat -> Prop := fun k => k < B0 \/ (B <= k /\ k < x.heap.size /\ v.ownBlock ≠ some k)
def OutG {α : Type} (El : (Nat -> Prop) -> World -> List Value -> α -> Prop) (n E B0 B : Nat) (x : World) (v : Value) (l : List α) : Prop := OwS (El (XB B0 B x v)) n x B E v l /\ B0 <= B /\ B <= x.heap.size
section
variable {α : Type} {El : (Nat -> Prop) -> World -> List Value -> α -> Prop} {n E B0 B : Nat} {x x' : World} {v v' : Value} {l l' : List α}
theorem XB.lt {k : Nat} (h : XB B0 B x v k) (h1 : B0 <= B) (h2 : B <= x.heap.size) : k < x.heap.size := by
 rcases h with h | h
 ·omega
 ·exact h.2.1
theorem OutG.nil (h1 : B0 <= B) (h2 : B <= x.heap.size) : OutG El n E B0 B x (.slice none 0 0) [] := ⟨OwS.nil _ _ _, h1, h2⟩
theorem OutG.lt (h : OutG El n E B0 B x v l) : ∀ b, v.ownBlock = some b -> B <= b /\ b < x.heap.size := h.1.lt
theorem OutG.same (hE : Elt El) (h : OutG El n E B0 B x v l) (hs : ∀ k, k < B0 \/ (B <= k /\ k < x.heap.size) -> x'.heap[k]? = x.heap[k]?) (hz : x.heap.size <= x'.heap.size) : OutG El n E B0 B x' v l := by
 obtain ⟨h1, h2, h3⟩ := h;refine ⟨Xt.OwS.stay h1 (fun k hk => hs k (.inr (OwS.lt h1 k hk))) (fun vs y hy => hE.stay (fun k hk => ⟨?_, hs k (hk.elim .inl fun h => .inr ⟨h.1, h.2.1⟩)⟩) hy), h2, Nat.le_trans h3 hz⟩;rcases hk with hk | hk
 ·exact .inl hk
 ·exact .inr ⟨hk.1, Nat.lt_of_lt_of_le hk.2.1 hz, hk.2.2⟩
theorem OutG.below (hE : Elt El) (h : OutG El n E B0 B x v l) (hb : Below x.heap.size x x') : OutG El n E B0 B x' v l :=
 h.same hE (fun k hk => hb.block k (by have := h.2.1; have := h.2.2; omega)) hb.size
theorem OutG.keep (hE : Elt El) (h : OutG El n E B0 B x v l) : ∀ w', x.grownBy w' v.ownBlock -> ∀ vs y, El (XB B0 B x v) x vs y -> El (XB B0 B x v) w' vs y := fun w' hg vs y hy =>
 hE.stay (fun k hk => ⟨hk, hg.block k (hk.lt h.2.1 h.2.2) (by
  rcases hk with hk | hk
  ·intro e;have := (OwS.lt h.1 k e.symm).1;have := h.2.1;omega
  ·exact fun e => hk.2.2 e.symm)⟩) hy
theorem OutG.app (hE : Elt El) (h : OutG El n E B0 B x v l) (h1 : OwS (El (XB B0 B x v)) n x' B E v' l') (hg : x.grownBy x' v.ownBlock) (hv : v'.ownBlock = v.ownBlock \/ v'.ownBlock = some x.heap.size) : OutG El n E B0 B x' v' l' := by
 refine ⟨Xt.OwS.stay h1 (fun _ _ => rfl) (fun vs y hy => hE.stay (fun k hk => ⟨?_, rfl⟩) hy), h.2.1, Nat.le_trans h.2.2 hg.size⟩;rcases hk with hk | hk
 ·exact .inl hk
 ·refine .inr ⟨hk.1, Nat.lt_of_lt_of_le hk.2.1 hg.size, ?_⟩;rcases hv with e | e
  ·rw [e]; exact hk.2.2
  ·rw [e];intro e2;injection e2 with e2;omega
theorem OwS.own_ {El : World -> List Value -> α -> Prop} {m c : Nat} {A : Option Addr} (h : OwS El n x B E (.slice A m c) l) {a : Addr} (e : A = some a) : (Value.slice A m c).ownBlock = some a.block := by
 obtain ⟨xs, ⟨_, h1⟩, _⟩ := h;rcases h1 with ⟨h1, _⟩ | ⟨g, cap, cur, h1, _⟩
 ·injection h1 with h1 _ _;rw [e] at h1;cases h1
 ·rw [h1];injection h1 with h1 _ _;rw [e] at h1;injection h1 with h1;rw [h1];rfl
theorem OutG.down {B' : Nat} (hE : Elt El) (h : OutG El n E B0 B x v l) (h1 : B0 <= B') (hB : B' <= B) : OutG El n E B0 B' x v l := by
 obtain ⟨h2, h3, h4⟩ := h;refine ⟨(Xt.OwS.stay h2 (fun _ _ => rfl) (fun vs y hy => hE.stay (fun k hk => ⟨?_, rfl⟩) hy)).down hB, h1, Nat.le_trans hB h4⟩;rcases hk with hk | hk
 ·exact .inl hk
 ·exact .inr ⟨Nat.le_trans hB hk.1, hk.2⟩
theorem OutG.fresh (hE : Elt El) {w : World} (h2 : B0 <= B) (h3 : B <= w.heap.size) (h1 : OwS (El (XB B0 B w v)) n x w.heap.size E v' l') (hb : w.heap.size <= x.heap.size) : OutG El n E B0 B x v' l' := by
 refine ⟨(Xt.OwS.stay h1 (fun _ _ => rfl) (fun vs y hy => hE.stay (fun k hk => ⟨?_, rfl⟩) hy)).down h3, h2, Nat.le_trans h3 hb⟩;rcases hk with hk | hk
 ·exact .inl hk
 ·exact .inr ⟨hk.1, Nat.lt_of_lt_of_le hk.2.1 hb, fun e => by have := (h1.lt k e).1; omega⟩
theorem XB.el (hE : Elt El) {w : World} (h2 : B0 <= B) (h3 : B <= w.heap.size) : ∀ x x' vs y, Below w.heap.size x x' -> El (XB B0 B w v) x vs y -> El (XB B0 B w v) x' vs y := fun x x' vs y hb h4 =>
 hE.stay (fun k hk => ⟨hk, hb.block k (hk.lt h2 h3)⟩) h4
end
/-! ### Nodes, steps -/
open Go.Proofs.YtdnfnkicmfkkmaaGreatDoor.Ky (Ts OwX tv Tx)
theorem elt_nd : Elt Xt.NdE := ⟨fun hk h => Xt.NdI.stay h hk, fun h => Xt.NdI.one h⟩
theorem Rd.stay {w w' : World} {A : Option Addr} {n c : Nat} {xs : List Value} (h : Rd w A n c xs) (hX : ∀ a, A = some a -> 0 < n -> w'.heap[a.block]? = w.heap[a.block]?) : Rd w' A n c xs :=
 ⟨h.len, h.le, h.max, h.nil, fun hn => by
  obtain ⟨b, off, e, hlt, hc⟩ := h.cell hn;have hs : w'.heap[b]? = w.heap[b]? := hX ⟨b, off, none⟩ e hn;refine ⟨b, off, e, ?_, fun j u hu => (Xt.cell_same hs).trans (hc j u hu)⟩;rw [Array.getElem?_eq_getElem hlt] at hs
  exact (Array.getElem?_eq_some_iff.1 hs).1⟩
namespace No
def StX (X : Nat -> Prop) (w : World) (vs : List Value) (s : Stp) : Prop := ∃ A c, vs = [.string (strOf s.1), .slice A s.2.length c] /\ Ts w A s.2.length c s.2 /\ ∀ a, A = some a -> 0 < s.2.length -> X a.block
theorem elt_st : Elt StX := by
 refine ⟨?_, ?_⟩
 ·rintro X X' w w' vs x hk ⟨A, c, e, h1, h2⟩;exact ⟨A, c, e, Rd.stay h1 fun a ea hn => (hk _ (h2 a ea hn)).2, fun a ea hn => (hk _ (h2 a ea hn)).1⟩
 ·rintro X w vs x ⟨A, c, rfl, _, _⟩ u hu;simp at hu;rcases hu with rfl | rfl <;> rfl
theorem StX.val {X : Nat -> Prop} {w : World} {vs : List Value} {s : Stp} (h : StX X w vs s) : StV w (.agg vs.toArray) s := by
 obtain ⟨A, c, rfl, h1, _⟩ := h;exact ⟨A, _, c, rfl, h1⟩
end No
end Go.Proofs.YtdnfnkicmfkkmaaGreatDoor
end

section
namespace Go.Proofs.YtdnfnkicmfkkmaaGreatDoor.No
open Go.RowKit UtfW Xl Xt Xo
open Go.Proofs.YtdnfnkicmfkkmaaGreatDoor.Ky (Ts OwX tv Rs Rl)
def RlOk (l : List Ky.Rl) : Prop := l.length <= 900000 /\ ∀ r ∈ l, r.1.length <= 900000 /\ (r.2.length <= 900000 /\ ∀ k ∈ r.2, k.length <= 900000) /\ ∀ k ∈ r.2, k ≠ [46] -> ∀ p ∈ Ky.split 47 k, p ≠ []
theorem idx_rule {l : List Ky.Rl} {p : List Tx} : (Ky.idxR l p = -1 /\ ruleOf l p = none) \/ ∃ (k : Nat) (r : Ky.Rl), Ky.idxR l p = (k : Nat) /\ l[k]? = some r /\ ruleOf l p = some r := by
 unfold Ky.idxR ruleOf
 cases h : l.findIdx? (fun r => decide (r.1 = p)) with
 | none =>
  refine .inl ⟨rfl, ?_⟩;rw [List.find?_eq_none];rw [List.findIdx?_eq_none_iff] at h;intro x hx;rw [h x hx]
  decide
 | some k =>
  rw [List.findIdx?_eq_some_iff_getElem] at h;obtain ⟨hk, h1, h2⟩ := h;refine .inr ⟨k, l[k], rfl, List.getElem?_eq_getElem hk, ?_⟩;rw [List.find?_eq_some_iff_getElem];exact ⟨h1, k, hk, rfl, fun j hj => by rw [Bool.eq_false_iff.2 (h2 j hj)]; rfl⟩
theorem stepsR_snoc (l : List Ky.Rl) (path : List Tx) (ks : List Nd) (x : Nd) : stepsR l path (ks ++ [x]) = stepsR l path ks ++ (match ruleOf l (path ++ [x.name]) with | none => [] | some r => [(x.name, (keyR x r.2).getD [])]) := by
 unfold stepsR;rw [List.filterMap_append]
 congr 1
 cases h : ruleOf l (path ++ [x.name]) <;> simp [h]
theorem KeyP.uni {B E : Nat} {key : Option (List Tx)} {e : Ending} {w' : World} (h : KeyP B E key e w') : ∃ A c, e = .returned (.tuple #[.slice A (key.getD []).length c, .bool key.isSome]) /\ OwX w' B E (.slice A (key.getD []).length c) (key.getD []) := by
 cases key with
 | none => exact ⟨none, 0, h, OwX.nil _ _ _⟩
 | some l => exact h
theorem info_step : (Tryz.prog.info? 100).map (fun i => (i.zero, i.size, i.bytes)) = some (some (.agg #[.string ⟨#[]⟩, .slice none 0 0]), 2, 40) := by kernel_rfl
theorem info_str : (Tryz.prog.info? 9).map (fun i => (i.zero, i.size, i.bytes)) = some (some (.string ⟨#[]⟩), 1, 16) := by kernel_rfl
set_option maxHeartbeats 20000000 in
set_option maxRecDepth 100000 in
theorem rSteps_any (X : Nat -> Prop) (w : World) (Al : Option Addr) (nl cl : Nat) (l : List Ky.Rl) (Ap : Option Addr) (np cp : Nat) (path : List Tx) (vs : List Value) (n : Nd) (hl : Rs w Al nl cl l) (hp : Ts w Ap np cp path) (hn : NdI X w vs n) (hX : ∀ j, X j -> j < w.heap.size) (hw : wN n <= 1000000)
    (hok : RlOk l) (hps : np <= 900000) :
    Calls Tryz.prog 63 #[.slice Al nl cl, .slice Ap np cp, .agg vs.toArray] w fun e w' => ∃ A m c, e = .returned (.slice A m c) /\ OutG StX 2 100 0 w.heap.size w' (.slice A m c) (stepsR l path n.kids) /\ Below w.heap.size w w' := by
  obtain ⟨T, hT⟩ : ∃ T, w.heap.size = T := ⟨_, rfl⟩;obtain ⟨kd, nm, tx, as_, kz, hne0⟩ : ∃ kd nm tx as_ kz, n = Nd.mk kd nm tx as_ kz := by cases n; exact ⟨_, _, _, _, _, rfl⟩
  have hkz : n.kids = kz := by rw [hne0]; rfl
  rw [hkz];rw [hne0] at hn hw;obtain ⟨Aa, ca, Ak, ck, rfl, hA, hK, hXA, hXK⟩ := hn.cells;obtain ⟨la, hla⟩ : ∃ la, as_.length = la := ⟨_, rfl⟩;obtain ⟨lk, hlk⟩ : ∃ lk, kz.length = lk := ⟨_, rfl⟩;obtain ⟨S1, hS1⟩ : ∃ S, strOf nm = S := ⟨_, rfl⟩;obtain ⟨S2, hS2⟩ : ∃ S, strOf tx = S := ⟨_, rfl⟩;rw [hla, hlk, hS1, hS2];rw [hlk] at hK;rw [wN] at hw;have hlkw : lk <= 1000000 := by rw [<- hlk]; exact Nat.le_trans (wL_len kz) (by omega)
  have hwk : Hid (∀ x ∈ kz, wN x <= 1000000) := Hd fun x hx => Nat.le_trans (wL_mem hx) (by omega)
  obtain ⟨w1, hw1⟩ : ∃ w1, w.alloc (.cells #[.int .i64 kd, .string S1, .string S2, .slice Aa la ca, .slice Ak lk ck] 26) = w1 := ⟨_, rfl⟩;have hb1 : Below w.heap.size w w1 := by rw [<- hw1]; exact (Below.refl _ _).alloc (Nat.le_refl _) _
  have hs1 : w1.heap.size = T + 1 := by rw [<- hw1, World.size_alloc, hT]
  have hn1 : w1.heap[T]? = some (.cells #[.int .i64 kd, .string S1, .string S2, .slice Aa la ca, .slice Ak lk ck] 26) := by rw [<- hw1, <- hT]; exact heap_alloc_new w _
  have hall : Hid (∀ x, Below w1.heap.size w1 x -> x.cell? ⟨T, 4, none⟩ = some (.slice Ak lk ck) /\ Rs x Al nl cl l /\ Ts x Ap np cp path /\ Sq (NdE X) 5 x Ak lk ck kz) := Hd fun x hx => by
    have g := (hx.block T (by omega)).trans hn1;have hwx := hb1.trans (hx.mono hb1.size);exact ⟨Xp.cell_blk g (i := 4) rfl, hl.below hwx, hp.below hwx, Xp.sq_keep hK hwx fun vs y h => NdI.later h hX hwx⟩
  have hXw : Hid (∀ j, X j -> j < w.heap.size) := Hd hX;have hfind : Hid (∀ x A c p, Below w1.heap.size w1 x -> Ts x A (np + 1) c p -> Calls Tryz.prog 94 #[.slice Al nl cl, .slice A (np + 1) c] x fun e w' => e = .returned (.int .i64 (Ky.idxR l p)) /\ ∃ q, w' = x.drewN q) := Hd fun x A c p hx h => Ky.refFind_any Al nl cl l A (np + 1) c p x (hl.below (hb1.trans (hx.mono hb1.size))) h
  have hlk' := Hd hlk;have hll := Hd hl.len;have hle := hK.le;have hm := hK.max;have hlle := hl.le;have hlm := hl.max;have hnl : nl <= 900000 := by rw [<- hll.out]; exact hok.1
  have hb1' := Hd hb1;have hs1' := Hd hs1;have hTw := Hd hT;have hok' := Hd hok;have hpl := Hd hp.len;have hst : Hid (OutG StX 2 100 0 w1.heap.size w1 (.slice none 0 0) (stepsR l path (kz.take 0))) := Hd (OutG.nil (Nat.zero_le _) (Nat.le_refl _));clear hA hK hXA hXK hn hne0 hkz hla hlk hS1 hS2 hX hw hb1 hn1 hl hp hok
  go_enter Tryz.func63, Tryz.ntmps63
  go_wp2_with fail;clear hw1 hT hs1
  go_loopw [7, 8] (fun v i wr => ∃ (k m : Nat) (Ao : Option Addr) (co : Nat), k <= lk /\ m <= k /\ i = .int .i64 k /\ v = .slice Ao m co /\ Hid ((stepsR l path (kz.take k)).length = m) /\ Hid (OutG StX 2 100 0 w1.heap.size wr (.slice Ao m co) (stepsR l path (kz.take k))) /\ Hid (Below w1.heap.size w1 wr)) (fun _ i _ => lk - (intOf i).toNat)
  case atStart => exact ⟨0, 0, none, 0, by omega, by omega, rfl, rfl, Hd rfl, hst, Hd (Below.refl _ _)⟩
  case round =>
    obtain ⟨k, m, Ao, co, hk, hmk, rfl, rfl, hsl, hO, hb⟩ := hrel;clear hst;obtain ⟨r4, hlx, hpx, hKx⟩ := hall.out wr hb.out
    by_cases hlt : k < lk
    · have i1 : decide ((k : Int) < (lk : Int)) = true := by rw [decide_eq_true_eq]; omega
      have i2 : decide (k < lk) = true := by rw [decide_eq_true_eq]; omega
      have i3 : (k : Int) < (lk : Int) := (by omega);obtain ⟨b, off, y, ys, eA, hbl, hy, hys, hel, hcs⟩ := hKx.at_ hlt;subst eA;obtain ⟨kd2, nm2, tx2, as2, kz2, rfl⟩ : ∃ kd nm tx as_ kz, y = Nd.mk kd nm tx as_ kz := by cases y; exact ⟨_, _, _, _, _, rfl⟩
      have hel0 := Hd hel;obtain ⟨Aa2, ca2, Ak2, ck2, rfl, _⟩ := hel.cells;obtain ⟨la2, hla2⟩ : ∃ la, as2.length = la := ⟨_, rfl⟩;obtain ⟨lk2, hlk2⟩ : ∃ lk, kz2.length = lk := ⟨_, rfl⟩;obtain ⟨U1, hU1⟩ : ∃ S, strOf nm2 = S := ⟨_, rfl⟩;obtain ⟨U2, hU2⟩ : ∃ S, strOf tx2 = S := ⟨_, rfl⟩;have m0 : wr.cell? ⟨b, off + k * 5, none⟩ = some (.int .i64 kd2) := hcs 0 _ rfl;have m1 : wr.cell? ⟨b, off + k * 5 + 1, none⟩ = some (.string U1) := by rw [<- hU1]; exact hcs 1 _ rfl
      have m2 : wr.cell? ⟨b, off + k * 5 + 2, none⟩ = some (.string U2) := by rw [<- hU2]; exact hcs 2 _ rfl
      have m3 : wr.cell? ⟨b, off + k * 5 + 3, none⟩ = some (.slice Aa2 la2 ca2) := by rw [<- hla2]; exact hcs 3 _ rfl
      have m4 : wr.cell? ⟨b, off + k * 5 + 4, none⟩ = some (.slice Ak2 lk2 ck2) := by rw [<- hlk2]; exact hcs 4 _ rfl
      have hy' := Hd hy;have hblH := Hd hbl;have hU1H := Hd hU1;have hU2H := Hd hU2;have hla2H := Hd hla2;have hlk2H := Hd hlk2;have hmH : Hid (wr.cell? ⟨b, off + k * 5, none⟩ = some (.int .i64 kd2) /\ wr.cell? ⟨b, off + k * 5 + 1, none⟩ = some (.string U1) /\ wr.cell? ⟨b, off + k * 5 + 2, none⟩ = some (.string U2) /\ wr.cell? ⟨b, off + k * 5 + 3, none⟩ = some (.slice Aa2 la2 ca2) /\ wr.cell? ⟨b, off + k * 5 + 4, none⟩ = some (.slice Ak2 lk2 ck2)) := Hd ⟨m0, m1, m2, m3, m4⟩;have hpH := Hd hpx;have hlH := Hd hlx;have hTl : Hid (T < wr.heap.size) := Hd (by have := hb.out.size; have := hs1'.out; omega);have h4H := Hd r4;have hple := hpx.le;have hpm := hpx.max;clear hcs hys hel hKx hy hbl hU1 hU2 hla2 hlk2 hpx hlx m0 m2 m3 m4;have e4 := r4;have e1 := m1;go_wp2_with fail;refine Pl.wp_region_plan 12 (.take 0 (.take 2 (.take 4 (.take 5 (.take 6 (.take 7 (.take 8 (.take 9 (.two 1 (.two 3 (.run 10 (.run 11 .done)) 10 (.run 3 (.run 11 .done))) 10 (.run 1 (.run 3 (.run 11 .done)))))))))))) (fun x => x.cell? ⟨T, 4, none⟩ = some (.slice (some ⟨b, off, none⟩) lk ck) /\ x.cell? ⟨b, off + k * 5 + 1, none⟩ = some (.string U1)) (by kernel_rfl) (by kernel_rfl) (by exact ⟨e4, e1⟩) ?_;simp only [Pl.fill, Al_4, Al_5, Al_6, Al_7]
      iterate 8
        first
        | (refine Pl.take_go ?_ (by rfl) (fun _ _ _ h => h) ?_ ?_
           rotate_left
           · (intro x hSw; (try (dsimp only at hSw)); go_simp; try with_reducible rfl)
           (try simp only [Act.put, Al_1, Al_2, Al_3]))
        | (refine Pl.take_skip (by rfl) (fun _ _ _ h => h) ?_
           (try simp only [Act.put, Al_1, Al_2, Al_3]))
      refine Pl.duo_go (El := TvEl) (k := 1) (z := .string ⟨#[]⟩) (by_ := 16) (T := wr.heap.size) (vs := [tv nm2]) (x0 := nm2) (la := path) (N1 := np + 1) (u := .string U1)
        Tryz.underlying33 info_str rfl (by omega) (by omega) (fun _ _ _ _ _ h => h) (fun _ _ _ h u hu => by rw [show _ = [tv _] from h] at hu; rw [List.mem_singleton.1 hu]; rfl) ⟨rfl, rfl, rfl, rfl⟩ ⟨rfl, rfl, rfl, rfl⟩ rfl rfl rfl rfl ⟨slot_lt (n := 59) (by decide) rfl, slot_lt (n := 59) (by decide) rfl, slot_lt (n := 59) (by decide) rfl, slot_lt (n := 59) (by decide) rfl⟩ (by decide)
        rfl (fun x hx => sq_of_ts (hpH.out.below (bdrew hx))) rfl (by rw [<- hU1H.out]; rfl) rfl (fun x _ => rfl) rfl (by omega) (by omega) (Nat.le_refl _) (fun x hx => ⟨((bdrew hx).cell (p := ⟨T, 4, none⟩) hTl.out).trans r4, ((bdrew hx).cell (p := ⟨b, off + k * 5 + 1, none⟩) hblH.out).trans m1⟩) ?_
      intro u0 u4 u9 A9 c9 x9 ho hx;have hts : Hid (Ts x9 A9 (np + 1) c9 (path ++ [nm2])) := Hd (owx_of_ows ho).rd;have hbx := Hd (bdrew hx);have hbw1 := Hd (hb.out.trans (hbx.out.mono hb.out.size));clear ho hx r4 m1 e4 e1
      try simp only [Act.put, Al_1, Al_2, Al_3]
      go_wp2_with fail;refine (hfind.out x9 A9 c9 (path ++ [nm2]) hbw1.out hts.out).mono ?_;rintro e w4 ⟨rfl, q, hq⟩;subst hq;have hb4 : Hid (Below wr.heap.size wr (x9.drewN q)) := Hd (hbx.out.trans ((Joins.below_draws _ _ _).mono hbx.out.size));obtain ⟨w4, hw4⟩ : ∃ w4, x9.drewN q = w4 := ⟨_, rfl⟩;rw [hw4] at hb4 ⊢;clear hw4;obtain ⟨z, hz⟩ : ∃ z, Ky.idxR l (path ++ [nm2]) = z := ⟨_, rfl⟩;rw [hz];have hbw4 := Hd (hb.out.trans (hb4.out.mono hb.out.size));have hO4 := Hd (hO.out.below elt_st hb4.out);rcases idx_rule (l := l) (p := path ++ [nm2]) with ⟨g1, g2⟩ | ⟨r, rl, g1, g2, g3⟩
      · have ez : z = -1 := by rw [<- hz]; exact g1
        subst ez
        have hnx : Hid (stepsR l path (kz.take (k + 1)) = stepsR l path (kz.take k)) := Hd (by
          rw [take_snoc hy'.out, stepsR_snoc];have : ruleOf l (path ++ [(Nd.mk kd2 nm2 tx2 as2 kz2).name]) = none := g2;rw [this]
          simp)
        have hsl2 : Hid ((stepsR l path (kz.take (k + 1))).length = m) := Hd (by rw [hnx.out]; exact hsl.out);have hO5 : Hid (OutG StX 2 100 0 w1.heap.size w4 (.slice Ao m co) (stepsR l path (kz.take (k + 1)))) := Hd (by rw [hnx.out]; exact hO4.out);clear hz g1 g2 hnx;go_wp2_with fail;go_roundw
        case rel => exact ⟨k + 1, m, Ao, co, by omega, by omega, by go_num, rfl, hsl2, hO5, hbw4⟩
        case measure => simp [intOf]; omega
      · have ez : z = (r : Int) := by rw [<- hz]; exact g1
        subst ez;have hrl : r < nl := by have := (List.getElem?_eq_some_iff.1 g2).1; have := hll.out; omega
        have hlx4 := hlH.out.below hb4.out;obtain ⟨bl, ol, rl', A1, n1, c1, A2, n2, c2, eAl, hbll, hrl2, t1, t2, k0, k1⟩ := Rs.at_ hlx4 hrl;have erl : rl' = rl := by rw [hrl2] at g2; injection g2
        subst erl;subst eAl;have hrm := List.mem_of_getElem? g2;have hokr := hok'.out.2 rl' hrm;have h0r : (0 : Int) <= (r : Int) := (by omega);have hri : (r : Int) < (nl : Int) := (by omega);have hr64 : (r : Int) < 9223372036854775808 := (by omega);have f1 : decide ((r : Int) < 0) = false := by rw [decide_eq_false_iff_not]; omega
        obtain ⟨m0, m1, m2, m3, m4⟩ := hmH.out;have p0 := (hb4.out.cell (p := ⟨b, off + k * 5, none⟩) hblH.out).trans m0;have p1 := (hb4.out.cell (p := ⟨b, off + k * 5 + 1, none⟩) hblH.out).trans m1;have p2 := (hb4.out.cell (p := ⟨b, off + k * 5 + 2, none⟩) hblH.out).trans m2;have p3 := (hb4.out.cell (p := ⟨b, off + k * 5 + 3, none⟩) hblH.out).trans m3;have p4 := (hb4.out.cell (p := ⟨b, off + k * 5 + 4, none⟩) hblH.out).trans m4;have r4 := (hb4.out.cell (p := ⟨T, 4, none⟩) hTl.out).trans h4H.out
        have hK2 : Hid (Calls Tryz.prog 95 #[.agg #[.slice A1 n1 c1, .slice A2 n2 c2], .agg #[.int .i64 kd2, .string U1, .string U2, .slice Aa2 la2 ca2, .slice Ak2 lk2 ck2]] w4.drew fun e w' => KeyP w4.heap.size 9 (keyR (Nd.mk kd2 nm2 tx2 as2 kz2) rl'.2) e w' /\ Below w4.heap.size w4.drew w') := Hd (by
          have hdw := Joins.below_draws w4.heap.size w4 1;have hXr : ∀ j, X j -> j < wr.heap.size := fun j hj => Nat.lt_of_lt_of_le (hXw.out j hj) (Nat.le_trans hb1'.out.size hb.out.size)
          have h1 := ((hel0.out.later hXr hb4.out).later (fun j hj => Nat.lt_of_lt_of_le (hXr j hj) hb4.out.size) hdw);have := rKey_any X w4.drew A1 n1 c1 A2 n2 c2 rl'.2 _ _ (t2.below hdw) h1 (fun j hj => Nat.lt_of_lt_of_le (hXr j hj) hb4.out.size) (hwk.out _ (List.mem_of_getElem? hy'.out)) hokr.2.1 hokr.2.2;rw [hU1H.out, hU2H.out, hla2H.out, hlk2H.out] at this
          exact this)
        have hnx : Hid (stepsR l path (kz.take (k + 1)) = stepsR l path (kz.take k) ++ [(nm2, (keyR (Nd.mk kd2 nm2 tx2 as2 kz2) rl'.2).getD [])]) := Hd (by
          rw [take_snoc hy'.out, stepsR_snoc];have : ruleOf l (path ++ [(Nd.mk kd2 nm2 tx2 as2 kz2).name]) = some rl' := g3;rw [this]
          rfl)
        obtain ⟨KR, hKR⟩ : ∃ K, keyR (Nd.mk kd2 nm2 tx2 as2 kz2) rl'.2 = K := ⟨_, rfl⟩;rw [hKR] at hK2 hnx;have hbllH := Hd hbll;have hk0H := Hd k0;have hk1H := Hd k1;clear hz g1 g2 g3 hrl2 t1 t2 hlx4 m0 m1 m2 m3 m4 hKR hbll hokr hrm;go_wp2_with fail;refine Pl.wp_region_plan 14 (.take 0 (.take 1 (.take 2 (.take 3 (.take 4 (.take 5 (.take 6 (.take 7 (.take 8 (.run 9 (.take 10 (.take 11 (.take 12 (.take 13 .done)))))))))))))) (fun x => x.cell? ⟨T, 4, none⟩ = some (.slice (some ⟨b, off, none⟩) lk ck) /\ x.cell? ⟨bl, ol + r * 2, none⟩ = some (.slice A1 n1 c1) /\ x.cell? ⟨bl, ol + r * 2 + 1, none⟩ = some (.slice A2 n2 c2) /\ x.cell? ⟨b, off + k * 5, none⟩ = some (.int .i64 kd2) /\ x.cell? ⟨b, off + k * 5 + 1, none⟩ = some (.string U1) /\ x.cell? ⟨b, off + k * 5 + 2, none⟩ = some (.string U2) /\ x.cell? ⟨b, off + k * 5 + 3, none⟩ = some (.slice Aa2 la2 ca2) /\ x.cell? ⟨b, off + k * 5 + 4, none⟩ = some (.slice Ak2 lk2 ck2)) (by kernel_rfl) (by kernel_rfl) (by exact ⟨r4, k0, k1, p0, p1, p2, p3, p4⟩) ?_;simp only [Pl.fill, Al_4, Al_5, Al_6, Al_7]
        iterate 9
          first
          | (refine Pl.take_go ?_ (by rfl) (fun _ _ _ h => h) ?_ ?_
             rotate_left
             · (intro x hSw; (try (dsimp only at hSw)); go_simp; try with_reducible rfl)
             (try simp only [Act.put, Al_1, Al_2, Al_3]))
          | (refine Pl.take_skip (by rfl) (fun _ _ _ h => h) ?_
             (try simp only [Act.put, Al_1, Al_2, Al_3]))
        refine Pl.run_go (fun K hK => ?_);go_simp;refine hK2.out.mono ?_;rintro e w5 ⟨hkp, hb5⟩;obtain ⟨A5, c5, rfl, ho5⟩ := KeyP.uni hkp;have hb5x : Below w4.heap.size w4 w5 := (show Below w4.heap.size w4 w4.drew from Joins.below_draws w4.heap.size w4 1).trans hb5;have ho5H := Hd ho5;have hb5H := Hd hb5x;have hbl4 := Nat.lt_of_lt_of_le hblH.out hb4.out.size;have s4 := (hb5x.cell (p := ⟨T, 4, none⟩) (Nat.lt_of_lt_of_le hTl.out hb4.out.size)).trans r4;have s0 := (hb5x.cell (p := ⟨b, off + k * 5, none⟩) hbl4).trans p0;have s1 := (hb5x.cell (p := ⟨b, off + k * 5 + 1, none⟩) hbl4).trans p1;have s2 := (hb5x.cell (p := ⟨b, off + k * 5 + 2, none⟩) hbl4).trans p2;have s3 := (hb5x.cell (p := ⟨b, off + k * 5 + 3, none⟩) hbl4).trans p3;have s5 := (hb5x.cell (p := ⟨b, off + k * 5 + 4, none⟩) hbl4).trans p4;have v0 := (hb5x.cell (p := ⟨bl, ol + r * 2, none⟩) hbllH.out).trans k0;have v1 := (hb5x.cell (p := ⟨bl, ol + r * 2 + 1, none⟩) hbllH.out).trans k1;obtain ⟨nk, hnk⟩ : ∃ nk, (KR.getD []).length = nk := ⟨_, rfl⟩;rw [hnk] at ho5H ⊢;have hnkH := Hd hnk;clear hkp hb5 ho5 hb5x hnk hbl4;dsimp only;refine hK.out _ _ (Pl.more_go _ (fun _ h => h) (by exact ⟨s4, v0, v1, s0, s1, s2, s3, s5⟩) ?_);clear hK K
        try simp only [Act.put, Al_1, Al_2, Al_3]
        iterate 4
          first
          | (refine Pl.take_go ?_ (by rfl) (fun _ _ _ h => h) ?_ ?_
             rotate_left
             · (intro x hSw; (try (dsimp only at hSw)); go_simp; try with_reducible rfl)
             (try simp only [Act.put, Al_1, Al_2, Al_3]))
          | (refine Pl.take_skip (by rfl) (fun _ _ _ h => h) ?_
             (try simp only [Act.put, Al_1, Al_2, Al_3]))
        refine Pl.done_go ?_;clear v0 v1 s0 s2 s3 s5 r4 p0 p1 p2 p3 p4 k0 k1;have hO5 := Hd (hO4.out.below elt_st hb5H.out);have hbw5 := Hd (hbw4.out.trans (hb5H.out.mono hbw4.out.size));have hbl5 := below_alloc w5 (.cells #[.string U1, .slice A5 nk c5] 100);have hO6 := Hd (hO5.out.below elt_st hbl5);have ho6 := Hd (ho5H.out.below hbl5);have hbw6 := Hd (hbw5.out.trans (hbl5.mono hbw5.out.size))
        have hz : Hid (Sq (StX (XB 0 w1.heap.size (w5.alloc (.cells #[.string U1, .slice A5 nk c5] 100)) (.slice Ao m co))) 2 (w5.alloc (.cells #[.string U1, .slice A5 nk c5] 100)) (some ⟨w5.heap.size, 0, none⟩) 1 1 [(nm2, KR.getD [])]) := Hd (sq_one (El := StX (XB 0 w1.heap.size (w5.alloc (.cells #[.string U1, .slice A5 nk c5] 100)) (.slice Ao m co))) (k := 2) w5 [.string U1, .slice A5 nk c5] (nm2, KR.getD []) 100 (0, 0) rfl (by
          refine ⟨A5, c5, by rw [<- hU1H.out, <- hnkH.out], by show Ts _ A5 (KR.getD []).length c5 (KR.getD []); rw [hnkH.out]; exact ho6.out.rd, fun a ea hp => ?_⟩;subst ea;have hj := World.ownsRow.lt ho6.out a.block (by unfold Value.ownBlock; rfl);refine .inr ⟨Nat.le_trans hbw4.out.size hj.1, hj.2, fun e8 => ?_⟩;have := (hO4.out.lt _ e8).2
          omega))
        have hsl3 : Hid ((stepsR l path (kz.take (k + 1))).length = m + 1) := Hd (by rw [hnx.out, List.length_append, hsl.out]; rfl);clear hbl5
        go_wp2_with (at_builtin; apply stop_here)
        refine Stop.go (append_sq (El := StX (XB 0 w1.heap.size (w5.alloc (.cells #[.string U1, .slice A5 nk c5] 100)) (.slice Ao m co))) (k := 2) _ 121 100 (.agg #[.string ⟨#[]⟩, .slice none 0 0]) 40 Tryz.underlying121 info_step rfl (by omega) rfl _ _ rfl w1.heap.size (.slice Ao m co) (stepsR l path (kz.take k)) rfl hO6.out.1 _ 1 1 [(nm2, KR.getD [])] rfl hz.out (fun vs x h => elt_st.one h) (hO6.out.keep elt_st) (m + 1) (by rw [hsl.out]) (by omega) (by omega) hO6.out.2.2 ?_);intro A8 c8 x8 ho8 hg8 hb8 hv8;have hO8 : Hid (OutG StX 2 100 0 w1.heap.size x8 (.slice A8 (m + 1) c8) (stepsR l path (kz.take (k + 1)))) := Hd (by rw [hnx.out]; exact hO6.out.app elt_st ho8 hg8 hv8);have hB8 := Hd (hbw6.out.trans hb8);clear ho8 hg8 hb8 hv8 hO6 hz s4 s1;go_wp2_with fail;go_roundw
        case rel => exact ⟨k + 1, m + 1, A8, c8, by omega, by omega, by go_num, rfl, hsl3, hO8, hB8⟩
        case measure => simp [intOf]; omega
    · have i1 : decide ((k : Int) < (lk : Int)) = false := by rw [decide_eq_false_iff_not]; omega
      have i2 : decide (k < lk) = false := by rw [decide_eq_false_iff_not]; omega
      have e1 : k = lk := (by omega);subst e1
      have hO' : Hid (OutG StX 2 100 0 w.heap.size wr (.slice Ao m co) (stepsR l path kz)) := Hd (by
        have h1 := hO.out;rw [List.take_of_length_le (by rw [hlk'.out]; exact Nat.le_refl _)] at h1
        exact h1.down elt_st (Nat.zero_le _) hb1'.out.size)
      clear hlx hpx hKx;go_wp2_with fail;go_ret;exact ⟨Ao, m, co, rfl, hO'.out, hb1'.out.trans (hb.out.mono hb1'.out.size)⟩
end Go.Proofs.YtdnfnkicmfkkmaaGreatDoor.No
end

section
namespace Go.Proofs.YtdnfnkicmfkkmaaGreatDoor.No
open Go.RowKit UtfW Xl Xt Xo
mutual
theorem elementsN_w : ∀ n : Nd, elementsN n <= wN n
 | .mk k nm tx as_ ks => by
  have h := elementsL_w ks;simp only [elementsN];rw [wN]
  split <;> omega
theorem elementsL_w : ∀ l : List Nd, elementsL l <= wL l
 | [] => by simp [elementsL]
 | x :: xs => by
  have h1 := elementsN_w x;have h2 := elementsL_w xs;simp only [elementsL];rw [wL];omega
end
theorem elementsL_snoc (x : Nd) : ∀ l : List Nd, elementsL (l ++ [x]) = elementsL l + elementsN x
 | [] => by simp [elementsL]
 | y :: l => by
  simp only [List.cons_append, elementsL, elementsL_snoc x l];omega
theorem elementsL_take : ∀ (l : List Nd) (k : Nat), elementsL (l.take k) <= elementsL l
 | [], k => by simp [elementsL]
 | x :: l, 0 => by simp [elementsL]
 | x :: l, k + 1 => by
  have := elementsL_take l k;simp only [List.take_succ_cons, elementsL];omega
def ElemAt (X : Nat -> Prop) (n : Nd) : Prop := ∀ (vs : List Value) (w : World), NdI X w vs n -> (∀ j, X j -> j < w.heap.size) →
 Calls Tryz.prog 96 #[.agg vs.toArray] w fun e w' => e = .returned (.int .i64 (elementsN n : Nat)) /\ Below w.heap.size w w'
set_option maxHeartbeats 8000000 in
set_option maxRecDepth 100000 in
theorem rElem_any : ∀ (kk : Nat) (X : Nat -> Prop) (n : Nd), SizeOf.sizeOf n <= kk -> wN n <= 1000000 -> ElemAt X n := by
 intro kk
 induction kk with
 | zero => intro X n hk; cases n; rw [Nd.mk.sizeOf_spec] at hk; omega
 | succ kk ih =>
  intro X n hkk hw vs w hn hX;obtain ⟨kd, nm, tx, as_, kz, rfl⟩ : ∃ kd nm tx as_ kz, n = Nd.mk kd nm tx as_ kz := by cases n; exact ⟨_, _, _, _, _, rfl⟩
  obtain ⟨Aa, ca, Ak, ck, rfl, hA, hK, _, _⟩ := hn.cells;rw [Nd.mk.sizeOf_spec] at hkk;rw [wN] at hw;have hsz : Hid (SizeOf.sizeOf kz <= kk) := Hd (by omega);have hkl := Hd hK.len;have hke := hK.le;have hkm := hK.max;obtain ⟨la, hla⟩ : ∃ la, as_.length = la := ⟨_, rfl⟩;obtain ⟨lk, hlk⟩ : ∃ lk, kz.length = lk := ⟨_, rfl⟩;obtain ⟨S1, hS1⟩ : ∃ S, strOf nm = S := ⟨_, rfl⟩;obtain ⟨S2, hS2⟩ : ∃ S, strOf tx = S := ⟨_, rfl⟩;rw [hlk] at hK hke;rw [hla, hlk, hS1, hS2];obtain ⟨T, hT⟩ : ∃ T, w.heap.size = T := ⟨_, rfl⟩;obtain ⟨w1, hw1⟩ : ∃ w1, w.alloc (.cells #[.int .i64 kd, .string S1, .string S2, .slice Aa la ca, .slice Ak lk ck] 26) = w1 := ⟨_, rfl⟩;have hb1 : Below w.heap.size w w1 := by rw [<- hw1]; exact (Below.refl _ _).alloc (Nat.le_refl _) _
  have hn1 : w1.heap[T]? = some (.cells #[.int .i64 kd, .string S1, .string S2, .slice Aa la ca, .slice Ak lk ck] 26) := by rw [<- hw1, <- hT]; exact heap_alloc_new w _
  have hTl : T < w1.heap.size := (Array.getElem?_eq_some_iff.1 hn1).1;have t0 : w1.cell? ⟨T, 0, none⟩ = some (.int .i64 kd) := Xp.cell_blk hn1 (i := 0) rfl;have t4 : w1.cell? ⟨T, 4, none⟩ = some (.slice Ak lk ck) := Xp.cell_blk hn1 (i := 4) rfl;have ih' := Hd ih;have hw' := Hd hw;have hlkH := Hd hlk;have hb1H := Hd hb1;have hTlH := Hd hTl;have hTw := Hd hT;have hX1 : Hid (∀ j, X j -> j < w1.heap.size) := Hd fun j hj => Nat.lt_of_lt_of_le (hX j hj) hb1.size
  have hKH : Hid (Sq (NdE X) 5 w1 Ak lk ck kz) := Hd (Xp.sq_keep hK hb1 fun vs y h => NdI.later h hX hb1);clear ih hn hA hK hX hkk hw hla hlk hS1 hS2 hn1 hb1 hTl
  by_cases hk1 : kd = 1
  ·have e9 : (kd != 1) = false := by rw [hk1]; rfl
   have hE : Hid (elementsN (.mk kd nm tx as_ kz) = 1 + elementsL kz) := Hd (by simp only [elementsN]; rw [if_pos hk1]);clear hk1
   go_enter Tryz.func96, Tryz.ntmps96
   go_wp2_with fail;clear hw1 hT t0
   go_loopw [3, 4] (fun c i wr => ∃ (k m : Nat), k <= lk /\ i = .int .i64 k /\ c = .int .i64 m /\ m <= 1000001 /\ Hid (m = 1 + elementsL (kz.take k)) /\ Hid (Below w1.heap.size w1 wr)) (fun _ i _ => lk - (intOf i).toNat)
   case atStart => exact ⟨0, 1, by omega, rfl, rfl, by omega, Hd (by simp [elementsL]), Hd (Below.refl _ _)⟩
   case round =>
    obtain ⟨k, m, hk, rfl, rfl, hm, hmE, hb⟩ := hrel;have s4 := (hb.out.cell (p := ⟨T, 4, none⟩) hTlH.out).trans t4
    by_cases hlt : k < lk
    ·have q1 : decide ((k : Int) < (lk : Int)) = true := by rw [decide_eq_true_eq]; omega
     have q2 : decide (k < lk) = true := by rw [decide_eq_true_eq]; omega
     have q3 : (k : Int) < (lk : Int) := (by omega);obtain ⟨b2, off2, kid, vs2, eAk, hbl2, hy, hvs2, hel2, hcs2⟩ := (Xp.sq_keep hKH.out hb.out fun vs y h => NdI.later h hX1.out hb.out).at_ hlt;subst eAk;obtain ⟨kd2, nm2, tx2, as2, kz2, rfl⟩ : ∃ kd nm tx as_ kz, kid = Nd.mk kd nm tx as_ kz := by cases kid; exact ⟨_, _, _, _, _, rfl⟩
     obtain ⟨A3, c3, A4, c4, rfl, _⟩ := hel2.cells;have hym := List.mem_of_getElem? hy;have hwk := wL_mem hym;have hcall := ih'.out X _ (by have h1 := List.sizeOf_lt_of_mem hym; have := hsz.out; omega) (by have := hw'.out; omega) _ wr hel2 (fun j hj => Nat.lt_of_lt_of_le (hX1.out j hj) hb.out.size);have hsn : Hid (m + elementsN (.mk kd2 nm2 tx2 as2 kz2) = 1 + elementsL (kz.take (k + 1))) := Hd (by rw [take_snoc hy, elementsL_snoc, hmE.out]; omega);have hbd : m + elementsN (.mk kd2 nm2 tx2 as2 kz2) <= 1000001 := by have h1 := hsn.out; have h2 := elementsL_take kz (k + 1); have h3 := elementsL_w kz; have := hw'.out; omega
     obtain ⟨EN, hEN⟩ : ∃ EN, elementsN (.mk kd2 nm2 tx2 as2 kz2) = EN := ⟨_, rfl⟩;rw [hEN] at hsn hbd hcall;obtain ⟨n3, hn3⟩ : ∃ n, as2.length = n := ⟨_, rfl⟩;obtain ⟨n4, hn4⟩ : ∃ n, kz2.length = n := ⟨_, rfl⟩;obtain ⟨U1, hU1⟩ : ∃ S, strOf nm2 = S := ⟨_, rfl⟩;obtain ⟨U2, hU2⟩ : ∃ S, strOf tx2 = S := ⟨_, rfl⟩;rw [hn3, hn4, hU1, hU2] at hcs2 hcall;have d0 : wr.cell? ⟨b2, off2 + k * 5, none⟩ = some (.int .i64 kd2) := hcs2 0 _ rfl;have d1 : wr.cell? ⟨b2, off2 + k * 5 + 1, none⟩ = some (.string U1) := hcs2 1 _ rfl;have d2 : wr.cell? ⟨b2, off2 + k * 5 + 2, none⟩ = some (.string U2) := hcs2 2 _ rfl;have d3 : wr.cell? ⟨b2, off2 + k * 5 + 3, none⟩ = some (.slice A3 n3 c3) := hcs2 3 _ rfl;have d4 : wr.cell? ⟨b2, off2 + k * 5 + 4, none⟩ = some (.slice A4 n4 c4) := hcs2 4 _ rfl;have hcH := Hd hcall;clear hcs2 hvs2 hy hbl2 hel2 hU1 hU2 hn3 hn4 hym hwk hcall hEN;go_wp2_with fail;refine hcH.out.mono ?_;rintro e w9 ⟨rfl, hb9⟩;have hb9H := Hd (hb.out.trans (hb9.mono hb.out.size));clear hb9 d0 d1 d2 d3 d4;go_wp2_with fail;go_roundw
     case rel => exact ⟨k + 1, m + EN, by omega, by go_num, by go_num, hbd, hsn, hb9H⟩
     case measure => simp [intOf]; omega
    ·have q1 : decide ((k : Int) < (lk : Int)) = false := by rw [decide_eq_false_iff_not]; omega
     have q2 : decide (k < lk) = false := by rw [decide_eq_false_iff_not]; omega
     have e1 : k = lk := (by omega);have hv : Hid (m = elementsN (.mk kd nm tx as_ kz)) := Hd (by rw [hE.out, hmE.out, List.take_of_length_le (by rw [hlkH.out]; omega)]);clear e1;go_wp2_with fail;go_ret;exact ⟨by rw [<- hv.out]; rfl, hb1H.out.trans (hb.out.mono hb1H.out.size)⟩
  ·have e9 : (kd != 1) = true := by rw [bne_iff_ne]; exact hk1
   have hE : Hid (elementsN (.mk kd nm tx as_ kz) = 0) := Hd (by simp only [elementsN]; rw [if_neg hk1]);clear hk1
   go_enter Tryz.func96, Tryz.ntmps96
   go_wp2_with fail;go_ret;exact ⟨by rw [hE.out]; rfl, by rw [<- hTw.out]; exact hb1H.out⟩
end Go.Proofs.YtdnfnkicmfkkmaaGreatDoor.No
end
