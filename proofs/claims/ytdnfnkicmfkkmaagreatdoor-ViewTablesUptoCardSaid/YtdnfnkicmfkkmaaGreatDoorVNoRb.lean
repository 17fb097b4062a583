/- The document's Attrs. Printed by no_rb.py. -/
import Derived.Test.YtdnfnkicmfkkmaaGreatDoorVUtfEnc
import Derived.Test.YtdnfnkicmfkkmaaGreatDoorVVwMem
import Derived.BigRegion
import Derived.Test.YtdnfnkicmfkkmaaGreatDoorVNoOrd
import Derived.Test.YtdnfnkicmfkkmaaGreatDoorVKyRb
import Derived.Test.YtdnfnkicmfkkmaaGreatDoorVPlan2
import Derived.Test.YtdnfnkicmfkkmaaGreatDoorVStrLaws
import Derived.Great.BuildSlice
set_option linter.unusedVariables false
set_option linter.unusedSimpArgs false
section
namespace Go.Proofs.YtdnfnkicmfkkmaaGreatDoor.Xp
open Go.RowKit UtfW Xl
theorem cell_blk {w : World} {b i : Nat} {cs : Array Value} {E : TypeId} {v : Value} (h : w.heap[b]? = some (.cells cs E)) (hi : cs[i]? = some v) : w.cell? ⟨b, i, none⟩ = some v := by
 simp only [World.cell?, h]
 simpa using hi
theorem run_append_str (w : World) (B : Nat) (v : Value) (la lb : Tx) (hown : OwB w B 5 v la) (hsz : la.length + lb.length <= 140737488355328) (hB : B <= w.heap.size) (ty : TypeId) :
  ∃ v' w', (Builtin.append_ #[81, 9] ty #[v, .string (strOf lb)]).run Tryz.prog w = .ok v' w' /\ OwB w' B 5 v' (la ++ lb) /\ w.grownBy w' v.ownBlock /\ (v'.ownBlock = v.ownBlock \/ v'.ownBlock = some w.heap.size) /\ (v = .slice none 0 0 -> lb = [] -> v' = .slice none 0 0) := by
 have hsl : (strOf lb).size = lb.length := strOf_size' lb;obtain ⟨i, hi, hz, hs1, hb1⟩ := info_parts info_u8;obtain ⟨v', w', hr, h1, h2, h3⟩ := Lib.run_append_own_string (P := Tryz.prog) w B 81 9 ty 5 i Tryz.underlying81 Tryz.underlying9 hi hz hs1 hb1 v la.length (bv la) hown (strOf lb) (by unfold maxLen; omega) (by omega) hB;refine ⟨v', w', hr, ?_, h2, ?_, fun e1 e2 => h3.2 ⟨e1, by rw [hsl, e2]; rfl⟩⟩
 ·unfold OwB;rw [bv_append, List.length_append, <- hsl]
  have e : Lib.strCells (strOf lb) = bv lb := by
   unfold Lib.strCells bv strOf;rfl
  rw [<- e];exact h1
 ·rcases hown.2 with ⟨rfl, hn⟩ | ⟨g, cap, cur, rfl, hbg, hg, hnc, hcm, hcs, htake⟩
  ·obtain ⟨v2, w2, hr2, h4, _, _⟩ := Lib.run_append_own_string (P := Tryz.prog) w w.heap.size 81 9 ty 5 i Tryz.underlying81 Tryz.underlying9 hi hz hs1 hb1 (.slice none 0 0) 0 [] (World.ownsRow_nil w w.heap.size _ 1) (strOf lb) (by unfold maxLen; omega) (by omega) (Nat.le_refl _);rw [hr] at hr2;injection hr2 with e1 e2;subst e1 e2;rcases h4.2 with ⟨rfl, _⟩ | ⟨g, cap, cur, rfl, hbg, hg, _⟩
   ·exact .inl rfl
   ·refine .inr ?_;have hlt : g < w'.heap.size := (Array.getElem?_eq_some_iff.1 hg).1
    by_cases hm : (strOf lb).size = 0
    ·have := h3.2 ⟨rfl, hm⟩
     cases this
    ·have hrn := run_append_nil_string (P := Tryz.prog) w 81 9 ty 5 i (.int .u8 0) Tryz.underlying81 Tryz.underlying9 hi hz (strOf lb) (by omega) (by omega) (by rw [hb1]; omega);rw [hr] at hrn;have e1 := congrArg (fun r : Result Value => match r with | .ok v _ => v.ownBlock | _ => none) hrn;exact e1
  ·by_cases hroom : la.length + (strOf lb).size <= cap
   ·have hr2 := Lib.run_append_room_string (P := Tryz.prog) w 81 9 ty 5 i Tryz.underlying81 Tryz.underlying9 hi hs1 g la.length cap cur hg (strOf lb) hroom (by have : cur.size = cap * 1 := hcs; omega);rw [hr] at hr2;injection hr2 with e1 e2;rw [e1];exact .inl rfl
   ·have hr2 := Lib.run_append_grow_string (P := Tryz.prog) w 81 9 ty 5 i (.int .u8 0) Tryz.underlying81 Tryz.underlying9 hi hz ⟨g, 0, none⟩ la.length cap (bv la) (by rw [hs1]; exact hown.1) (World.ownsRow.cells (g := g) hown rfl) (strOf lb) (by omega) (by omega) (by rw [hb1]; exact growslice_fits (by omega) (by omega));rw [hr] at hr2;injection hr2 with e1 e2;rw [e1];exact .inr rfl
theorem append_str {ops : Array Oper} {rest : List Oper} {o : Oper} {a : Act} {Q : Exit -> Act -> World -> Prop} (w : World) (hgd : o.guard = none) (s x : Operand)
  (ho : o.op = .call { callee := .builtin .append, args := #[s, x], argTypes := #[81, 9] })
  (B : Nat) (v : Value) (la : Tx) (hs : a.eval s = v) (hown : OwB w B 5 v la) (lb : Tx) (hx : a.eval x = .string (strOf lb))
  (hsz : la.length + lb.length <= 140737488355328) (hB : B <= w.heap.size)
  (h : ∀ v' w', OwB w' B 5 v' (la ++ lb) -> w.grownBy w' v.ownBlock -> (v'.ownBlock = v.ownBlock \/ v'.ownBlock = some w.heap.size) -> (v = .slice none 0 0 -> lb = [] -> v' = .slice none 0 0) -> wpList Tryz.prog ops Q rest (a.put o.dst v') w') :
  wpList Tryz.prog ops Q (o :: rest) a w := by
 refine wpList_plain hgd fun K hK => ?_
 obtain ⟨v', w', hr, h1, h2, h3, h4⟩ := run_append_str w B v la lb hown hsz hB o.type;unfold Oper.wp execOp;simp only [ho, resolve, invoke, builtin, Sem.run_bind, Sem.run_pure, Result.andThen_ok, List.map_toArray, List.map_cons, List.map_nil, hs, hx, hr];exact hK _ _ (h v' w' h1 h2 h3 h4)
set_option maxHeartbeats 1000000 in
set_option maxRecDepth 100000 in
theorem write_any (b : Nat) (v : Value) (l s : Tx) (w : World) (h : Pr b v l w) (hlen : l.length + s.length <= 100000000000000) :
  Calls Tryz.prog 32 #[.pointer (some ⟨b, 0, none⟩), .string (strOf s)] w fun e w' => (∃ r, e = .returned r) /\ ∃ v', Pr b v' (l ++ s) w' /\ Wk b v w v' w' := by
 have hlt := h.lt
 have hcc : Calls Tryz.prog 66 #[.pointer (some ⟨b, 0, none⟩)] w fun e w' => e = .returned (.tuple #[]) /\ (w'.heap[b]? = some (.cells #[.pointer (some ⟨b, 0, none⟩), v] 222) /\ OwB w' b 5 v l /\ Wk b v w v w') := by
  obtain ⟨p, h1, h2⟩ := h.blk;rcases h2 with rfl | rfl
  ·refine (copy_fresh b w (cell_blk h1 (i := 0) rfl) (by simp [World.shape?, h1]) (frozen_of_row w b 0 _ _ h1)).mono ?_;rintro e w' ⟨rfl, rfl⟩;have hg := grown_set w ⟨b, 0, none⟩ (.pointer (some ⟨b, 0, none⟩));have hw : Wk b v w v (w.setCell ⟨b, 0, none⟩ (.pointer (some ⟨b, 0, none⟩))) := ⟨(Below.refl b w).grown hg (Nat.le_of_lt hlt) (fun k hk => by injection hk with hk; rw [<- hk]; exact Nat.le_refl _), fun k hk h3 _ => hg.block k hk (fun e => by injection e with e; exact h3 e), .inl rfl⟩;refine ⟨rfl, blk_setCell h1 _, ?_, hw⟩;exact World.ownsRow.kept h.own hg (.inr h.ne)
  ·refine (copy_used b w (cell_blk h1 (i := 0) rfl)).mono ?_;rintro e w' ⟨rfl, rfl⟩;exact ⟨rfl, h1, h.own, Wk.refl _ _ _⟩
 have hne := h.ne;have hnilH := Hd h.nil;have hcH := Hd hcc;have hneH := Hd hne;clear hcc h hne hlt
 go_enter Tryz.func32, Tryz.ntmps32
 go_wp2_with fail;refine hcH.out.mono ?_;rintro e w1 ⟨rfl, hbk, hown, hwk⟩;have c1 : w1.cell? ⟨b, 1, none⟩ = some v := cell_blk hbk rfl;have hlt := (Array.getElem?_eq_some_iff.1 hbk).1;have hbkH := Hd hbk;have hwkH := Hd hwk;have hown := Hd hown;clear hbk hwk hcH
 go_wp2_with (at_builtin; apply stop_here)
 refine Stop.go (append_str w1 rfl _ _ rfl b v l rfl hown.out s rfl (by omega) (by omega) ?_);intro v' w2 ho hg hv hnl
 obtain ⟨ao, n', cap, rfl⟩ : ∃ ao n' cap, v' = .slice ao n' cap := by
  rcases ho.2 with ⟨h1, _⟩ | ⟨g, cap, cur, h1, _⟩
  ·exact ⟨_, _, _, h1⟩
  ·exact ⟨_, _, _, h1⟩
 have hb2 : w2.heap[b]? = some (.cells #[.pointer (some ⟨b, 0, none⟩), v] 222) := (hg.block b hlt (fun e => hneH.out e.symm)).trans hbkH.out;have d1 : w2.cell? ⟨b, 1, none⟩ = some v := cell_blk hb2 rfl;have f1 := frozen_of_row w2 b 1 _ _ hb2;have hs2 := hg.size;have hg3 := grown_set w2 ⟨b, 1, none⟩ (.slice ao n' cap);have ho' : OwB w2 b 5 (.slice ao n' cap) (l ++ s) := ho
 have hne' : (Value.slice ao n' cap).ownBlock ≠ some b := fun e => by
  rcases hv with hv | hv
  ·exact hneH.out (hv ▸ e)
  ·rw [hv] at e;injection e with e;omega
 have hfin : Hid (Pr b (.slice ao n' cap) (l ++ s) (w2.setCell ⟨b, 1, none⟩ (.slice ao n' cap)) /\ Wk b v w (.slice ao n' cap) (w2.setCell ⟨b, 1, none⟩ (.slice ao n' cap))) := Hd (by
  refine ⟨⟨⟨_, blk_setCell hb2 _, .inr rfl⟩, World.ownsRow.kept ho' hg3 (.inr hne'), hne', fun e => hnl (hnilH.out (List.append_eq_nil_iff.1 e).1) (List.append_eq_nil_iff.1 e).2⟩, hwkH.out.trans ?_⟩;refine ⟨((Below.refl b w1).grown hg (Nat.le_of_lt hlt) (fun k hk => (hown.out.lt k hk).1)).grown hg3 (by omega) (fun k hk => by injection hk with hk; rw [<- hk]; exact Nat.le_refl _), fun k hk h1 h2 => ?_, ?_⟩
  ·rw [hg3.block k (by omega) (fun e => by injection e with e; exact h1 e), hg.block k hk (fun e => h2 e.symm)]
  ·rcases hv with hv | hv
   ·exact .inl hv
   ·exact .inr fun k hk => by rw [hv] at hk; injection hk with hk; omega)
 clear ho hg hv hnl hnilH hb2 hs2 hg3 ho' hne' hown hwkH hbkH;go_wp2_with fail
 go_ret2
 exact ⟨⟨_, rfl⟩, _, hfin.out⟩
end Go.Proofs.YtdnfnkicmfkkmaaGreatDoor.Xp
end

section
namespace Go.Proofs.YtdnfnkicmfkkmaaGreatDoor.No
open Go.RowKit UtfW Xl Xt Xo
open Go.Proofs.YtdnfnkicmfkkmaaGreatDoor (Ky.Ts Ky.tv Ky.str_eq Ky.eq_take Ky.Ts.at_ Ky.Ts.below Ky.Ts.len)
open Go.Proofs.YtdnfnkicmfkkmaaGreatDoor.Ky (Ts tv str_eq eq_take)
theorem lessK_app : ∀ (c x y : List Tx), lessK (c ++ x) (c ++ y) = lessK x y
 | [], _, _ => rfl
 | a :: c, x, y => by
  show lessK (a :: (c ++ x)) (a :: (c ++ y)) = _
  simp only [lessK];rw [if_neg (by simp), lessK_app c x y]
theorem lessK_at {a b : List Tx} {k : Nat} (h : a.take k = b.take k) : lessK a b = lessK (a.drop k) (b.drop k) := by
 conv => lhs; rw [<- List.take_append_drop k a, <- List.take_append_drop k b, h]
 exact lessK_app _ _ _
theorem lessK_ne {a b : List Tx} {k : Nat} {x y : Tx} (h : a.take k = b.take k) (hx : a[k]? = some x) (hy : b[k]? = some y) (hne : x ≠ y) : lessK a b = lessT x y := by
 have h1 := (List.getElem?_eq_some_iff.1 hx);have h2 := (List.getElem?_eq_some_iff.1 hy);obtain ⟨l1, e1⟩ := h1;obtain ⟨l2, e2⟩ := h2;rw [lessK_at h, List.drop_eq_getElem_cons l1, List.drop_eq_getElem_cons l2, e1, e2];simp only [lessK];rw [if_pos hne]
set_option maxHeartbeats 2000000 in
set_option maxRecDepth 100000 in
theorem lessK_any (A : Option Addr) (n c : Nat) (xs : List Tx) (A2 : Option Addr) (n2 c2 : Nat) (ys : List Tx) (w : World) (h : Ts w A n c xs) (h2 : Ts w A2 n2 c2 ys) (hx : ∀ x ∈ xs, x.length <= 1000000) (hy : ∀ x ∈ ys, x.length <= 1000000) :
    Calls Tryz.prog 114 #[.slice A n c, .slice A2 n2 c2] w fun e w' => e = .returned (.bool (lessK xs ys)) /\ Below w.heap.size w w' := by
  have hl := Hd h.len;have hl2 := Hd h2.len;have hm := Rd.max h;have hm2 := Rd.max h2;have hle := Rd.le h;have hle2 := Rd.le h2;obtain ⟨R, hR⟩ : ∃ R, lessK xs ys = R := ⟨_, rfl⟩;rw [hR];have hR' := Hd hR;have h' := Hd h;have h2' := Hd h2;have hsx := Hd hx;have hsy := Hd hy;clear hR h h2 hx hy
  go_enter Tryz.func114, Tryz.ntmps114
  go_wp2_with fail
  go_loopw [5] (fun i wr => ∃ (k : Nat), k <= n /\ k <= n2 /\ i = .int .i64 k /\ Hid (xs.take k = ys.take k) /\ Hid (Below w.heap.size w wr)) (fun i _ => n - (intOf i).toNat)
  case atStart => exact ⟨0, by omega, by omega, rfl, Hd rfl, Hd (Below.refl _ _)⟩
  case round =>
    obtain ⟨k, hk, hk2, rfl, heq, hb⟩ := hrel
    by_cases hla : k < n
    · by_cases hlb : k < n2
      · have i1 : decide ((k : Int) < (n : Int)) = true := by rw [decide_eq_true_eq]; omega
        have i2 : decide (k < n) = true := by rw [decide_eq_true_eq]; omega
        have i3 : (k : Int) < (n : Int) := (by omega);have j1 : decide ((k : Int) < (n2 : Int)) = true := by rw [decide_eq_true_eq]; omega
        have j2 : decide (k < n2) = true := by rw [decide_eq_true_eq]; omega
        have j3 : (k : Int) < (n2 : Int) := (by omega);obtain ⟨b, off, t, rfl, hbl, ht, k0⟩ := (h'.out.below hb.out).at_ hla;obtain ⟨b2, off2, t2, rfl, hbl2, ht2, k1⟩ := (h2'.out.below hb.out).at_ hlb;have hse := str_eq t t2;have ht' := Hd ht;have ht2' := Hd ht2;have hlt1 := Hd hbl;have hlt2 := Hd hbl2;clear ht ht2 hbl hbl2
        cases hd : decide (t = t2) with
        | true =>
          rw [hd] at hse;have hn2 := Hd ((eq_take ht'.out ht2'.out heq.out).2 (of_decide_eq_true hd));clear hd;obtain ⟨S, hS⟩ : ∃ S, strOf t = S := ⟨_, rfl⟩;obtain ⟨S2, hS2⟩ : ∃ S2, strOf t2 = S2 := ⟨_, rfl⟩;rw [hS, hS2] at hse;have hlc : Hid (∀ x, Calls Tryz.prog 113 #[.string S, .string S2] x fun e w' => e = .returned (.bool (lessT t t2)) /\ ∃ k, w' = x.drewN k) := Hd fun x => by rw [<- hS, <- hS2]; exact less_any t t2 (hsx.out t (List.mem_of_getElem? ht'.out)) (hsy.out t2 (List.mem_of_getElem? ht2'.out)) x
          simp only [tv, hS, hS2] at k0 k1;clear hS hS2;clear hlc;go_wp2_with fail
          go_big_quiet (fail)
          go_wp2_with fail;go_roundw
          case rel => exact ⟨k + 1, by omega, by omega, by go_num, hn2, Hd (hb.out.trans ((Joins.below_draws _ _ _).mono hb.out.size))⟩
          case measure => simp [intOf]; omega
        | false =>
          rw [hd] at hse;have hf : Hid (R = lessT t t2) := Hd (by rw [<- hR'.out]; exact lessK_ne heq.out ht'.out ht2'.out (of_decide_eq_false hd));clear hd;obtain ⟨S, hS⟩ : ∃ S, strOf t = S := ⟨_, rfl⟩;obtain ⟨S2, hS2⟩ : ∃ S2, strOf t2 = S2 := ⟨_, rfl⟩;rw [hS, hS2] at hse;have hlc : Hid (∀ x, Calls Tryz.prog 113 #[.string S, .string S2] x fun e w' => e = .returned (.bool (lessT t t2)) /\ ∃ k, w' = x.drewN k) := Hd fun x => by rw [<- hS, <- hS2]; exact less_any t t2 (hsx.out t (List.mem_of_getElem? ht'.out)) (hsy.out t2 (List.mem_of_getElem? ht2'.out)) x
          simp only [tv, hS, hS2] at k0 k1;clear hS hS2;go_wp2_with fail
          go_big_quiet (fail)
          have hb1 : Below wr.heap.size wr (wr.drewN nq) := Joins.below_draws _ _ _;have m0 := (hb1.cell (p := ⟨b, off + k, none⟩) hlt1.out).trans k0;have m1 := (hb1.cell (p := ⟨b2, off2 + k, none⟩) hlt2.out).trans k1;generalize wr.drewN nq = w1 at hb1 m0 m1 ⊢;have hb1' := Hd hb1;clear k0 k1 hb1;go_wp2_with fail;refine Pl.wp_region_plan 8 (.take 0 (.take 1 (.take 2 (.take 3 (.take 4 (.take 5 (.take 6 (.take 7 .done)))))))) (fun x => x.cell? ⟨b, off + k, none⟩ = some (.string S) /\ x.cell? ⟨b2, off2 + k, none⟩ = some (.string S2)) (by kernel_rfl) (by kernel_rfl) (by exact ⟨m0, m1⟩) ?_;simp only [Pl.fill, Al_4, Al_5, Al_6, Al_7]
          iterate 8
            first
            | (refine Pl.take_go ?_ (by rfl) (fun _ _ _ h => h) ?_ ?_
               rotate_left
               · (intro x hSw; (try (dsimp only at hSw)); go_simp; try with_reducible rfl)
               (try simp only [Act.put, Al_1, Al_2, Al_3]))
            | (refine Pl.take_skip (by rfl) (fun _ _ _ h => h) ?_
               (try simp only [Act.put, Al_1, Al_2, Al_3]))
          refine Pl.done_go ?_;clear m0 m1;go_wp2_with fail;refine (hlc.out _).mono ?_;rintro e w3 ⟨rfl, q, rfl⟩;go_wp2_with fail;go_ret;refine ⟨ret_bool (by rw [hf.out]), ?_⟩
          · exact hb.out.trans ((hb1'.out.trans ((Joins.below_draws _ _ _).mono hb1'.out.size)).mono hb.out.size)
      · have j1 : decide ((k : Int) < (n2 : Int)) = false := by rw [decide_eq_false_iff_not]; omega
        have j2 : decide (k < n2) = false := by rw [decide_eq_false_iff_not]; omega
        have i1 : decide ((k : Int) < (n : Int)) = true := by rw [decide_eq_true_eq]; omega
        have i2 : decide (k < n) = true := by rw [decide_eq_true_eq]; omega
        have i3 : (k : Int) < (n : Int) := (by omega);have e2 : k = n2 := (by omega);have i4 : decide ((n : Int) < (n2 : Int)) = false := by rw [decide_eq_false_iff_not]; omega
        have i5 : decide (n < n2) = false := by rw [decide_eq_false_iff_not]; omega
        have hf : Hid (R = false) := Hd (by
          rw [<- hR'.out, lessK_at heq.out, @List.drop_eq_nil_of_le _ ys k (by rw [hl2.out]; omega)]
          cases xs.drop k <;> rfl)
        clear e2;go_wp2_with fail;go_ret;exact ⟨ret_bool (by rw [hf.out]), hb.out⟩
    · have i1 : decide ((k : Int) < (n : Int)) = false := by rw [decide_eq_false_iff_not]; omega
      have i2 : decide (k < n) = false := by rw [decide_eq_false_iff_not]; omega
      have hf : Hid (R = decide (n < n2)) := Hd (by
        rw [<- hR'.out, lessK_at heq.out, @List.drop_eq_nil_of_le _ xs k (by rw [hl.out]; omega)];have hlen : (ys.drop k).length = n2 - k := by rw [List.length_drop, hl2.out]
        cases hd : ys.drop k with
        | nil => rw [hd] at hlen; simp at hlen; show false = _; symm; rw [decide_eq_false_iff_not]; omega
        | cons c r => rw [hd] at hlen; simp at hlen; show true = _; symm; rw [decide_eq_true_eq]; omega)
      go_wp2_with fail;go_ret;exact ⟨ret_bool (by rw [hf.out]), hb.out⟩
def StV (w : World) (v : Value) (s : Stp) : Prop := ∃ A n c, v = .agg #[.string (strOf s.1), .slice A n c] /\ Ts w A n c s.2
theorem StV.below {w w' : World} {v : Value} {s : Stp} (h : StV w v s) (hb : Below w.heap.size w w') : StV w' v s := by
 obtain ⟨A, n, c, e, ht⟩ := h;exact ⟨A, n, c, e, ht.below hb⟩
set_option maxHeartbeats 2000000 in
set_option maxRecDepth 100000 in
theorem ahead_any (v v2 : Value) (s s2 : Stp) (w : World) (hs : StV w v s) (hs2 : StV w v2 s2) (hn1 : s.1.length <= 1000000) (hn2 : s2.1.length <= 1000000) (hx : ∀ x ∈ s.2, x.length <= 1000000) (hy : ∀ x ∈ s2.2, x.length <= 1000000) :
  Calls Tryz.prog 75 #[v, v2] w fun e w' => e = .returned (.bool (No.ahead s s2)) /\ Below w.heap.size w w' := by
 obtain ⟨A, n, c, rfl, ht⟩ := hs;obtain ⟨A2, n2, c2, rfl, ht2⟩ := hs2;have hse := str_eq s.1 s2.1;obtain ⟨T, hT⟩ : ∃ T, w.heap.size = T := ⟨_, rfl⟩;obtain ⟨w1, hw1⟩ : ∃ w1, w.alloc (.cells #[.string (strOf s.1), .slice A n c] 100) = w1 := ⟨_, rfl⟩;obtain ⟨w2, hw2⟩ : ∃ w2, w1.alloc (.cells #[.string (strOf s2.1), .slice A2 n2 c2] 100) = w2 := ⟨_, rfl⟩;have hs1 : w1.heap.size = T + 1 := by rw [<- hw1, World.size_alloc, hT]
 have hb1 : Below w.heap.size w w1 := by rw [<- hw1]; exact (Below.refl _ _).alloc (Nat.le_refl _) _
 have hb2 : Below w1.heap.size w1 w2 := by rw [<- hw2]; exact (Below.refl _ _).alloc (Nat.le_refl _) _
 have hk1 : w1.heap[T]? = some (.cells #[.string (strOf s.1), .slice A n c] 100) := by rw [<- hw1, <- hT]; exact heap_alloc_new w _
 have hk1' : w2.heap[T]? = some (.cells #[.string (strOf s.1), .slice A n c] 100) := (hb2.block T (by omega)).trans hk1;have hk2 : w2.heap[T + 1]? = some (.cells #[.string (strOf s2.1), .slice A2 n2 c2] 100) := by rw [<- hw2, <- hs1]; exact heap_alloc_new w1 _
 have y0 := Xp.cell_blk hk1' (i := 0) rfl;have y1 := Xp.cell_blk hk1' (i := 1) rfl;have z0 := Xp.cell_blk hk2 (i := 0) rfl;have z1 := Xp.cell_blk hk2 (i := 1) rfl;have hbw : Below w.heap.size w w2 := hb1.trans (hb2.mono hb1.size);have hlK := Hd (lessK_any A n c s.2 A2 n2 c2 s2.2 w2 (ht.below hbw) (ht2.below hbw) hx hy);have hlT : Hid (∀ x, Calls Tryz.prog 113 #[.string (strOf s.1), .string (strOf s2.1)] x fun e w' => e = .returned (.bool (lessT s.1 s2.1)) /\ ∃ k, w' = x.drewN k) := Hd fun x => less_any s.1 s2.1 hn1 hn2 x
 have hbw' := Hd hbw;clear hk1 hk1' hk2 hb1 hb2 ht ht2 hbw;obtain ⟨S, hS⟩ : ∃ S, strOf s.1 = S := ⟨_, rfl⟩;obtain ⟨S2, hS2⟩ : ∃ S2, strOf s2.1 = S2 := ⟨_, rfl⟩;rw [hS, hS2] at hse;rw [hS] at hw1 y0;rw [hS2] at hw2 z0;rw [hS, hS2] at hlT;rw [hS, hS2]
 cases hd : decide (s.1 = s2.1) with
 | true =>
  rw [hd] at hse;have hv : Hid (No.ahead s s2 = lessK s.2 s2.2) := Hd (by unfold No.ahead; rw [if_neg (by simpa using of_decide_eq_true hd)]);clear hd
  go_enter Tryz.func75, Tryz.ntmps75
  go_wp2_with fail;refine hlK.out.mono ?_;rintro e w3 ⟨rfl, hb3⟩;have hb3' := Hd hb3;clear hb3;go_wp2_with fail;go_ret;exact ⟨ret_bool hv.out.symm, hbw'.out.trans (hb3'.out.mono hbw'.out.size)⟩
 | false =>
  rw [hd] at hse;have hv : Hid (No.ahead s s2 = lessT s.1 s2.1) := Hd (by unfold No.ahead; rw [if_pos (of_decide_eq_false hd)]);clear hd
  go_enter Tryz.func75, Tryz.ntmps75
  go_wp2_with fail;refine (hlT.out _).mono ?_;rintro e w3 ⟨rfl, q, rfl⟩;go_wp2_with fail;go_ret;exact ⟨ret_bool hv.out.symm, hbw'.out.trans ((Joins.below_draws _ _ _).mono hbw'.out.size)⟩
set_option maxHeartbeats 2000000 in
set_option maxRecDepth 100000 in
theorem step_any (v v2 : Value) (s s2 : Stp) (w : World) (hs : StV w v s) (hs2 : StV w v2 s2) :
  Calls Tryz.prog 76 #[v, v2] w fun e w' => e = .returned (.bool (decide (s = s2))) /\ Below w.heap.size w w' := by
 obtain ⟨A, n, c, rfl, ht⟩ := hs;obtain ⟨A2, n2, c2, rfl, ht2⟩ := hs2;have hse := str_eq s.1 s2.1;obtain ⟨T, hT⟩ : ∃ T, w.heap.size = T := ⟨_, rfl⟩;obtain ⟨w1, hw1⟩ : ∃ w1, w.alloc (.cells #[.string (strOf s.1), .slice A n c] 100) = w1 := ⟨_, rfl⟩;obtain ⟨w2, hw2⟩ : ∃ w2, w1.alloc (.cells #[.string (strOf s2.1), .slice A2 n2 c2] 100) = w2 := ⟨_, rfl⟩;have hs1 : w1.heap.size = T + 1 := by rw [<- hw1, World.size_alloc, hT]
 have hb1 : Below w.heap.size w w1 := by rw [<- hw1]; exact (Below.refl _ _).alloc (Nat.le_refl _) _
 have hb2 : Below w1.heap.size w1 w2 := by rw [<- hw2]; exact (Below.refl _ _).alloc (Nat.le_refl _) _
 have hk1 : w1.heap[T]? = some (.cells #[.string (strOf s.1), .slice A n c] 100) := by rw [<- hw1, <- hT]; exact heap_alloc_new w _
 have hk1' : w2.heap[T]? = some (.cells #[.string (strOf s.1), .slice A n c] 100) := (hb2.block T (by omega)).trans hk1;have hk2 : w2.heap[T + 1]? = some (.cells #[.string (strOf s2.1), .slice A2 n2 c2] 100) := by rw [<- hw2, <- hs1]; exact heap_alloc_new w1 _
 have y0 := Xp.cell_blk hk1' (i := 0) rfl;have y1 := Xp.cell_blk hk1' (i := 1) rfl;have z0 := Xp.cell_blk hk2 (i := 0) rfl;have z1 := Xp.cell_blk hk2 (i := 1) rfl;have hbw : Below w.heap.size w w2 := hb1.trans (hb2.mono hb1.size);have hlK := Hd (Ky.refTexts_any A n c s.2 A2 n2 c2 s2.2 w2 (ht.below hbw) (ht2.below hbw));have hbw' := Hd hbw;clear hk1 hk1' hk2 hb1 hb2 ht ht2 hbw;obtain ⟨S, hS⟩ : ∃ S, strOf s.1 = S := ⟨_, rfl⟩;obtain ⟨S2, hS2⟩ : ∃ S2, strOf s2.1 = S2 := ⟨_, rfl⟩;rw [hS, hS2] at hse;rw [hS] at hw1 y0;rw [hS2] at hw2 z0;rw [hS, hS2]
 cases hd : decide (s.1 = s2.1) with
 | true =>
  rw [hd] at hse;have hv : Hid (decide (s = s2) = decide (s.2 = s2.2)) := Hd (decide_eq_decide.2 ⟨fun e => by rw [e], fun e => Prod.ext (of_decide_eq_true hd) e⟩);clear hd
  go_enter Tryz.func76, Tryz.ntmps76
  go_wp2_with fail;refine hlK.out.mono ?_;rintro e w3 ⟨rfl, q, rfl⟩;go_wp2_with fail;go_ret;exact ⟨ret_bool hv.out.symm, hbw'.out.trans ((Joins.below_draws _ _ _).mono hbw'.out.size)⟩
 | false =>
  rw [hd] at hse;have hv : Hid (decide (s = s2) = false) := Hd (decide_eq_false fun e => of_decide_eq_false hd (by rw [e]));clear hd
  go_enter Tryz.func76, Tryz.ntmps76
  go_wp2_with fail;go_ret;exact ⟨ret_bool hv.out.symm, hbw'.out⟩
end Go.Proofs.YtdnfnkicmfkkmaaGreatDoor.No
end

section
namespace Go.Proofs.YtdnfnkicmfkkmaaGreatDoor.Pl
open Go Go.RowKit Go.Great
section
variable {P : Program} {ops : Array Oper} {Q : Exit -> Act -> World -> Prop}
theorem eval_put_ne {a : Act} {d j : Nat} {v : Value} (h : d ≠ j) : (a.put (some d) v).eval (.tmp j) = a.eval (.tmp j) := by
 simp [Act.put, Act.eval, Array.getD_eq_getD_getElem?, Array.getElem?_setIfInBounds, h]
theorem eval_put_eq {a : Act} {d : Nat} {v : Value} (h : d < a.tmps.size) : (a.put (some d) v).eval (.tmp d) = v := by
 simp [Act.put, Act.eval, Array.getD_eq_getD_getElem?, Array.getElem?_setIfInBounds, h]
theorem put_size {a : Act} {d : Nat} {v : Value} : (a.put (some d) v).tmps.size = a.tmps.size := by simp [Act.put]
theorem put_comm {a : Act} {d d' : Nat} {u u' : Value} (h : d ≠ d') : (a.put (some d) u).put (some d') u' = (a.put (some d') u').put (some d) u := by
 simp only [Act.put]
 congr 1
 exact Array.setIfInBounds_comm _ _ h
theorem run_slice0 {t e : TypeId} {ie : TypeInfo} (hu : P.underlying t = some (.slice e)) (hie : P.info? e = some ie) (w : World) :
  (Instr.buildSlice t 0 #[]).run P w = .ok (.slice (some ⟨w.heap.size, 0, none⟩) 0 0) (w.alloc (.cells #[] e)) := by
 have e0 : Array.range 0 = (#[] : Array Nat) := rfl;simp [Instr.buildSlice, run_underlying hu, sizeOf, typeInfo, hie, newRow, Instr.fill, e0]
theorem run_slice1 {t e : TypeId} {ie : TypeInfo} {z : Value} {k : Nat} (hu : P.underlying t = some (.slice e)) (hie : P.info? e = some ie) (hz : ie.zero = some z) (hs : ie.size = k) (hzs : z.cells.size = k) (hk : 0 < k) (hk2 : k <= 16777216) {vs : List Value} (hvs : vs.length = k) {u : Value} (hc : u.cells = vs.toArray) (w : World) :
  (Instr.buildSlice t 1 #[(0, u)]).run P w = .ok (.slice (some ⟨w.heap.size, 0, none⟩) 1 1) (w.alloc (.cells vs.toArray e)) := by
 refine run_buildSlice w t e 1 _ _ ie z hu hie hz (by rw [hs]; omega) (by rw [hs]; omega) ?_;have h := fill_whole (s := k) hk [u] ((Array.range (1 * ie.size)).map (z.cells[· % z.cells.size]!)) (fun v hv => by rw [List.mem_singleton.1 hv, hc]; simpa using hvs) (by simp [hs]);rw [hs] at h ⊢;simp only [List.zipIdx_cons, List.zipIdx_nil, List.map_cons, List.map_nil, List.flatMap_cons, List.flatMap_nil, hc, List.append_nil] at h;exact h
end
structure TP {α : Type} (El : World -> List Value -> α -> Prop) (k E : Nat) (vs : List Value) (T : Nat) (w x : World) (ro : Option (Value × List α)) (li : Option Nat) : Prop where
 bel : Below T w x
 tle : T <= x.heap.size
 row : ∀ v l, ro = some (v, l) -> OwS El k x T E v l
 one : ∀ g, li = some g -> T <= g /\ x.heap[g]? = some (.cells vs.toArray E) /\ ∀ v l, ro = some (v, l) -> v.ownBlock ≠ some g
section
variable {α : Type} {El : World -> List Value -> α -> Prop} {k E : Nat} {vs : List Value} {T : Nat} {w x x' : World} {ro : Option (Value × List α)} {li : Option Nat}
theorem TP.start (hT : T <= w.heap.size) : TP El k E vs T w w none none := ⟨Below.refl _ _, hT, fun _ _ h => (by cases h), fun _ h => (by cases h)⟩
theorem blk_lt {x : World} {g : Nat} {o : Obj} (h : x.heap[g]? = some o) : g < x.heap.size := (Array.getElem?_eq_some_iff.1 h).1
theorem TP.nil (h : TP El k E vs T w x none li) : TP El k E vs T w (x.alloc (.cells #[] E)) (some (.slice (some ⟨x.heap.size, 0, none⟩) 0 0, [])) li := by
 have hb : Below x.heap.size x (x.alloc (.cells #[] E)) := (Below.refl _ x).alloc (Nat.le_refl _) _;refine ⟨h.bel.trans (hb.mono h.tle), Nat.le_trans h.tle hb.size, fun v l e => ?_, fun g e => ?_⟩
 ·injection e with e;injection e with e1 e2;subst e1 e2;exact ⟨[], World.ownsRow_lit x #[] 0 h.tle (Nat.zero_le _) (by simp), Reads.nil _⟩
 ·obtain ⟨h1, h2, h3⟩ := h.one g e;have hlt := blk_lt h2;refine ⟨h1, (hb.block g hlt).trans h2, fun v l e2 e3 => ?_⟩;injection e2 with e2;injection e2 with e2 _;subst e2;have e4 : some x.heap.size = some g := e3;injection e4 with e4;omega
theorem TP.lit_ (hEl : ∀ x x' vs y, Below T x x' -> El x vs y -> El x' vs y) (h : TP El k E vs T w x ro none) : TP El k E vs T w (x.alloc (.cells vs.toArray E)) ro (some x.heap.size) := by
 have hb : Below x.heap.size x (x.alloc (.cells vs.toArray E)) := (Below.refl _ x).alloc (Nat.le_refl _) _;refine ⟨h.bel.trans (hb.mono h.tle), Nat.le_trans h.tle hb.size, fun v l e => (h.row v l e).below hb fun vs y => hEl _ _ vs y (hb.mono h.tle), fun g e => ?_⟩;injection e with e;subst e;refine ⟨h.tle, heap_alloc_new x _, fun v l e2 e3 => ?_⟩;have := (h.row v l e2).lt _ e3;omega
theorem TP.app {v v' : Value} {l l' : List α} (h : TP El k E vs T w x (some (v, l)) li) (ho : OwS El k x' T E v' l') (hg : x.grownBy x' v.ownBlock) (hv : v'.ownBlock = v.ownBlock \/ v'.ownBlock = some x.heap.size) : TP El k E vs T w x' (some (v', l')) li := by
 have hb : Below T x x' := (Below.refl T x).grown hg h.tle fun k hk => ((h.row v l rfl).lt k hk).1
 refine ⟨h.bel.trans hb, Nat.le_trans h.tle hb.size, fun u m e => ?_, fun g e => ?_⟩
 ·injection e with e;injection e with e1 e2;subst e1 e2;exact ho
 ·obtain ⟨h1, h2, h3⟩ := h.one g e;have hlt := blk_lt h2;have hn := h3 v l rfl;refine ⟨h1, (hg.block g hlt fun e2 => hn e2.symm).trans h2, fun u m e2 e3 => ?_⟩;injection e2 with e2;injection e2 with e2 _;subst e2;rcases hv with hv | hv
  ·exact hn (hv ▸ e3)
  ·rw [hv] at e3;injection e3 with e3;omega
theorem TP.sq {g : Nat} {x0 : α} (h : TP El k E vs T w x ro (some g)) (hvs : vs.length = k) (hel : El x vs x0) : Sq El k x (some ⟨g, 0, none⟩) 1 1 [x0] := by
 obtain ⟨_, h2, _⟩ := h.one g rfl;refine ⟨rfl, Nat.le_refl _, by omega, fun e => (by cases e), fun _ => ⟨g, 0, rfl, blk_lt h2, fun i y hi => ?_⟩⟩
 cases i with
 | succ i => simp at hi
 | zero =>
  simp only [List.getElem?_cons_zero, Option.some.injEq] at hi;subst hi;refine ⟨vs, hvs, hel, fun j u hj => ?_⟩;simp only [World.cell?, h2]
  simpa using hj
end
section
variable {P : Program} {ops : Array Oper} {Q : Exit -> Act -> World -> Prop} {α : Type} {El : World -> List Value -> α -> Prop} {k t e : Nat} {z : Value} {by_ : Nat} {vs : List Value} {T : Nat} {w x : World} {ro : Option (Value × List α)} {li : Option Nat}
 {Tl : Act -> World -> Prop} {S : World -> Prop} {p : Plan (Option Oper)} {o : Oper} {a : Act} {d j : Nat}
theorem wanted_none (h : o.guard = none) : Region.wanted o (yielded ops a.tmps) = true := by simp [Region.wanted, h]
theorem st_nil (hu : P.underlying t = some (.slice e)) (hi : (P.info? e).map (fun i => (i.zero, i.size, i.bytes)) = some (some z, k, by_)) (hg : o.guard = none) (hd : o.dst = some d) (ho : o.op = .buildSlice t 0 #[]) (hS : ∀ x, Below T w x -> S x)
  (h : TP El k e vs T w x none li) (cont : ∀ v x', TP El k e vs T w x' (some (v, [])) li -> wpPlan P ops Q Tl p S (a.put (some d) v) x') : wpPlan P ops Q Tl (.run (some o) p) S a x := by
 obtain ⟨ie, hie, _, _, _⟩ := info_parts hi;refine run_go fun K hK => ?_
 rw [if_pos (wanted_none hg)];unfold Oper.wp execOp;simp only [ho, List.map_toArray, List.map_nil, Sem.run_bind, run_slice0 hu hie, Result.andThen_ok, Sem.run_pure]
 show K (a.put o.dst _) _
 rw [hd];have h2 := h.nil;exact hK _ _ (more_go S (fun _ h => h) (hS _ h2.bel) (cont _ _ h2))
theorem st_lit (hu : P.underlying t = some (.slice e)) (hi : (P.info? e).map (fun i => (i.zero, i.size, i.bytes)) = some (some z, k, by_)) (hzs : z.cells.size = k) (hk : 0 < k) (hk2 : k <= 16777216) (hvs : vs.length = k) (hEl : ∀ x x' vs y, Below T x x' -> El x vs y -> El x' vs y)
  (hg : o.guard = none) (hd : o.dst = some d) (ho : o.op = .buildSlice t 1 #[(0, .tmp j)]) {u : Value} (hj : a.eval (.tmp j) = u) (hcu : u.cells = vs.toArray) (hS : ∀ x, Below T w x -> S x)
  (h : TP El k e vs T w x ro none) (cont : ∀ g x', TP El k e vs T w x' ro (some g) -> wpPlan P ops Q Tl p S (a.put (some d) (.slice (some ⟨g, 0, none⟩) 1 1)) x') : wpPlan P ops Q Tl (.run (some o) p) S a x := by
 obtain ⟨ie, hie, hz, hsz, _⟩ := info_parts hi;refine run_go fun K hK => ?_
 rw [if_pos (wanted_none hg)];unfold Oper.wp execOp;simp only [ho, List.map_toArray, List.map_cons, List.map_nil, hj, Sem.run_bind, run_slice1 hu hie hz hsz hzs hk hk2 hvs hcu, Result.andThen_ok, Sem.run_pure]
 show K (a.put o.dst _) _
 rw [hd];have h2 := h.lit_ hEl;exact hK _ _ (more_go S (fun _ h => h) (hS _ h2.bel) (cont _ _ h2))
theorem list_app {rest : List Oper} (hu : P.underlying t = some (.slice e)) (hi : (P.info? e).map (fun i => (i.zero, i.size, i.bytes)) = some (some z, k, by_)) (hzs : z.cells.size = k) (hk : 0 < k) (hEl : ∀ x x' vs y, Below T x x' -> El x vs y -> El x' vs y) (hone : ∀ x vs y, El x vs y -> ∀ u ∈ vs, u.oneCell' = true)
  (hg : o.guard = none) (hd : o.dst = some d) {s y : Operand} (ho : o.op = .call { callee := .builtin .append, args := #[s, y], argTypes := #[t, t] }) {v : Value} {l : List α} (hs : a.eval s = v) {A : Option Addr} {m c N : Nat} {lb : List α} (hy : a.eval y = .slice A m c) (hsq : Sq El k x A m c lb)
  (hN : l.length + m = N) (hsz : N * by_ <= 140737488355328) (hsz2 : N <= 140737488355328)
  (h : TP El k e vs T w x (some (v, l)) li) (cont : ∀ A' c' x', TP El k e vs T w x' (some (.slice A' N c', l ++ lb)) li -> wpList P ops Q rest (a.put (some d) (.slice A' N c')) x') : wpList P ops Q (o :: rest) a x := by
 refine append_sq x t e z by_ hu hi hzs hk hg s y ho T v l hs (h.row v l rfl) A m c lb hy hsq (hone x) (fun w' hg2 vs y => hEl _ _ vs y ((Below.refl T x).grown hg2 h.tle fun k hk => ((h.row v l rfl).lt k hk).1)) N hN hsz hsz2 h.tle ?_;intro A' c' w' ho' hg' _ hv;rw [hd];exact cont A' c' w' (h.app ho' hg' hv)
theorem st_app (hu : P.underlying t = some (.slice e)) (hi : (P.info? e).map (fun i => (i.zero, i.size, i.bytes)) = some (some z, k, by_)) (hzs : z.cells.size = k) (hk : 0 < k) (hEl : ∀ x x' vs y, Below T x x' -> El x vs y -> El x' vs y) (hone : ∀ x vs y, El x vs y -> ∀ u ∈ vs, u.oneCell' = true)
  (hg : o.guard = none) (hd : o.dst = some d) {s y : Operand} (ho : o.op = .call { callee := .builtin .append, args := #[s, y], argTypes := #[t, t] }) {v : Value} {l : List α} (hs : a.eval s = v) {A : Option Addr} {m c N : Nat} {lb : List α} (hy : a.eval y = .slice A m c) (hsq : Sq El k x A m c lb)
  (hN : l.length + m = N) (hsz : N * by_ <= 140737488355328) (hsz2 : N <= 140737488355328) (hS : ∀ x, Below T w x -> S x)
  (h : TP El k e vs T w x (some (v, l)) li) (cont : ∀ A' c' x', TP El k e vs T w x' (some (.slice A' N c', l ++ lb)) li -> wpPlan P ops Q Tl p S (a.put (some d) (.slice A' N c')) x') : wpPlan P ops Q Tl (.run (some o) p) S a x := by
 refine run_list fun K hK => ?_
 refine list_app hu hi hzs hk hEl hone hg hd ho hs hy hsq hN hsz hsz2 h fun A' c' x' h2 => ?_
 unfold wpList QK;exact hK _ _ (more_go S (fun _ h => h) (hS _ h2.bel) (cont A' c' x' h2))
theorem duo_go {o0 o4 o9 o10 : Oper} {rest : List Oper} {d0 d4 d9 d10 j4 j9 : Nat} (hu : P.underlying t = some (.slice e)) (hi : (P.info? e).map (fun i => (i.zero, i.size, i.bytes)) = some (some z, k, by_)) (hzs : z.cells.size = k) (hk : 0 < k) (hk2 : k <= 16777216)
  (hEl : ∀ x x' vs y, Below T x x' -> El x vs y -> El x' vs y) (hone : ∀ x vs y, El x vs y -> ∀ u ∈ vs, u.oneCell' = true)
  (hgs : o0.guard = none /\ o4.guard = none /\ o9.guard = none /\ o10.guard = none) (hds : o0.dst = some d0 /\ o4.dst = some d4 /\ o9.dst = some d9 /\ o10.dst = some d10)
  (h0 : o0.op = .buildSlice t 0 #[]) (h4 : o4.op = .call { callee := .builtin .append, args := #[.tmp d0, .tmp j4], argTypes := #[t, t] }) (h9 : o9.op = .buildSlice t 1 #[(0, .tmp j9)])
  (h10 : o10.op = .call { callee := .builtin .append, args := #[.tmp d4, .tmp d9], argTypes := #[t, t] })
  (hsl : d0 < a.tmps.size /\ d4 < a.tmps.size /\ d9 < a.tmps.size /\ d10 < a.tmps.size) (hne : [d0, d4, d9, d10, j4, j9].Nodup)
  {A4 : Option Addr} {p4 c4 N1 : Nat} {la : List α} {x0 : α} {u : Value} (v4 : a.eval (.tmp j4) = .slice A4 p4 c4) (q4 : ∀ x, Below T w x -> Sq El k x A4 p4 c4 la) (v9 : a.eval (.tmp j9) = u) (hcu : u.cells = vs.toArray) (hvs : vs.length = k) (hel : ∀ x, Below T w x -> El x vs x0)
  (hN1 : p4 + 1 = N1) (hsz : N1 * by_ <= 140737488355328) (hsz2 : N1 <= 140737488355328) (hT : T <= w.heap.size) (hS : ∀ x, Below T w x -> S x)
  (h : ∀ u0 u4 u9 A' c' x, OwS El k x T e (.slice A' N1 c') (la ++ [x0]) -> Below T w x -> wpList P ops Q rest ((((a.put (some d0) u0).put (some d4) u4).put (some d9) u9).put (some d10) (.slice A' N1 c')) x) :
  wpPlan P ops Q (fun a w => wpList P ops Q rest a w) (.two (some o0) (.two (some o4) (.run (some o9) (.run (some o10) .done)) (some o9) (.run (some o4) (.run (some o10) .done))) (some o9) (.run (some o0) (.run (some o4) (.run (some o10) .done)))) S a w := by
 obtain ⟨g0, g4, g9, g10⟩ := hgs;obtain ⟨e0, e4, e9, e10⟩ := hds;obtain ⟨s0, s4, s9, s10⟩ := hsl;simp only [List.nodup_cons, List.mem_cons, not_or, List.not_mem_nil, not_false_eq_true, and_true] at hne;obtain ⟨⟨n01, n02, n03, n04, n05⟩, ⟨n12, n13, n14, n15⟩, ⟨n23, n24, n25⟩, -⟩ := hne;have hl4 : la.length = p4 := (q4 w (Below.refl _ _)).len;have hb4 : p4 * by_ <= 140737488355328 /\ p4 <= 140737488355328 := ⟨Nat.le_trans (Nat.mul_le_mul_right _ (by omega)) hsz, by omega⟩
 have last : ∀ u0 u9 A1 c1 x (g : Nat), u9 = .slice (some ⟨g, 0, none⟩) 1 1 -> TP El k e vs T w x (some (.slice A1 p4 c1, la)) (some g) -> wpPlan P ops Q (fun a w => wpList P ops Q rest a w) (.run (some o10) .done) S (((a.put (some d0) u0).put (some d4) (.slice A1 p4 c1)).put (some d9) u9) x := fun u0 u9 A1 c1 x g hu9 hx => by
  subst hu9;refine st_app hu hi hzs hk hEl hone g10 e10 h10 (v := .slice A1 p4 c1) (l := la) ?_ (A := some ⟨g, 0, none⟩) (m := 1) (c := 1) (N := N1) (lb := [x0]) (eval_put_eq (by rw [put_size, put_size]; exact s9)) (hx.sq hvs (hel x hx.bel)) (by omega) hsz hsz2 hS hx fun A' c' x' h2 => ?_
  ·rw [eval_put_ne (Ne.symm n12)]; exact eval_put_eq (by rw [put_size]; exact s4)
  ·exact done_go (h u0 _ _ A' c' x' (h2.row _ _ rfl) h2.bel)
 have hst : TP El k e vs T w w none none := TP.start hT;refine two_go ?_ ?_
 ·refine st_nil hu hi g0 e0 h0 hS hst fun v x hx => ?_
  refine two_go ?_ ?_
  ·refine st_app hu hi hzs hk hEl hone g4 e4 h4 (v := v) (l := []) (eval_put_eq s0) (A := A4) (m := p4) (c := c4) (N := p4) (lb := la) (by rw [eval_put_ne n04]; exact v4) (q4 x hx.bel) (by simp) hb4.1 hb4.2 hS hx fun A' c' x' h2 => ?_
   refine st_lit (u := u) hu hi hzs hk hk2 hvs hEl g9 e9 h9 (by rw [eval_put_ne n15, eval_put_ne n05]; exact v9) hcu hS h2 fun g x2 h3 => ?_
   exact last v _ A' c' x2 g rfl h3
  ·refine st_lit (u := u) hu hi hzs hk hk2 hvs hEl g9 e9 h9 (by rw [eval_put_ne n05]; exact v9) hcu hS hx fun g x' h2 => ?_
   refine st_app hu hi hzs hk hEl hone g4 e4 h4 (v := v) (l := []) (by rw [eval_put_ne (Ne.symm n02)]; exact eval_put_eq s0) (A := A4) (m := p4) (c := c4) (N := p4) (lb := la) (by rw [eval_put_ne n24, eval_put_ne n04]; exact v4) (q4 x' h2.bel) (by simp) hb4.1 hb4.2 hS h2 fun A' c' x2 h3 => ?_
   rw [put_comm (Ne.symm n12)];exact last v _ A' c' x2 g rfl h3
 ·refine st_lit (u := u) hu hi hzs hk hk2 hvs hEl g9 e9 h9 v9 hcu hS hst fun g x hx => ?_
  refine st_nil hu hi g0 e0 h0 hS hx fun v x' h2 => ?_
  refine st_app hu hi hzs hk hEl hone g4 e4 h4 (v := v) (l := []) (eval_put_eq (by rw [put_size]; exact s0)) (A := A4) (m := p4) (c := c4) (N := p4) (lb := la) (by rw [eval_put_ne n04, eval_put_ne n24]; exact v4) (q4 x' h2.bel) (by simp) hb4.1 hb4.2 hS h2 fun A' c' x2 h3 => ?_
  rw [put_comm (Ne.symm n02), put_comm (Ne.symm n12)];exact last v _ A' c' x2 g rfl h3
theorem trip_go {o0 o4 o9 o10 o14 : Oper} {rest : List Oper} {d0 d4 d9 d10 d14 j4 j9 j14 : Nat} (hu : P.underlying t = some (.slice e)) (hi : (P.info? e).map (fun i => (i.zero, i.size, i.bytes)) = some (some z, k, by_)) (hzs : z.cells.size = k) (hk : 0 < k) (hk2 : k <= 16777216)
  (hEl : ∀ x x' vs y, Below T x x' -> El x vs y -> El x' vs y) (hone : ∀ x vs y, El x vs y -> ∀ u ∈ vs, u.oneCell' = true)
  (hgs : o0.guard = none /\ o4.guard = none /\ o9.guard = none /\ o10.guard = none /\ o14.guard = none) (hds : o0.dst = some d0 /\ o4.dst = some d4 /\ o9.dst = some d9 /\ o10.dst = some d10 /\ o14.dst = some d14)
  (h0 : o0.op = .buildSlice t 0 #[]) (h4 : o4.op = .call { callee := .builtin .append, args := #[.tmp d0, .tmp j4], argTypes := #[t, t] }) (h9 : o9.op = .buildSlice t 1 #[(0, .tmp j9)])
  (h10 : o10.op = .call { callee := .builtin .append, args := #[.tmp d4, .tmp d9], argTypes := #[t, t] }) (h14 : o14.op = .call { callee := .builtin .append, args := #[.tmp d10, .tmp j14], argTypes := #[t, t] })
  (hsl : d0 < a.tmps.size /\ d4 < a.tmps.size /\ d9 < a.tmps.size /\ d10 < a.tmps.size) (hne : [d0, d4, d9, d10, j4, j9, j14].Nodup)
  {A4 A14 : Option Addr} {p4 c4 m c14 N N1 : Nat} {la lb : List α} {x0 : α} (v4 : a.eval (.tmp j4) = .slice A4 p4 c4) (q4 : ∀ x, Below T w x -> Sq El k x A4 p4 c4 la) (v9 : a.eval (.tmp j9) = .agg vs.toArray) (hvs : vs.length = k) (hel : ∀ x, Below T w x -> El x vs x0)
  (v14 : a.eval (.tmp j14) = .slice A14 m c14) (q14 : ∀ x, Below T w x -> Sq El k x A14 m c14 lb) (hN1 : p4 + 1 = N1) (hN : N1 + m = N) (hsz : N * by_ <= 140737488355328) (hsz2 : N <= 140737488355328) (hT : T <= w.heap.size) (hS : ∀ x, Below T w x -> S x)
  (h : ∀ u0 u4 u9 u10 A' c' x, OwS El k x T e (.slice A' N c') (la ++ [x0] ++ lb) -> Below T w x -> wpList P ops Q rest (((((a.put (some d0) u0).put (some d4) u4).put (some d9) u9).put (some d10) u10).put (some d14) (.slice A' N c')) x) :
  wpPlan P ops Q (fun a w => wpList P ops Q (o14 :: rest) a w) (.two (some o0) (.two (some o4) (.run (some o9) (.run (some o10) .done)) (some o9) (.run (some o4) (.run (some o10) .done))) (some o9) (.run (some o0) (.run (some o4) (.run (some o10) .done)))) S a w := by
 obtain ⟨g0, g4, g9, g10, g14⟩ := hgs;obtain ⟨e0, e4, e9, e10, e14⟩ := hds;obtain ⟨s0, s4, s9, s10⟩ := hsl;simp only [List.nodup_cons, List.mem_cons, not_or, List.not_mem_nil, not_false_eq_true, and_true] at hne;obtain ⟨⟨n01, n02, n03, n04, n05, n06⟩, ⟨n12, n13, n14, n15, n16⟩, ⟨n23, n24, n25, n26⟩, ⟨n34, n35, n36⟩, -⟩ := hne;have hl4 : la.length = p4 := (q4 w (Below.refl _ _)).len;have hb4 : p4 * by_ <= 140737488355328 /\ p4 <= 140737488355328 := ⟨Nat.le_trans (Nat.mul_le_mul_right _ (by omega)) hsz, by omega⟩;have hb1 : N1 * by_ <= 140737488355328 /\ N1 <= 140737488355328 := ⟨Nat.le_trans (Nat.mul_le_mul_right _ (by omega)) hsz, by omega⟩
 have fin : ∀ u0 u4 u9 A1 c1 x (g : Nat), TP El k e vs T w x (some (.slice A1 N1 c1, la ++ [x0])) (some g) -> wpList P ops Q (o14 :: rest) ((((a.put (some d0) u0).put (some d4) u4).put (some d9) u9).put (some d10) (.slice A1 N1 c1)) x := fun u0 u4 u9 A1 c1 x g hx => by
  refine list_app hu hi hzs hk hEl hone g14 e14 h14 (v := .slice A1 N1 c1) (l := la ++ [x0]) (eval_put_eq (by rw [put_size, put_size, put_size]; exact s10)) (A := A14) (m := m) (c := c14) (N := N) (lb := lb) ?_ (q14 x hx.bel) (by rw [List.length_append, hl4]; simp; omega) hsz hsz2 hx fun A' c' x' h2 => ?_
  ·rw [eval_put_ne n36, eval_put_ne n26, eval_put_ne n16, eval_put_ne n06]; exact v14
  ·exact h u0 u4 u9 _ A' c' x' (h2.row _ _ rfl) h2.bel
 have last : ∀ u0 u9 A1 c1 x (g : Nat), u9 = .slice (some ⟨g, 0, none⟩) 1 1 -> TP El k e vs T w x (some (.slice A1 p4 c1, la)) (some g) -> wpPlan P ops Q (fun a w => wpList P ops Q (o14 :: rest) a w) (.run (some o10) .done) S (((a.put (some d0) u0).put (some d4) (.slice A1 p4 c1)).put (some d9) u9) x := fun u0 u9 A1 c1 x g hu9 hx => by
  subst hu9;refine st_app hu hi hzs hk hEl hone g10 e10 h10 (v := .slice A1 p4 c1) (l := la) ?_ (A := some ⟨g, 0, none⟩) (m := 1) (c := 1) (N := N1) (lb := [x0]) (eval_put_eq (by rw [put_size, put_size]; exact s9)) (hx.sq hvs (hel x hx.bel)) (by omega) hb1.1 hb1.2 hS hx fun A' c' x' h2 => ?_
  ·rw [eval_put_ne (Ne.symm n12)]; exact eval_put_eq (by rw [put_size]; exact s4)
  ·exact done_go (fin u0 _ _ A' c' x' g h2)
 have hst : TP El k e vs T w w none none := TP.start hT;refine two_go ?_ ?_
 ·refine st_nil hu hi g0 e0 h0 hS hst fun v x hx => ?_
  refine two_go ?_ ?_
  ·refine st_app hu hi hzs hk hEl hone g4 e4 h4 (v := v) (l := []) (eval_put_eq s0) (A := A4) (m := p4) (c := c4) (N := p4) (lb := la) (by rw [eval_put_ne n04]; exact v4) (q4 x hx.bel) (by simp) hb4.1 hb4.2 hS hx fun A' c' x' h2 => ?_
   refine st_lit (u := .agg vs.toArray) hu hi hzs hk hk2 hvs hEl g9 e9 h9 (by rw [eval_put_ne n15, eval_put_ne n05]; exact v9) rfl hS h2 fun g x2 h3 => ?_
   exact last v _ A' c' x2 g rfl h3
  ·refine st_lit (u := .agg vs.toArray) hu hi hzs hk hk2 hvs hEl g9 e9 h9 (by rw [eval_put_ne n05]; exact v9) rfl hS hx fun g x' h2 => ?_
   refine st_app hu hi hzs hk hEl hone g4 e4 h4 (v := v) (l := []) (by rw [eval_put_ne (Ne.symm n02)]; exact eval_put_eq s0) (A := A4) (m := p4) (c := c4) (N := p4) (lb := la) (by rw [eval_put_ne n24, eval_put_ne n04]; exact v4) (q4 x' h2.bel) (by simp) hb4.1 hb4.2 hS h2 fun A' c' x2 h3 => ?_
   rw [put_comm (Ne.symm n12)];exact last v _ A' c' x2 g rfl h3
 ·refine st_lit (u := .agg vs.toArray) hu hi hzs hk hk2 hvs hEl g9 e9 h9 v9 rfl hS hst fun g x hx => ?_
  refine st_nil hu hi g0 e0 h0 hS hx fun v x' h2 => ?_
  refine st_app hu hi hzs hk hEl hone g4 e4 h4 (v := v) (l := []) (eval_put_eq (by rw [put_size]; exact s0)) (A := A4) (m := p4) (c := c4) (N := p4) (lb := la) (by rw [eval_put_ne n04, eval_put_ne n24]; exact v4) (q4 x' h2.bel) (by simp) hb4.1 hb4.2 hS h2 fun A' c' x2 h3 => ?_
  rw [put_comm (Ne.symm n02), put_comm (Ne.symm n12)];exact last v _ A' c' x2 g rfl h3
end
end Go.Proofs.YtdnfnkicmfkkmaaGreatDoor.Pl
end

section
namespace Go.Proofs.YtdnfnkicmfkkmaaGreatDoor.No
open Go.RowKit UtfW Xl Xt Xo
theorem insA_at {x : At} : ∀ {out : List At} {j : Nat}, j <= out.length -> (∀ q y, q < j -> out[q]? = some y -> lessT x.1 y.1 = false) -> (∀ y, out[j]? = some y -> lessT x.1 y.1 = true) -> insA x out = out.take j ++ x :: out.drop j
 | [], 0, _, _, _ => rfl
 | [], j + 1, h, _, _ => by simp at h
 | y :: l, 0, _, _, h => by
  unfold insA;rw [if_pos (h y rfl)];rfl
 | y :: l, j + 1, h0, h1, h2 => by
  unfold insA;rw [h1 0 y (by omega) rfl, if_neg (by simp), insA_at (out := l) (j := j) (by simpa using h0) (fun q z hq hz => h1 (q + 1) z (by omega) (by simpa using hz)) (fun z hz => h2 z (by simpa using hz))];rfl
theorem attrsN_snoc (l : List At) (x : At) : attrsN (l ++ [x]) = insA x (attrsN l) := by unfold attrsN; rw [List.foldl_append]; rfl
theorem bdrew {w x : World} (h : Below w.heap.size w.drew x) : Below w.heap.size w x := (Joins.below_draws w.heap.size w 1).trans h
theorem slot_lt {a b n : Nat} (h : a < n) (e : b = n) : a < b := by rw [e]; exact h
theorem cut_addr (A : Option Addr) (c j k : Nat) : ∀ b off, A = some ⟨b, off, none⟩ -> j < c -> (if c = j then A else Option.map (fun x => x.add (j * k)) A) = some ⟨b, off + j * k, none⟩ := by
 intro b off e hjc;rw [if_neg (by omega), e]
 show some (Addr.add ⟨b, off, none⟩ (j * k)) = _
 unfold Addr.add
 split
 ·rename_i h0; rw [h0]; rfl
 ·rfl
theorem cut_some (A : Option Addr) (c j k : Nat) : A ≠ none -> (if c = j then A else Option.map (fun x => x.add (j * k)) A) ≠ none := by
 intro hne
 split
 ·exact hne
 ·intro e; cases A with
  | none => exact hne rfl
  | some a => cases e
theorem at_one {x : World} {vs : List Value} {y : At} (h : AtEl x vs y) : ∀ u ∈ vs, u.oneCell' = true := by
 obtain rfl : vs = _ := h;intro u hu;simp at hu;rcases hu with rfl | rfl <;> rfl
theorem at_el {x x' : World} {vs : List Value} {y : At} (h : AtEl x vs y) : AtEl x' vs y := AtEl.to _ _ h
set_option maxHeartbeats 2000000 in
set_option maxRecDepth 100000 in
theorem rAttrs_any (A : Option Addr) (n c : Nat) (l : List At) (w : World) (h : Sq AtEl 2 w A n c l) (hN : n <= 1000000) (hsm : ∀ a ∈ l, a.1.length <= 1000000) :
    Calls Tryz.prog 91 #[.slice A n c] w fun e w' => ∃ A' c', e = .returned (.slice A' n c') /\ OwS AtEl 2 w' w.heap.size 68 (.slice A' n c') (attrsN l) /\ Below w.heap.size w w' := by
  have hl := Hd h.len;have hle := h.le;have hm := h.max;have h' := Hd h;have hsm' := Hd hsm;clear h hsm
  go_enter Tryz.func91, Tryz.ntmps91
  go_wp2_with fail
  go_loopw [3, 4] (fun v i wr => ∃ (k : Nat) (A1 : Option Addr) (c1 : Nat), k <= n /\ i = .int .i64 k /\ v = .slice A1 k c1 /\ Hid (OwS AtEl 2 wr w.heap.size 68 (.slice A1 k c1) (attrsN (l.take k))) /\ Hid (Below w.heap.size w wr)) (fun _ i _ => n - (intOf i).toNat)
  case atStart => exact ⟨0, none, 0, by omega, rfl, rfl, Hd (OwS.nil _ _ _), Hd (Below.refl _ _)⟩
  case round =>
    obtain ⟨k, A1, c1, hk, rfl, rfl, how, hb⟩ := hrel
    by_cases hlt : k < n
    · have i1 : decide ((k : Int) < (n : Int)) = true := by rw [decide_eq_true_eq]; omega
      have i2 : decide (k < n) = true := by rw [decide_eq_true_eq]; omega
      have i3 : (k : Int) < (n : Int) := (by omega);obtain ⟨b, off, xa, vs, rfl, hbl, hx, hvs, hel, hcs⟩ := (h'.out.below (fun _ _ => at_el) hb.out).at_ hlt;obtain ⟨a1, a2⟩ := xa;obtain rfl : vs = [.string (strOf a1), .string (strOf a2)] := hel;have k0 : wr.cell? ⟨b, off + k * 2, none⟩ = some (.string (strOf a1)) := hcs 0 _ rfl;have k1 : wr.cell? ⟨b, off + k * 2 + 1, none⟩ = some (.string (strOf a2)) := hcs 1 _ rfl;have hx' := Hd hx;have hbl' := Hd hbl;have ha1 : Hid (a1.length <= 1000000) := Hd (hsm'.out (a1, a2) (List.mem_of_getElem? hx));have hsq := Hd (how.out.sq' (by omega));have hlen := Hd hsq.out.len;have hle1 := hsq.out.le;have hm1 := hsq.out.max;clear hvs hcs hx hbl;obtain ⟨S1, hS1⟩ : ∃ S, strOf a1 = S := ⟨_, rfl⟩;obtain ⟨S2, hS2⟩ : ∃ S, strOf a2 = S := ⟨_, rfl⟩;rw [hS1] at k0;rw [hS2] at k1;have hS1' := Hd hS1;have hS2' := Hd hS2;clear hS1 hS2;obtain ⟨wx, hwx⟩ : ∃ z, z = wr := ⟨_, rfl⟩;subst hwx;go_wp2_with fail
      go_loopw [5] (fun i wq => ∃ (j : Nat), j <= k /\ i = .int .i64 j /\ Hid (∀ q y, q < j -> (attrsN (l.take k))[q]? = some y -> lessT a1 y.1 = false) /\ Hid (Below wx.heap.size wx wq)) (fun i _ => k - (intOf i).toNat)
      case atStart => exact ⟨0, by omega, rfl, Hd (fun q y hq => absurd hq (by omega)), Hd (Below.refl _ _)⟩
      case round =>
        obtain ⟨j, hj, rfl, hpre, hb2⟩ := hrel;have m0 := (hb2.out.cell (p := ⟨b, off + k * 2, none⟩) hbl'.out).trans k0;have m1 := (hb2.out.cell (p := ⟨b, off + k * 2 + 1, none⟩) hbl'.out).trans k1
        go_upto_region 6 with fail
        go_cut [29] (fun v wy => ∃ cnd : Bool, v = .bool cnd /\ Hid (if cnd = true then j < k /\ ∀ y, (attrsN (l.take k))[j]? = some y -> lessT a1 y.1 = false else ∀ y, (attrsN (l.take k))[j]? = some y -> lessT a1 y.1 = true) /\ Hid (Below wr.heap.size wr wy))
        case first =>
          by_cases hjk : j < k
          · have p1 : decide ((j : Int) < (k : Int)) = true := by rw [decide_eq_true_eq]; omega
            have p2 : decide (j < k) = true := by rw [decide_eq_true_eq]; omega
            have p3 : (j : Int) < (k : Int) := (by omega);obtain ⟨b3, off3, y, vs3, e3, hbl3, hy, hvs3, hel3, hcs3⟩ := (hsq.out.below (fun _ _ => at_el) hb2.out).at_ hjk;subst e3;obtain ⟨y1, y2⟩ := y;obtain rfl : vs3 = [.string (strOf y1), .string (strOf y2)] := hel3;have n0 : wr.cell? ⟨b3, off3 + j * 2, none⟩ = some (.string (strOf y1)) := hcs3 0 _ rfl;have hy1 : y1.length <= 1000000 := hsm'.out (y1, y2) (List.mem_of_mem_take ((attrsN_perm _).mem_iff.1 (List.mem_of_getElem? hy)));have hy' := Hd hy;have hlc : Hid (∀ x, Calls Tryz.prog 113 #[.string S1, .string (strOf y1)] x fun e w' => e = .returned (.bool (lessT a1 y1)) /\ ∃ k, w' = x.drewN k) := Hd fun x => by rw [<- hS1'.out]; exact less_any a1 y1 ha1.out hy1 x
            obtain ⟨U1, hU1⟩ : ∃ S, strOf y1 = S := ⟨_, rfl⟩;rw [hU1] at n0 hlc;clear hcs3 hvs3 hy hbl3 hU1 hy1;go_wp2_with fail;refine Pl.wp_region_plan 15 (.take 0 (.take 1 (.take 2 (.take 3 (.take 4 (.take 5 (.take 6 (.take 7 (.take 8 (.take 9 (.take 10 (.take 11 (.take 12 (.take 13 (.take 14 .done))))))))))))))) (fun x => x.cell? ⟨b, off + k * 2, none⟩ = some (.string S1) /\ x.cell? ⟨b, off + k * 2 + 1, none⟩ = some (.string S2) /\ x.cell? ⟨b3, off3 + j * 2, none⟩ = some (.string U1)) (by kernel_rfl) (by kernel_rfl) (by exact ⟨m0, m1, n0⟩) ?_;simp only [Pl.fill, Al_4, Al_5, Al_6, Al_7]
            iterate 15
              first
              | (refine Pl.take_go ?_ (by rfl) (fun _ _ _ h => h) ?_ ?_
                 rotate_left
                 · (intro x hSw; (try (dsimp only at hSw)); go_simp; try with_reducible rfl)
                 (try simp only [Act.put, Al_1, Al_2, Al_3]))
              | (refine Pl.take_skip (by rfl) (fun _ _ _ h => h) ?_
                 (try simp only [Act.put, Al_1, Al_2, Al_3]))
            refine Pl.done_go ?_;clear m0 m1 n0;go_wp2_with fail;refine (hlc.out _).mono ?_;rintro e w3 ⟨rfl, q, rfl⟩;obtain ⟨bl, hbl0⟩ : ∃ bl, lessT a1 y1 = bl := ⟨_, rfl⟩;rw [hbl0]
            have hcnd : Hid (if (!bl) = true then j < k /\ ∀ y, (attrsN (l.take k))[j]? = some y -> lessT a1 y.1 = false else ∀ y, (attrsN (l.take k))[j]? = some y -> lessT a1 y.1 = true) := Hd (by
              have hz : ∀ y, (attrsN (l.take k))[j]? = some y -> lessT a1 y.1 = bl := fun y hyy => by
                rw [hy'.out] at hyy;injection hyy with hyy;rw [<- hyy]; exact hbl0
              cases bl with
              | true => exact hz
              | false => exact ⟨hjk, hz⟩)
            clear hbl0;go_wp2_with fail
            go_meet
            exact ⟨_, rfl, hcnd, Hd (Joins.below_draws _ _ _)⟩
          · have p1 : decide ((j : Int) < (k : Int)) = false := by rw [decide_eq_false_iff_not]; omega
            have p2 : decide (j < k) = false := by rw [decide_eq_false_iff_not]; omega
            have hcnd : Hid (if false = true then j < k /\ ∀ y, (attrsN (l.take k))[j]? = some y -> lessT a1 y.1 = false else ∀ y, (attrsN (l.take k))[j]? = some y -> lessT a1 y.1 = true) := Hd (by
              rw [if_neg (by decide)];intro y hy;have := (List.getElem?_eq_some_iff.1 hy).1;have := hlen.out
              omega)
            clear m0 m1;go_wp2_with fail;refine Pl.wp_region_plan 15 (.take 0 (.take 1 (.take 2 (.take 3 (.take 4 (.take 5 (.take 6 (.take 7 (.take 8 (.take 9 (.take 10 (.take 11 (.take 12 (.take 13 (.take 14 .done))))))))))))))) (fun _ => True) (by kernel_rfl) (by kernel_rfl) trivial ?_;simp only [Pl.fill, Al_4, Al_5, Al_6, Al_7]
            iterate 15
              first
              | (refine Pl.take_go ?_ (by rfl) (fun _ _ _ h => h) ?_ ?_
                 rotate_left
                 · (intro x hSw; (try (dsimp only at hSw)); go_simp; try with_reducible rfl)
                 (try simp only [Act.put, Al_1, Al_2, Al_3]))
              | (refine Pl.take_skip (by rfl) (fun _ _ _ h => h) ?_
                 (try simp only [Act.put, Al_1, Al_2, Al_3]))
            refine Pl.done_go ?_;go_wp2_with fail
            go_meet
            exact ⟨_, rfl, hcnd, Hd (Joins.below_draws _ _ _)⟩
        case rest =>
          obtain ⟨cnd, rfl, hcnd, hb3⟩ := hcut;clear m0 m1
          cases cnd with
          | true =>
            have hlt2 := hcnd.out.1;go_wp2_with fail;go_roundw
            case rel =>
              refine ⟨j + 1, by omega, by go_num, Hd fun q y hq hy => ?_, Hd (hb2.out.trans (hb3.out.mono hb2.out.size))⟩
              by_cases e : q = j
              · subst e; exact hcnd.out.2 y hy
              · exact hpre.out q y (by omega) hy
            case measure => simp [intOf]; omega
          | false =>
            have hbc := Hd (hb2.out.trans (hb3.out.mono hb2.out.size));have s0 := (hbc.out.cell (p := ⟨b, off + k * 2, none⟩) hbl'.out).trans k0;have s1 := (hbc.out.cell (p := ⟨b, off + k * 2 + 1, none⟩) hbl'.out).trans k1;have hins := insA_at (x := (a1, a2)) (out := attrsN (l.take k)) (j := j) (by rw [hlen.out]; exact hj) (fun q y hq hy => hpre.out q y hq hy) (fun y hy => by have := hcnd.out; rw [if_neg (by decide)] at this; exact this y hy);have hnext : Hid (attrsN (l.take (k + 1)) = (attrsN (l.take k)).take j ++ [(a1, a2)] ++ (attrsN (l.take k)).drop j) := Hd (by rw [take_snoc hx'.out, attrsN_snoc, hins]; simp);have hsc := Hd (hsq.out.below (fun _ _ => at_el) hbc.out);have hltc := Hd (Nat.lt_of_lt_of_le hbl'.out hbc.out.size);clear hins hcnd;have q0 : (j : Int) <= (c1 : Int) := (by omega);have q1 : (0 : Int) <= (j : Int) /\ (j : Int) <= (c1 : Int) := ⟨by omega, by omega⟩;have q2 : (0 : Int) <= (j : Int) /\ (j : Int) <= (k : Int) := ⟨by omega, by omega⟩;have q3 : j <= c1 := (by omega);have q4 : (j : Int) <= (k : Int) := (by omega);go_wp2_with fail;refine Pl.wp_region_plan 14 (.take 1 (.take 2 (.take 3 (.take 5 (.take 6 (.take 7 (.take 8 (.take 11 (.take 12 (.take 13 (.two 0 (.two 4 (.run 9 (.run 10 .done)) 9 (.run 4 (.run 10 .done))) 9 (.run 0 (.run 4 (.run 10 .done)))))))))))))) (fun x => x.cell? ⟨b, off + k * 2, none⟩ = some (.string S1) /\ x.cell? ⟨b, off + k * 2 + 1, none⟩ = some (.string S2)) (by kernel_rfl) (by kernel_rfl) (by exact ⟨s0, s1⟩) ?_;simp only [Pl.fill, Al_4, Al_5, Al_6, Al_7]
            iterate 10
              first
              | (refine Pl.take_go ?_ (by rfl) (fun _ _ _ h => h) ?_ ?_
                 rotate_left
                 · (intro x hSw; (try (dsimp only at hSw)); go_simp; try with_reducible rfl)
                 (try simp only [Act.put, Al_1, Al_2, Al_3]))
              | (refine Pl.take_skip (by rfl) (fun _ _ _ h => h) ?_
                 (try simp only [Act.put, Al_1, Al_2, Al_3]))
            have hL : Hid (∀ x, Below wc.heap.size wc.drew x -> Sq AtEl 2 x A1 j c1 ((attrsN (l.take k)).take j)) := Hd fun x hx => by
              have := (hsc.out.below (fun _ _ => at_el) (bdrew hx)).cut 0 j (by omega) hj A1 (fun b off e _ => by rw [e, Nat.zero_mul]; rfl) (fun e => e);rw [Nat.sub_zero, Nat.sub_zero, List.drop_zero] at this;exact this
            have hR : Hid (∀ x, Below wc.heap.size wc.drew x -> Sq AtEl 2 x (if c1 = j then A1 else Option.map (fun x => x.add (j * 2)) A1) (k - j) (c1 - j) ((attrsN (l.take k)).drop j)) := Hd fun x hx => by
              have := (hsc.out.below (fun _ _ => at_el) (bdrew hx)).cut j k hj (Nat.le_refl _) (if c1 = j then A1 else Option.map (fun x => x.add (j * 2)) A1) (cut_addr A1 c1 j 2) (cut_some A1 c1 j 2);rw [List.take_of_length_le (by rw [List.length_drop, hlen.out]; omega)] at this;exact this
            refine Pl.trip_go (El := AtEl) (k := 2) (z := .agg #[.string ⟨#[]⟩, .string ⟨#[]⟩]) (by_ := 32) (T := wc.heap.size) (vs := [.string S1, .string S2]) (x0 := (a1, a2)) (la := (attrsN (l.take k)).take j) (lb := (attrsN (l.take k)).drop j) (N1 := j + 1) (N := k + 1)
              Tryz.underlying23 (by kernel_rfl) rfl (by omega) (by omega) (fun _ _ _ _ _ h => at_el h) (fun _ _ _ h => at_one h) ⟨rfl, rfl, rfl, rfl, rfl⟩ ⟨rfl, rfl, rfl, rfl, rfl⟩ rfl rfl rfl rfl rfl ⟨slot_lt (n := 48) (by decide) rfl, slot_lt (n := 48) (by decide) rfl, slot_lt (n := 48) (by decide) rfl, slot_lt (n := 48) (by decide) rfl⟩ (by decide)
              rfl hL.out rfl rfl (fun x _ => by rw [<- hS1'.out, <- hS2'.out]; rfl) rfl hR.out rfl (by omega) (by omega) (by omega) (Nat.le_refl _) (fun x hx => ⟨(hx.cell (p := ⟨b, off + k * 2, none⟩) hltc.out).trans s0, (hx.cell (p := ⟨b, off + k * 2 + 1, none⟩) hltc.out).trans s1⟩) ?_
            intro u0 u4 u9 u10 A7 c7 x ho hx;have ho' : Hid (OwS AtEl 2 x w.heap.size 68 (.slice A7 (k + 1) c7) (attrsN (l.take (k + 1)))) := Hd (by rw [hnext.out]; exact ho.down (Nat.le_trans hb.out.size hbc.out.size));have hbx := Hd ((hb.out.trans (hbc.out.mono hb.out.size)).trans ((bdrew hx).mono (Nat.le_trans hb.out.size hbc.out.size)));clear s0 s1 ho hx hL hR
            try simp only [Act.put, Al_1, Al_2, Al_3]
            go_wp2_with fail;go_roundw
            case rel => exact ⟨k + 1, A7, c7, by omega, by go_num, rfl, ho', hbx⟩
            case measure => simp [intOf]; omega
    · have i1 : decide ((k : Int) < (n : Int)) = false := by rw [decide_eq_false_iff_not]; omega
      have i2 : decide (k < n) = false := by rw [decide_eq_false_iff_not]; omega
      have e1 : k = n := (by omega);subst e1;have ho' : Hid (OwS AtEl 2 wr w.heap.size 68 (.slice A1 k c1) (attrsN l)) := Hd (by have := how.out; rwa [List.take_of_length_le (by have := hl.out; omega)] at this);go_wp2_with fail;go_ret;exact ⟨A1, c1, rfl, ho'.out, hb.out⟩
end Go.Proofs.YtdnfnkicmfkkmaaGreatDoor.No
end
