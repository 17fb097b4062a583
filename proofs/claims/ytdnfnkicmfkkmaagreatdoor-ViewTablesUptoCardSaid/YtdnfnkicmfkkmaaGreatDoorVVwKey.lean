/- The builder's keyed. Printed by vw_key.py. -/
import Derived.Test.YtdnfnkicmfkkmaaGreatDoorVUtfEnc
import Derived.Test.YtdnfnkicmfkkmaaGreatDoorVItoaS
import Derived.Lib.ItoaLen
import Derived.Test.YtdnfnkicmfkkmaaGreatDoorVXlScan
import Derived.Test.YtdnfnkicmfkkmaaGreatDoorVKyRd
import Derived.Test.YtdnfnkicmfkkmaaGreatDoorVKyRb
import Derived.Test.YtdnfnkicmfkkmaaGreatDoorVPlan2
import Derived.Test.YtdnfnkicmfkkmaaGreatDoorVKyLine
import Derived.Test.YtdnfnkicmfkkmaaGreatDoorVXpDoc
set_option linter.unusedVariables false
set_option linter.unusedSimpArgs false
section
namespace Go.Proofs.YtdnfnkicmfkkmaaGreatDoor.Vw
open Go.RowKit UtfW Xl Xt Xo No
open Go.Proofs.YtdnfnkicmfkkmaaGreatDoor (Ky.frontB Ky.Rl)
open Go.Proofs.YtdnfnkicmfkkmaaGreatDoor.Ky (Ts OwX tv join Rs)
def VEnv (B : Nat) (Al : Option Addr) (nl cl : Nat) (l : List Ky.Rl) (w : World) : Prop := ∀ x, Below B w x -> Nu.Tens x /\ Ut x /\ Rs x Al nl cl l
theorem VEnv.later {B nl cl : Nat} {Al : Option Addr} {l : List Ky.Rl} {w w' : World} (h : VEnv B Al nl cl l w) (hb : Below B w w') : VEnv B Al nl cl l w' := fun x hx => h x (hb.trans hx)
theorem app_at {α : Type} {a c : List α} {i : Nat} {x : α} (h : a[i]? = some x) : (a ++ c)[i]? = some x := by
 rw [List.getElem?_append_left (List.getElem?_eq_some_iff.1 h).1];exact h
set_option maxHeartbeats 20000000 in
set_option maxRecDepth 100000 in
theorem velem_any (B b : Nat) (rv v : Value) (out : List Q) (w : World) (nm : Tx) (as_ : List At) (A : Option Addr) (n c : Nat) (pa : Int) (ph : Tx) (h : Vb B b rv v out w) (hA : ∀ x, Below B w x -> Sq AtEl 2 x A n c as_) (h0 : 0 < out.length) (hN : out.length + as_.length <= 9000000) (hph : ph.length + wA as_ <= 500000000000) :
    Calls Tryz.prog 56 #[.pointer (some ⟨b, 0, none⟩), .string (strOf nm), .slice A n c, .int .i64 pa, .string (strOf ph)] w fun e w' => e = .returned (.int .i64 (out.length : Nat)) /\ ∃ v', Vb B b rv v' (out ++ ⟨1, nm, [], pa, out.length + 1, ph⟩ :: attrRows out.length ph (out.length + 1) as_) w' /\ Bk B b v v' w w' := by
  obtain ⟨m, hm⟩ : ∃ m, out.length = m := ⟨_, rfl⟩;have hput := vput_any B b rv v out w 1 nm [] pa 0 ph h (by omega);rw [hm] at hput h0 hN ⊢;have hs0 : strOf ([] : Tx) = ⟨#[]⟩ := rfl;rw [hs0] at hput;have hA0 := hA w (Below.refl _ _);have hnl : as_.length = n := hA0.len;have l1 := hA0.le;have l2 := hA0.max;rw [hnl] at hN;obtain ⟨S1, hS1⟩ : ∃ S, strOf nm = S := ⟨_, rfl⟩;obtain ⟨S3, hS3⟩ : ∃ S, strOf ph = S := ⟨_, rfl⟩;rw [hS1, hS3] at hput ⊢;have hputH := Hd hput;have hAH : Hid (∀ x, Below B w x -> Sq AtEl 2 x A n c as_) := Hd hA;have hnlH := Hd hnl;have hmH := Hd hm;have hphH := Hd hph;clear hput hA hA0 hm hnl hph hS1 hS3
  go_enter Tryz.func56, Tryz.ntmps56
  go_wp2_with fail;refine hputH.out.mono ?_;rintro e w1 ⟨rfl, v1, hv1, hk1⟩;have hst : Hid (∃ v', Vb B b rv v' (out ++ ⟨1, nm, [], pa, m + 1, ph⟩ :: attrRows m ph (m + 1) (as_.take 0)) w1 /\ Bk B b v v' w w1) := Hd ⟨v1, by rw [List.take_zero]; exact hv1, hk1⟩;clear hv1 hk1 hputH h;go_wp2_with fail
  go_loopw [22] (fun vi wr => ∃ k : Nat, k <= n /\ vi = .int .i64 (k : Nat) /\ Hid (∃ v', Vb B b rv v' (out ++ ⟨1, nm, [], pa, m + 1, ph⟩ :: attrRows m ph (m + 1) (as_.take k)) wr /\ Bk B b v v' w wr)) (fun vi _ => n - (intOf vi).toNat)
  case atStart => exact ⟨0, by omega, rfl, hst⟩
  case round =>
    obtain ⟨k, hk, rfl, hin⟩ := hrel;clear hst;obtain ⟨v2, hv2, hk2⟩ := hin.out
    by_cases hlt : k < n
    · have i1 : decide ((k : Int) < (n : Int)) = true := by rw [decide_eq_true_eq]; omega
      have i2 : decide (k < n) = true := by rw [decide_eq_true_eq]; omega
      have i3 : (k : Int) < (n : Int) := (by omega);obtain ⟨ba, off, y, ys, eA, hbl, hy, hys, rfl, hcs⟩ := (hAH.out wr hk2.bel).at_ hlt;subst eA;obtain ⟨y1, y2⟩ := y;have m0 : wr.cell? ⟨ba, off + k * 2, none⟩ = some (.string (strOf y1)) := hcs 0 _ rfl;have m1 : wr.cell? ⟨ba, off + k * 2 + 1, none⟩ = some (.string (strOf y2)) := hcs 1 _ rfl;obtain ⟨J, hJ⟩ : ∃ J, wr.heap.size = J := ⟨_, rfl⟩;obtain ⟨w3, hw3⟩ : ∃ w3, wr.alloc (.cells #[.string (strOf y1), .string (strOf y2)] 68) = w3 := ⟨_, rfl⟩;have hb3 : Below wr.heap.size wr w3 := by rw [<- hw3]; exact (Below.refl _ _).alloc (Nat.le_refl _) _
      have hk3 : w3.heap[J]? = some (.cells #[.string (strOf y1), .string (strOf y2)] 68) := by rw [<- hw3, <- hJ]; exact heap_alloc_new wr _
      have n0 := Xp.cell_blk hk3 (i := 0) rfl;have n1 := Xp.cell_blk hk3 (i := 1) rfl
      have hrl : (out ++ (⟨1, nm, [], pa, m + 1, ph⟩ : Q) :: attrRows m ph (m + 1) (as_.take k)).length = m + 1 + k := by
        rw [List.length_append, List.length_cons, attrRows_len, List.length_take, hmH.out, hnlH.out];omega
      have hrow : (out ++ (⟨1, nm, [], pa, m + 1, ph⟩ : Q) :: attrRows m ph (m + 1) (as_.take k))[m]? = some ⟨1, nm, [], pa, m + 1, ph⟩ := by
        rw [List.getElem?_append_right (by rw [hmH.out]; exact Nat.le_refl _), hmH.out, Nat.sub_self];rfl
      have hdr : Below w3.heap.size w3 w3.drew := Joins.below_draws w3.heap.size w3 1;have hv3 := hv2.below (hb3.trans (hdr.mono hb3.size));have hya : y1.length <= wA as_ := by have := Xp.wA_mem (List.mem_of_getElem? hy); simp only at this; omega
      have hbel := vbelow_any B b rv v2 _ w3.drew m _ (64 :: y1) hv3 hrow (by have := hphH.out; simp only [List.length_cons]; omega);rw [if_neg (by omega)] at hbel;have hput := vput_any B b rv v2 _ w3.drew 5 y1 y2 (m : Nat) 0 (ph ++ 47 :: 64 :: y1) hv3 (by rw [hrl]; omega);rw [hrl] at hput
      have hsn : Hid ((out ++ (⟨1, nm, [], pa, m + 1, ph⟩ : Q) :: attrRows m ph (m + 1) (as_.take k)) ++ [⟨5, y1, y2, (m : Nat), m + 1 + k + 1, ph ++ 47 :: 64 :: y1⟩] = out ++ ⟨1, nm, [], pa, m + 1, ph⟩ :: attrRows m ph (m + 1) (as_.take (k + 1))) := Hd (by
        rw [take_snoc hy, attrRows_snoc, List.append_assoc, List.cons_append];have h9 : (as_.take k).length = k := by rw [List.length_take, hnlH.out]; omega
        rw [h9])
      have a1 := fun w => add_txt w [64] y1 (by have := hphH.out; simp; omega)
      rw [show strOf [64] = (⟨#[64]⟩ : ByteArray) from rfl] at a1;obtain ⟨U1, hU1⟩ : ∃ S, strOf y1 = S := ⟨_, rfl⟩;obtain ⟨U2, hU2⟩ : ∃ S, strOf y2 = S := ⟨_, rfl⟩;obtain ⟨U3, hU3⟩ : ∃ S, strOf ([64] ++ y1) = S := ⟨_, rfl⟩;obtain ⟨U4, hU4⟩ : ∃ S, strOf (ph ++ 47 :: 64 :: y1) = S := ⟨_, rfl⟩;rw [show strOf (64 :: y1) = U3 from hU3, hU4] at hbel;rw [hU1, hU2, hU4] at hput;rw [hU1, hU3] at a1;rw [hU1] at m0 n0 hw3;rw [hU2] at m1 n1 hw3;have hbelH := Hd hbel;have hputH := Hd hput;have hbk3 : Hid (Bk B b v v2 w w3.drew) := Hd (hk2.trans (Bk.of_below (hb3.trans (hdr.mono hb3.size)) (hv2.leB)));have d0 : w3.drew.cell? ⟨J, 0, none⟩ = some (.string U1) := n0;have d1 : w3.drew.cell? ⟨J, 1, none⟩ = some (.string U2) := n1;clear hcs hys hbl hy hb3 hk3 hrl hrow hdr hv3 hya hbel hput hU1 hU2 hU3 hU4 hin hv2 hk2;go_wp2_with fail;clear hw3 hJ;refine Pl.wp_region_plan 13 (.take 0 (.take 1 (.take 2 (.take 3 (.take 4 (.take 5 (.take 6 (.take 7 (.take 8 (.take 9 (.take 10 (.run 11 (.take 12 .done))))))))))))) (fun x => x.cell? ⟨J, 0, none⟩ = some (.string U1) /\ x.cell? ⟨J, 1, none⟩ = some (.string U2)) (by kernel_rfl) (by kernel_rfl) (by exact ⟨n0, n1⟩) ?_;simp only [Pl.fill, Al_4, Al_5, Al_6, Al_7]
      iterate 11
        first
        | (refine Pl.take_go ?_ (by rfl) (fun _ _ _ h => h) ?_ ?_
           rotate_left
           · (intro x hSw; (try (dsimp only at hSw)); go_simp; try with_reducible rfl)
           (try simp only [Act.put, Al_1, Al_2, Al_3]))
        | (refine Pl.take_skip (by rfl) (fun _ _ _ h => h) ?_
           (try simp only [Act.put, Al_1, Al_2, Al_3]))
      refine Pl.run_go (fun K hK => ?_);go_simp;refine hbelH.out.mono ?_;rintro e w4 ⟨rfl, rfl⟩;refine hK.out _ _ (Pl.more_go _ (fun _ h => h) (by exact ⟨d0, d1⟩) ?_);clear hK K
      try simp only [Act.put, Al_1, Al_2, Al_3]
      iterate 1
        first
        | (refine Pl.take_go ?_ (by rfl) (fun _ _ _ h => h) ?_ ?_
           rotate_left
           · (intro x hSw; (try (dsimp only at hSw)); go_simp; try with_reducible rfl)
           (try simp only [Act.put, Al_1, Al_2, Al_3]))
        | (refine Pl.take_skip (by rfl) (fun _ _ _ h => h) ?_
           (try simp only [Act.put, Al_1, Al_2, Al_3]))
      refine Pl.done_go ?_;clear m0 m1 n0 n1 d0 d1;go_wp2_with fail;refine hputH.out.mono ?_;rintro e w5 ⟨rfl, v5, hv5, hk5⟩;have hrel2 : Hid (∃ v', Vb B b rv v' (out ++ ⟨1, nm, [], pa, m + 1, ph⟩ :: attrRows m ph (m + 1) (as_.take (k + 1))) w5 /\ Bk B b v v' w w5) := Hd ⟨v5, by rw [<- hsn.out]; exact hv5, hbk3.out.trans hk5⟩;clear hv5 hk5;go_wp2_with fail;go_roundw
      case rel => exact ⟨k + 1, by omega, by go_num, hrel2⟩
      case measure => simp [intOf]; omega
    · have i1 : decide ((k : Int) < (n : Int)) = false := by rw [decide_eq_false_iff_not]; omega
      have i2 : decide (k < n) = false := by rw [decide_eq_false_iff_not]; omega
      have e1 : k = n := (by omega);subst e1
      have hfin : Hid (∃ v', Vb B b rv v' (out ++ ⟨1, nm, [], pa, m + 1, ph⟩ :: attrRows m ph (m + 1) as_) wr /\ Bk B b v v' w wr) := Hd (by
        rw [List.take_of_length_le (by rw [hnlH.out]; exact Nat.le_refl _)] at hv2
        exact ⟨v2, hv2, hk2⟩)
      clear hv2 hk2 hin;go_wp2_with fail;go_ret;exact ⟨rfl, hfin.out⟩
end Go.Proofs.YtdnfnkicmfkkmaaGreatDoor.Vw
end

section
namespace Go.Proofs.YtdnfnkicmfkkmaaGreatDoor.Vw
open Go.RowKit UtfW Xl Xt Xo No
open Go.Proofs.YtdnfnkicmfkkmaaGreatDoor (Ky.frontB Ky.Rl)
open Go.Proofs.YtdnfnkicmfkkmaaGreatDoor.Ky (Ts OwX tv join Rs)
theorem tab_shut (l : List Ky.Rl) (names : List Tx) (out : List Q) (pa : Int) (path nm : Tx) (as_ : List At) (ks : List Nd) (T : List Q) (p : Nat) (hp : pa = (p : Int)) (hT : T = tabL l names (decide (names ≠ []) && !Ky.frontB l names) (out.length + 1 + as_.length) out.length path 0 ks) :
  (out ++ (⟨1, nm, [], pa, out.length + 1, path⟩ : Q) :: (attrRows out.length path (out.length + 1) as_ ++ T)).set out.length ⟨1, nm, [], pa, (out ++ (⟨1, nm, [], pa, out.length + 1, path⟩ : Q) :: (attrRows out.length path (out.length + 1) as_ ++ T)).length, path⟩ = out ++ tabN l names out.length p path (.mk 1 nm [] as_ ks) := by
 rw [set_mid];unfold tabN;subst hT hp
 congr 1
 simp only [List.length_append, List.length_cons]
 congr 2
 omega
theorem fair_leaf {k : Int} {nm tx : Tx} {as_ : List At} {ks : List Nd} (h : fairN (.mk k nm tx as_ ks) = true) (hk : k ≠ 1) : as_ = [] /\ ks = [] := by
 unfold fairN at h;rw [if_neg hk] at h
 split at h
 ·simp only [Bool.and_eq_true, List.isEmpty_iff] at h;exact ⟨h.1.1.1.1, h.1.1.1.2⟩
 ·split at h
  ·simp only [Bool.and_eq_true, List.isEmpty_iff] at h;exact ⟨h.1.1.1.1.1, h.1.1.1.1.2⟩
  ·split at h
   ·simp only [Bool.and_eq_true, List.isEmpty_iff] at h;exact ⟨h.1.1.1.1.1.1, h.1.1.1.1.1.2⟩
   ·simp at h
theorem tab_leaf (l : List Ky.Rl) (names : List Tx) (at_ p : Nat) (path : Tx) {k : Int} {nm tx : Tx} : tabN l names at_ p path (.mk k nm tx [] []) = [⟨k, nm, tx, p, at_ + 1, path⟩] := by
 unfold tabN tabL attrRows;simp
mutual
theorem tabN_w (l : List Ky.Rl) : ∀ (n : Nd) (names : List Tx) (a p : Nat) (path : Tx), (tabN l names a p path n).length <= wN n
 | .mk k nm tx as_ ks, names, a, p, path => by
  unfold tabN;simp only [List.length_cons, List.length_append, attrRows_len];have h1 := tabL_w l ks names (decide (names ≠ []) && !Ky.frontB l names) (a + 1 + as_.length) a path 0;have h2 := Xp.wA_len as_;rw [wN];omega
theorem tabL_w (l : List Ky.Rl) : ∀ (ks : List Nd) (names : List Tx) (keyed : Bool) (a p : Nat) (path : Tx) (i : Nat), (tabL l names keyed a p path i ks).length <= wL ks
 | [], _, _, _, _, _, _ => by unfold tabL; simp
 | x :: xs, names, keyed, a, p, path, i => by
  unfold tabL;simp only [List.length_append];have h1 := tabN_w l x (if keyed then names ++ [x.name] else []) a p (path ++ 47 :: (if keyed then endS (stepK l names x) else 35 :: Lib.decDigits (i + 1)));have h2 := tabL_w l xs names keyed (a + (tabN l (if keyed then names ++ [x.name] else []) a p (path ++ 47 :: (if keyed then endS (stepK l names x) else 35 :: Lib.decDigits (i + 1))) x).length) p path (i + 1);rw [wL];omega
end
theorem dec_len (n : Nat) (h : n <= 1000000000) : (Lib.decDigits n).length <= 21 := by
 have h1 := Lib.itoa_length_le (n : Int) (by omega) (by omega)
 have e : Lib.itoa (n : Int) = Lib.decDigits n := by
  unfold Lib.itoa;rw [if_neg (by omega)];rfl
 rwa [e] at h1
theorem nd_rows {X : Nat -> Prop} {w : World} {kd kd' : Int} {S1 S2 : ByteArray} {Aa Ak : Option Addr} {la ca lk ck : Nat} {nm tx : Tx} {as_ : List At} {kz : List Nd} (h : NdI X w [.int .i64 kd, .string S1, .string S2, .slice Aa la ca, .slice Ak lk ck] (.mk kd' nm tx as_ kz)) :
  kd = kd' /\ S1 = strOf nm /\ S2 = strOf tx /\ Sq AtEl 2 w Aa la ca as_ /\ Sq (NdE X) 5 w Ak lk ck kz /\ (∀ a, Aa = some a -> 0 < la -> X a.block) /\ ∀ a, Ak = some a -> 0 < lk -> X a.block := by
 obtain ⟨A, ca', A2, c2', e, hA, hK, hXA, hXK⟩ := h.cells;simp only [List.cons.injEq, Value.int.injEq, Value.string.injEq, Value.slice.injEq, true_and, and_true] at e;obtain ⟨e1, e2, e3, ⟨e4, e5, e6⟩, e7, e8, e9⟩ := e;subst e1 e2 e3 e4 e5 e6 e7 e8 e9;exact ⟨rfl, rfl, rfl, hA, hK, hXA, hXK⟩
theorem cells_of5 {w : World} {b E : Nat} {a0 a1 a2 a3 a4 : Value} (h : w.heap[b]? = some (.cells #[a0, a1, a2, a3, a4] E)) : w.cell? ⟨b, 0, none⟩ = some a0 /\ w.cell? ⟨b, 1, none⟩ = some a1 /\ w.cell? ⟨b, 2, none⟩ = some a2 /\ w.cell? ⟨b, 3, none⟩ = some a3 /\ w.cell? ⟨b, 4, none⟩ = some a4 :=
 ⟨Xp.cell_blk h (i := 0) rfl, Xp.cell_blk h (i := 1) rfl, Xp.cell_blk h (i := 2) rfl, Xp.cell_blk h (i := 3) rfl, Xp.cell_blk h (i := 4) rfl⟩
def ContV (ks : List Nd) : Prop := ∀ (B b : Nat) (rv v : Value) (out : List Q) (w : World) (A : Option Addr) (n c : Nat) (pa : Nat) (q : Q) (l : List Ky.Rl) (Al : Option Addr) (nl cl : Nat), Vb B b rv v out w -> VEnv B Al nl cl l w -> (∀ x, Below B w x -> Sq (NdE (fun j => j < B)) 5 x A n c ks) -> out[pa]? = some q -> 0 < pa -> (∀ x ∈ ks, fairN x = true) -> out.length + wL ks <= 8000000 -> q.path.length + 100 * wL ks <= 400000000000 →
 Calls Tryz.prog 60 #[.pointer (some ⟨b, 0, none⟩), .slice A n c, .int .i64 (pa : Nat)] w fun e w' => (∃ r, e = .returned r) /\ ∃ v', Vb B b rv v' (out ++ tabL l [] false out.length pa q.path 0 ks) w' /\ Bk B b v v' w w'
set_option maxHeartbeats 40000000 in
set_option maxRecDepth 100000 in
theorem vcont_any : ∀ (kk : Nat) (ks : List Nd), SizeOf.sizeOf ks <= kk -> ContV ks := by
 intro kk
 induction kk with
 | zero => intro ks hk; cases ks <;> simp at hk
 | succ kk ih =>
  intro ks hkk B b rv v out w A n c pa q l Al nl cl h hE hS hq hpa hf hN hph;have hS0 := hS w (Below.refl _ _);have hnl := hS0.len;have l1 := hS0.le;have l2 := hS0.max;have hnw : n <= 8000000 := by have := wL_len ks; omega
  have hSH : Hid (∀ x, Below B w x -> Sq (NdE (fun j => j < B)) 5 x A n c ks) := Hd hS;have hEH := Hd hE;have hnlH := Hd hnl;have hqH := Hd hq;have hfH := Hd hf;have hNH := Hd hN;have hphH := Hd hph;have ihH := Hd ih
  have hsz : Hid (∀ y ∈ ks, SizeOf.sizeOf y.kids <= kk) := Hd fun y hy => by
   have h2 := List.sizeOf_lt_of_mem hy
   cases y with
   | mk a b c d e =>
    rw [Nd.mk.sizeOf_spec] at h2
    show SizeOf.sizeOf e <= kk
    omega
  have hpal : Hid (pa < out.length) := Hd (List.getElem?_eq_some_iff.1 hq).1;have hst : Hid (∃ v', Vb B b rv v' (out ++ tabL l [] false out.length pa q.path 0 (ks.take 0)) w /\ Bk B b v v' w w) := Hd ⟨v, by rw [List.take_zero]; unfold tabL; rw [List.append_nil]; exact h, Bk.refl⟩;clear hS hS0 hE hq hf hN hph ih hkk h hnl
  go_enter Tryz.func60, Tryz.ntmps60
  go_wp2_with fail
  go_loopw [12] (fun vi wr => ∃ k : Nat, k <= n /\ vi = .int .i64 (k : Nat) /\ Hid (∃ v', Vb B b rv v' (out ++ tabL l [] false out.length pa q.path 0 (ks.take k)) wr /\ Bk B b v v' w wr)) (fun vi _ => n - (intOf vi).toNat)
  case atStart => exact ⟨0, by omega, rfl, hst⟩
  case round =>
   obtain ⟨k, hk, rfl, hin⟩ := hrel;clear hst;obtain ⟨v2, hv2, hk2⟩ := hin.out
   by_cases hlt : k < n
   ·have i1 : decide ((k : Int) < (n : Int)) = true := by rw [decide_eq_true_eq]; omega
    have i2 : decide (k < n) = true := by rw [decide_eq_true_eq]; omega
    have i3 : (k : Int) < (n : Int) := (by omega);obtain ⟨ba, off, y, ys, eA, hbl, hy, hys, hel, hcs⟩ := (hSH.out wr hk2.bel).at_ hlt;subst eA;obtain ⟨kd2, nm2, tx2, as2, kz2, ey⟩ : ∃ kd nm tx as_ kz, y = Nd.mk kd nm tx as_ kz := by cases y; exact ⟨_, _, _, _, _, rfl⟩
    have hel0 := Hd hel;rw [ey] at hel;obtain ⟨Aa2, ca2, Ak2, ck2, rfl, _⟩ := hel.cells;obtain ⟨la2, hla2⟩ : ∃ la, as2.length = la := ⟨_, rfl⟩;obtain ⟨lk2, hlk2⟩ : ∃ lk, kz2.length = lk := ⟨_, rfl⟩;obtain ⟨U1, hU1⟩ : ∃ S, strOf nm2 = S := ⟨_, rfl⟩;obtain ⟨U2, hU2⟩ : ∃ S, strOf tx2 = S := ⟨_, rfl⟩;rw [hla2, hlk2, hU1, hU2] at hel0;have m0 : wr.cell? ⟨ba, off + k * 5, none⟩ = some (.int .i64 kd2) := hcs 0 _ rfl;have m1 : wr.cell? ⟨ba, off + k * 5 + 1, none⟩ = some (.string U1) := by rw [<- hU1]; exact hcs 1 _ rfl
    have m2 : wr.cell? ⟨ba, off + k * 5 + 2, none⟩ = some (.string U2) := by rw [<- hU2]; exact hcs 2 _ rfl
    have m3 : wr.cell? ⟨ba, off + k * 5 + 3, none⟩ = some (.slice Aa2 la2 ca2) := by rw [<- hla2]; exact hcs 3 _ rfl
    have m4 : wr.cell? ⟨ba, off + k * 5 + 4, none⟩ = some (.slice Ak2 lk2 ck2) := by rw [<- hlk2]; exact hcs 4 _ rfl
    have hy' := Hd hy;have eyH := Hd ey;have hU1H := Hd hU1;have hU2H := Hd hU2;clear hcs hys hel hy hbl hU1 hU2 hla2 hlk2 ey;obtain ⟨J, hJ⟩ : ∃ J, wr.heap.size = J := ⟨_, rfl⟩;obtain ⟨w3, hw3⟩ : ∃ w3, wr.alloc (.cells #[.int .i64 kd2, .string U1, .string U2, .slice Aa2 la2 ca2, .slice Ak2 lk2 ck2] 26) = w3 := ⟨_, rfl⟩;have hb3 : Below wr.heap.size wr w3 := by rw [<- hw3]; exact (Below.refl _ _).alloc (Nat.le_refl _) _
    have hk3 : w3.heap[J]? = some (.cells #[.int .i64 kd2, .string U1, .string U2, .slice Aa2 la2 ca2, .slice Ak2 lk2 ck2] 26) := by rw [<- hw3, <- hJ]; exact heap_alloc_new wr _
    have n0 := Xp.cell_blk hk3 (i := 0) rfl;have n1 := Xp.cell_blk hk3 (i := 1) rfl;have n2 := Xp.cell_blk hk3 (i := 2) rfl;have n3 := Xp.cell_blk hk3 (i := 3) rfl;have n4 := Xp.cell_blk hk3 (i := 4) rfl;have hv3 := Hd (hv2.below hb3);have hbk3 := Hd (hk2.trans (Bk.of_below hb3 (hv2.leB)));obtain ⟨o2, ho2⟩ : ∃ o2, out ++ tabL l [] false out.length pa q.path 0 (ks.take k) = o2 := ⟨_, rfl⟩;have ho2H := Hd ho2;rw [ho2] at hv3;have hJa : Hid (Apart b v2 w3 J) := Hd (hv2.own_apart (by omega) (Array.getElem?_eq_some_iff.1 hk3).1);have hk3H := Hd hk3;have hym := List.mem_of_getElem? hy'.out;have hfy := hfH.out y hym;have hwy : wN y <= wL ks := wL_mem hym
    have hlen2 : Hid (o2.length + wN y <= 8000000) := Hd (by
     rw [<- ho2, List.length_append];have h1 := tabL_w l (ks.take k) [] false out.length pa q.path 0
     have h2 : wL (ks.take k) + wN y <= wL ks := by
      have h3 := wL_take ks (k + 1);rw [take_snoc hy'.out, wL_append] at h3;simp only [wL] at h3;omega
     have := hNH.out
     omega)
    have hrow2 : Hid (o2[pa]? = some q) := Hd (by rw [<- ho2]; exact app_at hqH.out);have hdl := dec_len (k + 1) (by omega);have hph2 : Hid (q.path.length + 100 * wN y <= 400000000000) := Hd (by have := hphH.out; omega);have hE3 := (hEH.out w3 hbk3.out.bel).1;have hit := Nu.strconv_Itoa ((k + 1 : Nat) : Int) (by omega) (by omega) w3 hE3
    have e5 : Lib.itoa ((k + 1 : Nat) : Int) = Lib.decDigits (k + 1) := by
     unfold Lib.itoa;rw [if_neg (by omega)];rfl
    rw [e5, show (((k + 1 : Nat)) : Int) = (k : Int) + 1 by omega] at hit;have hitH := Hd hit;have a1 := fun w => add_txt w [35] (Lib.decDigits (k + 1)) (by simp; omega)
    rw [show strOf [35] = (⟨#[35]⟩ : ByteArray) from rfl] at a1;obtain ⟨P2, hP2⟩ : ∃ P2, q.path ++ 47 :: ([35] ++ Lib.decDigits (k + 1)) = P2 := ⟨_, rfl⟩;have hP2l : Hid (P2.length <= q.path.length + 23) := Hd (by rw [<- hP2]; simp; omega)
    have hbelc : Hid (∀ x vx, Vb B b rv vx o2 x -> Calls Tryz.prog 57 #[.pointer (some ⟨b, 0, none⟩), .int .i64 (pa : Nat), .string (strOf ([35] ++ Lib.decDigits (k + 1)))] x fun e w' => e = .returned (.string (strOf P2)) /\ w' = x) := Hd fun x vx hx => by
     have h1 := vbelow_any B b rv vx o2 x pa q ([35] ++ Lib.decDigits (k + 1)) hx hrow2.out (by have := hph2.out; simp; omega);rw [if_neg (by omega), hP2] at h1;exact h1
    have hsnoc : Hid (out ++ tabL l [] false out.length pa q.path 0 (ks.take (k + 1)) = o2 ++ tabN l [] o2.length pa P2 y) := Hd (by
     rw [take_snoc hy'.out, tabL_snoc, <- List.append_assoc, ho2];have h9 : (ks.take k).length = k := by rw [List.length_take, hnlH.out]; omega
     have h10 : out.length + (tabL l [] false out.length pa q.path 0 (ks.take k)).length = o2.length := (by rw [<- ho2, List.length_append]);rw [h9, h10, <- hP2]
     simp)
    obtain ⟨NS, hNS⟩ : ∃ S, strOf ([35] ++ Lib.decDigits (k + 1)) = S := ⟨_, rfl⟩;obtain ⟨DS, hDS⟩ : ∃ S, strOf (Lib.decDigits (k + 1)) = S := ⟨_, rfl⟩;obtain ⟨PS, hPS⟩ : ∃ S, strOf P2 = S := ⟨_, rfl⟩;rw [hNS, hPS] at hbelc;rw [hDS] at hitH;rw [hDS, hNS] at a1;have hPSH := Hd hPS;have hwyH := Hd hwy;have hfyH := Hd hfy;have hymH := Hd hym;have hwb : Hid (b < wr.heap.size) := Hd hv2.lt;have hbr3 : Hid (Below B wr w3) := Hd (hb3.mono (hv2.leB));clear hit e5 hE3 hin hv2 hk2 hb3 hk3 ho2 hNS hDS hPS hP2 hdl hwy hfy hym;have hyx : Hid (∀ x, Below B wr x -> NdI (fun j => j < B) x [.int .i64 kd2, .string U1, .string U2, .slice Aa2 la2 ca2, .slice Ak2 lk2 ck2] y) := Hd fun x hx => hel0.out.stay fun j hj => ⟨hj, hx.block j hj⟩
    clear hel0;go_wp2_with fail;clear hw3 hJ;refine hitH.out.mono ?_;rintro e w4 ⟨rfl, hb4⟩;have hv4 := Hd (hv3.out.below hb4);have hbk4 := Hd (hbk3.out.trans (Bk.of_below hb4 (hv3.out.leB)));have hk4 := Hd ((hb4.block J hJa.out.1).trans hk3H.out);have hJ4 := Hd ((Bk.of_below (b := b) (v := v2) hb4 (hv3.out.leB)).apart hJa.out).1;have hb45 : Hid (Below B w3 w4) := Hd (hb4.mono (hv3.out.leB));clear hb4 n0 n1 n2 n3 n4;go_wp2_with fail;refine (hbelc.out w4 v2 hv4.out).mono ?_;rintro e w5 ⟨rfl, rfl⟩;have hbwr : Hid (Below B wr w5) := Hd (hbr3.out.trans hb45.out);obtain ⟨n0, n1, n2, n3, n4⟩ := cells_of5 hk4.out
    by_cases hkd : kd2 = 1
    ·subst hkd;have hfe := fair_el (k := 1) (nm := nm2) (tx := tx2) (as_ := as2) (ks := kz2) (by rw [<- eyH.out]; exact hfyH.out) rfl;have htx := hfe.2.1
     have hla2 : as2.length = la2 := by
      have h1 := hyx.out w5 hbwr.out;rw [eyH.out] at h1;exact (nd_rows h1).2.2.2.1.len
     have hwyl : 1 + nm2.length + wA as2 + wL kz2 <= wN y := by rw [eyH.out, wN]; omega
     have hwal := Xp.wA_len as2
     have hel := velem_any B b rv v2 o2 w5 nm2 as2 Aa2 la2 ca2 (pa : Nat) P2 hv4.out (fun x hx => by
      have h1 := hyx.out x (hbwr.out.trans hx);rw [eyH.out] at h1
      exact (nd_rows h1).2.2.2.1) (by have := (List.getElem?_eq_some_iff.1 hrow2.out).1; omega) (by have := hlen2.out; omega) (by have := hph2.out; have := hP2l.out; omega)
     rw [hU1H.out, hPSH.out] at hel;have helH := Hd hel;clear hel hfe;go_wp2_with fail;refine helH.out.mono ?_;rintro e w6 ⟨rfl, v6, hv6, hk6⟩;obtain ⟨hJ6, hJ6e⟩ := hk6.apart hJ4.out;have hk6J := hJ6e.trans hk4.out;clear n0 n1 n2 n3 n4 helH;obtain ⟨n0, n1, n2, n3, n4⟩ := cells_of5 hk6J;have hb6 := hbwr.out.trans hk6.bel
     have hrow6 : (o2 ++ (⟨1, nm2, [], (pa : Nat), o2.length + 1, P2⟩ : Q) :: attrRows o2.length P2 (o2.length + 1) as2)[o2.length]? = some ⟨1, nm2, [], (pa : Nat), o2.length + 1, P2⟩ := by
      rw [List.getElem?_append_right (Nat.le_refl _), Nat.sub_self];rfl
     have hlen6 : (o2 ++ (⟨1, nm2, [], (pa : Nat), o2.length + 1, P2⟩ : Q) :: attrRows o2.length P2 (o2.length + 1) as2).length = o2.length + 1 + as2.length := by
      rw [List.length_append, List.length_cons, attrRows_len];omega
     have hc := ihH.out kz2 (by have h1 := hsz.out y hymH.out; rw [eyH.out] at h1; exact h1) B b rv v6 _ w6 Ak2 lk2 ck2 o2.length _ l Al nl cl hv6 (hEH.out.later ((hbk4.out.bel).trans hk6.bel)) (fun x hx => by
      have h1 := hyx.out x (hb6.trans hx);rw [eyH.out] at h1
      exact (nd_rows h1).2.2.2.2.1) hrow6 (by have := (List.getElem?_eq_some_iff.1 hrow2.out).1; omega) (fun x hx => by
      have h1 := fairL_all (fair_el (k := 1) (nm := nm2) (tx := tx2) (as_ := as2) (ks := kz2) (by rw [<- eyH.out]; exact hfyH.out) rfl).2.2.2
      exact h1 x hx) (by rw [hlen6]; have := hlen2.out; omega) (by
      show P2.length + 100 * wL kz2 <= _
      have := hph2.out; have := hP2l.out; omega)
     rw [hlen6] at hc;have hcH := Hd hc;have hk6H := Hd hk6;have hk6JH := Hd hk6J;have hJ6H := Hd hJ6;have htxH := Hd htx;have hwylH := Hd hwyl;clear hc hv6 hk6 hJ6 hJ6e hk6J hb6 hrow6 hlen6 hwyl htx hwal;go_wp2_with fail;refine hcH.out.mono ?_;rintro e w7 ⟨⟨r7, rfl⟩, v7, hv7, hk7⟩
     have hlen7 : ((o2 ++ (⟨1, nm2, [], (pa : Nat), o2.length + 1, P2⟩ : Q) :: attrRows o2.length P2 (o2.length + 1) as2) ++ tabL l [] false (o2.length + 1 + as2.length) o2.length P2 0 kz2).length <= 8000000 := by
      simp only [List.length_append, List.length_cons, attrRows_len];have h1 := tabL_w l kz2 [] false (o2.length + 1 + as2.length) o2.length P2 0;have h2 := Xp.wA_len as2;have := hlen2.out;have := hwylH.out;omega
     have hrow7 : ((o2 ++ (⟨1, nm2, [], (pa : Nat), o2.length + 1, P2⟩ : Q) :: attrRows o2.length P2 (o2.length + 1) as2) ++ tabL l [] false (o2.length + 1 + as2.length) o2.length P2 0 kz2)[o2.length]? = some ⟨1, nm2, [], (pa : Nat), o2.length + 1, P2⟩ := by
      rw [List.append_assoc, List.getElem?_append_right (Nat.le_refl _), Nat.sub_self];rfl
     have hsh := vshut_any B b rv v7 _ w7 o2.length _ hv7 (by omega) hrow7;have etab := tab_shut l [] o2 (pa : Nat) P2 nm2 as2 kz2 _ pa rfl rfl;have hshH := Hd hsh;have hk7H := Hd hk7
     have hetab : Hid (((o2 ++ (⟨1, nm2, [], (pa : Nat), o2.length + 1, P2⟩ : Q) :: attrRows o2.length P2 (o2.length + 1) as2) ++ tabL l [] false (o2.length + 1 + as2.length) o2.length P2 0 kz2).set o2.length ⟨1, nm2, [], (pa : Nat), ((o2 ++ (⟨1, nm2, [], (pa : Nat), o2.length + 1, P2⟩ : Q) :: attrRows o2.length P2 (o2.length + 1) as2) ++ tabL l [] false (o2.length + 1 + as2.length) o2.length P2 0 kz2).length, P2⟩ = out ++ tabL l [] false out.length pa q.path 0 (ks.take (k + 1))) := Hd (by
      rw [hsnoc.out, eyH.out, htxH.out, List.append_assoc, List.cons_append]
      exact etab)
     clear hsh hv7 hk7 hlen7 hrow7 etab n0 n1 n2 n3 n4 hcH;go_wp2_with fail;refine hshH.out.mono ?_;rintro e w8 ⟨⟨r8, rfl⟩, hv8, hk8⟩;have hrel2 : Hid (∃ v', Vb B b rv v' (out ++ tabL l [] false out.length pa q.path 0 (ks.take (k + 1))) w8 /\ Bk B b v v' w w8) := Hd ⟨v7, by rw [<- hetab.out]; exact hv8, ((hbk4.out.trans hk6H.out).trans hk7H.out).trans hk8⟩;clear hv8 hk8;go_wp2_with fail;go_roundw
     case rel => exact ⟨k + 1, by omega, by go_num, hrel2⟩
     case measure => simp [intOf]; omega
    ·have hlf := fair_leaf (k := kd2) (nm := nm2) (tx := tx2) (as_ := as2) (ks := kz2) (by rw [<- eyH.out]; exact hfyH.out) hkd;have hput := vput_any B b rv v2 o2 w5 kd2 nm2 tx2 (pa : Nat) 0 P2 hv4.out (by have := hlen2.out; omega);rw [hU1H.out, hU2H.out, hPSH.out] at hput;have hputH := Hd hput;have hrw : Hid (o2 ++ [(⟨kd2, nm2, tx2, (pa : Nat), o2.length + 1, P2⟩ : Q)] = out ++ tabL l [] false out.length pa q.path 0 (ks.take (k + 1))) := Hd (by rw [hsnoc.out, eyH.out, hlf.1, hlf.2, tab_leaf]);have e6 : (kd2 != 1) = true := (by simpa using hkd);clear hlf hput hkd;go_wp2_with fail;refine hputH.out.mono ?_;rintro e w6 ⟨rfl, v6, hv6, hk6⟩;have hrel2 : Hid (∃ v', Vb B b rv v' (out ++ tabL l [] false out.length pa q.path 0 (ks.take (k + 1))) w6 /\ Bk B b v v' w w6) := Hd ⟨v6, by rw [<- hrw.out]; exact hv6, hbk4.out.trans hk6⟩;clear hv6 hk6 n0 n1 n2 n3 n4;go_wp2_with fail;go_roundw
     case rel => exact ⟨k + 1, by omega, by go_num, hrel2⟩
     case measure => simp [intOf]; omega
   ·have i1 : decide ((k : Int) < (n : Int)) = false := by rw [decide_eq_false_iff_not]; omega
    have i2 : decide (k < n) = false := by rw [decide_eq_false_iff_not]; omega
    have e1 : k = n := (by omega);subst e1
    have hfin : Hid (∃ v', Vb B b rv v' (out ++ tabL l [] false out.length pa q.path 0 ks) wr /\ Bk B b v v' w wr) := Hd (by
     rw [List.take_of_length_le (by rw [hnlH.out]; exact Nat.le_refl _)] at hv2
     exact ⟨v2, hv2, hk2⟩)
    clear hv2 hk2 hin;go_wp2_with fail
    go_end0
    exact ⟨⟨_, rfl⟩, hfin.out⟩
end Go.Proofs.YtdnfnkicmfkkmaaGreatDoor.Vw
end

section
namespace Go.Proofs.YtdnfnkicmfkkmaaGreatDoor.No
open Go.RowKit UtfW Xl Xt Xo
open Go.Proofs.YtdnfnkicmfkkmaaGreatDoor.Ky (Ts OwX tv Rs Rl)
theorem Pn.start {T B0 D : Nat} {nc : Array Value} {S1 : ByteArray} {Aa : Option Addr} {la ca : Nat} {al : List At} {x : World} (h1 : x.heap[T]? = some (.cells nc 26))
  (h2 : x.heap[T + 1]? = some (.cells #[.int .i64 0, .string ⟨#[]⟩, .string ⟨#[]⟩, .slice none 0 0, .slice none 0 0] 26)) (h3 : x.heap[D]? = some (.cells #[.int .i64 1, .string S1, .string ⟨#[]⟩, .slice Aa la ca, .slice none 0 0] 26))
  (h4 : OwS AtEl 2 x (T + 2) 68 (.slice Aa la ca) al) (h5 : (Value.slice Aa la ca).ownBlock ≠ some D) (h6 : B0 <= T) (h7 : T + 2 <= D) : Pn T B0 x.heap.size D nc S1 Aa la ca al x none 0 0 [] none 0 0 [] :=
 ⟨h1, h2, h3, h4, ⟨h5, fun b hb => (h4.lt b hb).2⟩, OutG.nil (Nat.zero_le _) (Nat.le_refl _), OutG.nil (by have := (Array.getElem?_eq_some_iff.1 h1).1; omega) (Nat.le_refl _), ⟨h6, h7, (Array.getElem?_eq_some_iff.1 h3).1, Nat.le_refl _⟩⟩
def NormAt (B0 : Nat) (n : Nd) : Prop := ∀ (Al : Option Addr) (nl cl : Nat) (l : List Ky.Rl) (Ap : Option Addr) (np cp : Nat) (path : List Tx) (first : Nat) (vs : List Value) (w : World), B0 <= w.heap.size -> Rs w Al nl cl l -> Ts w Ap np cp path -> NdI (fun j => j < B0) w vs n -> RlOk l -> np + wN n <= 900000 -> first + wN n <= 1000000000 →
 Calls Tryz.prog 54 #[.slice Al nl cl, .agg vs.toArray, .slice Ap np cp, .int .i64 (first : Nat)] w fun e w' => NormP B0 w.heap.size (normN l path first n) e w' /\ Below w.heap.size w w'
set_option maxHeartbeats 40000000 in
set_option maxRecDepth 100000 in
theorem rNorm_any : ∀ (kk B0 : Nat) (n : Nd), SizeOf.sizeOf n <= kk -> wN n <= 100000 -> NormAt B0 n := by
  intro kk
  induction kk with
  | zero => intro B0 n hk; cases n; simp at hk
  | succ kk ih =>
    intro B0 n hkk hw Al nl cl l Ap np cp path first vs w hB0 hl hp hn hok hnp hfi;obtain ⟨RN, hRN⟩ : ∃ RN, normN l path first n = RN := ⟨_, rfl⟩;rw [hRN];obtain ⟨kd, nm, tx, as_, kz, rfl⟩ : ∃ kd nm tx as_ kz, n = Nd.mk kd nm tx as_ kz := by cases n; exact ⟨_, _, _, _, _, rfl⟩
    obtain ⟨Ai, ci, Ak, ck, rfl, hA, hK, hXA, hXK⟩ := hn.cells
    have hwy : Hid (∀ y ∈ kz, wN y + 1 <= wN (Nd.mk kd nm tx as_ kz) /\ SizeOf.sizeOf y <= kk) := Hd fun y hy => by
      have h1 := wL_mem hy;have h2 := List.sizeOf_lt_of_mem hy;rw [Nd.mk.sizeOf_spec] at hkk;rw [wN];exact ⟨by omega, by omega⟩
    have hwA : wA as_ + wL kz + 1 <= wN (Nd.mk kd nm tx as_ kz) := by rw [wN]; omega
    obtain ⟨WN, hWN⟩ : ∃ WN, wN (Nd.mk kd nm tx as_ kz) = WN := ⟨_, rfl⟩;rw [hWN] at hwy hwA hw hnp hfi;have hlkW : kz.length <= wL kz := wL_len kz;obtain ⟨li, hli⟩ : ∃ la, as_.length = la := ⟨_, rfl⟩;obtain ⟨lk, hlk⟩ : ∃ lk, kz.length = lk := ⟨_, rfl⟩;obtain ⟨S1, hS1⟩ : ∃ S, strOf nm = S := ⟨_, rfl⟩;obtain ⟨S2, hS2⟩ : ∃ S, strOf tx = S := ⟨_, rfl⟩;rw [hli, hlk, hS1, hS2];rw [hli] at hA;rw [hlk] at hK;have hlkw : lk <= 100000 := (by omega);obtain ⟨T, hT⟩ : ∃ T, w.heap.size = T := ⟨_, rfl⟩;obtain ⟨w1, hw1⟩ : ∃ w1, w.alloc (.cells #[.int .i64 kd, .string S1, .string S2, .slice Ai li ci, .slice Ak lk ck] 26) = w1 := ⟨_, rfl⟩;obtain ⟨w2, hw2⟩ : ∃ w2, w1.alloc (.cells #[.int .i64 0, .string ⟨#[]⟩, .string ⟨#[]⟩, .slice none 0 0, .slice none 0 0] 26) = w2 := ⟨_, rfl⟩;have hs1 : w1.heap.size = T + 1 := (by rw [<- hw1, World.size_alloc, hT]);have hs2 : w2.heap.size = T + 2 := (by rw [<- hw2, World.size_alloc, hs1]);have hb1 : Below w.heap.size w w1 := by rw [<- hw1]; exact (Below.refl _ _).alloc (Nat.le_refl _) _
    have hb2 : Below w1.heap.size w1 w2 := by rw [<- hw2]; exact (Below.refl _ _).alloc (Nat.le_refl _) _
    have hk1 : w1.heap[T]? = some (.cells #[.int .i64 kd, .string S1, .string S2, .slice Ai li ci, .slice Ak lk ck] 26) := by rw [<- hw1, <- hT]; exact heap_alloc_new w _
    have hk2 : w2.heap[T + 1]? = some (.cells #[.int .i64 0, .string ⟨#[]⟩, .string ⟨#[]⟩, .slice none 0 0, .slice none 0 0] 26) := by rw [<- hw2, <- hs1]; exact heap_alloc_new w1 _
    have hk1' := (hb2.block T (by omega)).trans hk1;have hbw : Below w.heap.size w w2 := hb1.trans (hb2.mono hb1.size)
    have hall : Hid (∀ x, Below w2.heap.size w2 x -> (x.cell? ⟨T, 0, none⟩ = some (.int .i64 kd) /\ x.cell? ⟨T, 1, none⟩ = some (.string S1) /\ x.cell? ⟨T, 3, none⟩ = some (.slice Ai li ci) /\ x.cell? ⟨T, 4, none⟩ = some (.slice Ak lk ck)) /\ x.heap[T]? = some (.cells #[.int .i64 kd, .string S1, .string S2, .slice Ai li ci, .slice Ak lk ck] 26) /\ x.heap[T + 1]? = some (.cells #[.int .i64 0, .string ⟨#[]⟩, .string ⟨#[]⟩, .slice none 0 0, .slice none 0 0] 26) /\ Rs x Al nl cl l /\ Ts x Ap np cp path /\ Sq (NdE (fun j => j < B0)) 5 x Ak lk ck kz /\ Sq AtEl 2 x Ai li ci as_) := Hd fun x hx => by
      have g1 := (hx.block T (by omega)).trans hk1';have hwx := hbw.trans (hx.mono hbw.size);exact ⟨⟨Xp.cell_blk g1 (i := 0) rfl, Xp.cell_blk g1 (i := 1) rfl, Xp.cell_blk g1 (i := 3) rfl, Xp.cell_blk g1 (i := 4) rfl⟩, g1, (hx.block (T + 1) (by omega)).trans hk2, hl.below hwx, hp.below hwx, Xp.sq_keep hK hwx fun vs y h => NdI.later h (fun j hj => Nat.lt_of_lt_of_le hj hB0) hwx, hA.below AtEl.to hwx⟩
    have hat : Hid (∀ x, Below w2.heap.size w2 x -> Calls Tryz.prog 91 #[.slice Ai li ci] x fun e w' => ∃ A' c', e = .returned (.slice A' li c') /\ OwS AtEl 2 w' x.heap.size 68 (.slice A' li c') (attrsN as_) /\ Below x.heap.size x w') := Hd fun x hx =>
      rAttrs_any Ai li ci as_ x (hall.out x hx).2.2.2.2.2.2 (by rw [<- hli]; exact Nat.le_trans (Xp.wA_len as_) (by omega)) (fun a ha => by have := Xp.wA_mem ha; omega)
    have hfront : Hid (∀ x, Below w2.heap.size w2 x -> Calls Tryz.prog 62 #[.slice Al nl cl, .slice Ap np cp] x fun e w' => e = .returned (.bool (Ky.frontB l path)) /\ ∃ q, w' = x.drewN q) := Hd fun x hx => Ky.refFront_any Al nl cl l Ap np cp path x (hall.out x hx).2.2.2.1 (hall.out x hx).2.2.2.2.1
    have hRN' := Hd hRN;have hS1' := Hd hS1;have hli' := Hd hli;have hlk' := Hd hlk;have hB0' : Hid (B0 <= T) := Hd (by omega);have hbw' := Hd hbw;have hok' := Hd hok;have hw' := Hd hw;have hnp' := Hd hnp;have hfi' := Hd hfi;have hwA' := Hd hwA;have ih' := Hd ih;have hTw := Hd hT;have hs2' := Hd hs2;have hll := Hd hl.len;have hpl := Hd hp.len;have hnl : nl <= 900000 := by rw [<- hll.out]; exact hok.1
    have hlle := hl.le;have hlm := hl.max;have hkle := hK.le;have hkm := hK.max;have hWNH := Hd hWN;have hat1 := Hd (hat.out w2.drew (Joins.below_draws w2.heap.size w2 1));have hat2 := Hd (hat.out (w2.drew.alloc (.cells #[.int .i64 0, .string ⟨#[]⟩, .string ⟨#[]⟩, .slice none 0 0, .slice none 0 0] 26)) ((show Below w2.heap.size w2 w2.drew from Joins.below_draws w2.heap.size w2 1).trans (below_alloc w2.drew _)));have u1 : w2.cell? ⟨T, 1, none⟩ = some (.string S1) := (hall.out w2 (Below.refl _ _)).1.2.1;have u3 : w2.cell? ⟨T, 3, none⟩ = some (.slice Ai li ci) := (hall.out w2 (Below.refl _ _)).1.2.2.1;clear hkk hw hB0 hl hp hn hok hnp hfi hRN hA hK hXA hXK hwA hlkW hli hlk hS1 hS2 hbw hk1 hk2 hk1' hb1 hb2 ih hat hWN hs2
    go_enter Tryz.func54, Tryz.ntmps54
    go_upto_region 2 with fail
    go_cut [11] (fun v wy => ∃ D : Nat, v = .pointer (some ⟨D, 0, none⟩) /\ Hid (∃ C Aa ca, Pn T B0 C D #[.int .i64 kd, .string S1, .string S2, .slice Ai li ci, .slice Ak lk ck] S1 Aa li ca (attrsN as_) wy none 0 0 [] none 0 0 []) /\ Hid (Below w2.heap.size w2 wy))
    case first =>
      go_wp2_with fail;clear hw1 hw2 hT hs1;refine Pl.wp_region_plan 7 (.take 0 (.take 1 (.take 2 (.take 3 (.two 4 (.take 5 (.run 6 .done)) 6 (.run 4 (.take 5 .done))))))) (fun x => x.cell? ⟨T, 1, none⟩ = some (.string S1) /\ x.cell? ⟨T, 3, none⟩ = some (.slice Ai li ci)) (by kernel_rfl) (by kernel_rfl) (by exact ⟨u1, u3⟩) ?_;simp only [Pl.fill, Al_4, Al_5, Al_6, Al_7]
      iterate 4
        first
        | (refine Pl.take_go ?_ (by rfl) (fun _ _ _ h => h) ?_ ?_
           rotate_left
           · (intro x hSw; (try (dsimp only at hSw)); go_simp; try with_reducible rfl)
           (try simp only [Act.put, Al_1, Al_2, Al_3]))
        | (refine Pl.take_skip (by rfl) (fun _ _ _ h => h) ?_
           (try simp only [Act.put, Al_1, Al_2, Al_3]))
      refine Pl.two_go ?_ ?_
      · refine Pl.run_go (fun K hK => ?_)
        go_simp;refine hat1.out.mono ?_;rintro e w3 ⟨Aa, ca, rfl, hoA, hbA⟩;have hb3 : Below w2.heap.size w2 w3 := (show Below w2.heap.size w2 w2.drew from Joins.below_draws w2.heap.size w2 1).trans hbA;obtain ⟨⟨v0, v1, v3, v4⟩, tb, rb, _⟩ := hall.out w3 hb3;have hbl := below_alloc w3 (.cells #[.int .i64 0, .string ⟨#[]⟩, .string ⟨#[]⟩, .slice none 0 0, .slice none 0 0] 26);have x1 := (hbl.cell (p := ⟨T, 1, none⟩) (Array.getElem?_eq_some_iff.1 tb).1).trans v1;have x3 := (hbl.cell (p := ⟨T, 3, none⟩) (Array.getElem?_eq_some_iff.1 tb).1).trans v3
        have hPn : Hid (Pn T B0 (w3.alloc (.cells #[.int .i64 1, .string S1, .string ⟨#[]⟩, .slice Aa li ca, .slice none 0 0] 26)).heap.size w3.heap.size #[.int .i64 kd, .string S1, .string S2, .slice Ai li ci, .slice Ak lk ck] S1 Aa li ca (attrsN as_) (w3.alloc (.cells #[.int .i64 1, .string S1, .string ⟨#[]⟩, .slice Aa li ca, .slice none 0 0] 26)) none 0 0 [] none 0 0 []) := Hd (by
          have hbl2 := below_alloc w3 (.cells #[.int .i64 1, .string S1, .string ⟨#[]⟩, .slice Aa li ca, .slice none 0 0] 26);refine Pn.start ((hbl2.block T (Array.getElem?_eq_some_iff.1 tb).1).trans tb) ((hbl2.block (T + 1) (Array.getElem?_eq_some_iff.1 rb).1).trans rb) (heap_alloc_new w3 _) ?_ (fun e => by have := (hoA.lt _ e).2; omega) hB0'.out (by rw [<- hs2'.out]; exact hb3.size);have := hoA.below hbl2 AtEl.to;rw [show w2.drew.heap.size = T + 2 from hs2'.out] at this
          exact this)
        have hB3 := Hd (hb3.trans ((below_alloc w3 (.cells #[.int .i64 1, .string S1, .string ⟨#[]⟩, .slice Aa li ca, .slice none 0 0] 26)).mono hb3.size));clear hbl hoA hbA hb3 tb rb v0 v4;dsimp only;refine hK.out _ _ (Pl.more_go _ (fun _ h => h) (by exact ⟨v1, v3⟩) ?_);clear hK K
        try simp only [Act.put, Al_1, Al_2, Al_3]
        iterate 1
          first
          | (refine Pl.take_go ?_ (by rfl) (fun _ _ _ h => h) ?_ ?_
             rotate_left
             · (intro x hSw; (try (dsimp only at hSw)); go_simp; try with_reducible rfl)
             (try simp only [Act.put, Al_1, Al_2, Al_3]))
          | (refine Pl.take_skip (by rfl) (fun _ _ _ h => h) ?_
             (try simp only [Act.put, Al_1, Al_2, Al_3]))
        refine Pl.run_go (fun K hK => ?_);go_simp;refine hK.out _ _ (Pl.more_go _ (fun _ h => h) (by exact ⟨x1, x3⟩) ?_);clear hK K
        try simp only [Act.put, Al_1, Al_2, Al_3]
        refine Pl.done_go ?_;go_wp2_with fail
        go_meet
        exact ⟨_, rfl, Hd ⟨_, _, _, hPn.out⟩, hB3⟩
      · refine Pl.run_go (fun K hK => ?_)
        go_simp;have hbl := (show Below w2.heap.size w2 w2.drew from Joins.below_draws w2.heap.size w2 1).trans (below_alloc w2.drew (.cells #[.int .i64 0, .string ⟨#[]⟩, .string ⟨#[]⟩, .slice none 0 0, .slice none 0 0] 26));obtain ⟨⟨v0, v1, v3, v4⟩, tb, rb, _⟩ := hall.out _ hbl;refine hK.out _ _ (Pl.more_go _ (fun _ h => h) (by exact ⟨v1, v3⟩) ?_);clear hK K
        try simp only [Act.put, Al_1, Al_2, Al_3]
        refine Pl.run_go (fun K hK => ?_);go_simp;refine hat2.out.mono ?_;rintro e w3 ⟨Aa, ca, rfl, hoA, hbA⟩;have hb3 : Below w2.heap.size w2 w3 := hbl.trans (hbA.mono hbl.size);have hD : w3.heap[w2.heap.size]? = some (.cells #[.int .i64 0, .string ⟨#[]⟩, .string ⟨#[]⟩, .slice none 0 0, .slice none 0 0] 26) := (hbA.block _ (by rw [World.size_alloc]; exact Nat.lt_succ_self _)).trans (heap_alloc_new w2.drew _);obtain ⟨⟨x0, x1, x3, x4⟩, tb, rb, _⟩ := hall.out w3 hb3;refine hK.out _ _ (Pl.more_go _ (fun _ h => h) (by exact ⟨x1, x3⟩) ?_);clear hK K
        try simp only [Act.put, Al_1, Al_2, Al_3]
        iterate 1
          first
          | (refine Pl.take_go ?_ (by rfl) (fun _ _ _ h => h) ?_ ?_
             rotate_left
             · (intro x hSw; (try (dsimp only at hSw)); go_simp; try with_reducible rfl)
             (try simp only [Act.put, Al_1, Al_2, Al_3]))
          | (refine Pl.take_skip (by rfl) (fun _ _ _ h => h) ?_
             (try simp only [Act.put, Al_1, Al_2, Al_3]))
        refine Pl.done_go ?_;have z0 := Xp.cell_blk hD (i := 0) rfl;have z1 := Xp.cell_blk hD (i := 1) rfl;have z2 := Xp.cell_blk hD (i := 2) rfl;have z3 := Xp.cell_blk hD (i := 3) rfl;have z4 := Xp.cell_blk hD (i := 4) rfl;have zf := fun i => frozen_of_row w3 w2.heap.size i _ _ hD
        have hne : ∀ j, (Value.slice Aa li ca).ownBlock = some j -> w2.heap.size < j := fun j hj => by have := (hoA.lt j hj).1; rw [World.size_alloc] at this; exact this
        obtain ⟨g1, g2, g3⟩ := set5 hD (.int .i64 1) (.string S1) (.string ⟨#[]⟩) (.slice Aa li ca) (.slice none 0 0)
        have hPn : Hid (Pn T B0 (World.setCell (World.setCell (World.setCell (World.setCell (World.setCell w3 ⟨w2.heap.size, 0, none⟩ (.int .i64 1)) ⟨w2.heap.size, 1, none⟩ (.string S1)) ⟨w2.heap.size, 2, none⟩ (.string ⟨#[]⟩)) ⟨w2.heap.size, 3, none⟩ (.slice Aa li ca)) ⟨w2.heap.size, 4, none⟩ (.slice none 0 0)).heap.size w2.heap.size #[.int .i64 kd, .string S1, .string S2, .slice Ai li ci, .slice Ak lk ck] S1 Aa li ca (attrsN as_) (World.setCell (World.setCell (World.setCell (World.setCell (World.setCell w3 ⟨w2.heap.size, 0, none⟩ (.int .i64 1)) ⟨w2.heap.size, 1, none⟩ (.string S1)) ⟨w2.heap.size, 2, none⟩ (.string ⟨#[]⟩)) ⟨w2.heap.size, 3, none⟩ (.slice Aa li ca)) ⟨w2.heap.size, 4, none⟩ (.slice none 0 0)) none 0 0 [] none 0 0 []) := Hd (by
          have hs := hs2'.out;refine Pn.start ((g2 T (by omega)).trans tb) ((g2 (T + 1) (by omega)).trans rb) g1 ?_ (fun e => by have := hne _ e; omega) hB0'.out (by omega);refine (Xt.OwS.stay hoA (fun k hk => g2 k (by have := hne k hk; omega)) AtEl.to).down ?_;rw [World.size_alloc]
          show T + 2 <= w2.heap.size + 1
          omega)
        have hB3 := Hd (Below.set5 hb3 (Nat.le_refl w2.heap.size) (.int .i64 1) (.string S1) (.string ⟨#[]⟩) (.slice Aa li ca) (.slice none 0 0));clear hbl hoA hbA hb3 tb rb v0 v1 v3 v4 x0 x1 x3 x4 g1 g2 g3 hD hne;go_wp2_with fail
        go_meet
        exact ⟨_, rfl, Hd ⟨_, _, _, hPn.out⟩, hB3⟩
    case rest =>
      obtain ⟨D, rfl, hPn0, hbc⟩ := hcut;clear hat1 hat2 hw1 hw2 hT u1 u3 hs1;obtain ⟨C, Aa, ca, hPc⟩ := hPn0.out
      cases hfr : Ky.frontB l path with
      | true =>
        have hRk : Hid (RN = .ok (.mk 1 nm [] (attrsN as_) (contentL kz))) := Hd (by rw [<- hRN'.out]; exact normN_front hfr);have hPcH := Hd hPc;clear hPc hPn0;go_wp2_with fail;refine (hfront.out wc hbc.out).mono ?_;rintro e w4 ⟨rfl, q, hq⟩;rw [hfr];have hb4 : Below wc.heap.size wc w4 := by rw [hq]; exact Joins.below_draws _ _ _
        have hP4 := hPcH.out.below hb4;have hbw4 := hbc.out.trans (hb4.mono hbc.out.size);obtain ⟨⟨v0, v1, v3, v4⟩, tb, rb, hl4, hp4, hK4, hA4⟩ := hall.out w4 hbw4;have hct := Hd (rCont_any (SizeOf.sizeOf kz) B0 kz (Nat.le_refl _) (by have := hwA'.out; have := hw'.out; omega) Ak lk ck w4 (by have := hB0'.out; have := hbw4.size; have := hs2'.out; omega) hK4);have hP4H := Hd hP4;have hbw4H := Hd hbw4;clear hq hb4 hP4 hbw4 v0 v1 v3 tb rb hl4 hp4 hK4 hA4 hfr hPcH;go_wp2_with fail;refine hct.out.mono ?_;rintro e w5 ⟨A2, c2, rfl, hO5, hb5⟩;have hP5 := hP4H.out.below hb5;have hO5' : OutG NdE 5 26 B0 C w5 (.slice A2 lk c2) (contentL kz) := (outg_of_outr hO5).down elt_nd (by have := hP5.ord; omega) hP4H.out.ord.2.2.2;have hP6 := hP4H.out.put hb5 (Av' := none) (mv' := 0) (cv' := 0) (ss' := []) (OutG.nil (Nat.zero_le _) hP5.ord.2.2.2) hO5';obtain ⟨d0, d1, d2, d3, d4⟩ := hP5.cells;have zf := fun i => frozen_of_row w5 D i _ _ hP5.db
        have hbw5 := hbw4H.out.trans (hb5.mono hbw4H.out.size);have hbw6 : Below w2.heap.size w2 (w5.setCell ⟨D, 4, none⟩ (.slice A2 lk c2)) := hbw5.setCell (p := ⟨D, 4, none⟩) (by have := hP5.ord; have := hs2'.out; show w2.heap.size <= D; omega) _;obtain ⟨w6, hw6⟩ : ∃ w6, w5.setCell ⟨D, 4, none⟩ (.slice A2 lk c2) = w6 := ⟨_, rfl⟩;rw [hw6] at hP6 hbw6;obtain ⟨e0, e1, e2, e3, e4⟩ := hP6.cells;have y0 := Xp.cell_blk hP6.rb (i := 0) rfl;have y1 := Xp.cell_blk hP6.rb (i := 1) rfl;have y2 := Xp.cell_blk hP6.rb (i := 2) rfl;have y3 := Xp.cell_blk hP6.rb (i := 3) rfl;have y4 := Xp.cell_blk hP6.rb (i := 4) rfl;have zg := fun i => frozen_of_row w6 (T + 1) i _ _ hP6.rb
        obtain ⟨g1, g2, g3⟩ := set5 hP6.rb (.int .i64 1) (.string S1) (.string ⟨#[]⟩) (.slice Aa li ca) (.slice A2 lk c2);have hfin := Hd (hP6.fin hS1'.out (by rw [attrsN_len]; exact hli'.out) g2 g3);have hg1 := Hd g1;have hbF := Hd (Below.set5 (b := T + 1) (hbw'.out.trans (hbw6.mono hbw'.out.size)) (by have := hTw.out; omega) (.int .i64 1) (.string S1) (.string ⟨#[]⟩) (.slice Aa li ca) (.slice A2 lk c2));clear g1 g2 g3 hP6 hP5 hP4H hO5 hO5' hb5 hbw5 hbw6 hct hbc v4 d0 d1 d2 d3;go_wp2_with fail;exact bodyPost_ret (res_nd3 (x := .int .i64 0) (y := .int .i64 0) rfl hg1.out rfl rfl rfl) rfl ⟨by rw [hRk.out]; exact ⟨_, rfl, by rw [hTw.out]; exact hfin.out⟩, hbF.out⟩
      | false =>
        have hPcH := Hd hPc;obtain ⟨RL, hRL0⟩ : ∃ RL, normL l path first (first + 1) [] kz = RL := ⟨_, rfl⟩;have hErr : Hid (∀ c, RL = .error c -> RN = .error c) := Hd fun c hc => by rw [<- hRN'.out]; exact normN_err hfr (hRL0.trans hc)
        have hOkk : Hid (∀ out, RL = .ok out -> RN = .ok (.mk 1 nm [] (attrsN as_) (out.map (·.2)))) := Hd fun out hc => by rw [<- hRN'.out]; exact normN_okk hfr (hRL0.trans hc)
        have hRL0' := Hd hRL0;have hfi1 : first <= 1000000000 := by have := hfi'.out; omega
        have hfrH := Hd hfr;clear hPc hPn0 hRL0 hfr;go_wp2_with fail;refine (hfront.out wc hbc.out).mono ?_;rintro e w4 ⟨rfl, q, hq⟩;rw [hfrH.out];have hb4 : Below wc.heap.size wc w4 := by rw [hq]; exact Joins.below_draws _ _ _
        have hP4 := Hd (hPcH.out.below hb4);have hbw4 := Hd (hbc.out.trans (hb4.mono hbc.out.size));have hat0 : Hid (first + 1 + wL (kz.drop 0) <= 1000000000) := Hd (by rw [List.drop_zero]; have := hwA'.out; have := hfi'.out; omega);clear hq hb4;go_wp2_with fail
        go_loopw [12, 13, 14] (fun vs va vi wr => ∃ (k m at_ : Nat) (Av : Option Addr) (cv : Nat), k <= lk /\ m <= k /\ at_ <= 1000000000 /\ vi = .int .i64 k /\ va = .int .i64 at_ /\ vs = .slice Av m cv /\ Hid (∃ (out : List (Stp × Nd)) (Ao : Option Addr) (co : Nat), out.length = m /\ RL = normL l path first at_ out (kz.drop k) /\ (∀ o ∈ out, o.1.1.length <= 1000000 /\ ∀ x ∈ o.1.2, x.length <= 1000000) /\ Pn T B0 C D #[.int .i64 kd, .string S1, .string S2, .slice Ai li ci, .slice Ak lk ck] S1 Aa li ca (attrsN as_) wr Av m cv (out.map (·.1)) Ao m co (out.map (·.2))) /\ Hid (Below w2.heap.size w2 wr) /\ Hid (at_ + wL (kz.drop k) <= 1000000000)) (fun _ _ i _ => lk - (intOf i).toNat)
        case atStart => exact ⟨0, 0, first + 1, none, 0, by omega, by omega, by have := hat0.out; omega, rfl, by go_num, rfl, Hd ⟨[], none, 0, rfl, by rw [List.drop_zero]; exact hRL0'.out.symm, fun o ho => by simp at ho, hP4.out⟩, hbw4, hat0⟩
        case round =>
          obtain ⟨k, m, at_, Av, cv, hk, hmk, hatb, rfl, rfl, rfl, hin, hb, hatw⟩ := hrel;obtain ⟨wx, hwx⟩ : ∃ z, z = wr := ⟨_, rfl⟩;subst hwx;clear hP4 hbw4 hat0 hPcH hbc;obtain ⟨⟨t0, t1, t3, t4⟩, tb, rb, hlx, hpx, hKx, _⟩ := hall.out wx hb.out
          by_cases hlt : k < lk
          · have i1 : decide ((k : Int) < (lk : Int)) = true := by rw [decide_eq_true_eq]; omega
            have i2 : decide (k < lk) = true := by rw [decide_eq_true_eq]; omega
            have i3 : (k : Int) < (lk : Int) := (by omega);obtain ⟨b, off, y, ys, eA, hbl, hy, hys, hel, hcs⟩ := hKx.at_ hlt;subst eA;obtain ⟨kd2, nm2, tx2, as2, kz2, rfl⟩ : ∃ kd nm tx as_ kz, y = Nd.mk kd nm tx as_ kz := by cases y; exact ⟨_, _, _, _, _, rfl⟩
            have hel0 := Hd hel;obtain ⟨Aa2, ca2, Ak2, ck2, rfl, _⟩ := hel.cells;obtain ⟨la2, hla2⟩ : ∃ la, as2.length = la := ⟨_, rfl⟩;obtain ⟨lk2, hlk2⟩ : ∃ lk, kz2.length = lk := ⟨_, rfl⟩;obtain ⟨U1, hU1⟩ : ∃ S, strOf nm2 = S := ⟨_, rfl⟩;obtain ⟨U2, hU2⟩ : ∃ S, strOf tx2 = S := ⟨_, rfl⟩;rw [hla2, hlk2, hU1, hU2] at hel0;have m0 : wx.cell? ⟨b, off + k * 5, none⟩ = some (.int .i64 kd2) := hcs 0 _ rfl;have m1 : wx.cell? ⟨b, off + k * 5 + 1, none⟩ = some (.string U1) := by rw [<- hU1]; exact hcs 1 _ rfl
            have m2 : wx.cell? ⟨b, off + k * 5 + 2, none⟩ = some (.string U2) := by rw [<- hU2]; exact hcs 2 _ rfl
            have m3 : wx.cell? ⟨b, off + k * 5 + 3, none⟩ = some (.slice Aa2 la2 ca2) := by rw [<- hla2]; exact hcs 3 _ rfl
            have m4 : wx.cell? ⟨b, off + k * 5 + 4, none⟩ = some (.slice Ak2 lk2 ck2) := by rw [<- hlk2]; exact hcs 4 _ rfl
            have hy' := Hd hy;have hyw := Hd (hwy.out _ (List.mem_of_getElem? hy));have hU1H := Hd hU1;have hU2H := Hd hU2;obtain ⟨N, hN⟩ : ∃ N, wx.heap.size = N := ⟨_, rfl⟩;obtain ⟨wk, hwk⟩ : ∃ wk, wx.alloc (.cells #[.int .i64 kd2, .string U1, .string U2, .slice Aa2 la2 ca2, .slice Ak2 lk2 ck2] 26) = wk := ⟨_, rfl⟩;have hbk : Below wx.heap.size wx wk := by rw [<- hwk]; exact (Below.refl _ _).alloc (Nat.le_refl _) _
            have hsk : wk.heap.size = N + 1 := (by rw [<- hwk, World.size_alloc, hN]);have hnk : wk.heap[N]? = some (.cells #[.int .i64 kd2, .string U1, .string U2, .slice Aa2 la2 ca2, .slice Ak2 lk2 ck2] 26) := by rw [<- hwk, <- hN]; exact heap_alloc_new wx _
            have hB0x : B0 <= wx.heap.size := by have := hB0'.out; have := hb.out.size; have := hs2'.out; omega
            have hkid : Hid (∀ x, Below wk.heap.size wk x -> x.heap[N]? = some (.cells #[.int .i64 kd2, .string U1, .string U2, .slice Aa2 la2 ca2, .slice Ak2 lk2 ck2] 26) /\ NdI (fun j => j < B0) x [.int .i64 kd2, .string U1, .string U2, .slice Aa2 la2 ca2, .slice Ak2 lk2 ck2] (.mk kd2 nm2 tx2 as2 kz2)) := Hd fun x hx => by
              have hwx := hbk.trans (hx.mono hbk.size);exact ⟨(hx.block N (by omega)).trans hnk, hel0.out.later (fun j hj => Nat.lt_of_lt_of_le hj hB0x) hwx⟩
            obtain ⟨out, Ao, co, hml, hRL0, hsh, hPn⟩ := hin.out;have hRL := Hd hRL0;have hml' := Hd hml;have hsh' := Hd hsh;have hPk := Hd (hPn.below hbk);have hbwk := Hd (hb.out.trans (hbk.mono hb.out.size));have hskH := Hd hsk;have hNC : Hid (C <= N) := Hd (by rw [<- hN]; exact hPn.ord.2.2.2);have hNt : Hid (T + 2 <= N) := Hd (by have := hb.out.size; have := hs2'.out; omega);have n0 := Xp.cell_blk hnk (i := 0) rfl;have n1 := Xp.cell_blk hnk (i := 1) rfl;have n2 := Xp.cell_blk hnk (i := 2) rfl;have n3 := Xp.cell_blk hnk (i := 3) rfl;have n4 := Xp.cell_blk hnk (i := 4) rfl;clear hin hml hRL0 hsh hPn hcs hys hel hy hU1 hU2 hla2 hlk2 hKx hpx hlx tb rb t0 t1 t3 hbl hnk hbk hB0x hsk hel0
            by_cases h2 : kd2 = 2
            · subst h2
              have htr := rtrim_any tx2 (by rw [strOf_size']; have := hyw.out.1; have := hw'.out; rw [wN] at *; omega);rw [hU2H.out] at htr
              by_cases htx : Ky.trim tx2 = []
              · have hnx : Hid (RL = normL l path first at_ out (kz.drop (k + 1))) := Hd (by rw [hRL.out]; exact normL_skip hy'.out (fun _ => htx) (by show (2 : Int) ≠ 1; decide))
                have hat2 : Hid (at_ + wL (kz.drop (k + 1)) <= 1000000000) := Hd (by have := hatw.out; rw [drop_at hy'.out, wL] at this; omega);rw [htx] at htr;replace htr := Hd htr;have e3 : (strOf []).toList.isEmpty = true := by rw [strOf_empty]; rfl
                go_wp2_with fail;clear hwk hN;refine (htr.out _).mono ?_;rintro e w5 ⟨rfl, rfl⟩;go_wp2_with fail;go_roundw
                case rel => exact ⟨k + 1, m, at_, Av, cv, by omega, by omega, hatb, by go_num, rfl, rfl, Hd ⟨out, Ao, co, hml'.out, hnx.out, hsh'.out, hPk.out⟩, hbwk, hat2⟩
                case measure => simp [intOf]; omega
              · have e3 : (strOf (Ky.trim tx2)).toList.isEmpty = false := by
                  rw [strOf_empty]
                  cases htt : Ky.trim tx2 with
                  | nil => exact absurd htt htx
                  | cons c t => rfl
                replace htr := Hd htr;obtain ⟨S4, hS4⟩ : ∃ S, strOf (Ky.trim tx2) = S := ⟨_, rfl⟩;rw [hS4] at e3 htr;have hblank := Hd (normL_blank (l := l) (path := path) (first := first) (at_ := at_) (out := out) hy'.out rfl htx);clear hS4 htx;go_wp2_with fail;clear hwk hN;refine (htr.out _).mono ?_;rintro e w5 ⟨rfl, rfl⟩;have hPW := hPk.out;have hbW := hbwk.out;have hRk : Hid (RN = .error (24, first)) := Hd (hErr.out _ (by rw [hRL.out]; exact hblank.out));have hbF := Hd (hbw'.out.trans (hbW.mono hbw'.out.size));have hrb := hPW.rb;clear hbW hPW;obtain ⟨q0, q1, q2, q3, q4⟩ := nd_same hrb;have zf := fun i => frozen_of_row w5 (T + 1) i _ _ hrb
                have y0 := Xp.cell_blk hrb (i := 0) rfl;have y1 := Xp.cell_blk hrb (i := 1) rfl;have y2 := Xp.cell_blk hrb (i := 2) rfl;have y3 := Xp.cell_blk hrb (i := 3) rfl;have y4 := Xp.cell_blk hrb (i := 4) rfl;have hrbH := Hd hrb;clear hrb;go_wp2_with fail;exact bodyPost_ret (res_nd3 (x := .int .i64 24) (y := .int .i64 (first : Nat)) rfl hrbH.out rfl rfl rfl) rfl ⟨by rw [hRk.out]; exact ⟨by decide, rfl⟩, hbF.out⟩
            · by_cases h1 : kd2 = 1
              · subst h1
                clear h2;have e4 := n1;have hPkH := hPk;have hlx := Hd (hall.out wk hbwk.out).2.2.2.1;have hpx := Hd (hall.out wk hbwk.out).2.2.2.2.1;have hple := hpx.out.le;have hpm := hpx.out.max;have hNk : Hid (N < wk.heap.size) := Hd (by have := hskH.out; omega);have hcellsN : Hid (wk.cell? ⟨N, 0, none⟩ = some (.int .i64 1) /\ wk.cell? ⟨N, 1, none⟩ = some (.string U1) /\ wk.cell? ⟨N, 2, none⟩ = some (.string U2) /\ wk.cell? ⟨N, 3, none⟩ = some (.slice Aa2 la2 ca2) /\ wk.cell? ⟨N, 4, none⟩ = some (.slice Ak2 lk2 ck2)) := Hd ⟨n0, n1, n2, n3, n4⟩;have hn1p : 1 <= wN (Nd.mk 1 nm2 tx2 as2 kz2) := by simp only [wN]; omega
                have hnpn : np + 1 <= 900000 := by have := hnp'.out; have := hyw.out.1; omega
                clear hn1p;go_wp2_with fail;clear hwk hN;refine Pl.wp_region_plan 7 (.take 1 (.take 3 (.take 4 (.two 0 (.two 2 (.run 5 (.run 6 .done)) 5 (.run 2 (.run 6 .done))) 5 (.run 0 (.run 2 (.run 6 .done))))))) (fun x => x.cell? ⟨N, 1, none⟩ = some (.string U1)) (by kernel_rfl) (by kernel_rfl) (by exact n1) ?_;simp only [Pl.fill, Al_4, Al_5, Al_6, Al_7]
                iterate 3
                  first
                  | (refine Pl.take_go ?_ (by rfl) (fun _ _ _ h => h) ?_ ?_
                     rotate_left
                     · (intro x hSw; (try (dsimp only at hSw)); go_simp; try with_reducible rfl)
                     (try simp only [Act.put, Al_1, Al_2, Al_3]))
                  | (refine Pl.take_skip (by rfl) (fun _ _ _ h => h) ?_
                     (try simp only [Act.put, Al_1, Al_2, Al_3]))
                refine Pl.duo_go (El := TvEl) (k := 1) (z := .string ⟨#[]⟩) (by_ := 16) (T := wk.heap.size) (vs := [tv nm2]) (x0 := nm2) (la := path) (N1 := np + 1) (u := .string U1)
                  Tryz.underlying33 info_str rfl (by omega) (by omega) (fun _ _ _ _ _ h => h) (fun _ _ _ h u hu => by rw [show _ = [tv _] from h] at hu; rw [List.mem_singleton.1 hu]; rfl) ⟨rfl, rfl, rfl, rfl⟩ ⟨rfl, rfl, rfl, rfl⟩ rfl rfl rfl rfl ⟨slot_lt (n := 167) (by decide) rfl, slot_lt (n := 167) (by decide) rfl, slot_lt (n := 167) (by decide) rfl, slot_lt (n := 167) (by decide) rfl⟩ (by decide)
                  rfl (fun x hx => sq_of_ts (hpx.out.below (bdrew hx))) rfl (by rw [<- hU1H.out]; rfl) rfl (fun x _ => rfl) rfl (by omega) (by omega) (Nat.le_refl _) (fun x hx => ((bdrew hx).cell (p := ⟨N, 1, none⟩) hNk.out).trans e4) ?_
                intro u0 u4 u9 A9 c9 x9 ho hx;have hts : Hid (Ts x9 A9 (np + 1) c9 (path ++ [nm2])) := Hd (owx_of_ows ho).rd;have hbx := Hd (bdrew hx);have hlx9 := Hd (hlx.out.below hbx.out);clear ho hx n0 n1 n2 n3 n4 e4
                try simp only [Act.put, Al_1, Al_2, Al_3]
                go_wp2_with fail;refine (Ky.refFind_any Al nl cl l A9 (np + 1) c9 (path ++ [nm2]) x9 hlx9.out hts.out).mono ?_;rintro e w4 ⟨rfl, q, hq⟩;subst hq;have hb4 : Hid (Below wk.heap.size wk (x9.drewN q)) := Hd (hbx.out.trans ((Joins.below_draws _ _ _).mono hbx.out.size));have hts4 : Hid (Ts (x9.drewN q) A9 (np + 1) c9 (path ++ [nm2])) := Hd (hts.out.below (Joins.below_draws _ _ _));obtain ⟨w4, hw4⟩ : ∃ w4, x9.drewN q = w4 := ⟨_, rfl⟩;rw [hw4] at hb4 hts4 ⊢;clear hw4 hbx hlx9 hts;obtain ⟨z, hz⟩ : ∃ z, Ky.idxR l (path ++ [nm2]) = z := ⟨_, rfl⟩;rw [hz];have hbw4 := Hd (hbwk.out.trans (hb4.out.mono hbwk.out.size));rcases idx_rule (l := l) (p := path ++ [nm2]) with ⟨g1, g2⟩ | ⟨r, rl, g1, g2, g3⟩
                · have ez : z = -1 := by rw [<- hz]; exact g1
                  subst ez;have hno := Hd (normL_norule (l := l) (path := path) (first := first) (at_ := at_) (out := out) hy'.out rfl g2);have hPW := hPk.out.below hb4.out;have hbW := hbw4.out;clear hz g1 g2;have hRk : Hid (RN = .error (24, at_)) := Hd (hErr.out _ (by rw [hRL.out]; exact hno.out));have hbF := Hd (hbw'.out.trans (hbW.mono hbw'.out.size));have hrb := hPW.rb;clear hbW hPW;obtain ⟨q0, q1, q2, q3, q4⟩ := nd_same hrb;have zf := fun i => frozen_of_row w4 (T + 1) i _ _ hrb
                  have y0 := Xp.cell_blk hrb (i := 0) rfl;have y1 := Xp.cell_blk hrb (i := 1) rfl;have y2 := Xp.cell_blk hrb (i := 2) rfl;have y3 := Xp.cell_blk hrb (i := 3) rfl;have y4 := Xp.cell_blk hrb (i := 4) rfl;have hrbH := Hd hrb;clear hrb;go_wp2_with fail;exact bodyPost_ret (res_nd3 (x := .int .i64 24) (y := .int .i64 (at_ : Nat)) rfl hrbH.out rfl rfl rfl) rfl ⟨by rw [hRk.out]; exact ⟨by decide, rfl⟩, hbF.out⟩
                · have ez : z = (r : Int) := by rw [<- hz]; exact g1
                  subst ez;have hrl : r < nl := by have := (List.getElem?_eq_some_iff.1 g2).1; have := hll.out; omega
                  have hlx4 := hlx.out.below hb4.out;obtain ⟨bl, ol, rl', A1, n1, c1, A2, n2, c2, eAl, hbll, hrl2, t1, t2, k0, k1⟩ := Rs.at_ hlx4 hrl;have erl : rl' = rl := by rw [hrl2] at g2; injection g2
                  subst erl;subst eAl;have hrm := List.mem_of_getElem? g2;have hokr := Hd (hok'.out.2 rl' hrm);have h0r : (0 : Int) <= (r : Int) := (by omega);have hri : (r : Int) < (nl : Int) := (by omega);have f1 : decide ((r : Int) < 0) = false := by rw [decide_eq_false_iff_not]; omega
                  obtain ⟨hkb, hknd⟩ := hkid.out w4 hb4.out
                  have hcall := Hd (ih'.out B0 (.mk 1 nm2 tx2 as2 kz2) hyw.out.2 (by have := hyw.out.1; have := hw'.out; omega) _ nl cl l A9 (np + 1) c9 (path ++ [nm2]) at_ _ w4 (by have := hB0'.out; have := hbw4.out.size; have := hs2'.out; omega) hlx4 hts4.out hknd hok'.out
                    (by have := hnp'.out; have := hyw.out.1; omega) (by have h1 := hatw.out; rw [drop_at hy'.out, wL] at h1; omega))
                  have n0 := Xp.cell_blk hkb (i := 0) rfl;have n1' := Xp.cell_blk hkb (i := 1) rfl;have n2' := Xp.cell_blk hkb (i := 2) rfl;have n3 := Xp.cell_blk hkb (i := 3) rfl;have n4 := Xp.cell_blk hkb (i := 4) rfl;have ht2 := Hd t2;have hg3 := Hd g3;have hk01 := Hd (And.intro k0 k1);have hbllH := Hd hbll;clear hz g1 g2 g3 hrl2 t1 t2 hlx4 k0 k1 hbll hrm hkb hknd;go_wp2_with fail;refine hcall.out.mono ?_;rintro e w6 ⟨hnp6, hb6⟩;have hb46 := Hd (hb4.out.trans (hb6.mono hb4.out.size));have hb6H := Hd hb6;have hnpH := Hd hnp6;clear n0 n1' n2' n3 n4 hb6 hnp6 hcall
                  cases hRy : normN l (path ++ [nm2]) at_ (.mk 1 nm2 tx2 as2 kz2) with
                  | error c =>
                    obtain ⟨cd, p⟩ := c;have h6 := hnpH.out;rw [hRy] at h6;obtain ⟨hcd0, rfl⟩ := h6;have hcd := Hd hcd0;have hbad := Hd (normL_bad (l := l) (path := path) (first := first) (at_ := at_) (out := out) hy'.out rfl hg3.out hRy);have e7 : (cd != 0) = true := (by simpa using hcd0);have hbl := below_alloc w6 (.cells #[.int .i64 0, .string ⟨#[]⟩, .string ⟨#[]⟩, .slice none 0 0, .slice none 0 0] 26);have hbZ := hb46.out.trans (hbl.mono hb46.out.size);have hPW := hPk.out.below hbZ;have hbW := hbwk.out.trans (hbZ.mono hbwk.out.size);clear hRy hcd0 hbl hbZ;have hRk : Hid (RN = .error (cd, p)) := Hd (hErr.out _ (by rw [hRL.out]; exact hbad.out));have hbF := Hd (hbw'.out.trans (hbW.mono hbw'.out.size));have hrb := hPW.rb;clear hbW hPW;obtain ⟨q0, q1, q2, q3, q4⟩ := nd_same hrb;have zf := fun i => frozen_of_row (w6.alloc (.cells #[.int .i64 0, .string ⟨#[]⟩, .string ⟨#[]⟩, .slice none 0 0, .slice none 0 0] 26)) (T + 1) i _ _ hrb
                    have y0 := Xp.cell_blk hrb (i := 0) rfl;have y1 := Xp.cell_blk hrb (i := 1) rfl;have y2 := Xp.cell_blk hrb (i := 2) rfl;have y3 := Xp.cell_blk hrb (i := 3) rfl;have y4 := Xp.cell_blk hrb (i := 4) rfl;have hrbH := Hd hrb;clear hrb;go_wp2_with fail;exact bodyPost_ret (res_nd3 (x := .int .i64 cd) (y := .int .i64 (p : Nat)) rfl hrbH.out rfl rfl rfl) rfl ⟨by rw [hRk.out]; exact ⟨hcd.out, rfl⟩, hbF.out⟩
                  | ok kid =>
                    have h6 := hnpH.out;rw [hRy] at h6;obtain ⟨vs6, rfl, hkd6⟩ := h6;have hRyH := Hd hRy;have hwkid : Hid (wN kid <= 100000) := Hd (by have := normN_w l _ _ _ _ hRy; have := hyw.out.1; have := hw'.out; omega);obtain ⟨kd3, nm3, tx3, as3, kz3, ekid⟩ : ∃ kd nm tx as_ kz, kid = Nd.mk kd nm tx as_ kz := by cases kid; exact ⟨_, _, _, _, _, rfl⟩
                    have hkd6H := Hd hkd6;rw [ekid] at hkd6;obtain ⟨Aa3, ca3, Ak3, ck3, rfl, _⟩ := hkd6.cells;obtain ⟨la3, hla3⟩ : ∃ la, as3.length = la := ⟨_, rfl⟩;obtain ⟨lk3, hlk3⟩ : ∃ lk, kz3.length = lk := ⟨_, rfl⟩;obtain ⟨Y1, hY1⟩ : ∃ S, strOf nm3 = S := ⟨_, rfl⟩;obtain ⟨Y2, hY2⟩ : ∃ S, strOf tx3 = S := ⟨_, rfl⟩;rw [hla3, hlk3, hY1, hY2] at hkd6H;rw [hla3, hlk3, hY1, hY2];clear hkd6 ekid hla3 hlk3 hY1 hY2 hRy hnpH;obtain ⟨Y, hY⟩ : ∃ Y, w6.heap.size = Y := ⟨_, rfl⟩;obtain ⟨w7, hw7⟩ : ∃ w7, w6.alloc (.cells #[.int .i64 kd3, .string Y1, .string Y2, .slice Aa3 la3 ca3, .slice Ak3 lk3 ck3] 26) = w7 := ⟨_, rfl⟩;have hbl : Below w6.heap.size w6 w7 := by rw [<- hw7]; exact below_alloc w6 _
                    have hs7 : w7.heap.size = Y + 1 := (by rw [<- hw7, World.size_alloc, hY]);have hyb : w7.heap[Y]? = some (.cells #[.int .i64 kd3, .string Y1, .string Y2, .slice Aa3 la3 ca3, .slice Ak3 lk3 ck3] 26) := by rw [<- hw7, <- hY]; exact heap_alloc_new w6 _
                    have hbk7 := Hd (hb46.out.trans (hbl.mono hb46.out.size));have hb47 := hb6H.out.trans (hbl.mono hb6H.out.size);have v0 := Xp.cell_blk hyb (i := 0) rfl;have v1 := Xp.cell_blk hyb (i := 1) rfl;have v2 := Xp.cell_blk hyb (i := 2) rfl;have v3 := Xp.cell_blk hyb (i := 3) rfl;have v4 := Xp.cell_blk hyb (i := 4) rfl;have k0 := (hb47.cell (p := ⟨bl, ol + r * 2, none⟩) hbllH.out).trans hk01.out.1;have k1 := (hb47.cell (p := ⟨bl, ol + r * 2 + 1, none⟩) hbllH.out).trans hk01.out.2;have hbll7 : Hid (bl < w7.heap.size) := Hd (Nat.lt_of_lt_of_le hbllH.out hb47.size);have hY7 : Hid (Y < w7.heap.size) := Hd (by omega);have hYH := Hd hY;have hybH := Hd hyb
                    have hX7 : Hid (∀ j, (j < B0 \/ (w4.heap.size <= j /\ j < w6.heap.size)) -> j < w7.heap.size) := Hd fun j hj => by
                      have := hB0'.out; have := hbw4.out.size; have := hs2'.out; have := hb47.size
                      rcases hj with hj | hj <;> omega
                    have hkd7 : Hid (∀ x, Below w7.heap.size w7 x -> NdI (fun j => j < B0 \/ (w4.heap.size <= j /\ j < w6.heap.size)) x [.int .i64 kd3, .string Y1, .string Y2, .slice Aa3 la3 ca3, .slice Ak3 lk3 ck3] kid) := Hd fun x hx => by
                      have h1 := hkd6H.out.later (w' := w7) (fun j hj => by
                        have := hB0'.out; have := hbw4.out.size; have := hs2'.out; have := hb6H.out.size
                        rcases hj with hj | hj <;> omega) hbl
                      exact h1.later hX7.out hx
                    have hKey : Hid (∀ x, Below w7.heap.size w7 x -> Calls Tryz.prog 95 #[.agg #[.slice A1 n1 c1, .slice A2 n2 c2], .agg #[.int .i64 kd3, .string Y1, .string Y2, .slice Aa3 la3 ca3, .slice Ak3 lk3 ck3]] x fun e w' => KeyP x.heap.size 9 (keyR kid rl'.2) e w' /\ Below x.heap.size x w') := Hd fun x hx =>
                      rKey_any _ x A1 n1 c1 A2 n2 c2 rl'.2 [.int .i64 kd3, .string Y1, .string Y2, .slice Aa3 la3 ca3, .slice Ak3 lk3 ck3] kid (ht2.out.below (hb47.trans (hx.mono hb47.size))) (hkd7.out x hx) (fun j hj => Nat.lt_of_lt_of_le (hX7.out j hj) hx.size) (Nat.le_trans hwkid.out (by omega)) hokr.out.2.1 hokr.out.2.2
                    clear hbl hyb hb47 hs7
                    cases hkey : keyR kid rl'.2 with
                    | none =>
                      have hKeyS : Hid (∀ x, Below w7.heap.size w7 x -> Calls Tryz.prog 95 #[.agg #[.slice A1 n1 c1, .slice A2 n2 c2], .agg #[.int .i64 kd3, .string Y1, .string Y2, .slice Aa3 la3 ca3, .slice Ak3 lk3 ck3]] x fun e w' => e = .returned (.tuple #[.slice none 0 0, .bool false]) /\ Below x.heap.size x w') := Hd fun x hx => by
                        have h1 := hKey.out x hx;rw [hkey] at h1;exact h1
                      clear hKey;have hKey := hKeyS;clear hKeyS;have hnok := Hd (normL_nokey (l := l) (path := path) (first := first) (at_ := at_) (out := out) hy'.out rfl hg3.out hRyH.out hkey);clear hkey;have hvK := Hd (hKey.out w7.drew (Joins.below_draws w7.heap.size w7 1));go_wp2_with fail;refine Pl.wp_region_plan 10 (.take 0 (.take 1 (.take 2 (.take 3 (.take 4 (.run 5 (.take 6 (.take 7 (.take 8 (.take 9 .done)))))))))) (fun x => x.cell? ⟨bl, ol + r * 2, none⟩ = some (.slice A1 n1 c1) /\ x.cell? ⟨bl, ol + r * 2 + 1, none⟩ = some (.slice A2 n2 c2) /\ x.cell? ⟨Y, 0, none⟩ = some (.int .i64 kd3) /\ x.cell? ⟨Y, 1, none⟩ = some (.string Y1) /\ x.cell? ⟨Y, 2, none⟩ = some (.string Y2) /\ x.cell? ⟨Y, 3, none⟩ = some (.slice Aa3 la3 ca3) /\ x.cell? ⟨Y, 4, none⟩ = some (.slice Ak3 lk3 ck3)) (by kernel_rfl) (by kernel_rfl) (by exact ⟨k0, k1, v0, v1, v2, v3, v4⟩) ?_;simp only [Pl.fill, Al_4, Al_5, Al_6, Al_7]
                      iterate 5
                        first
                        | (refine Pl.take_go ?_ (by rfl) (fun _ _ _ h => h) ?_ ?_
                           rotate_left
                           · (intro x hSw; (try (dsimp only at hSw)); go_simp; try with_reducible rfl)
                           (try simp only [Act.put, Al_1, Al_2, Al_3]))
                        | (refine Pl.take_skip (by rfl) (fun _ _ _ h => h) ?_
                           (try simp only [Act.put, Al_1, Al_2, Al_3]))
                      refine Pl.run_go (fun K hK => ?_);go_simp;refine hvK.out.mono ?_;rintro e w8 ⟨rfl, hb8⟩;have hb8x : Below w7.heap.size w7 w8 := (show Below w7.heap.size w7 w7.drew from Joins.below_draws w7.heap.size w7 1).trans hb8;have s0 := (hb8x.cell (p := ⟨bl, ol + r * 2, none⟩) hbll7.out).trans k0;have s1 := (hb8x.cell (p := ⟨bl, ol + r * 2 + 1, none⟩) hbll7.out).trans k1;have p0 := (hb8x.cell (p := ⟨Y, 0, none⟩) hY7.out).trans v0;have p1 := (hb8x.cell (p := ⟨Y, 1, none⟩) hY7.out).trans v1;have p2 := (hb8x.cell (p := ⟨Y, 2, none⟩) hY7.out).trans v2;have p3 := (hb8x.cell (p := ⟨Y, 3, none⟩) hY7.out).trans v3;have p4 := (hb8x.cell (p := ⟨Y, 4, none⟩) hY7.out).trans v4;have hb8H := Hd hb8x;clear hb8 hb8x;dsimp only;refine hK.out _ _ (Pl.more_go _ (fun _ h => h) (by exact ⟨s0, s1, p0, p1, p2, p3, p4⟩) ?_);clear hK K
                      try simp only [Act.put, Al_1, Al_2, Al_3]
                      iterate 4
                        first
                        | (refine Pl.take_go ?_ (by rfl) (fun _ _ _ h => h) ?_ ?_
                           rotate_left
                           · (intro x hSw; (try (dsimp only at hSw)); go_simp; try with_reducible rfl)
                           (try simp only [Act.put, Al_1, Al_2, Al_3]))
                        | (refine Pl.take_skip (by rfl) (fun _ _ _ h => h) ?_
                           (try simp only [Act.put, Al_1, Al_2, Al_3]))
                      refine Pl.done_go ?_;clear k0 k1 v0 v1 v2 v3 v4 s0 s1 p0 p1 p2 p3 p4;clear hw7 hY;have hbk8 := hbk7.out.trans (hb8H.out.mono hbk7.out.size);have hPW := hPk.out.below hbk8;have hbW := hbwk.out.trans (hbk8.mono hbwk.out.size);clear hbk8;have hRk : Hid (RN = .error (22, at_)) := Hd (hErr.out _ (by rw [hRL.out]; exact hnok.out));have hbF := Hd (hbw'.out.trans (hbW.mono hbw'.out.size));have hrb := hPW.rb;clear hbW hPW;obtain ⟨q0, q1, q2, q3, q4⟩ := nd_same hrb;have zf := fun i => frozen_of_row w8 (T + 1) i _ _ hrb
                      have y0 := Xp.cell_blk hrb (i := 0) rfl;have y1 := Xp.cell_blk hrb (i := 1) rfl;have y2 := Xp.cell_blk hrb (i := 2) rfl;have y3 := Xp.cell_blk hrb (i := 3) rfl;have y4 := Xp.cell_blk hrb (i := 4) rfl;have hrbH := Hd hrb;clear hrb;go_wp2_with fail;exact bodyPost_ret (res_nd3 (x := .int .i64 22) (y := .int .i64 (at_ : Nat)) rfl hrbH.out rfl rfl rfl) rfl ⟨by rw [hRk.out]; exact ⟨by decide, rfl⟩, hbF.out⟩
                    | some key =>
                      obtain ⟨nk, hnk⟩ : ∃ nk, key.length = nk := ⟨_, rfl⟩
                      have hKeyS : Hid (∀ x, Below w7.heap.size w7 x -> Calls Tryz.prog 95 #[.agg #[.slice A1 n1 c1, .slice A2 n2 c2], .agg #[.int .i64 kd3, .string Y1, .string Y2, .slice Aa3 la3 ca3, .slice Ak3 lk3 ck3]] x fun e w' => (∃ A c, e = .returned (.tuple #[.slice A nk c, .bool true]) /\ OwX w' x.heap.size 9 (.slice A nk c) key) /\ Below x.heap.size x w') := Hd fun x hx => by
                        have h1 := hKey.out x hx;rw [hkey] at h1;subst hnk;exact h1
                      clear hKey;have hKey := hKeyS;have hnkH : Hid (key.length = nk) := Hd hnk;have hkeyH := Hd hkey;clear hkey hnk hKeyS;have hvK := Hd (hKey.out w7.drew (Joins.below_draws w7.heap.size w7 1));go_wp2_with fail;refine Pl.wp_region_plan 10 (.take 0 (.take 1 (.take 2 (.take 3 (.take 4 (.run 5 (.take 6 (.take 7 (.take 8 (.take 9 .done)))))))))) (fun x => x.cell? ⟨bl, ol + r * 2, none⟩ = some (.slice A1 n1 c1) /\ x.cell? ⟨bl, ol + r * 2 + 1, none⟩ = some (.slice A2 n2 c2) /\ x.cell? ⟨Y, 0, none⟩ = some (.int .i64 kd3) /\ x.cell? ⟨Y, 1, none⟩ = some (.string Y1) /\ x.cell? ⟨Y, 2, none⟩ = some (.string Y2) /\ x.cell? ⟨Y, 3, none⟩ = some (.slice Aa3 la3 ca3) /\ x.cell? ⟨Y, 4, none⟩ = some (.slice Ak3 lk3 ck3)) (by kernel_rfl) (by kernel_rfl) (by exact ⟨k0, k1, v0, v1, v2, v3, v4⟩) ?_;simp only [Pl.fill, Al_4, Al_5, Al_6, Al_7]
                      iterate 5
                        first
                        | (refine Pl.take_go ?_ (by rfl) (fun _ _ _ h => h) ?_ ?_
                           rotate_left
                           · (intro x hSw; (try (dsimp only at hSw)); go_simp; try with_reducible rfl)
                           (try simp only [Act.put, Al_1, Al_2, Al_3]))
                        | (refine Pl.take_skip (by rfl) (fun _ _ _ h => h) ?_
                           (try simp only [Act.put, Al_1, Al_2, Al_3]))
                      refine Pl.run_go (fun K hK => ?_);go_simp;refine hvK.out.mono ?_;rintro e w8 ⟨⟨A5, c5, rfl, ho5⟩, hb8⟩;have hb8x : Below w7.heap.size w7 w8 := (show Below w7.heap.size w7 w7.drew from Joins.below_draws w7.heap.size w7 1).trans hb8;have s0 := (hb8x.cell (p := ⟨bl, ol + r * 2, none⟩) hbll7.out).trans k0;have s1 := (hb8x.cell (p := ⟨bl, ol + r * 2 + 1, none⟩) hbll7.out).trans k1;have p0 := (hb8x.cell (p := ⟨Y, 0, none⟩) hY7.out).trans v0;have p1 := (hb8x.cell (p := ⟨Y, 1, none⟩) hY7.out).trans v1;have p2 := (hb8x.cell (p := ⟨Y, 2, none⟩) hY7.out).trans v2;have p3 := (hb8x.cell (p := ⟨Y, 3, none⟩) hY7.out).trans v3;have p4 := (hb8x.cell (p := ⟨Y, 4, none⟩) hY7.out).trans v4;have ho5K := Hd ho5;clear ho5;have hb8H := Hd hb8x;clear hb8 hb8x;dsimp only;refine hK.out _ _ (Pl.more_go _ (fun _ h => h) (by exact ⟨s0, s1, p0, p1, p2, p3, p4⟩) ?_);clear hK K
                      try simp only [Act.put, Al_1, Al_2, Al_3]
                      iterate 4
                        first
                        | (refine Pl.take_go ?_ (by rfl) (fun _ _ _ h => h) ?_ ?_
                           rotate_left
                           · (intro x hSw; (try (dsimp only at hSw)); go_simp; try with_reducible rfl)
                           (try simp only [Act.put, Al_1, Al_2, Al_3]))
                        | (refine Pl.take_skip (by rfl) (fun _ _ _ h => h) ?_
                           (try simp only [Act.put, Al_1, Al_2, Al_3]))
                      refine Pl.done_go ?_;clear k0 k1 v0 v1 v2 v3 v4 s0 s1 p0 p1 p2 p3 p4;clear hw7 hY;have nm8 := ((hbk7.out.trans (hb8H.out.mono hbk7.out.size)).cell (p := ⟨N, 1, none⟩) hNk.out).trans hcellsN.out.2.1;obtain ⟨Z, hZ⟩ : ∃ Z, w8.heap.size = Z := ⟨_, rfl⟩;obtain ⟨w9, hw9⟩ : ∃ w9, w8.alloc (.cells #[.string U1, .slice A5 nk c5] 100) = w9 := ⟨_, rfl⟩;have hbl9 : Below w8.heap.size w8 w9 := by rw [<- hw9]; exact below_alloc w8 _
                      have hs9 : w9.heap.size = Z + 1 := (by rw [<- hw9, World.size_alloc, hZ]);have hzb : w9.heap[Z]? = some (.cells #[.string U1, .slice A5 nk c5] 100) := by rw [<- hw9, <- hZ]; exact heap_alloc_new w8 _
                      have hb79 : Below w7.heap.size w7 w9 := hb8H.out.trans (hbl9.mono hb8H.out.size);have hbk9 := Hd (hbk7.out.trans (hb79.mono hbk7.out.size));have hbw9 := Hd (hbwk.out.trans (hbk9.out.mono hbwk.out.size));have hP9 := Hd (hPk.out.below hbk9.out);have hY9 : Hid (Y < w9.heap.size) := Hd (Nat.lt_of_lt_of_le hY7.out hb79.size)
                      have hall9 : Hid (∀ x, Below w9.heap.size w9 x -> (x.cell? ⟨Z, 0, none⟩ = some (.string U1) /\ x.cell? ⟨Z, 1, none⟩ = some (.slice A5 nk c5)) /\ Ts x A5 nk c5 key /\ (x.cell? ⟨Y, 0, none⟩ = some (.int .i64 kd3) /\ x.cell? ⟨Y, 1, none⟩ = some (.string Y1) /\ x.cell? ⟨Y, 2, none⟩ = some (.string Y2) /\ x.cell? ⟨Y, 3, none⟩ = some (.slice Aa3 la3 ca3) /\ x.cell? ⟨Y, 4, none⟩ = some (.slice Ak3 lk3 ck3)) /\ NdI (fun j => j < B0 \/ (w4.heap.size <= j /\ j < w6.heap.size)) x [.int .i64 kd3, .string Y1, .string Y2, .slice Aa3 la3 ca3, .slice Ak3 lk3 ck3] kid) := Hd fun x hx => by
                        have g1 := (hx.block Z (by omega)).trans hzb;have h7x := hb79.trans (hx.mono hb79.size);have g2 := (h7x.block Y hY7.out).trans hybH.out;exact ⟨⟨Xp.cell_blk g1 (i := 0) rfl, Xp.cell_blk g1 (i := 1) rfl⟩, (ho5K.out.rd.below (hbl9)).below hx, ⟨Xp.cell_blk g2 (i := 0) rfl, Xp.cell_blk g2 (i := 1) rfl, Xp.cell_blk g2 (i := 2) rfl, Xp.cell_blk g2 (i := 3) rfl, Xp.cell_blk g2 (i := 4) rfl⟩, hkd7.out x h7x⟩
                      have hAp : Hid (∀ a, A5 = some a -> 0 < nk -> w7.heap.size <= a.block /\ a.block < w9.heap.size) := Hd fun a ea hn => by
                        subst ea;have hj := World.ownsRow.lt ho5K.out a.block rfl;exact ⟨hj.1, Nat.lt_of_lt_of_le hj.2 hbl9.size⟩
                      obtain ⟨s, hs⟩ : ∃ s : Stp, (nm2, key) = s := ⟨_, rfl⟩;have hsH := Hd hs
                      have hs2v : Hid (∀ x, Below w9.heap.size w9 x -> StV x (.agg #[.string U1, .slice A5 nk c5]) s) := Hd fun x hx => by
                        rw [<- hs];exact ⟨A5, nk, c5, by rw [<- hU1H.out], (hall9.out x hx).2.1⟩
                      have hshs : Hid (s.1.length <= 1000000 /\ ∀ x ∈ s.2, x.length <= 1000000) := Hd (by
                        rw [<- hs];refine ⟨?_, fun v hv => ?_⟩
                        · have h1 := hyw.out.1
                          have h2 := hw'.out;rw [wN] at h1
                          show nm2.length <= _
                          omega
                        · have h1 := keyR_vals hkeyH.out v hv
                          have h2 := hwkid.out
                          omega)
                      have hsq9 : Hid (∀ x, Below w9.heap.size w9 x -> Sq (StX (XB 0 C w9 (.slice Av m cv))) 2 x Av m cv (out.map (·.1))) := Hd fun x hx => by
                        have h1 := (hP9.out.st.1.sq' (by omega));exact Xp.sq_keep h1 hx fun vs y h => elt_st.stay (fun k hk => ⟨hk, hx.block k (hk.lt (Nat.zero_le _) hP9.out.ord.2.2.2)⟩) h
                      have hs9H := Hd hs9;have hs69 : Hid (w6.heap.size <= w9.heap.size) := Hd (by have := hb79.size; have := hY7.out; have := hYH.out; omega);have hZ9 : Hid (Z < w9.heap.size) := Hd (by omega);have l1 := (hsq9.out w9 (Below.refl _ _)).le;have l2 := (hsq9.out w9 (Below.refl _ _)).max;have hPx : Hid (D < N) := Hd (by have := hPk.out.ord; have := hskH.out; have := hNC.out; omega);clear hbl9 hzb hb79 hs hs9;go_wp2_with fail;clear hw9 hZ nm8
                      go_loopw [24, 25] (fun vp vj wr => ∃ (j p : Nat), j <= m /\ p <= j /\ vp = .int .i64 p /\ vj = .int .i64 j /\ Hid (∀ (q : Nat) o, q < j -> out[q]? = some o -> o.1 ≠ s) /\ Hid (((out.take j).filter fun o => No.ahead o.1 s).length = p) /\ Hid (Below w9.heap.size w9 wr)) (fun _ j _ => m - (intOf j).toNat)
                      case atStart => exact ⟨0, 0, by omega, by omega, rfl, rfl, Hd (fun q o hq => absurd hq (by omega)), Hd rfl, Hd (Below.refl _ _)⟩
                      case round =>
                        obtain ⟨j, p, hj, hpj, rfl, rfl, hnos, hfl, hb10⟩ := hrel;obtain ⟨wy, hwy2⟩ : ∃ z, z = wr := ⟨_, rfl⟩;subst hwy2
                        by_cases hjm : j < m
                        · have p1 : decide ((j : Int) < (m : Int)) = true := by rw [decide_eq_true_eq]; omega
                          have p2 : decide (j < m) = true := by rw [decide_eq_true_eq]; omega
                          have p3 : (j : Int) < (m : Int) := (by omega);obtain ⟨b3, o3, so, vs3, eAv, hbl3, hso, hvs3, hel3, hcs3⟩ := (hsq9.out wy hb10.out).at_ hjm;subst eAv;have hsv3 := hel3.val;obtain ⟨A4, c4, rfl, ht4, hX4⟩ := hel3
                          obtain ⟨o, ho, hoe⟩ : ∃ o, out[j]? = some o /\ o.1 = so := by
                            rw [List.getElem?_map, Option.map_eq_some_iff] at hso;exact hso
                          obtain ⟨n4, hn4⟩ : ∃ n4, so.2.length = n4 := ⟨_, rfl⟩;obtain ⟨X1, hX1⟩ : ∃ S, strOf so.1 = S := ⟨_, rfl⟩;rw [hn4, hX1] at hsv3;rw [hn4, hX1] at hcs3;have t0 : wy.cell? ⟨b3, o3 + j * 2, none⟩ = some (.string X1) := hcs3 0 _ rfl;have t1 : wy.cell? ⟨b3, o3 + j * 2 + 1, none⟩ = some (.slice A4 n4 c4) := hcs3 1 _ rfl;obtain ⟨⟨z0, z1⟩, _, _⟩ := hall9.out wy hb10.out;have hbd := (show Below wy.heap.size wy wy.drew from Joins.below_draws wy.heap.size wy 1);have hc1 := Hd (step_any _ _ so s wy.drew (hsv3.below hbd) (hs2v.out _ (hb10.out.trans (hbd.mono hb10.out.size))));have hso2 : so.1.length <= 1000000 /\ ∀ x ∈ so.2, x.length <= 1000000 := by rw [<- hoe]; exact hsh'.out o (List.mem_of_getElem? ho)
                          have hc2 : Hid (∀ x, Below wy.heap.size wy x -> Calls Tryz.prog 75 #[.agg #[.string X1, .slice A4 n4 c4], .agg #[.string U1, .slice A5 nk c5]] x fun e w' => e = .returned (.bool (No.ahead so s)) /\ Below x.heap.size x w') := Hd fun x hx =>
                            ahead_any _ _ so s x (hsv3.below hx) (hs2v.out _ (hb10.out.trans (hx.mono hb10.out.size))) hso2.1 hshs.out.1 hso2.2 hshs.out.2
                          have hoH := Hd ho;have hoeH := Hd hoe;have hbl3H := Hd hbl3;clear hcs3 hvs3 ht4 hX4 hso hsv3 hbd hso2 ho hoe hbl3 hn4 hX1
                          cases hd : decide (so = s) with
                          | true =>
                            rw [hd] at hc1;have htw := Hd (normL_twice (l := l) (path := path) (first := first) (at_ := at_) hy'.out rfl hg3.out hRyH.out hkeyH.out hoH.out (by rw [hoeH.out, of_decide_eq_true hd]; exact hsH.out.symm));clear hd;go_wp2_with fail;refine Pl.wp_region_plan 5 (.take 0 (.take 1 (.take 2 (.take 3 (.take 4 .done))))) (fun x => x.cell? ⟨b3, o3 + j * 2, none⟩ = some (.string X1) /\ x.cell? ⟨b3, o3 + j * 2 + 1, none⟩ = some (.slice A4 n4 c4) /\ x.cell? ⟨Z, 0, none⟩ = some (.string U1) /\ x.cell? ⟨Z, 1, none⟩ = some (.slice A5 nk c5)) (by kernel_rfl) (by kernel_rfl) (by exact ⟨t0, t1, z0, z1⟩) ?_;simp only [Pl.fill, Al_4, Al_5, Al_6, Al_7]
                            iterate 5
                              first
                              | (refine Pl.take_go ?_ (by rfl) (fun _ _ _ h => h) ?_ ?_
                                 rotate_left
                                 · (intro x hSw; (try (dsimp only at hSw)); go_simp; try with_reducible rfl)
                                 (try simp only [Act.put, Al_1, Al_2, Al_3]))
                              | (refine Pl.take_skip (by rfl) (fun _ _ _ h => h) ?_
                                 (try simp only [Act.put, Al_1, Al_2, Al_3]))
                            refine Pl.done_go ?_;clear t0 t1 z0 z1;go_wp2_with fail;refine hc1.out.mono ?_;rintro e w11 ⟨rfl, hb11⟩;have hb11x : Below wy.heap.size wy w11 := (show Below wy.heap.size wy wy.drew from Joins.below_draws wy.heap.size wy 1).trans hb11;have hbe := hb10.out.trans (hb11x.mono hb10.out.size);have hPW := hP9.out.below hbe;have hbW := hbw9.out.trans (hbe.mono hbw9.out.size);clear hbe hb11x hb11;have hRk : Hid (RN = .error (23, at_)) := Hd (hErr.out _ (by rw [hRL.out]; exact htw.out));have hbF := Hd (hbw'.out.trans (hbW.mono hbw'.out.size));have hrb := hPW.rb;clear hbW hPW;obtain ⟨q0, q1, q2, q3, q4⟩ := nd_same hrb;have zf := fun i => frozen_of_row w11 (T + 1) i _ _ hrb
                            have y0 := Xp.cell_blk hrb (i := 0) rfl;have y1 := Xp.cell_blk hrb (i := 1) rfl;have y2 := Xp.cell_blk hrb (i := 2) rfl;have y3 := Xp.cell_blk hrb (i := 3) rfl;have y4 := Xp.cell_blk hrb (i := 4) rfl;have hrbH := Hd hrb;clear hrb;go_wp2_with fail;exact bodyPost_ret (res_nd3 (x := .int .i64 23) (y := .int .i64 (at_ : Nat)) rfl hrbH.out rfl rfl rfl) rfl ⟨by rw [hRk.out]; exact ⟨by decide, rfl⟩, hbF.out⟩
                          | false =>
                            rw [hd] at hc1
                            have hne2 : Hid (∀ (q : Nat) o, q < j + 1 -> out[q]? = some o -> o.1 ≠ s) := Hd fun q o' hq ho' => by
                              by_cases e : q = j
                              · subst e
                                rw [hoH.out] at ho';injection ho' with ho';rw [<- ho', hoeH.out];exact of_decide_eq_false hd
                              · exact hnos.out q o' (by omega) ho'
                            have hf2 := filter_snoc (s := s) hoH.out;rw [hfl.out, hoeH.out] at hf2;have hf2H := Hd hf2;clear hd hf2;go_wp2_with fail;refine Pl.wp_region_plan 5 (.take 0 (.take 1 (.take 2 (.take 3 (.take 4 .done))))) (fun x => x.cell? ⟨b3, o3 + j * 2, none⟩ = some (.string X1) /\ x.cell? ⟨b3, o3 + j * 2 + 1, none⟩ = some (.slice A4 n4 c4) /\ x.cell? ⟨Z, 0, none⟩ = some (.string U1) /\ x.cell? ⟨Z, 1, none⟩ = some (.slice A5 nk c5)) (by kernel_rfl) (by kernel_rfl) (by exact ⟨t0, t1, z0, z1⟩) ?_;simp only [Pl.fill, Al_4, Al_5, Al_6, Al_7]
                            iterate 5
                              first
                              | (refine Pl.take_go ?_ (by rfl) (fun _ _ _ h => h) ?_ ?_
                                 rotate_left
                                 · (intro x hSw; (try (dsimp only at hSw)); go_simp; try with_reducible rfl)
                                 (try simp only [Act.put, Al_1, Al_2, Al_3]))
                              | (refine Pl.take_skip (by rfl) (fun _ _ _ h => h) ?_
                                 (try simp only [Act.put, Al_1, Al_2, Al_3]))
                            refine Pl.done_go ?_;have hbd := Hd (show Below wy.heap.size wy wy.drew from Joins.below_draws wy.heap.size wy 1);have t0H := Hd t0;have t1H := Hd t1;clear t0 t1 z0 z1;go_wp2_with fail;refine hc1.out.mono ?_;rintro e w11 ⟨rfl, hb11⟩;have hb11x : Below wy.heap.size wy w11 := hbd.out.trans hb11;have t0 := (hb11x.cell (p := ⟨b3, o3 + j * 2, none⟩) hbl3H.out).trans t0H.out;have t1 := (hb11x.cell (p := ⟨b3, o3 + j * 2 + 1, none⟩) hbl3H.out).trans t1H.out;obtain ⟨⟨z0, z1⟩, _, _⟩ := hall9.out w11 (hb10.out.trans (hb11x.mono hb10.out.size));have hc3 := Hd (hc2.out w11.drew (hb11x.trans ((show Below w11.heap.size w11 w11.drew from Joins.below_draws w11.heap.size w11 1).mono hb11x.size)));have hb11H := Hd hb11x;clear hb11 hb11x;go_wp2_with fail;refine Pl.wp_region_plan 5 (.take 0 (.take 1 (.take 2 (.take 3 (.take 4 .done))))) (fun x => x.cell? ⟨b3, o3 + j * 2, none⟩ = some (.string X1) /\ x.cell? ⟨b3, o3 + j * 2 + 1, none⟩ = some (.slice A4 n4 c4) /\ x.cell? ⟨Z, 0, none⟩ = some (.string U1) /\ x.cell? ⟨Z, 1, none⟩ = some (.slice A5 nk c5)) (by kernel_rfl) (by kernel_rfl) (by exact ⟨t0, t1, z0, z1⟩) ?_;simp only [Pl.fill, Al_4, Al_5, Al_6, Al_7]
                            iterate 5
                              first
                              | (refine Pl.take_go ?_ (by rfl) (fun _ _ _ h => h) ?_ ?_
                                 rotate_left
                                 · (intro x hSw; (try (dsimp only at hSw)); go_simp; try with_reducible rfl)
                                 (try simp only [Act.put, Al_1, Al_2, Al_3]))
                              | (refine Pl.take_skip (by rfl) (fun _ _ _ h => h) ?_
                                 (try simp only [Act.put, Al_1, Al_2, Al_3]))
                            refine Pl.done_go ?_;clear t0 t1 z0 z1;go_wp2_with fail;refine hc3.out.mono ?_;rintro e w12 ⟨rfl, hb12⟩
                            have hbe : Hid (Below w9.heap.size w9 w12) := Hd (by
                              have h1 := hb11H.out.trans (((show Below w11.heap.size w11 w11.drew from Joins.below_draws w11.heap.size w11 1).trans hb12).mono hb11H.out.size)
                              exact hb10.out.trans (h1.mono hb10.out.size))
                            clear hb12
                            cases hah : No.ahead so s with
                            | true =>
                              have hf3 : Hid (((out.take (j + 1)).filter fun o => No.ahead o.1 s).length = p + 1) := Hd (by rw [hf2H.out, if_pos hah]);clear hah;go_wp2_with fail;go_roundw
                              case rel => exact ⟨j + 1, p + 1, by omega, by omega, by go_num, by go_num, hne2, hf3, hbe⟩
                              case measure => simp [intOf]; omega
                            | false =>
                              have hf3 : Hid (((out.take (j + 1)).filter fun o => No.ahead o.1 s).length = p) := Hd (by rw [hf2H.out, hah]; rfl);clear hah;go_wp2_with fail;go_roundw
                              case rel => exact ⟨j + 1, p, by omega, by omega, rfl, by go_num, hne2, hf3, hbe⟩
                              case measure => simp [intOf]; omega
                        · have p1 : decide ((j : Int) < (m : Int)) = false := by rw [decide_eq_false_iff_not]; omega
                          have p2 : decide (j < m) = false := by rw [decide_eq_false_iff_not]; omega
                          have ej : j = m := (by omega);subst ej;clear l1 l2;obtain ⟨⟨z0, z1⟩, _, _, _⟩ := hall9.out wy hb10.out;have hPy := Hd (hP9.out.below hb10.out)
                          have hplace : Hid (placeS s out = p) := Hd (by
                            have h1 := hfl.out;rw [List.take_of_length_le (by rw [hml'.out]; exact Nat.le_refl _)] at h1
                            exact h1)
                          have hnot : Hid (∀ o ∈ out, o.1 ≠ s) := Hd fun o ho => by
                            obtain ⟨q, hq⟩ := List.mem_iff_getElem?.1 ho;exact hnos.out q o (by have := (List.getElem?_eq_some_iff.1 hq).1; have := hml'.out; omega) hq
                          have hsy := Hd (hPy.out.st.1.sq' (by omega));have l1 := hsy.out.le;have l2 := hsy.out.max;have q0 : (p : Int) <= (cv : Int) := (by omega);have q1 : (0 : Int) <= (p : Int) /\ (p : Int) <= (cv : Int) := ⟨by omega, by omega⟩;have q2 : (0 : Int) <= (p : Int) /\ (p : Int) <= (j : Int) := ⟨by omega, by omega⟩;have q3 : p <= cv := (by omega);have q4 : (p : Int) <= (j : Int) := (by omega);have hXe := XB.el (v := .slice Av j cv) elt_st (Nat.zero_le C) hPy.out.ord.2.2.2;have hsyx : Hid (∀ x, Below wy.heap.size wy.drew x -> Sq (StX (XB 0 C wy (.slice Av j cv))) 2 x Av j cv (out.map (·.1))) := Hd fun x hx => Xp.sq_keep hsy.out (bdrew hx) fun vs y h => hXe wy x vs y (bdrew hx) h
                          go_wp2_with fail;refine Pl.wp_region_plan 11 (.take 1 (.take 2 (.take 3 (.take 5 (.take 8 (.take 9 (.take 10 (.two 0 (.two 4 (.run 6 (.run 7 .done)) 6 (.run 4 (.run 7 .done))) 6 (.run 0 (.run 4 (.run 7 .done))))))))))) (fun x => x.cell? ⟨Z, 0, none⟩ = some (.string U1) /\ x.cell? ⟨Z, 1, none⟩ = some (.slice A5 nk c5)) (by kernel_rfl) (by kernel_rfl) (by exact ⟨z0, z1⟩) ?_;simp only [Pl.fill, Al_4, Al_5, Al_6, Al_7]
                          iterate 7
                            first
                            | (refine Pl.take_go ?_ (by rfl) (fun _ _ _ h => h) ?_ ?_
                               rotate_left
                               · (intro x hSw; (try (dsimp only at hSw)); go_simp; try with_reducible rfl)
                               (try simp only [Act.put, Al_1, Al_2, Al_3]))
                            | (refine Pl.take_skip (by rfl) (fun _ _ _ h => h) ?_
                               (try simp only [Act.put, Al_1, Al_2, Al_3]))
                          have hL : Hid (∀ x, Below wy.heap.size wy.drew x -> Sq (StX (XB 0 C wy (.slice Av j cv))) 2 x Av p cv ((out.map (·.1)).take p)) := Hd fun x hx => by
                            have := (hsyx.out x hx).cut 0 p (by omega) hpj Av (fun b off e _ => by rw [e, Nat.zero_mul]; rfl) (fun e => e);rw [Nat.sub_zero, Nat.sub_zero, List.drop_zero] at this;exact this
                          have hR : Hid (∀ x, Below wy.heap.size wy.drew x -> Sq (StX (XB 0 C wy (.slice Av j cv))) 2 x (if cv = p then Av else Option.map (fun x => x.add (p * 2)) Av) (j - p) (cv - p) ((out.map (·.1)).drop p)) := Hd fun x hx => by
                            have := (hsyx.out x hx).cut p j hpj (Nat.le_refl _) (if cv = p then Av else Option.map (fun x => x.add (p * 2)) Av) (cut_addr Av cv p 2) (cut_some Av cv p 2);rw [List.take_of_length_le (by rw [List.length_drop, List.length_map, hml'.out]; exact Nat.le_refl _)] at this;exact this
                          obtain ⟨A14, hA14⟩ : ∃ A, (if cv = p then Av else Option.map (fun x => x.add (p * 2)) Av) = A := ⟨_, rfl⟩;rw [hA14] at hR ⊢;clear hA14
                          refine Pl.trip_go (El := StX (XB 0 C wy (.slice Av j cv))) (k := 2) (z := .agg #[.string ⟨#[]⟩, .slice none 0 0]) (by_ := 40) (T := wy.heap.size) (vs := [.string U1, .slice A5 nk c5]) (x0 := s) (la := (out.map (·.1)).take p) (lb := (out.map (·.1)).drop p) (N1 := p + 1) (N := j + 1)
                            Tryz.underlying121 info_step rfl (by omega) (by omega) hXe (fun _ _ _ h => elt_st.one h) ⟨rfl, rfl, rfl, rfl, rfl⟩ ⟨rfl, rfl, rfl, rfl, rfl⟩ rfl rfl rfl rfl rfl ⟨slot_lt (n := 167) (by decide) rfl, slot_lt (n := 167) (by decide) rfl, slot_lt (n := 167) (by decide) rfl, slot_lt (n := 167) (by decide) rfl⟩ (by decide)
                            rfl hL.out rfl rfl (fun x hx => by
                              rw [<- hsH.out];refine ⟨A5, c5, by rw [<- hU1H.out, <- hnkH.out], by show Ts _ A5 key.length c5 key; rw [hnkH.out]; exact (hall9.out x (hb10.out.trans ((bdrew hx).mono hb10.out.size))).2.1, fun a ea hn => .inr ?_⟩;have h1 := hAp.out a ea (by rw [<- hnkH.out]; exact hn);refine ⟨?_, Nat.lt_of_lt_of_le h1.2 hb10.out.size, fun e8 => ?_⟩
                              · have := hPk.out.ord.2.2.2
                                have := hbk7.out.size;omega
                              · have := (hPk.out.st.lt _ e8).2
                                have := hbk7.out.size
                                omega) rfl hR.out rfl (by omega) (by omega) (by omega) (Nat.le_refl _) (fun x hx => (hall9.out x (hb10.out.trans ((bdrew hx).mono hb10.out.size))).1) ?_
                          intro v0 v4 v9 v10 A7 c7 x13 ho hx;have hb13 := Hd (bdrew hx)
                          have hst13 : Hid (OutG StX 2 100 0 C x13 (.slice A7 (j + 1) c7) ((insS s kid out).map (·.1))) := Hd (by
                            rw [insS_map1 s kid p hplace.out]
                            exact OutG.fresh elt_st (Nat.zero_le _) hPy.out.ord.2.2.2 ho hb13.out.size)
                          have hP13 := Hd (hPy.out.below hb13.out);have hb913 := Hd (hb10.out.trans (hb13.out.mono hb10.out.size));have hky := Hd (hP13.out.ki.1.sq' (by omega));clear ho hx hL hR hXe q0 q1 q3 l1 l2 z0 z1 hsyx hsy
                          try simp only [Act.put, Al_1, Al_2, Al_3]
                          have d4 := hP13.out.cells.2.2.2.2;obtain ⟨_, _, ⟨a0, a1, a2, a3, a4⟩, _⟩ := hall9.out x13 hb913.out;have l1 := hky.out.le;have l2 := hky.out.max;have q0 : (p : Int) <= (co : Int) := (by omega);have q1 : (0 : Int) <= (p : Int) /\ (p : Int) <= (co : Int) := ⟨by omega, by omega⟩;have q3 : p <= co := (by omega);have hXe := XB.el (v := .slice Ao j co) elt_nd (by have := hP13.out.ord; omega : B0 <= C) hP13.out.ord.2.2.2;have hkyx : Hid (∀ x, Below x13.heap.size x13.drew x -> Sq (NdE (XB B0 C x13 (.slice Ao j co))) 5 x Ao j co (out.map (·.2))) := Hd fun x hx => Xp.sq_keep hky.out (bdrew hx) fun vs y h => hXe x13 x vs y (bdrew hx) h
                          go_wp2_with fail;refine Pl.wp_region_plan 13 (.take 1 (.take 2 (.take 3 (.take 4 (.take 6 (.take 9 (.take 10 (.take 11 (.take 12 (.two 0 (.two 5 (.run 7 (.run 8 .done)) 7 (.run 5 (.run 8 .done))) 7 (.run 0 (.run 5 (.run 8 .done))))))))))))) (fun x => x.cell? ⟨D, 4, none⟩ = some (.slice Ao j co) /\ x.cell? ⟨Y, 0, none⟩ = some (.int .i64 kd3) /\ x.cell? ⟨Y, 1, none⟩ = some (.string Y1) /\ x.cell? ⟨Y, 2, none⟩ = some (.string Y2) /\ x.cell? ⟨Y, 3, none⟩ = some (.slice Aa3 la3 ca3) /\ x.cell? ⟨Y, 4, none⟩ = some (.slice Ak3 lk3 ck3)) (by kernel_rfl) (by kernel_rfl) (by exact ⟨d4, a0, a1, a2, a3, a4⟩) ?_;simp only [Pl.fill, Al_4, Al_5, Al_6, Al_7]
                          iterate 9
                            first
                            | (refine Pl.take_go ?_ (by rfl) (fun _ _ _ h => h) ?_ ?_
                               rotate_left
                               · (intro x hSw; (try (dsimp only at hSw)); go_simp; try with_reducible rfl)
                               (try simp only [Act.put, Al_1, Al_2, Al_3]))
                            | (refine Pl.take_skip (by rfl) (fun _ _ _ h => h) ?_
                               (try simp only [Act.put, Al_1, Al_2, Al_3]))
                          have hL : Hid (∀ x, Below x13.heap.size x13.drew x -> Sq (NdE (XB B0 C x13 (.slice Ao j co))) 5 x Ao p co ((out.map (·.2)).take p)) := Hd fun x hx => by
                            have := (hkyx.out x hx).cut 0 p (by omega) hpj Ao (fun b off e _ => by rw [e, Nat.zero_mul]; rfl) (fun e => e);rw [Nat.sub_zero, Nat.sub_zero, List.drop_zero] at this;exact this
                          have hR : Hid (∀ x, Below x13.heap.size x13.drew x -> Sq (NdE (XB B0 C x13 (.slice Ao j co))) 5 x (if co = p then Ao else Option.map (fun x => x.add (p * 5)) Ao) (j - p) (co - p) ((out.map (·.2)).drop p)) := Hd fun x hx => by
                            have := (hkyx.out x hx).cut p j hpj (Nat.le_refl _) (if co = p then Ao else Option.map (fun x => x.add (p * 5)) Ao) (cut_addr Ao co p 5) (cut_some Ao co p 5);rw [List.take_of_length_le (by rw [List.length_drop, List.length_map, hml'.out]; exact Nat.le_refl _)] at this;exact this
                          obtain ⟨A24, hA24⟩ : ∃ A, (if co = p then Ao else Option.map (fun x => x.add (p * 5)) Ao) = A := ⟨_, rfl⟩;rw [hA24] at hR ⊢;clear hA24
                          refine Pl.trip_go (El := NdE (XB B0 C x13 (.slice Ao j co))) (k := 5) (z := (.agg #[.int .i64 0, .string ⟨#[]⟩, .string ⟨#[]⟩, .slice none 0 0, .slice none 0 0])) (by_ := 88) (T := x13.heap.size) (vs := [.int .i64 kd3, .string Y1, .string Y2, .slice Aa3 la3 ca3, .slice Ak3 lk3 ck3]) (x0 := kid) (la := (out.map (·.2)).take p) (lb := (out.map (·.2)).drop p) (N1 := p + 1) (N := j + 1)
                            Tryz.underlying24 info_node rfl (by omega) (by omega) hXe (fun _ _ _ h => NdI.one h) ⟨rfl, rfl, rfl, rfl, rfl⟩ ⟨rfl, rfl, rfl, rfl, rfl⟩ rfl rfl rfl rfl rfl ⟨slot_lt (n := 167) (by decide) rfl, slot_lt (n := 167) (by decide) rfl, slot_lt (n := 167) (by decide) rfl, slot_lt (n := 167) (by decide) rfl⟩ (by decide)
                            rfl hL.out rfl rfl (fun x hx => by
                              have hbx := hb913.out.trans ((bdrew hx).mono hb913.out.size);refine NdI.stay (hall9.out x hbx).2.2.2 fun k hk => ⟨?_, rfl⟩
                              have h1 := hPk.out.ord;have h2 := hbk7.out.size;have h3 := hb4.out.size;have h4 := hb913.out.size;have h5 := hb6H.out.size;have h6 := hbk9.out.size;have h7 := hb46.out.size;have h8 : w6.heap.size <= w9.heap.size := hs69.out;rcases hk with hk | hk
                              · exact .inl hk
                              · refine .inr ⟨by omega, by omega, fun e8 => ?_⟩
                                have := (hPk.out.ki.lt _ e8).2
                                omega) rfl hR.out rfl (by omega) (by omega) (by omega) (Nat.le_refl _) (fun x hx => by
                              have hbx := hb913.out.trans ((bdrew hx).mono hb913.out.size);obtain ⟨_, _, ⟨r0, r1, r2, r3, r4⟩, _⟩ := hall9.out x hbx
                              exact ⟨(hP13.out.below (bdrew hx)).cells.2.2.2.2, r0, r1, r2, r3, r4⟩) ?_
                          intro v0' v4' v9' v10' A8 c8 x14 ho hx;have hb14 := Hd (bdrew hx)
                          have hki14 : OutG NdE 5 26 B0 C x14 (.slice A8 (j + 1) c8) ((insS s kid out).map (·.2)) := by
                            rw [insS_map2 s kid p hplace.out];exact OutG.fresh elt_nd (by have := hP13.out.ord; omega) hP13.out.ord.2.2.2 ho hb14.out.size
                          have hP14 := hP13.out.below hb14.out;have hP15 := hP13.out.put hb14.out (hst13.out.below elt_st hb14.out) hki14;have e4 := hP14.cells.2.2.2.2;have zf := fun i => frozen_of_row x14 D i _ _ hP14.db
                          have hbk14 := hbk9.out.trans ((hb913.out.trans (hb14.out.mono hb913.out.size)).mono hbk9.out.size);have hbw14 := hbwk.out.trans (hbk14.mono hbwk.out.size);have hbw15 : Below w2.heap.size w2 (x14.setCell ⟨D, 4, none⟩ (.slice A8 (j + 1) c8)) := hbw14.setCell (p := ⟨D, 4, none⟩) (by have := hP14.ord; have := hs2'.out; show w2.heap.size <= D; omega) _;have hDN : D < N := by have := hPx.out; omega
                          obtain ⟨hkb, hknd⟩ := hkid.out x14 hbk14;have hkb15 : (x14.setCell ⟨D, 4, none⟩ (.slice A8 (j + 1) c8)).heap[N]? = some (.cells #[.int .i64 1, .string U1, .string U2, .slice Aa2 la2 ca2, .slice Ak2 lk2 ck2] 26) := (set_other (by omega)).trans hkb;have hknd15 : NdI (fun j => j < B0) (x14.setCell ⟨D, 4, none⟩ (.slice A8 (j + 1) c8)) [.int .i64 1, .string U1, .string U2, .slice Aa2 la2 ca2, .slice Ak2 lk2 ck2] (.mk 1 nm2 tx2 as2 kz2) := hknd.stay fun k hk => ⟨hk, set_other (by have := hP14.ord; omega)⟩
                          have hB15 : B0 <= (x14.setCell ⟨D, 4, none⟩ (.slice A8 (j + 1) c8)).heap.size := by have := hP15.ord; omega
                          obtain ⟨w15, hw15⟩ : ∃ w15, x14.setCell ⟨D, 4, none⟩ (.slice A8 (j + 1) c8) = w15 := ⟨_, rfl⟩;rw [hw15] at hP15 hbw15 hkb15 hknd15 hB15;have hel := Hd (rElem_any (SizeOf.sizeOf (Nd.mk 1 nm2 tx2 as2 kz2)) (fun j => j < B0) (.mk 1 nm2 tx2 as2 kz2) (Nat.le_refl _) (by have := hyw.out.1; have := hw'.out; omega) _ w15 hknd15 (fun j hj => Nat.lt_of_lt_of_le hj hB15));have r0 := Xp.cell_blk hkb15 (i := 0) rfl;have r1 := Xp.cell_blk hkb15 (i := 1) rfl;have r2 := Xp.cell_blk hkb15 (i := 2) rfl;have r3 := Xp.cell_blk hkb15 (i := 3) rfl;have r4 := Xp.cell_blk hkb15 (i := 4) rfl;have hP15H := Hd hP15;have hbw15H := Hd hbw15
                          have heb : Hid (at_ + elementsN (.mk 1 nm2 tx2 as2 kz2) + wL (kz.drop (k + 1)) <= 1000000000) := Hd (by
                            have h1 := hatw.out;have h2 := elementsN_w (.mk 1 nm2 tx2 as2 kz2);rw [drop_at hy'.out, wL] at h1
                            omega)
                          obtain ⟨EN, hEN⟩ : ∃ EN, elementsN (.mk 1 nm2 tx2 as2 kz2) = EN := ⟨_, rfl⟩;rw [hEN] at hel heb;have heb2 : at_ + EN <= 1000000000 := by have := heb.out; omega
                          have hon : Hid (RL = normL l path first (at_ + EN) (insS s kid out) (kz.drop (k + 1))) := Hd (by
                            rw [hRL.out, <- hEN, <- hsH.out]
                            exact normL_on hy'.out rfl hg3.out hRyH.out hkeyH.out fun o ho => by rw [show ((Nd.mk 1 nm2 tx2 as2 kz2).name, key) = s from hsH.out]; exact hnot.out o ho)
                          have hlen2 : Hid ((insS s kid out).length = j + 1) := Hd (by rw [(insS_perm s kid out).length_eq, List.length_cons, hml'.out])
                          have hsh2 : Hid (∀ o ∈ insS s kid out, o.1.1.length <= 1000000 /\ ∀ x ∈ o.1.2, x.length <= 1000000) := Hd fun o ho => by
                            rcases List.mem_cons.1 ((insS_perm s kid out).mem_iff.1 ho) with rfl | ho
                            · exact hshs.out
                            · exact hsh'.out o ho
                          clear hP14 hP15 hki14 ho hx hbk14 hbw14 hbw15 hkb hknd hkb15 hknd15 hB15 hL hR hXe q0 q1 q2 q3 q4 l1 l2 d4 a0 a1 a2 a3 a4 hkyx hky hEN hDN
                          try simp only [Act.put, Al_1, Al_2, Al_3]
                          go_wp2_with fail;clear hw15 e4;refine hel.out.mono ?_;rintro e w16 ⟨rfl, hb16⟩;have hP16 := Hd (hP15H.out.below hb16);have hbw16 := Hd (hbw15H.out.trans (hb16.mono hbw15H.out.size));clear hb16 r0 r1 r2 r3 r4;go_wp2_with fail;go_roundw
                          case rel => exact ⟨k + 1, j + 1, at_ + EN, A7, c7, by omega, by omega, heb2, by go_num, by go_num, rfl, Hd ⟨insS s kid out, A8, c8, hlen2.out, hon.out, hsh2.out, hP16.out⟩, hbw16, heb⟩
                          case measure => simp [intOf]; omega
              · have hnx : Hid (RL = normL l path first at_ out (kz.drop (k + 1))) := Hd (by rw [hRL.out]; exact normL_skip hy'.out (fun h => absurd h h2) h1)
                have hat2 : Hid (at_ + wL (kz.drop (k + 1)) <= 1000000000) := Hd (by have := hatw.out; rw [drop_at hy'.out, wL] at this; omega);have e5 : (kd2 == 2) = false := (by simpa using h2);have e6 : (kd2 != 1) = true := (by simpa using h1);go_wp2_with fail;clear hwk hN;go_roundw
                case rel => exact ⟨k + 1, m, at_, Av, cv, by omega, by omega, hatb, by go_num, rfl, rfl, Hd ⟨out, Ao, co, hml'.out, hnx.out, hsh'.out, hPk.out⟩, hbwk, hat2⟩
                case measure => simp [intOf]; omega
          · have i1 : decide ((k : Int) < (lk : Int)) = false := by rw [decide_eq_false_iff_not]; omega
            have i2 : decide (k < lk) = false := by rw [decide_eq_false_iff_not]; omega
            have e1 : k = lk := (by omega);subst e1;obtain ⟨out, Ao, co, hml, hRL0, hsh, hPn⟩ := hin.out
            have hRk : Hid (RN = .ok (.mk 1 nm [] (attrsN as_) (out.map (·.2)))) := Hd (hOkk.out out (by
              rw [hRL0, List.drop_of_length_le (by rw [hlk'.out]; exact Nat.le_refl _), normL]))
            have hPH := Hd hPn;obtain ⟨e0, e1, e2, e3, e4⟩ := hPn.cells;have y0 := Xp.cell_blk hPn.rb (i := 0) rfl;have y1 := Xp.cell_blk hPn.rb (i := 1) rfl;have y2 := Xp.cell_blk hPn.rb (i := 2) rfl;have y3 := Xp.cell_blk hPn.rb (i := 3) rfl;have y4 := Xp.cell_blk hPn.rb (i := 4) rfl;have zg := fun i => frozen_of_row wx (T + 1) i _ _ hPn.rb
            obtain ⟨g1, g2, g3⟩ := set5 hPn.rb (.int .i64 1) (.string S1) (.string ⟨#[]⟩) (.slice Aa li ca) (.slice Ao m co);have hfin := Hd (hPn.fin hS1'.out (by rw [attrsN_len]; exact hli'.out) g2 g3);have hg1 := Hd g1;have hbF := Hd (Below.set5 (b := T + 1) (hbw'.out.trans (hb.out.mono hbw'.out.size)) (by have := hTw.out; omega) (.int .i64 1) (.string S1) (.string ⟨#[]⟩) (.slice Aa li ca) (.slice Ao m co));clear g1 g2 g3 hPn hlx hpx hKx tb rb t0 t1 t3 hRL0 hsh hml hin;go_wp2_with fail;exact bodyPost_ret (res_nd3 (x := .int .i64 0) (y := .int .i64 0) rfl hg1.out rfl rfl rfl) rfl ⟨by rw [hRk.out]; exact ⟨_, rfl, by rw [hTw.out]; exact hfin.out⟩, hbF.out⟩
end Go.Proofs.YtdnfnkicmfkkmaaGreatDoor.No
end

section
namespace Go.Proofs.YtdnfnkicmfkkmaaGreatDoor.Ky
open Go.RowKit Go.Shelf UtfW
theorem contains_snoc (l : List Tx) (y x : Tx) : (l ++ [y]).contains x = (l.contains x || decide (x = y)) := by
 rw [Bool.eq_iff_iff];simp
set_option maxHeartbeats 2000000 in
set_option maxRecDepth 100000 in
theorem refRule_any (A1 : Option Addr) (n1 c1 : Nat) (A2 : Option Addr) (n2 c2 : Nat) (r : Rl) (w : World) (h1 : Ts w A1 n1 c1 r.1) (h2 : Ts w A2 n2 c2 r.2) (hS : Smr 900000 r) :
  Calls Tryz.prog 69 #[.agg #[.slice A1 n1 c1, .slice A2 n2 c2]] w fun e w' => e = .returned (.bool (ruleB nameR r)) /\ Below w.heap.size w w' := by
 obtain ⟨p, q⟩ := r;simp only at h1 h2;have hl1 := h1.len;have hl2 := h2.len;have hm1 := Rd.max h1;have hm2 := Rd.max h2;have hle1 := Rd.le h1;have hle2 := Rd.le h2;obtain ⟨R, hR⟩ : ∃ R, ruleB nameR (p, q) = R := ⟨_, rfl⟩;rw [hR]
 have hR' : Hid (R = (decide (0 < n1 /\ (1 < n1 \/ n2 = 0)) && (p.all nameR && (q.all (keyB nameR) && onceB q)))) := Hd (by
  rw [<- hR];unfold ruleB;simp only
  rw [hl1, hl2])
 have hl1' := Hd hl1;have hl2' := Hd hl2;have hS' := Hd hS;have hn0 := kb_new w A1 n1 c1 A2 n2 c2;have hb0 := below_alloc w (.cells #[.slice A1 n1 c1, .slice A2 n2 c2] 70);obtain ⟨T, hT⟩ : ∃ T, w.heap.size = T := ⟨_, rfl⟩;obtain ⟨w0, hw0⟩ : ∃ w0, w.alloc (.cells #[.slice A1 n1 c1, .slice A2 n2 c2] 70) = w0 := ⟨_, rfl⟩;have hs0 : w0.heap.size = T + 1 := by rw [<- hw0, World.size_alloc, hT]
 rw [hw0] at hb0 hn0;have h1' := Hd (h1.below hb0);have h2' := Hd (h2.below hb0);have hT' := Hd hT;rw [hT] at hn0 hb0;have hn0' := Hd hn0;have hb0' := Hd (show Below w.heap.size w w0 by rw [hT]; exact hb0);obtain ⟨k0, k1⟩ := hn0.cells;obtain ⟨ok0, hok0⟩ : ∃ b, decide (0 < n1 /\ (1 < n1 \/ n2 = 0)) = b := ⟨_, rfl⟩;rw [hok0] at hR';clear h1 h2 hn0 hb0 hl1 hl2 hR hS
 go_enter Tryz.func69, Tryz.ntmps69
 go_upto_region 1 with fail
 clear hw0 hT
 go_cut [3] (fun v wx => v = .bool ok0 /\ wx = w0)
 case first =>
  by_cases e0 : n1 = 0
  ·have j1 : decide ((n1 : Int) > 0) = false := by rw [decide_eq_false_iff_not]; omega
   have j2 : decide (0 < n1) = false := by rw [decide_eq_false_iff_not]; omega
   obtain rfl : false = ok0 := by rw [<- hok0]; exact (decide_eq_false (by omega)).symm
   clear hok0 e0;go_wp2_with fail
   go_meet
   exact ⟨rfl, rfl⟩
  ·have j1 : decide ((n1 : Int) > 0) = true := by rw [decide_eq_true_eq]; omega
   have j2 : decide (0 < n1) = true := by rw [decide_eq_true_eq]; omega
   by_cases e1 : n1 = 1
   ·have j3 : decide ((n1 : Int) > 1) = false := by rw [decide_eq_false_iff_not]; omega
    have j4 : decide (1 < n1) = false := by rw [decide_eq_false_iff_not]; omega
    by_cases e2 : n2 = 0
    ·have j5 : ((n2 : Int) == 0) = true := by rw [beq_iff_eq]; omega
     obtain rfl : true = ok0 := by rw [<- hok0]; exact (decide_eq_true (by omega)).symm
     clear hok0 e0 e1 e2;go_wp2_with fail
     go_meet
     exact ⟨rfl, rfl⟩
    ·have j5 : ((n2 : Int) == 0) = false := by rw [beq_eq_false_iff_ne]; omega
     obtain rfl : false = ok0 := by rw [<- hok0]; exact (decide_eq_false (by omega)).symm
     clear hok0 e0 e1 e2;go_wp2_with fail
     go_meet
     exact ⟨rfl, rfl⟩
   ·have j3 : decide ((n1 : Int) > 1) = true := by rw [decide_eq_true_eq]; omega
    have j4 : decide (1 < n1) = true := by rw [decide_eq_true_eq]; omega
    obtain rfl : true = ok0 := by rw [<- hok0]; exact (decide_eq_true (by omega)).symm
    clear hok0 e0 e1;go_wp2_with fail
    go_meet
    exact ⟨rfl, rfl⟩
 case rest =>
  obtain ⟨rfl, rfl⟩ := hcut;clear hok0 k0 k1;obtain ⟨wv, hwv⟩ : ∃ wv, wv = wc := ⟨wc, rfl⟩;subst hwv;go_wp2_with fail
  go_loopw [3, 4] (fun o i wr => ∃ (k : Nat) (ok : Bool), k <= n1 /\ i = .int .i64 k /\ o = .bool ok /\ Hid (ok = (ok0 && (p.take k).all nameR)) /\ Hid (Below wv.heap.size wv wr)) (fun _ i _ => n1 - (intOf i).toNat)
  case atStart => exact ⟨0, ok0, by omega, rfl, rfl, Hd (by simp), Hd (Below.refl _ _)⟩
  case round =>
   obtain ⟨k, ok, hk, rfl, rfl, hok, hb⟩ := hrel;obtain ⟨k0, k1⟩ := (hn0'.out.below (hb.out.mono (by omega))).cells
   by_cases hlt : k < n1
   ·have i1 : decide ((k : Int) < (n1 : Int)) = true := by rw [decide_eq_true_eq]; omega
    have i2 : decide (k < n1) = true := by rw [decide_eq_true_eq]; omega
    have i3 : (k : Int) < (n1 : Int) := (by omega);obtain ⟨b, off, t, rfl, hbl, ht, kk⟩ := (h1'.out.below hb.out).at_ hlt;have hnm := refName_any (strOf t) (by rw [strOf_size']; have := hS'.out.2.2.1 t (List.mem_of_getElem? ht); omega) wr;rw [strOf_data'] at hnm;have hx2 : Hid ((p.take (k + 1)).all nameR = ((p.take k).all nameR && nameR t)) := Hd (all_take _ ht);obtain ⟨V, hV⟩ : ∃ V, nameR t = V := ⟨_, rfl⟩;rw [hV] at hnm hx2;clear ht hV
    cases ok with
    | false =>
     have hok2 : Hid (false = (ok0 && (p.take (k + 1)).all nameR)) := Hd (by rw [hx2.out, <- Bool.and_assoc, <- hok.out]; rfl);clear hnm;go_wp2_with fail;go_roundw
     case rel => exact ⟨k + 1, false, by omega, by go_num, rfl, hok2, hb⟩
     case measure => simp [intOf]; omega
    | true =>
     have hok2 : Hid (V = (ok0 && (p.take (k + 1)).all nameR)) := Hd (by rw [hx2.out, <- Bool.and_assoc, <- hok.out]; rfl);go_wp2_with fail;refine hnm.mono ?_;rintro e w2 ⟨rfl, hb3⟩;have hxx := Hd (hb.out.trans (hb3.mono hb.out.size));clear hnm hb3 k0 k1 kk;go_wp2_with fail;go_roundw
     case rel => exact ⟨k + 1, V, by omega, by go_num, rfl, hok2, hxx⟩
     case measure => simp [intOf]; omega
   ·have i1 : decide ((k : Int) < (n1 : Int)) = false := by rw [decide_eq_false_iff_not]; omega
    have i2 : decide (k < n1) = false := by rw [decide_eq_false_iff_not]; omega
    have hR2 : Hid (R = (ok && (q.all (keyB nameR) && onceB q))) := Hd (by
     have := hok.out;rw [List.take_of_length_le (by have := hl1'.out; omega)] at this
     rw [hR'.out, this, Bool.and_assoc])
    obtain ⟨okA, hokA⟩ : ∃ okA, ok = okA := ⟨_, rfl⟩;rw [hokA] at hR2 hok ⊢;clear hokA hok hR' i1 hk;obtain ⟨wz, hwz⟩ : ∃ wz, wz = wr := ⟨wr, rfl⟩;subst hwz;have hbz := Hd hb.out;clear hb;go_wp2_with fail
    go_loopw [3, 5] (fun o i wq => ∃ (k : Nat) (ok : Bool), k <= n2 /\ i = .int .i64 k /\ o = .bool ok /\ Hid (ok = (okA && ((q.take k).all (keyB nameR) && onceB (q.take k)))) /\ Hid (Below wv.heap.size wv wq)) (fun _ i _ => n2 - (intOf i).toNat)
    case atStart => exact ⟨0, okA, by omega, rfl, rfl, Hd (by simp [onceB]), hbz⟩
    case round =>
     clear k0 k1 i2 hlt;obtain ⟨m, ok, hm, rfl, rfl, hok, hb⟩ := hrel;obtain ⟨k0, k1⟩ := (hn0'.out.below (hb.out.mono (by omega))).cells
     by_cases hlt : m < n2
     ·have i1 : decide ((m : Int) < (n2 : Int)) = true := by rw [decide_eq_true_eq]; omega
      have i2 : decide (m < n2) = true := by rw [decide_eq_true_eq]; omega
      have i3 : (m : Int) < (n2 : Int) := (by omega);obtain ⟨b, off, t, rfl, hbl, ht, kk⟩ := (h2'.out.below hb.out).at_ hlt;have hnm := refKey_any (strOf t) (by rw [strOf_size']; have := hS'.out.2.2.2 t (List.mem_of_getElem? ht); omega) wr;rw [strOf_data'] at hnm;obtain ⟨V, hV⟩ : ∃ V, keyB nameR t = V := ⟨_, rfl⟩
      have hstep : Hid ((okA && ((q.take (m + 1)).all (keyB nameR) && onceB (q.take (m + 1)))) = (ok && V && !(q.take m).contains t)) := Hd (by
       rw [all_take _ ht, take_one ht, once_snoc, hok.out, hV]
       cases okA <;> cases (q.take m).all (keyB nameR) <;> cases V <;> cases onceB (q.take m) <;> rfl)
      rw [hV] at hnm;have ht' := Hd ht;clear ht hV
      go_upto_region 9 with fail
      go_cut [3] (fun v wx => v = .bool (ok && V) /\ Hid (Below wv.heap.size wv wx))
      case first =>
       cases ok with
       | false =>
        clear hnm;go_wp2_with fail
        go_meet
        exact ⟨rfl, hb⟩
       | true =>
        go_wp2_with fail;refine hnm.mono ?_;rintro e w2 ⟨rfl, hb3⟩;have hxx := Hd (hb.out.trans (hb3.mono hb.out.size));clear hnm hb3 k0 k1 kk;go_wp2_with fail
        go_meet
        exact ⟨by simp, hxx⟩
      case rest =>
       obtain ⟨rfl, hbc⟩ := hcut;obtain ⟨okM, hokM⟩ : ∃ okM, (ok && V) = okM := ⟨_, rfl⟩;rw [hokM] at hstep ⊢;clear hokM hok hb k0 k1 kk hnm;obtain ⟨wy, hwy⟩ : ∃ wy, wy = wr := ⟨wr, rfl⟩;subst hwy;go_wp2_with fail
       go_loopw [3, 6] (fun o i wq => ∃ (j : Nat) (ok : Bool), j <= m /\ i = .int .i64 j /\ o = .bool ok /\ Hid (ok = (okM && !(q.take j).contains t)) /\ Hid (Below wv.heap.size wv wq)) (fun _ i _ => m - (intOf i).toNat)
       case atStart => exact ⟨0, okM, by omega, rfl, rfl, Hd (by simp), hbc⟩
       case round =>
        clear i1 i2 hlt;obtain ⟨j, okJ, hj, rfl, rfl, hokJ, hb⟩ := hrel;obtain ⟨k0, k1⟩ := (hn0'.out.below (hb.out.mono (by omega))).cells
        by_cases hlt : j < m
        ·have i1 : decide ((j : Int) < (m : Int)) = true := by rw [decide_eq_true_eq]; omega
         have i2 : decide (j < m) = true := by rw [decide_eq_true_eq]; omega
         have i4 : (j : Int) < (n2 : Int) := (by omega);obtain ⟨b9, off9, t9, e9, hbl9, ht9, kk9⟩ := (h2'.out.below hb.out).at_ (show m < n2 by omega);injection e9 with e9;injection e9 with e9 e10 _;subst e9; subst e10
         have hte : t9 = t := by have := ht'.out; rw [ht9] at this; injection this
         subst hte;obtain ⟨b9, off9, t2, e9, hbl8, ht2, kk8⟩ := (h2'.out.below hb.out).at_ (show j < n2 by omega);injection e9 with e9;injection e9 with e9 e10 _;subst e9; subst e10
         have hsn : Hid ((q.take (j + 1)).contains t9 = ((q.take j).contains t9 || decide (t9 = t2))) := Hd (by rw [take_one ht2, contains_snoc]);have hse := str_eq t9 t2;clear ht9 ht2
         cases okJ with
         | false =>
          have hok2 : Hid (false = (okM && !(q.take (j + 1)).contains t9)) := Hd (by
           rw [hsn.out, Bool.not_or, <- Bool.and_assoc, <- hokJ.out]
           rfl)
          clear hse kk8 kk9;go_wp2_with fail
          go_quiet (fail)
          have hbq := Hd (hb.out.trans ((Joins.below_draws wr.heap.size wr nq).mono hb.out.size));go_wp2_with fail;go_roundw
          case rel => exact ⟨j + 1, false, by omega, by go_num, rfl, hok2, hbq⟩
          case measure => simp [intOf]; omega
         | true =>
          have hok2 : Hid ((!decide (t9 = t2)) = (okM && !(q.take (j + 1)).contains t9)) := Hd (by
           rw [hsn.out, Bool.not_or, <- Bool.and_assoc, <- hokJ.out]
           rfl)
          obtain ⟨D, hD⟩ : ∃ D, decide (t9 = t2) = D := ⟨_, rfl⟩;rw [hD] at hse hok2;obtain ⟨S, hS⟩ : ∃ S, strOf t9 = S := ⟨_, rfl⟩;obtain ⟨S2, hS2⟩ : ∃ S2, strOf t2 = S2 := ⟨_, rfl⟩;simp only [tv] at kk8 kk9;rw [hS, hS2] at hse;rw [hS2] at kk8;rw [hS] at kk9;clear hD hS hS2;go_wp2_with fail
          go_quiet (fail)
          have hbq := Hd (hb.out.trans ((Joins.below_draws wr.heap.size wr nq).mono hb.out.size));go_wp2_with fail;go_roundw
          case rel => exact ⟨j + 1, !D, by omega, by go_num, by first | rfl | (rw [hse]), hok2, hbq⟩
          case measure => simp [intOf]; omega
        ·have i1 : decide ((j : Int) < (m : Int)) = false := by rw [decide_eq_false_iff_not]; omega
         have i2 : decide (j < m) = false := by rw [decide_eq_false_iff_not]; omega
         obtain rfl : j = m := by omega
         have hfin : Hid (okJ = (okA && ((q.take (j + 1)).all (keyB nameR) && onceB (q.take (j + 1))))) := Hd (by rw [hstep.out, hokJ.out]);clear hlt;go_wp2_with fail;go_roundw
         case rel => exact ⟨j + 1, okJ, by omega, by go_num, rfl, hfin, hb⟩
         case measure => simp [intOf]; omega
     ·have i1 : decide ((m : Int) < (n2 : Int)) = false := by rw [decide_eq_false_iff_not]; omega
      have i2 : decide (m < n2) = false := by rw [decide_eq_false_iff_not]; omega
      have hf : ok = R := by
       have := hok.out;rw [List.take_of_length_le (by have := hl2'.out; omega)] at this;rw [hR2.out, this]
      subst hf;have hx2 := Hd (hb0'.out.trans (hb.out.mono hb0'.out.size));go_wp2_with fail;go_ret;exact ⟨rfl, hx2.out⟩
end Go.Proofs.YtdnfnkicmfkkmaaGreatDoor.Ky
end

section
namespace Go.Proofs.YtdnfnkicmfkkmaaGreatDoor.Ky
open Go.RowKit Go.Shelf UtfW
set_option maxHeartbeats 2000000 in
set_option maxRecDepth 100000 in
theorem refMay_any (A : Option Addr) (n c : Nat) (l : List Rl) (w : World) (h : Rs w A n c l) (hS : ∀ r ∈ l, Smr 900000 r) :
  Calls Tryz.prog 45 #[.slice A n c] w fun e w' => e = .returned (.bool (mayB nameR l)) /\ Below w.heap.size w w' := by
 have hl := h.len;have hm := h.max;have hle := h.le
 have hP : mayB nameR l = (decide (1 <= n /\ n <= 64) && mayP nameR [] l) := by
  unfold mayB;rw [hl]
 obtain ⟨R, hR⟩ : ∃ R, mayB nameR l = R := ⟨_, rfl⟩;rw [hR] at hP ⊢;have hP' := Hd hP;have hl' := Hd hl;have h' := Hd h;have hS' := Hd hS;clear hR hP hl h hS
 go_enter Tryz.func45, Tryz.ntmps45
 go_wp2_with fail
 go_loopw [3] (fun i wr => ∃ k : Nat, k <= n /\ i = .int .i64 k /\ Hid (mayP nameR [] (l.take k) = true) /\ Hid (Below w.heap.size w wr)) (fun i _ => n - (intOf i).toNat)
 case atStart => exact ⟨0, by omega, rfl, Hd rfl, Hd (Below.refl _ _)⟩
 case round =>
  obtain ⟨k, hk, rfl, ho, hb⟩ := hrel
  by_cases hlt : k < n
  ·have i1 : decide ((k : Int) < (n : Int)) = true := by rw [decide_eq_true_eq]; omega
   have i2 : decide (k < n) = true := by rw [decide_eq_true_eq]; omega
   have i3 : (k : Int) < (n : Int) := by omega
   have hrr := h'.out.below hb.out;obtain ⟨b, off, r, A1, n1, c1, A2, n2, c2, rfl, hbl, hr, t1, t2, k0, k1⟩ := Rs.at_ hrr hlt;have hrl := hS'.out r (List.mem_of_getElem? hr)
   have hcut : Rs wr (some ⟨b, off, none⟩) k c (l.take k) := by
    have := Sq.cut hrr 0 k (by omega) (by omega) (some ⟨b, off, none⟩) (fun b' o' e _ => by injection e with e; injection e with e1 e2; subst e1; subst e2; simp) (fun h1 h2 => by cases h2);rw [Nat.sub_zero, Nat.sub_zero, List.drop_zero] at this;exact this
   have hq : Hid (∀ x, Below wr.heap.size wr x -> x.cell? ⟨b, off + k * 2, none⟩ = some (.slice A1 n1 c1) /\ x.cell? ⟨b, off + k * 2 + 1, none⟩ = some (.slice A2 n2 c2)) := Hd fun x hx => ⟨(hx.cell hbl).trans k0, (hx.cell hbl).trans k1⟩
   have hdr : Hid (Below wr.heap.size wr wr.drew) := Hd (Joins.below_draws wr.heap.size wr 1)
   have cR : Hid (∀ x, Below wr.heap.size wr x -> Calls Tryz.prog 69 #[.agg #[.slice A1 n1 c1, .slice A2 n2 c2]] x fun e w'' => e = .returned (.bool (ruleB nameR r)) /\ Below x.heap.size x w'') := Hd fun x hx =>
    refRule_any A1 n1 c1 A2 n2 c2 r _ (t1.below hx) (t2.below hx) hrl
   have hstep : Hid (ruleB nameR r = true -> placedB (l.take k) r = true -> mayP nameR [] (l.take (k + 1)) = true) := Hd fun g1 g2 => by
    rw [take_one hr, mayP_append, ho.out, List.nil_append];simp [mayP, g1, g2]
   have hbad : Hid (ruleB nameR r = false \/ placedB (l.take k) r = false -> R = false) := Hd fun g => by
    have e : l = l.take (k + 1) ++ l.drop (k + 1) := (List.take_append_drop _ _).symm;rw [hP'.out];refine Bool.and_eq_false_iff.2 (.inr ?_);rw [e, mayP_append, take_one hr, mayP_append, ho.out, List.nil_append];rcases g with g | g <;> simp [mayP, g]
   cases hru : ruleB nameR r with
   | false =>
    rw [hru] at cR;obtain rfl : R = false := hbad.out (.inl hru);clear hrl hcut hrr t1 t2 hr hru hstep hbad k0 k1;go_wp2_with fail;refine Pl.wp_region_plan 14 (.take 0 (.take 1 (.take 2 (.take 3 (.run 4 (.take 5 (.take 6 (.take 7 (.take 8 (.take 9 (.take 10 (.take 11 (.take 12 (.take 13 .done)))))))))))))) (fun x => x.cell? ⟨b, off + k * 2, none⟩ = some (.slice A1 n1 c1) /\ x.cell? ⟨b, off + k * 2 + 1, none⟩ = some (.slice A2 n2 c2)) (by kernel_rfl) (by kernel_rfl) (by exact hq.out _ hdr.out) ?_;simp only [Pl.fill, Al_4, Al_5, Al_6, Al_7]
    iterate 4
     refine Pl.take_go ?_ (by rfl) (fun _ _ _ h => h) ?_ ?_
     rotate_left
     ·(intro x hSw; (try dsimp only at hSw); (try obtain ⟨s0, s1⟩ := hSw); go_simp; try with_reducible rfl)
     try simp only [Act.put, Al_1, Al_2, Al_3]
    refine Pl.run_go (fun K hK => ?_);go_simp;refine (cR.out _ hdr.out).mono ?_;rintro e w9 ⟨rfl, hb9⟩;have hb9' := Hd (hdr.out.trans (hb9.mono hdr.out.size));have hs9 := hb9'.out.size;clear hb9;have q9 := Hd (hq.out _ hb9'.out);dsimp only;refine hK.out _ _ (Pl.more_go _ (fun _ h => h) (by exact q9.out) ?_);clear hK K
    try simp only [Act.put, Al_1, Al_2, Al_3]
    iterate 2
     refine Pl.take_go ?_ (by rfl) (fun _ _ _ h => h) ?_ ?_
     rotate_left
     ·(intro x hSw; (try dsimp only at hSw); (try obtain ⟨s0, s1⟩ := hSw); go_simp; try with_reducible rfl)
     try simp only [Act.put, Al_1, Al_2, Al_3]
    iterate 7
     refine Pl.take_skip (by rfl) (fun _ _ _ h => h) ?_
     try simp only [Act.put, Al_1, Al_2, Al_3]
    refine Pl.done_go ?_;clear q9;go_wp2_with fail;have hbA' := Hd (hb.out.trans (hb9'.out.mono hb.out.size));go_ret;exact ⟨rfl, hbA'.out⟩
   | true =>
    rw [hru] at cR;have hkc : k <= c := by omega
    have hrne : r.1 ≠ [] := by
     intro e;unfold ruleB at hru;rw [e] at hru;simp at hru
    have cP : Hid (∀ x, Below wr.heap.size wr x -> Calls Tryz.prog 70 #[.slice (some ⟨b, off, none⟩) k c, .agg #[.slice A1 n1 c1, .slice A2 n2 c2]] x fun e w'' => e = .returned (.bool (placedB (l.take k) r)) /\ Below x.heap.size x w'') := Hd fun x hx =>
     refPlaced_any (some ⟨b, off, none⟩) k c (l.take k) A1 n1 c1 A2 n2 c2 r _ (hcut.below hx) (t1.below hx) hrne
    cases hpl : placedB (l.take k) r with
    | false =>
     rw [hpl] at cP;obtain rfl : R = false := hbad.out (.inr hpl);clear hrl hcut hrr t1 t2 hr hru hstep hbad hpl hrne k0 k1;go_wp2_with fail;refine Pl.wp_region_plan 14 (.take 0 (.take 1 (.take 2 (.take 3 (.run 4 (.take 5 (.take 6 (.take 7 (.take 8 (.take 9 (.take 10 (.take 11 (.take 12 (.take 13 .done)))))))))))))) (fun x => x.cell? ⟨b, off + k * 2, none⟩ = some (.slice A1 n1 c1) /\ x.cell? ⟨b, off + k * 2 + 1, none⟩ = some (.slice A2 n2 c2)) (by kernel_rfl) (by kernel_rfl) (by exact hq.out _ hdr.out) ?_;simp only [Pl.fill, Al_4, Al_5, Al_6, Al_7]
     iterate 4
      refine Pl.take_go ?_ (by rfl) (fun _ _ _ h => h) ?_ ?_
      rotate_left
      ·(intro x hSw; (try dsimp only at hSw); (try obtain ⟨s0, s1⟩ := hSw); go_simp; try with_reducible rfl)
      try simp only [Act.put, Al_1, Al_2, Al_3]
     refine Pl.run_go (fun K hK => ?_);go_simp;refine (cR.out _ hdr.out).mono ?_;rintro e w9 ⟨rfl, hb9⟩;have hb9' := Hd (hdr.out.trans (hb9.mono hdr.out.size));have hs9 := hb9'.out.size;clear hb9;have q9 := Hd (hq.out _ hb9'.out);dsimp only;refine hK.out _ _ (Pl.more_go _ (fun _ h => h) (by exact q9.out) ?_);clear hK K
     try simp only [Act.put, Al_1, Al_2, Al_3]
     iterate 9
      refine Pl.take_go ?_ (by rfl) (fun _ _ _ h => h) ?_ ?_
      rotate_left
      ·(intro x hSw; (try dsimp only at hSw); (try obtain ⟨s0, s1⟩ := hSw); go_simp; try with_reducible rfl)
      try simp only [Act.put, Al_1, Al_2, Al_3]
     refine Pl.done_go ?_;clear q9;go_wp2_with fail;refine (cP.out _ hb9'.out).mono ?_;rintro e wA ⟨rfl, hbA⟩;have hbA' := Hd (hb.out.trans ((hb9'.out.trans (hbA.mono hs9)).mono hb.out.size));clear hbA;go_wp2_with fail;go_ret;exact ⟨rfl, hbA'.out⟩
    | true =>
     rw [hpl] at cP;have ho2 := Hd (hstep.out hru hpl);clear hrl hcut hrr t1 t2 hr hru hstep hbad hpl hrne k0 k1;go_wp2_with fail;refine Pl.wp_region_plan 14 (.take 0 (.take 1 (.take 2 (.take 3 (.run 4 (.take 5 (.take 6 (.take 7 (.take 8 (.take 9 (.take 10 (.take 11 (.take 12 (.take 13 .done)))))))))))))) (fun x => x.cell? ⟨b, off + k * 2, none⟩ = some (.slice A1 n1 c1) /\ x.cell? ⟨b, off + k * 2 + 1, none⟩ = some (.slice A2 n2 c2)) (by kernel_rfl) (by kernel_rfl) (by exact hq.out _ hdr.out) ?_;simp only [Pl.fill, Al_4, Al_5, Al_6, Al_7]
     iterate 4
      refine Pl.take_go ?_ (by rfl) (fun _ _ _ h => h) ?_ ?_
      rotate_left
      ·(intro x hSw; (try dsimp only at hSw); (try obtain ⟨s0, s1⟩ := hSw); go_simp; try with_reducible rfl)
      try simp only [Act.put, Al_1, Al_2, Al_3]
     refine Pl.run_go (fun K hK => ?_);go_simp;refine (cR.out _ hdr.out).mono ?_;rintro e w9 ⟨rfl, hb9⟩;have hb9' := Hd (hdr.out.trans (hb9.mono hdr.out.size));have hs9 := hb9'.out.size;clear hb9;have q9 := Hd (hq.out _ hb9'.out);dsimp only;refine hK.out _ _ (Pl.more_go _ (fun _ h => h) (by exact q9.out) ?_);clear hK K
     try simp only [Act.put, Al_1, Al_2, Al_3]
     iterate 9
      refine Pl.take_go ?_ (by rfl) (fun _ _ _ h => h) ?_ ?_
      rotate_left
      ·(intro x hSw; (try dsimp only at hSw); (try obtain ⟨s0, s1⟩ := hSw); go_simp; try with_reducible rfl)
      try simp only [Act.put, Al_1, Al_2, Al_3]
     refine Pl.done_go ?_;clear q9;go_wp2_with fail;refine (cP.out _ hb9'.out).mono ?_;rintro e wA ⟨rfl, hbA⟩;have hbA' := Hd (hb.out.trans ((hb9'.out.trans (hbA.mono hs9)).mono hb.out.size));clear hbA;go_wp2_with fail;go_roundw
     case rel => exact ⟨k + 1, by omega, by go_num, ho2, hbA'⟩
     case measure => simp [intOf]; omega
  ·have i1 : decide ((k : Int) < (n : Int)) = false := by rw [decide_eq_false_iff_not]; omega
   have i2 : decide (k < n) = false := by rw [decide_eq_false_iff_not]; omega
   have hR2 : Hid (R = decide (1 <= n /\ n <= 64)) := Hd (by
    have := ho.out;rw [List.take_of_length_le (by have := hl'.out; omega)] at this
    rw [hP'.out, this, Bool.and_true])
   by_cases hn1 : 1 <= n
   ·have j1 : decide ((n : Int) ≥ 1) = true := by rw [decide_eq_true_eq]; omega
    have j2 : decide (1 <= n) = true := by rw [decide_eq_true_eq]; omega
    by_cases hn2 : n <= 64
    ·have j3 : decide ((n : Int) <= 64) = true := by rw [decide_eq_true_eq]; omega
     have j4 : decide (n <= 64) = true := by rw [decide_eq_true_eq]; omega
     have hf := Hd (hR2.out.trans (decide_eq_true (show 1 <= n /\ n <= 64 from ⟨hn1, hn2⟩)));clear hn1 hn2;go_wp2_with fail;go_ret;exact ⟨by rw [hf.out]; rfl, hb.out⟩
    ·have j3 : decide ((n : Int) <= 64) = false := by rw [decide_eq_false_iff_not]; omega
     have j4 : decide (n <= 64) = false := by rw [decide_eq_false_iff_not]; omega
     have hf := Hd (hR2.out.trans (decide_eq_false (show ¬(1 <= n /\ n <= 64) from fun h => hn2 h.2)));clear hn1 hn2;go_wp2_with fail;go_ret;exact ⟨by rw [hf.out]; rfl, hb.out⟩
   ·have j1 : decide ((n : Int) ≥ 1) = false := by rw [decide_eq_false_iff_not]; omega
    have j2 : decide (1 <= n) = false := by rw [decide_eq_false_iff_not]; omega
    have hf := Hd (hR2.out.trans (decide_eq_false (show ¬(1 <= n /\ n <= 64) from fun h => hn1 h.1)));clear hn1;go_wp2_with fail;go_ret;exact ⟨by rw [hf.out]; rfl, hb.out⟩
end Go.Proofs.YtdnfnkicmfkkmaaGreatDoor.Ky
end

section
namespace Go.Proofs.YtdnfnkicmfkkmaaGreatDoor.No
open Go.RowKit UtfW Xl Xt Xo
open Go.Proofs.YtdnfnkicmfkkmaaGreatDoor.Ky (Ts OwX tv Rs Rl)
def RlS (l : List Ky.Rl) : Prop := l.length <= 700000 /\ ∀ r ∈ l, Ky.Smr 700000 r
theorem RlS.smr {l : List Ky.Rl} (h : RlS l) : ∀ r ∈ l, Ky.Smr 900000 r := fun r hr => by
 obtain ⟨h1, h2, h3, h4⟩ := h.2 r hr;exact ⟨by omega, by omega, fun t ht => Nat.le_trans (h3 t ht) (by omega), fun t ht => Nat.le_trans (h4 t ht) (by omega)⟩
theorem RlS.ok {l : List Ky.Rl} (h : RlS l) (hm : Ky.mayB nameR l = true) : RlOk l :=
 ⟨by have := h.1; omega, fun r hr => by
  obtain ⟨h1, h2, h3, h4⟩ := h.2 r hr
  exact ⟨by omega, ⟨by omega, fun t ht => Nat.le_trans (h4 t ht) (by omega)⟩, rule_keys hm hr⟩⟩
theorem may_cons {l : List Ky.Rl} (hm : Ky.mayB nameR l = true) : ∃ r l' p ps, l = r :: l' /\ r.1 = p :: ps := by
 unfold Ky.mayB at hm;simp only [Bool.and_eq_true, decide_eq_true_eq] at hm
 cases l with
 | nil => simp at hm
 | cons r l' =>
  have h1 := Ky.mayP_rules hm.2 r (by simp);unfold Ky.ruleB at h1;simp only [Bool.and_eq_true, decide_eq_true_eq] at h1
  cases hp : r.1 with
  | nil => rw [hp] at h1; simp at h1
  | cons p ps => exact ⟨r, l', p, ps, rfl, hp⟩
theorem NormR_may {l : List Ky.Rl} {n : Nd} (h : Ky.mayB nameR l = false) : NormR l n = .error (20, 0) := by
 unfold NormR;rw [if_pos h]
theorem NormR_fair {l : List Ky.Rl} {n : Nd} (h : Ky.mayB nameR l = true) (h2 : fairN n = false \/ n.kind ≠ 1) : NormR l n = .error (80, 0) := by
 unfold NormR;rw [if_neg (by rw [h]; decide), if_pos h2]
theorem NormR_name {l l' : List Ky.Rl} {n : Nd} {r : Ky.Rl} {p : Tx} {ps : List Tx} (h : Ky.mayB nameR l = true) (h2 : fairN n = true) (h3 : n.kind = 1) (e : l = r :: l') (e2 : r.1 = p :: ps) : NormR l n = if n.name ≠ p then .error (24, 0) else normN l r.1 0 n := by
 unfold NormR;rw [if_neg (by rw [h]; decide), if_neg (by rw [h2, h3]; simp), e];simp only;rw [e2]
set_option maxHeartbeats 20000000 in
set_option maxRecDepth 100000 in
theorem rNormal_any (B0 : Nat) (Al : Option Addr) (nl cl : Nat) (l : List Ky.Rl) (vs : List Value) (n : Nd) (w : World) (hB0 : B0 <= w.heap.size) (hl : Rs w Al nl cl l) (hn : NdI (fun j => j < B0) w vs n) (hS : RlS l) (hwn : wN n <= 100000) :
    Calls Tryz.prog 27 #[.slice Al nl cl, .agg vs.toArray] w fun e w' => NormP B0 w.heap.size (NormR l n) e w' /\ Below w.heap.size w w' := by
  obtain ⟨RN, hRN⟩ : ∃ RN, NormR l n = RN := ⟨_, rfl⟩;rw [hRN];obtain ⟨kd, nm, tx, as_, kz, rfl⟩ : ∃ kd nm tx as_ kz, n = Nd.mk kd nm tx as_ kz := by cases n; exact ⟨_, _, _, _, _, rfl⟩
  have hn0 := hn;obtain ⟨Ai, ci, Ak, ck, rfl, hA, hK, hXA, hXK⟩ := hn.cells;obtain ⟨li, hli⟩ : ∃ la, as_.length = la := ⟨_, rfl⟩;obtain ⟨lk, hlk⟩ : ∃ lk, kz.length = lk := ⟨_, rfl⟩;obtain ⟨S1, hS1⟩ : ∃ S, strOf nm = S := ⟨_, rfl⟩;obtain ⟨S2, hS2⟩ : ∃ S, strOf tx = S := ⟨_, rfl⟩;rw [hli, hlk, hS1, hS2] at hn0;rw [hli, hlk, hS1, hS2];obtain ⟨T, hT⟩ : ∃ T, w.heap.size = T := ⟨_, rfl⟩;obtain ⟨w1, hw1⟩ : ∃ w1, w.alloc (.cells #[.int .i64 kd, .string S1, .string S2, .slice Ai li ci, .slice Ak lk ck] 26) = w1 := ⟨_, rfl⟩;obtain ⟨w2, hw2⟩ : ∃ w2, w1.alloc (.cells #[.int .i64 0, .string ⟨#[]⟩, .string ⟨#[]⟩, .slice none 0 0, .slice none 0 0] 26) = w2 := ⟨_, rfl⟩;have hs1 : w1.heap.size = T + 1 := by rw [<- hw1, World.size_alloc, hT]
  have hs2 : w2.heap.size = T + 2 := by rw [<- hw2, World.size_alloc, hs1]
  have hb1 : Below w.heap.size w w1 := by rw [<- hw1]; exact (Below.refl _ _).alloc (Nat.le_refl _) _
  have hb2 : Below w1.heap.size w1 w2 := by rw [<- hw2]; exact (Below.refl _ _).alloc (Nat.le_refl _) _
  have hk1 : w1.heap[T]? = some (.cells #[.int .i64 kd, .string S1, .string S2, .slice Ai li ci, .slice Ak lk ck] 26) := by rw [<- hw1, <- hT]; exact heap_alloc_new w _
  have hk2 : w2.heap[T + 1]? = some (.cells #[.int .i64 0, .string ⟨#[]⟩, .string ⟨#[]⟩, .slice none 0 0, .slice none 0 0] 26) := by rw [<- hw2, <- hs1]; exact heap_alloc_new w1 _
  have hk1' := (hb2.block T (by omega)).trans hk1;have hbw : Below w.heap.size w w2 := hb1.trans (hb2.mono hb1.size)
  have hall : Hid (∀ x, Below w2.heap.size w2 x -> ((x.cell? ⟨T, 0, none⟩ = some (.int .i64 kd) /\ x.cell? ⟨T, 1, none⟩ = some (.string S1) /\ x.cell? ⟨T, 2, none⟩ = some (.string S2) /\ x.cell? ⟨T, 3, none⟩ = some (.slice Ai li ci) /\ x.cell? ⟨T, 4, none⟩ = some (.slice Ak lk ck)) /\ Rs x Al nl cl l /\ NdI (fun j => j < B0) x [.int .i64 kd, .string S1, .string S2, .slice Ai li ci, .slice Ak lk ck] (.mk kd nm tx as_ kz)) /\ B0 <= x.heap.size /\ x.heap[T + 1]? = some (.cells #[.int .i64 0, .string ⟨#[]⟩, .string ⟨#[]⟩, .slice none 0 0, .slice none 0 0] 26)) := Hd fun x hx => by
    have g1 := (hx.block T (by omega)).trans hk1';have hwx := hbw.trans (hx.mono hbw.size);exact ⟨⟨⟨Xp.cell_blk g1 (i := 0) rfl, Xp.cell_blk g1 (i := 1) rfl, Xp.cell_blk g1 (i := 2) rfl, Xp.cell_blk g1 (i := 3) rfl, Xp.cell_blk g1 (i := 4) rfl⟩, hl.below hwx, hn0.later (fun j hj => Nat.lt_of_lt_of_le hj hB0) hwx⟩, Nat.le_trans hB0 hwx.size, (hx.block (T + 1) (by omega)).trans hk2⟩
  have hfair := Hd (Xp.rFair_any (SizeOf.sizeOf (Nd.mk kd nm tx as_ kz)) (fun j => j < B0) (.mk kd nm tx as_ kz) (Nat.le_refl _) (Xp.wN_sm _ (by omega)));have hmay := Hd (Ky.refMay_any Al nl cl l w2 (hl.below hbw) hS.smr);have hRN' := Hd hRN;have hS1' := Hd hS1;have hbw' := Hd hbw;have hTw := Hd hT;have hs2' := Hd hs2;have hS' := Hd hS;have hwn' := Hd hwn;have hB0w : Hid (B0 <= T) := Hd (by omega);have hlle := hl.le;have hlm := hl.max;have hll := Hd hl.len;obtain ⟨MB, hMB⟩ : ∃ MB, Ky.mayB nameR l = MB := ⟨_, rfl⟩;rw [hMB] at hmay;have hMB' := Hd hMB;obtain ⟨FB, hFB⟩ : ∃ FB, fairN (Nd.mk kd nm tx as_ kz) = FB := ⟨_, rfl⟩;have hFB' := Hd hFB;clear hB0 hl hn hn0 hS hwn hRN hA hK hXA hXK hli hlk hS1 hS2 hb1 hb2 hk1 hk2 hk1' hbw hs2 hMB hFB
  go_enter Tryz.func27, Tryz.ntmps27
  go_wp2_with fail;refine hmay.out.mono ?_;rintro e w3 ⟨rfl, hb3⟩;have hb3' := Hd hb3;clear hw1 hw2 hT hs1 hb3 hmay
  cases MB with
  | false =>
    have hRk : Hid (RN = .error (20, 0)) := Hd (by rw [<- hRN'.out]; exact NormR_may hMB'.out);have hbW := hb3'.out;have hbF := Hd (hbw'.out.trans (hbW.mono hbw'.out.size));have hrb := (hall.out w3 hbW).2.2;clear hbW;obtain ⟨q0, q1, q2, q3, q4⟩ := nd_same hrb;have zf := fun i => frozen_of_row w3 (T + 1) i _ _ hrb
    have y0 := Xp.cell_blk hrb (i := 0) rfl;have y1 := Xp.cell_blk hrb (i := 1) rfl;have y2 := Xp.cell_blk hrb (i := 2) rfl;have y3 := Xp.cell_blk hrb (i := 3) rfl;have y4 := Xp.cell_blk hrb (i := 4) rfl;have hrbH := Hd hrb;clear hrb;go_wp2_with fail;exact bodyPost_ret (res_nd3 (x := .int .i64 20) (y := .int .i64 0) rfl hrbH.out rfl rfl rfl) rfl ⟨by rw [hRk.out]; exact ⟨by decide, rfl⟩, hbF.out⟩
  | true =>
    obtain ⟨⟨⟨u0, u1, u2, u3, u4⟩, hl3, hn3⟩, hB3, _⟩ := hall.out w3 hb3'.out;have hfc := Hd (hfair.out _ w3 hn3 (fun j hj => Nat.lt_of_lt_of_le hj hB3));rw [hFB'.out] at hfc;clear hl3 hn3 hB3
    cases FB with
    | false =>
      go_wp2_with fail;refine hfc.out.mono ?_;rintro e w4 ⟨rfl, hb4⟩;have hbw4 := Hd (hb3'.out.trans (hb4.mono hb3'.out.size));clear hb4 hfc u0 u1 u2 u3 u4;have hRk : Hid (RN = .error (80, 0)) := Hd (by rw [<- hRN'.out]; exact NormR_fair hMB'.out (.inl hFB'.out));have hbW := hbw4.out;have hbF := Hd (hbw'.out.trans (hbW.mono hbw'.out.size));have hrb := (hall.out w4 hbW).2.2;clear hbW;obtain ⟨q0, q1, q2, q3, q4⟩ := nd_same hrb;have zf := fun i => frozen_of_row w4 (T + 1) i _ _ hrb
      have y0 := Xp.cell_blk hrb (i := 0) rfl;have y1 := Xp.cell_blk hrb (i := 1) rfl;have y2 := Xp.cell_blk hrb (i := 2) rfl;have y3 := Xp.cell_blk hrb (i := 3) rfl;have y4 := Xp.cell_blk hrb (i := 4) rfl;have hrbH := Hd hrb;clear hrb;go_wp2_with fail;exact bodyPost_ret (res_nd3 (x := .int .i64 80) (y := .int .i64 0) rfl hrbH.out rfl rfl rfl) rfl ⟨by rw [hRk.out]; exact ⟨by decide, rfl⟩, hbF.out⟩
    | true =>
      have u0H := Hd u0;go_wp2_with fail;refine hfc.out.mono ?_;rintro e w4 ⟨rfl, hb4⟩;have hbw4 := Hd (hb3'.out.trans (hb4.mono hb3'.out.size));clear hb4 hfc u0 u1 u2 u3 u4;obtain ⟨⟨⟨u0, u1, u2, u3, u4⟩, hl4, hn4⟩, hB4, _⟩ := hall.out w4 hbw4.out
      by_cases hkd : kd = 1
      · subst hkd
        obtain ⟨r, l', p, ps, el, ep⟩ := may_cons hMB'.out;have hnl : 0 < nl := by rw [<- hll.out, el]; simp
        obtain ⟨bl, ol, r', A1, n1, c1, A2, n2, c2, eAl, hbl, hr', t1, t2, k0, k1⟩ := Rs.at_ hl4 hnl;have er : r' = r := by rw [el] at hr'; simpa using hr'.symm
        subst er;subst eAl;rw [Nat.zero_mul, Nat.add_zero] at k0;have hn1 : 0 < n1 := by rw [<- t1.len, ep]; simp
        have ht1 := Hd t1;obtain ⟨b1, o1, p', eA1, hb1, hp', k2⟩ := t1.at_ hn1;have epp : p' = p := by rw [ep] at hp'; simpa using hp'.symm
        subst epp;subst eA1;rw [Nat.add_zero] at k2;have hse := Ky.str_eq nm p';obtain ⟨P1, hP1⟩ : ∃ S, strOf p' = S := ⟨_, rfl⟩;rw [Ky.tv, hP1] at k2;rw [hS1'.out, hP1] at hse;have hNR := Hd (NormR_name hMB'.out hFB'.out rfl el ep);have hepH := Hd ep;have hT4 : Hid (T < w4.heap.size /\ bl < w4.heap.size /\ b1 < w4.heap.size) := Hd ⟨by have := hbw4.out.size; have := hs2'.out; omega, hbl, hb1⟩;have n1le := ht1.out.le;have n1max := ht1.out.max;have f0 : (0 : Int) < (nl : Int) := (by omega);have f1 : (0 : Int) < (n1 : Int) := (by omega);have hcall := Hd (rNorm_any (SizeOf.sizeOf (Nd.mk 1 nm tx as_ kz)) B0 (.mk 1 nm tx as_ kz) (Nat.le_refl _) hwn'.out (some ⟨bl, ol, none⟩) nl cl l (some ⟨b1, o1, none⟩) n1 c1 r'.1 0);have hnH := Hd hn4;have hlH := Hd hl4;have hBH := Hd hB4;have hn1w : Hid (n1 <= 700001) := Hd (by rw [<- ht1.out.len]; exact (hS'.out.2 r' (by rw [el]; simp)).1);clear hl4 hn4 hB4 hr' t1 t2 hp' hP1 el ep hbl hb1
        cases hd : decide (nm = p') with
        | false =>
          rw [hd] at hse;have hq : Hid (NormR l (Nd.mk 1 nm tx as_ kz) = .error (24, 0)) := Hd (by rw [hNR.out, if_pos (show (Nd.mk 1 nm tx as_ kz).name ≠ p' from of_decide_eq_false hd)]);have e9 : (P1.toList == S1.toList) = false := by rw [Bool.eq_false_iff] at hse ⊢; intro h; exact hse (by rw [beq_iff_eq] at h ⊢; exact h.symm)
          clear hd;go_wp2_with fail;refine Pl.wp_region_plan 8 (.take 0 (.take 1 (.take 2 (.take 3 (.take 4 (.take 5 (.take 6 (.take 7 .done)))))))) (fun x => x.cell? ⟨T, 1, none⟩ = some (.string S1) /\ x.cell? ⟨bl, ol, none⟩ = some (.slice (some ⟨b1, o1, none⟩) n1 c1) /\ x.cell? ⟨b1, o1, none⟩ = some (.string P1)) (by kernel_rfl) (by kernel_rfl) (by exact ⟨u1, k0, k2⟩) ?_;simp only [Pl.fill, Al_4, Al_5, Al_6, Al_7]
          iterate 8
            first
            | (refine Pl.take_go ?_ (by rfl) (fun _ _ _ h => h) ?_ ?_
               rotate_left
               · (intro x hSw; (try (dsimp only at hSw)); go_simp; try with_reducible rfl)
               (try simp only [Act.put, Al_1, Al_2, Al_3]))
            | (refine Pl.take_skip (by rfl) (fun _ _ _ h => h) ?_
               (try simp only [Act.put, Al_1, Al_2, Al_3]))
          refine Pl.done_go ?_;have hbW4 := Hd (hbw4.out.trans ((Joins.below_draws w4.heap.size w4 1).mono hbw4.out.size));clear u0 u1 u2 u3 u4 k0 k1 k2;have hRk : Hid (RN = .error (24, 0)) := Hd (by rw [<- hRN'.out]; exact hq.out);have hbW := hbW4.out;have hbF := Hd (hbw'.out.trans (hbW.mono hbw'.out.size));have hrb := (hall.out w4.drew hbW).2.2;clear hbW;obtain ⟨q0, q1, q2, q3, q4⟩ := nd_same hrb;have zf := fun i => frozen_of_row w4.drew (T + 1) i _ _ hrb
          have y0 := Xp.cell_blk hrb (i := 0) rfl;have y1 := Xp.cell_blk hrb (i := 1) rfl;have y2 := Xp.cell_blk hrb (i := 2) rfl;have y3 := Xp.cell_blk hrb (i := 3) rfl;have y4 := Xp.cell_blk hrb (i := 4) rfl;have hrbH := Hd hrb;clear hrb;go_wp2_with fail;exact bodyPost_ret (res_nd3 (x := .int .i64 24) (y := .int .i64 0) rfl hrbH.out rfl rfl rfl) rfl ⟨by rw [hRk.out]; exact ⟨by decide, rfl⟩, hbF.out⟩
        | true =>
          rw [hd] at hse;have hq : Hid (NormR l (Nd.mk 1 nm tx as_ kz) = normN l r'.1 0 (Nd.mk 1 nm tx as_ kz)) := Hd (by rw [hNR.out, if_neg (fun h => h (of_decide_eq_true hd))]);clear hd;go_wp2_with fail;refine Pl.wp_region_plan 8 (.take 0 (.take 1 (.take 2 (.take 3 (.take 4 (.take 5 (.take 6 (.take 7 .done)))))))) (fun x => x.cell? ⟨T, 1, none⟩ = some (.string S1) /\ x.cell? ⟨bl, ol, none⟩ = some (.slice (some ⟨b1, o1, none⟩) n1 c1) /\ x.cell? ⟨b1, o1, none⟩ = some (.string P1)) (by kernel_rfl) (by kernel_rfl) (by exact ⟨u1, k0, k2⟩) ?_;simp only [Pl.fill, Al_4, Al_5, Al_6, Al_7]
          iterate 8
            first
            | (refine Pl.take_go ?_ (by rfl) (fun _ _ _ h => h) ?_ ?_
               rotate_left
               · (intro x hSw; (try (dsimp only at hSw)); go_simp; try with_reducible rfl)
               (try simp only [Act.put, Al_1, Al_2, Al_3]))
            | (refine Pl.take_skip (by rfl) (fun _ _ _ h => h) ?_
               (try simp only [Act.put, Al_1, Al_2, Al_3]))
          refine Pl.done_go ?_;have hb5 : Below w4.heap.size w4 w4.drew := Joins.below_draws w4.heap.size w4 1;have hbw5 := Hd (hbw4.out.trans (hb5.mono hbw4.out.size));have hb6 : Below w4.heap.size w4 w4.drew.drew := Joins.below_draws w4.heap.size w4 2;have hcl := Hd (hcall.out _ w4.drew.drew hBH.out (hlH.out.below hb6) (ht1.out.below hb6) (hnH.out.later (fun j hj => Nat.lt_of_lt_of_le hj hBH.out) hb6) (hS'.out.ok hMB'.out) (by have := hn1w.out; have := hwn'.out; omega) (by have := hwn'.out; omega));rw [show ((0 : Nat) : Int) = 0 from rfl] at hcl;have v0 : w4.drew.cell? ⟨T, 0, none⟩ = some (.int .i64 1) := u0;have v1 : w4.drew.cell? ⟨T, 1, none⟩ = some (.string S1) := u1;have v2 : w4.drew.cell? ⟨T, 2, none⟩ = some (.string S2) := u2;have v3 : w4.drew.cell? ⟨T, 3, none⟩ = some (.slice Ai li ci) := u3;have v4 : w4.drew.cell? ⟨T, 4, none⟩ = some (.slice Ak lk ck) := u4;have vk : w4.drew.cell? ⟨bl, ol, none⟩ = some (.slice (some ⟨b1, o1, none⟩) n1 c1) := k0;obtain ⟨w5, hw5⟩ : ∃ w5, w4.drew = w5 := ⟨_, rfl⟩;have hT5 : Hid (T < w5.heap.size /\ bl < w5.heap.size) := Hd (by rw [<- hw5]; exact ⟨hT4.out.1, hT4.out.2.1⟩);have hs5 : Hid (w5.heap.size = w4.heap.size) := Hd (by rw [<- hw5]; rfl);rw [hw5] at hbw5 hcl v0 v1 v2 v3 v4 vk ⊢;clear u0 u1 u2 u3 u4 k0 k1 k2 hw5 hb5 hb6 hcall;go_wp2_with fail;refine Pl.wp_region_plan 10 (.take 0 (.take 1 (.take 2 (.take 3 (.take 4 (.take 5 (.run 6 (.take 7 (.take 8 (.take 9 .done)))))))))) (fun x => x.cell? ⟨bl, ol, none⟩ = some (.slice (some ⟨b1, o1, none⟩) n1 c1) /\ x.cell? ⟨T, 0, none⟩ = some (.int .i64 1) /\ x.cell? ⟨T, 1, none⟩ = some (.string S1) /\ x.cell? ⟨T, 2, none⟩ = some (.string S2) /\ x.cell? ⟨T, 3, none⟩ = some (.slice Ai li ci) /\ x.cell? ⟨T, 4, none⟩ = some (.slice Ak lk ck)) (by kernel_rfl) (by kernel_rfl) (by exact ⟨vk, v0, v1, v2, v3, v4⟩) ?_;simp only [Pl.fill, Al_4, Al_5, Al_6, Al_7]
          iterate 6
            first
            | (refine Pl.take_go ?_ (by rfl) (fun _ _ _ h => h) ?_ ?_
               rotate_left
               · (intro x hSw; (try (dsimp only at hSw)); go_simp; try with_reducible rfl)
               (try simp only [Act.put, Al_1, Al_2, Al_3]))
            | (refine Pl.take_skip (by rfl) (fun _ _ _ h => h) ?_
               (try simp only [Act.put, Al_1, Al_2, Al_3]))
          refine Pl.run_go (fun K hK => ?_);go_simp;refine hcl.out.mono ?_;rintro e w6 ⟨hnp, hb6⟩;have hb56 : Below w5.heap.size w5 w6 := (show Below w5.heap.size w5 w5.drew from Joins.below_draws w5.heap.size w5 1).trans hb6;have hbw6 := Hd (hbw5.out.trans (hb56.mono hbw5.out.size));obtain ⟨⟨⟨y0, y1, y2, y3, y4⟩, _⟩, _⟩ := hall.out w6 hbw6.out;have hkq := (hb56.cell (p := ⟨bl, ol, none⟩) hT5.out.2).trans vk;have hnpH := Hd hnp;have hRq : Hid (RN = normN l r'.1 0 (Nd.mk 1 nm tx as_ kz)) := Hd (by rw [<- hRN'.out]; exact hq.out);have h56H := Hd hb56;clear hb6 hb56 hnp
          cases hRy : normN l r'.1 0 (Nd.mk 1 nm tx as_ kz) with
          | error c =>
            obtain ⟨cd, q⟩ := c;have h6 := hnpH.out;rw [hRy] at h6;obtain ⟨hcd0, rfl⟩ := h6;have hcd := Hd hcd0;have hRk : Hid (RN = .error (cd, q)) := Hd (hRq.out.trans hRy);clear hRy hcd0;dsimp only;refine hK.out _ _ (Pl.more_go _ (fun _ h => h) (by exact ⟨hkq, y0, y1, y2, y3, y4⟩) ?_);clear hK K
            try simp only [Act.put, Al_1, Al_2, Al_3]
            iterate 3
              first
              | (refine Pl.take_go ?_ (by rfl) (fun _ _ _ h => h) ?_ ?_
                 rotate_left
                 · (intro x hSw; (try (dsimp only at hSw)); go_simp; try with_reducible rfl)
                 (try simp only [Act.put, Al_1, Al_2, Al_3]))
              | (refine Pl.take_skip (by rfl) (fun _ _ _ h => h) ?_
                 (try simp only [Act.put, Al_1, Al_2, Al_3]))
            refine Pl.done_go ?_;clear v0 v1 v2 v3 v4 vk y0 y1 y2 y3 y4 hkq;have hbF := Hd (hbw'.out.trans (hbw6.out.mono hbw'.out.size));have hrb := (hall.out w6 hbw6.out).2.2;obtain ⟨q0, q1, q2, q3, q4⟩ := nd_same hrb;have zf := fun i => frozen_of_row w6 (T + 1) i _ _ hrb
            have y0 := Xp.cell_blk hrb (i := 0) rfl;have y1 := Xp.cell_blk hrb (i := 1) rfl;have y2 := Xp.cell_blk hrb (i := 2) rfl;have y3 := Xp.cell_blk hrb (i := 3) rfl;have y4 := Xp.cell_blk hrb (i := 4) rfl;have hrbH := Hd hrb;clear hrb;go_wp2_with fail;exact bodyPost_ret (res_nd3 (x := .int .i64 cd) (y := .int .i64 (q : Nat)) rfl hrbH.out rfl rfl rfl) rfl ⟨by rw [hRk.out]; exact ⟨hcd.out, rfl⟩, hbF.out⟩
          | ok x =>
            have h6 := hnpH.out;rw [hRy] at h6;obtain ⟨vs6, rfl, hx6⟩ := h6;have hRk : Hid (RN = .ok x) := Hd (hRq.out.trans hRy);obtain ⟨kd3, nm3, tx3, as3, kz3, ekid⟩ : ∃ kd nm tx as_ kz, x = Nd.mk kd nm tx as_ kz := by cases x; exact ⟨_, _, _, _, _, rfl⟩
            have hx6H := Hd hx6;rw [ekid] at hx6;obtain ⟨Aa3, ca3, Ak3, ck3, rfl, _⟩ := hx6.cells;obtain ⟨la3, hla3⟩ : ∃ la, as3.length = la := ⟨_, rfl⟩;obtain ⟨lk3, hlk3⟩ : ∃ lk, kz3.length = lk := ⟨_, rfl⟩;obtain ⟨Y1, hY1⟩ : ∃ S, strOf nm3 = S := ⟨_, rfl⟩;obtain ⟨Y2, hY2⟩ : ∃ S, strOf tx3 = S := ⟨_, rfl⟩;rw [hla3, hlk3, hY1, hY2] at hx6H;rw [hla3, hlk3, hY1, hY2];clear hx6 ekid hla3 hlk3 hY1 hY2 hRy hnpH;dsimp only;refine hK.out _ _ (Pl.more_go _ (fun _ h => h) (by exact ⟨hkq, y0, y1, y2, y3, y4⟩) ?_);clear hK K
            try simp only [Act.put, Al_1, Al_2, Al_3]
            iterate 3
              first
              | (refine Pl.take_go ?_ (by rfl) (fun _ _ _ h => h) ?_ ?_
                 rotate_left
                 · (intro x hSw; (try (dsimp only at hSw)); go_simp; try with_reducible rfl)
                 (try simp only [Act.put, Al_1, Al_2, Al_3]))
              | (refine Pl.take_skip (by rfl) (fun _ _ _ h => h) ?_
                 (try simp only [Act.put, Al_1, Al_2, Al_3]))
            refine Pl.done_go ?_;clear v0 v1 v2 v3 v4 vk y0 y1 y2 y3 y4 hkq;have hrb := (hall.out w6 hbw6.out).2.2;obtain ⟨g1, g2, g3⟩ := set5 hrb (.int .i64 kd3) (.string Y1) (.string Y2) (.slice Aa3 la3 ca3) (.slice Ak3 lk3 ck3);have hg1 := Hd g1;have hbF := Hd (Below.set5 (b := T + 1) (hbw'.out.trans (hbw6.out.mono hbw'.out.size)) (by have := hTw.out; omega) (.int .i64 kd3) (.string Y1) (.string Y2) (.slice Aa3 la3 ca3) (.slice Ak3 lk3 ck3))
            have hfin := Hd (hx6H.out.stay (X' := fun k => k < B0 \/ (w.heap.size <= k /\ k < w6.heap.size)) fun k hk => ⟨by
              have h1 := hbw4.out.size;have h2 := hs2'.out;have h3 := hs5.out;have h4 := hTw.out;have h5 : w5.drew.heap.size = w5.heap.size := rfl;rcases hk with hk | hk
              · exact .inl hk
              · exact .inr ⟨by omega, hk.2⟩, g2 k (by
              have h1 := hbw4.out.size;have h2 := hs2'.out;have h3 := hs5.out;have h4 := hTw.out;have h5 : w5.drew.heap.size = w5.heap.size := rfl;have h6 := hB0w.out
              omega)⟩)
            have g3H := Hd g3;have y0 := Xp.cell_blk hrb (i := 0) rfl;have y1 := Xp.cell_blk hrb (i := 1) rfl;have y2 := Xp.cell_blk hrb (i := 2) rfl;have y3 := Xp.cell_blk hrb (i := 3) rfl;have y4 := Xp.cell_blk hrb (i := 4) rfl;have zg := fun i => frozen_of_row w6 (T + 1) i _ _ hrb
            clear g1 g2 g3 hrb;go_wp2_with fail;exact bodyPost_ret (res_nd3 (x := .int .i64 0) (y := .int .i64 0) rfl hg1.out rfl rfl rfl) rfl ⟨by rw [hRk.out]; exact ⟨_, rfl, by rw [g3H.out]; exact hfin.out⟩, hbF.out⟩
      · have e9 : (kd != 1) = true := by simpa using hkd
        clear hl4 hn4 hB4;clear u1 u2 u3 u4;have hRk : Hid (RN = .error (80, 0)) := Hd (by rw [<- hRN'.out]; exact NormR_fair hMB'.out (.inr hkd));have hbW := hbw4.out;have hbF := Hd (hbw'.out.trans (hbW.mono hbw'.out.size));have hrb := (hall.out w4 hbW).2.2;clear hbW;obtain ⟨q0, q1, q2, q3, q4⟩ := nd_same hrb;have zf := fun i => frozen_of_row w4 (T + 1) i _ _ hrb
        have y0 := Xp.cell_blk hrb (i := 0) rfl;have y1 := Xp.cell_blk hrb (i := 1) rfl;have y2 := Xp.cell_blk hrb (i := 2) rfl;have y3 := Xp.cell_blk hrb (i := 3) rfl;have y4 := Xp.cell_blk hrb (i := 4) rfl;have hrbH := Hd hrb;clear hrb;go_wp2_with fail;exact bodyPost_ret (res_nd3 (x := .int .i64 80) (y := .int .i64 0) rfl hrbH.out rfl rfl rfl) rfl ⟨by rw [hRk.out]; exact ⟨by decide, rfl⟩, hbF.out⟩
end Go.Proofs.YtdnfnkicmfkkmaaGreatDoor.No
end

section
namespace Go.Proofs.YtdnfnkicmfkkmaaGreatDoor.Ky
open Go.RowKit Go.Shelf UtfW
def Big (l : List Rl) : Prop := ∀ r ∈ l, (r.1.length <= 140737488351232 /\ r.2.length <= 140737488351232) /\ (∀ x ∈ r.1, x.length <= 140737488351232) /\ ∀ x ∈ r.2, x.length <= 140737488351232
set_option maxHeartbeats 4000000 in
set_option maxRecDepth 100000 in
theorem refSmall_any (A : Option Addr) (n c : Nat) (l : List Rl) (w : World) (h : Rs w A n c l) (hS : Big l) :
  Calls Tryz.prog 44 #[.slice A n c] w fun e w' => ∃ V : Bool, e = .returned (.bool V) /\ (V = true -> wts l < 3000) /\ Below w.heap.size w w' := by
 have hl' := Hd h.len;have hm := h.max;have hle := h.le;have h' := Hd h;have hS' := Hd hS;clear h hS
 go_enter Tryz.func44, Tryz.ntmps44
 go_wp2_with fail
 go_loopw [3, 4] (fun o i wr => ∃ (k s : Nat), k <= n /\ s < 3000 /\ i = .int .i64 k /\ o = .int .i64 s /\ Hid (s = wts (l.take k)) /\ Hid (Below w.heap.size w wr)) (fun _ i _ => n - (intOf i).toNat)
 case atStart => exact ⟨0, 0, by omega, by omega, rfl, rfl, Hd rfl, Hd (Below.refl _ _)⟩
 case round =>
  obtain ⟨k, s, hk, hs3, rfl, rfl, hs, hb⟩ := hrel
  by_cases hlt : k < n
  ·have i1 : decide ((k : Int) < (n : Int)) = true := by rw [decide_eq_true_eq]; omega
   have i2 : decide (k < n) = true := by rw [decide_eq_true_eq]; omega
   have i3 : (k : Int) < (n : Int) := by omega
   obtain ⟨b, off, r, A1, n1, c1, A2, n2, c2, rfl, hbl, hr, t1, t2, k0, k1⟩ := Rs.at_ (h'.out.below hb.out) hlt;obtain ⟨⟨g1, g2⟩, g3, g4⟩ := hS'.out r (List.mem_of_getElem? hr);have hl1 := t1.len;have hl2 := t2.len;have hle1 := Rd.le t1;have hle2 := Rd.le t2;have hm1 := Rd.max t1;have hm2 := Rd.max t2;have hn1 : n1 <= 140737488351232 := by omega
   have hn2 : n2 <= 140737488351232 := by omega
   have g3' := Hd g3;have g4' := Hd g4;have t1' := Hd t1;have t2' := Hd t2;have hl1' := Hd hl1;have hl2' := Hd hl2
   have hwt : Hid (wts (l.take (k + 1)) = s + (1 + n1 + n2 + lens r.1 + lens r.2)) := Hd (by
    rw [wts_take hr, <- hs.out];unfold wt
    rw [hl1, hl2])
   clear hr g1 g2 g3 g4 t1 t2 hl1 hl2;go_wp2_with fail
   go_quiet (fail)
   have hq0 : Below wr.heap.size wr (wr.drewN nq) := Joins.below_draws _ _ _;have hbq := Hd (hb.out.trans (hq0.mono hb.out.size));have t1q := Hd (t1'.out.below hq0);have t2q := Hd (t2'.out.below hq0);have y0 := (hq0.cell hbl).trans k0;have y1 := (hq0.cell hbl).trans k1;obtain ⟨wz, hwz⟩ : ∃ wz, wr.drewN nq = wz := ⟨_, rfl⟩;rw [hwz] at hbq t1q t2q y0 y1 ⊢;clear hq0 hwz k0 k1 hb t1' t2' i3 hbl;obtain ⟨wo, hwo⟩ : ∃ wo, wo = wr := ⟨wr, rfl⟩;subst hwo;go_wp2_with fail
   go_loopw [3, 5] (fun o i wq => ∃ (j s2 : Nat), j <= n1 /\ s2 <= 562949953421312 /\ i = .int .i64 j /\ o = .int .i64 s2 /\ Hid (s2 = s + (1 + n1 + n2) + lens (r.1.take j)) /\ wq = wz) (fun _ i _ => n1 - (intOf i).toNat)
   case atStart => exact ⟨0, s + 1 + n1 + n2, by omega, by omega, rfl, by go_num, Hd (by simp [lens]; omega), by first | rfl | trivial⟩
   case round =>
    clear i1 i2;obtain ⟨j, s2, hj, hs2, rfl, rfl, hsv, rfl⟩ := hrel;obtain ⟨V, hV⟩ : ∃ V, decide (j < n1 /\ s2 < 3000) = V := ⟨_, rfl⟩;have hV' := Hd hV;clear hV
    go_upto_region 7 with fail
    go_cut [40] (fun v wx => v = .bool V /\ wx = wr)
    case first =>
     by_cases hj1 : j < n1
     ·have i1 : decide ((j : Int) < (n1 : Int)) = true := by rw [decide_eq_true_eq]; omega
      have i2 : decide (j < n1) = true := by rw [decide_eq_true_eq]; omega
      by_cases hs4 : s2 < 3000
      ·have i4 : decide ((s2 : Int) < 3000) = true := by rw [decide_eq_true_eq]; omega
       have i5 : decide (s2 < 3000) = true := by rw [decide_eq_true_eq]; omega
       have i6 := Hd (hV'.out.symm.trans (decide_eq_true (show j < n1 /\ s2 < 3000 from ⟨hj1, hs4⟩)));clear hj1 hs4;go_wp2_with fail
       go_meet
       exact ⟨by rw [i6.out], by first | rfl | trivial⟩
      ·have i4 : decide ((s2 : Int) < 3000) = false := by rw [decide_eq_false_iff_not]; omega
       have i5 : decide (s2 < 3000) = false := by rw [decide_eq_false_iff_not]; omega
       have i6 := Hd (hV'.out.symm.trans (decide_eq_false (show ¬(j < n1 /\ s2 < 3000) from fun h => hs4 h.2)));clear hj1 hs4;go_wp2_with fail
       go_meet
       exact ⟨by rw [i6.out], by first | rfl | trivial⟩
     ·have i1 : decide ((j : Int) < (n1 : Int)) = false := by rw [decide_eq_false_iff_not]; omega
      have i2 : decide (j < n1) = false := by rw [decide_eq_false_iff_not]; omega
      have i6 := Hd (hV'.out.symm.trans (decide_eq_false (show ¬(j < n1 /\ s2 < 3000) from fun h => hj1 h.1)));clear hj1;go_wp2_with fail
      go_meet
      exact ⟨by rw [i6.out], by first | rfl | trivial⟩
    case rest =>
    obtain ⟨rfl, rfl⟩ := hcut
    by_cases hc : j < n1 /\ s2 < 3000
    ·obtain rfl : V = true := hV'.out.symm.trans (decide_eq_true hc);obtain ⟨hj1, hs4⟩ := hc;have i3 : (j : Int) < (n1 : Int) := (by omega);obtain ⟨b1, off1, t, rfl, hbl1, ht, kk⟩ := t1q.out.at_ hj1;have htl := g3'.out t (List.mem_of_getElem? ht);have htz : (strOf t).size = t.length := strOf_size' t;have hnx : Hid (s2 + t.length = s + (1 + n1 + n2) + lens (r.1.take (j + 1))) := Hd (by rw [lens_take ht, hsv.out]; omega);obtain ⟨S, hS⟩ : ∃ S, strOf t = S := ⟨_, rfl⟩;simp only [tv] at kk;rw [hS] at kk htz;obtain ⟨tl, htl2⟩ : ∃ tl, t.length = tl := ⟨_, rfl⟩;rw [htl2] at htl htz hnx;clear hS ht htl2;go_wp2_with fail;go_roundw
     case rel => exact ⟨j + 1, s2 + tl, by omega, by omega, by go_num, by go_num, hnx, by first | rfl | trivial⟩
     case measure => simp [intOf]; omega
    ·obtain rfl : V = false := hV'.out.symm.trans (decide_eq_false hc)
     have hex : Hid (s2 < 3000 -> s2 = s + (1 + n1 + n2) + lens r.1) := Hd fun h => by
      have h2 := hsv.out;rw [List.take_of_length_le (by have := hl1'.out; omega)] at h2;exact h2
     clear hc hsv hj t1q;obtain ⟨wo2, hwo2⟩ : ∃ wo, wo = wc := ⟨wc, rfl⟩;subst hwo2;go_wp2_with fail
     go_loopw [3, 6] (fun o i wq => ∃ (j s3 : Nat), j <= n2 /\ s3 <= 562949953421312 /\ i = .int .i64 j /\ o = .int .i64 s3 /\ Hid (s3 < 3000 -> s3 = s + (1 + n1 + n2) + lens r.1 + lens (r.2.take j)) /\ wq = wo2) (fun _ i _ => n2 - (intOf i).toNat)
     case atStart => exact ⟨0, s2, by omega, by omega, rfl, rfl, Hd (by simpa [lens] using hex.out), by first | rfl | trivial⟩
     case round =>
      obtain ⟨m, s3, hm, hs5, rfl, rfl, hsv, rfl⟩ := hrel;obtain ⟨V, hV⟩ : ∃ V, decide (m < n2 /\ s3 < 3000) = V := ⟨_, rfl⟩;have hV' := Hd hV;clear hV
      go_upto_region 11 with fail
      go_cut [65] (fun v wx => v = .bool V /\ wx = wr)
      case first =>
       by_cases hj1 : m < n2
       ·have i1 : decide ((m : Int) < (n2 : Int)) = true := by rw [decide_eq_true_eq]; omega
        have i2 : decide (m < n2) = true := by rw [decide_eq_true_eq]; omega
        by_cases hs4 : s3 < 3000
        ·have i4 : decide ((s3 : Int) < 3000) = true := by rw [decide_eq_true_eq]; omega
         have i5 : decide (s3 < 3000) = true := by rw [decide_eq_true_eq]; omega
         have i6 := Hd (hV'.out.symm.trans (decide_eq_true (show m < n2 /\ s3 < 3000 from ⟨hj1, hs4⟩)));clear hj1 hs4;go_wp2_with fail
         go_meet
         exact ⟨by rw [i6.out], by first | rfl | trivial⟩
        ·have i4 : decide ((s3 : Int) < 3000) = false := by rw [decide_eq_false_iff_not]; omega
         have i5 : decide (s3 < 3000) = false := by rw [decide_eq_false_iff_not]; omega
         have i6 := Hd (hV'.out.symm.trans (decide_eq_false (show ¬(m < n2 /\ s3 < 3000) from fun h => hs4 h.2)));clear hj1 hs4;go_wp2_with fail
         go_meet
         exact ⟨by rw [i6.out], by first | rfl | trivial⟩
       ·have i1 : decide ((m : Int) < (n2 : Int)) = false := by rw [decide_eq_false_iff_not]; omega
        have i2 : decide (m < n2) = false := by rw [decide_eq_false_iff_not]; omega
        have i6 := Hd (hV'.out.symm.trans (decide_eq_false (show ¬(m < n2 /\ s3 < 3000) from fun h => hj1 h.1)));clear hj1;go_wp2_with fail
        go_meet
        exact ⟨by rw [i6.out], by first | rfl | trivial⟩
      case rest =>
      obtain ⟨rfl, rfl⟩ := hcut
      by_cases hc : m < n2 /\ s3 < 3000
      ·obtain rfl : V = true := hV'.out.symm.trans (decide_eq_true hc);obtain ⟨hj1, hs4⟩ := hc;have i3 : (m : Int) < (n2 : Int) := (by omega);obtain ⟨b1, off1, t, rfl, hbl1, ht, kk⟩ := t2q.out.at_ hj1;have htl := g4'.out t (List.mem_of_getElem? ht);have htz : (strOf t).size = t.length := strOf_size' t;have hnx : Hid (s3 + t.length < 3000 -> s3 + t.length = s + (1 + n1 + n2) + lens r.1 + lens (r.2.take (m + 1))) := Hd (fun _ => by rw [lens_take ht, hsv.out hs4]; omega);obtain ⟨S, hS⟩ : ∃ S, strOf t = S := ⟨_, rfl⟩;simp only [tv] at kk;rw [hS] at kk htz;obtain ⟨tl, htl2⟩ : ∃ tl, t.length = tl := ⟨_, rfl⟩;rw [htl2] at htl htz hnx;clear hS ht htl2;go_wp2_with fail;go_roundw
       case rel => exact ⟨m + 1, s3 + tl, by omega, by omega, by go_num, by go_num, hnx, by first | rfl | trivial⟩
       case measure => simp [intOf]; omega
      ·obtain rfl : V = false := hV'.out.symm.trans (decide_eq_false hc)
       by_cases hs6 : s3 < 3000
       ·have i7 : decide ((s3 : Int) ≥ 3000) = false := by rw [decide_eq_false_iff_not]; omega
        have i8 : decide (3000 <= s3) = false := by rw [decide_eq_false_iff_not]; omega
        have hfin : Hid (s3 = wts (l.take (k + 1))) := Hd (by
         have h2 := hsv.out hs6;rw [List.take_of_length_le (by have := hl2'.out; omega)] at h2;rw [hwt.out, h2]
         omega)
        clear hc;go_wp2_with fail;go_roundw
        case rel => exact ⟨k + 1, s3, by omega, by omega, by go_num, rfl, hfin, hbq⟩
        case measure => simp [intOf]; omega
       ·have i7 : decide ((s3 : Int) ≥ 3000) = true := by rw [decide_eq_true_eq]; omega
        have i8 : decide (3000 <= s3) = true := by rw [decide_eq_true_eq]; omega
        clear hc;go_wp2_with fail;go_ret;exact ⟨false, rfl, by simp, hbq.out⟩
  ·have i1 : decide ((k : Int) < (n : Int)) = false := by rw [decide_eq_false_iff_not]; omega
   have i2 : decide (k < n) = false := by rw [decide_eq_false_iff_not]; omega
   have hf : Hid (wts l < 3000) := Hd (by
    have := hs.out;rw [List.take_of_length_le (by have := hl'.out; omega)] at this
    omega)
   go_wp2_with fail;go_ret;exact ⟨true, rfl, fun _ => hf.out, hb.out⟩
end Go.Proofs.YtdnfnkicmfkkmaaGreatDoor.Ky
end

section
namespace Go.Proofs.YtdnfnkicmfkkmaaGreatDoor.No
open Go.RowKit UtfW Xl Xt Xo
open Go.Proofs.YtdnfnkicmfkkmaaGreatDoor.Ky (Ts OwX tv Rs Rl)
def FitsB (l : List Ky.Rl) (docs : List Nd) : Prop := docs.length <= 12 /\ Ky.wts l < 3000 /\ Ky.mayB nameR l = true /\ ∀ x ∈ docs, wN x <= 1200
theorem rls_of {l : List Ky.Rl} (h : Ky.wts l < 3000) : RlS l := ⟨by have := Ky.wts_len l; omega, fun r hr => Ky.small_of (M := 700000) (by omega) r hr⟩
set_option maxHeartbeats 20000000 in
set_option maxRecDepth 100000 in
theorem rFits_any (X : Nat -> Prop) (Al : Option Addr) (nl cl : Nat) (l : List Ky.Rl) (A2 : Option Addr) (n2 c2 : Nat) (docs : List Nd) (w : World) (hl : Rs w Al nl cl l) (hbig : Ky.Big l) (h2 : Sq (NdE X) 5 w A2 n2 c2 docs) (hX : ∀ j, X j -> j < w.heap.size) (hup : ∀ x ∈ docs, wN x <= 1152921504606846976) :
  Calls Tryz.prog 21 #[.slice Al nl cl, .slice A2 n2 c2] w fun e w' => (∃ V : Bool, e = .returned (.bool V) /\ (V = true -> FitsB l docs)) /\ Below w.heap.size w w' := by
 have hall : Hid (∀ x, Below w.heap.size w x -> Rs x Al nl cl l /\ Sq (NdE X) 5 x A2 n2 c2 docs /\ ∀ j, X j -> j < x.heap.size) := Hd fun x hx => ⟨hl.below hx, Xp.sq_keep h2 hx fun vs y h => NdI.later h hX hx, fun j hj => Nat.lt_of_lt_of_le (hX j hj) hx.size⟩
 have hsc := Hd (Ky.refSmall_any Al nl cl l w hl hbig);have hdl := Hd h2.len;have hle := h2.le;have hmx := h2.max;have hup' := Hd hup;clear hl hbig h2 hX hup
 go_enter Tryz.func21, Tryz.ntmps21
 by_cases hn : 12 < n2
 ·have p1 : decide ((n2 : Int) > 12) = true := by rw [decide_eq_true_eq]; omega
  have p2 : decide ((12 : Int) < (n2 : Int)) = true := by rw [decide_eq_true_eq]; omega
  have p3 : decide (12 < n2) = true := by rw [decide_eq_true_eq]; omega
  go_wp2_with fail;go_ret;exact ⟨⟨false, rfl, fun h => by cases h⟩, Below.refl _ _⟩
 ·have p1 : decide ((n2 : Int) > 12) = false := by rw [decide_eq_false_iff_not]; omega
  have p2 : decide ((12 : Int) < (n2 : Int)) = false := by rw [decide_eq_false_iff_not]; omega
  have p3 : decide (12 < n2) = false := by rw [decide_eq_false_iff_not]; omega
  go_wp2_with fail;refine hsc.out.mono ?_;rintro e w1 ⟨V1, rfl, hV1, hb1⟩;have hb1' := Hd hb1;have hV1' := Hd hV1;clear hb1 hV1
  cases V1 with
  | false =>
   go_wp2_with fail;go_ret;exact ⟨⟨false, rfl, fun h => by cases h⟩, hb1'.out⟩
  | true =>
   have hrs := Hd (rls_of (hV1'.out rfl));have hwts := Hd (hV1'.out rfl);have hmc := Hd (Ky.refMay_any Al nl cl l w1 (hall.out w1 hb1'.out).1 hrs.out.smr);obtain ⟨MB, hMB⟩ : ∃ MB, Ky.mayB nameR l = MB := ⟨_, rfl⟩;rw [hMB] at hmc;have hMB' := Hd hMB;clear hMB;go_wp2_with fail;refine hmc.out.mono ?_;rintro e w2 ⟨rfl, hb2⟩;have hb2' := Hd (hb1'.out.trans (hb2.mono hb1'.out.size));clear hb2
   cases MB with
   | false =>
    go_wp2_with fail;go_ret;exact ⟨⟨false, rfl, fun h => by cases h⟩, hb2'.out⟩
   | true =>
    go_wp2_with fail
    go_loopw [5] (fun i wr => ∃ k : Nat, k <= n2 /\ i = .int .i64 k /\ Hid (∀ x ∈ docs.take k, wN x <= 1200) /\ Hid (Below w.heap.size w wr)) (fun i _ => n2 - (intOf i).toNat)
    case atStart => exact ⟨0, by omega, rfl, Hd (fun x hx => by simp at hx), hb2'⟩
    case round =>
     obtain ⟨k, hk, rfl, hpre, hb⟩ := hrel;obtain ⟨hlx, h2x, hXx⟩ := hall.out wr hb.out
     by_cases hlt : k < n2
     ·have i1 : decide ((k : Int) < (n2 : Int)) = true := by rw [decide_eq_true_eq]; omega
      have i2 : decide (k < n2) = true := by rw [decide_eq_true_eq]; omega
      have i3 : (k : Int) < (n2 : Int) := (by omega);obtain ⟨b, off, y, ys, eA, hbl, hy, hys, hel, hcs⟩ := h2x.at_ hlt;subst eA;obtain ⟨kd2, nm2, tx2, as2, kz2, ey⟩ : ∃ kd nm tx as_ kz, y = Nd.mk kd nm tx as_ kz := by cases y; exact ⟨_, _, _, _, _, rfl⟩
      have hel0 := Hd hel;rw [ey] at hel;obtain ⟨Aa2, ca2, Ak2, ck2, rfl, _⟩ := hel.cells;obtain ⟨la2, hla2⟩ : ∃ la, as2.length = la := ⟨_, rfl⟩;obtain ⟨lk2, hlk2⟩ : ∃ lk, kz2.length = lk := ⟨_, rfl⟩;obtain ⟨U1, hU1⟩ : ∃ S, strOf nm2 = S := ⟨_, rfl⟩;obtain ⟨U2, hU2⟩ : ∃ S, strOf tx2 = S := ⟨_, rfl⟩;rw [hla2, hlk2, hU1, hU2] at hel0;have m0 : wr.cell? ⟨b, off + k * 5, none⟩ = some (.int .i64 kd2) := hcs 0 _ rfl;have m1 : wr.cell? ⟨b, off + k * 5 + 1, none⟩ = some (.string U1) := by rw [<- hU1]; exact hcs 1 _ rfl
      have m2 : wr.cell? ⟨b, off + k * 5 + 2, none⟩ = some (.string U2) := by rw [<- hU2]; exact hcs 2 _ rfl
      have m3 : wr.cell? ⟨b, off + k * 5 + 3, none⟩ = some (.slice Aa2 la2 ca2) := by rw [<- hla2]; exact hcs 3 _ rfl
      have m4 : wr.cell? ⟨b, off + k * 5 + 4, none⟩ = some (.slice Ak2 lk2 ck2) := by rw [<- hlk2]; exact hcs 4 _ rfl
      have hy' := Hd hy;have eyH := Hd ey;have hU1H := Hd hU1;have hU2H := Hd hU2;clear hcs hys hel hy hbl hU1 hU2 hla2 hlk2 ey;have hupy := hup'.out y (List.mem_of_getElem? hy'.out);have hsm := Hd (rSmall_any X wr _ y 1200 hel0.out hXx);clear hlx h2x hXx hel0;go_wp2_with fail;refine hsm.out.mono ?_;rintro e w3 ⟨⟨c, rfl, hc⟩, hb3⟩;have hb3' := Hd (hb.out.trans (hb3.mono hb.out.size));have hcs := Hd (hc hupy);clear hb3 hc m0 m1 m2 m3 m4 hupy;obtain ⟨cb, hcb⟩ : ∃ cb, decide (c <= 1200) = cb := ⟨_, rfl⟩;have hcbH := Hd hcb;rw [hcb];clear hcb
      cases cb with
      | false =>
       go_wp2_with fail;go_ret;exact ⟨⟨false, rfl, fun h => by cases h⟩, hb3'.out⟩
      | true =>
       have hpre2 : Hid (∀ x ∈ docs.take (k + 1), wN x <= 1200) := Hd fun x hx => by
        rw [take_snoc hy'.out] at hx;rcases List.mem_append.1 hx with hx | hx
        ·exact hpre.out x hx
        ·rw [List.mem_singleton] at hx;subst hx;have h1 := of_decide_eq_true hcbH.out;have h2 := hcs.out.2.2 h1;omega
       go_wp2_with fail;go_roundw
       case rel => exact ⟨k + 1, by omega, by go_num, hpre2, hb3'⟩
       case measure => simp [intOf]; omega
     ·have i1 : decide ((k : Int) < (n2 : Int)) = false := by rw [decide_eq_false_iff_not]; omega
      have i2 : decide (k < n2) = false := by rw [decide_eq_false_iff_not]; omega
      have e1 : k = n2 := (by omega);subst e1;have hfin : Hid (FitsB l docs) := Hd ⟨by rw [hdl.out]; omega, hwts.out, hMB'.out, fun x hx => hpre.out x (by rw [List.take_of_length_le (by rw [hdl.out]; exact Nat.le_refl _)]; exact hx)⟩;clear hlx h2x hXx;go_wp2_with fail;go_ret;exact ⟨⟨true, rfl, fun _ => hfin.out⟩, hb.out⟩
end Go.Proofs.YtdnfnkicmfkkmaaGreatDoor.No
end

section
namespace Go.Proofs.YtdnfnkicmfkkmaaGreatDoor.Vw
open Go.RowKit UtfW Xl Xt Xo No
open Go.Proofs.YtdnfnkicmfkkmaaGreatDoor (Ky.frontB Ky.Rl)
open Go.Proofs.YtdnfnkicmfkkmaaGreatDoor.Ky (Ts OwX tv join Rs)
theorem tabL_nm (l : List Ky.Rl) : ∀ (ks : List Nd) (n m : List Tx) (a p : Nat) (path : Tx) (i : Nat), tabL l n false a p path i ks = tabL l m false a p path i ks
 | [], _, _, _, _, _, _ => by unfold tabL; rfl
 | x :: xs, n, m, a, p, path, i => by
  unfold tabL;simp only [Bool.false_eq_true, if_false];rw [tabL_nm l xs n m]
theorem endS_len {nm : Tx} {key : List Tx} (h1 : nm.length <= 2000) (h2 : key.length <= 3000) (h3 : ∀ k ∈ key, k.length <= 12000) : (endS (nm, key)).length <= 90000000 := by
 unfold endS
 split
 ·show nm.length <= _; omega
 ·rename_i hne
  have h4 := Ky.join_len [44] (key.map escV);rw [List.length_map] at h4
  have h5 : Ky.lens (key.map escV) <= key.length * 24000 := by
   clear h4 h2 hne
   induction key with
   | nil => simp [Ky.lens]
   | cons a r ih =>
    have h6 := h3 a (by simp);have h7 := escV_len a;have h8 := ih (fun k hk => h3 k (by simp [hk]));unfold Ky.lens at h8 ⊢;rw [List.map_cons, List.map_cons, List.sum_cons, List.length_cons, Nat.succ_mul];omega
  have h6 : key.length * 24000 <= 3000 * 24000 := Nat.mul_le_mul_right _ h2;simp only [List.length_append, List.length_cons, List.length_nil] at h4 ⊢;omega
def KeyedV (n : Nd) : Prop := ∀ (B b : Nat) (v : Value) (out : List Q) (w : World) (Al : Option Addr) (nl cl : Nat) (l : List Ky.Rl) (Ap : Option Addr) (np cp : Nat) (names : List Tx) (vs : List Value) (pa : Nat) (q : Q) (r : Ky.Rl) (key : List Tx), Vb B b (.slice Al nl cl) v out w -> VEnv B Al nl cl l w -> (∀ x, Below B w x -> NdI (fun j => j < B) x vs n) -> Ts w Ap np cp names -> (∀ a, Ap = some a -> 0 < np -> Apart b v w a.block) -> names ≠ [] →
 nfN l names n -> ruleOf l names = some r -> keyR n r.2 = some key -> Ky.wts l < 3000 -> fairN n = true -> wN n <= 1200 -> out[pa]? = some q -> np + wN n <= 900000 -> out.length + wN n <= 7000000 -> q.path.length + 100000000 * wN n <= 300000000000 →
 Calls Tryz.prog 29 #[.pointer (some ⟨b, 0, none⟩), .agg vs.toArray, .slice Ap np cp, .int .i64 (pa : Nat)] w fun e w' => (∃ r, e = .returned r) /\ ∃ v', Vb B b (.slice Al nl cl) v' (out ++ tabN l names out.length pa ((if pa = 0 then [] else q.path) ++ 47 :: endS (n.name, key)) n) w' /\ Bk B b v v' w w'
set_option maxHeartbeats 40000000 in
set_option maxRecDepth 100000 in
theorem vkeyed_any : ∀ (kk : Nat) (n : Nd), SizeOf.sizeOf n <= kk -> KeyedV n := by
  intro kk
  induction kk with
  | zero => intro n hk; cases n; simp at hk
  | succ kk ih =>
    intro n hkk B b v out w Al nl cl l Ap np cp names vs pa q r key h hE hn hp hpa hne hnf hr hk hwt hf hw hq hnp hN hph;obtain ⟨kd, nm, tx, as_, kz, rfl⟩ : ∃ kd nm tx as_ kz, n = Nd.mk kd nm tx as_ kz := by cases n; exact ⟨_, _, _, _, _, rfl⟩
    have hn0 := hn w (Below.refl _ _);obtain ⟨Ai, ci, Ak, ck, rfl, hA0, hK0, _, _⟩ := hn0.cells;obtain ⟨li, hli⟩ : ∃ la, as_.length = la := ⟨_, rfl⟩;obtain ⟨lk, hlk⟩ : ∃ lk, kz.length = lk := ⟨_, rfl⟩;obtain ⟨S1, hS1⟩ : ∃ S, strOf nm = S := ⟨_, rfl⟩;obtain ⟨S2, hS2⟩ : ∃ S, strOf tx = S := ⟨_, rfl⟩;rw [hli, hlk, hS1, hS2] at hn hn0 ⊢;rw [hlk] at hK0;obtain ⟨hkd, hnfk⟩ : kd = 1 /\ (Ky.frontB l names = false -> nfL l names kz /\ (kz.map (stepK l names)).Nodup) := by unfold nfN at hnf; exact hnf
    subst hkd;have hfe := fair_el hf rfl;obtain ⟨WN, hWN⟩ : ∃ WN, wN (Nd.mk 1 nm tx as_ kz) = WN := ⟨_, rfl⟩;have hWE : 1 + nm.length + tx.length + wA as_ + wL kz = WN := (by rw [<- hWN, wN]);have hrS := rls_of hwt;have hrm := rule_mem hr
    have hkl : key.length <= 3000 := by
      rw [keyR_len hk];have h1 := Ky.wts_le hrm.1;unfold Ky.wt at h1;omega
    have hkv : ∀ k ∈ key, k.length <= 12000 := fun k hk2 => by have h1 := keyR_vals hk k hk2; omega
    obtain ⟨PT, hPT⟩ : ∃ PT, (if pa = 0 then [] else q.path) ++ 47 :: endS (nm, key) = PT := ⟨_, rfl⟩;rw [show (Nd.mk 1 nm tx as_ kz).name = nm from rfl, hPT];have hel : (endS (nm, key)).length <= 90000000 := endS_len (by omega) hkl hkv
    have hPTl : PT.length <= q.path.length + 90000001 := by
      rw [<- hPT, List.length_append, List.length_cons]
      split
      · simp; omega
      · omega
    obtain ⟨J, hJ⟩ : ∃ J, w.heap.size = J := ⟨_, rfl⟩;obtain ⟨w1, hw1⟩ : ∃ w1, w.alloc (.cells #[.int .i64 1, .string S1, .string S2, .slice Ai li ci, .slice Ak lk ck] 26) = w1 := ⟨_, rfl⟩;have hb1 : Below w.heap.size w w1 := by rw [<- hw1]; exact (Below.refl _ _).alloc (Nat.le_refl _) _
    have hk1 : w1.heap[J]? = some (.cells #[.int .i64 1, .string S1, .string S2, .slice Ai li ci, .slice Ak lk ck] 26) := by rw [<- hw1, <- hJ]; exact heap_alloc_new w _
    have hv1 := h.below hb1;have hbk1 : Bk B b v v w w1 := Bk.of_below hb1 (h.leB);have hJ1 : Apart b v w1 J := h.own_apart (by omega) (Array.getElem?_eq_some_iff.1 hk1).1;have hp1 : ∀ x vx, Bk B b v vx w1 x -> Ts x Ap np cp names := fun x vx hx => Rd.stay (hp.below hb1) fun a ea hn9 => (hx.apart (hbk1.apart (hpa a ea hn9)).1).2
    have hE1 := hE.later hbk1.bel;have hndx : Hid (∀ x, Below B w x -> NdI (fun j => j < B) x [.int .i64 1, .string S1, .string S2, .slice Ai li ci, .slice Ak lk ck] (.mk 1 nm tx as_ kz)) := Hd hn
    have hkey1 := pKey_any (fun j => j < B) w1.drew ((hE1 w1.drew (Joins.below_draws B w1 1)).2.1) Al nl cl l Ap np cp names [.int .i64 1, .string S1, .string S2, .slice Ai li ci, .slice Ak lk ck] (.mk 1 nm tx as_ kz) r key (hE1 w1.drew (Joins.below_draws B w1 1)).2.2 (hp1 w1.drew v (Bk.of_below (Joins.below_draws w1.heap.size w1 1) (hv1.leB))) (fun r hr => by
      obtain ⟨h1, h2, h3, h4⟩ := hrS.smr r hr;obtain ⟨g1, g2, g3, g4⟩ := hrS.2 r hr
      exact ⟨by omega, by omega, fun k hk => Nat.le_trans (g4 k hk) (by omega)⟩) (hn _ (hbk1.bel.trans (Joins.below_draws B w1 1))) (fun j hj => Nat.lt_of_lt_of_le hj hv1.leB) (by rw [hWN]; omega) hr hk
    obtain ⟨nk, hnk⟩ : ∃ nk, key.length = nk := ⟨_, rfl⟩;rw [hnk] at hkey1 hkl;have hkeyH : Hid (Calls Tryz.prog 55 #[.slice Al nl cl, .slice Ap np cp, .agg #[.int .i64 1, .string S1, .string S2, .slice Ai li ci, .slice Ak lk ck]] w1.drew fun e w' => (∃ A c, e = .returned (.tuple #[.slice A nk c, .nilIface]) /\ OwX w' w1.heap.size 9 (.slice A nk c) key) /\ Below w1.heap.size w1.drew w') := Hd hkey1;have t0 := Xp.cell_blk hk1 (i := 0) rfl;have t1 := Xp.cell_blk hk1 (i := 1) rfl;have t2 := Xp.cell_blk hk1 (i := 2) rfl;have t3 := Xp.cell_blk hk1 (i := 3) rfl;have t4 := Xp.cell_blk hk1 (i := 4) rfl;have y0 := Xp.cell_blk hv1.blk (i := 0) rfl;have hp1H := Hd hp1;have hEH := Hd hE1;have hv1H := Hd hv1;have hbk1H := Hd hbk1;have hJ1H := Hd hJ1;have hk1H := Hd hk1;have hPTH := Hd hPT;have hPTlH := Hd hPTl;have hnkH := Hd hnk;have hkvH := Hd hkv;have hqH := Hd hq;have hnfkH := Hd hnfk;have hfeH := Hd hfe;have hWEH := Hd hWE;have hnpH := Hd hnp;have hNH := Hd hN;have hphH := Hd hph;have hwtH := Hd hwt;have hrSH := Hd hrS;have hneH := Hd hne;have hrH := Hd hr;have hS1H := Hd hS1;have hliH := Hd hli;have hlkH := Hd hlk;have hpl := Hd hp.len;have hWNH := Hd hWN;have hwH := Hd hw;have ihH := Hd ih
    have hszy : Hid (∀ y ∈ kz, SizeOf.sizeOf y <= kk) := Hd fun y hy => by
      have h2 := List.sizeOf_lt_of_mem hy;rw [Nd.mk.sizeOf_spec] at hkk;omega
    have hbw : Hid (b < w.heap.size) := Hd h.lt;have hlkw : lk <= 2000 := by have := wL_len kz; omega
    have l1 := hK0.le;have l2 := hK0.max;have hnamH : Hid (nm.length <= 2000) := Hd (by omega);clear hkk h hE hn hp hpa hne hnf hr hk hwt hf hq hnp hN hph hn0 hA0 hK0 hli hlk hS1 hS2 hnfk hfe hWE hrS hrm hkv hPT hel hPTl hb1 hk1 hv1 hbk1 hJ1 hp1 hE1 hkey1 hnk ih hWN hw
    go_enter Tryz.func29, Tryz.ntmps29
    go_wp2_with fail;clear hw1 hJ;refine Pl.wp_region_plan 11 (.take 0 (.take 1 (.take 2 (.take 3 (.take 4 (.take 5 (.run 6 (.take 7 (.take 8 (.take 9 (.take 10 .done))))))))))) (fun x => x.cell? ⟨b, 0, none⟩ = some (.slice Al nl cl) /\ x.cell? ⟨J, 0, none⟩ = some (.int .i64 1) /\ x.cell? ⟨J, 1, none⟩ = some (.string S1) /\ x.cell? ⟨J, 2, none⟩ = some (.string S2) /\ x.cell? ⟨J, 3, none⟩ = some (.slice Ai li ci) /\ x.cell? ⟨J, 4, none⟩ = some (.slice Ak lk ck)) (by kernel_rfl) (by kernel_rfl) (by exact ⟨y0, t0, t1, t2, t3, t4⟩) ?_;simp only [Pl.fill, Al_4, Al_5, Al_6, Al_7]
    iterate 6
      first
      | (refine Pl.take_go ?_ (by rfl) (fun _ _ _ h => h) ?_ ?_
         rotate_left
         · (intro x hSw; (try (dsimp only at hSw)); go_simp; try with_reducible rfl)
         (try simp only [Act.put, Al_1, Al_2, Al_3]))
      | (refine Pl.take_skip (by rfl) (fun _ _ _ h => h) ?_
         (try simp only [Act.put, Al_1, Al_2, Al_3]))
    refine Pl.run_go (fun K hK => ?_);go_simp;refine hkeyH.out.mono ?_;rintro e w2 ⟨⟨A2, c2, rfl, ho2⟩, hb2⟩;have hb12 : Below w1.heap.size w1 w2 := (show Below w1.heap.size w1 w1.drew from Joins.below_draws w1.heap.size w1 1).trans hb2;have hv2 := Hd (hv1H.out.below hb12);have hbk12 := Hd (Bk.of_below (b := b) (v := v) hb12 (hv1H.out.leB));have hJ2 := Hd (hbk12.out.apart hJ1H.out).1;have hk2 := Hd ((hbk12.out.apart hJ1H.out).2.trans hk1H.out);have ho2H := Hd ho2;obtain ⟨g0, g1, g2, g3, g4⟩ := cells_of5 hk2.out;have gy : w2.cell? ⟨b, 0, none⟩ = some (.slice Al nl cl) := Xp.cell_blk hv2.out.blk (i := 0) rfl;clear ho2 hb2 hb12;dsimp only;refine hK.out _ _ (Pl.more_go _ (fun _ h => h) (by exact ⟨gy, g0, g1, g2, g3, g4⟩) ?_);clear hK K
    try simp only [Act.put, Al_1, Al_2, Al_3]
    iterate 4
      first
      | (refine Pl.take_go ?_ (by rfl) (fun _ _ _ h => h) ?_ ?_
         rotate_left
         · (intro x hSw; (try (dsimp only at hSw)); go_simp; try with_reducible rfl)
         (try simp only [Act.put, Al_1, Al_2, Al_3]))
      | (refine Pl.take_skip (by rfl) (fun _ _ _ h => h) ?_
         (try simp only [Act.put, Al_1, Al_2, Al_3]))
    refine Pl.done_go ?_;clear t0 t1 t2 t3 t4 y0 g0 g2 g4 gy;have hstp := Hd (vstep_any (.pointer (some ⟨b, 0, none⟩)) nm key A2 nk c2 w2.drew (ho2H.out.rd.below (Joins.below_draws w2.heap.size w2 1)) (by omega) (by have := hnamH.out; omega) (fun k hk => Nat.le_trans (hkvH.out k hk) (by omega)));rw [hS1H.out] at hstp;obtain ⟨ES, hES⟩ : ∃ S, strOf (endS (nm, key)) = S := ⟨_, rfl⟩;rw [hES] at hstp
    have hbelc : Hid (∀ x vx, Vb B b (.slice Al nl cl) vx out x -> Calls Tryz.prog 57 #[.pointer (some ⟨b, 0, none⟩), .int .i64 (pa : Nat), .string ES] x fun e w' => e = .returned (.string (strOf PT)) /\ w' = x) := Hd fun x vx hx => by
      have h1 := vbelow_any B b _ vx out x pa q (endS (nm, key)) hx hqH.out (by have := hphH.out; have := endS_len hnamH.out (by rw [hnkH.out]; exact hkl) hkvH.out; omega);rw [hES, hPTH.out] at h1;exact h1
    obtain ⟨PS, hPS⟩ : ∃ S, strOf PT = S := ⟨_, rfl⟩;rw [hPS] at hbelc;have hPSH := Hd hPS;clear hES hPS;go_wp2_with fail;refine Pl.wp_region_plan 14 (.take 0 (.take 1 (.take 2 (.take 3 (.take 4 (.take 5 (.take 6 (.take 7 (.take 8 (.take 9 (.take 10 (.take 11 (.run 12 (.run 13 .done)))))))))))))) (fun x => x.cell? ⟨J, 1, none⟩ = some (.string S1) /\ x.cell? ⟨J, 3, none⟩ = some (.slice Ai li ci)) (by kernel_rfl) (by kernel_rfl) (by exact ⟨g1, g3⟩) ?_;simp only [Pl.fill, Al_4, Al_5, Al_6, Al_7]
    iterate 12
      first
      | (refine Pl.take_go ?_ (by rfl) (fun _ _ _ h => h) ?_ ?_
         rotate_left
         · (intro x hSw; (try (dsimp only at hSw)); go_simp; try with_reducible rfl)
         (try simp only [Act.put, Al_1, Al_2, Al_3]))
      | (refine Pl.take_skip (by rfl) (fun _ _ _ h => h) ?_
         (try simp only [Act.put, Al_1, Al_2, Al_3]))
    refine Pl.run_go (fun K hK => ?_);go_simp;refine hstp.out.mono ?_;rintro e w3 ⟨rfl, hb3⟩;have hb23 : Below w2.heap.size w2 w3 := (show Below w2.heap.size w2 w2.drew from Joins.below_draws w2.heap.size w2 1).trans hb3;have hv3 := Hd (hv2.out.below hb23);have hbk23 := Hd (Bk.of_below (b := b) (v := v) hb23 (hv2.out.leB));have hJ3 := Hd (hbk23.out.apart hJ2.out).1;have hk3 := Hd ((hbk23.out.apart hJ2.out).2.trans hk2.out);obtain ⟨d0, d1, d2, d3, d4⟩ := cells_of5 hk3.out;clear hb3 hb23;refine hK.out _ _ (Pl.more_go _ (fun _ h => h) (by exact ⟨d1, d3⟩) ?_);clear hK K
    try simp only [Act.put, Al_1, Al_2, Al_3]
    refine Pl.run_go (fun K hK => ?_);go_simp;refine (hbelc.out w3 v hv3.out).mono ?_;rintro e w4 ⟨rfl, rfl⟩;refine hK.out _ _ (Pl.more_go _ (fun _ h => h) (by exact ⟨d1, d3⟩) ?_);clear hK K
    try simp only [Act.put, Al_1, Al_2, Al_3]
    refine Pl.done_go ?_;have hbw4 : Hid (Bk B b v v w w4) := Hd ((hbk1H.out.trans hbk12.out).trans hbk23.out);have hE4 := Hd (hEH.out.later ((hbk12.out.trans hbk23.out).bel));have helc := Hd (velem_any B b (.slice Al nl cl) v out w4 nm as_ Ai li ci (pa : Nat) PT hv3.out (fun x hx => (nd_rows (hndx.out x (hbw4.out.bel.trans hx))).2.2.2.1) (by have := (List.getElem?_eq_some_iff.1 hqH.out).1; omega) (by have := Xp.wA_len as_; have := hWEH.out; have := hNH.out; have := hWNH.out; omega) (by have := hPTlH.out; have := hphH.out; have := hWEH.out; have := hwH.out; have := hWNH.out; omega));rw [hS1H.out, hPSH.out] at helc;clear g1 g3 d0 d1 d2 d3 d4 hstp hbelc;go_wp2_with fail;refine helc.out.mono ?_;rintro e w5 ⟨rfl, v5, hv5, hk5⟩;have hbw5 := Hd (hbw4.out.trans hk5);have hJ5 := Hd (hk5.apart hJ3.out).1;have hk5J := Hd ((hk5.apart hJ3.out).2.trans hk3.out);have hv5H := Hd hv5;have hE5 := Hd (hE4.out.later hk5.bel);have hts5 : Hid (∀ x vx, Bk B b v5 vx w5 x -> Ts x Ap np cp names) := Hd fun x vx hx => hp1H.out x vx (((hbk12.out.trans hbk23.out).trans hk5).trans hx)
    have hyb5 : w5.cell? ⟨b, 0, none⟩ = some (.slice Al nl cl) := Xp.cell_blk hv5.blk (i := 0) rfl;have hfr := Hd (Ky.Front_any Al nl cl l Ap np cp names w5 (hE5.out w5 (Below.refl _ _)).2.2 (hts5.out w5 v5 Bk.refl));obtain ⟨o5, ho5⟩ : ∃ o5, out ++ (⟨1, nm, [], (pa : Nat), out.length + 1, PT⟩ : Q) :: attrRows out.length PT (out.length + 1) as_ = o5 := ⟨_, rfl⟩;have ho5H := Hd ho5;rw [ho5] at hv5H;obtain ⟨at_, hat⟩ : ∃ at_, out.length = at_ := ⟨_, rfl⟩;have hatH := Hd hat
    have hrow5 : Hid (o5[at_]? = some ⟨1, nm, [], (pa : Nat), out.length + 1, PT⟩) := Hd (by
      rw [<- ho5, <- hat, List.getElem?_append_right (Nat.le_refl _), Nat.sub_self]
      rfl)
    have hlen5 : Hid (o5.length = at_ + 1 + li) := Hd (by
      rw [<- ho5, <- hat, List.length_append, List.length_cons, attrRows_len, hliH.out]
      omega)
    have hat0 : Hid (0 < at_) := Hd (by have := (List.getElem?_eq_some_iff.1 hqH.out).1; omega);rw [hat];clear hv5 hk5 helc ho5 hat;go_wp2_with fail;refine hfr.out.mono ?_;rintro e w6 ⟨rfl, hb6⟩;have hv6 := Hd (hv5H.out.below hb6);have hbk6 := Hd (Bk.of_below (b := b) (v := v5) hb6 (hv5H.out.leB));have hk6 := Hd ((hbk6.out.apart hJ5.out).2.trans hk5J.out);have hE6 := Hd (hE5.out.later hbk6.out.bel);have hbw6 := Hd (hbw5.out.trans hbk6.out);obtain ⟨g0, g1, g2, g3, g4⟩ := cells_of5 hk6.out;obtain ⟨FB, hFB⟩ : ∃ FB, Ky.frontB l names = FB := ⟨_, rfl⟩;rw [hFB];have hfrE := Hd hFB;clear hb6 hFB hfr
    cases FB with
    | true =>
      have hcc := Hd (vcont_any (SizeOf.sizeOf kz) kz (Nat.le_refl _) B b (.slice Al nl cl) v5 o5 w6 Ak lk ck at_ _ l Al nl cl hv6.out hE6.out (fun x hx => (nd_rows (hndx.out x (hbw6.out.bel.trans hx))).2.2.2.2.1) hrow5.out hat0.out (fairL_all hfeH.out.2.2.2) (by rw [hlen5.out]; have := Xp.wA_len as_; have := hWEH.out; have := hNH.out; have := hatH.out; have := hliH.out; have := hWNH.out; omega) (by
        show PT.length + 100 * wL kz <= _
        have := hPTlH.out; have := hphH.out; have := hWEH.out; have := hwH.out; have := hWNH.out; omega))
      clear g0 g1 g2 g3 hyb5;go_wp2_with fail;refine hcc.out.mono ?_;rintro e w9 ⟨⟨r9, rfl⟩, v9, hv9, hk9⟩;have hbw9 := Hd (hbw6.out.trans hk9);rw [tabL_nm l kz [] names] at hv9;clear hk9 hcc g4
      have hlen9 : (o5 ++ tabL l names false o5.length at_ PT 0 kz).length <= 8000000 := by
        rw [List.length_append, hlen5.out];have h1 := tabL_w l kz names false (at_ + 1 + li) at_ PT 0;have h2 := Xp.wA_len as_;have := hWEH.out;have := hNH.out;have := hatH.out;have := hliH.out;have := hWNH.out;omega
      have hsh := vshut_any B b _ v9 (o5 ++ tabL l names false o5.length at_ PT 0 kz) w9 at_ _ hv9 (by omega) (app_at hrow5.out)
      have etab : Hid ((o5 ++ tabL l names false o5.length at_ PT 0 kz).set at_ ⟨1, nm, [], (pa : Nat), (o5 ++ tabL l names false o5.length at_ PT 0 kz).length, PT⟩ = out ++ tabN l names out.length pa PT (.mk 1 nm tx as_ kz)) := Hd (by
        have h1 := tab_shut l names out (pa : Nat) PT nm as_ kz (tabL l names false o5.length at_ PT 0 kz) pa rfl (by rw [hfrE.out, decide_eq_true hneH.out, hlen5.out, <- hatH.out, <- hliH.out]; rfl);generalize tabL l names false o5.length at_ PT 0 kz = T9 at h1 ⊢;rw [<- hatH.out, hfeH.out.2.1, <- ho5H.out, List.append_assoc, List.cons_append]
        exact h1)
      have hshH := Hd hsh;clear hsh hlen9 hv9;go_wp2_with fail;refine hshH.out.mono ?_;rintro e w10 ⟨⟨r10, rfl⟩, hv10, hk10⟩;have hv10H : Hid (Vb B b (.slice Al nl cl) v9 (out ++ tabN l names out.length pa PT (.mk 1 nm tx as_ kz)) w10) := Hd (by rw [<- etab.out]; exact hv10);have hk10H := Hd (hbw9.out.trans hk10);clear hv10 hk10;go_wp2_with fail
      go_end0
      exact ⟨⟨_, rfl⟩, v9, hv10H.out, hk10H.out⟩
    | false =>
      have hst : Hid (∃ v', Vb B b (.slice Al nl cl) v' (o5 ++ tabL l names true o5.length at_ PT 0 (kz.take 0)) w6 /\ Bk B b v v' w w6 /\ Bk B b v5 v' w5 w6) := Hd ⟨v5, by rw [List.take_zero]; unfold tabL; rw [List.append_nil]; exact hv6.out, hbw6.out, hbk6.out⟩;clear g0 g1 g2 g3 hyb5;go_wp2_with fail;clear g4
      go_loopw [52] (fun vi wr => ∃ k : Nat, k <= lk /\ vi = .int .i64 (k : Nat) /\ Hid (∃ v', Vb B b (.slice Al nl cl) v' (o5 ++ tabL l names true o5.length at_ PT 0 (kz.take k)) wr /\ Bk B b v v' w wr /\ Bk B b v5 v' w5 wr)) (fun vi _ => lk - (intOf vi).toNat)
      case atStart => exact ⟨0, by omega, rfl, hst⟩
      case round =>
        obtain ⟨k, hk, rfl, hin⟩ := hrel;clear hst;obtain ⟨v6, hv7, hk7, hk57⟩ := hin.out
        by_cases hlt : k < lk
        · have i1 : decide ((k : Int) < (lk : Int)) = true := by rw [decide_eq_true_eq]; omega
          have i2 : decide (k < lk) = true := by rw [decide_eq_true_eq]; omega
          have i3 : (k : Int) < (lk : Int) := (by omega);obtain ⟨ba, off, y, ys, eA, hbl, hy, hys, hel, hcs⟩ := ((nd_rows (hndx.out wr hk7.bel)).2.2.2.2.1).at_ hlt;subst eA;obtain ⟨kd2, nm2, tx2, as2, kz2, ey⟩ : ∃ kd nm tx as_ kz, y = Nd.mk kd nm tx as_ kz := by cases y; exact ⟨_, _, _, _, _, rfl⟩
          have hel0 := Hd hel;rw [ey] at hel;obtain ⟨Aa2, ca2, Ak2, ck2, rfl, _⟩ := hel.cells;obtain ⟨la2, hla2⟩ : ∃ la, as2.length = la := ⟨_, rfl⟩;obtain ⟨lk2, hlk2⟩ : ∃ lk, kz2.length = lk := ⟨_, rfl⟩;obtain ⟨U1, hU1⟩ : ∃ S, strOf nm2 = S := ⟨_, rfl⟩;obtain ⟨U2, hU2⟩ : ∃ S, strOf tx2 = S := ⟨_, rfl⟩;rw [hla2, hlk2, hU1, hU2] at hel0;have m0 : wr.cell? ⟨ba, off + k * 5, none⟩ = some (.int .i64 kd2) := hcs 0 _ rfl;have m1 : wr.cell? ⟨ba, off + k * 5 + 1, none⟩ = some (.string U1) := by rw [<- hU1]; exact hcs 1 _ rfl
          have m2 : wr.cell? ⟨ba, off + k * 5 + 2, none⟩ = some (.string U2) := by rw [<- hU2]; exact hcs 2 _ rfl
          have m3 : wr.cell? ⟨ba, off + k * 5 + 3, none⟩ = some (.slice Aa2 la2 ca2) := by rw [<- hla2]; exact hcs 3 _ rfl
          have m4 : wr.cell? ⟨ba, off + k * 5 + 4, none⟩ = some (.slice Ak2 lk2 ck2) := by rw [<- hlk2]; exact hcs 4 _ rfl
          have hy' := Hd hy;have eyH := Hd ey;have hU1H := Hd hU1;have hU2H := Hd hU2;clear hcs hys hel hy hbl hU1 hU2 hla2 hlk2 ey;obtain ⟨J2, hJ2⟩ : ∃ J, wr.heap.size = J := ⟨_, rfl⟩;obtain ⟨w8, hw8⟩ : ∃ w8, wr.alloc (.cells #[.int .i64 kd2, .string U1, .string U2, .slice Aa2 la2 ca2, .slice Ak2 lk2 ck2] 26) = w8 := ⟨_, rfl⟩;have hb8 : Below wr.heap.size wr w8 := by rw [<- hw8]; exact (Below.refl _ _).alloc (Nat.le_refl _) _
          have hkJ2 : w8.heap[J2]? = some (.cells #[.int .i64 kd2, .string U1, .string U2, .slice Aa2 la2 ca2, .slice Ak2 lk2 ck2] 26) := by rw [<- hw8, <- hJ2]; exact heap_alloc_new wr _
          obtain ⟨n0, n1, n2, n3, n4⟩ := cells_of5 hkJ2;obtain ⟨o8, ho8⟩ : ∃ o8, o5 ++ tabL l names true o5.length at_ PT 0 (kz.take k) = o8 := ⟨_, rfl⟩;have hv8 := Hd (hv7.below hb8);rw [ho8] at hv8;have hbk8 := Bk.of_below (b := b) (v := v6) hb8 (hv7.leB);have hbkA := Hd (hk7.trans hbk8);have hbkB := Hd (hk57.trans hbk8);have hE8 := Hd (hE5.out.later hbkB.out.bel);have hts8 := hts5.out w8 v6 hbkB.out;have hcl : Hid (∀ x, Below w8.heap.size w8 x -> Calls Tryz.prog 61 #[.slice Ap np cp] x fun e w' => ∃ A' c', e = .returned (.slice A' np c') /\ OwX w' x.heap.size 9 (.slice A' np c') names /\ Below x.heap.size x w') := Hd fun x hx => Ky.clone_any Ap np cp names x (hts8.below hx) (by have := hnpH.out; omega)
          have hcJ : Hid (∀ x, Below w8.heap.size w8 x -> x.heap[J2]? = some (.cells #[.int .i64 kd2, .string U1, .string U2, .slice Aa2 la2 ca2, .slice Ak2 lk2 ck2] 26)) := Hd fun x hx => (hx.block J2 (Array.getElem?_eq_some_iff.1 hkJ2).1).trans hkJ2
          have hbr8 : Hid (Below B wr w8) := Hd hbk8.bel;have hyx : Hid (∀ x, Below B wr x -> NdI (fun j => j < B) x [.int .i64 kd2, .string U1, .string U2, .slice Aa2 la2 ca2, .slice Ak2 lk2 ck2] y) := Hd fun x hx => hel0.out.stay fun j hj => ⟨hj, hx.block j hj⟩
          have hymH := Hd (List.mem_of_getElem? hy'.out);have hfy := Hd (fairL_all hfeH.out.2.2.2 y hymH.out);have hwy : Hid (wN y <= wL kz) := Hd (wL_mem hymH.out);have hny0 := nfL_iff.1 (hnfkH.out hfrE.out).1 y hymH.out;obtain ⟨⟨r2, hr2, key2, hk2'⟩, hny1⟩ := hny0;have hyn : y.name = nm2 := by rw [eyH.out]; rfl
          rw [hyn] at hr2 hny1;have hr2 := Hd hr2;have hk2' := Hd hk2';have hny := Hd (And.intro trivial hny1);have hrow8 : Hid (o8[at_]? = some ⟨1, nm, [], (pa : Nat), out.length + 1, PT⟩) := Hd (by rw [<- ho8]; exact app_at hrow5.out)
          have hlen8 : Hid (o8.length + wN y <= 7000000) := Hd (by
            rw [<- ho8, List.length_append, hlen5.out];have h1 := tabL_w l (kz.take k) names true (at_ + 1 + li) at_ PT 0
            have h2 : wL (kz.take k) + wN y <= wL kz := by
              have h3 := wL_take kz (k + 1);rw [take_snoc hy'.out, wL_append] at h3;simp only [wL] at h3;omega
            have h4 := Xp.wA_len as_;have := hWEH.out; have := hNH.out; have := hatH.out; have := hliH.out; have := hWNH.out
            omega)
          have hsnoc : Hid (o5 ++ tabL l names true o5.length at_ PT 0 (kz.take (k + 1)) = o8 ++ tabN l (names ++ [nm2]) o8.length at_ (PT ++ 47 :: endS (y.name, key2)) y) := Hd (by
            rw [take_snoc hy'.out, tabL_snoc, <- List.append_assoc, ho8];have h10 : o5.length + (tabL l names true o5.length at_ PT 0 (kz.take k)).length = o8.length := by rw [<- ho8, List.length_append]
            have h11 : stepK l names y = (y.name, key2) := by
              unfold stepK;rw [hyn, hr2.out];simp only [hk2'.out, Option.getD_some]
            rw [h10, h11, hyn]
            simp)
          have hnple : np + 1 <= 900000 := by
            have := hnpH.out; have := hwy.out; have := hWEH.out; have := hWNH.out
            have h9 : 1 <= wN y := by rw [eyH.out, wN]; omega
            omega
          have hcple := hts8.le;have hcpmx := Rd.max hts8;clear hts8 hb8 hkJ2 ho8 hv7 hk7 hk57 hbk8 hel0 hyn hny1 hin;go_wp2_with fail;clear hw8 hJ2;refine Pl.wp_region_plan 9 (.take 0 (.take 1 (.take 2 (.take 4 (.take 5 (.take 8 (.two 3 (.run 6 (.run 7 .done)) 6 (.run 3 (.run 7 .done))))))))) (fun x => x.cell? ⟨J2, 0, none⟩ = some (.int .i64 kd2) /\ x.cell? ⟨J2, 1, none⟩ = some (.string U1) /\ x.cell? ⟨J2, 2, none⟩ = some (.string U2) /\ x.cell? ⟨J2, 3, none⟩ = some (.slice Aa2 la2 ca2) /\ x.cell? ⟨J2, 4, none⟩ = some (.slice Ak2 lk2 ck2)) (by kernel_rfl) (by kernel_rfl) (by exact ⟨n0, n1, n2, n3, n4⟩) ?_;simp only [Pl.fill, Al_4, Al_5, Al_6, Al_7]
          iterate 6
            first
            | (refine Pl.take_go ?_ (by rfl) (fun _ _ _ h => h) ?_ ?_
               rotate_left
               · (intro x hSw; (try (dsimp only at hSw)); go_simp; try with_reducible rfl)
               (try simp only [Act.put, Al_1, Al_2, Al_3]))
            | (refine Pl.take_skip (by rfl) (fun _ _ _ h => h) ?_
               (try simp only [Act.put, Al_1, Al_2, Al_3]))
          clear n0 n1 n2 n3 n4;refine Pl.two_go ?_ ?_
          · refine Pl.run_go (fun K hK => ?_)
            go_simp;refine (hcl.out w8.drew (Joins.below_draws w8.heap.size w8 1)).mono ?_;rintro e x2 ⟨A8, c8, rfl, ho8, hb8⟩;have hbx2 : Below w8.heap.size w8 x2 := (show Below w8.heap.size w8 w8.drew from Joins.below_draws w8.heap.size w8 1).trans hb8;obtain ⟨d0, d1, d2, d3, d4⟩ := cells_of5 (hcJ.out x2 hbx2);refine hK.out _ _ (Pl.more_go _ (fun _ h => h) (by exact ⟨d0, d1, d2, d3, d4⟩) ?_);clear hK K d0 d1 d2 d3 d4
            try simp only [Act.put, Al_1, Al_2, Al_3]
            refine Pl.run_go (fun K hK => ?_);go_simp;have hbx3 := hbx2.trans ((below_alloc x2 (.cells #[.string U1] 9)).mono hbx2.size);have ho9 := ho8.below (below_alloc x2 (.cells #[.string U1] 9));have hlit := Ky.ts_lit x2 U1 nm2 9 (0, 0) hU1H.out.symm;have ho9d : OwX (x2.alloc (.cells #[.string U1] 9)) w8.heap.size 9 (.slice A8 np c8) names := ho9;obtain ⟨d0, d1, d2, d3, d4⟩ := cells_of5 (hcJ.out _ hbx3);refine hK.out _ _ (Pl.more_go _ (fun _ h => h) (by exact ⟨d0, d1, d2, d3, d4⟩) ?_);clear hK K d0 d1 d2 d3 d4
            try simp only [Act.put, Al_1, Al_2, Al_3]
            refine Pl.run_list (fun K hK => ?_);refine Ky.append_ts _ 33 9 Tryz.underlying33 Ky.str_info rfl _ _ rfl w8.heap.size _ names rfl ho9d _ 1 1 [nm2] rfl hlit (np + 1) (by rw [hpl.out]) (by omega) hbx3.size ?_;intro A9 c9 x9 ho10 hg10 hb10;have hbx9 := Hd (hbx3.trans hb10);have hts9 := Hd ho10;obtain ⟨d0, d1, d2, d3, d4⟩ := cells_of5 (hcJ.out _ hbx9.out);clear ho10 hg10 hb10 hbx3;refine hK.out _ _ (Pl.more_go _ (fun _ h => h) (by exact ⟨d0, d1, d2, d3, d4⟩) ?_);clear hK K d0 d1 d2 d3 d4
            try simp only [Act.put, Al_1, Al_2, Al_3]
            refine Pl.done_go ?_;have hv9x := Hd (hv8.out.below hbx9.out);have hbk9 := Hd (Bk.of_below (b := b) (v := v6) hbx9.out (hv8.out.leB))
            have hkc := Hd (ihH.out y (hszy.out y hymH.out) B b v6 o8 x9 Al nl cl l A9 (np + 1) c9 (names ++ [nm2]) [.int .i64 kd2, .string U1, .string U2, .slice Aa2 la2 ca2, .slice Ak2 lk2 ck2] at_ _ r2 key2 hv9x.out (hE8.out.later hbk9.out.bel) (fun x hx => hyx.out x (hbr8.out.trans (hbk9.out.bel.trans hx))) hts9.out.rd (fun a ea _ => by
              have h1 := hts9.out.lt a.block (by subst ea; rfl);refine ⟨h1.2, by have := hv8.out.lt; omega, fun e9 => ?_⟩;have := (hv8.out.row_lt _ e9).2
              omega) (by simp) hny.out.2 hr2.out hk2'.out hwtH.out hfy.out (by have := hwy.out; have := hWEH.out; have := hwH.out; have := hWNH.out; omega) hrow8.out (by have := hnpH.out; have := hwy.out; have := hWEH.out; have := hWNH.out; omega) hlen8.out (by
              show PT.length + _ <= _
              have := hPTlH.out; have := hphH.out; have := hwy.out; have := hWEH.out; have := hWNH.out; omega))
            go_wp2_with fail;refine hkc.out.mono ?_;rintro e w11 ⟨⟨r11, rfl⟩, v11, hv11, hk11⟩;rw [if_neg (by have := hat0.out; omega)] at hv11;have hrel2 : Hid (∃ v', Vb B b (.slice Al nl cl) v' (o5 ++ tabL l names true o5.length at_ PT 0 (kz.take (k + 1))) w11 /\ Bk B b v v' w w11 /\ Bk B b v5 v' w5 w11) := Hd ⟨v11, by rw [hsnoc.out]; exact hv11, ((hbkA.out.trans hbk9.out).trans hk11), ((hbkB.out.trans hbk9.out).trans hk11)⟩;clear hv11 hk11 hkc;go_wp2_with fail;go_roundw
            case rel => exact ⟨k + 1, by omega, by go_num, hrel2⟩
            case measure => simp [intOf]; omega
          · refine Pl.run_go (fun K hK => ?_)
            go_simp;have hbx2 : Below w8.heap.size w8 (w8.drew.alloc (.cells #[.string U1] 9)) := (show Below w8.heap.size w8 w8.drew from Joins.below_draws w8.heap.size w8 1).trans (below_alloc w8.drew _);have hlit0 := Ky.ts_lit w8.drew U1 nm2 9 (0, 0) hU1H.out.symm;obtain ⟨d0, d1, d2, d3, d4⟩ := cells_of5 (hcJ.out _ hbx2);refine hK.out _ _ (Pl.more_go _ (fun _ h => h) (by exact ⟨d0, d1, d2, d3, d4⟩) ?_);clear hK K d0 d1 d2 d3 d4
            try simp only [Act.put, Al_1, Al_2, Al_3]
            refine Pl.run_go (fun K hK => ?_);go_simp;refine (hcl.out _ hbx2).mono ?_;rintro e x3 ⟨A8, c8, rfl, ho8, hb8⟩;have hbx3 := hbx2.trans (hb8.mono hbx2.size);have hlit := hlit0.below hb8;have ho9d : OwX x3 w8.heap.size 9 (.slice A8 np c8) names := ho8.down hbx2.size;obtain ⟨d0, d1, d2, d3, d4⟩ := cells_of5 (hcJ.out _ hbx3);refine hK.out _ _ (Pl.more_go _ (fun _ h => h) (by exact ⟨d0, d1, d2, d3, d4⟩) ?_);clear hK K d0 d1 d2 d3 d4
            try simp only [Act.put, Al_1, Al_2, Al_3]
            refine Pl.run_list (fun K hK => ?_);refine Ky.append_ts _ 33 9 Tryz.underlying33 Ky.str_info rfl _ _ rfl w8.heap.size _ names rfl ho9d _ 1 1 [nm2] rfl hlit (np + 1) (by rw [hpl.out]) (by omega) hbx3.size ?_;intro A9 c9 x9 ho10 hg10 hb10;have hbx9 := Hd (hbx3.trans hb10);have hts9 := Hd ho10;obtain ⟨d0, d1, d2, d3, d4⟩ := cells_of5 (hcJ.out _ hbx9.out);clear ho10 hg10 hb10 hbx3;refine hK.out _ _ (Pl.more_go _ (fun _ h => h) (by exact ⟨d0, d1, d2, d3, d4⟩) ?_);clear hK K d0 d1 d2 d3 d4
            try simp only [Act.put, Al_1, Al_2, Al_3]
            refine Pl.done_go ?_;have hv9x := Hd (hv8.out.below hbx9.out);have hbk9 := Hd (Bk.of_below (b := b) (v := v6) hbx9.out (hv8.out.leB))
            have hkc := Hd (ihH.out y (hszy.out y hymH.out) B b v6 o8 x9 Al nl cl l A9 (np + 1) c9 (names ++ [nm2]) [.int .i64 kd2, .string U1, .string U2, .slice Aa2 la2 ca2, .slice Ak2 lk2 ck2] at_ _ r2 key2 hv9x.out (hE8.out.later hbk9.out.bel) (fun x hx => hyx.out x (hbr8.out.trans (hbk9.out.bel.trans hx))) hts9.out.rd (fun a ea _ => by
              have h1 := hts9.out.lt a.block (by subst ea; rfl);refine ⟨h1.2, by have := hv8.out.lt; omega, fun e9 => ?_⟩;have := (hv8.out.row_lt _ e9).2
              omega) (by simp) hny.out.2 hr2.out hk2'.out hwtH.out hfy.out (by have := hwy.out; have := hWEH.out; have := hwH.out; have := hWNH.out; omega) hrow8.out (by have := hnpH.out; have := hwy.out; have := hWEH.out; have := hWNH.out; omega) hlen8.out (by
              show PT.length + _ <= _
              have := hPTlH.out; have := hphH.out; have := hwy.out; have := hWEH.out; have := hWNH.out; omega))
            go_wp2_with fail;refine hkc.out.mono ?_;rintro e w11 ⟨⟨r11, rfl⟩, v11, hv11, hk11⟩;rw [if_neg (by have := hat0.out; omega)] at hv11;have hrel2 : Hid (∃ v', Vb B b (.slice Al nl cl) v' (o5 ++ tabL l names true o5.length at_ PT 0 (kz.take (k + 1))) w11 /\ Bk B b v v' w w11 /\ Bk B b v5 v' w5 w11) := Hd ⟨v11, by rw [hsnoc.out]; exact hv11, ((hbkA.out.trans hbk9.out).trans hk11), ((hbkB.out.trans hbk9.out).trans hk11)⟩;clear hv11 hk11 hkc;go_wp2_with fail;go_roundw
            case rel => exact ⟨k + 1, by omega, by go_num, hrel2⟩
            case measure => simp [intOf]; omega
        · have i1 : decide ((k : Int) < (lk : Int)) = false := by rw [decide_eq_false_iff_not]; omega
          have i2 : decide (k < lk) = false := by rw [decide_eq_false_iff_not]; omega
          have e1 : k = lk := (by omega);subst e1;rw [List.take_of_length_le (by rw [hlkH.out]; exact Nat.le_refl _)] at hv7;have hbw9 := Hd hk7;have hv9 := hv7;clear hv7 hk7 hk57 hin
          have hlen9 : (o5 ++ tabL l names true o5.length at_ PT 0 kz).length <= 8000000 := by
            rw [List.length_append, hlen5.out];have h1 := tabL_w l kz names true (at_ + 1 + li) at_ PT 0;have h2 := Xp.wA_len as_;have := hWEH.out;have := hNH.out;have := hatH.out;have := hliH.out;have := hWNH.out;omega
          have hsh := vshut_any B b _ v6 (o5 ++ tabL l names true o5.length at_ PT 0 kz) wr at_ _ hv9 (by omega) (app_at hrow5.out)
          have etab : Hid ((o5 ++ tabL l names true o5.length at_ PT 0 kz).set at_ ⟨1, nm, [], (pa : Nat), (o5 ++ tabL l names true o5.length at_ PT 0 kz).length, PT⟩ = out ++ tabN l names out.length pa PT (.mk 1 nm tx as_ kz)) := Hd (by
            have h1 := tab_shut l names out (pa : Nat) PT nm as_ kz (tabL l names true o5.length at_ PT 0 kz) pa rfl (by rw [hfrE.out, decide_eq_true hneH.out, hlen5.out, <- hatH.out, <- hliH.out]; rfl);generalize tabL l names true o5.length at_ PT 0 kz = T9 at h1 ⊢;rw [<- hatH.out, hfeH.out.2.1, <- ho5H.out, List.append_assoc, List.cons_append]
            exact h1)
          have hshH := Hd hsh;clear hsh hlen9 hv9;go_wp2_with fail;refine hshH.out.mono ?_;rintro e w10 ⟨⟨r10, rfl⟩, hv10, hk10⟩;have hv10H : Hid (Vb B b (.slice Al nl cl) v6 (out ++ tabN l names out.length pa PT (.mk 1 nm tx as_ kz)) w10) := Hd (by rw [<- etab.out]; exact hv10);have hk10H := Hd (hbw9.out.trans hk10);clear hv10 hk10;go_wp2_with fail
          go_end0
          exact ⟨⟨_, rfl⟩, v6, hv10H.out, hk10H.out⟩
end Go.Proofs.YtdnfnkicmfkkmaaGreatDoor.Vw
end
