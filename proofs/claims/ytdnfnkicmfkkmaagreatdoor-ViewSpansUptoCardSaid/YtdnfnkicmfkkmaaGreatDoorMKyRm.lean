/- The document's May. Printed by gen/ky_rmay.py. -/
import Derived.Test.YtdnfnkicmfkkmaaGreatDoorMItoaS
import Derived.Lib.ItoaLen
import Derived.Test.YtdnfnkicmfkkmaaGreatDoorMXlScan
import Derived.Test.YtdnfnkicmfkkmaaGreatDoorMKyRd
import Derived.Test.YtdnfnkicmfkkmaaGreatDoorMKyRb
import Derived.Test.YtdnfnkicmfkkmaaGreatDoorMPlan2
set_option linter.unusedVariables false
set_option linter.unusedSimpArgs false
section
namespace Go.Proofs.YtdnfnkicmfkkmaaGreatDoor.Vw
open Go.RowKit UtfW Xl Xt Xo No
open Go.Proofs.YtdnfnkicmfkkmaaGreatDoor (Ky.frontB Ky.Rl)
open Go.Proofs.YtdnfnkicmfkkmaaGreatDoor.Ky (Ts OwX tv join Rs)

def VEnv (B : Nat) (Al : Option Addr) (nl cl : Nat) (l : List Ky.Rl) (w : World) : Prop := ∀ x, Below B w x → Nu.Tens x ∧ Ut x ∧ Rs x Al nl cl l
theorem VEnv.later {B nl cl : Nat} {Al : Option Addr} {l : List Ky.Rl} {w w' : World} (h : VEnv B Al nl cl l w) (hb : Below B w w') : VEnv B Al nl cl l w' := fun x hx => h x (hb.trans hx)
theorem app_at {α : Type} {a c : List α} {i : Nat} {x : α} (h : a[i]? = some x) : (a ++ c)[i]? = some x := by
 rw [List.getElem?_append_left (List.getElem?_eq_some_iff.1 h).1]
 exact h
set_option maxHeartbeats 20000000 in
set_option maxRecDepth 100000 in
theorem velem_any (B b : Nat) (rv v : Value) (out : List Q) (w : World) (nm : Tx) (as_ : List At) (A : Option Addr) (n c : Nat) (pa : Int) (ph : Tx) (h : Vb B b rv v out w) (hA : ∀ x, Below B w x → Sq AtEl 2 x A n c as_) (h0 : 0 < out.length) (hN : out.length + as_.length ≤ 9000000) (hph : ph.length + wA as_ ≤ 500000000000) :
    Calls Tryz.prog 56 #[.pointer (some ⟨b, 0, none⟩), .string (strOf nm), .slice A n c, .int .i64 pa, .string (strOf ph)] w fun e w' => e = .returned (.int .i64 (out.length : Nat)) ∧ ∃ v', Vb B b rv v' (out ++ ⟨1, nm, [], pa, out.length + 1, ph⟩ :: attrRows out.length ph (out.length + 1) as_) w' ∧ Bk B b v v' w w' := by
  obtain ⟨m, hm⟩ : ∃ m, out.length = m := ⟨_, rfl⟩
  have hput := vput_any B b rv v out w 1 nm [] pa 0 ph h (by omega)
  rw [hm] at hput h0 hN ⊢
  have hs0 : strOf ([] : Tx) = ⟨#[]⟩ := rfl
  rw [hs0] at hput
  have hA0 := hA w (Below.refl _ _)
  have hnl : as_.length = n := hA0.len
  have l1 := hA0.le
  have l2 := hA0.max
  rw [hnl] at hN
  obtain ⟨S1, hS1⟩ : ∃ S, strOf nm = S := ⟨_, rfl⟩
  obtain ⟨S3, hS3⟩ : ∃ S, strOf ph = S := ⟨_, rfl⟩
  rw [hS1, hS3] at hput ⊢
  have hputH := Lib.hid hput
  have hAH : Hid (∀ x, Below B w x → Sq AtEl 2 x A n c as_) := Lib.hid hA
  have hnlH := Lib.hid hnl
  have hmH := Lib.hid hm
  have hphH := Lib.hid hph
  clear hput hA hA0 hm hnl hph hS1 hS3
  go_enter Tryz.func56, Tryz.ntmps56
  go_wp2_with fail
  refine hputH.out.mono ?_
  rintro e w1 ⟨rfl, v1, hv1, hk1⟩
  have hst : Hid (∃ v', Vb B b rv v' (out ++ ⟨1, nm, [], pa, m + 1, ph⟩ :: attrRows m ph (m + 1) (as_.take 0)) w1 ∧ Bk B b v v' w w1) := Lib.hid ⟨v1, by rw [List.take_zero]; exact hv1, hk1⟩
  clear hv1 hk1 hputH h
  go_wp2_with fail
  go_loopw [22] (fun vi wr => ∃ k : Nat, k ≤ n ∧ vi = .int .i64 (k : Nat) ∧ Hid (∃ v', Vb B b rv v' (out ++ ⟨1, nm, [], pa, m + 1, ph⟩ :: attrRows m ph (m + 1) (as_.take k)) wr ∧ Bk B b v v' w wr)) (fun vi _ => n - (intOf vi).toNat)
  case atStart => exact ⟨0, by omega, rfl, hst⟩
  case round =>
    obtain ⟨k, hk, rfl, hin⟩ := hrel
    clear hst
    obtain ⟨v2, hv2, hk2⟩ := hin.out
    by_cases hlt : k < n
    · have i1 : decide ((k : Int) < (n : Int)) = true := by rw [decide_eq_true_eq]; omega
      have i2 : decide (k < n) = true := by rw [decide_eq_true_eq]; omega
      have i3 : (k : Int) < (n : Int) := by omega
      obtain ⟨ba, off, y, ys, eA, hbl, hy, hys, rfl, hcs⟩ := (hAH.out wr hk2.bel).at_ hlt
      subst eA
      obtain ⟨y1, y2⟩ := y
      have m0 : wr.cell? ⟨ba, off + k * 2, none⟩ = some (.string (strOf y1)) := hcs 0 _ rfl
      have m1 : wr.cell? ⟨ba, off + k * 2 + 1, none⟩ = some (.string (strOf y2)) := hcs 1 _ rfl
      obtain ⟨J, hJ⟩ : ∃ J, wr.heap.size = J := ⟨_, rfl⟩
      obtain ⟨w3, hw3⟩ : ∃ w3, wr.alloc (.cells #[.string (strOf y1), .string (strOf y2)] 68) = w3 := ⟨_, rfl⟩
      have hb3 : Below wr.heap.size wr w3 := by rw [← hw3]; exact (Below.refl _ _).alloc (Nat.le_refl _) _
      have hk3 : w3.heap[J]? = some (.cells #[.string (strOf y1), .string (strOf y2)] 68) := by rw [← hw3, ← hJ]; exact heap_alloc_new wr _
      have n0 := Xp.cell_blk hk3 (i := 0) rfl
      have n1 := Xp.cell_blk hk3 (i := 1) rfl
      have hrl : (out ++ (⟨1, nm, [], pa, m + 1, ph⟩ : Q) :: attrRows m ph (m + 1) (as_.take k)).length = m + 1 + k := by
        rw [List.length_append, List.length_cons, attrRows_len, List.length_take, hmH.out, hnlH.out]
        omega
      have hrow : (out ++ (⟨1, nm, [], pa, m + 1, ph⟩ : Q) :: attrRows m ph (m + 1) (as_.take k))[m]? = some ⟨1, nm, [], pa, m + 1, ph⟩ := by
        rw [List.getElem?_append_right (by rw [hmH.out]; exact Nat.le_refl _), hmH.out, Nat.sub_self]
        rfl
      have hdr : Below w3.heap.size w3 w3.drew := Joins.below_draws w3.heap.size w3 1
      have hv3 := hv2.below (hb3.trans (hdr.mono hb3.size))
      have hya : y1.length ≤ wA as_ := by have := Xp.wA_mem (List.mem_of_getElem? hy); simp only at this; omega
      have hbel := vbelow_any B b rv v2 _ w3.drew m _ (64 :: y1) hv3 hrow (by have := hphH.out; simp only [List.length_cons]; omega)
      rw [if_neg (by omega)] at hbel
      have hput := vput_any B b rv v2 _ w3.drew 5 y1 y2 (m : Nat) 0 (ph ++ 47 :: 64 :: y1) hv3 (by rw [hrl]; omega)
      rw [hrl] at hput
      have hsn : Hid ((out ++ (⟨1, nm, [], pa, m + 1, ph⟩ : Q) :: attrRows m ph (m + 1) (as_.take k)) ++ [⟨5, y1, y2, (m : Nat), m + 1 + k + 1, ph ++ 47 :: 64 :: y1⟩] = out ++ ⟨1, nm, [], pa, m + 1, ph⟩ :: attrRows m ph (m + 1) (as_.take (k + 1))) := Lib.hid (by
        rw [take_snoc hy, attrRows_snoc, List.append_assoc, List.cons_append]
        have h9 : (as_.take k).length = k := by rw [List.length_take, hnlH.out]; omega
        rw [h9])
      have a1 := fun w => add_txt w [64] y1 (by have := hphH.out; simp; omega)
      rw [show strOf [64] = (⟨#[64]⟩ : ByteArray) from rfl] at a1
      obtain ⟨U1, hU1⟩ : ∃ S, strOf y1 = S := ⟨_, rfl⟩
      obtain ⟨U2, hU2⟩ : ∃ S, strOf y2 = S := ⟨_, rfl⟩
      obtain ⟨U3, hU3⟩ : ∃ S, strOf ([64] ++ y1) = S := ⟨_, rfl⟩
      obtain ⟨U4, hU4⟩ : ∃ S, strOf (ph ++ 47 :: 64 :: y1) = S := ⟨_, rfl⟩
      rw [show strOf (64 :: y1) = U3 from hU3, hU4] at hbel
      rw [hU1, hU2, hU4] at hput
      rw [hU1, hU3] at a1
      rw [hU1] at m0 n0 hw3
      rw [hU2] at m1 n1 hw3
      have hbelH := Lib.hid hbel
      have hputH := Lib.hid hput
      have hbk3 : Hid (Bk B b v v2 w w3.drew) := Lib.hid (hk2.trans (Bk.of_below (hb3.trans (hdr.mono hb3.size)) (hv2.leB)))
      have d0 : w3.drew.cell? ⟨J, 0, none⟩ = some (.string U1) := n0
      have d1 : w3.drew.cell? ⟨J, 1, none⟩ = some (.string U2) := n1
      clear hcs hys hbl hy hb3 hk3 hrl hrow hdr hv3 hya hbel hput hU1 hU2 hU3 hU4 hin hv2 hk2
      go_wp2_with fail
      clear hw3 hJ
      refine Pl.wp_region_plan 13 (.take 0 (.take 1 (.take 2 (.take 3 (.take 4 (.take 5 (.take 6 (.take 7 (.take 8 (.take 9 (.take 10 (.run 11 (.take 12 .done))))))))))))) (fun x => x.cell? ⟨J, 0, none⟩ = some (.string U1) ∧ x.cell? ⟨J, 1, none⟩ = some (.string U2)) (by kernel_rfl) (by kernel_rfl) (by exact ⟨n0, n1⟩) ?_
      simp only [Pl.fill, List.getElem?_cons_zero, List.getElem?_cons_succ, List.drop_succ_cons, List.drop_zero]
      iterate 11
        first
        | (refine Pl.take_go ?_ (by rfl) (fun _ _ _ h => h) ?_ ?_
           rotate_left
           · (intro x hSw; (try (dsimp only at hSw)); go_simp; try with_reducible rfl)
           (try simp only [Act.put, List.setIfInBounds_toArray, List.set_cons_zero, List.set_cons_succ]))
        | (refine Pl.take_skip (by rfl) (fun _ _ _ h => h) ?_
           (try simp only [Act.put, List.setIfInBounds_toArray, List.set_cons_zero, List.set_cons_succ]))
      refine Pl.run_go (fun K hK => ?_)
      go_simp
      refine hbelH.out.mono ?_
      rintro e w4 ⟨rfl, rfl⟩
      refine hK.out _ _ (Pl.more_go _ (fun _ h => h) (by exact ⟨d0, d1⟩) ?_)
      clear hK K
      try simp only [Act.put, List.setIfInBounds_toArray, List.set_cons_zero, List.set_cons_succ]
      iterate 1
        first
        | (refine Pl.take_go ?_ (by rfl) (fun _ _ _ h => h) ?_ ?_
           rotate_left
           · (intro x hSw; (try (dsimp only at hSw)); go_simp; try with_reducible rfl)
           (try simp only [Act.put, List.setIfInBounds_toArray, List.set_cons_zero, List.set_cons_succ]))
        | (refine Pl.take_skip (by rfl) (fun _ _ _ h => h) ?_
           (try simp only [Act.put, List.setIfInBounds_toArray, List.set_cons_zero, List.set_cons_succ]))
      refine Pl.done_go ?_
      clear m0 m1 n0 n1 d0 d1
      go_wp2_with fail
      refine hputH.out.mono ?_
      rintro e w5 ⟨rfl, v5, hv5, hk5⟩
      have hrel2 : Hid (∃ v', Vb B b rv v' (out ++ ⟨1, nm, [], pa, m + 1, ph⟩ :: attrRows m ph (m + 1) (as_.take (k + 1))) w5 ∧ Bk B b v v' w w5) := Lib.hid ⟨v5, by rw [← hsn.out]; exact hv5, hbk3.out.trans hk5⟩
      clear hv5 hk5
      go_wp2_with fail
      go_roundw
      case rel => exact ⟨k + 1, by omega, by go_num, hrel2⟩
      case measure => simp [intOf]; omega
    · have i1 : decide ((k : Int) < (n : Int)) = false := by rw [decide_eq_false_iff_not]; omega
      have i2 : decide (k < n) = false := by rw [decide_eq_false_iff_not]; omega
      have e1 : k = n := by omega
      subst e1
      have hfin : Hid (∃ v', Vb B b rv v' (out ++ ⟨1, nm, [], pa, m + 1, ph⟩ :: attrRows m ph (m + 1) as_) wr ∧ Bk B b v v' w wr) := Lib.hid (by
        rw [List.take_of_length_le (by rw [hnlH.out]; exact Nat.le_refl _)] at hv2
        exact ⟨v2, hv2, hk2⟩)
      clear hv2 hk2 hin
      go_wp2_with fail
      go_ret
      exact ⟨rfl, hfin.out⟩
end Go.Proofs.YtdnfnkicmfkkmaaGreatDoor.Vw
end

section
namespace Go.Proofs.YtdnfnkicmfkkmaaGreatDoor.Vw
open Go.RowKit UtfW Xl Xt Xo No
open Go.Proofs.YtdnfnkicmfkkmaaGreatDoor (Ky.frontB Ky.Rl)
open Go.Proofs.YtdnfnkicmfkkmaaGreatDoor.Ky (Ts OwX tv join Rs)

theorem tab_shut (l : List Ky.Rl) (names : List Tx) (out : List Q) (pa : Int) (path nm : Tx) (as_ : List At) (ks : List Nd) (T : List Q) (p : Nat) (hp : pa = (p : Int)) (hT : T = tabL l names (decide (names ≠ []) && !Ky.frontB l names) (out.length + 1 + as_.length) out.length path 0 ks) :
  (out ++ (⟨1, nm, [], pa, out.length + 1, path⟩ : Q) :: (attrRows out.length path (out.length + 1) as_ ++ T)).set out.length ⟨1, nm, [], pa, (out ++ (⟨1, nm, [], pa, out.length + 1, path⟩ : Q) :: (attrRows out.length path (out.length + 1) as_ ++ T)).length, path⟩ = out ++ tabN l names out.length p path (.mk 1 nm [] as_ ks) := by
 rw [set_mid]
 unfold tabN
 subst hT hp
 congr 1
 simp only [List.length_append, List.length_cons]
 congr 2
 omega
theorem fair_leaf {k : Int} {nm tx : Tx} {as_ : List At} {ks : List Nd} (h : fairN (.mk k nm tx as_ ks) = true) (hk : k ≠ 1) : as_ = [] ∧ ks = [] := by
 unfold fairN at h
 rw [if_neg hk] at h
 split at h
 ·simp only [Bool.and_eq_true, List.isEmpty_iff] at h
  exact ⟨h.1.1.1.1, h.1.1.1.2⟩
 ·split at h
  ·simp only [Bool.and_eq_true, List.isEmpty_iff] at h
   exact ⟨h.1.1.1.1.1, h.1.1.1.1.2⟩
  ·split at h
   ·simp only [Bool.and_eq_true, List.isEmpty_iff] at h
    exact ⟨h.1.1.1.1.1.1, h.1.1.1.1.1.2⟩
   ·simp at h
theorem tab_leaf (l : List Ky.Rl) (names : List Tx) (at_ p : Nat) (path : Tx) {k : Int} {nm tx : Tx} : tabN l names at_ p path (.mk k nm tx [] []) = [⟨k, nm, tx, p, at_ + 1, path⟩] := by
 unfold tabN tabL attrRows
 simp
mutual
theorem tabN_w (l : List Ky.Rl) : ∀ (n : Nd) (names : List Tx) (a p : Nat) (path : Tx), (tabN l names a p path n).length ≤ wN n
 | .mk k nm tx as_ ks, names, a, p, path => by
  unfold tabN
  simp only [List.length_cons, List.length_append, attrRows_len]
  have h1 := tabL_w l ks names (decide (names ≠ []) && !Ky.frontB l names) (a + 1 + as_.length) a path 0
  have h2 := Xp.wA_len as_
  rw [wN]
  omega
theorem tabL_w (l : List Ky.Rl) : ∀ (ks : List Nd) (names : List Tx) (keyed : Bool) (a p : Nat) (path : Tx) (i : Nat), (tabL l names keyed a p path i ks).length ≤ wL ks
 | [], _, _, _, _, _, _ => by unfold tabL; simp
 | x :: xs, names, keyed, a, p, path, i => by
  unfold tabL
  simp only [List.length_append]
  have h1 := tabN_w l x (if keyed then names ++ [x.name] else []) a p (path ++ 47 :: (if keyed then endS (stepK l names x) else 35 :: Lib.decDigits (i + 1)))
  have h2 := tabL_w l xs names keyed (a + (tabN l (if keyed then names ++ [x.name] else []) a p (path ++ 47 :: (if keyed then endS (stepK l names x) else 35 :: Lib.decDigits (i + 1))) x).length) p path (i + 1)
  rw [wL]
  omega
end
theorem dec_len (n : Nat) (h : n ≤ 1000000000) : (Lib.decDigits n).length ≤ 21 := by
 have h1 := Lib.itoa_length_le (n : Int) (by omega) (by omega)
 have e : Lib.itoa (n : Int) = Lib.decDigits n := by
  unfold Lib.itoa
  rw [if_neg (by omega)]
  rfl
 rwa [e] at h1
theorem nd_rows {X : Nat → Prop} {w : World} {kd kd' : Int} {S1 S2 : ByteArray} {Aa Ak : Option Addr} {la ca lk ck : Nat} {nm tx : Tx} {as_ : List At} {kz : List Nd} (h : NdI X w [.int .i64 kd, .string S1, .string S2, .slice Aa la ca, .slice Ak lk ck] (.mk kd' nm tx as_ kz)) :
  kd = kd' ∧ S1 = strOf nm ∧ S2 = strOf tx ∧ Sq AtEl 2 w Aa la ca as_ ∧ Sq (NdE X) 5 w Ak lk ck kz ∧ (∀ a, Aa = some a → 0 < la → X a.block) ∧ ∀ a, Ak = some a → 0 < lk → X a.block := by
 obtain ⟨A, ca', A2, c2', e, hA, hK, hXA, hXK⟩ := h.cells
 simp only [List.cons.injEq, Value.int.injEq, Value.string.injEq, Value.slice.injEq, true_and, and_true] at e
 obtain ⟨e1, e2, e3, ⟨e4, e5, e6⟩, e7, e8, e9⟩ := e
 subst e1 e2 e3 e4 e5 e6 e7 e8 e9
 exact ⟨rfl, rfl, rfl, hA, hK, hXA, hXK⟩
theorem cells_of5 {w : World} {b E : Nat} {a0 a1 a2 a3 a4 : Value} (h : w.heap[b]? = some (.cells #[a0, a1, a2, a3, a4] E)) : w.cell? ⟨b, 0, none⟩ = some a0 ∧ w.cell? ⟨b, 1, none⟩ = some a1 ∧ w.cell? ⟨b, 2, none⟩ = some a2 ∧ w.cell? ⟨b, 3, none⟩ = some a3 ∧ w.cell? ⟨b, 4, none⟩ = some a4 :=
 ⟨Xp.cell_blk h (i := 0) rfl, Xp.cell_blk h (i := 1) rfl, Xp.cell_blk h (i := 2) rfl, Xp.cell_blk h (i := 3) rfl, Xp.cell_blk h (i := 4) rfl⟩
def ContV (ks : List Nd) : Prop := ∀ (B b : Nat) (rv v : Value) (out : List Q) (w : World) (A : Option Addr) (n c : Nat) (pa : Nat) (q : Q) (l : List Ky.Rl) (Al : Option Addr) (nl cl : Nat), Vb B b rv v out w → VEnv B Al nl cl l w → (∀ x, Below B w x → Sq (NdE (fun j => j < B)) 5 x A n c ks) → out[pa]? = some q → 0 < pa → (∀ x ∈ ks, fairN x = true) → out.length + wL ks ≤ 8000000 → q.path.length + 100 * wL ks ≤ 400000000000 →
 Calls Tryz.prog 60 #[.pointer (some ⟨b, 0, none⟩), .slice A n c, .int .i64 (pa : Nat)] w fun e w' => (∃ r, e = .returned r) ∧ ∃ v', Vb B b rv v' (out ++ tabL l [] false out.length pa q.path 0 ks) w' ∧ Bk B b v v' w w'
set_option maxHeartbeats 40000000 in
set_option maxRecDepth 100000 in
theorem vcont_any : ∀ (kk : Nat) (ks : List Nd), SizeOf.sizeOf ks ≤ kk → ContV ks := by
 intro kk
 induction kk with
 | zero => intro ks hk; cases ks <;> simp at hk
 | succ kk ih =>
  intro ks hkk B b rv v out w A n c pa q l Al nl cl h hE hS hq hpa hf hN hph
  have hS0 := hS w (Below.refl _ _)
  have hnl := hS0.len
  have l1 := hS0.le
  have l2 := hS0.max
  have hnw : n ≤ 8000000 := by have := wL_len ks; omega
  have hSH : Hid (∀ x, Below B w x → Sq (NdE (fun j => j < B)) 5 x A n c ks) := Lib.hid hS
  have hEH := Lib.hid hE
  have hnlH := Lib.hid hnl
  have hqH := Lib.hid hq
  have hfH := Lib.hid hf
  have hNH := Lib.hid hN
  have hphH := Lib.hid hph
  have ihH := Lib.hid ih
  have hsz : Hid (∀ y ∈ ks, SizeOf.sizeOf y.kids ≤ kk) := Lib.hid fun y hy => by
   have h2 := List.sizeOf_lt_of_mem hy
   cases y with
   | mk a b c d e =>
    rw [Nd.mk.sizeOf_spec] at h2
    show SizeOf.sizeOf e ≤ kk
    omega
  have hpal : Hid (pa < out.length) := Lib.hid (List.getElem?_eq_some_iff.1 hq).1
  have hst : Hid (∃ v', Vb B b rv v' (out ++ tabL l [] false out.length pa q.path 0 (ks.take 0)) w ∧ Bk B b v v' w w) := Lib.hid ⟨v, by rw [List.take_zero]; unfold tabL; rw [List.append_nil]; exact h, Bk.refl⟩
  clear hS hS0 hE hq hf hN hph ih hkk h hnl
  go_enter Tryz.func60, Tryz.ntmps60
  go_wp2_with fail
  go_loopw [12] (fun vi wr => ∃ k : Nat, k ≤ n ∧ vi = .int .i64 (k : Nat) ∧ Hid (∃ v', Vb B b rv v' (out ++ tabL l [] false out.length pa q.path 0 (ks.take k)) wr ∧ Bk B b v v' w wr)) (fun vi _ => n - (intOf vi).toNat)
  case atStart => exact ⟨0, by omega, rfl, hst⟩
  case round =>
   obtain ⟨k, hk, rfl, hin⟩ := hrel
   clear hst
   obtain ⟨v2, hv2, hk2⟩ := hin.out
   by_cases hlt : k < n
   ·have i1 : decide ((k : Int) < (n : Int)) = true := by rw [decide_eq_true_eq]; omega
    have i2 : decide (k < n) = true := by rw [decide_eq_true_eq]; omega
    have i3 : (k : Int) < (n : Int) := by omega
    obtain ⟨ba, off, y, ys, eA, hbl, hy, hys, hel, hcs⟩ := (hSH.out wr hk2.bel).at_ hlt
    subst eA
    obtain ⟨kd2, nm2, tx2, as2, kz2, ey⟩ : ∃ kd nm tx as_ kz, y = Nd.mk kd nm tx as_ kz := by cases y; exact ⟨_, _, _, _, _, rfl⟩
    have hel0 := Lib.hid hel
    rw [ey] at hel
    obtain ⟨Aa2, ca2, Ak2, ck2, rfl, _⟩ := hel.cells
    obtain ⟨la2, hla2⟩ : ∃ la, as2.length = la := ⟨_, rfl⟩
    obtain ⟨lk2, hlk2⟩ : ∃ lk, kz2.length = lk := ⟨_, rfl⟩
    obtain ⟨U1, hU1⟩ : ∃ S, strOf nm2 = S := ⟨_, rfl⟩
    obtain ⟨U2, hU2⟩ : ∃ S, strOf tx2 = S := ⟨_, rfl⟩
    rw [hla2, hlk2, hU1, hU2] at hel0
    have m0 : wr.cell? ⟨ba, off + k * 5, none⟩ = some (.int .i64 kd2) := hcs 0 _ rfl
    have m1 : wr.cell? ⟨ba, off + k * 5 + 1, none⟩ = some (.string U1) := by rw [← hU1]; exact hcs 1 _ rfl
    have m2 : wr.cell? ⟨ba, off + k * 5 + 2, none⟩ = some (.string U2) := by rw [← hU2]; exact hcs 2 _ rfl
    have m3 : wr.cell? ⟨ba, off + k * 5 + 3, none⟩ = some (.slice Aa2 la2 ca2) := by rw [← hla2]; exact hcs 3 _ rfl
    have m4 : wr.cell? ⟨ba, off + k * 5 + 4, none⟩ = some (.slice Ak2 lk2 ck2) := by rw [← hlk2]; exact hcs 4 _ rfl
    have hy' := Lib.hid hy
    have eyH := Lib.hid ey
    have hU1H := Lib.hid hU1
    have hU2H := Lib.hid hU2
    clear hcs hys hel hy hbl hU1 hU2 hla2 hlk2 ey
    obtain ⟨J, hJ⟩ : ∃ J, wr.heap.size = J := ⟨_, rfl⟩
    obtain ⟨w3, hw3⟩ : ∃ w3, wr.alloc (.cells #[.int .i64 kd2, .string U1, .string U2, .slice Aa2 la2 ca2, .slice Ak2 lk2 ck2] 26) = w3 := ⟨_, rfl⟩
    have hb3 : Below wr.heap.size wr w3 := by rw [← hw3]; exact (Below.refl _ _).alloc (Nat.le_refl _) _
    have hk3 : w3.heap[J]? = some (.cells #[.int .i64 kd2, .string U1, .string U2, .slice Aa2 la2 ca2, .slice Ak2 lk2 ck2] 26) := by rw [← hw3, ← hJ]; exact heap_alloc_new wr _
    have n0 := Xp.cell_blk hk3 (i := 0) rfl
    have n1 := Xp.cell_blk hk3 (i := 1) rfl
    have n2 := Xp.cell_blk hk3 (i := 2) rfl
    have n3 := Xp.cell_blk hk3 (i := 3) rfl
    have n4 := Xp.cell_blk hk3 (i := 4) rfl
    have hv3 := Lib.hid (hv2.below hb3)
    have hbk3 := Lib.hid (hk2.trans (Bk.of_below hb3 (hv2.leB)))
    obtain ⟨o2, ho2⟩ : ∃ o2, out ++ tabL l [] false out.length pa q.path 0 (ks.take k) = o2 := ⟨_, rfl⟩
    have ho2H := Lib.hid ho2
    rw [ho2] at hv3
    have hJa : Hid (Apart b v2 w3 J) := Lib.hid (hv2.own_apart (by omega) (Array.getElem?_eq_some_iff.1 hk3).1)
    have hk3H := Lib.hid hk3
    have hym := List.mem_of_getElem? hy'.out
    have hfy := hfH.out y hym
    have hwy : wN y ≤ wL ks := wL_mem hym
    have hlen2 : Hid (o2.length + wN y ≤ 8000000) := Lib.hid (by
     rw [← ho2, List.length_append]
     have h1 := tabL_w l (ks.take k) [] false out.length pa q.path 0
     have h2 : wL (ks.take k) + wN y ≤ wL ks := by
      have h3 := wL_take ks (k + 1)
      rw [take_snoc hy'.out, wL_append] at h3
      simp only [wL] at h3
      omega
     have := hNH.out
     omega)
    have hrow2 : Hid (o2[pa]? = some q) := Lib.hid (by rw [← ho2]; exact app_at hqH.out)
    have hdl := dec_len (k + 1) (by omega)
    have hph2 : Hid (q.path.length + 100 * wN y ≤ 400000000000) := Lib.hid (by have := hphH.out; omega)
    have hE3 := (hEH.out w3 hbk3.out.bel).1
    have hit := Nu.strconv_Itoa ((k + 1 : Nat) : Int) (by omega) (by omega) w3 hE3
    have e5 : Lib.itoa ((k + 1 : Nat) : Int) = Lib.decDigits (k + 1) := by
     unfold Lib.itoa
     rw [if_neg (by omega)]
     rfl
    rw [e5, show (((k + 1 : Nat)) : Int) = (k : Int) + 1 by omega] at hit
    have hitH := Lib.hid hit
    have a1 := fun w => add_txt w [35] (Lib.decDigits (k + 1)) (by simp; omega)
    rw [show strOf [35] = (⟨#[35]⟩ : ByteArray) from rfl] at a1
    obtain ⟨P2, hP2⟩ : ∃ P2, q.path ++ 47 :: ([35] ++ Lib.decDigits (k + 1)) = P2 := ⟨_, rfl⟩
    have hP2l : Hid (P2.length ≤ q.path.length + 23) := Lib.hid (by rw [← hP2]; simp; omega)
    have hbelc : Hid (∀ x vx, Vb B b rv vx o2 x → Calls Tryz.prog 57 #[.pointer (some ⟨b, 0, none⟩), .int .i64 (pa : Nat), .string (strOf ([35] ++ Lib.decDigits (k + 1)))] x fun e w' => e = .returned (.string (strOf P2)) ∧ w' = x) := Lib.hid fun x vx hx => by
     have h1 := vbelow_any B b rv vx o2 x pa q ([35] ++ Lib.decDigits (k + 1)) hx hrow2.out (by have := hph2.out; simp; omega)
     rw [if_neg (by omega), hP2] at h1
     exact h1
    have hsnoc : Hid (out ++ tabL l [] false out.length pa q.path 0 (ks.take (k + 1)) = o2 ++ tabN l [] o2.length pa P2 y) := Lib.hid (by
     rw [take_snoc hy'.out, tabL_snoc, ← List.append_assoc, ho2]
     have h9 : (ks.take k).length = k := by rw [List.length_take, hnlH.out]; omega
     have h10 : out.length + (tabL l [] false out.length pa q.path 0 (ks.take k)).length = o2.length := by rw [← ho2, List.length_append]
     rw [h9, h10, ← hP2]
     simp)
    obtain ⟨NS, hNS⟩ : ∃ S, strOf ([35] ++ Lib.decDigits (k + 1)) = S := ⟨_, rfl⟩
    obtain ⟨DS, hDS⟩ : ∃ S, strOf (Lib.decDigits (k + 1)) = S := ⟨_, rfl⟩
    obtain ⟨PS, hPS⟩ : ∃ S, strOf P2 = S := ⟨_, rfl⟩
    rw [hNS, hPS] at hbelc
    rw [hDS] at hitH
    rw [hDS, hNS] at a1
    have hPSH := Lib.hid hPS
    have hwyH := Lib.hid hwy
    have hfyH := Lib.hid hfy
    have hymH := Lib.hid hym
    have hwb : Hid (b < wr.heap.size) := Lib.hid hv2.lt
    have hbr3 : Hid (Below B wr w3) := Lib.hid (hb3.mono (hv2.leB))
    clear hit e5 hE3 hin hv2 hk2 hb3 hk3 ho2 hNS hDS hPS hP2 hdl hwy hfy hym
    have hyx : Hid (∀ x, Below B wr x → NdI (fun j => j < B) x [.int .i64 kd2, .string U1, .string U2, .slice Aa2 la2 ca2, .slice Ak2 lk2 ck2] y) := Lib.hid fun x hx => hel0.out.stay fun j hj => ⟨hj, hx.block j hj⟩
    clear hel0
    go_wp2_with fail
    clear hw3 hJ
    refine hitH.out.mono ?_
    rintro e w4 ⟨rfl, hb4⟩
    have hv4 := Lib.hid (hv3.out.below hb4)
    have hbk4 := Lib.hid (hbk3.out.trans (Bk.of_below hb4 (hv3.out.leB)))
    have hk4 := Lib.hid ((hb4.block J hJa.out.1).trans hk3H.out)
    have hJ4 := Lib.hid ((Bk.of_below (b := b) (v := v2) hb4 (hv3.out.leB)).apart hJa.out).1
    have hb45 : Hid (Below B w3 w4) := Lib.hid (hb4.mono (hv3.out.leB))
    clear hb4 n0 n1 n2 n3 n4
    go_wp2_with fail
    refine (hbelc.out w4 v2 hv4.out).mono ?_
    rintro e w5 ⟨rfl, rfl⟩
    have hbwr : Hid (Below B wr w5) := Lib.hid (hbr3.out.trans hb45.out)
    obtain ⟨n0, n1, n2, n3, n4⟩ := cells_of5 hk4.out
    by_cases hkd : kd2 = 1
    ·subst hkd
     have hfe := fair_el (k := 1) (nm := nm2) (tx := tx2) (as_ := as2) (ks := kz2) (by rw [← eyH.out]; exact hfyH.out) rfl
     have htx := hfe.2.1
     have hla2 : as2.length = la2 := by
      have h1 := hyx.out w5 hbwr.out
      rw [eyH.out] at h1
      exact (nd_rows h1).2.2.2.1.len
     have hwyl : 1 + nm2.length + wA as2 + wL kz2 ≤ wN y := by rw [eyH.out, wN]; omega
     have hwal := Xp.wA_len as2
     have hel := velem_any B b rv v2 o2 w5 nm2 as2 Aa2 la2 ca2 (pa : Nat) P2 hv4.out (fun x hx => by
      have h1 := hyx.out x (hbwr.out.trans hx)
      rw [eyH.out] at h1
      exact (nd_rows h1).2.2.2.1) (by have := (List.getElem?_eq_some_iff.1 hrow2.out).1; omega) (by have := hlen2.out; omega) (by have := hph2.out; have := hP2l.out; omega)
     rw [hU1H.out, hPSH.out] at hel
     have helH := Lib.hid hel
     clear hel hfe
     go_wp2_with fail
     refine helH.out.mono ?_
     rintro e w6 ⟨rfl, v6, hv6, hk6⟩
     obtain ⟨hJ6, hJ6e⟩ := hk6.apart hJ4.out
     have hk6J := hJ6e.trans hk4.out
     clear n0 n1 n2 n3 n4 helH
     obtain ⟨n0, n1, n2, n3, n4⟩ := cells_of5 hk6J
     have hb6 := hbwr.out.trans hk6.bel
     have hrow6 : (o2 ++ (⟨1, nm2, [], (pa : Nat), o2.length + 1, P2⟩ : Q) :: attrRows o2.length P2 (o2.length + 1) as2)[o2.length]? = some ⟨1, nm2, [], (pa : Nat), o2.length + 1, P2⟩ := by
      rw [List.getElem?_append_right (Nat.le_refl _), Nat.sub_self]
      rfl
     have hlen6 : (o2 ++ (⟨1, nm2, [], (pa : Nat), o2.length + 1, P2⟩ : Q) :: attrRows o2.length P2 (o2.length + 1) as2).length = o2.length + 1 + as2.length := by
      rw [List.length_append, List.length_cons, attrRows_len]
      omega
     have hc := ihH.out kz2 (by have h1 := hsz.out y hymH.out; rw [eyH.out] at h1; exact h1) B b rv v6 _ w6 Ak2 lk2 ck2 o2.length _ l Al nl cl hv6 (hEH.out.later ((hbk4.out.bel).trans hk6.bel)) (fun x hx => by
      have h1 := hyx.out x (hb6.trans hx)
      rw [eyH.out] at h1
      exact (nd_rows h1).2.2.2.2.1) hrow6 (by have := (List.getElem?_eq_some_iff.1 hrow2.out).1; omega) (fun x hx => by
      have h1 := fairL_all (fair_el (k := 1) (nm := nm2) (tx := tx2) (as_ := as2) (ks := kz2) (by rw [← eyH.out]; exact hfyH.out) rfl).2.2.2
      exact h1 x hx) (by rw [hlen6]; have := hlen2.out; omega) (by
      show P2.length + 100 * wL kz2 ≤ _
      have := hph2.out; have := hP2l.out; omega)
     rw [hlen6] at hc
     have hcH := Lib.hid hc
     have hk6H := Lib.hid hk6
     have hk6JH := Lib.hid hk6J
     have hJ6H := Lib.hid hJ6
     have htxH := Lib.hid htx
     have hwylH := Lib.hid hwyl
     clear hc hv6 hk6 hJ6 hJ6e hk6J hb6 hrow6 hlen6 hwyl htx hwal
     go_wp2_with fail
     refine hcH.out.mono ?_
     rintro e w7 ⟨⟨r7, rfl⟩, v7, hv7, hk7⟩
     have hlen7 : ((o2 ++ (⟨1, nm2, [], (pa : Nat), o2.length + 1, P2⟩ : Q) :: attrRows o2.length P2 (o2.length + 1) as2) ++ tabL l [] false (o2.length + 1 + as2.length) o2.length P2 0 kz2).length ≤ 8000000 := by
      simp only [List.length_append, List.length_cons, attrRows_len]
      have h1 := tabL_w l kz2 [] false (o2.length + 1 + as2.length) o2.length P2 0
      have h2 := Xp.wA_len as2
      have := hlen2.out
      have := hwylH.out
      omega
     have hrow7 : ((o2 ++ (⟨1, nm2, [], (pa : Nat), o2.length + 1, P2⟩ : Q) :: attrRows o2.length P2 (o2.length + 1) as2) ++ tabL l [] false (o2.length + 1 + as2.length) o2.length P2 0 kz2)[o2.length]? = some ⟨1, nm2, [], (pa : Nat), o2.length + 1, P2⟩ := by
      rw [List.append_assoc, List.getElem?_append_right (Nat.le_refl _), Nat.sub_self]
      rfl
     have hsh := vshut_any B b rv v7 _ w7 o2.length _ hv7 (by omega) hrow7
     have etab := tab_shut l [] o2 (pa : Nat) P2 nm2 as2 kz2 _ pa rfl rfl
     have hshH := Lib.hid hsh
     have hk7H := Lib.hid hk7
     have hetab : Hid (((o2 ++ (⟨1, nm2, [], (pa : Nat), o2.length + 1, P2⟩ : Q) :: attrRows o2.length P2 (o2.length + 1) as2) ++ tabL l [] false (o2.length + 1 + as2.length) o2.length P2 0 kz2).set o2.length ⟨1, nm2, [], (pa : Nat), ((o2 ++ (⟨1, nm2, [], (pa : Nat), o2.length + 1, P2⟩ : Q) :: attrRows o2.length P2 (o2.length + 1) as2) ++ tabL l [] false (o2.length + 1 + as2.length) o2.length P2 0 kz2).length, P2⟩ = out ++ tabL l [] false out.length pa q.path 0 (ks.take (k + 1))) := Lib.hid (by
      rw [hsnoc.out, eyH.out, htxH.out, List.append_assoc, List.cons_append]
      exact etab)
     clear hsh hv7 hk7 hlen7 hrow7 etab n0 n1 n2 n3 n4 hcH
     go_wp2_with fail
     refine hshH.out.mono ?_
     rintro e w8 ⟨⟨r8, rfl⟩, hv8, hk8⟩
     have hrel2 : Hid (∃ v', Vb B b rv v' (out ++ tabL l [] false out.length pa q.path 0 (ks.take (k + 1))) w8 ∧ Bk B b v v' w w8) := Lib.hid ⟨v7, by rw [← hetab.out]; exact hv8, ((hbk4.out.trans hk6H.out).trans hk7H.out).trans hk8⟩
     clear hv8 hk8
     go_wp2_with fail
     go_roundw
     case rel => exact ⟨k + 1, by omega, by go_num, hrel2⟩
     case measure => simp [intOf]; omega
    ·have hlf := fair_leaf (k := kd2) (nm := nm2) (tx := tx2) (as_ := as2) (ks := kz2) (by rw [← eyH.out]; exact hfyH.out) hkd
     have hput := vput_any B b rv v2 o2 w5 kd2 nm2 tx2 (pa : Nat) 0 P2 hv4.out (by have := hlen2.out; omega)
     rw [hU1H.out, hU2H.out, hPSH.out] at hput
     have hputH := Lib.hid hput
     have hrw : Hid (o2 ++ [(⟨kd2, nm2, tx2, (pa : Nat), o2.length + 1, P2⟩ : Q)] = out ++ tabL l [] false out.length pa q.path 0 (ks.take (k + 1))) := Lib.hid (by rw [hsnoc.out, eyH.out, hlf.1, hlf.2, tab_leaf])
     have e6 : (kd2 != 1) = true := by simpa using hkd
     clear hlf hput hkd
     go_wp2_with fail
     refine hputH.out.mono ?_
     rintro e w6 ⟨rfl, v6, hv6, hk6⟩
     have hrel2 : Hid (∃ v', Vb B b rv v' (out ++ tabL l [] false out.length pa q.path 0 (ks.take (k + 1))) w6 ∧ Bk B b v v' w w6) := Lib.hid ⟨v6, by rw [← hrw.out]; exact hv6, hbk4.out.trans hk6⟩
     clear hv6 hk6 n0 n1 n2 n3 n4
     go_wp2_with fail
     go_roundw
     case rel => exact ⟨k + 1, by omega, by go_num, hrel2⟩
     case measure => simp [intOf]; omega
   ·have i1 : decide ((k : Int) < (n : Int)) = false := by rw [decide_eq_false_iff_not]; omega
    have i2 : decide (k < n) = false := by rw [decide_eq_false_iff_not]; omega
    have e1 : k = n := by omega
    subst e1
    have hfin : Hid (∃ v', Vb B b rv v' (out ++ tabL l [] false out.length pa q.path 0 ks) wr ∧ Bk B b v v' w wr) := Lib.hid (by
     rw [List.take_of_length_le (by rw [hnlH.out]; exact Nat.le_refl _)] at hv2
     exact ⟨v2, hv2, hk2⟩)
    clear hv2 hk2 hin
    go_wp2_with fail
    go_end0
    exact ⟨⟨_, rfl⟩, hfin.out⟩
end Go.Proofs.YtdnfnkicmfkkmaaGreatDoor.Vw
end

section
namespace Go.Proofs.YtdnfnkicmfkkmaaGreatDoor.No
open Go.RowKit UtfW Xl Xt Xo
open Go.Proofs.YtdnfnkicmfkkmaaGreatDoor.Ky (Ts OwX tv Rs Rl)

theorem Pn.start {T B0 D : Nat} {nc : Array Value} {S1 : ByteArray} {Aa : Option Addr} {la ca : Nat} {al : List At} {x : World} (h1 : x.heap[T]? = some (.cells nc 26))
  (h2 : x.heap[T + 1]? = some (.cells #[.int .i64 0, .string ⟨#[]⟩, .string ⟨#[]⟩, .slice none 0 0, .slice none 0 0] 26)) (h3 : x.heap[D]? = some (.cells #[.int .i64 1, .string S1, .string ⟨#[]⟩, .slice Aa la ca, .slice none 0 0] 26))
  (h4 : OwS AtEl 2 x (T + 2) 68 (.slice Aa la ca) al) (h5 : (Value.slice Aa la ca).ownBlock ≠ some D) (h6 : B0 ≤ T) (h7 : T + 2 ≤ D) : Pn T B0 x.heap.size D nc S1 Aa la ca al x none 0 0 [] none 0 0 [] :=
 ⟨h1, h2, h3, h4, ⟨h5, fun b hb => (h4.lt b hb).2⟩, OutG.nil (Nat.zero_le _) (Nat.le_refl _), OutG.nil (by have := (Array.getElem?_eq_some_iff.1 h1).1; omega) (Nat.le_refl _), ⟨h6, h7, (Array.getElem?_eq_some_iff.1 h3).1, Nat.le_refl _⟩⟩
def NormAt (B0 : Nat) (n : Nd) : Prop := ∀ (Al : Option Addr) (nl cl : Nat) (l : List Ky.Rl) (Ap : Option Addr) (np cp : Nat) (path : List Tx) (first : Nat) (vs : List Value) (w : World), B0 ≤ w.heap.size → Rs w Al nl cl l → Ts w Ap np cp path → NdI (fun j => j < B0) w vs n → RlOk l → np + wN n ≤ 900000 → first + wN n ≤ 1000000000 →
 Calls Tryz.prog 54 #[.slice Al nl cl, .agg vs.toArray, .slice Ap np cp, .int .i64 (first : Nat)] w fun e w' => NormP B0 w.heap.size (normN l path first n) e w' ∧ Below w.heap.size w w'
set_option maxHeartbeats 40000000 in
set_option maxRecDepth 100000 in
theorem rNorm_any : ∀ (kk B0 : Nat) (n : Nd), SizeOf.sizeOf n ≤ kk → wN n ≤ 100000 → NormAt B0 n := by
  intro kk
  induction kk with
  | zero => intro B0 n hk; cases n; simp at hk
  | succ kk ih =>
    intro B0 n hkk hw Al nl cl l Ap np cp path first vs w hB0 hl hp hn hok hnp hfi
    obtain ⟨RN, hRN⟩ : ∃ RN, normN l path first n = RN := ⟨_, rfl⟩
    rw [hRN]
    obtain ⟨kd, nm, tx, as_, kz, rfl⟩ : ∃ kd nm tx as_ kz, n = Nd.mk kd nm tx as_ kz := by cases n; exact ⟨_, _, _, _, _, rfl⟩
    obtain ⟨Ai, ci, Ak, ck, rfl, hA, hK, hXA, hXK⟩ := hn.cells
    have hwy : Hid (∀ y ∈ kz, wN y + 1 ≤ wN (Nd.mk kd nm tx as_ kz) ∧ SizeOf.sizeOf y ≤ kk) := Lib.hid fun y hy => by
      have h1 := wL_mem hy
      have h2 := List.sizeOf_lt_of_mem hy
      rw [Nd.mk.sizeOf_spec] at hkk
      rw [wN]
      exact ⟨by omega, by omega⟩
    have hwA : wA as_ + wL kz + 1 ≤ wN (Nd.mk kd nm tx as_ kz) := by rw [wN]; omega
    obtain ⟨WN, hWN⟩ : ∃ WN, wN (Nd.mk kd nm tx as_ kz) = WN := ⟨_, rfl⟩
    rw [hWN] at hwy hwA hw hnp hfi
    have hlkW : kz.length ≤ wL kz := wL_len kz
    obtain ⟨li, hli⟩ : ∃ la, as_.length = la := ⟨_, rfl⟩
    obtain ⟨lk, hlk⟩ : ∃ lk, kz.length = lk := ⟨_, rfl⟩
    obtain ⟨S1, hS1⟩ : ∃ S, strOf nm = S := ⟨_, rfl⟩
    obtain ⟨S2, hS2⟩ : ∃ S, strOf tx = S := ⟨_, rfl⟩
    rw [hli, hlk, hS1, hS2]
    rw [hli] at hA
    rw [hlk] at hK
    have hlkw : lk ≤ 100000 := by omega
    obtain ⟨T, hT⟩ : ∃ T, w.heap.size = T := ⟨_, rfl⟩
    obtain ⟨w1, hw1⟩ : ∃ w1, w.alloc (.cells #[.int .i64 kd, .string S1, .string S2, .slice Ai li ci, .slice Ak lk ck] 26) = w1 := ⟨_, rfl⟩
    obtain ⟨w2, hw2⟩ : ∃ w2, w1.alloc (.cells #[.int .i64 0, .string ⟨#[]⟩, .string ⟨#[]⟩, .slice none 0 0, .slice none 0 0] 26) = w2 := ⟨_, rfl⟩
    have hs1 : w1.heap.size = T + 1 := by rw [← hw1, World.size_alloc, hT]
    have hs2 : w2.heap.size = T + 2 := by rw [← hw2, World.size_alloc, hs1]
    have hb1 : Below w.heap.size w w1 := by rw [← hw1]; exact (Below.refl _ _).alloc (Nat.le_refl _) _
    have hb2 : Below w1.heap.size w1 w2 := by rw [← hw2]; exact (Below.refl _ _).alloc (Nat.le_refl _) _
    have hk1 : w1.heap[T]? = some (.cells #[.int .i64 kd, .string S1, .string S2, .slice Ai li ci, .slice Ak lk ck] 26) := by rw [← hw1, ← hT]; exact heap_alloc_new w _
    have hk2 : w2.heap[T + 1]? = some (.cells #[.int .i64 0, .string ⟨#[]⟩, .string ⟨#[]⟩, .slice none 0 0, .slice none 0 0] 26) := by rw [← hw2, ← hs1]; exact heap_alloc_new w1 _
    have hk1' := (hb2.block T (by omega)).trans hk1
    have hbw : Below w.heap.size w w2 := hb1.trans (hb2.mono hb1.size)
    have hall : Hid (∀ x, Below w2.heap.size w2 x → (x.cell? ⟨T, 0, none⟩ = some (.int .i64 kd) ∧ x.cell? ⟨T, 1, none⟩ = some (.string S1) ∧ x.cell? ⟨T, 3, none⟩ = some (.slice Ai li ci) ∧ x.cell? ⟨T, 4, none⟩ = some (.slice Ak lk ck)) ∧ x.heap[T]? = some (.cells #[.int .i64 kd, .string S1, .string S2, .slice Ai li ci, .slice Ak lk ck] 26) ∧ x.heap[T + 1]? = some (.cells #[.int .i64 0, .string ⟨#[]⟩, .string ⟨#[]⟩, .slice none 0 0, .slice none 0 0] 26) ∧ Rs x Al nl cl l ∧ Ts x Ap np cp path ∧ Sq (NdE (fun j => j < B0)) 5 x Ak lk ck kz ∧ Sq AtEl 2 x Ai li ci as_) := Lib.hid fun x hx => by
      have g1 := (hx.block T (by omega)).trans hk1'
      have hwx := hbw.trans (hx.mono hbw.size)
      exact ⟨⟨Xp.cell_blk g1 (i := 0) rfl, Xp.cell_blk g1 (i := 1) rfl, Xp.cell_blk g1 (i := 3) rfl, Xp.cell_blk g1 (i := 4) rfl⟩, g1, (hx.block (T + 1) (by omega)).trans hk2, hl.below hwx, hp.below hwx, Xp.sq_keep hK hwx fun vs y h => NdI.later h (fun j hj => Nat.lt_of_lt_of_le hj hB0) hwx, hA.below AtEl.to hwx⟩
    have hat : Hid (∀ x, Below w2.heap.size w2 x → Calls Tryz.prog 91 #[.slice Ai li ci] x fun e w' => ∃ A' c', e = .returned (.slice A' li c') ∧ OwS AtEl 2 w' x.heap.size 68 (.slice A' li c') (attrsN as_) ∧ Below x.heap.size x w') := Lib.hid fun x hx =>
      rAttrs_any Ai li ci as_ x (hall.out x hx).2.2.2.2.2.2 (by rw [← hli]; exact Nat.le_trans (Xp.wA_len as_) (by omega)) (fun a ha => by have := Xp.wA_mem ha; omega)
    have hfront : Hid (∀ x, Below w2.heap.size w2 x → Calls Tryz.prog 62 #[.slice Al nl cl, .slice Ap np cp] x fun e w' => e = .returned (.bool (Ky.frontB l path)) ∧ ∃ q, w' = x.drewN q) := Lib.hid fun x hx => Ky.refFront_any Al nl cl l Ap np cp path x (hall.out x hx).2.2.2.1 (hall.out x hx).2.2.2.2.1
    have hRN' := Lib.hid hRN
    have hS1' := Lib.hid hS1
    have hli' := Lib.hid hli
    have hlk' := Lib.hid hlk
    have hB0' : Hid (B0 ≤ T) := Lib.hid (by omega)
    have hbw' := Lib.hid hbw
    have hok' := Lib.hid hok
    have hw' := Lib.hid hw
    have hnp' := Lib.hid hnp
    have hfi' := Lib.hid hfi
    have hwA' := Lib.hid hwA
    have ih' := Lib.hid ih
    have hTw := Lib.hid hT
    have hs2' := Lib.hid hs2
    have hll := Lib.hid hl.len
    have hpl := Lib.hid hp.len
    have hnl : nl ≤ 900000 := by rw [← hll.out]; exact hok.1
    have hlle := hl.le
    have hlm := hl.max
    have hkle := hK.le
    have hkm := hK.max
    have hWNH := Lib.hid hWN
    have hat1 := Lib.hid (hat.out w2.drew (Joins.below_draws w2.heap.size w2 1))
    have hat2 := Lib.hid (hat.out (w2.drew.alloc (.cells #[.int .i64 0, .string ⟨#[]⟩, .string ⟨#[]⟩, .slice none 0 0, .slice none 0 0] 26)) ((show Below w2.heap.size w2 w2.drew from Joins.below_draws w2.heap.size w2 1).trans (below_alloc w2.drew _)))
    have u1 : w2.cell? ⟨T, 1, none⟩ = some (.string S1) := (hall.out w2 (Below.refl _ _)).1.2.1
    have u3 : w2.cell? ⟨T, 3, none⟩ = some (.slice Ai li ci) := (hall.out w2 (Below.refl _ _)).1.2.2.1
    clear hkk hw hB0 hl hp hn hok hnp hfi hRN hA hK hXA hXK hwA hlkW hli hlk hS1 hS2 hbw hk1 hk2 hk1' hb1 hb2 ih hat hWN hs2
    go_enter Tryz.func54, Tryz.ntmps54
    go_upto_region 2 with fail
    go_cut [11] (fun v wy => ∃ D : Nat, v = .pointer (some ⟨D, 0, none⟩) ∧ Hid (∃ C Aa ca, Pn T B0 C D #[.int .i64 kd, .string S1, .string S2, .slice Ai li ci, .slice Ak lk ck] S1 Aa li ca (attrsN as_) wy none 0 0 [] none 0 0 []) ∧ Hid (Below w2.heap.size w2 wy))
    case first =>
      go_wp2_with fail
      clear hw1 hw2 hT hs1
      refine Pl.wp_region_plan 7 (.take 0 (.take 1 (.take 2 (.take 3 (.two 4 (.take 5 (.run 6 .done)) 6 (.run 4 (.take 5 .done))))))) (fun x => x.cell? ⟨T, 1, none⟩ = some (.string S1) ∧ x.cell? ⟨T, 3, none⟩ = some (.slice Ai li ci)) (by kernel_rfl) (by kernel_rfl) (by exact ⟨u1, u3⟩) ?_
      simp only [Pl.fill, List.getElem?_cons_zero, List.getElem?_cons_succ, List.drop_succ_cons, List.drop_zero]
      iterate 4
        first
        | (refine Pl.take_go ?_ (by rfl) (fun _ _ _ h => h) ?_ ?_
           rotate_left
           · (intro x hSw; (try (dsimp only at hSw)); go_simp; try with_reducible rfl)
           (try simp only [Act.put, List.setIfInBounds_toArray, List.set_cons_zero, List.set_cons_succ]))
        | (refine Pl.take_skip (by rfl) (fun _ _ _ h => h) ?_
           (try simp only [Act.put, List.setIfInBounds_toArray, List.set_cons_zero, List.set_cons_succ]))
      refine Pl.two_go ?_ ?_
      · refine Pl.run_go (fun K hK => ?_)
        go_simp
        refine hat1.out.mono ?_
        rintro e w3 ⟨Aa, ca, rfl, hoA, hbA⟩
        have hb3 : Below w2.heap.size w2 w3 := (show Below w2.heap.size w2 w2.drew from Joins.below_draws w2.heap.size w2 1).trans hbA
        obtain ⟨⟨v0, v1, v3, v4⟩, tb, rb, _⟩ := hall.out w3 hb3
        have hbl := below_alloc w3 (.cells #[.int .i64 0, .string ⟨#[]⟩, .string ⟨#[]⟩, .slice none 0 0, .slice none 0 0] 26)
        have x1 := (hbl.cell (p := ⟨T, 1, none⟩) (Array.getElem?_eq_some_iff.1 tb).1).trans v1
        have x3 := (hbl.cell (p := ⟨T, 3, none⟩) (Array.getElem?_eq_some_iff.1 tb).1).trans v3
        have hPn : Hid (Pn T B0 (w3.alloc (.cells #[.int .i64 1, .string S1, .string ⟨#[]⟩, .slice Aa li ca, .slice none 0 0] 26)).heap.size w3.heap.size #[.int .i64 kd, .string S1, .string S2, .slice Ai li ci, .slice Ak lk ck] S1 Aa li ca (attrsN as_) (w3.alloc (.cells #[.int .i64 1, .string S1, .string ⟨#[]⟩, .slice Aa li ca, .slice none 0 0] 26)) none 0 0 [] none 0 0 []) := Lib.hid (by
          have hbl2 := below_alloc w3 (.cells #[.int .i64 1, .string S1, .string ⟨#[]⟩, .slice Aa li ca, .slice none 0 0] 26)
          refine Pn.start ((hbl2.block T (Array.getElem?_eq_some_iff.1 tb).1).trans tb) ((hbl2.block (T + 1) (Array.getElem?_eq_some_iff.1 rb).1).trans rb) (heap_alloc_new w3 _) ?_ (fun e => by have := (hoA.lt _ e).2; omega) hB0'.out (by rw [← hs2'.out]; exact hb3.size)
          have := hoA.below hbl2 AtEl.to
          rw [show w2.drew.heap.size = T + 2 from hs2'.out] at this
          exact this)
        have hB3 := Lib.hid (hb3.trans ((below_alloc w3 (.cells #[.int .i64 1, .string S1, .string ⟨#[]⟩, .slice Aa li ca, .slice none 0 0] 26)).mono hb3.size))
        clear hbl hoA hbA hb3 tb rb v0 v4
        dsimp only
        refine hK.out _ _ (Pl.more_go _ (fun _ h => h) (by exact ⟨v1, v3⟩) ?_)
        clear hK K
        try simp only [Act.put, List.setIfInBounds_toArray, List.set_cons_zero, List.set_cons_succ]
        iterate 1
          first
          | (refine Pl.take_go ?_ (by rfl) (fun _ _ _ h => h) ?_ ?_
             rotate_left
             · (intro x hSw; (try (dsimp only at hSw)); go_simp; try with_reducible rfl)
             (try simp only [Act.put, List.setIfInBounds_toArray, List.set_cons_zero, List.set_cons_succ]))
          | (refine Pl.take_skip (by rfl) (fun _ _ _ h => h) ?_
             (try simp only [Act.put, List.setIfInBounds_toArray, List.set_cons_zero, List.set_cons_succ]))
        refine Pl.run_go (fun K hK => ?_)
        go_simp
        refine hK.out _ _ (Pl.more_go _ (fun _ h => h) (by exact ⟨x1, x3⟩) ?_)
        clear hK K
        try simp only [Act.put, List.setIfInBounds_toArray, List.set_cons_zero, List.set_cons_succ]
        refine Pl.done_go ?_
        go_wp2_with fail
        go_meet
        exact ⟨_, rfl, Lib.hid ⟨_, _, _, hPn.out⟩, hB3⟩
      · refine Pl.run_go (fun K hK => ?_)
        go_simp
        have hbl := (show Below w2.heap.size w2 w2.drew from Joins.below_draws w2.heap.size w2 1).trans (below_alloc w2.drew (.cells #[.int .i64 0, .string ⟨#[]⟩, .string ⟨#[]⟩, .slice none 0 0, .slice none 0 0] 26))
        obtain ⟨⟨v0, v1, v3, v4⟩, tb, rb, _⟩ := hall.out _ hbl
        refine hK.out _ _ (Pl.more_go _ (fun _ h => h) (by exact ⟨v1, v3⟩) ?_)
        clear hK K
        try simp only [Act.put, List.setIfInBounds_toArray, List.set_cons_zero, List.set_cons_succ]
        refine Pl.run_go (fun K hK => ?_)
        go_simp
        refine hat2.out.mono ?_
        rintro e w3 ⟨Aa, ca, rfl, hoA, hbA⟩
        have hb3 : Below w2.heap.size w2 w3 := hbl.trans (hbA.mono hbl.size)
        have hD : w3.heap[w2.heap.size]? = some (.cells #[.int .i64 0, .string ⟨#[]⟩, .string ⟨#[]⟩, .slice none 0 0, .slice none 0 0] 26) := (hbA.block _ (by rw [World.size_alloc]; exact Nat.lt_succ_self _)).trans (heap_alloc_new w2.drew _)
        obtain ⟨⟨x0, x1, x3, x4⟩, tb, rb, _⟩ := hall.out w3 hb3
        refine hK.out _ _ (Pl.more_go _ (fun _ h => h) (by exact ⟨x1, x3⟩) ?_)
        clear hK K
        try simp only [Act.put, List.setIfInBounds_toArray, List.set_cons_zero, List.set_cons_succ]
        iterate 1
          first
          | (refine Pl.take_go ?_ (by rfl) (fun _ _ _ h => h) ?_ ?_
             rotate_left
             · (intro x hSw; (try (dsimp only at hSw)); go_simp; try with_reducible rfl)
             (try simp only [Act.put, List.setIfInBounds_toArray, List.set_cons_zero, List.set_cons_succ]))
          | (refine Pl.take_skip (by rfl) (fun _ _ _ h => h) ?_
             (try simp only [Act.put, List.setIfInBounds_toArray, List.set_cons_zero, List.set_cons_succ]))
        refine Pl.done_go ?_
        have z0 := Xp.cell_blk hD (i := 0) rfl
        have z1 := Xp.cell_blk hD (i := 1) rfl
        have z2 := Xp.cell_blk hD (i := 2) rfl
        have z3 := Xp.cell_blk hD (i := 3) rfl
        have z4 := Xp.cell_blk hD (i := 4) rfl
        have zf := fun i => frozen_of_row w3 w2.heap.size i _ _ hD
        have hne : ∀ j, (Value.slice Aa li ca).ownBlock = some j → w2.heap.size < j := fun j hj => by have := (hoA.lt j hj).1; rw [World.size_alloc] at this; exact this
        obtain ⟨g1, g2, g3⟩ := set5 hD (.int .i64 1) (.string S1) (.string ⟨#[]⟩) (.slice Aa li ca) (.slice none 0 0)
        have hPn : Hid (Pn T B0 (World.setCell (World.setCell (World.setCell (World.setCell (World.setCell w3 ⟨w2.heap.size, 0, none⟩ (.int .i64 1)) ⟨w2.heap.size, 1, none⟩ (.string S1)) ⟨w2.heap.size, 2, none⟩ (.string ⟨#[]⟩)) ⟨w2.heap.size, 3, none⟩ (.slice Aa li ca)) ⟨w2.heap.size, 4, none⟩ (.slice none 0 0)).heap.size w2.heap.size #[.int .i64 kd, .string S1, .string S2, .slice Ai li ci, .slice Ak lk ck] S1 Aa li ca (attrsN as_) (World.setCell (World.setCell (World.setCell (World.setCell (World.setCell w3 ⟨w2.heap.size, 0, none⟩ (.int .i64 1)) ⟨w2.heap.size, 1, none⟩ (.string S1)) ⟨w2.heap.size, 2, none⟩ (.string ⟨#[]⟩)) ⟨w2.heap.size, 3, none⟩ (.slice Aa li ca)) ⟨w2.heap.size, 4, none⟩ (.slice none 0 0)) none 0 0 [] none 0 0 []) := Lib.hid (by
          have hs := hs2'.out
          refine Pn.start ((g2 T (by omega)).trans tb) ((g2 (T + 1) (by omega)).trans rb) g1 ?_ (fun e => by have := hne _ e; omega) hB0'.out (by omega)
          refine (Xt.OwS.stay hoA (fun k hk => g2 k (by have := hne k hk; omega)) AtEl.to).down ?_
          rw [World.size_alloc]
          show T + 2 ≤ w2.heap.size + 1
          omega)
        have hB3 := Lib.hid (Below.set5 hb3 (Nat.le_refl w2.heap.size) (.int .i64 1) (.string S1) (.string ⟨#[]⟩) (.slice Aa li ca) (.slice none 0 0))
        clear hbl hoA hbA hb3 tb rb v0 v1 v3 v4 x0 x1 x3 x4 g1 g2 g3 hD hne
        go_wp2_with fail
        go_meet
        exact ⟨_, rfl, Lib.hid ⟨_, _, _, hPn.out⟩, hB3⟩

    case rest =>
      obtain ⟨D, rfl, hPn0, hbc⟩ := hcut
      clear hat1 hat2 hw1 hw2 hT u1 u3 hs1
      obtain ⟨C, Aa, ca, hPc⟩ := hPn0.out
      cases hfr : Ky.frontB l path with
      | true =>
        have hRk : Hid (RN = .ok (.mk 1 nm [] (attrsN as_) (contentL kz))) := Lib.hid (by rw [← hRN'.out]; exact normN_front hfr)
        have hPcH := Lib.hid hPc
        clear hPc hPn0
        go_wp2_with fail
        refine (hfront.out wc hbc.out).mono ?_
        rintro e w4 ⟨rfl, q, hq⟩
        rw [hfr]
        have hb4 : Below wc.heap.size wc w4 := by rw [hq]; exact Joins.below_draws _ _ _
        have hP4 := hPcH.out.below hb4
        have hbw4 := hbc.out.trans (hb4.mono hbc.out.size)
        obtain ⟨⟨v0, v1, v3, v4⟩, tb, rb, hl4, hp4, hK4, hA4⟩ := hall.out w4 hbw4
        have hct := Lib.hid (rCont_any (SizeOf.sizeOf kz) B0 kz (Nat.le_refl _) (by have := hwA'.out; have := hw'.out; omega) Ak lk ck w4 (by have := hB0'.out; have := hbw4.size; have := hs2'.out; omega) hK4)
        have hP4H := Lib.hid hP4
        have hbw4H := Lib.hid hbw4
        clear hq hb4 hP4 hbw4 v0 v1 v3 tb rb hl4 hp4 hK4 hA4 hfr hPcH
        go_wp2_with fail
        refine hct.out.mono ?_
        rintro e w5 ⟨A2, c2, rfl, hO5, hb5⟩
        have hP5 := hP4H.out.below hb5
        have hO5' : OutG NdE 5 26 B0 C w5 (.slice A2 lk c2) (contentL kz) := (outg_of_outr hO5).down elt_nd (by have := hP5.ord; omega) hP4H.out.ord.2.2.2
        have hP6 := hP4H.out.put hb5 (Av' := none) (mv' := 0) (cv' := 0) (ss' := []) (OutG.nil (Nat.zero_le _) hP5.ord.2.2.2) hO5'
        obtain ⟨d0, d1, d2, d3, d4⟩ := hP5.cells
        have zf := fun i => frozen_of_row w5 D i _ _ hP5.db
        have hbw5 := hbw4H.out.trans (hb5.mono hbw4H.out.size)
        have hbw6 : Below w2.heap.size w2 (w5.setCell ⟨D, 4, none⟩ (.slice A2 lk c2)) := hbw5.setCell (p := ⟨D, 4, none⟩) (by have := hP5.ord; have := hs2'.out; show w2.heap.size ≤ D; omega) _
        obtain ⟨w6, hw6⟩ : ∃ w6, w5.setCell ⟨D, 4, none⟩ (.slice A2 lk c2) = w6 := ⟨_, rfl⟩
        rw [hw6] at hP6 hbw6
        obtain ⟨e0, e1, e2, e3, e4⟩ := hP6.cells
        have y0 := Xp.cell_blk hP6.rb (i := 0) rfl
        have y1 := Xp.cell_blk hP6.rb (i := 1) rfl
        have y2 := Xp.cell_blk hP6.rb (i := 2) rfl
        have y3 := Xp.cell_blk hP6.rb (i := 3) rfl
        have y4 := Xp.cell_blk hP6.rb (i := 4) rfl
        have zg := fun i => frozen_of_row w6 (T + 1) i _ _ hP6.rb
        obtain ⟨g1, g2, g3⟩ := set5 hP6.rb (.int .i64 1) (.string S1) (.string ⟨#[]⟩) (.slice Aa li ca) (.slice A2 lk c2)
        have hfin := Lib.hid (hP6.fin hS1'.out (by rw [attrsN_len]; exact hli'.out) g2 g3)
        have hg1 := Lib.hid g1
        have hbF := Lib.hid (Below.set5 (b := T + 1) (hbw'.out.trans (hbw6.mono hbw'.out.size)) (by have := hTw.out; omega) (.int .i64 1) (.string S1) (.string ⟨#[]⟩) (.slice Aa li ca) (.slice A2 lk c2))
        clear g1 g2 g3 hP6 hP5 hP4H hO5 hO5' hb5 hbw5 hbw6 hct hbc v4 d0 d1 d2 d3
        go_wp2_with fail
        exact bodyPost_ret (res_nd3 (x := .int .i64 0) (y := .int .i64 0) rfl hg1.out rfl rfl rfl) rfl ⟨by rw [hRk.out]; exact ⟨_, rfl, by rw [hTw.out]; exact hfin.out⟩, hbF.out⟩
      | false =>
        have hPcH := Lib.hid hPc
        obtain ⟨RL, hRL0⟩ : ∃ RL, normL l path first (first + 1) [] kz = RL := ⟨_, rfl⟩
        have hErr : Hid (∀ c, RL = .error c → RN = .error c) := Lib.hid fun c hc => by rw [← hRN'.out]; exact normN_err hfr (hRL0.trans hc)
        have hOkk : Hid (∀ out, RL = .ok out → RN = .ok (.mk 1 nm [] (attrsN as_) (out.map (·.2)))) := Lib.hid fun out hc => by rw [← hRN'.out]; exact normN_okk hfr (hRL0.trans hc)
        have hRL0' := Lib.hid hRL0
        have hfi1 : first ≤ 1000000000 := by have := hfi'.out; omega
        have hfrH := Lib.hid hfr
        clear hPc hPn0 hRL0 hfr
        go_wp2_with fail
        refine (hfront.out wc hbc.out).mono ?_
        rintro e w4 ⟨rfl, q, hq⟩
        rw [hfrH.out]
        have hb4 : Below wc.heap.size wc w4 := by rw [hq]; exact Joins.below_draws _ _ _
        have hP4 := Lib.hid (hPcH.out.below hb4)
        have hbw4 := Lib.hid (hbc.out.trans (hb4.mono hbc.out.size))
        have hat0 : Hid (first + 1 + wL (kz.drop 0) ≤ 1000000000) := Lib.hid (by rw [List.drop_zero]; have := hwA'.out; have := hfi'.out; omega)
        clear hq hb4
        go_wp2_with fail
        go_loopw [12, 13, 14] (fun vs va vi wr => ∃ (k m at_ : Nat) (Av : Option Addr) (cv : Nat), k ≤ lk ∧ m ≤ k ∧ at_ ≤ 1000000000 ∧ vi = .int .i64 k ∧ va = .int .i64 at_ ∧ vs = .slice Av m cv ∧ Hid (∃ (out : List (Stp × Nd)) (Ao : Option Addr) (co : Nat), out.length = m ∧ RL = normL l path first at_ out (kz.drop k) ∧ (∀ o ∈ out, o.1.1.length ≤ 1000000 ∧ ∀ x ∈ o.1.2, x.length ≤ 1000000) ∧ Pn T B0 C D #[.int .i64 kd, .string S1, .string S2, .slice Ai li ci, .slice Ak lk ck] S1 Aa li ca (attrsN as_) wr Av m cv (out.map (·.1)) Ao m co (out.map (·.2))) ∧ Hid (Below w2.heap.size w2 wr) ∧ Hid (at_ + wL (kz.drop k) ≤ 1000000000)) (fun _ _ i _ => lk - (intOf i).toNat)
        case atStart => exact ⟨0, 0, first + 1, none, 0, by omega, by omega, by have := hat0.out; omega, rfl, by go_num, rfl, Lib.hid ⟨[], none, 0, rfl, by rw [List.drop_zero]; exact hRL0'.out.symm, fun o ho => by simp at ho, hP4.out⟩, hbw4, hat0⟩
        case round =>
          obtain ⟨k, m, at_, Av, cv, hk, hmk, hatb, rfl, rfl, rfl, hin, hb, hatw⟩ := hrel
          obtain ⟨wx, hwx⟩ : ∃ z, z = wr := ⟨_, rfl⟩
          subst hwx
          clear hP4 hbw4 hat0 hPcH hbc
          obtain ⟨⟨t0, t1, t3, t4⟩, tb, rb, hlx, hpx, hKx, _⟩ := hall.out wx hb.out
          by_cases hlt : k < lk
          · have i1 : decide ((k : Int) < (lk : Int)) = true := by rw [decide_eq_true_eq]; omega
            have i2 : decide (k < lk) = true := by rw [decide_eq_true_eq]; omega
            have i3 : (k : Int) < (lk : Int) := by omega
            obtain ⟨b, off, y, ys, eA, hbl, hy, hys, hel, hcs⟩ := hKx.at_ hlt
            subst eA
            obtain ⟨kd2, nm2, tx2, as2, kz2, rfl⟩ : ∃ kd nm tx as_ kz, y = Nd.mk kd nm tx as_ kz := by cases y; exact ⟨_, _, _, _, _, rfl⟩
            have hel0 := Lib.hid hel
            obtain ⟨Aa2, ca2, Ak2, ck2, rfl, _⟩ := hel.cells
            obtain ⟨la2, hla2⟩ : ∃ la, as2.length = la := ⟨_, rfl⟩
            obtain ⟨lk2, hlk2⟩ : ∃ lk, kz2.length = lk := ⟨_, rfl⟩
            obtain ⟨U1, hU1⟩ : ∃ S, strOf nm2 = S := ⟨_, rfl⟩
            obtain ⟨U2, hU2⟩ : ∃ S, strOf tx2 = S := ⟨_, rfl⟩
            rw [hla2, hlk2, hU1, hU2] at hel0
            have m0 : wx.cell? ⟨b, off + k * 5, none⟩ = some (.int .i64 kd2) := hcs 0 _ rfl
            have m1 : wx.cell? ⟨b, off + k * 5 + 1, none⟩ = some (.string U1) := by rw [← hU1]; exact hcs 1 _ rfl
            have m2 : wx.cell? ⟨b, off + k * 5 + 2, none⟩ = some (.string U2) := by rw [← hU2]; exact hcs 2 _ rfl
            have m3 : wx.cell? ⟨b, off + k * 5 + 3, none⟩ = some (.slice Aa2 la2 ca2) := by rw [← hla2]; exact hcs 3 _ rfl
            have m4 : wx.cell? ⟨b, off + k * 5 + 4, none⟩ = some (.slice Ak2 lk2 ck2) := by rw [← hlk2]; exact hcs 4 _ rfl
            have hy' := Lib.hid hy
            have hyw := Lib.hid (hwy.out _ (List.mem_of_getElem? hy))
            have hU1H := Lib.hid hU1
            have hU2H := Lib.hid hU2
            obtain ⟨N, hN⟩ : ∃ N, wx.heap.size = N := ⟨_, rfl⟩
            obtain ⟨wk, hwk⟩ : ∃ wk, wx.alloc (.cells #[.int .i64 kd2, .string U1, .string U2, .slice Aa2 la2 ca2, .slice Ak2 lk2 ck2] 26) = wk := ⟨_, rfl⟩
            have hbk : Below wx.heap.size wx wk := by rw [← hwk]; exact (Below.refl _ _).alloc (Nat.le_refl _) _
            have hsk : wk.heap.size = N + 1 := by rw [← hwk, World.size_alloc, hN]
            have hnk : wk.heap[N]? = some (.cells #[.int .i64 kd2, .string U1, .string U2, .slice Aa2 la2 ca2, .slice Ak2 lk2 ck2] 26) := by rw [← hwk, ← hN]; exact heap_alloc_new wx _
            have hB0x : B0 ≤ wx.heap.size := by have := hB0'.out; have := hb.out.size; have := hs2'.out; omega
            have hkid : Hid (∀ x, Below wk.heap.size wk x → x.heap[N]? = some (.cells #[.int .i64 kd2, .string U1, .string U2, .slice Aa2 la2 ca2, .slice Ak2 lk2 ck2] 26) ∧ NdI (fun j => j < B0) x [.int .i64 kd2, .string U1, .string U2, .slice Aa2 la2 ca2, .slice Ak2 lk2 ck2] (.mk kd2 nm2 tx2 as2 kz2)) := Lib.hid fun x hx => by
              have hwx := hbk.trans (hx.mono hbk.size)
              exact ⟨(hx.block N (by omega)).trans hnk, hel0.out.later (fun j hj => Nat.lt_of_lt_of_le hj hB0x) hwx⟩
            obtain ⟨out, Ao, co, hml, hRL0, hsh, hPn⟩ := hin.out
            have hRL := Lib.hid hRL0
            have hml' := Lib.hid hml
            have hsh' := Lib.hid hsh
            have hPk := Lib.hid (hPn.below hbk)
            have hbwk := Lib.hid (hb.out.trans (hbk.mono hb.out.size))
            have hskH := Lib.hid hsk
            have hNC : Hid (C ≤ N) := Lib.hid (by rw [← hN]; exact hPn.ord.2.2.2)
            have hNt : Hid (T + 2 ≤ N) := Lib.hid (by have := hb.out.size; have := hs2'.out; omega)
            have n0 := Xp.cell_blk hnk (i := 0) rfl
            have n1 := Xp.cell_blk hnk (i := 1) rfl
            have n2 := Xp.cell_blk hnk (i := 2) rfl
            have n3 := Xp.cell_blk hnk (i := 3) rfl
            have n4 := Xp.cell_blk hnk (i := 4) rfl
            clear hin hml hRL0 hsh hPn hcs hys hel hy hU1 hU2 hla2 hlk2 hKx hpx hlx tb rb t0 t1 t3 hbl hnk hbk hB0x hsk hel0
            by_cases h2 : kd2 = 2
            · subst h2
              have htr := rtrim_any tx2 (by rw [strOf_size']; have := hyw.out.1; have := hw'.out; rw [wN] at *; omega)
              rw [hU2H.out] at htr
              by_cases htx : Ky.trim tx2 = []
              · have hnx : Hid (RL = normL l path first at_ out (kz.drop (k + 1))) := Lib.hid (by rw [hRL.out]; exact normL_skip hy'.out (fun _ => htx) (by show (2 : Int) ≠ 1; decide))
                have hat2 : Hid (at_ + wL (kz.drop (k + 1)) ≤ 1000000000) := Lib.hid (by have := hatw.out; rw [drop_at hy'.out, wL] at this; omega)
                rw [htx] at htr
                replace htr := Lib.hid htr
                have e3 : (strOf []).toList.isEmpty = true := by rw [strOf_empty]; rfl
                go_wp2_with fail
                clear hwk hN
                refine (htr.out _).mono ?_
                rintro e w5 ⟨rfl, rfl⟩
                go_wp2_with fail
                go_roundw
                case rel => exact ⟨k + 1, m, at_, Av, cv, by omega, by omega, hatb, by go_num, rfl, rfl, Lib.hid ⟨out, Ao, co, hml'.out, hnx.out, hsh'.out, hPk.out⟩, hbwk, hat2⟩
                case measure => simp [intOf]; omega
              · have e3 : (strOf (Ky.trim tx2)).toList.isEmpty = false := by
                  rw [strOf_empty]
                  cases htt : Ky.trim tx2 with
                  | nil => exact absurd htt htx
                  | cons c t => rfl
                replace htr := Lib.hid htr
                obtain ⟨S4, hS4⟩ : ∃ S, strOf (Ky.trim tx2) = S := ⟨_, rfl⟩
                rw [hS4] at e3 htr
                have hblank := Lib.hid (normL_blank (l := l) (path := path) (first := first) (at_ := at_) (out := out) hy'.out rfl htx)
                clear hS4 htx
                go_wp2_with fail
                clear hwk hN
                refine (htr.out _).mono ?_
                rintro e w5 ⟨rfl, rfl⟩
                have hPW := hPk.out
                have hbW := hbwk.out
                have hRk : Hid (RN = .error (24, first)) := Lib.hid (hErr.out _ (by rw [hRL.out]; exact hblank.out))
                have hbF := Lib.hid (hbw'.out.trans (hbW.mono hbw'.out.size))
                have hrb := hPW.rb
                clear hbW hPW
                obtain ⟨q0, q1, q2, q3, q4⟩ := nd_same hrb
                have zf := fun i => frozen_of_row w5 (T + 1) i _ _ hrb
                have y0 := Xp.cell_blk hrb (i := 0) rfl
                have y1 := Xp.cell_blk hrb (i := 1) rfl
                have y2 := Xp.cell_blk hrb (i := 2) rfl
                have y3 := Xp.cell_blk hrb (i := 3) rfl
                have y4 := Xp.cell_blk hrb (i := 4) rfl
                have hrbH := Lib.hid hrb
                clear hrb
                go_wp2_with fail
                exact bodyPost_ret (res_nd3 (x := .int .i64 24) (y := .int .i64 (first : Nat)) rfl hrbH.out rfl rfl rfl) rfl ⟨by rw [hRk.out]; exact ⟨by decide, rfl⟩, hbF.out⟩
            · by_cases h1 : kd2 = 1
              · subst h1
                clear h2
                have e4 := n1
                have hPkH := hPk
                have hlx := Lib.hid (hall.out wk hbwk.out).2.2.2.1
                have hpx := Lib.hid (hall.out wk hbwk.out).2.2.2.2.1
                have hple := hpx.out.le
                have hpm := hpx.out.max
                have hNk : Hid (N < wk.heap.size) := Lib.hid (by have := hskH.out; omega)
                have hcellsN : Hid (wk.cell? ⟨N, 0, none⟩ = some (.int .i64 1) ∧ wk.cell? ⟨N, 1, none⟩ = some (.string U1) ∧ wk.cell? ⟨N, 2, none⟩ = some (.string U2) ∧ wk.cell? ⟨N, 3, none⟩ = some (.slice Aa2 la2 ca2) ∧ wk.cell? ⟨N, 4, none⟩ = some (.slice Ak2 lk2 ck2)) := Lib.hid ⟨n0, n1, n2, n3, n4⟩
                have hn1p : 1 ≤ wN (Nd.mk 1 nm2 tx2 as2 kz2) := by simp only [wN]; omega
                have hnpn : np + 1 ≤ 900000 := by have := hnp'.out; have := hyw.out.1; omega
                clear hn1p
                go_wp2_with fail
                clear hwk hN
                refine Pl.wp_region_plan 7 (.take 1 (.take 3 (.take 4 (.two 0 (.two 2 (.run 5 (.run 6 .done)) 5 (.run 2 (.run 6 .done))) 5 (.run 0 (.run 2 (.run 6 .done))))))) (fun x => x.cell? ⟨N, 1, none⟩ = some (.string U1)) (by kernel_rfl) (by kernel_rfl) (by exact n1) ?_
                simp only [Pl.fill, List.getElem?_cons_zero, List.getElem?_cons_succ, List.drop_succ_cons, List.drop_zero]
                iterate 3
                  first
                  | (refine Pl.take_go ?_ (by rfl) (fun _ _ _ h => h) ?_ ?_
                     rotate_left
                     · (intro x hSw; (try (dsimp only at hSw)); go_simp; try with_reducible rfl)
                     (try simp only [Act.put, List.setIfInBounds_toArray, List.set_cons_zero, List.set_cons_succ]))
                  | (refine Pl.take_skip (by rfl) (fun _ _ _ h => h) ?_
                     (try simp only [Act.put, List.setIfInBounds_toArray, List.set_cons_zero, List.set_cons_succ]))
                refine Pl.duo_go (El := TvEl) (k := 1) (z := .string ⟨#[]⟩) (by_ := 16) (T := wk.heap.size) (vs := [tv nm2]) (x0 := nm2) (la := path) (N1 := np + 1) (u := .string U1)
                  Tryz.underlying33 info_str rfl (by omega) (by omega) (fun _ _ _ _ _ h => h) (fun _ _ _ h u hu => by rw [show _ = [tv _] from h] at hu; rw [List.mem_singleton.1 hu]; rfl) ⟨rfl, rfl, rfl, rfl⟩ ⟨rfl, rfl, rfl, rfl⟩ rfl rfl rfl rfl ⟨slot_lt (n := 167) (by decide) rfl, slot_lt (n := 167) (by decide) rfl, slot_lt (n := 167) (by decide) rfl, slot_lt (n := 167) (by decide) rfl⟩ (by decide)
                  rfl (fun x hx => sq_of_ts (hpx.out.below (bdrew hx))) rfl (by rw [← hU1H.out]; rfl) rfl (fun x _ => rfl) rfl (by omega) (by omega) (Nat.le_refl _) (fun x hx => ((bdrew hx).cell (p := ⟨N, 1, none⟩) hNk.out).trans e4) ?_
                intro u0 u4 u9 A9 c9 x9 ho hx
                have hts : Hid (Ts x9 A9 (np + 1) c9 (path ++ [nm2])) := Lib.hid (owx_of_ows ho).rd
                have hbx := Lib.hid (bdrew hx)
                have hlx9 := Lib.hid (hlx.out.below hbx.out)
                clear ho hx n0 n1 n2 n3 n4 e4
                try simp only [Act.put, List.setIfInBounds_toArray, List.set_cons_zero, List.set_cons_succ]
                go_wp2_with fail
                refine (Ky.refFind_any Al nl cl l A9 (np + 1) c9 (path ++ [nm2]) x9 hlx9.out hts.out).mono ?_
                rintro e w4 ⟨rfl, q, hq⟩
                subst hq
                have hb4 : Hid (Below wk.heap.size wk (x9.drewN q)) := Lib.hid (hbx.out.trans ((Joins.below_draws _ _ _).mono hbx.out.size))
                have hts4 : Hid (Ts (x9.drewN q) A9 (np + 1) c9 (path ++ [nm2])) := Lib.hid (hts.out.below (Joins.below_draws _ _ _))
                obtain ⟨w4, hw4⟩ : ∃ w4, x9.drewN q = w4 := ⟨_, rfl⟩
                rw [hw4] at hb4 hts4 ⊢
                clear hw4 hbx hlx9 hts
                obtain ⟨z, hz⟩ : ∃ z, Ky.idxR l (path ++ [nm2]) = z := ⟨_, rfl⟩
                rw [hz]
                have hbw4 := Lib.hid (hbwk.out.trans (hb4.out.mono hbwk.out.size))
                rcases idx_rule (l := l) (p := path ++ [nm2]) with ⟨g1, g2⟩ | ⟨r, rl, g1, g2, g3⟩
                · have ez : z = -1 := by rw [← hz]; exact g1
                  subst ez
                  have hno := Lib.hid (normL_norule (l := l) (path := path) (first := first) (at_ := at_) (out := out) hy'.out rfl g2)
                  have hPW := hPk.out.below hb4.out
                  have hbW := hbw4.out
                  clear hz g1 g2
                  have hRk : Hid (RN = .error (24, at_)) := Lib.hid (hErr.out _ (by rw [hRL.out]; exact hno.out))
                  have hbF := Lib.hid (hbw'.out.trans (hbW.mono hbw'.out.size))
                  have hrb := hPW.rb
                  clear hbW hPW
                  obtain ⟨q0, q1, q2, q3, q4⟩ := nd_same hrb
                  have zf := fun i => frozen_of_row w4 (T + 1) i _ _ hrb
                  have y0 := Xp.cell_blk hrb (i := 0) rfl
                  have y1 := Xp.cell_blk hrb (i := 1) rfl
                  have y2 := Xp.cell_blk hrb (i := 2) rfl
                  have y3 := Xp.cell_blk hrb (i := 3) rfl
                  have y4 := Xp.cell_blk hrb (i := 4) rfl
                  have hrbH := Lib.hid hrb
                  clear hrb
                  go_wp2_with fail
                  exact bodyPost_ret (res_nd3 (x := .int .i64 24) (y := .int .i64 (at_ : Nat)) rfl hrbH.out rfl rfl rfl) rfl ⟨by rw [hRk.out]; exact ⟨by decide, rfl⟩, hbF.out⟩
                · have ez : z = (r : Int) := by rw [← hz]; exact g1
                  subst ez
                  have hrl : r < nl := by have := (List.getElem?_eq_some_iff.1 g2).1; have := hll.out; omega
                  have hlx4 := hlx.out.below hb4.out
                  obtain ⟨bl, ol, rl', A1, n1, c1, A2, n2, c2, eAl, hbll, hrl2, t1, t2, k0, k1⟩ := Rs.at_ hlx4 hrl
                  have erl : rl' = rl := by rw [hrl2] at g2; injection g2
                  subst erl
                  subst eAl
                  have hrm := List.mem_of_getElem? g2
                  have hokr := Lib.hid (hok'.out.2 rl' hrm)
                  have h0r : (0 : Int) ≤ (r : Int) := by omega
                  have hri : (r : Int) < (nl : Int) := by omega
                  have f1 : decide ((r : Int) < 0) = false := by rw [decide_eq_false_iff_not]; omega
                  obtain ⟨hkb, hknd⟩ := hkid.out w4 hb4.out
                  have hcall := Lib.hid (ih'.out B0 (.mk 1 nm2 tx2 as2 kz2) hyw.out.2 (by have := hyw.out.1; have := hw'.out; omega) _ nl cl l A9 (np + 1) c9 (path ++ [nm2]) at_ _ w4 (by have := hB0'.out; have := hbw4.out.size; have := hs2'.out; omega) hlx4 hts4.out hknd hok'.out
                    (by have := hnp'.out; have := hyw.out.1; omega) (by have h1 := hatw.out; rw [drop_at hy'.out, wL] at h1; omega))
                  have n0 := Xp.cell_blk hkb (i := 0) rfl
                  have n1' := Xp.cell_blk hkb (i := 1) rfl
                  have n2' := Xp.cell_blk hkb (i := 2) rfl
                  have n3 := Xp.cell_blk hkb (i := 3) rfl
                  have n4 := Xp.cell_blk hkb (i := 4) rfl
                  have ht2 := Lib.hid t2
                  have hg3 := Lib.hid g3
                  have hk01 := Lib.hid (And.intro k0 k1)
                  have hbllH := Lib.hid hbll
                  clear hz g1 g2 g3 hrl2 t1 t2 hlx4 k0 k1 hbll hrm hkb hknd
                  go_wp2_with fail
                  refine hcall.out.mono ?_
                  rintro e w6 ⟨hnp6, hb6⟩
                  have hb46 := Lib.hid (hb4.out.trans (hb6.mono hb4.out.size))
                  have hb6H := Lib.hid hb6
                  have hnpH := Lib.hid hnp6
                  clear n0 n1' n2' n3 n4 hb6 hnp6 hcall
                  cases hRy : normN l (path ++ [nm2]) at_ (.mk 1 nm2 tx2 as2 kz2) with
                  | error c =>
                    obtain ⟨cd, p⟩ := c
                    have h6 := hnpH.out
                    rw [hRy] at h6
                    obtain ⟨hcd0, rfl⟩ := h6
                    have hcd := Lib.hid hcd0
                    have hbad := Lib.hid (normL_bad (l := l) (path := path) (first := first) (at_ := at_) (out := out) hy'.out rfl hg3.out hRy)
                    have e7 : (cd != 0) = true := by simpa using hcd0
                    have hbl := below_alloc w6 (.cells #[.int .i64 0, .string ⟨#[]⟩, .string ⟨#[]⟩, .slice none 0 0, .slice none 0 0] 26)
                    have hbZ := hb46.out.trans (hbl.mono hb46.out.size)
                    have hPW := hPk.out.below hbZ
                    have hbW := hbwk.out.trans (hbZ.mono hbwk.out.size)
                    clear hRy hcd0 hbl hbZ
                    have hRk : Hid (RN = .error (cd, p)) := Lib.hid (hErr.out _ (by rw [hRL.out]; exact hbad.out))
                    have hbF := Lib.hid (hbw'.out.trans (hbW.mono hbw'.out.size))
                    have hrb := hPW.rb
                    clear hbW hPW
                    obtain ⟨q0, q1, q2, q3, q4⟩ := nd_same hrb
                    have zf := fun i => frozen_of_row (w6.alloc (.cells #[.int .i64 0, .string ⟨#[]⟩, .string ⟨#[]⟩, .slice none 0 0, .slice none 0 0] 26)) (T + 1) i _ _ hrb
                    have y0 := Xp.cell_blk hrb (i := 0) rfl
                    have y1 := Xp.cell_blk hrb (i := 1) rfl
                    have y2 := Xp.cell_blk hrb (i := 2) rfl
                    have y3 := Xp.cell_blk hrb (i := 3) rfl
                    have y4 := Xp.cell_blk hrb (i := 4) rfl
                    have hrbH := Lib.hid hrb
                    clear hrb
                    go_wp2_with fail
                    exact bodyPost_ret (res_nd3 (x := .int .i64 cd) (y := .int .i64 (p : Nat)) rfl hrbH.out rfl rfl rfl) rfl ⟨by rw [hRk.out]; exact ⟨hcd.out, rfl⟩, hbF.out⟩
                  | ok kid =>
                    have h6 := hnpH.out
                    rw [hRy] at h6
                    obtain ⟨vs6, rfl, hkd6⟩ := h6
                    have hRyH := Lib.hid hRy
                    have hwkid : Hid (wN kid ≤ 100000) := Lib.hid (by have := normN_w l _ _ _ _ hRy; have := hyw.out.1; have := hw'.out; omega)
                    obtain ⟨kd3, nm3, tx3, as3, kz3, ekid⟩ : ∃ kd nm tx as_ kz, kid = Nd.mk kd nm tx as_ kz := by cases kid; exact ⟨_, _, _, _, _, rfl⟩
                    have hkd6H := Lib.hid hkd6
                    rw [ekid] at hkd6
                    obtain ⟨Aa3, ca3, Ak3, ck3, rfl, _⟩ := hkd6.cells
                    obtain ⟨la3, hla3⟩ : ∃ la, as3.length = la := ⟨_, rfl⟩
                    obtain ⟨lk3, hlk3⟩ : ∃ lk, kz3.length = lk := ⟨_, rfl⟩
                    obtain ⟨Y1, hY1⟩ : ∃ S, strOf nm3 = S := ⟨_, rfl⟩
                    obtain ⟨Y2, hY2⟩ : ∃ S, strOf tx3 = S := ⟨_, rfl⟩
                    rw [hla3, hlk3, hY1, hY2] at hkd6H
                    rw [hla3, hlk3, hY1, hY2]
                    clear hkd6 ekid hla3 hlk3 hY1 hY2 hRy hnpH
                    obtain ⟨Y, hY⟩ : ∃ Y, w6.heap.size = Y := ⟨_, rfl⟩
                    obtain ⟨w7, hw7⟩ : ∃ w7, w6.alloc (.cells #[.int .i64 kd3, .string Y1, .string Y2, .slice Aa3 la3 ca3, .slice Ak3 lk3 ck3] 26) = w7 := ⟨_, rfl⟩
                    have hbl : Below w6.heap.size w6 w7 := by rw [← hw7]; exact below_alloc w6 _
                    have hs7 : w7.heap.size = Y + 1 := by rw [← hw7, World.size_alloc, hY]
                    have hyb : w7.heap[Y]? = some (.cells #[.int .i64 kd3, .string Y1, .string Y2, .slice Aa3 la3 ca3, .slice Ak3 lk3 ck3] 26) := by rw [← hw7, ← hY]; exact heap_alloc_new w6 _
                    have hbk7 := Lib.hid (hb46.out.trans (hbl.mono hb46.out.size))
                    have hb47 := hb6H.out.trans (hbl.mono hb6H.out.size)
                    have v0 := Xp.cell_blk hyb (i := 0) rfl
                    have v1 := Xp.cell_blk hyb (i := 1) rfl
                    have v2 := Xp.cell_blk hyb (i := 2) rfl
                    have v3 := Xp.cell_blk hyb (i := 3) rfl
                    have v4 := Xp.cell_blk hyb (i := 4) rfl
                    have k0 := (hb47.cell (p := ⟨bl, ol + r * 2, none⟩) hbllH.out).trans hk01.out.1
                    have k1 := (hb47.cell (p := ⟨bl, ol + r * 2 + 1, none⟩) hbllH.out).trans hk01.out.2
                    have hbll7 : Hid (bl < w7.heap.size) := Lib.hid (Nat.lt_of_lt_of_le hbllH.out hb47.size)
                    have hY7 : Hid (Y < w7.heap.size) := Lib.hid (by omega)
                    have hYH := Lib.hid hY
                    have hybH := Lib.hid hyb
                    have hX7 : Hid (∀ j, (j < B0 ∨ (w4.heap.size ≤ j ∧ j < w6.heap.size)) → j < w7.heap.size) := Lib.hid fun j hj => by
                      have := hB0'.out; have := hbw4.out.size; have := hs2'.out; have := hb47.size
                      rcases hj with hj | hj <;> omega
                    have hkd7 : Hid (∀ x, Below w7.heap.size w7 x → NdI (fun j => j < B0 ∨ (w4.heap.size ≤ j ∧ j < w6.heap.size)) x [.int .i64 kd3, .string Y1, .string Y2, .slice Aa3 la3 ca3, .slice Ak3 lk3 ck3] kid) := Lib.hid fun x hx => by
                      have h1 := hkd6H.out.later (w' := w7) (fun j hj => by
                        have := hB0'.out; have := hbw4.out.size; have := hs2'.out; have := hb6H.out.size
                        rcases hj with hj | hj <;> omega) hbl
                      exact h1.later hX7.out hx
                    have hKey : Hid (∀ x, Below w7.heap.size w7 x → Calls Tryz.prog 95 #[.agg #[.slice A1 n1 c1, .slice A2 n2 c2], .agg #[.int .i64 kd3, .string Y1, .string Y2, .slice Aa3 la3 ca3, .slice Ak3 lk3 ck3]] x fun e w' => KeyP x.heap.size 9 (keyR kid rl'.2) e w' ∧ Below x.heap.size x w') := Lib.hid fun x hx =>
                      rKey_any _ x A1 n1 c1 A2 n2 c2 rl'.2 [.int .i64 kd3, .string Y1, .string Y2, .slice Aa3 la3 ca3, .slice Ak3 lk3 ck3] kid (ht2.out.below (hb47.trans (hx.mono hb47.size))) (hkd7.out x hx) (fun j hj => Nat.lt_of_lt_of_le (hX7.out j hj) hx.size) (Nat.le_trans hwkid.out (by omega)) hokr.out.2.1 hokr.out.2.2
                    clear hbl hyb hb47 hs7
                    cases hkey : keyR kid rl'.2 with
                    | none =>
                      have hKeyS : Hid (∀ x, Below w7.heap.size w7 x → Calls Tryz.prog 95 #[.agg #[.slice A1 n1 c1, .slice A2 n2 c2], .agg #[.int .i64 kd3, .string Y1, .string Y2, .slice Aa3 la3 ca3, .slice Ak3 lk3 ck3]] x fun e w' => e = .returned (.tuple #[.slice none 0 0, .bool false]) ∧ Below x.heap.size x w') := Lib.hid fun x hx => by
                        have h1 := hKey.out x hx
                        rw [hkey] at h1
                        exact h1
                      clear hKey
                      have hKey := hKeyS
                      clear hKeyS
                      have hnok := Lib.hid (normL_nokey (l := l) (path := path) (first := first) (at_ := at_) (out := out) hy'.out rfl hg3.out hRyH.out hkey)
                      clear hkey
                      have hvK := Lib.hid (hKey.out w7.drew (Joins.below_draws w7.heap.size w7 1))
                      go_wp2_with fail
                      refine Pl.wp_region_plan 10 (.take 0 (.take 1 (.take 2 (.take 3 (.take 4 (.run 5 (.take 6 (.take 7 (.take 8 (.take 9 .done)))))))))) (fun x => x.cell? ⟨bl, ol + r * 2, none⟩ = some (.slice A1 n1 c1) ∧ x.cell? ⟨bl, ol + r * 2 + 1, none⟩ = some (.slice A2 n2 c2) ∧ x.cell? ⟨Y, 0, none⟩ = some (.int .i64 kd3) ∧ x.cell? ⟨Y, 1, none⟩ = some (.string Y1) ∧ x.cell? ⟨Y, 2, none⟩ = some (.string Y2) ∧ x.cell? ⟨Y, 3, none⟩ = some (.slice Aa3 la3 ca3) ∧ x.cell? ⟨Y, 4, none⟩ = some (.slice Ak3 lk3 ck3)) (by kernel_rfl) (by kernel_rfl) (by exact ⟨k0, k1, v0, v1, v2, v3, v4⟩) ?_
                      simp only [Pl.fill, List.getElem?_cons_zero, List.getElem?_cons_succ, List.drop_succ_cons, List.drop_zero]
                      iterate 5
                        first
                        | (refine Pl.take_go ?_ (by rfl) (fun _ _ _ h => h) ?_ ?_
                           rotate_left
                           · (intro x hSw; (try (dsimp only at hSw)); go_simp; try with_reducible rfl)
                           (try simp only [Act.put, List.setIfInBounds_toArray, List.set_cons_zero, List.set_cons_succ]))
                        | (refine Pl.take_skip (by rfl) (fun _ _ _ h => h) ?_
                           (try simp only [Act.put, List.setIfInBounds_toArray, List.set_cons_zero, List.set_cons_succ]))
                      refine Pl.run_go (fun K hK => ?_)
                      go_simp
                      refine hvK.out.mono ?_
                      rintro e w8 ⟨rfl, hb8⟩
                      have hb8x : Below w7.heap.size w7 w8 := (show Below w7.heap.size w7 w7.drew from Joins.below_draws w7.heap.size w7 1).trans hb8
                      have s0 := (hb8x.cell (p := ⟨bl, ol + r * 2, none⟩) hbll7.out).trans k0
                      have s1 := (hb8x.cell (p := ⟨bl, ol + r * 2 + 1, none⟩) hbll7.out).trans k1
                      have p0 := (hb8x.cell (p := ⟨Y, 0, none⟩) hY7.out).trans v0
                      have p1 := (hb8x.cell (p := ⟨Y, 1, none⟩) hY7.out).trans v1
                      have p2 := (hb8x.cell (p := ⟨Y, 2, none⟩) hY7.out).trans v2
                      have p3 := (hb8x.cell (p := ⟨Y, 3, none⟩) hY7.out).trans v3
                      have p4 := (hb8x.cell (p := ⟨Y, 4, none⟩) hY7.out).trans v4
                      have hb8H := Lib.hid hb8x
                      clear hb8 hb8x
                      dsimp only
                      refine hK.out _ _ (Pl.more_go _ (fun _ h => h) (by exact ⟨s0, s1, p0, p1, p2, p3, p4⟩) ?_)
                      clear hK K
                      try simp only [Act.put, List.setIfInBounds_toArray, List.set_cons_zero, List.set_cons_succ]
                      iterate 4
                        first
                        | (refine Pl.take_go ?_ (by rfl) (fun _ _ _ h => h) ?_ ?_
                           rotate_left
                           · (intro x hSw; (try (dsimp only at hSw)); go_simp; try with_reducible rfl)
                           (try simp only [Act.put, List.setIfInBounds_toArray, List.set_cons_zero, List.set_cons_succ]))
                        | (refine Pl.take_skip (by rfl) (fun _ _ _ h => h) ?_
                           (try simp only [Act.put, List.setIfInBounds_toArray, List.set_cons_zero, List.set_cons_succ]))
                      refine Pl.done_go ?_
                      clear k0 k1 v0 v1 v2 v3 v4 s0 s1 p0 p1 p2 p3 p4
                      clear hw7 hY
                      have hbk8 := hbk7.out.trans (hb8H.out.mono hbk7.out.size)
                      have hPW := hPk.out.below hbk8
                      have hbW := hbwk.out.trans (hbk8.mono hbwk.out.size)
                      clear hbk8
                      have hRk : Hid (RN = .error (22, at_)) := Lib.hid (hErr.out _ (by rw [hRL.out]; exact hnok.out))
                      have hbF := Lib.hid (hbw'.out.trans (hbW.mono hbw'.out.size))
                      have hrb := hPW.rb
                      clear hbW hPW
                      obtain ⟨q0, q1, q2, q3, q4⟩ := nd_same hrb
                      have zf := fun i => frozen_of_row w8 (T + 1) i _ _ hrb
                      have y0 := Xp.cell_blk hrb (i := 0) rfl
                      have y1 := Xp.cell_blk hrb (i := 1) rfl
                      have y2 := Xp.cell_blk hrb (i := 2) rfl
                      have y3 := Xp.cell_blk hrb (i := 3) rfl
                      have y4 := Xp.cell_blk hrb (i := 4) rfl
                      have hrbH := Lib.hid hrb
                      clear hrb
                      go_wp2_with fail
                      exact bodyPost_ret (res_nd3 (x := .int .i64 22) (y := .int .i64 (at_ : Nat)) rfl hrbH.out rfl rfl rfl) rfl ⟨by rw [hRk.out]; exact ⟨by decide, rfl⟩, hbF.out⟩
                    | some key =>
                      obtain ⟨nk, hnk⟩ : ∃ nk, key.length = nk := ⟨_, rfl⟩
                      have hKeyS : Hid (∀ x, Below w7.heap.size w7 x → Calls Tryz.prog 95 #[.agg #[.slice A1 n1 c1, .slice A2 n2 c2], .agg #[.int .i64 kd3, .string Y1, .string Y2, .slice Aa3 la3 ca3, .slice Ak3 lk3 ck3]] x fun e w' => (∃ A c, e = .returned (.tuple #[.slice A nk c, .bool true]) ∧ OwX w' x.heap.size 9 (.slice A nk c) key) ∧ Below x.heap.size x w') := Lib.hid fun x hx => by
                        have h1 := hKey.out x hx
                        rw [hkey] at h1
                        subst hnk
                        exact h1
                      clear hKey
                      have hKey := hKeyS
                      have hnkH : Hid (key.length = nk) := Lib.hid hnk
                      have hkeyH := Lib.hid hkey
                      clear hkey hnk hKeyS
                      have hvK := Lib.hid (hKey.out w7.drew (Joins.below_draws w7.heap.size w7 1))
                      go_wp2_with fail
                      refine Pl.wp_region_plan 10 (.take 0 (.take 1 (.take 2 (.take 3 (.take 4 (.run 5 (.take 6 (.take 7 (.take 8 (.take 9 .done)))))))))) (fun x => x.cell? ⟨bl, ol + r * 2, none⟩ = some (.slice A1 n1 c1) ∧ x.cell? ⟨bl, ol + r * 2 + 1, none⟩ = some (.slice A2 n2 c2) ∧ x.cell? ⟨Y, 0, none⟩ = some (.int .i64 kd3) ∧ x.cell? ⟨Y, 1, none⟩ = some (.string Y1) ∧ x.cell? ⟨Y, 2, none⟩ = some (.string Y2) ∧ x.cell? ⟨Y, 3, none⟩ = some (.slice Aa3 la3 ca3) ∧ x.cell? ⟨Y, 4, none⟩ = some (.slice Ak3 lk3 ck3)) (by kernel_rfl) (by kernel_rfl) (by exact ⟨k0, k1, v0, v1, v2, v3, v4⟩) ?_
                      simp only [Pl.fill, List.getElem?_cons_zero, List.getElem?_cons_succ, List.drop_succ_cons, List.drop_zero]
                      iterate 5
                        first
                        | (refine Pl.take_go ?_ (by rfl) (fun _ _ _ h => h) ?_ ?_
                           rotate_left
                           · (intro x hSw; (try (dsimp only at hSw)); go_simp; try with_reducible rfl)
                           (try simp only [Act.put, List.setIfInBounds_toArray, List.set_cons_zero, List.set_cons_succ]))
                        | (refine Pl.take_skip (by rfl) (fun _ _ _ h => h) ?_
                           (try simp only [Act.put, List.setIfInBounds_toArray, List.set_cons_zero, List.set_cons_succ]))
                      refine Pl.run_go (fun K hK => ?_)
                      go_simp
                      refine hvK.out.mono ?_
                      rintro e w8 ⟨⟨A5, c5, rfl, ho5⟩, hb8⟩
                      have hb8x : Below w7.heap.size w7 w8 := (show Below w7.heap.size w7 w7.drew from Joins.below_draws w7.heap.size w7 1).trans hb8
                      have s0 := (hb8x.cell (p := ⟨bl, ol + r * 2, none⟩) hbll7.out).trans k0
                      have s1 := (hb8x.cell (p := ⟨bl, ol + r * 2 + 1, none⟩) hbll7.out).trans k1
                      have p0 := (hb8x.cell (p := ⟨Y, 0, none⟩) hY7.out).trans v0
                      have p1 := (hb8x.cell (p := ⟨Y, 1, none⟩) hY7.out).trans v1
                      have p2 := (hb8x.cell (p := ⟨Y, 2, none⟩) hY7.out).trans v2
                      have p3 := (hb8x.cell (p := ⟨Y, 3, none⟩) hY7.out).trans v3
                      have p4 := (hb8x.cell (p := ⟨Y, 4, none⟩) hY7.out).trans v4
                      have ho5K := Lib.hid ho5
                      clear ho5
                      have hb8H := Lib.hid hb8x
                      clear hb8 hb8x
                      dsimp only
                      refine hK.out _ _ (Pl.more_go _ (fun _ h => h) (by exact ⟨s0, s1, p0, p1, p2, p3, p4⟩) ?_)
                      clear hK K
                      try simp only [Act.put, List.setIfInBounds_toArray, List.set_cons_zero, List.set_cons_succ]
                      iterate 4
                        first
                        | (refine Pl.take_go ?_ (by rfl) (fun _ _ _ h => h) ?_ ?_
                           rotate_left
                           · (intro x hSw; (try (dsimp only at hSw)); go_simp; try with_reducible rfl)
                           (try simp only [Act.put, List.setIfInBounds_toArray, List.set_cons_zero, List.set_cons_succ]))
                        | (refine Pl.take_skip (by rfl) (fun _ _ _ h => h) ?_
                           (try simp only [Act.put, List.setIfInBounds_toArray, List.set_cons_zero, List.set_cons_succ]))
                      refine Pl.done_go ?_
                      clear k0 k1 v0 v1 v2 v3 v4 s0 s1 p0 p1 p2 p3 p4
                      clear hw7 hY
                      have nm8 := ((hbk7.out.trans (hb8H.out.mono hbk7.out.size)).cell (p := ⟨N, 1, none⟩) hNk.out).trans hcellsN.out.2.1
                      obtain ⟨Z, hZ⟩ : ∃ Z, w8.heap.size = Z := ⟨_, rfl⟩
                      obtain ⟨w9, hw9⟩ : ∃ w9, w8.alloc (.cells #[.string U1, .slice A5 nk c5] 100) = w9 := ⟨_, rfl⟩
                      have hbl9 : Below w8.heap.size w8 w9 := by rw [← hw9]; exact below_alloc w8 _
                      have hs9 : w9.heap.size = Z + 1 := by rw [← hw9, World.size_alloc, hZ]
                      have hzb : w9.heap[Z]? = some (.cells #[.string U1, .slice A5 nk c5] 100) := by rw [← hw9, ← hZ]; exact heap_alloc_new w8 _
                      have hb79 : Below w7.heap.size w7 w9 := hb8H.out.trans (hbl9.mono hb8H.out.size)
                      have hbk9 := Lib.hid (hbk7.out.trans (hb79.mono hbk7.out.size))
                      have hbw9 := Lib.hid (hbwk.out.trans (hbk9.out.mono hbwk.out.size))
                      have hP9 := Lib.hid (hPk.out.below hbk9.out)
                      have hY9 : Hid (Y < w9.heap.size) := Lib.hid (Nat.lt_of_lt_of_le hY7.out hb79.size)
                      have hall9 : Hid (∀ x, Below w9.heap.size w9 x → (x.cell? ⟨Z, 0, none⟩ = some (.string U1) ∧ x.cell? ⟨Z, 1, none⟩ = some (.slice A5 nk c5)) ∧ Ts x A5 nk c5 key ∧ (x.cell? ⟨Y, 0, none⟩ = some (.int .i64 kd3) ∧ x.cell? ⟨Y, 1, none⟩ = some (.string Y1) ∧ x.cell? ⟨Y, 2, none⟩ = some (.string Y2) ∧ x.cell? ⟨Y, 3, none⟩ = some (.slice Aa3 la3 ca3) ∧ x.cell? ⟨Y, 4, none⟩ = some (.slice Ak3 lk3 ck3)) ∧ NdI (fun j => j < B0 ∨ (w4.heap.size ≤ j ∧ j < w6.heap.size)) x [.int .i64 kd3, .string Y1, .string Y2, .slice Aa3 la3 ca3, .slice Ak3 lk3 ck3] kid) := Lib.hid fun x hx => by
                        have g1 := (hx.block Z (by omega)).trans hzb
                        have h7x := hb79.trans (hx.mono hb79.size)
                        have g2 := (h7x.block Y hY7.out).trans hybH.out
                        exact ⟨⟨Xp.cell_blk g1 (i := 0) rfl, Xp.cell_blk g1 (i := 1) rfl⟩, (ho5K.out.rd.below (hbl9)).below hx, ⟨Xp.cell_blk g2 (i := 0) rfl, Xp.cell_blk g2 (i := 1) rfl, Xp.cell_blk g2 (i := 2) rfl, Xp.cell_blk g2 (i := 3) rfl, Xp.cell_blk g2 (i := 4) rfl⟩, hkd7.out x h7x⟩
                      have hAp : Hid (∀ a, A5 = some a → 0 < nk → w7.heap.size ≤ a.block ∧ a.block < w9.heap.size) := Lib.hid fun a ea hn => by
                        subst ea
                        have hj := World.ownsRow.lt ho5K.out a.block rfl
                        exact ⟨hj.1, Nat.lt_of_lt_of_le hj.2 hbl9.size⟩
                      obtain ⟨s, hs⟩ : ∃ s : Stp, (nm2, key) = s := ⟨_, rfl⟩
                      have hsH := Lib.hid hs
                      have hs2v : Hid (∀ x, Below w9.heap.size w9 x → StV x (.agg #[.string U1, .slice A5 nk c5]) s) := Lib.hid fun x hx => by
                        rw [← hs]
                        exact ⟨A5, nk, c5, by rw [← hU1H.out], (hall9.out x hx).2.1⟩
                      have hshs : Hid (s.1.length ≤ 1000000 ∧ ∀ x ∈ s.2, x.length ≤ 1000000) := Lib.hid (by
                        rw [← hs]
                        refine ⟨?_, fun v hv => ?_⟩
                        · have h1 := hyw.out.1
                          have h2 := hw'.out
                          rw [wN] at h1
                          show nm2.length ≤ _
                          omega
                        · have h1 := keyR_vals hkeyH.out v hv
                          have h2 := hwkid.out
                          omega)
                      have hsq9 : Hid (∀ x, Below w9.heap.size w9 x → Sq (StX (XB 0 C w9 (.slice Av m cv))) 2 x Av m cv (out.map (·.1))) := Lib.hid fun x hx => by
                        have h1 := (hP9.out.st.1.sq' (by omega))
                        exact Xp.sq_keep h1 hx fun vs y h => elt_st.stay (fun k hk => ⟨hk, hx.block k (hk.lt (Nat.zero_le _) hP9.out.ord.2.2.2)⟩) h
                      have hs9H := Lib.hid hs9
                      have hs69 : Hid (w6.heap.size ≤ w9.heap.size) := Lib.hid (by have := hb79.size; have := hY7.out; have := hYH.out; omega)
                      have hZ9 : Hid (Z < w9.heap.size) := Lib.hid (by omega)
                      have l1 := (hsq9.out w9 (Below.refl _ _)).le
                      have l2 := (hsq9.out w9 (Below.refl _ _)).max
                      have hPx : Hid (D < N) := Lib.hid (by have := hPk.out.ord; have := hskH.out; have := hNC.out; omega)
                      clear hbl9 hzb hb79 hs hs9
                      go_wp2_with fail
                      clear hw9 hZ nm8
                      go_loopw [24, 25] (fun vp vj wr => ∃ (j p : Nat), j ≤ m ∧ p ≤ j ∧ vp = .int .i64 p ∧ vj = .int .i64 j ∧ Hid (∀ (q : Nat) o, q < j → out[q]? = some o → o.1 ≠ s) ∧ Hid (((out.take j).filter fun o => No.ahead o.1 s).length = p) ∧ Hid (Below w9.heap.size w9 wr)) (fun _ j _ => m - (intOf j).toNat)
                      case atStart => exact ⟨0, 0, by omega, by omega, rfl, rfl, Lib.hid (fun q o hq => absurd hq (by omega)), Lib.hid rfl, Lib.hid (Below.refl _ _)⟩
                      case round =>
                        obtain ⟨j, p, hj, hpj, rfl, rfl, hnos, hfl, hb10⟩ := hrel
                        obtain ⟨wy, hwy2⟩ : ∃ z, z = wr := ⟨_, rfl⟩
                        subst hwy2
                        by_cases hjm : j < m
                        · have p1 : decide ((j : Int) < (m : Int)) = true := by rw [decide_eq_true_eq]; omega
                          have p2 : decide (j < m) = true := by rw [decide_eq_true_eq]; omega
                          have p3 : (j : Int) < (m : Int) := by omega
                          obtain ⟨b3, o3, so, vs3, eAv, hbl3, hso, hvs3, hel3, hcs3⟩ := (hsq9.out wy hb10.out).at_ hjm
                          subst eAv
                          have hsv3 := hel3.val
                          obtain ⟨A4, c4, rfl, ht4, hX4⟩ := hel3
                          obtain ⟨o, ho, hoe⟩ : ∃ o, out[j]? = some o ∧ o.1 = so := by
                            rw [List.getElem?_map, Option.map_eq_some_iff] at hso
                            exact hso
                          obtain ⟨n4, hn4⟩ : ∃ n4, so.2.length = n4 := ⟨_, rfl⟩
                          obtain ⟨X1, hX1⟩ : ∃ S, strOf so.1 = S := ⟨_, rfl⟩
                          rw [hn4, hX1] at hsv3
                          rw [hn4, hX1] at hcs3
                          have t0 : wy.cell? ⟨b3, o3 + j * 2, none⟩ = some (.string X1) := hcs3 0 _ rfl
                          have t1 : wy.cell? ⟨b3, o3 + j * 2 + 1, none⟩ = some (.slice A4 n4 c4) := hcs3 1 _ rfl
                          obtain ⟨⟨z0, z1⟩, _, _⟩ := hall9.out wy hb10.out
                          have hbd := (show Below wy.heap.size wy wy.drew from Joins.below_draws wy.heap.size wy 1)
                          have hc1 := Lib.hid (step_any _ _ so s wy.drew (hsv3.below hbd) (hs2v.out _ (hb10.out.trans (hbd.mono hb10.out.size))))
                          have hso2 : so.1.length ≤ 1000000 ∧ ∀ x ∈ so.2, x.length ≤ 1000000 := by rw [← hoe]; exact hsh'.out o (List.mem_of_getElem? ho)
                          have hc2 : Hid (∀ x, Below wy.heap.size wy x → Calls Tryz.prog 75 #[.agg #[.string X1, .slice A4 n4 c4], .agg #[.string U1, .slice A5 nk c5]] x fun e w' => e = .returned (.bool (No.ahead so s)) ∧ Below x.heap.size x w') := Lib.hid fun x hx =>
                            ahead_any _ _ so s x (hsv3.below hx) (hs2v.out _ (hb10.out.trans (hx.mono hb10.out.size))) hso2.1 hshs.out.1 hso2.2 hshs.out.2
                          have hoH := Lib.hid ho
                          have hoeH := Lib.hid hoe
                          have hbl3H := Lib.hid hbl3
                          clear hcs3 hvs3 ht4 hX4 hso hsv3 hbd hso2 ho hoe hbl3 hn4 hX1
                          cases hd : decide (so = s) with
                          | true =>
                            rw [hd] at hc1
                            have htw := Lib.hid (normL_twice (l := l) (path := path) (first := first) (at_ := at_) hy'.out rfl hg3.out hRyH.out hkeyH.out hoH.out (by rw [hoeH.out, of_decide_eq_true hd]; exact hsH.out.symm))
                            clear hd
                            go_wp2_with fail
                            refine Pl.wp_region_plan 5 (.take 0 (.take 1 (.take 2 (.take 3 (.take 4 .done))))) (fun x => x.cell? ⟨b3, o3 + j * 2, none⟩ = some (.string X1) ∧ x.cell? ⟨b3, o3 + j * 2 + 1, none⟩ = some (.slice A4 n4 c4) ∧ x.cell? ⟨Z, 0, none⟩ = some (.string U1) ∧ x.cell? ⟨Z, 1, none⟩ = some (.slice A5 nk c5)) (by kernel_rfl) (by kernel_rfl) (by exact ⟨t0, t1, z0, z1⟩) ?_
                            simp only [Pl.fill, List.getElem?_cons_zero, List.getElem?_cons_succ, List.drop_succ_cons, List.drop_zero]
                            iterate 5
                              first
                              | (refine Pl.take_go ?_ (by rfl) (fun _ _ _ h => h) ?_ ?_
                                 rotate_left
                                 · (intro x hSw; (try (dsimp only at hSw)); go_simp; try with_reducible rfl)
                                 (try simp only [Act.put, List.setIfInBounds_toArray, List.set_cons_zero, List.set_cons_succ]))
                              | (refine Pl.take_skip (by rfl) (fun _ _ _ h => h) ?_
                                 (try simp only [Act.put, List.setIfInBounds_toArray, List.set_cons_zero, List.set_cons_succ]))
                            refine Pl.done_go ?_
                            clear t0 t1 z0 z1
                            go_wp2_with fail
                            refine hc1.out.mono ?_
                            rintro e w11 ⟨rfl, hb11⟩
                            have hb11x : Below wy.heap.size wy w11 := (show Below wy.heap.size wy wy.drew from Joins.below_draws wy.heap.size wy 1).trans hb11
                            have hbe := hb10.out.trans (hb11x.mono hb10.out.size)
                            have hPW := hP9.out.below hbe
                            have hbW := hbw9.out.trans (hbe.mono hbw9.out.size)
                            clear hbe hb11x hb11
                            have hRk : Hid (RN = .error (23, at_)) := Lib.hid (hErr.out _ (by rw [hRL.out]; exact htw.out))
                            have hbF := Lib.hid (hbw'.out.trans (hbW.mono hbw'.out.size))
                            have hrb := hPW.rb
                            clear hbW hPW
                            obtain ⟨q0, q1, q2, q3, q4⟩ := nd_same hrb
                            have zf := fun i => frozen_of_row w11 (T + 1) i _ _ hrb
                            have y0 := Xp.cell_blk hrb (i := 0) rfl
                            have y1 := Xp.cell_blk hrb (i := 1) rfl
                            have y2 := Xp.cell_blk hrb (i := 2) rfl
                            have y3 := Xp.cell_blk hrb (i := 3) rfl
                            have y4 := Xp.cell_blk hrb (i := 4) rfl
                            have hrbH := Lib.hid hrb
                            clear hrb
                            go_wp2_with fail
                            exact bodyPost_ret (res_nd3 (x := .int .i64 23) (y := .int .i64 (at_ : Nat)) rfl hrbH.out rfl rfl rfl) rfl ⟨by rw [hRk.out]; exact ⟨by decide, rfl⟩, hbF.out⟩
                          | false =>
                            rw [hd] at hc1
                            have hne2 : Hid (∀ (q : Nat) o, q < j + 1 → out[q]? = some o → o.1 ≠ s) := Lib.hid fun q o' hq ho' => by
                              by_cases e : q = j
                              · subst e
                                rw [hoH.out] at ho'
                                injection ho' with ho'
                                rw [← ho', hoeH.out]
                                exact of_decide_eq_false hd
                              · exact hnos.out q o' (by omega) ho'
                            have hf2 := filter_snoc (s := s) hoH.out
                            rw [hfl.out, hoeH.out] at hf2
                            have hf2H := Lib.hid hf2
                            clear hd hf2
                            go_wp2_with fail
                            refine Pl.wp_region_plan 5 (.take 0 (.take 1 (.take 2 (.take 3 (.take 4 .done))))) (fun x => x.cell? ⟨b3, o3 + j * 2, none⟩ = some (.string X1) ∧ x.cell? ⟨b3, o3 + j * 2 + 1, none⟩ = some (.slice A4 n4 c4) ∧ x.cell? ⟨Z, 0, none⟩ = some (.string U1) ∧ x.cell? ⟨Z, 1, none⟩ = some (.slice A5 nk c5)) (by kernel_rfl) (by kernel_rfl) (by exact ⟨t0, t1, z0, z1⟩) ?_
                            simp only [Pl.fill, List.getElem?_cons_zero, List.getElem?_cons_succ, List.drop_succ_cons, List.drop_zero]
                            iterate 5
                              first
                              | (refine Pl.take_go ?_ (by rfl) (fun _ _ _ h => h) ?_ ?_
                                 rotate_left
                                 · (intro x hSw; (try (dsimp only at hSw)); go_simp; try with_reducible rfl)
                                 (try simp only [Act.put, List.setIfInBounds_toArray, List.set_cons_zero, List.set_cons_succ]))
                              | (refine Pl.take_skip (by rfl) (fun _ _ _ h => h) ?_
                                 (try simp only [Act.put, List.setIfInBounds_toArray, List.set_cons_zero, List.set_cons_succ]))
                            refine Pl.done_go ?_
                            have hbd := Lib.hid (show Below wy.heap.size wy wy.drew from Joins.below_draws wy.heap.size wy 1)
                            have t0H := Lib.hid t0
                            have t1H := Lib.hid t1
                            clear t0 t1 z0 z1
                            go_wp2_with fail
                            refine hc1.out.mono ?_
                            rintro e w11 ⟨rfl, hb11⟩
                            have hb11x : Below wy.heap.size wy w11 := hbd.out.trans hb11
                            have t0 := (hb11x.cell (p := ⟨b3, o3 + j * 2, none⟩) hbl3H.out).trans t0H.out
                            have t1 := (hb11x.cell (p := ⟨b3, o3 + j * 2 + 1, none⟩) hbl3H.out).trans t1H.out
                            obtain ⟨⟨z0, z1⟩, _, _⟩ := hall9.out w11 (hb10.out.trans (hb11x.mono hb10.out.size))
                            have hc3 := Lib.hid (hc2.out w11.drew (hb11x.trans ((show Below w11.heap.size w11 w11.drew from Joins.below_draws w11.heap.size w11 1).mono hb11x.size)))
                            have hb11H := Lib.hid hb11x
                            clear hb11 hb11x
                            go_wp2_with fail
                            refine Pl.wp_region_plan 5 (.take 0 (.take 1 (.take 2 (.take 3 (.take 4 .done))))) (fun x => x.cell? ⟨b3, o3 + j * 2, none⟩ = some (.string X1) ∧ x.cell? ⟨b3, o3 + j * 2 + 1, none⟩ = some (.slice A4 n4 c4) ∧ x.cell? ⟨Z, 0, none⟩ = some (.string U1) ∧ x.cell? ⟨Z, 1, none⟩ = some (.slice A5 nk c5)) (by kernel_rfl) (by kernel_rfl) (by exact ⟨t0, t1, z0, z1⟩) ?_
                            simp only [Pl.fill, List.getElem?_cons_zero, List.getElem?_cons_succ, List.drop_succ_cons, List.drop_zero]
                            iterate 5
                              first
                              | (refine Pl.take_go ?_ (by rfl) (fun _ _ _ h => h) ?_ ?_
                                 rotate_left
                                 · (intro x hSw; (try (dsimp only at hSw)); go_simp; try with_reducible rfl)
                                 (try simp only [Act.put, List.setIfInBounds_toArray, List.set_cons_zero, List.set_cons_succ]))
                              | (refine Pl.take_skip (by rfl) (fun _ _ _ h => h) ?_
                                 (try simp only [Act.put, List.setIfInBounds_toArray, List.set_cons_zero, List.set_cons_succ]))
                            refine Pl.done_go ?_
                            clear t0 t1 z0 z1
                            go_wp2_with fail
                            refine hc3.out.mono ?_
                            rintro e w12 ⟨rfl, hb12⟩
                            have hbe : Hid (Below w9.heap.size w9 w12) := Lib.hid (by
                              have h1 := hb11H.out.trans (((show Below w11.heap.size w11 w11.drew from Joins.below_draws w11.heap.size w11 1).trans hb12).mono hb11H.out.size)
                              exact hb10.out.trans (h1.mono hb10.out.size))
                            clear hb12
                            cases hah : No.ahead so s with
                            | true =>
                              have hf3 : Hid (((out.take (j + 1)).filter fun o => No.ahead o.1 s).length = p + 1) := Lib.hid (by rw [hf2H.out, if_pos hah])
                              clear hah
                              go_wp2_with fail
                              go_roundw
                              case rel => exact ⟨j + 1, p + 1, by omega, by omega, by go_num, by go_num, hne2, hf3, hbe⟩
                              case measure => simp [intOf]; omega
                            | false =>
                              have hf3 : Hid (((out.take (j + 1)).filter fun o => No.ahead o.1 s).length = p) := Lib.hid (by rw [hf2H.out, hah]; rfl)
                              clear hah
                              go_wp2_with fail
                              go_roundw
                              case rel => exact ⟨j + 1, p, by omega, by omega, rfl, by go_num, hne2, hf3, hbe⟩
                              case measure => simp [intOf]; omega
                        · have p1 : decide ((j : Int) < (m : Int)) = false := by rw [decide_eq_false_iff_not]; omega
                          have p2 : decide (j < m) = false := by rw [decide_eq_false_iff_not]; omega
                          have ej : j = m := by omega
                          subst ej
                          clear l1 l2
                          obtain ⟨⟨z0, z1⟩, _, _, _⟩ := hall9.out wy hb10.out
                          have hPy := Lib.hid (hP9.out.below hb10.out)
                          have hplace : Hid (placeS s out = p) := Lib.hid (by
                            have h1 := hfl.out
                            rw [List.take_of_length_le (by rw [hml'.out]; exact Nat.le_refl _)] at h1
                            exact h1)
                          have hnot : Hid (∀ o ∈ out, o.1 ≠ s) := Lib.hid fun o ho => by
                            obtain ⟨q, hq⟩ := List.mem_iff_getElem?.1 ho
                            exact hnos.out q o (by have := (List.getElem?_eq_some_iff.1 hq).1; have := hml'.out; omega) hq
                          have hsy := Lib.hid (hPy.out.st.1.sq' (by omega))
                          have l1 := hsy.out.le
                          have l2 := hsy.out.max
                          have q0 : (p : Int) ≤ (cv : Int) := by omega
                          have q1 : (0 : Int) ≤ (p : Int) ∧ (p : Int) ≤ (cv : Int) := ⟨by omega, by omega⟩
                          have q2 : (0 : Int) ≤ (p : Int) ∧ (p : Int) ≤ (j : Int) := ⟨by omega, by omega⟩
                          have q3 : p ≤ cv := by omega
                          have q4 : (p : Int) ≤ (j : Int) := by omega
                          have hXe := XB.el (v := .slice Av j cv) elt_st (Nat.zero_le C) hPy.out.ord.2.2.2
                          have hsyx : Hid (∀ x, Below wy.heap.size wy.drew x → Sq (StX (XB 0 C wy (.slice Av j cv))) 2 x Av j cv (out.map (·.1))) := Lib.hid fun x hx => Xp.sq_keep hsy.out (bdrew hx) fun vs y h => hXe wy x vs y (bdrew hx) h
                          go_wp2_with fail
                          refine Pl.wp_region_plan 11 (.take 1 (.take 2 (.take 3 (.take 5 (.take 8 (.take 9 (.take 10 (.two 0 (.two 4 (.run 6 (.run 7 .done)) 6 (.run 4 (.run 7 .done))) 6 (.run 0 (.run 4 (.run 7 .done))))))))))) (fun x => x.cell? ⟨Z, 0, none⟩ = some (.string U1) ∧ x.cell? ⟨Z, 1, none⟩ = some (.slice A5 nk c5)) (by kernel_rfl) (by kernel_rfl) (by exact ⟨z0, z1⟩) ?_
                          simp only [Pl.fill, List.getElem?_cons_zero, List.getElem?_cons_succ, List.drop_succ_cons, List.drop_zero]
                          iterate 7
                            first
                            | (refine Pl.take_go ?_ (by rfl) (fun _ _ _ h => h) ?_ ?_
                               rotate_left
                               · (intro x hSw; (try (dsimp only at hSw)); go_simp; try with_reducible rfl)
                               (try simp only [Act.put, List.setIfInBounds_toArray, List.set_cons_zero, List.set_cons_succ]))
                            | (refine Pl.take_skip (by rfl) (fun _ _ _ h => h) ?_
                               (try simp only [Act.put, List.setIfInBounds_toArray, List.set_cons_zero, List.set_cons_succ]))
                          have hL : Hid (∀ x, Below wy.heap.size wy.drew x → Sq (StX (XB 0 C wy (.slice Av j cv))) 2 x Av p cv ((out.map (·.1)).take p)) := Lib.hid fun x hx => by
                            have := (hsyx.out x hx).cut 0 p (by omega) hpj Av (fun b off e _ => by rw [e, Nat.zero_mul]; rfl) (fun e => e)
                            rw [Nat.sub_zero, Nat.sub_zero, List.drop_zero] at this
                            exact this
                          have hR : Hid (∀ x, Below wy.heap.size wy.drew x → Sq (StX (XB 0 C wy (.slice Av j cv))) 2 x (if cv = p then Av else Option.map (fun x => x.add (p * 2)) Av) (j - p) (cv - p) ((out.map (·.1)).drop p)) := Lib.hid fun x hx => by
                            have := (hsyx.out x hx).cut p j hpj (Nat.le_refl _) (if cv = p then Av else Option.map (fun x => x.add (p * 2)) Av) (cut_addr Av cv p 2) (cut_some Av cv p 2)
                            rw [List.take_of_length_le (by rw [List.length_drop, List.length_map, hml'.out]; exact Nat.le_refl _)] at this
                            exact this
                          obtain ⟨A14, hA14⟩ : ∃ A, (if cv = p then Av else Option.map (fun x => x.add (p * 2)) Av) = A := ⟨_, rfl⟩
                          rw [hA14] at hR ⊢
                          clear hA14
                          refine Pl.trip_go (El := StX (XB 0 C wy (.slice Av j cv))) (k := 2) (z := .agg #[.string ⟨#[]⟩, .slice none 0 0]) (by_ := 40) (T := wy.heap.size) (vs := [.string U1, .slice A5 nk c5]) (x0 := s) (la := (out.map (·.1)).take p) (lb := (out.map (·.1)).drop p) (N1 := p + 1) (N := j + 1)
                            Tryz.underlying121 info_step rfl (by omega) (by omega) hXe (fun _ _ _ h => elt_st.one h) ⟨rfl, rfl, rfl, rfl, rfl⟩ ⟨rfl, rfl, rfl, rfl, rfl⟩ rfl rfl rfl rfl rfl ⟨slot_lt (n := 167) (by decide) rfl, slot_lt (n := 167) (by decide) rfl, slot_lt (n := 167) (by decide) rfl, slot_lt (n := 167) (by decide) rfl⟩ (by decide)
                            rfl hL.out rfl rfl (fun x hx => by
                              rw [← hsH.out]
                              refine ⟨A5, c5, by rw [← hU1H.out, ← hnkH.out], by show Ts _ A5 key.length c5 key; rw [hnkH.out]; exact (hall9.out x (hb10.out.trans ((bdrew hx).mono hb10.out.size))).2.1, fun a ea hn => .inr ?_⟩
                              have h1 := hAp.out a ea (by rw [← hnkH.out]; exact hn)
                              refine ⟨?_, Nat.lt_of_lt_of_le h1.2 hb10.out.size, fun e8 => ?_⟩
                              · have := hPk.out.ord.2.2.2
                                have := hbk7.out.size
                                omega
                              · have := (hPk.out.st.lt _ e8).2
                                have := hbk7.out.size
                                omega) rfl hR.out rfl (by omega) (by omega) (by omega) (Nat.le_refl _) (fun x hx => (hall9.out x (hb10.out.trans ((bdrew hx).mono hb10.out.size))).1) ?_
                          intro v0 v4 v9 v10 A7 c7 x13 ho hx
                          have hb13 := Lib.hid (bdrew hx)
                          have hst13 : Hid (OutG StX 2 100 0 C x13 (.slice A7 (j + 1) c7) ((insS s kid out).map (·.1))) := Lib.hid (by
                            rw [insS_map1 s kid p hplace.out]
                            exact OutG.fresh elt_st (Nat.zero_le _) hPy.out.ord.2.2.2 ho hb13.out.size)
                          have hP13 := Lib.hid (hPy.out.below hb13.out)
                          have hb913 := Lib.hid (hb10.out.trans (hb13.out.mono hb10.out.size))
                          have hky := Lib.hid (hP13.out.ki.1.sq' (by omega))
                          clear ho hx hL hR hXe q0 q1 q3 l1 l2 z0 z1 hsyx hsy
                          try simp only [Act.put, List.setIfInBounds_toArray, List.set_cons_zero, List.set_cons_succ]
                          have d4 := hP13.out.cells.2.2.2.2
                          obtain ⟨_, _, ⟨a0, a1, a2, a3, a4⟩, _⟩ := hall9.out x13 hb913.out
                          have l1 := hky.out.le
                          have l2 := hky.out.max
                          have q0 : (p : Int) ≤ (co : Int) := by omega
                          have q1 : (0 : Int) ≤ (p : Int) ∧ (p : Int) ≤ (co : Int) := ⟨by omega, by omega⟩
                          have q3 : p ≤ co := by omega
                          have hXe := XB.el (v := .slice Ao j co) elt_nd (by have := hP13.out.ord; omega : B0 ≤ C) hP13.out.ord.2.2.2
                          have hkyx : Hid (∀ x, Below x13.heap.size x13.drew x → Sq (NdE (XB B0 C x13 (.slice Ao j co))) 5 x Ao j co (out.map (·.2))) := Lib.hid fun x hx => Xp.sq_keep hky.out (bdrew hx) fun vs y h => hXe x13 x vs y (bdrew hx) h
                          go_wp2_with fail
                          refine Pl.wp_region_plan 13 (.take 1 (.take 2 (.take 3 (.take 4 (.take 6 (.take 9 (.take 10 (.take 11 (.take 12 (.two 0 (.two 5 (.run 7 (.run 8 .done)) 7 (.run 5 (.run 8 .done))) 7 (.run 0 (.run 5 (.run 8 .done))))))))))))) (fun x => x.cell? ⟨D, 4, none⟩ = some (.slice Ao j co) ∧ x.cell? ⟨Y, 0, none⟩ = some (.int .i64 kd3) ∧ x.cell? ⟨Y, 1, none⟩ = some (.string Y1) ∧ x.cell? ⟨Y, 2, none⟩ = some (.string Y2) ∧ x.cell? ⟨Y, 3, none⟩ = some (.slice Aa3 la3 ca3) ∧ x.cell? ⟨Y, 4, none⟩ = some (.slice Ak3 lk3 ck3)) (by kernel_rfl) (by kernel_rfl) (by exact ⟨d4, a0, a1, a2, a3, a4⟩) ?_
                          simp only [Pl.fill, List.getElem?_cons_zero, List.getElem?_cons_succ, List.drop_succ_cons, List.drop_zero]
                          iterate 9
                            first
                            | (refine Pl.take_go ?_ (by rfl) (fun _ _ _ h => h) ?_ ?_
                               rotate_left
                               · (intro x hSw; (try (dsimp only at hSw)); go_simp; try with_reducible rfl)
                               (try simp only [Act.put, List.setIfInBounds_toArray, List.set_cons_zero, List.set_cons_succ]))
                            | (refine Pl.take_skip (by rfl) (fun _ _ _ h => h) ?_
                               (try simp only [Act.put, List.setIfInBounds_toArray, List.set_cons_zero, List.set_cons_succ]))
                          have hL : Hid (∀ x, Below x13.heap.size x13.drew x → Sq (NdE (XB B0 C x13 (.slice Ao j co))) 5 x Ao p co ((out.map (·.2)).take p)) := Lib.hid fun x hx => by
                            have := (hkyx.out x hx).cut 0 p (by omega) hpj Ao (fun b off e _ => by rw [e, Nat.zero_mul]; rfl) (fun e => e)
                            rw [Nat.sub_zero, Nat.sub_zero, List.drop_zero] at this
                            exact this
                          have hR : Hid (∀ x, Below x13.heap.size x13.drew x → Sq (NdE (XB B0 C x13 (.slice Ao j co))) 5 x (if co = p then Ao else Option.map (fun x => x.add (p * 5)) Ao) (j - p) (co - p) ((out.map (·.2)).drop p)) := Lib.hid fun x hx => by
                            have := (hkyx.out x hx).cut p j hpj (Nat.le_refl _) (if co = p then Ao else Option.map (fun x => x.add (p * 5)) Ao) (cut_addr Ao co p 5) (cut_some Ao co p 5)
                            rw [List.take_of_length_le (by rw [List.length_drop, List.length_map, hml'.out]; exact Nat.le_refl _)] at this
                            exact this
                          obtain ⟨A24, hA24⟩ : ∃ A, (if co = p then Ao else Option.map (fun x => x.add (p * 5)) Ao) = A := ⟨_, rfl⟩
                          rw [hA24] at hR ⊢
                          clear hA24
                          refine Pl.trip_go (El := NdE (XB B0 C x13 (.slice Ao j co))) (k := 5) (z := (.agg #[.int .i64 0, .string ⟨#[]⟩, .string ⟨#[]⟩, .slice none 0 0, .slice none 0 0])) (by_ := 88) (T := x13.heap.size) (vs := [.int .i64 kd3, .string Y1, .string Y2, .slice Aa3 la3 ca3, .slice Ak3 lk3 ck3]) (x0 := kid) (la := (out.map (·.2)).take p) (lb := (out.map (·.2)).drop p) (N1 := p + 1) (N := j + 1)
                            Tryz.underlying24 info_node rfl (by omega) (by omega) hXe (fun _ _ _ h => NdI.one h) ⟨rfl, rfl, rfl, rfl, rfl⟩ ⟨rfl, rfl, rfl, rfl, rfl⟩ rfl rfl rfl rfl rfl ⟨slot_lt (n := 167) (by decide) rfl, slot_lt (n := 167) (by decide) rfl, slot_lt (n := 167) (by decide) rfl, slot_lt (n := 167) (by decide) rfl⟩ (by decide)
                            rfl hL.out rfl rfl (fun x hx => by
                              have hbx := hb913.out.trans ((bdrew hx).mono hb913.out.size)
                              refine NdI.stay (hall9.out x hbx).2.2.2 fun k hk => ⟨?_, rfl⟩
                              have h1 := hPk.out.ord
                              have h2 := hbk7.out.size
                              have h3 := hb4.out.size
                              have h4 := hb913.out.size
                              have h5 := hb6H.out.size
                              have h6 := hbk9.out.size
                              have h7 := hb46.out.size
                              have h8 : w6.heap.size ≤ w9.heap.size := hs69.out
                              rcases hk with hk | hk
                              · exact .inl hk
                              · refine .inr ⟨by omega, by omega, fun e8 => ?_⟩
                                have := (hPk.out.ki.lt _ e8).2
                                omega) rfl hR.out rfl (by omega) (by omega) (by omega) (Nat.le_refl _) (fun x hx => by
                              have hbx := hb913.out.trans ((bdrew hx).mono hb913.out.size)
                              obtain ⟨_, _, ⟨r0, r1, r2, r3, r4⟩, _⟩ := hall9.out x hbx
                              exact ⟨(hP13.out.below (bdrew hx)).cells.2.2.2.2, r0, r1, r2, r3, r4⟩) ?_
                          intro v0' v4' v9' v10' A8 c8 x14 ho hx
                          have hb14 := Lib.hid (bdrew hx)
                          have hki14 : OutG NdE 5 26 B0 C x14 (.slice A8 (j + 1) c8) ((insS s kid out).map (·.2)) := by
                            rw [insS_map2 s kid p hplace.out]
                            exact OutG.fresh elt_nd (by have := hP13.out.ord; omega) hP13.out.ord.2.2.2 ho hb14.out.size
                          have hP14 := hP13.out.below hb14.out
                          have hP15 := hP13.out.put hb14.out (hst13.out.below elt_st hb14.out) hki14
                          have e4 := hP14.cells.2.2.2.2
                          have zf := fun i => frozen_of_row x14 D i _ _ hP14.db
                          have hbk14 := hbk9.out.trans ((hb913.out.trans (hb14.out.mono hb913.out.size)).mono hbk9.out.size)
                          have hbw14 := hbwk.out.trans (hbk14.mono hbwk.out.size)
                          have hbw15 : Below w2.heap.size w2 (x14.setCell ⟨D, 4, none⟩ (.slice A8 (j + 1) c8)) := hbw14.setCell (p := ⟨D, 4, none⟩) (by have := hP14.ord; have := hs2'.out; show w2.heap.size ≤ D; omega) _
                          have hDN : D < N := by have := hPx.out; omega
                          obtain ⟨hkb, hknd⟩ := hkid.out x14 hbk14
                          have hkb15 : (x14.setCell ⟨D, 4, none⟩ (.slice A8 (j + 1) c8)).heap[N]? = some (.cells #[.int .i64 1, .string U1, .string U2, .slice Aa2 la2 ca2, .slice Ak2 lk2 ck2] 26) := (set_other (by omega)).trans hkb
                          have hknd15 : NdI (fun j => j < B0) (x14.setCell ⟨D, 4, none⟩ (.slice A8 (j + 1) c8)) [.int .i64 1, .string U1, .string U2, .slice Aa2 la2 ca2, .slice Ak2 lk2 ck2] (.mk 1 nm2 tx2 as2 kz2) := hknd.stay fun k hk => ⟨hk, set_other (by have := hP14.ord; omega)⟩
                          have hB15 : B0 ≤ (x14.setCell ⟨D, 4, none⟩ (.slice A8 (j + 1) c8)).heap.size := by have := hP15.ord; omega
                          obtain ⟨w15, hw15⟩ : ∃ w15, x14.setCell ⟨D, 4, none⟩ (.slice A8 (j + 1) c8) = w15 := ⟨_, rfl⟩
                          rw [hw15] at hP15 hbw15 hkb15 hknd15 hB15
                          have hel := Lib.hid (rElem_any (SizeOf.sizeOf (Nd.mk 1 nm2 tx2 as2 kz2)) (fun j => j < B0) (.mk 1 nm2 tx2 as2 kz2) (Nat.le_refl _) (by have := hyw.out.1; have := hw'.out; omega) _ w15 hknd15 (fun j hj => Nat.lt_of_lt_of_le hj hB15))
                          have r0 := Xp.cell_blk hkb15 (i := 0) rfl
                          have r1 := Xp.cell_blk hkb15 (i := 1) rfl
                          have r2 := Xp.cell_blk hkb15 (i := 2) rfl
                          have r3 := Xp.cell_blk hkb15 (i := 3) rfl
                          have r4 := Xp.cell_blk hkb15 (i := 4) rfl
                          have hP15H := Lib.hid hP15
                          have hbw15H := Lib.hid hbw15
                          have heb : Hid (at_ + elementsN (.mk 1 nm2 tx2 as2 kz2) + wL (kz.drop (k + 1)) ≤ 1000000000) := Lib.hid (by
                            have h1 := hatw.out
                            have h2 := elementsN_w (.mk 1 nm2 tx2 as2 kz2)
                            rw [drop_at hy'.out, wL] at h1
                            omega)
                          obtain ⟨EN, hEN⟩ : ∃ EN, elementsN (.mk 1 nm2 tx2 as2 kz2) = EN := ⟨_, rfl⟩
                          rw [hEN] at hel heb
                          have heb2 : at_ + EN ≤ 1000000000 := by have := heb.out; omega
                          have hon : Hid (RL = normL l path first (at_ + EN) (insS s kid out) (kz.drop (k + 1))) := Lib.hid (by
                            rw [hRL.out, ← hEN, ← hsH.out]
                            exact normL_on hy'.out rfl hg3.out hRyH.out hkeyH.out fun o ho => by rw [show ((Nd.mk 1 nm2 tx2 as2 kz2).name, key) = s from hsH.out]; exact hnot.out o ho)
                          have hlen2 : Hid ((insS s kid out).length = j + 1) := Lib.hid (by rw [(insS_perm s kid out).length_eq, List.length_cons, hml'.out])
                          have hsh2 : Hid (∀ o ∈ insS s kid out, o.1.1.length ≤ 1000000 ∧ ∀ x ∈ o.1.2, x.length ≤ 1000000) := Lib.hid fun o ho => by
                            rcases List.mem_cons.1 ((insS_perm s kid out).mem_iff.1 ho) with rfl | ho
                            · exact hshs.out
                            · exact hsh'.out o ho
                          clear hP14 hP15 hki14 ho hx hbk14 hbw14 hbw15 hkb hknd hkb15 hknd15 hB15 hL hR hXe q0 q1 q2 q3 q4 l1 l2 d4 a0 a1 a2 a3 a4 hkyx hky hEN hDN
                          try simp only [Act.put, List.setIfInBounds_toArray, List.set_cons_zero, List.set_cons_succ]
                          go_wp2_with fail
                          clear hw15 e4
                          refine hel.out.mono ?_
                          rintro e w16 ⟨rfl, hb16⟩
                          have hP16 := Lib.hid (hP15H.out.below hb16)
                          have hbw16 := Lib.hid (hbw15H.out.trans (hb16.mono hbw15H.out.size))
                          clear hb16 r0 r1 r2 r3 r4
                          go_wp2_with fail
                          go_roundw
                          case rel => exact ⟨k + 1, j + 1, at_ + EN, A7, c7, by omega, by omega, heb2, by go_num, by go_num, rfl, Lib.hid ⟨insS s kid out, A8, c8, hlen2.out, hon.out, hsh2.out, hP16.out⟩, hbw16, heb⟩
                          case measure => simp [intOf]; omega
              · have hnx : Hid (RL = normL l path first at_ out (kz.drop (k + 1))) := Lib.hid (by rw [hRL.out]; exact normL_skip hy'.out (fun h => absurd h h2) h1)
                have hat2 : Hid (at_ + wL (kz.drop (k + 1)) ≤ 1000000000) := Lib.hid (by have := hatw.out; rw [drop_at hy'.out, wL] at this; omega)
                have e5 : (kd2 == 2) = false := by simpa using h2
                have e6 : (kd2 != 1) = true := by simpa using h1
                go_wp2_with fail
                clear hwk hN
                go_roundw
                case rel => exact ⟨k + 1, m, at_, Av, cv, by omega, by omega, hatb, by go_num, rfl, rfl, Lib.hid ⟨out, Ao, co, hml'.out, hnx.out, hsh'.out, hPk.out⟩, hbwk, hat2⟩
                case measure => simp [intOf]; omega
          · have i1 : decide ((k : Int) < (lk : Int)) = false := by rw [decide_eq_false_iff_not]; omega
            have i2 : decide (k < lk) = false := by rw [decide_eq_false_iff_not]; omega
            have e1 : k = lk := by omega
            subst e1
            obtain ⟨out, Ao, co, hml, hRL0, hsh, hPn⟩ := hin.out
            have hRk : Hid (RN = .ok (.mk 1 nm [] (attrsN as_) (out.map (·.2)))) := Lib.hid (hOkk.out out (by
              rw [hRL0, List.drop_of_length_le (by rw [hlk'.out]; exact Nat.le_refl _), normL]))
            have hPH := Lib.hid hPn
            obtain ⟨e0, e1, e2, e3, e4⟩ := hPn.cells
            have y0 := Xp.cell_blk hPn.rb (i := 0) rfl
            have y1 := Xp.cell_blk hPn.rb (i := 1) rfl
            have y2 := Xp.cell_blk hPn.rb (i := 2) rfl
            have y3 := Xp.cell_blk hPn.rb (i := 3) rfl
            have y4 := Xp.cell_blk hPn.rb (i := 4) rfl
            have zg := fun i => frozen_of_row wx (T + 1) i _ _ hPn.rb
            obtain ⟨g1, g2, g3⟩ := set5 hPn.rb (.int .i64 1) (.string S1) (.string ⟨#[]⟩) (.slice Aa li ca) (.slice Ao m co)
            have hfin := Lib.hid (hPn.fin hS1'.out (by rw [attrsN_len]; exact hli'.out) g2 g3)
            have hg1 := Lib.hid g1
            have hbF := Lib.hid (Below.set5 (b := T + 1) (hbw'.out.trans (hb.out.mono hbw'.out.size)) (by have := hTw.out; omega) (.int .i64 1) (.string S1) (.string ⟨#[]⟩) (.slice Aa li ca) (.slice Ao m co))
            clear g1 g2 g3 hPn hlx hpx hKx tb rb t0 t1 t3 hRL0 hsh hml hin
            go_wp2_with fail
            exact bodyPost_ret (res_nd3 (x := .int .i64 0) (y := .int .i64 0) rfl hg1.out rfl rfl rfl) rfl ⟨by rw [hRk.out]; exact ⟨_, rfl, by rw [hTw.out]; exact hfin.out⟩, hbF.out⟩
end Go.Proofs.YtdnfnkicmfkkmaaGreatDoor.No
end

section
namespace Go.Proofs.YtdnfnkicmfkkmaaGreatDoor.Ky
open Go.RowKit Go.Shelf UtfW

theorem contains_snoc (l : List Tx) (y x : Tx) : (l ++ [y]).contains x = (l.contains x || decide (x = y)) := by
 rw [Bool.eq_iff_iff]
 simp

set_option maxHeartbeats 2000000 in
set_option maxRecDepth 100000 in
theorem refRule_any (A1 : Option Addr) (n1 c1 : Nat) (A2 : Option Addr) (n2 c2 : Nat) (r : Rl) (w : World) (h1 : Ts w A1 n1 c1 r.1) (h2 : Ts w A2 n2 c2 r.2) (hS : Smr 900000 r) :
  Calls Tryz.prog 69 #[.agg #[.slice A1 n1 c1, .slice A2 n2 c2]] w fun e w' => e = .returned (.bool (ruleB nameR r)) ∧ Below w.heap.size w w' := by
 obtain ⟨p, q⟩ := r
 simp only at h1 h2
 have hl1 := h1.len
 have hl2 := h2.len
 have hm1 := Rd.max h1
 have hm2 := Rd.max h2
 have hle1 := Rd.le h1
 have hle2 := Rd.le h2
 obtain ⟨R, hR⟩ : ∃ R, ruleB nameR (p, q) = R := ⟨_, rfl⟩
 rw [hR]
 have hR' : Hid (R = (decide (0 < n1 ∧ (1 < n1 ∨ n2 = 0)) && (p.all nameR && (q.all (keyB nameR) && onceB q)))) := Lib.hid (by
  rw [← hR]
  unfold ruleB
  simp only
  rw [hl1, hl2])
 have hl1' := Lib.hid hl1
 have hl2' := Lib.hid hl2
 have hS' := Lib.hid hS
 have hn0 := kb_new w A1 n1 c1 A2 n2 c2
 have hb0 := below_alloc w (.cells #[.slice A1 n1 c1, .slice A2 n2 c2] 70)
 obtain ⟨T, hT⟩ : ∃ T, w.heap.size = T := ⟨_, rfl⟩
 obtain ⟨w0, hw0⟩ : ∃ w0, w.alloc (.cells #[.slice A1 n1 c1, .slice A2 n2 c2] 70) = w0 := ⟨_, rfl⟩
 have hs0 : w0.heap.size = T + 1 := by rw [← hw0, World.size_alloc, hT]
 rw [hw0] at hb0 hn0
 have h1' := Lib.hid (h1.below hb0)
 have h2' := Lib.hid (h2.below hb0)
 have hT' := Lib.hid hT
 rw [hT] at hn0 hb0
 have hn0' := Lib.hid hn0
 have hb0' := Lib.hid (show Below w.heap.size w w0 by rw [hT]; exact hb0)
 obtain ⟨k0, k1⟩ := hn0.cells
 obtain ⟨ok0, hok0⟩ : ∃ b, decide (0 < n1 ∧ (1 < n1 ∨ n2 = 0)) = b := ⟨_, rfl⟩
 rw [hok0] at hR'
 clear h1 h2 hn0 hb0 hl1 hl2 hR hS
 go_enter Tryz.func69, Tryz.ntmps69
 go_upto_region 1 with fail
 clear hw0 hT
 go_cut [3] (fun v wx => v = .bool ok0 ∧ wx = w0)
 case first =>
  by_cases e0 : n1 = 0
  ·have j1 : decide ((n1 : Int) > 0) = false := by rw [decide_eq_false_iff_not]; omega
   have j2 : decide (0 < n1) = false := by rw [decide_eq_false_iff_not]; omega
   obtain rfl : false = ok0 := by rw [← hok0]; exact (decide_eq_false (by omega)).symm
   clear hok0 e0
   go_wp2_with fail
   go_meet
   exact ⟨rfl, rfl⟩
  ·have j1 : decide ((n1 : Int) > 0) = true := by rw [decide_eq_true_eq]; omega
   have j2 : decide (0 < n1) = true := by rw [decide_eq_true_eq]; omega
   by_cases e1 : n1 = 1
   ·have j3 : decide ((n1 : Int) > 1) = false := by rw [decide_eq_false_iff_not]; omega
    have j4 : decide (1 < n1) = false := by rw [decide_eq_false_iff_not]; omega
    by_cases e2 : n2 = 0
    ·have j5 : ((n2 : Int) == 0) = true := by rw [beq_iff_eq]; omega
     obtain rfl : true = ok0 := by rw [← hok0]; exact (decide_eq_true (by omega)).symm
     clear hok0 e0 e1 e2
     go_wp2_with fail
     go_meet
     exact ⟨rfl, rfl⟩
    ·have j5 : ((n2 : Int) == 0) = false := by rw [beq_eq_false_iff_ne]; omega
     obtain rfl : false = ok0 := by rw [← hok0]; exact (decide_eq_false (by omega)).symm
     clear hok0 e0 e1 e2
     go_wp2_with fail
     go_meet
     exact ⟨rfl, rfl⟩
   ·have j3 : decide ((n1 : Int) > 1) = true := by rw [decide_eq_true_eq]; omega
    have j4 : decide (1 < n1) = true := by rw [decide_eq_true_eq]; omega
    obtain rfl : true = ok0 := by rw [← hok0]; exact (decide_eq_true (by omega)).symm
    clear hok0 e0 e1
    go_wp2_with fail
    go_meet
    exact ⟨rfl, rfl⟩
 case rest =>
  obtain ⟨rfl, rfl⟩ := hcut
  clear hok0 k0 k1
  obtain ⟨wv, hwv⟩ : ∃ wv, wv = wc := ⟨wc, rfl⟩
  subst hwv
  go_wp2_with fail
  go_loopw [3, 4] (fun o i wr => ∃ (k : Nat) (ok : Bool), k ≤ n1 ∧ i = .int .i64 k ∧ o = .bool ok ∧ Hid (ok = (ok0 && (p.take k).all nameR)) ∧ Hid (Below wv.heap.size wv wr)) (fun _ i _ => n1 - (intOf i).toNat)
  case atStart => exact ⟨0, ok0, by omega, rfl, rfl, Lib.hid (by simp), Lib.hid (Below.refl _ _)⟩
  case round =>
   obtain ⟨k, ok, hk, rfl, rfl, hok, hb⟩ := hrel
   obtain ⟨k0, k1⟩ := (hn0'.out.below (hb.out.mono (by omega))).cells
   by_cases hlt : k < n1
   ·have i1 : decide ((k : Int) < (n1 : Int)) = true := by rw [decide_eq_true_eq]; omega
    have i2 : decide (k < n1) = true := by rw [decide_eq_true_eq]; omega
    have i3 : (k : Int) < (n1 : Int) := by omega
    obtain ⟨b, off, t, rfl, hbl, ht, kk⟩ := (h1'.out.below hb.out).at_ hlt
    have hnm := refName_any (strOf t) (by rw [strOf_size']; have := hS'.out.2.2.1 t (List.mem_of_getElem? ht); omega) wr
    rw [strOf_data'] at hnm
    have hx2 : Hid ((p.take (k + 1)).all nameR = ((p.take k).all nameR && nameR t)) := Lib.hid (all_take _ ht)
    obtain ⟨V, hV⟩ : ∃ V, nameR t = V := ⟨_, rfl⟩
    rw [hV] at hnm hx2
    clear ht hV
    cases ok with
    | false =>
     have hok2 : Hid (false = (ok0 && (p.take (k + 1)).all nameR)) := Lib.hid (by rw [hx2.out, ← Bool.and_assoc, ← hok.out]; rfl)
     clear hnm
     go_wp2_with fail
     go_roundw
     case rel => exact ⟨k + 1, false, by omega, by go_num, rfl, hok2, hb⟩
     case measure => simp [intOf]; omega
    | true =>
     have hok2 : Hid (V = (ok0 && (p.take (k + 1)).all nameR)) := Lib.hid (by rw [hx2.out, ← Bool.and_assoc, ← hok.out]; rfl)
     go_wp2_with fail
     refine hnm.mono ?_
     rintro e w2 ⟨rfl, hb3⟩
     have hxx := Lib.hid (hb.out.trans (hb3.mono hb.out.size))
     clear hnm hb3 k0 k1 kk
     go_wp2_with fail
     go_roundw
     case rel => exact ⟨k + 1, V, by omega, by go_num, rfl, hok2, hxx⟩
     case measure => simp [intOf]; omega
   ·have i1 : decide ((k : Int) < (n1 : Int)) = false := by rw [decide_eq_false_iff_not]; omega
    have i2 : decide (k < n1) = false := by rw [decide_eq_false_iff_not]; omega
    have hR2 : Hid (R = (ok && (q.all (keyB nameR) && onceB q))) := Lib.hid (by
     have := hok.out
     rw [List.take_of_length_le (by have := hl1'.out; omega)] at this
     rw [hR'.out, this, Bool.and_assoc])
    obtain ⟨okA, hokA⟩ : ∃ okA, ok = okA := ⟨_, rfl⟩
    rw [hokA] at hR2 hok ⊢
    clear hokA hok hR' i1 hk
    obtain ⟨wz, hwz⟩ : ∃ wz, wz = wr := ⟨wr, rfl⟩
    subst hwz
    have hbz := Lib.hid hb.out
    clear hb
    go_wp2_with fail
    go_loopw [3, 5] (fun o i wq => ∃ (k : Nat) (ok : Bool), k ≤ n2 ∧ i = .int .i64 k ∧ o = .bool ok ∧ Hid (ok = (okA && ((q.take k).all (keyB nameR) && onceB (q.take k)))) ∧ Hid (Below wv.heap.size wv wq)) (fun _ i _ => n2 - (intOf i).toNat)
    case atStart => exact ⟨0, okA, by omega, rfl, rfl, Lib.hid (by simp [onceB]), hbz⟩
    case round =>
     clear k0 k1 i2 hlt
     obtain ⟨m, ok, hm, rfl, rfl, hok, hb⟩ := hrel
     obtain ⟨k0, k1⟩ := (hn0'.out.below (hb.out.mono (by omega))).cells
     by_cases hlt : m < n2
     ·have i1 : decide ((m : Int) < (n2 : Int)) = true := by rw [decide_eq_true_eq]; omega
      have i2 : decide (m < n2) = true := by rw [decide_eq_true_eq]; omega
      have i3 : (m : Int) < (n2 : Int) := by omega
      obtain ⟨b, off, t, rfl, hbl, ht, kk⟩ := (h2'.out.below hb.out).at_ hlt
      have hnm := refKey_any (strOf t) (by rw [strOf_size']; have := hS'.out.2.2.2 t (List.mem_of_getElem? ht); omega) wr
      rw [strOf_data'] at hnm
      obtain ⟨V, hV⟩ : ∃ V, keyB nameR t = V := ⟨_, rfl⟩
      have hstep : Hid ((okA && ((q.take (m + 1)).all (keyB nameR) && onceB (q.take (m + 1)))) = (ok && V && !(q.take m).contains t)) := Lib.hid (by
       rw [all_take _ ht, take_one ht, once_snoc, hok.out, hV]
       cases okA <;> cases (q.take m).all (keyB nameR) <;> cases V <;> cases onceB (q.take m) <;> rfl)
      rw [hV] at hnm
      have ht' := Lib.hid ht
      clear ht hV
      go_upto_region 9 with fail
      go_cut [3] (fun v wx => v = .bool (ok && V) ∧ Hid (Below wv.heap.size wv wx))
      case first =>
       cases ok with
       | false =>
        clear hnm
        go_wp2_with fail
        go_meet
        exact ⟨rfl, hb⟩
       | true =>
        go_wp2_with fail
        refine hnm.mono ?_
        rintro e w2 ⟨rfl, hb3⟩
        have hxx := Lib.hid (hb.out.trans (hb3.mono hb.out.size))
        clear hnm hb3 k0 k1 kk
        go_wp2_with fail
        go_meet
        exact ⟨by simp, hxx⟩
      case rest =>
       obtain ⟨rfl, hbc⟩ := hcut
       obtain ⟨okM, hokM⟩ : ∃ okM, (ok && V) = okM := ⟨_, rfl⟩
       rw [hokM] at hstep ⊢
       clear hokM hok hb k0 k1 kk hnm
       obtain ⟨wy, hwy⟩ : ∃ wy, wy = wr := ⟨wr, rfl⟩
       subst hwy
       go_wp2_with fail
       go_loopw [3, 6] (fun o i wq => ∃ (j : Nat) (ok : Bool), j ≤ m ∧ i = .int .i64 j ∧ o = .bool ok ∧ Hid (ok = (okM && !(q.take j).contains t)) ∧ Hid (Below wv.heap.size wv wq)) (fun _ i _ => m - (intOf i).toNat)
       case atStart => exact ⟨0, okM, by omega, rfl, rfl, Lib.hid (by simp), hbc⟩
       case round =>
        clear i1 i2 hlt
        obtain ⟨j, okJ, hj, rfl, rfl, hokJ, hb⟩ := hrel
        obtain ⟨k0, k1⟩ := (hn0'.out.below (hb.out.mono (by omega))).cells
        by_cases hlt : j < m
        ·have i1 : decide ((j : Int) < (m : Int)) = true := by rw [decide_eq_true_eq]; omega
         have i2 : decide (j < m) = true := by rw [decide_eq_true_eq]; omega
         have i4 : (j : Int) < (n2 : Int) := by omega
         obtain ⟨b9, off9, t9, e9, hbl9, ht9, kk9⟩ := (h2'.out.below hb.out).at_ (show m < n2 by omega)
         injection e9 with e9
         injection e9 with e9 e10 _
         subst e9; subst e10
         have hte : t9 = t := by have := ht'.out; rw [ht9] at this; injection this
         subst hte
         obtain ⟨b9, off9, t2, e9, hbl8, ht2, kk8⟩ := (h2'.out.below hb.out).at_ (show j < n2 by omega)
         injection e9 with e9
         injection e9 with e9 e10 _
         subst e9; subst e10
         have hsn : Hid ((q.take (j + 1)).contains t9 = ((q.take j).contains t9 || decide (t9 = t2))) := Lib.hid (by rw [take_one ht2, contains_snoc])
         have hse := str_eq t9 t2
         clear ht9 ht2
         cases okJ with
         | false =>
          have hok2 : Hid (false = (okM && !(q.take (j + 1)).contains t9)) := Lib.hid (by
           rw [hsn.out, Bool.not_or, ← Bool.and_assoc, ← hokJ.out]
           rfl)
          clear hse kk8 kk9
          go_wp2_with fail
          go_quiet (fail)
          have hbq := Lib.hid (hb.out.trans ((Joins.below_draws wr.heap.size wr nq).mono hb.out.size))
          go_wp2_with fail
          go_roundw
          case rel => exact ⟨j + 1, false, by omega, by go_num, rfl, hok2, hbq⟩
          case measure => simp [intOf]; omega
         | true =>
          have hok2 : Hid ((!decide (t9 = t2)) = (okM && !(q.take (j + 1)).contains t9)) := Lib.hid (by
           rw [hsn.out, Bool.not_or, ← Bool.and_assoc, ← hokJ.out]
           rfl)
          obtain ⟨D, hD⟩ : ∃ D, decide (t9 = t2) = D := ⟨_, rfl⟩
          rw [hD] at hse hok2
          obtain ⟨S, hS⟩ : ∃ S, strOf t9 = S := ⟨_, rfl⟩
          obtain ⟨S2, hS2⟩ : ∃ S2, strOf t2 = S2 := ⟨_, rfl⟩
          simp only [tv] at kk8 kk9
          rw [hS, hS2] at hse
          rw [hS2] at kk8
          rw [hS] at kk9
          clear hD hS hS2
          go_wp2_with fail
          go_quiet (fail)
          have hbq := Lib.hid (hb.out.trans ((Joins.below_draws wr.heap.size wr nq).mono hb.out.size))
          go_wp2_with fail
          go_roundw
          case rel => exact ⟨j + 1, !D, by omega, by go_num, by first | rfl | (rw [hse]), hok2, hbq⟩
          case measure => simp [intOf]; omega
        ·have i1 : decide ((j : Int) < (m : Int)) = false := by rw [decide_eq_false_iff_not]; omega
         have i2 : decide (j < m) = false := by rw [decide_eq_false_iff_not]; omega
         obtain rfl : j = m := by omega
         have hfin : Hid (okJ = (okA && ((q.take (j + 1)).all (keyB nameR) && onceB (q.take (j + 1))))) := Lib.hid (by rw [hstep.out, hokJ.out])
         clear hlt
         go_wp2_with fail
         go_roundw
         case rel => exact ⟨j + 1, okJ, by omega, by go_num, rfl, hfin, hb⟩
         case measure => simp [intOf]; omega
     ·have i1 : decide ((m : Int) < (n2 : Int)) = false := by rw [decide_eq_false_iff_not]; omega
      have i2 : decide (m < n2) = false := by rw [decide_eq_false_iff_not]; omega
      have hf : ok = R := by
       have := hok.out
       rw [List.take_of_length_le (by have := hl2'.out; omega)] at this
       rw [hR2.out, this]
      subst hf
      have hx2 := Lib.hid (hb0'.out.trans (hb.out.mono hb0'.out.size))
      go_wp2_with fail
      go_ret
      exact ⟨rfl, hx2.out⟩
end Go.Proofs.YtdnfnkicmfkkmaaGreatDoor.Ky
end

section
namespace Go.Proofs.YtdnfnkicmfkkmaaGreatDoor.Ky
open Go.RowKit Go.Shelf UtfW

set_option maxHeartbeats 2000000 in
set_option maxRecDepth 100000 in
theorem refMay_any (A : Option Addr) (n c : Nat) (l : List Rl) (w : World) (h : Rs w A n c l) (hS : ∀ r ∈ l, Smr 900000 r) :
  Calls Tryz.prog 45 #[.slice A n c] w fun e w' => e = .returned (.bool (mayB nameR l)) ∧ Below w.heap.size w w' := by
 have hl := h.len
 have hm := h.max
 have hle := h.le
 have hP : mayB nameR l = (decide (1 ≤ n ∧ n ≤ 64) && mayP nameR [] l) := by
  unfold mayB
  rw [hl]
 obtain ⟨R, hR⟩ : ∃ R, mayB nameR l = R := ⟨_, rfl⟩
 rw [hR] at hP ⊢
 have hP' := Lib.hid hP
 have hl' := Lib.hid hl
 have h' := Lib.hid h
 have hS' := Lib.hid hS
 clear hR hP hl h hS
 go_enter Tryz.func45, Tryz.ntmps45
 go_wp2_with fail
 go_loopw [3] (fun i wr => ∃ k : Nat, k ≤ n ∧ i = .int .i64 k ∧ Hid (mayP nameR [] (l.take k) = true) ∧ Hid (Below w.heap.size w wr)) (fun i _ => n - (intOf i).toNat)
 case atStart => exact ⟨0, by omega, rfl, Lib.hid rfl, Lib.hid (Below.refl _ _)⟩
 case round =>
  obtain ⟨k, hk, rfl, ho, hb⟩ := hrel
  by_cases hlt : k < n
  ·have i1 : decide ((k : Int) < (n : Int)) = true := by rw [decide_eq_true_eq]; omega
   have i2 : decide (k < n) = true := by rw [decide_eq_true_eq]; omega
   have i3 : (k : Int) < (n : Int) := by omega
   have hrr := h'.out.below hb.out
   obtain ⟨b, off, r, A1, n1, c1, A2, n2, c2, rfl, hbl, hr, t1, t2, k0, k1⟩ := Rs.at_ hrr hlt
   have hrl := hS'.out r (List.mem_of_getElem? hr)
   have hcut : Rs wr (some ⟨b, off, none⟩) k c (l.take k) := by
    have := Sq.cut hrr 0 k (by omega) (by omega) (some ⟨b, off, none⟩) (fun b' o' e _ => by injection e with e; injection e with e1 e2; subst e1; subst e2; simp) (fun h1 h2 => by cases h2)
    rw [Nat.sub_zero, Nat.sub_zero, List.drop_zero] at this
    exact this
   have hq : Hid (∀ x, Below wr.heap.size wr x → x.cell? ⟨b, off + k * 2, none⟩ = some (.slice A1 n1 c1) ∧ x.cell? ⟨b, off + k * 2 + 1, none⟩ = some (.slice A2 n2 c2)) := Lib.hid fun x hx => ⟨(hx.cell hbl).trans k0, (hx.cell hbl).trans k1⟩
   have hdr : Hid (Below wr.heap.size wr wr.drew) := Lib.hid (Joins.below_draws wr.heap.size wr 1)
   have cR : Hid (∀ x, Below wr.heap.size wr x → Calls Tryz.prog 69 #[.agg #[.slice A1 n1 c1, .slice A2 n2 c2]] x fun e w'' => e = .returned (.bool (ruleB nameR r)) ∧ Below x.heap.size x w'') := Lib.hid fun x hx =>
    refRule_any A1 n1 c1 A2 n2 c2 r _ (t1.below hx) (t2.below hx) hrl
   have hstep : Hid (ruleB nameR r = true → placedB (l.take k) r = true → mayP nameR [] (l.take (k + 1)) = true) := Lib.hid fun g1 g2 => by
    rw [take_one hr, mayP_append, ho.out, List.nil_append]
    simp [mayP, g1, g2]
   have hbad : Hid (ruleB nameR r = false ∨ placedB (l.take k) r = false → R = false) := Lib.hid fun g => by
    have e : l = l.take (k + 1) ++ l.drop (k + 1) := (List.take_append_drop _ _).symm
    rw [hP'.out]
    refine Bool.and_eq_false_iff.2 (.inr ?_)
    rw [e, mayP_append, take_one hr, mayP_append, ho.out, List.nil_append]
    rcases g with g | g <;> simp [mayP, g]
   cases hru : ruleB nameR r with
   | false =>
    rw [hru] at cR
    obtain rfl : R = false := hbad.out (.inl hru)
    clear hrl hcut hrr t1 t2 hr hru hstep hbad k0 k1
    go_wp2_with fail
    refine Pl.wp_region_plan 14 (.take 0 (.take 1 (.take 2 (.take 3 (.run 4 (.take 5 (.take 6 (.take 7 (.take 8 (.take 9 (.take 10 (.take 11 (.take 12 (.take 13 .done)))))))))))))) (fun x => x.cell? ⟨b, off + k * 2, none⟩ = some (.slice A1 n1 c1) ∧ x.cell? ⟨b, off + k * 2 + 1, none⟩ = some (.slice A2 n2 c2)) (by kernel_rfl) (by kernel_rfl) (by exact hq.out _ hdr.out) ?_
    simp only [Pl.fill, List.getElem?_cons_zero, List.getElem?_cons_succ, List.drop_succ_cons, List.drop_zero]
    iterate 4
     refine Pl.take_go ?_ (by rfl) (fun _ _ _ h => h) ?_ ?_
     rotate_left
     ·(intro x hSw; (try dsimp only at hSw); (try obtain ⟨s0, s1⟩ := hSw); go_simp; try with_reducible rfl)
     try simp only [Act.put, List.setIfInBounds_toArray, List.set_cons_zero, List.set_cons_succ]
    refine Pl.run_go (fun K hK => ?_)
    go_simp
    refine (cR.out _ hdr.out).mono ?_
    rintro e w9 ⟨rfl, hb9⟩
    have hb9' := Lib.hid (hdr.out.trans (hb9.mono hdr.out.size))
    have hs9 := hb9'.out.size
    clear hb9
    have q9 := Lib.hid (hq.out _ hb9'.out)
    dsimp only
    refine hK.out _ _ (Pl.more_go _ (fun _ h => h) (by exact q9.out) ?_)
    clear hK K
    try simp only [Act.put, List.setIfInBounds_toArray, List.set_cons_zero, List.set_cons_succ]
    iterate 2
     refine Pl.take_go ?_ (by rfl) (fun _ _ _ h => h) ?_ ?_
     rotate_left
     ·(intro x hSw; (try dsimp only at hSw); (try obtain ⟨s0, s1⟩ := hSw); go_simp; try with_reducible rfl)
     try simp only [Act.put, List.setIfInBounds_toArray, List.set_cons_zero, List.set_cons_succ]
    iterate 7
     refine Pl.take_skip (by rfl) (fun _ _ _ h => h) ?_
     try simp only [Act.put, List.setIfInBounds_toArray, List.set_cons_zero, List.set_cons_succ]
    refine Pl.done_go ?_
    clear q9
    go_wp2_with fail
    have hbA' := Lib.hid (hb.out.trans (hb9'.out.mono hb.out.size))
    go_ret
    exact ⟨rfl, hbA'.out⟩
   | true =>
    rw [hru] at cR
    have hkc : k ≤ c := by omega
    have hrne : r.1 ≠ [] := by
     intro e
     unfold ruleB at hru
     rw [e] at hru
     simp at hru
    have cP : Hid (∀ x, Below wr.heap.size wr x → Calls Tryz.prog 70 #[.slice (some ⟨b, off, none⟩) k c, .agg #[.slice A1 n1 c1, .slice A2 n2 c2]] x fun e w'' => e = .returned (.bool (placedB (l.take k) r)) ∧ Below x.heap.size x w'') := Lib.hid fun x hx =>
     refPlaced_any (some ⟨b, off, none⟩) k c (l.take k) A1 n1 c1 A2 n2 c2 r _ (hcut.below hx) (t1.below hx) hrne
    cases hpl : placedB (l.take k) r with
    | false =>
     rw [hpl] at cP
     obtain rfl : R = false := hbad.out (.inr hpl)
     clear hrl hcut hrr t1 t2 hr hru hstep hbad hpl hrne k0 k1
     go_wp2_with fail
     refine Pl.wp_region_plan 14 (.take 0 (.take 1 (.take 2 (.take 3 (.run 4 (.take 5 (.take 6 (.take 7 (.take 8 (.take 9 (.take 10 (.take 11 (.take 12 (.take 13 .done)))))))))))))) (fun x => x.cell? ⟨b, off + k * 2, none⟩ = some (.slice A1 n1 c1) ∧ x.cell? ⟨b, off + k * 2 + 1, none⟩ = some (.slice A2 n2 c2)) (by kernel_rfl) (by kernel_rfl) (by exact hq.out _ hdr.out) ?_
     simp only [Pl.fill, List.getElem?_cons_zero, List.getElem?_cons_succ, List.drop_succ_cons, List.drop_zero]
     iterate 4
      refine Pl.take_go ?_ (by rfl) (fun _ _ _ h => h) ?_ ?_
      rotate_left
      ·(intro x hSw; (try dsimp only at hSw); (try obtain ⟨s0, s1⟩ := hSw); go_simp; try with_reducible rfl)
      try simp only [Act.put, List.setIfInBounds_toArray, List.set_cons_zero, List.set_cons_succ]
     refine Pl.run_go (fun K hK => ?_)
     go_simp
     refine (cR.out _ hdr.out).mono ?_
     rintro e w9 ⟨rfl, hb9⟩
     have hb9' := Lib.hid (hdr.out.trans (hb9.mono hdr.out.size))
     have hs9 := hb9'.out.size
     clear hb9
     have q9 := Lib.hid (hq.out _ hb9'.out)
     dsimp only
     refine hK.out _ _ (Pl.more_go _ (fun _ h => h) (by exact q9.out) ?_)
     clear hK K
     try simp only [Act.put, List.setIfInBounds_toArray, List.set_cons_zero, List.set_cons_succ]
     iterate 9
      refine Pl.take_go ?_ (by rfl) (fun _ _ _ h => h) ?_ ?_
      rotate_left
      ·(intro x hSw; (try dsimp only at hSw); (try obtain ⟨s0, s1⟩ := hSw); go_simp; try with_reducible rfl)
      try simp only [Act.put, List.setIfInBounds_toArray, List.set_cons_zero, List.set_cons_succ]
     refine Pl.done_go ?_
     clear q9
     go_wp2_with fail
     refine (cP.out _ hb9'.out).mono ?_
     rintro e wA ⟨rfl, hbA⟩
     have hbA' := Lib.hid (hb.out.trans ((hb9'.out.trans (hbA.mono hs9)).mono hb.out.size))
     clear hbA
     go_wp2_with fail
     go_ret
     exact ⟨rfl, hbA'.out⟩
    | true =>
     rw [hpl] at cP
     have ho2 := Lib.hid (hstep.out hru hpl)
     clear hrl hcut hrr t1 t2 hr hru hstep hbad hpl hrne k0 k1
     go_wp2_with fail
     refine Pl.wp_region_plan 14 (.take 0 (.take 1 (.take 2 (.take 3 (.run 4 (.take 5 (.take 6 (.take 7 (.take 8 (.take 9 (.take 10 (.take 11 (.take 12 (.take 13 .done)))))))))))))) (fun x => x.cell? ⟨b, off + k * 2, none⟩ = some (.slice A1 n1 c1) ∧ x.cell? ⟨b, off + k * 2 + 1, none⟩ = some (.slice A2 n2 c2)) (by kernel_rfl) (by kernel_rfl) (by exact hq.out _ hdr.out) ?_
     simp only [Pl.fill, List.getElem?_cons_zero, List.getElem?_cons_succ, List.drop_succ_cons, List.drop_zero]
     iterate 4
      refine Pl.take_go ?_ (by rfl) (fun _ _ _ h => h) ?_ ?_
      rotate_left
      ·(intro x hSw; (try dsimp only at hSw); (try obtain ⟨s0, s1⟩ := hSw); go_simp; try with_reducible rfl)
      try simp only [Act.put, List.setIfInBounds_toArray, List.set_cons_zero, List.set_cons_succ]
     refine Pl.run_go (fun K hK => ?_)
     go_simp
     refine (cR.out _ hdr.out).mono ?_
     rintro e w9 ⟨rfl, hb9⟩
     have hb9' := Lib.hid (hdr.out.trans (hb9.mono hdr.out.size))
     have hs9 := hb9'.out.size
     clear hb9
     have q9 := Lib.hid (hq.out _ hb9'.out)
     dsimp only
     refine hK.out _ _ (Pl.more_go _ (fun _ h => h) (by exact q9.out) ?_)
     clear hK K
     try simp only [Act.put, List.setIfInBounds_toArray, List.set_cons_zero, List.set_cons_succ]
     iterate 9
      refine Pl.take_go ?_ (by rfl) (fun _ _ _ h => h) ?_ ?_
      rotate_left
      ·(intro x hSw; (try dsimp only at hSw); (try obtain ⟨s0, s1⟩ := hSw); go_simp; try with_reducible rfl)
      try simp only [Act.put, List.setIfInBounds_toArray, List.set_cons_zero, List.set_cons_succ]
     refine Pl.done_go ?_
     clear q9
     go_wp2_with fail
     refine (cP.out _ hb9'.out).mono ?_
     rintro e wA ⟨rfl, hbA⟩
     have hbA' := Lib.hid (hb.out.trans ((hb9'.out.trans (hbA.mono hs9)).mono hb.out.size))
     clear hbA
     go_wp2_with fail
     go_roundw
     case rel => exact ⟨k + 1, by omega, by go_num, ho2, hbA'⟩
     case measure => simp [intOf]; omega
  ·have i1 : decide ((k : Int) < (n : Int)) = false := by rw [decide_eq_false_iff_not]; omega
   have i2 : decide (k < n) = false := by rw [decide_eq_false_iff_not]; omega
   have hR2 : Hid (R = decide (1 ≤ n ∧ n ≤ 64)) := Lib.hid (by
    have := ho.out
    rw [List.take_of_length_le (by have := hl'.out; omega)] at this
    rw [hP'.out, this, Bool.and_true])
   by_cases hn1 : 1 ≤ n
   ·have j1 : decide ((n : Int) ≥ 1) = true := by rw [decide_eq_true_eq]; omega
    have j2 : decide (1 ≤ n) = true := by rw [decide_eq_true_eq]; omega
    by_cases hn2 : n ≤ 64
    ·have j3 : decide ((n : Int) ≤ 64) = true := by rw [decide_eq_true_eq]; omega
     have j4 : decide (n ≤ 64) = true := by rw [decide_eq_true_eq]; omega
     have hf := Lib.hid (hR2.out.trans (decide_eq_true (show 1 ≤ n ∧ n ≤ 64 from ⟨hn1, hn2⟩)))
     clear hn1 hn2
     go_wp2_with fail
     go_ret
     exact ⟨by rw [hf.out]; rfl, hb.out⟩
    ·have j3 : decide ((n : Int) ≤ 64) = false := by rw [decide_eq_false_iff_not]; omega
     have j4 : decide (n ≤ 64) = false := by rw [decide_eq_false_iff_not]; omega
     have hf := Lib.hid (hR2.out.trans (decide_eq_false (show ¬(1 ≤ n ∧ n ≤ 64) from fun h => hn2 h.2)))
     clear hn1 hn2
     go_wp2_with fail
     go_ret
     exact ⟨by rw [hf.out]; rfl, hb.out⟩
   ·have j1 : decide ((n : Int) ≥ 1) = false := by rw [decide_eq_false_iff_not]; omega
    have j2 : decide (1 ≤ n) = false := by rw [decide_eq_false_iff_not]; omega
    have hf := Lib.hid (hR2.out.trans (decide_eq_false (show ¬(1 ≤ n ∧ n ≤ 64) from fun h => hn1 h.1)))
    clear hn1
    go_wp2_with fail
    go_ret
    exact ⟨by rw [hf.out]; rfl, hb.out⟩
end Go.Proofs.YtdnfnkicmfkkmaaGreatDoor.Ky
end
