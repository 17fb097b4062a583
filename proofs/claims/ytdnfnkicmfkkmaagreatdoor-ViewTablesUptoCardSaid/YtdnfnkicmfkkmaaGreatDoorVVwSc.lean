/- The program's Value. Printed by vw_sc.py. -/
import Derived.Test.YtdnfnkicmfkkmaaGreatDoorVUtfEnc
import Derived.Test.YtdnfnkicmfkkmaaGreatDoorVItoaS
import Derived.Test.YtdnfnkicmfkkmaaGreatDoorVErrItoa
import Derived.Test.YtdnfnkicmfkkmaaGreatDoorVXtW
import Derived.Test.YtdnfnkicmfkkmaaGreatDoorVStrLaws
import Derived.Test.YtdnfnkicmfkkmaaGreatDoorVKyRb
import Derived.Shelf.Strings.OnBuilder
set_option linter.unusedVariables false
set_option linter.unusedSimpArgs false
section
namespace Go.Proofs.YtdnfnkicmfkkmaaGreatDoor.Vw
open Go.RowKit UtfW Xl Xt Xo No
open Go.Proofs.YtdnfnkicmfkkmaaGreatDoor (Ky.frontB Ky.Rl)
open Go.Proofs.YtdnfnkicmfkkmaaGreatDoor.Ky (Ts OwX tv join Rs)
theorem wrap_id {x : Int} (h0 : 0 <= x) (h1 : x < 9223372036854775808) : IntKind.i64.wrap x = x := by
 have e : x % 2 ^ 64 = x := Int.emod_eq_of_lt h0 (by omega);simp only [IntKind.wrap, IntKind.bits, IntKind.signed, e];rw [if_neg];simp;omega
theorem steps_all {l : List Ky.Rl} {names : List Tx} : ∀ {ks : List Nd}, nfL l names ks -> stepsR l names ks = ks.map (stepK l names)
 | [], _ => rfl
 | x :: xs, h => by
  unfold nfL at h;obtain ⟨⟨r, hr, key, hk⟩, _, h2⟩ := h;have h3 := steps_all h2;unfold stepsR at h3 ⊢;rw [List.filterMap_cons, hr];simp only [Option.map_some, List.map_cons];rw [h3]
  congr 1
  unfold stepK;rw [hr]
def RNodesV (n : Nd) : Prop := ∀ (X : Nat -> Prop) (w : World) (Al : Option Addr) (nl cl : Nat) (l : List Ky.Rl) (vs : List Value) (at_ pa : Nat) (path : Tx) (Ap : Option Addr) (np cp : Nat) (names : List Tx), Rs w Al nl cl l -> NdI X w vs n -> (∀ j, X j -> j < w.heap.size) -> Ts w Ap np cp names -> (names ≠ [] -> nfN l names n) -> Ky.wts l < 3000 -> Ky.mayB nameR l = true -> wN n <= 1200 -> np + wN n <= 900000 -> at_ + wN n <= 8000000 -> path.length + 100000000 * wN n <= 300000000000 →
 Calls Tryz.prog 31 #[.slice Al nl cl, .agg vs.toArray, .int .i64 (at_ : Nat), .int .i64 (pa : Nat), .string (strOf path), .slice Ap np cp] w fun e w' => ∃ A m c, e = .returned (.slice A m c) /\ OwS QEl 6 w' w.heap.size 41 (.slice A m c) (tabN l names at_ pa path n) /\ Below w.heap.size w w'
set_option maxHeartbeats 40000000 in
set_option maxRecDepth 100000 in
theorem rnodes_any : ∀ (kk : Nat) (n : Nd), SizeOf.sizeOf n <= kk -> RNodesV n := by
  intro kk
  induction kk with
  | zero => intro n hk; cases n; simp at hk
  | succ kk ih =>
    intro n hkk X w Al nl cl l vs at_ pa path Ap np cp names hl hn hX hp hnf hwt hmay hw hnp hat hph;obtain ⟨TD, hTD⟩ : ∃ TD, tabN l names at_ pa path n = TD := ⟨_, rfl⟩;rw [hTD];obtain ⟨kd, nm, tx, as_, kz, rfl⟩ : ∃ kd nm tx as_ kz, n = Nd.mk kd nm tx as_ kz := by cases n; exact ⟨_, _, _, _, _, rfl⟩
    have hn0 := hn;obtain ⟨Ai, ci, Ak, ck, rfl, hA, hK, hXA, hXK⟩ := hn.cells;obtain ⟨li, hli⟩ : ∃ la, as_.length = la := ⟨_, rfl⟩;obtain ⟨lk, hlk⟩ : ∃ lk, kz.length = lk := ⟨_, rfl⟩;obtain ⟨S1, hS1⟩ : ∃ S, strOf nm = S := ⟨_, rfl⟩;obtain ⟨S2, hS2⟩ : ∃ S, strOf tx = S := ⟨_, rfl⟩;obtain ⟨PS, hPS⟩ : ∃ S, strOf path = S := ⟨_, rfl⟩;rw [hli, hlk, hS1, hS2] at hn0 ⊢;rw [hPS];rw [hli] at hA;rw [hlk] at hK;obtain ⟨WN, hWN⟩ : ∃ WN, wN (Nd.mk kd nm tx as_ kz) = WN := ⟨_, rfl⟩;have hWE : 1 + nm.length + tx.length + wA as_ + wL kz = WN := (by rw [<- hWN, wN]);rw [hWN] at hw hnp hat hph;obtain ⟨T, hT⟩ : ∃ T, w.heap.size = T := ⟨_, rfl⟩;obtain ⟨w1, hw1⟩ : ∃ w1, w.alloc (.cells #[.int .i64 kd, .string S1, .string S2, .slice Ai li ci, .slice Ak lk ck] 26) = w1 := ⟨_, rfl⟩;have hs1 : w1.heap.size = T + 1 := (by rw [<- hw1, World.size_alloc, hT]);have hb1 : Below w.heap.size w w1 := by rw [<- hw1]; exact below_alloc w _
    have hk1 : w1.heap[T]? = some (.cells #[.int .i64 kd, .string S1, .string S2, .slice Ai li ci, .slice Ak lk ck] 26) := by rw [<- hw1, <- hT]; exact heap_alloc_new w _
    obtain ⟨w2, hw2⟩ : ∃ w2, w1.alloc (.cells #[.int .i64 kd, .string S1, .string S2, .int .i64 (pa : Nat), .int .i64 0, .string PS] 41) = w2 := ⟨_, rfl⟩;have hb2 : Below w1.heap.size w1 w2 := by rw [<- hw2]; exact below_alloc w1 _
    have hall : Hid (∀ x, Below w1.heap.size w1 x -> x.heap[T]? = some (.cells #[.int .i64 kd, .string S1, .string S2, .slice Ai li ci, .slice Ak lk ck] 26) /\ Rs x Al nl cl l /\ Ts x Ap np cp names /\ NdI X x [.int .i64 kd, .string S1, .string S2, .slice Ai li ci, .slice Ak lk ck] (.mk kd nm tx as_ kz) /\ Sq AtEl 2 x Ai li ci as_ /\ Sq (NdE X) 5 x Ak lk ck kz /\ ∀ j, X j -> j < x.heap.size) := Hd fun x hx => by
      have hwx := hb1.trans (hx.mono hb1.size);exact ⟨(hx.block T (by omega)).trans hk1, hl.below hwx, hp.below hwx, hn0.later hX hwx, hA.below AtEl.to hwx, Xp.sq_keep hK hwx fun vs y h => NdI.later h hX hwx, fun j hj => Nat.lt_of_lt_of_le (hX j hj) hwx.size⟩
    have ho2 : Hid (OwS QEl 6 w2 w1.heap.size 41 (.slice (some ⟨T + 1, 0, none⟩) 1 1) [(⟨kd, nm, tx, (pa : Nat), 0, path⟩ : Q)]) := Hd (by
      have h1 := ows_lit (El := QEl) (k := 6) w1 [.int .i64 kd, .string S1, .string S2, .int .i64 (pa : Nat), .int .i64 0, .string PS] (⟨kd, nm, tx, (pa : Nat), 0, path⟩ : Q) 41 rfl (by decide) (by
        show ([.int .i64 kd, .string S1, .string S2, .int .i64 (pa : Nat), .int .i64 0, .string PS] : List Value) = [.int .i64 kd, .string (strOf nm), .string (strOf tx), .int .i64 (pa : Nat), .int .i64 ((0 : Nat) : Int), .string (strOf path)]
        rw [hS1, hS2, hPS]
        rfl)
      rw [<- hw2];rw [hs1] at h1 ⊢
      exact h1)
    have t0 := Xp.cell_blk hk1 (i := 0) rfl;have t1 := Xp.cell_blk hk1 (i := 1) rfl;have t2 := Xp.cell_blk hk1 (i := 2) rfl;have hb12 := Hd hb2;have hb1H := Hd hb1;have hliH := Hd hli;have hlkH := Hd hlk;have hWEH := Hd hWE;have hwH := Hd hw;have hnpH := Hd hnp;have hatH := Hd hat;have hphH := Hd hph;have hTDH := Hd hTD;have hnfH := Hd hnf;have hwtH := Hd hwt;have hmayH := Hd hmay;have hPSH := Hd hPS;have hTw := Hd hT;have hs1H := Hd hs1;have hpl := Hd hp.len;have ihH := Hd ih
    have hszy : Hid (∀ y ∈ kz, SizeOf.sizeOf y <= kk) := Hd fun y hy => by
      have h2 := List.sizeOf_lt_of_mem hy;rw [Nd.mk.sizeOf_spec] at hkk;omega
    have l1 := hA.le;have l2 := hA.max;have l3 := hK.le;have l4 := hK.max;have hlib : li <= 2000 := by have := Xp.wA_len as_; omega
    have hlkb : lk <= 2000 := by have := wL_len kz; omega
    have hatb : at_ <= 8000000 := (by omega);clear hkk hl hn hn0 hX hp hnf hwt hmay hw hnp hat hph hTD hA hK hXA hXK hli hlk hS1 hS2 hPS hWN hWE hb1 hb2 hk1 ih
    go_enter Tryz.func31, Tryz.ntmps31
    go_wp2_with fail;clear hw1 hw2 hT hs1 t0 t1 t2
    go_loopw [13, 14] (fun v vi wr => ∃ (k : Nat) (Ao : Option Addr) (co : Nat), k <= li /\ vi = .int .i64 (k : Nat) /\ v = .slice Ao (k + 1) co /\ Hid (OwS QEl 6 wr w1.heap.size 41 (.slice Ao (k + 1) co) (⟨kd, nm, tx, (pa : Nat), 0, path⟩ :: attrRows at_ path (at_ + 1) (as_.take k))) /\ Hid (Below w1.heap.size w1 wr)) (fun _ vi _ => li - (intOf vi).toNat)
    case atStart => exact ⟨0, _, _, by omega, rfl, rfl, ho2, hb12⟩
    case round =>
      obtain ⟨k, Ao, co, hk, rfl, rfl, how, hb⟩ := hrel;clear ho2 hb12;obtain ⟨hkT, hlx, hpx, hnx, hAx, hKx, hXx⟩ := hall.out wr hb.out
      by_cases hlt : k < li
      · have i1 : decide ((k : Int) < (li : Int)) = true := by rw [decide_eq_true_eq]; omega
        have i2 : decide (k < li) = true := by rw [decide_eq_true_eq]; omega
        have i3 : (k : Int) < (li : Int) := (by omega);have t3 := Xp.cell_blk hkT (i := 3) rfl;obtain ⟨b, off, y, ys, eA, hbl, hy, hys, rfl, hcs⟩ := hAx.at_ hlt;subst eA;obtain ⟨y1, y2⟩ := y;have m0 : wr.cell? ⟨b, off + k * 2, none⟩ = some (.string (strOf y1)) := hcs 0 _ rfl;have m1 : wr.cell? ⟨b, off + k * 2 + 1, none⟩ = some (.string (strOf y2)) := hcs 1 _ rfl;have hya : y1.length <= wA as_ := by have := Xp.wA_mem (List.mem_of_getElem? hy); simp only at this; omega
        have a1 := fun w => add_txt w path [47, 64] (by have := hphH.out; simp; omega)
        have a2 := fun w => add_txt w (path ++ [47, 64]) y1 (by have := hphH.out; have := hWEH.out; have := hwH.out; simp; omega)
        rw [show strOf [47, 64] = (⟨#[47, 64]⟩ : ByteArray) from rfl] at a1
        have hrows : Hid (attrRows at_ path (at_ + 1) (as_.take (k + 1)) = attrRows at_ path (at_ + 1) (as_.take k) ++ [⟨5, y1, y2, (at_ : Nat), at_ + (k + 1) + 1, path ++ 47 :: 64 :: y1⟩]) := Hd (by
          rw [take_snoc hy, attrRows_snoc];have h9 : (as_.take k).length = k := by rw [List.length_take, hliH.out]; omega
          rw [h9]
          congr 3
          omega)
        have hp3 : Hid (strOf (path ++ [47, 64] ++ y1) = strOf (path ++ 47 :: 64 :: y1)) := Hd (by simp)
        have hrl : Hid ((⟨kd, nm, tx, (pa : Nat), 0, path⟩ :: attrRows at_ path (at_ + 1) (as_.take k) : List Q).length = k + 1) := Hd (by
          rw [List.length_cons, attrRows_len, List.length_take, hliH.out]
          omega)
        obtain ⟨U1, hU1⟩ : ∃ S, strOf y1 = S := ⟨_, rfl⟩;obtain ⟨U2, hU2⟩ : ∃ S, strOf y2 = S := ⟨_, rfl⟩;obtain ⟨P1, hP1⟩ : ∃ S, strOf (path ++ [47, 64]) = S := ⟨_, rfl⟩;obtain ⟨P2, hP2⟩ : ∃ S, strOf (path ++ [47, 64] ++ y1) = S := ⟨_, rfl⟩;rw [hPSH.out, hP1] at a1;rw [hP1, hU1, hP2] at a2;rw [hU1] at m0;rw [hU2] at m1;rw [hP2] at hp3;have hU1H := Hd hU1;have hU2H := Hd hU2;have hTl : Hid (T < wr.heap.size) := Hd (Array.getElem?_eq_some_iff.1 hkT).1;have hblH := Hd hbl;have t3' : wr.drew.cell? ⟨T, 3, none⟩ = some (.slice (some ⟨b, off, none⟩) li ci) := t3;clear hcs hys hbl hy hya hkT hlx hpx hnx hAx hKx hXx hU1 hU2 hP1 hP2;go_wp2_with fail;refine Pl.wp_region_plan 30 (.take 0 (.take 1 (.take 2 (.take 3 (.take 4 (.take 5 (.take 6 (.take 7 (.take 8 (.take 9 (.take 10 (.take 11 (.take 12 (.take 13 (.take 14 (.take 15 (.take 16 (.take 17 (.take 18 (.take 19 (.take 20 (.take 21 (.take 22 (.take 23 (.take 24 (.take 25 (.take 26 (.take 27 (.take 28 (.run 29 .done)))))))))))))))))))))))))))))) (fun x => x.cell? ⟨T, 3, none⟩ = some (.slice (some ⟨b, off, none⟩) li ci) /\ x.cell? ⟨b, off + k * 2, none⟩ = some (.string U1) /\ x.cell? ⟨b, off + k * 2 + 1, none⟩ = some (.string U2)) (by kernel_rfl) (by kernel_rfl) (by exact ⟨t3, m0, m1⟩) ?_;simp only [Pl.fill, Al_4, Al_5, Al_6, Al_7]
        iterate 29
          first
          | (refine Pl.take_go ?_ (by rfl) (fun _ _ _ h => h) ?_ ?_
             rotate_left
             · (intro x hSw; (try (dsimp only at hSw)); go_simp; try with_reducible rfl)
             (try simp only [Act.put, Al_1, Al_2, Al_3]))
          | (refine Pl.take_skip (by rfl) (fun _ _ _ h => h) ?_
             (try simp only [Act.put, Al_1, Al_2, Al_3]))
        refine Pl.run_go (fun K hK => ?_);go_simp;have hbl3 : Below wr.heap.size wr (wr.drew.alloc (.cells #[.int .i64 5, .string U1, .string U2, .int .i64 (at_ : Nat), .int .i64 (at_ + (k + 1) + 1), .string P2] 41)) := (show Below wr.heap.size wr wr.drew from Joins.below_draws wr.heap.size wr 1).trans (below_alloc wr.drew _);have hwa : IntKind.i64.wrap ((at_ : Int) + ((k : Int) + 1)) = (at_ : Int) + ((k : Int) + 1) := wrap_id (by omega) (by omega);have hwb : IntKind.i64.wrap ((at_ : Int) + ((k : Int) + 1) + 1) = (at_ : Int) + ((k : Int) + 1) + 1 := wrap_id (by omega) (by omega);simp only [hwa, hwb]
        have hz : Hid (Sq QEl 6 (wr.drew.alloc (.cells #[.int .i64 5, .string U1, .string U2, .int .i64 (at_ : Nat), .int .i64 (at_ + (k + 1) + 1), .string P2] 41)) (some ⟨wr.drew.heap.size, 0, none⟩) 1 1 [(⟨5, y1, y2, (at_ : Nat), at_ + (k + 1) + 1, path ++ 47 :: 64 :: y1⟩ : Q)]) := Hd (sq_one (El := QEl) (k := 6) wr.drew [.int .i64 5, .string U1, .string U2, .int .i64 (at_ : Nat), .int .i64 (at_ + (k + 1) + 1), .string P2] ⟨5, y1, y2, (at_ : Nat), at_ + (k + 1) + 1, path ++ 47 :: 64 :: y1⟩ 41 (0, 0) rfl (by
          show ([.int .i64 5, .string U1, .string U2, .int .i64 (at_ : Nat), .int .i64 (at_ + (k + 1) + 1), .string P2] : List Value) = [.int .i64 5, .string (strOf y1), .string (strOf y2), .int .i64 (at_ : Nat), .int .i64 ((at_ + (k + 1) + 1 : Nat)), .string (strOf (path ++ 47 :: 64 :: y1))]
          rw [hU1H.out, hU2H.out, <- hp3.out]
          rfl))
        have how3 := Hd (how.out.below hbl3 QEl.to);have hb3 := Hd (hb.out.trans (hbl3.mono hb.out.size));have c3 := (hbl3.cell (p := ⟨T, 3, none⟩) hTl.out).trans t3;have c0 := (hbl3.cell (p := ⟨b, off + k * 2, none⟩) hblH.out).trans m0;have c1 := (hbl3.cell (p := ⟨b, off + k * 2 + 1, none⟩) hblH.out).trans m1;clear hbl3;refine hK.out _ _ (Pl.more_go _ (fun _ h => h) (by exact ⟨c3, c0, c1⟩) ?_);clear hK K hwa hwb
        try simp only [Act.put, Al_1, Al_2, Al_3]
        refine Pl.done_go ?_;clear t3 t3' m0 m1 c3 c0 c1
        go_wp2_with (at_builtin; apply stop_here)
        refine Stop.go (append_sq (El := QEl) (k := 6) _ 30 41 (.agg #[.int .i64 0, .string ⟨#[]⟩, .string ⟨#[]⟩, .int .i64 0, .int .i64 0, .string ⟨#[]⟩]) 72 Tryz.underlying30 info_q rfl (by omega) rfl _ _ rfl w1.heap.size (.slice Ao (k + 1) co) _ rfl how3.out _ 1 1 [(⟨5, y1, y2, (at_ : Nat), at_ + (k + 1) + 1, path ++ 47 :: 64 :: y1⟩ : Q)] rfl hz.out QEl.one (fun _ _ => QEl.to) (k + 1 + 1) (by rw [hrl.out]) (by omega) (by omega) hb3.out.size ?_);intro A8 c8 x8 ho8 hg8 hb8 hv8;have ho9 : Hid (OwS QEl 6 x8 w1.heap.size 41 (.slice A8 (k + 1 + 1) c8) (⟨kd, nm, tx, (pa : Nat), 0, path⟩ :: attrRows at_ path (at_ + 1) (as_.take (k + 1)))) := Hd (by rw [hrows.out]; exact ho8);have hb9 := Hd (hb3.out.trans hb8);clear ho8 hg8 hb8 hv8 how3 hz;go_wp2_with fail;go_roundw
        case rel => exact ⟨k + 1, A8, c8, by omega, by go_num, rfl, ho9, hb9⟩
        case measure => simp [intOf]; omega
      · have i1 : decide ((k : Int) < (li : Int)) = false := by rw [decide_eq_false_iff_not]; omega
        have i2 : decide (k < li) = false := by rw [decide_eq_false_iff_not]; omega
        have e1 : li = k := (by omega);subst e1;have t3 := Xp.cell_blk hkT (i := 3) rfl
        have how1 : Hid (OwS QEl 6 wr w1.heap.size 41 (.slice Ao (li + 1) co) (⟨kd, nm, tx, (pa : Nat), 0, path⟩ :: attrRows at_ path (at_ + 1) as_)) := Hd (by
          have h1 := how.out;rw [List.take_of_length_le (by rw [hliH.out]; exact Nat.le_refl _)] at h1
          exact h1)
        obtain ⟨KB, hKB⟩ : ∃ KB, (decide (names ≠ []) && !Ky.frontB l names) = KB := ⟨_, rfl⟩;have hKBH := Hd hKB;obtain ⟨wx, hwx⟩ : ∃ z, z = wr := ⟨_, rfl⟩;subst hwx;clear how hlx hpx hnx hAx hKx hXx hkT hKB
        go_upto_region 7 with fail
        go_cut [16] (fun v16 wy => v16 = .bool KB /\ Hid (Below wx.heap.size wx wy))
        case first =>
          by_cases h0 : np = 0
          · subst h0
            have hn0 : names = [] := List.length_eq_zero_iff.1 hpl.out;have hk0 : Hid (KB = false) := Hd (by rw [<- hKBH.out, hn0]; rfl);clear hn0;go_wp2_with fail
            go_meet
            exact ⟨by rw [hk0.out], Hd (Below.refl _ _)⟩
          · have hn0 : names ≠ [] := fun e => h0 (by rw [<- hpl.out, e]; rfl)
            have g1 : decide ((np : Int) > 0) = true := by rw [decide_eq_true_eq]; omega
            have g2 : decide ((0 : Int) < (np : Int)) = true := by rw [decide_eq_true_eq]; omega
            have g3 : decide (0 < np) = true := by rw [decide_eq_true_eq]; omega
            have hk0 : Hid (KB = !Ky.frontB l names) := Hd (by rw [<- hKBH.out, decide_eq_true hn0]; rfl);have hfr := Hd (Ky.refFront_any Al nl cl l Ap np cp names wx (hall.out wx hb.out).2.1 (hall.out wx hb.out).2.2.1);obtain ⟨FB, hFB⟩ : ∃ FB, Ky.frontB l names = FB := ⟨_, rfl⟩;rw [hFB] at hfr hk0;clear hn0 hFB h0;go_wp2_with fail;refine hfr.out.mono ?_;rintro e w3 ⟨rfl, q3, hq3⟩;have hb3 : Hid (Below wx.heap.size wx w3) := Hd (by rw [hq3]; exact Joins.below_draws _ _ _);clear hq3;go_wp2_with fail
            go_meet
            exact ⟨by rw [hk0.out], hb3⟩
        case rest =>
          obtain ⟨rfl, hbc⟩ := hcut;obtain ⟨wd, hwd⟩ : ∃ z, z = wc := ⟨_, rfl⟩;subst hwd;have hbw := Hd (hb.out.trans (hbc.out.mono hb.out.size));clear t3
          go_upto_if 77 with fail
          go_cut [15] (fun v15 wy => ∃ (m : Nat) (As : Option Addr) (cs : Nat), v15 = .slice As m cs /\ Hid (KB = true -> ∀ x, wy.heap.size <= x.heap.size -> (∀ q, wd.heap.size <= q -> q < wy.heap.size -> x.heap[q]? = wy.heap[q]?) -> Sq (fun w vs s => ∃ A c, vs = [.string (strOf s.1), .slice A s.2.length c] /\ Ts w A s.2.length c s.2) 2 x As m cs (kz.map (stepK l names))) /\ Hid (Below wd.heap.size wd wy))
          case first =>
            cases KB with
            | false =>
              go_wp2_with fail
              go_meet
              exact ⟨0, none, 0, rfl, Hd (fun h => by cases h), Hd (Below.refl _ _)⟩
            | true =>
              have hn0 : names ≠ [] := fun e => by have := hKBH.out; rw [e] at this; simp at this
              have hfr : Ky.frontB l names = false := by
                have := hKBH.out;rw [decide_eq_true hn0, Bool.true_and] at this
                simpa using this
              have hnfl : nfL l names kz := by
                have h1 := hnfH.out hn0;unfold nfN at h1;exact (h1.2 hfr).1
              obtain ⟨hkT, hlx, hpx, hnx, hAx, hKx, hXx⟩ := hall.out wd hbw.out;obtain ⟨t0, t1, t2, t3, t4⟩ := cells_of5 hkT;have hrS := rls_of hwtH.out;have hst := Hd (rSteps_any X wd Al nl cl l Ap np cp names [.int .i64 kd, .string S1, .string S2, .slice Ai li ci, .slice Ak lk ck] (.mk kd nm tx as_ kz) hlx hpx hnx hXx (by have := hwH.out; have := hWEH.out; rw [wN]; omega) (hrS.ok hmayH.out) (by have := hnpH.out; omega));have hsa : Hid (stepsR l names (Nd.mk kd nm tx as_ kz).kids = kz.map (stepK l names)) := Hd (steps_all hnfl);clear hn0 hfr hnfl hkT hlx hpx hnx hAx hKx hXx hrS;go_wp2_with fail;refine hst.out.mono ?_;rintro e w3 ⟨A3, m3, c3, rfl, ho3, hb3⟩;rw [hsa.out] at ho3
              have hsq : Hid (true = true -> ∀ x, w3.heap.size <= x.heap.size -> (∀ q, wd.heap.size <= q -> q < w3.heap.size -> x.heap[q]? = w3.heap[q]?) -> Sq (fun w vs s => ∃ A c, vs = [.string (strOf s.1), .slice A s.2.length c] /\ Ts w A s.2.length c s.2) 2 x A3 m3 c3 (kz.map (stepK l names))) := Hd fun _ x hx1 hx2 => by
                have h1 := (ho3.same elt_st (fun q hq => by rcases hq with hq | hq; exact absurd hq (Nat.not_lt_zero _); exact hx2 q hq.1 hq.2) hx1).1.sq' (by omega);exact Xt.Sq.mono_ h1 fun vs y hy => by obtain ⟨A, c, e1, e2, _⟩ := hy; exact ⟨A, c, e1, e2⟩
              have hb3H := Hd hb3;clear ho3 hb3 hst t0 t1 t2 t3 t4;go_wp2_with fail
              go_meet
              exact ⟨m3, A3, c3, rfl, hsq, hb3H⟩
          case rest =>
            obtain ⟨ms, As, cs, rfl, hsq, hbc2⟩ := hcut;have hbw2 := Hd (hbw.out.trans (hbc2.out.mono hbw.out.size))
            have how2 : Hid (OwS QEl 6 wc w1.heap.size 41 (.slice Ao (li + 1) co) ((⟨kd, nm, tx, (pa : Nat), 0, path⟩ : Q) :: (attrRows at_ path (at_ + 1) as_ ++ tabL l names KB (at_ + 1 + li) at_ path 0 (kz.take 0)))) := Hd (by
              have h1 := (how1.out.below hbc.out QEl.to).below hbc2.out QEl.to;rw [List.take_zero];unfold tabL;rw [List.append_nil]
              exact h1)
            have hl2 : Hid (((⟨kd, nm, tx, (pa : Nat), 0, path⟩ : Q) :: (attrRows at_ path (at_ + 1) as_ ++ tabL l names KB (at_ + 1 + li) at_ path 0 (kz.take 0))).length = li + 1) := Hd (by
              rw [List.take_zero];unfold tabL
              rw [List.append_nil, List.length_cons, attrRows_len, hliH.out])
            obtain ⟨we, hwe⟩ : ∃ z, z = wc := ⟨_, rfl⟩;subst hwe;go_wp2_with fail
            go_loopw [13, 17] (fun v vi wr => ∃ (k m : Nat) (Ao : Option Addr) (co : Nat), k <= lk /\ vi = .int .i64 (k : Nat) /\ v = .slice Ao m co /\ Hid (((⟨kd, nm, tx, (pa : Nat), 0, path⟩ : Q) :: (attrRows at_ path (at_ + 1) as_ ++ tabL l names KB (at_ + 1 + li) at_ path 0 (kz.take k))).length = m) /\ Hid (OwS QEl 6 wr w1.heap.size 41 (.slice Ao m co) ((⟨kd, nm, tx, (pa : Nat), 0, path⟩ : Q) :: (attrRows at_ path (at_ + 1) as_ ++ tabL l names KB (at_ + 1 + li) at_ path 0 (kz.take k)))) /\ Hid (Below w1.heap.size w1 wr) /\ Hid (we.heap.size <= wr.heap.size /\ ∀ q, wd.heap.size <= q -> q < we.heap.size -> wr.heap[q]? = we.heap[q]? /\ (Value.slice Ao m co).ownBlock ≠ some q)) (fun _ vi _ => lk - (intOf vi).toNat)
            case atStart => exact ⟨0, li + 1, _, _, by omega, rfl, rfl, hl2, how2, hbw2, Hd ⟨Nat.le_refl _, fun q hq1 _ => ⟨rfl, fun e => by have := (how1.out.lt q e).2; have := hbc.out.size; omega⟩⟩⟩
            case round =>
              clear how1;obtain ⟨k, m, Ao, co, hk, rfl, rfl, hml, how, hbz, hwez⟩ := hrel;clear hl2 how2;obtain ⟨wz, hwz⟩ : ∃ z, z = wr := ⟨_, rfl⟩;subst hwz
              have hmb : Hid (m + wL (kz.drop k) <= WN) := Hd (by
                have h1 := hml.out;rw [List.length_cons, List.length_append, attrRows_len] at h1;have h2 := tabL_w l (kz.take k) names KB (at_ + 1 + li) at_ path 0;have h3 := Xp.wA_len as_;have h4 : wL (kz.take k) + wL (kz.drop k) = wL kz := (by rw [<- wL_append, List.take_append_drop]);have := hWEH.out
                omega)
              have hm12 : m <= 1200 := by have := hmb.out; have := hwH.out; omega
              by_cases hlt : k < lk
              · have i1 : decide ((k : Int) < (lk : Int)) = true := by rw [decide_eq_true_eq]; omega
                have i2 : decide (k < lk) = true := by rw [decide_eq_true_eq]; omega
                have i3 : (k : Int) < (lk : Int) := (by omega);obtain ⟨hkT, hlx, hpx, hnx, hAx, hKx, hXx⟩ := hall.out wz hbz.out;have t4 := Xp.cell_blk hkT (i := 4) rfl;have hTl : T < wz.heap.size := (Array.getElem?_eq_some_iff.1 hkT).1;obtain ⟨b, off, y, ys, eA, hbl, hy, hys, hel, hcs⟩ := hKx.at_ hlt;subst eA;obtain ⟨kd2, nm2, tx2, as2, kz2, ey⟩ : ∃ kd nm tx as_ kz, y = Nd.mk kd nm tx as_ kz := by cases y; exact ⟨_, _, _, _, _, rfl⟩
                have hel0 := Hd hel;rw [ey] at hel;obtain ⟨Aa2, ca2, Ak2, ck2, rfl, _⟩ := hel.cells;obtain ⟨la2, hla2⟩ : ∃ la, as2.length = la := ⟨_, rfl⟩;obtain ⟨lk2, hlk2⟩ : ∃ lk, kz2.length = lk := ⟨_, rfl⟩;obtain ⟨U1, hU1⟩ : ∃ S, strOf nm2 = S := ⟨_, rfl⟩;obtain ⟨U2, hU2⟩ : ∃ S, strOf tx2 = S := ⟨_, rfl⟩;rw [hla2, hlk2, hU1, hU2] at hel0;have m0 : wz.cell? ⟨b, off + k * 5, none⟩ = some (.int .i64 kd2) := hcs 0 _ rfl;have m1 : wz.cell? ⟨b, off + k * 5 + 1, none⟩ = some (.string U1) := by rw [<- hU1]; exact hcs 1 _ rfl
                have m2 : wz.cell? ⟨b, off + k * 5 + 2, none⟩ = some (.string U2) := by rw [<- hU2]; exact hcs 2 _ rfl
                have m3 : wz.cell? ⟨b, off + k * 5 + 3, none⟩ = some (.slice Aa2 la2 ca2) := by rw [<- hla2]; exact hcs 3 _ rfl
                have m4 : wz.cell? ⟨b, off + k * 5 + 4, none⟩ = some (.slice Ak2 lk2 ck2) := by rw [<- hlk2]; exact hcs 4 _ rfl
                have hblH := Hd hbl;have hy' := Hd hy;have eyH := Hd ey;have hU1H := Hd hU1;have hU2H := Hd hU2;clear hcs hys hel hy hbl hU1 hU2 hla2 hlk2 ey;have hXz := Hd hXx
                have hkc : Hid (∀ x, Below wz.heap.size wz x -> x.cell? ⟨T, 4, none⟩ = some (.slice (some ⟨b, off, none⟩) lk ck) /\ x.cell? ⟨b, off + k * 5, none⟩ = some (.int .i64 kd2) /\ x.cell? ⟨b, off + k * 5 + 1, none⟩ = some (.string U1) /\ x.cell? ⟨b, off + k * 5 + 2, none⟩ = some (.string U2) /\ x.cell? ⟨b, off + k * 5 + 3, none⟩ = some (.slice Aa2 la2 ca2) /\ x.cell? ⟨b, off + k * 5 + 4, none⟩ = some (.slice Ak2 lk2 ck2)) := Hd fun x hx =>
                  ⟨(hx.cell (p := ⟨T, 4, none⟩) hTl).trans t4, (hx.cell (p := ⟨b, off + k * 5, none⟩) hblH.out).trans m0, (hx.cell (p := ⟨b, off + k * 5 + 1, none⟩) hblH.out).trans m1, (hx.cell (p := ⟨b, off + k * 5 + 2, none⟩) hblH.out).trans m2, (hx.cell (p := ⟨b, off + k * 5 + 3, none⟩) hblH.out).trans m3, (hx.cell (p := ⟨b, off + k * 5 + 4, none⟩) hblH.out).trans m4⟩
                have hymH := Hd (List.mem_of_getElem? hy'.out);have hwy : Hid (wN y <= wL (kz.drop k) /\ wN y <= wL kz /\ 1 <= wN y) := Hd ⟨by rw [drop_at hy'.out, wL]; omega, wL_mem hymH.out, by rw [eyH.out, wN]; omega⟩;have hdl := dec_len (k + 1) (by omega);have hit := Er.ref_Itoa_pos (k + 1) (by omega) (by omega) wz;rw [show (((k + 1 : Nat)) : Int) = (k : Int) + 1 by omega] at hit;have a1 := fun w => add_txt w path [47, 35] (by have := hphH.out; simp; omega)
                have a2 := fun w => add_txt w (path ++ [47, 35]) (Lib.decDigits (k + 1)) (by have := hphH.out; simp; omega)
                rw [show strOf [47, 35] = (⟨#[47, 35]⟩ : ByteArray) from rfl] at a1;obtain ⟨PA, hPA⟩ : ∃ S, strOf (path ++ [47, 35]) = S := ⟨_, rfl⟩;obtain ⟨PB, hPB⟩ : ∃ S, strOf (path ++ [47, 35] ++ Lib.decDigits (k + 1)) = S := ⟨_, rfl⟩;obtain ⟨DS, hDS⟩ : ∃ S, strOf (Lib.decDigits (k + 1)) = S := ⟨_, rfl⟩;rw [hPSH.out, hPA] at a1;rw [hPA, hDS, hPB] at a2;rw [hDS] at hit;have hitH := Hd hit;have hPBe : Hid (strOf (path ++ 47 :: 35 :: Lib.decDigits (k + 1)) = PB) := Hd (by rw [<- hPB]; simp);have hpx0 := Hd hpx;have hTlH := Hd hTl;have hdlH := Hd hdl;clear hkT hlx hnx hAx hKx hXx hit hPA hPB hDS m0 m1 m2 m3 m4 hpx t4 hTl hdl;obtain ⟨t4, m0, m1, m2, m3, m4⟩ := hkc.out wz (Below.refl _ _);go_wp2_with fail;refine hitH.out.mono ?_;rintro e w4 ⟨rfl, hb4⟩;have hb4H := Hd hb4;clear hb4 t4 m0 m1 m2 m3 m4
                cases KB with
                | false =>
                  have hP2S : Hid (strOf (path ++ 47 :: 35 :: Lib.decDigits (k + 1)) = PB) := hPBe;have hp2l : Hid ((path ++ 47 :: 35 :: Lib.decDigits (k + 1)).length <= path.length + 90000001) := Hd (by have := hdlH.out; simp; omega)
                  have hcall := ihH.out y (hszy.out y hymH.out) X w4 Al nl cl l [.int .i64 kd2, .string U1, .string U2, .slice Aa2 la2 ca2, .slice Ak2 lk2 ck2] (at_ + m) at_ (path ++ 47 :: 35 :: Lib.decDigits (k + 1)) none 0 0 [] (hall.out w4 (hbz.out.trans (hb4H.out.mono hbz.out.size))).2.1 ((hel0.out.later hXz.out hb4H.out)) (fun j hj => Nat.lt_of_lt_of_le (hXz.out j hj) hb4H.out.size) (Ts.nil _) (fun h => absurd rfl h) hwtH.out hmayH.out (by have := hwy.out; have := hWEH.out; have := hwH.out; omega) (by have := hwy.out; have := hWEH.out; have := hwH.out; omega) (by have := hwy.out; have := hWEH.out; have := hatH.out; have := hmb.out; have := hwH.out; omega) (by
                    have h1 := hwy.out;have h2 := hWEH.out;have h3 := hphH.out;have h4 := hp2l.out
                    omega)
                  rw [show ((at_ + m : Nat) : Int) = (at_ : Int) + (m : Int) by omega, hP2S.out] at hcall;have hcallH := Hd hcall;obtain ⟨z4, z0, z1, z2, z3, z5⟩ := hkc.out w4 hb4H.out;clear hcall;go_wp2_with fail;refine hcallH.out.mono ?_;rintro e wq ⟨A6, m6, c6, rfl, ho6, hb6⟩;have hbq : Hid (Below wz.heap.size wz wq) := Hd (hb4H.out.trans (hb6.mono hb4H.out.size));have howq := Hd (how.out.below hbq.out QEl.to);have hsq6 := Hd (ho6.sq' (by omega))
                  have hm6 : m6 <= 1200 := by
                    have h1 := hsq6.out.len;have h2 := tabN_w l y [] (at_ + m) at_ (path ++ 47 :: 35 :: Lib.decDigits (k + 1));have h3 := hwy.out;have h4 := hWEH.out;have h5 := hwH.out;omega
                  have hbq1 := Hd (hbz.out.trans (hbq.out.mono hbz.out.size))
                  have hsn : Hid (((⟨kd, nm, tx, (pa : Nat), 0, path⟩ : Q) :: (attrRows at_ path (at_ + 1) as_ ++ tabL l names false (at_ + 1 + li) at_ path 0 (kz.take (k + 1)))) = ((⟨kd, nm, tx, (pa : Nat), 0, path⟩ : Q) :: (attrRows at_ path (at_ + 1) as_ ++ tabL l names false (at_ + 1 + li) at_ path 0 (kz.take k))) ++ tabN l [] (at_ + m) at_ (path ++ 47 :: 35 :: Lib.decDigits (k + 1)) y) := Hd (by
                    rw [take_snoc hy'.out, tabL_snoc];have h9 : (kz.take k).length = k := by rw [List.length_take, hlkH.out]; omega
                    have h10 : at_ + 1 + li + (tabL l names false (at_ + 1 + li) at_ path 0 (kz.take k)).length = at_ + m := by
                      have h1 := hml.out;rw [List.length_cons, List.length_append, attrRows_len, hliH.out] at h1;omega
                    rw [h9, h10];rw [if_neg (by decide), if_neg (by decide), Nat.zero_add]
                    rw [List.cons_append, List.append_assoc])
                  clear ho6 hb6 z4 z0 z1 z2 z3 z5 hcallH
                  go_wp2_with (at_builtin; apply stop_here)
                  refine Stop.go (append_sq (El := QEl) (k := 6) _ 30 41 (.agg #[.int .i64 0, .string ⟨#[]⟩, .string ⟨#[]⟩, .int .i64 0, .int .i64 0, .string ⟨#[]⟩]) 72 Tryz.underlying30 info_q rfl (by omega) rfl _ _ rfl w1.heap.size (.slice Ao m co) _ rfl howq.out _ m6 c6 _ rfl hsq6.out QEl.one (fun _ _ => QEl.to) (m + m6) (by rw [hml.out]) (by omega) (by omega) hbq1.out.size ?_);intro A8 c8 x8 ho8 hg8 hb8 hv8;have ho9 : Hid (OwS QEl 6 x8 w1.heap.size 41 (.slice A8 (m + m6) c8) ((⟨kd, nm, tx, (pa : Nat), 0, path⟩ : Q) :: (attrRows at_ path (at_ + 1) as_ ++ tabL l names false (at_ + 1 + li) at_ path 0 (kz.take (k + 1))))) := Hd (by rw [hsn.out]; exact ho8);have hl9 : Hid (((⟨kd, nm, tx, (pa : Nat), 0, path⟩ : Q) :: (attrRows at_ path (at_ + 1) as_ ++ tabL l names false (at_ + 1 + li) at_ path 0 (kz.take (k + 1)))).length = m + m6) := Hd (by rw [hsn.out, List.length_append, hml.out, hsq6.out.len]);have hb9 := Hd (hbq1.out.trans hb8)
                  have hwe9 : Hid (we.heap.size <= x8.heap.size /\ ∀ q, wd.heap.size <= q -> q < we.heap.size -> x8.heap[q]? = we.heap[q]? /\ (Value.slice A8 (m + m6) c8).ownBlock ≠ some q) := Hd ⟨Nat.le_trans hwez.out.1 (Nat.le_trans hbq.out.size hg8.size), fun q hq1 hq2 => by
                    have g1 := hwez.out.2 q hq1 hq2;have g2 := hbq.out.block q (Nat.lt_of_lt_of_le hq2 hwez.out.1);have g3 := hg8.block q (Nat.lt_of_lt_of_le hq2 (Nat.le_trans hwez.out.1 hbq.out.size)) (fun e => g1.2 e.symm);refine ⟨g3.trans (g2.trans g1.1), fun e => ?_⟩;rcases hv8 with e9 | e9
                    · exact g1.2 (by rw [<- e9]; exact e)
                    · rw [e9] at e
                      injection e with e;have := Nat.le_trans hwez.out.1 hbq.out.size
                      omega⟩
                  clear ho8 hg8 hb8 hv8 howq hsq6;go_wp2_with fail;go_roundw
                  case rel => exact ⟨k + 1, m + m6, A8, c8, by omega, by go_num, rfl, hl9, ho9, hb9, hwe9⟩
                  case measure => simp [intOf]; omega
                | true =>
                  have hn0 : names ≠ [] := fun e => by have := hKBH.out; rw [e] at this; simp at this
                  have hfr : Ky.frontB l names = false := by
                    have := hKBH.out;rw [decide_eq_true hn0, Bool.true_and] at this
                    simpa using this
                  have hny0 : (∃ r, ruleOf l (names ++ [y.name]) = some r /\ ∃ key, keyR y r.2 = some key) /\ nfN l (names ++ [y.name]) y := by
                    have h1 := hnfH.out hn0;unfold nfN at h1;exact nfL_iff.1 (h1.2 hfr).1 y hymH.out
                  obtain ⟨⟨r2, hr2, key2, hk2⟩, hny⟩ := hny0;have hyn : y.name = nm2 := by rw [eyH.out]; rfl
                  have hstp : stepK l names y = (nm2, key2) := by
                    unfold stepK;rw [hr2];simp only [hk2, Option.getD_some, hyn]
                  have hnyH : Hid (nfN l (names ++ [nm2]) y) := Hd (by rw [<- hyn]; exact hny)
                  have hkb : key2.length <= 3000 /\ ∀ z ∈ key2, z.length <= 12000 := by
                    refine ⟨?_, fun z hz => ?_⟩
                    · rw [keyR_len hk2]
                      have h1 := Ky.wts_le (rule_mem hr2).1;have h2 := hwtH.out;unfold Ky.wt at h1;omega
                    · have h1 := keyR_vals hk2 z hz
                      have h2 := hwy.out;have h3 := hWEH.out;have h4 := hwH.out;omega
                  have hnm2 : nm2.length <= 2000 := by
                    have h1 := hwy.out;have h2 := hWEH.out;have h3 := hwH.out;have h4 : wN y = wN (Nd.mk kd2 nm2 tx2 as2 kz2) := (by rw [eyH.out]);rw [wN] at h4;omega
                  have hel := endS_len hnm2 hkb.1 hkb.2;have hms : lk = ms := by rw [<- (hsq.out rfl we (Nat.le_refl _) (fun _ _ _ => rfl)).len, List.length_map]; exact hlkH.out.symm
                  obtain ⟨bs, os, s9, vs9, eAs, hbls, hs9, _, hel9, hcs9⟩ := (hsq.out rfl w4 (Nat.le_trans hwez.out.1 hb4H.out.size) (fun q hq1 hq2 => (hb4H.out.block q (Nat.lt_of_lt_of_le hq2 hwez.out.1)).trans (hwez.out.2 q hq1 hq2).1)).at_ (show k < ms by omega);subst eAs;rw [List.getElem?_map, hy'.out] at hs9;injection hs9 with hs9;subst hs9;obtain ⟨A9, c9, rfl, hts9⟩ := hel9;rw [hstp] at hts9 hcs9;obtain ⟨nk, hnk⟩ : ∃ nk, key2.length = nk := ⟨_, rfl⟩;have y0 : w4.cell? ⟨bs, os + k * 2, none⟩ = some (.string U1) := by rw [<- hU1H.out]; exact hcs9 0 _ rfl
                  have y1 : w4.cell? ⟨bs, os + k * 2 + 1, none⟩ = some (.slice A9 nk c9) := by rw [<- hnk]; exact hcs9 1 _ rfl
                  simp only at hts9;rw [hnk] at hts9;have hec := rend_any nm2 key2 A9 nk c9 w4 hts9 (by rw [<- hnk]; exact hkb.1) (by omega) hkb.2;have b1 := fun w => add_txt w path [47] (by have := hphH.out; simp; omega)
                  have b2 := fun w => add_txt w (path ++ [47]) (endS (nm2, key2)) (by have := hphH.out; simp; omega)
                  rw [show strOf [47] = (⟨#[47]⟩ : ByteArray) from rfl] at b1;obtain ⟨PC, hPC⟩ : ∃ S, strOf (path ++ [47]) = S := ⟨_, rfl⟩;obtain ⟨PD, hPD⟩ : ∃ S, strOf (path ++ [47] ++ endS (nm2, key2)) = S := ⟨_, rfl⟩;obtain ⟨ES, hES⟩ : ∃ S, strOf (endS (nm2, key2)) = S := ⟨_, rfl⟩;rw [hPSH.out, hPC] at b1;rw [hPC, hES, hPD] at b2;rw [hES, hU1H.out] at hec;have hecH := Hd hec;have hP2S : Hid (strOf (path ++ 47 :: endS (nm2, key2)) = PD) := Hd (by rw [<- hPD]; simp);have hp2l : Hid ((path ++ 47 :: endS (nm2, key2)).length <= path.length + 90000001) := Hd (by simp; omega);have hstpH := Hd hstp;have hl1 := (hsq.out rfl we (Nat.le_refl _) (fun _ _ _ => rfl)).le;have hl2 := (hsq.out rfl we (Nat.le_refl _) (fun _ _ _ => rfl)).max;have hynH := Hd hyn;clear hn0 hfr hny hyn hstp hr2 hk2 hkb hnm2 hel hbls hcs9 hts9 hnk hec hPC hPD hES;subst hms;go_wp2_with fail;refine hecH.out.mono ?_;rintro e w5 ⟨rfl, hb5⟩;have hb45 : Hid (Below wz.heap.size wz w5) := Hd (hb4H.out.trans (hb5.mono hb4H.out.size));obtain ⟨z4, z0, z1, z2, z3, z5⟩ := hkc.out w5 hb45.out;have hpx5 := Hd (hpx0.out.below hb45.out);have hcple := hpx5.out.le;have hcpmx := Rd.max hpx5.out;have hnpb : np + 1 <= 900000 := by have := hnpH.out; have := hwy.out; have := hWEH.out; omega
                  have hbl5 : Hid (b < w5.heap.size /\ T < w5.heap.size) := Hd ⟨Nat.lt_of_lt_of_le hblH.out hb45.out.size, Nat.lt_of_lt_of_le hTlH.out hb45.out.size⟩;clear hb5 hecH y0 y1;go_wp2_with fail;refine Pl.wp_region_plan 11 (.take 1 (.take 3 (.take 4 (.take 5 (.take 6 (.take 7 (.take 8 (.two 0 (.two 2 (.run 9 (.run 10 .done)) 9 (.run 2 (.run 10 .done))) 9 (.run 0 (.run 2 (.run 10 .done))))))))))) (fun x => x.cell? ⟨T, 4, none⟩ = some (.slice (some ⟨b, off, none⟩) lk ck) /\ x.cell? ⟨b, off + k * 5 + 1, none⟩ = some (.string U1)) (by kernel_rfl) (by kernel_rfl) (by exact ⟨z4, z1⟩) ?_;simp only [Pl.fill, Al_4, Al_5, Al_6, Al_7]
                  iterate 7
                    first
                    | (refine Pl.take_go ?_ (by rfl) (fun _ _ _ h => h) ?_ ?_
                       rotate_left
                       · (intro x hSw; (try (dsimp only at hSw)); go_simp; try with_reducible rfl)
                       (try simp only [Act.put, Al_1, Al_2, Al_3]))
                    | (refine Pl.take_skip (by rfl) (fun _ _ _ h => h) ?_
                       (try simp only [Act.put, Al_1, Al_2, Al_3]))
                  refine Pl.duo_go (El := TvEl) (k := 1) (z := .string ⟨#[]⟩) (by_ := 16) (T := w5.heap.size) (vs := [tv nm2]) (x0 := nm2) (la := names) (N1 := np + 1) (u := .string U1)
                    Tryz.underlying33 info_str rfl (by omega) (by omega) (fun _ _ _ _ _ h => h) (fun _ _ _ h u hu => by rw [show _ = [tv _] from h] at hu; rw [List.mem_singleton.1 hu]; rfl) ⟨rfl, rfl, rfl, rfl⟩ ⟨rfl, rfl, rfl, rfl⟩ rfl rfl rfl rfl ⟨slot_lt (n := 139) (by decide) rfl, slot_lt (n := 139) (by decide) rfl, slot_lt (n := 139) (by decide) rfl, slot_lt (n := 139) (by decide) rfl⟩ (by decide)
                    rfl (fun x hx => sq_of_ts (hpx5.out.below (bdrew hx))) rfl (by rw [<- hU1H.out]; rfl) rfl (fun x _ => rfl) rfl (by omega) (by omega) (Nat.le_refl _) (fun x hx => ⟨((bdrew hx).cell (p := ⟨T, 4, none⟩) hbl5.out.2).trans z4, ((bdrew hx).cell (p := ⟨b, off + k * 5 + 1, none⟩) hbl5.out.1).trans z1⟩) ?_
                  intro u0 u4 u9 A7 c7 x7 ho hx;have hts7 : Hid (Ts x7 A7 (np + 1) c7 (names ++ [nm2])) := Hd (owx_of_ows ho).rd;have hb7 : Hid (Below wz.heap.size wz x7) := Hd (hb45.out.trans ((bdrew hx).mono hb45.out.size));clear ho hx z4 z0 z1 z2 z3 z5
                  try simp only [Act.put, Al_1, Al_2, Al_3]
                  have hcall := ihH.out y (hszy.out y hymH.out) X x7 Al nl cl l [.int .i64 kd2, .string U1, .string U2, .slice Aa2 la2 ca2, .slice Ak2 lk2 ck2] (at_ + m) at_ (path ++ 47 :: endS (nm2, key2)) A7 (np + 1) c7 (names ++ [nm2]) (hall.out x7 (hbz.out.trans (hb7.out.mono hbz.out.size))).2.1 ((hel0.out.later hXz.out hb7.out)) (fun j hj => Nat.lt_of_lt_of_le (hXz.out j hj) hb7.out.size) hts7.out (fun _ => hnyH.out) hwtH.out hmayH.out (by have := hwy.out; have := hWEH.out; have := hwH.out; omega) (by have := hnpH.out; have := hwy.out; have := hWEH.out; omega) (by have := hwy.out; have := hWEH.out; have := hatH.out; have := hmb.out; have := hwH.out; omega) (by
                    have h1 := hwy.out;have h2 := hWEH.out;have h3 := hphH.out;have h4 := hp2l.out
                    omega)
                  rw [show ((at_ + m : Nat) : Int) = (at_ : Int) + (m : Int) by omega, hP2S.out] at hcall;have hcallH := Hd hcall;obtain ⟨z4, z0, z1, z2, z3, z5⟩ := hkc.out x7 hb7.out;clear hcall;go_wp2_with fail;refine hcallH.out.mono ?_;rintro e wq ⟨A6, m6, c6, rfl, ho6, hb6⟩;have hbq : Hid (Below wz.heap.size wz wq) := Hd (hb7.out.trans (hb6.mono hb7.out.size));have howq := Hd (how.out.below hbq.out QEl.to);have hsq6 := Hd (ho6.sq' (by omega))
                  have hm6 : m6 <= 1200 := by
                    have h1 := hsq6.out.len;have h2 := tabN_w l y (names ++ [nm2]) (at_ + m) at_ (path ++ 47 :: endS (nm2, key2));have h3 := hwy.out;have h4 := hWEH.out;have h5 := hwH.out;omega
                  have hbq1 := Hd (hbz.out.trans (hbq.out.mono hbz.out.size))
                  have hsn : Hid (((⟨kd, nm, tx, (pa : Nat), 0, path⟩ : Q) :: (attrRows at_ path (at_ + 1) as_ ++ tabL l names true (at_ + 1 + li) at_ path 0 (kz.take (k + 1)))) = ((⟨kd, nm, tx, (pa : Nat), 0, path⟩ : Q) :: (attrRows at_ path (at_ + 1) as_ ++ tabL l names true (at_ + 1 + li) at_ path 0 (kz.take k))) ++ tabN l (names ++ [nm2]) (at_ + m) at_ (path ++ 47 :: endS (nm2, key2)) y) := Hd (by
                    rw [take_snoc hy'.out, tabL_snoc];have h9 : (kz.take k).length = k := by rw [List.length_take, hlkH.out]; omega
                    have h10 : at_ + 1 + li + (tabL l names true (at_ + 1 + li) at_ path 0 (kz.take k)).length = at_ + m := by
                      have h1 := hml.out;rw [List.length_cons, List.length_append, attrRows_len, hliH.out] at h1;omega
                    rw [h9, h10];rw [if_pos rfl, if_pos rfl, hstpH.out, hynH.out]
                    rw [List.cons_append, List.append_assoc])
                  clear ho6 hb6 z4 z0 z1 z2 z3 z5 hcallH
                  go_wp2_with (at_builtin; apply stop_here)
                  refine Stop.go (append_sq (El := QEl) (k := 6) _ 30 41 (.agg #[.int .i64 0, .string ⟨#[]⟩, .string ⟨#[]⟩, .int .i64 0, .int .i64 0, .string ⟨#[]⟩]) 72 Tryz.underlying30 info_q rfl (by omega) rfl _ _ rfl w1.heap.size (.slice Ao m co) _ rfl howq.out _ m6 c6 _ rfl hsq6.out QEl.one (fun _ _ => QEl.to) (m + m6) (by rw [hml.out]) (by omega) (by omega) hbq1.out.size ?_);intro A8 c8 x8 ho8 hg8 hb8 hv8;have ho9 : Hid (OwS QEl 6 x8 w1.heap.size 41 (.slice A8 (m + m6) c8) ((⟨kd, nm, tx, (pa : Nat), 0, path⟩ : Q) :: (attrRows at_ path (at_ + 1) as_ ++ tabL l names true (at_ + 1 + li) at_ path 0 (kz.take (k + 1))))) := Hd (by rw [hsn.out]; exact ho8);have hl9 : Hid (((⟨kd, nm, tx, (pa : Nat), 0, path⟩ : Q) :: (attrRows at_ path (at_ + 1) as_ ++ tabL l names true (at_ + 1 + li) at_ path 0 (kz.take (k + 1)))).length = m + m6) := Hd (by rw [hsn.out, List.length_append, hml.out, hsq6.out.len]);have hb9 := Hd (hbq1.out.trans hb8)
                  have hwe9 : Hid (we.heap.size <= x8.heap.size /\ ∀ q, wd.heap.size <= q -> q < we.heap.size -> x8.heap[q]? = we.heap[q]? /\ (Value.slice A8 (m + m6) c8).ownBlock ≠ some q) := Hd ⟨Nat.le_trans hwez.out.1 (Nat.le_trans hbq.out.size hg8.size), fun q hq1 hq2 => by
                    have g1 := hwez.out.2 q hq1 hq2;have g2 := hbq.out.block q (Nat.lt_of_lt_of_le hq2 hwez.out.1);have g3 := hg8.block q (Nat.lt_of_lt_of_le hq2 (Nat.le_trans hwez.out.1 hbq.out.size)) (fun e => g1.2 e.symm);refine ⟨g3.trans (g2.trans g1.1), fun e => ?_⟩;rcases hv8 with e9 | e9
                    · exact g1.2 (by rw [<- e9]; exact e)
                    · rw [e9] at e
                      injection e with e;have := Nat.le_trans hwez.out.1 hbq.out.size
                      omega⟩
                  clear ho8 hg8 hb8 hv8 howq hsq6;go_wp2_with fail;go_roundw
                  case rel => exact ⟨k + 1, m + m6, A8, c8, by omega, by go_num, rfl, hl9, ho9, hb9, hwe9⟩
                  case measure => simp [intOf]; omega
              · have i1 : decide ((k : Int) < (lk : Int)) = false := by rw [decide_eq_false_iff_not]; omega
                have i2 : decide (k < lk) = false := by rw [decide_eq_false_iff_not]; omega
                have e1 : lk = k := (by omega);subst e1;obtain ⟨hkT, -⟩ := hall.out wz hbz.out;have t4 := Xp.cell_blk hkT (i := 4) rfl;have htk : kz.take lk = kz := List.take_of_length_le (by rw [hlkH.out]; exact Nat.le_refl _);rw [htk] at hml how;have hm0 : 0 < m := by rw [<- hml.out]; simp
                obtain ⟨g, x0, vs0, eA0, hBg, hgl, hx0, hvs0, hel0, hcs0, hfr0, hset0⟩ := how.out.elem hm0 (by omega);subst eA0;have hx1 : x0 = (⟨kd, nm, tx, (pa : Nat), 0, path⟩ : Q) := (by simpa using hx0.symm);subst hx1
                have y4 : wz.cell? ⟨g, 4, none⟩ = some (.int .i64 ((0 : Nat) : Int)) := by
                  rw [show vs0 = _ from hel0] at hcs0;have h1 := hcs0 4 _ rfl;rw [Nat.zero_mul, Nat.zero_add] at h1;exact h1
                obtain ⟨k1, k2⟩ := hset0 4 (.int .i64 ((at_ + m : Nat) : Int)) ⟨kd, nm, tx, (pa : Nat), at_ + m, path⟩ (by omega) (fun _ _ h => h) (fun vs _ h9 => by
                  rw [show vs = _ from h9]
                  rfl)
                rw [Nat.zero_mul, Nat.zero_add] at k1 k2;rw [show ((at_ + m : Nat) : Int) = (at_ : Int) + (m : Int) by omega] at k1 k2
                have hfin : Hid ((((⟨kd, nm, tx, (pa : Nat), 0, path⟩ : Q) :: (attrRows at_ path (at_ + 1) as_ ++ tabL l names KB (at_ + 1 + li) at_ path 0 kz)).set 0 ⟨kd, nm, tx, (pa : Nat), at_ + m, path⟩) = TD) := Hd (by
                  rw [<- hTDH.out];unfold tabN;rw [hKBH.out, List.set_cons_zero];have h1 := hml.out;rw [List.length_cons, List.length_append, attrRows_len, hliH.out] at h1;simp only [List.length_append, attrRows_len, hliH.out]
                  congr 2
                  omega)
                rw [hfin.out] at k1;have k1H := Hd (k1.down (B' := w.heap.size) (by have := hs1H.out; have := hTw.out; omega));have hbF : Hid (Below w.heap.size w (wz.setCell ⟨g, 4, none⟩ (.int .i64 ((at_ : Int) + (m : Int))))) := Hd ((hb1H.out.trans (hbz.out.mono hb1H.out.size)).setCell (p := ⟨g, 4, none⟩) (by have := hs1H.out; have := hTw.out; show w.heap.size <= g; omega) _);have zf : ∀ i, wz.frozen? ⟨g, i, none⟩ = false := hfr0;have hm0i : (0 : Int) < (m : Int) := (by omega);have hmc := (how.out.sq' (by omega)).le;have hmx := (how.out.sq' (by omega)).max;clear k1 k2 hset0 hcs0 hel0 hx0 hvs0 hkT htk hfr0;go_wp2_with fail;go_ret;exact ⟨_, _, _, rfl, k1H.out, hbF.out⟩
end Go.Proofs.YtdnfnkicmfkkmaaGreatDoor.Vw
end

section
namespace Go.Proofs.YtdnfnkicmfkkmaaGreatDoor.Vw
open Go.RowKit UtfW Xl Xt Xo No
open Go.Proofs.YtdnfnkicmfkkmaaGreatDoor (Ky.frontB Ky.Rl)
open Go.Proofs.YtdnfnkicmfkkmaaGreatDoor.Ky (Ts OwX tv join Rs)
set_option maxHeartbeats 20000000 in
set_option maxRecDepth 100000 in
theorem rdoc_any (X : Nat -> Prop) (w : World) (Al : Option Addr) (nl cl : Nat) (l : List Ky.Rl) (vs : List Value) (n : Nd) (hl : Rs w Al nl cl l) (hn : NdI X w vs n) (hX : ∀ j, X j -> j < w.heap.size)
  (hwt : Ky.wts l < 3000) (hmay : Ky.mayB nameR l = true) (hnf : nfN l [n.name] n) (hw : wN n <= 1200) :
  Calls Tryz.prog 12 #[.slice Al nl cl, .agg vs.toArray] w fun e w' => ∃ A m c, e = .returned (.slice A m c) /\ OwS QEl 6 w' w.heap.size 41 (.slice A m c) (tabD l n) /\ Below w.heap.size w w' := by
 have hn0 := hn;obtain ⟨kd, nm, tx, as_, kz, ekn⟩ : ∃ kd nm tx as_ kz, n = Nd.mk kd nm tx as_ kz := by cases n; exact ⟨_, _, _, _, _, rfl⟩
 rw [ekn] at hn0;obtain ⟨Ai, ci, Ak, ck, rfl, _⟩ := hn0.cells;have hnm : n.name = nm := by rw [ekn]; rfl
 obtain ⟨li, hli⟩ : ∃ la, as_.length = la := ⟨_, rfl⟩;obtain ⟨lk, hlk⟩ : ∃ lk, kz.length = lk := ⟨_, rfl⟩;obtain ⟨S1, hS1⟩ : ∃ S, strOf nm = S := ⟨_, rfl⟩;obtain ⟨S2, hS2⟩ : ∃ S, strOf tx = S := ⟨_, rfl⟩;rw [hli, hlk, hS1, hS2] at hn ⊢;have hnml : nm.length <= 1200 := by rw [ekn, wN] at hw; omega
 obtain ⟨J, hJ⟩ : ∃ J, w.heap.size = J := ⟨_, rfl⟩;obtain ⟨w1, hw1⟩ : ∃ w1, w.alloc (.cells #[.int .i64 kd, .string S1, .string S2, .slice Ai li ci, .slice Ak lk ck] 26) = w1 := ⟨_, rfl⟩;have hs1 : w1.heap.size = J + 1 := by rw [<- hw1, World.size_alloc, hJ]
 have hb1 : Below w.heap.size w w1 := by rw [<- hw1]; exact below_alloc w _
 have hk1 : w1.heap[J]? = some (.cells #[.int .i64 kd, .string S1, .string S2, .slice Ai li ci, .slice Ak lk ck] 26) := by rw [<- hw1, <- hJ]; exact heap_alloc_new w _
 obtain ⟨w2, hw2⟩ : ∃ w2, w1.alloc (.cells #[.string S1] 9) = w2 := ⟨_, rfl⟩;have hb2 : Below w1.heap.size w1 w2 := by rw [<- hw2]; exact below_alloc w1 _
 have hts : Ts w2 (some ⟨J + 1, 0, none⟩) 1 1 [nm] := by
  have h1 := Ky.ts_lit w1 S1 nm 9 (0, 0) hS1.symm;rw [hs1] at h1;rw [<- hw2];exact h1
 have hbw := hb1.trans (hb2.mono hb1.size);have a1 := fun w => add_txt w [47] nm (by simp; omega)
 rw [show strOf [47] = (⟨#[47]⟩ : ByteArray) from rfl] at a1;have hcall := rnodes_any (SizeOf.sizeOf n) n (Nat.le_refl _) X w2 Al nl cl l [.int .i64 kd, .string S1, .string S2, .slice Ai li ci, .slice Ak lk ck] 1 0 (47 :: nm) (some ⟨J + 1, 0, none⟩) 1 1 [nm] (hl.below hbw) (hn.later hX hbw) (fun j hj => Nat.lt_of_lt_of_le (hX j hj) hbw.size) hts (fun _ => by rw [<- hnm]; exact hnf) hwt hmay hw (by omega) (by omega) (by simp; omega);obtain ⟨P1, hP1⟩ : ∃ S, strOf ([47] ++ nm) = S := ⟨_, rfl⟩;rw [hS1, hP1] at a1;rw [show strOf (47 :: nm) = P1 from hP1] at hcall;rw [show ((1 : Nat) : Int) = 1 from rfl, show ((0 : Nat) : Int) = 0 from rfl] at hcall;have hcallH := Hd hcall;obtain ⟨g0, g1, g2, g3, g4⟩ := cells_of5 hk1;have hbwH := Hd hbw;have hnmH := Hd hnm;have hwH := Hd hw;clear hn hX hwt hmay hnf hw hl hb1 hk1 hn0 ekn hnm hli hlk hS1 hS2 hb2 hts hbw hcall hP1 hnml
 go_enter Tryz.func12, Tryz.ntmps12
 go_wp2_with fail;clear hw1 hw2 hJ hs1 g0 g1 g2 g3 g4;refine hcallH.out.mono ?_;rintro e w3 ⟨A, m, c, rfl, ho, hb3⟩;have hsq := Hd (ho.sq' (by omega));have hbw3 := Hd (hbwH.out.trans (hb3.mono hbwH.out.size))
 have hml : m <= 1200 := by
  rw [<- hsq.out.len];exact Nat.le_trans (tabN_w l n [nm] 1 0 (47 :: nm)) hwH.out
 have hlit := ows_lit (El := QEl) (k := 6) w3 [.int .i64 6, .string ⟨#[]⟩, .string ⟨#[]⟩, .int .i64 (-1), .int .i64 ((m : Int) + 1), .string ⟨#[47]⟩] (⟨6, [], [], -1, m + 1, [47]⟩ : Q) 41 rfl (by decide) rfl;have hlitH := Hd hlit;have hbl := below_alloc w3 (.cells #[.int .i64 6, .string ⟨#[]⟩, .string ⟨#[]⟩, .int .i64 (-1), .int .i64 ((m : Int) + 1), .string ⟨#[47]⟩] 41);have hsq4 := Hd (hsq.out.below QEl.to hbl);have hbw4 := Hd (hbw3.out.trans (hbl.mono hbw3.out.size));have hw3l : Hid (w3.heap.size <= (w3.alloc (.cells #[.int .i64 6, .string ⟨#[]⟩, .string ⟨#[]⟩, .int .i64 (-1), .int .i64 ((m : Int) + 1), .string ⟨#[47]⟩] 41)).heap.size) := Hd hbl.size;clear ho hb3 hlit hbl hcallH
 go_wp2_with (at_builtin; apply stop_here)
 refine Stop.go (append_sq (El := QEl) (k := 6) _ 30 41 (.agg #[.int .i64 0, .string ⟨#[]⟩, .string ⟨#[]⟩, .int .i64 0, .int .i64 0, .string ⟨#[]⟩]) 72 Tryz.underlying30 info_q rfl (by omega) rfl _ _ rfl w3.heap.size (.slice (some ⟨w3.heap.size, 0, none⟩) 1 1) _ rfl hlitH.out _ m c _ rfl hsq4.out QEl.one (fun _ _ => QEl.to) (1 + m) rfl (by omega) (by omega) hw3l.out ?_);intro A8 c8 x8 ho8 hg8 hb8 hv8
 have ho9 : Hid (OwS QEl 6 x8 w.heap.size 41 (.slice A8 (1 + m) c8) (tabD l n)) := Hd (by
  have h1 := ho8.down (B' := w.heap.size) hbw3.out.size
  have h2 : tabD l n = [(⟨6, [], [], -1, m + 1, [47]⟩ : Q)] ++ tabN l [nm] 1 0 (47 :: nm) n := by
   unfold tabD;rw [hnmH.out];simp only;rw [hsq.out.len];rfl
  rw [h2]
  exact h1)
 have hb9 := Hd (hbw4.out.trans (hb8.mono hbw3.out.size));clear ho8 hg8 hb8 hv8;go_wp2_with fail;go_ret;exact ⟨_, _, _, rfl, ho9.out, hb9.out⟩
theorem q_neq (w : World) (k1 k2 p1 p2 f1 f2 : Int) (a1 a2 b1 b2 c1 c2 : ByteArray) : (binOp .neq 41 (.agg #[.int .i64 k1, .string a1, .string b1, .int .i64 p1, .int .i64 f1, .string c1]) (.agg #[.int .i64 k2, .string a2, .string b2, .int .i64 p2, .int .i64 f2, .string c2])).run Tryz.prog w = .ok (.bool (!((k1 == k2) && (a1.toList == a2.toList) && (b1.toList == b2.toList) && (p1 == p2) && (f1 == f2) && (c1.toList == c2.toList)))) w := by
 have hS : Tryz.prog.underlying 41 = some (.struct (Tryz.prog.fieldsOf 41)) := by kernel_rfl
 have hp : Tryz.prog.stoodInHeld 41 = false := by kernel_rfl
 rw [run_neq_struct, show (10000 : Nat) = 9999 + 1 from rfl, run_equalIn_agg w 9999 41 _ _ hS hp];simp only [Program.fieldsOf, Tryz.underlying41];go_simp
 by_cases h1 : k1 = k2 <;> by_cases h2 : a1.toList = a2.toList <;> by_cases h3 : b1.toList = b2.toList <;> by_cases h4 : p1 = p2 <;> by_cases h5 : f1 = f2 <;> by_cases h6 : c1.toList = c2.toList <;> simp [h1, h2, h3, h4, h5, h6]
theorem q_neq_ (w : World) (a b : Q) : (binOp .neq 41 (.agg #[.int .i64 a.kind, .string (strOf a.name), .string (strOf a.text), .int .i64 a.parent, .int .i64 (a.fin : Nat), .string (strOf a.path)]) (.agg #[.int .i64 b.kind, .string (strOf b.name), .string (strOf b.text), .int .i64 b.parent, .int .i64 (b.fin : Nat), .string (strOf b.path)])).run Tryz.prog w = .ok (.bool (decide (a ≠ b))) w := by
 rw [q_neq, str_beq, str_beq, str_beq]
 congr 2
 have e : ∀ x y : Int, (x == y) = decide (x = y) := fun x y => rfl
 rw [e, e, e, <- Bool.decide_and, <- Bool.decide_and, <- Bool.decide_and, <- Bool.decide_and, <- Bool.decide_and, <- decide_not, decide_eq_decide];obtain ⟨a1, a2, a3, a4, a5, a6⟩ := a;obtain ⟨b1, b2, b3, b4, b5, b6⟩ := b;simp only [ne_eq, Q.mk.injEq];constructor
 ·rintro h ⟨rfl, rfl, rfl, rfl, rfl, rfl⟩;exact h ⟨⟨⟨⟨⟨rfl, rfl⟩, rfl⟩, rfl⟩, rfl⟩, rfl⟩
 ·rintro h ⟨⟨⟨⟨⟨e1, e2⟩, e3⟩, e4⟩, e5⟩, e6⟩;exact h ⟨e1, strOf_inj e2, strOf_inj e3, e4, by omega, strOf_inj e6⟩
set_option maxHeartbeats 20000000 in
set_option maxRecDepth 100000 in
theorem tables_any (A : Option Addr) (n c : Nat) (xs : List Q) (A2 : Option Addr) (n2 c2 : Nat) (ys : List Q) (w : World) (h : Sq QEl 6 w A n c xs) (h2 : Sq QEl 6 w A2 n2 c2 ys) :
    Calls Tryz.prog 11 #[.slice A n c, .slice A2 n2 c2] w fun e w' => e = .returned (.bool (decide (xs = ys))) /\ Below w.heap.size w w' := by
  have hl := h.len;have hl2 := h2.len;have l1 := h.le;have l2 := h.max;have l3 := h2.le;have l4 := h2.max;obtain ⟨R, hR⟩ : ∃ R, decide (xs = ys) = R := ⟨_, rfl⟩;rw [hR]
  by_cases hn : n = n2
  · subst hn
    have h' := Hd h;have h2' := Hd h2;have hlH := Hd hl;have hl2H := Hd hl2;have hRH := Hd hR;clear h h2 hl hl2 hR
    go_enter Tryz.func11, Tryz.ntmps11
    go_wp2_with fail
    go_loopw [5] (fun vi wr => ∃ k : Nat, k <= n /\ vi = .int .i64 (k : Nat) /\ Hid (xs.take k = ys.take k) /\ Hid (Below w.heap.size w wr)) (fun vi _ => n - (intOf vi).toNat)
    case atStart => exact ⟨0, by omega, rfl, Hd rfl, Hd (Below.refl _ _)⟩
    case round =>
      obtain ⟨k, hk, rfl, hsame, hb⟩ := hrel
      by_cases hlt : k < n
      · have i1 : decide ((k : Int) < (n : Int)) = true := by rw [decide_eq_true_eq]; omega
        have i2 : decide (k < n) = true := by rw [decide_eq_true_eq]; omega
        have i3 : (k : Int) < (n : Int) := (by omega);obtain ⟨b1, o1, qa, vs1, eA, _, hx1, _, hv1, hc1⟩ := (h'.out.below QEl.to hb.out).at_ hlt;obtain ⟨b2, o2, qb, vs2, eB, _, hx2, _, hv2, hc2⟩ := (h2'.out.below QEl.to hb.out).at_ hlt;subst eA eB;obtain rfl : vs1 = _ := hv1;obtain rfl : vs2 = _ := hv2;have m0 := hc1 0 _ rfl;have m1 := hc1 1 _ rfl;have m2 := hc1 2 _ rfl;have m3 := hc1 3 _ rfl;have m4 := hc1 4 _ rfl;have m5 := hc1 5 _ rfl;have u0 := hc2 0 _ rfl;have u1 := hc2 1 _ rfl;have u2 := hc2 2 _ rfl;have u3 := hc2 3 _ rfl;have u4 := hc2 4 _ rfl;have u5 := hc2 5 _ rfl;rw [Nat.add_zero] at m0 u0;have hbd := Hd (hb.out.trans ((Joins.below_draws wr.heap.size wr 1).mono hb.out.size));have hx1H := Hd hx1;have hx2H := Hd hx2;have hne := q_neq_ wr.drew qa qb;have hge : ∀ (a b : Operand), (eqGuard .neq 41 a b (.agg #[.int .i64 qa.kind, .string (strOf qa.name), .string (strOf qa.text), .int .i64 qa.parent, .int .i64 (qa.fin : Nat), .string (strOf qa.path)]) (.agg #[.int .i64 qb.kind, .string (strOf qb.name), .string (strOf qb.text), .int .i64 qb.parent, .int .i64 (qb.fin : Nat), .string (strOf qb.path)])).run Tryz.prog wr.drew = .ok () wr.drew := by intro a b; apply run_eqGuard_agg; kernel_rfl
        clear hc1 hc2 hx1 hx2;go_wp2_with fail;refine Pl.wp_region_plan 8 (.take 0 (.take 1 (.take 2 (.take 3 (.take 4 (.take 5 (.take 6 (.take 7 .done)))))))) (fun x => x.cell? ⟨b1, o1 + k * 6, none⟩ = some (.int .i64 qa.kind) /\ x.cell? ⟨b1, o1 + k * 6 + 1, none⟩ = some (.string (strOf qa.name)) /\ x.cell? ⟨b1, o1 + k * 6 + 2, none⟩ = some (.string (strOf qa.text)) /\ x.cell? ⟨b1, o1 + k * 6 + 3, none⟩ = some (.int .i64 qa.parent) /\ x.cell? ⟨b1, o1 + k * 6 + 4, none⟩ = some (.int .i64 (qa.fin : Nat)) /\ x.cell? ⟨b1, o1 + k * 6 + 5, none⟩ = some (.string (strOf qa.path)) /\ x.cell? ⟨b2, o2 + k * 6, none⟩ = some (.int .i64 qb.kind) /\ x.cell? ⟨b2, o2 + k * 6 + 1, none⟩ = some (.string (strOf qb.name)) /\ x.cell? ⟨b2, o2 + k * 6 + 2, none⟩ = some (.string (strOf qb.text)) /\ x.cell? ⟨b2, o2 + k * 6 + 3, none⟩ = some (.int .i64 qb.parent) /\ x.cell? ⟨b2, o2 + k * 6 + 4, none⟩ = some (.int .i64 (qb.fin : Nat)) /\ x.cell? ⟨b2, o2 + k * 6 + 5, none⟩ = some (.string (strOf qb.path))) (by kernel_rfl) (by kernel_rfl) (by exact ⟨m0, m1, m2, m3, m4, m5, u0, u1, u2, u3, u4, u5⟩) ?_;simp only [Pl.fill, Al_4, Al_5, Al_6, Al_7]
        iterate 8
          first
          | (refine Pl.take_go ?_ (by rfl) (fun _ _ _ h => h) ?_ ?_
             rotate_left
             · (intro x hSw; (try (dsimp only at hSw)); go_simp; try with_reducible rfl)
             (try simp only [Act.put, Al_1, Al_2, Al_3]))
          | (refine Pl.take_skip (by rfl) (fun _ _ _ h => h) ?_
             (try simp only [Act.put, Al_1, Al_2, Al_3]))
        refine Pl.done_go ?_;obtain ⟨VA, hVA⟩ : ∃ V, Value.agg #[.int .i64 qa.kind, .string (strOf qa.name), .string (strOf qa.text), .int .i64 qa.parent, .int .i64 (qa.fin : Nat), .string (strOf qa.path)] = V := ⟨_, rfl⟩;obtain ⟨VB, hVB⟩ : ∃ V, Value.agg #[.int .i64 qb.kind, .string (strOf qb.name), .string (strOf qb.text), .int .i64 qb.parent, .int .i64 (qb.fin : Nat), .string (strOf qb.path)] = V := ⟨_, rfl⟩;rw [hVA, hVB] at hne ⊢;rw [hVA, hVB] at hge;clear m0 m1 m2 m3 m4 m5 u0 u1 u2 u3 u4 u5 hVA hVB
        by_cases hxy : qa = qb
        · have hnext : Hid (xs.take (k + 1) = ys.take (k + 1)) := Hd (by rw [take_snoc hx1H.out, take_snoc hx2H.out, hsame.out, hxy])
          have hd : decide (qa ≠ qb) = false := (by simpa using hxy);rw [hd] at hne;clear hd hxy;go_wp2_with fail;go_roundw
          case rel => exact ⟨k + 1, by omega, by go_num, hnext, hbd⟩
          case measure => simp [intOf]; omega
        · have hd : decide (qa ≠ qb) = true := by simpa using hxy
          rw [hd] at hne
          have hno : Hid (R = false) := Hd (by
            rw [<- hRH.out];refine decide_eq_false fun e => ?_
            have h3 := hx1H.out;rw [e, hx2H.out] at h3;injection h3 with h3
            exact hxy h3.symm)
          clear hd hxy;go_wp2_with fail;go_ret;exact ⟨by rw [hno.out]; rfl, hbd.out⟩
      · have i1 : decide ((k : Int) < (n : Int)) = false := by rw [decide_eq_false_iff_not]; omega
        have i2 : decide (k < n) = false := by rw [decide_eq_false_iff_not]; omega
        have e1 : k = n := (by omega);subst e1
        have hyes : Hid (R = true) := Hd (by
          rw [<- hRH.out];refine decide_eq_true ?_;have h1 := hsame.out;rw [List.take_of_length_le (by rw [hlH.out]; exact Nat.le_refl _), List.take_of_length_le (by rw [hl2H.out]; exact Nat.le_refl _)] at h1
          exact h1)
        go_wp2_with fail;go_ret;exact ⟨by rw [hyes.out]; rfl, hb.out⟩
  · have hno : Hid (R = false) := Hd (by
      rw [<- hR];refine decide_eq_false fun e => hn ?_
      rw [<- hl, <- hl2, e])
    have e1 : ((n : Int) != (n2 : Int)) = true := by rw [bne_iff_ne]; omega
    have e2 : (n != n2) = true := by rw [bne_iff_ne]; exact hn
    clear h h2 hl hl2 hR hn
    go_enter Tryz.func11, Tryz.ntmps11
    go_wp2_with fail;go_ret;exact ⟨by rw [hno.out]; rfl, Below.refl _ _⟩
end Go.Proofs.YtdnfnkicmfkkmaaGreatDoor.Vw
end

section
namespace Go.Proofs.YtdnfnkicmfkkmaaGreatDoor.Vw
open Go.RowKit UtfW Xl Xt
def below (t : List Q) (i k : Nat) : Bool := decide (i < k /\ k < finAt t i)
section
variable {t : List Q} (h : Tab t)
include h
theorem Tab.fin_gt {i : Nat} (hi : i < t.length) : i < finAt t i := by
 rcases Nat.eq_zero_or_pos i with rfl | h0
 ·rw [h.root.2.1]; exact h.pos
 ·obtain ⟨j, _, _, _, e, _⟩ := h.up i h0 hi;exact e
theorem Tab.fin_le : ∀ {i : Nat}, i < t.length -> finAt t i <= t.length := by
 intro i
 induction i using Nat.strongRecOn with
 | ind i ih =>
  intro hi;rcases Nat.eq_zero_or_pos i with rfl | h0
  ·rw [h.root.2.1]; exact Nat.le_refl _
  ·obtain ⟨j, _, e1, e2, _, _⟩ := h.up i h0 hi;exact Nat.le_trans e2 (ih j e1 (by omega))
theorem Tab.par_pos {i : Nat} (hi : i < t.length) (hp : 0 <= parAt t i) : 0 < i := by
 rcases Nat.eq_zero_or_pos i with rfl | h0
 ·rw [h.root.1] at hp; omega
 ·exact h0
theorem Tab.par_neg {i : Nat} (hi : i < t.length) (hp : parAt t i < 0) : i = 0 := by
 rcases Nat.eq_zero_or_pos i with rfl | h0
 ·rfl
 ·obtain ⟨j, e, _⟩ := h.up i h0 hi;rw [e] at hp; omega
theorem Tab.par_is {i j : Nat} (hi : i < t.length) (hp : parAt t i = (j : Int)) : j < i /\ finAt t i <= finAt t j /\ kindAt t j ≠ 5 := by
 obtain ⟨j', e, e1, e2, _, e4⟩ := h.up i (h.par_pos hi (by omega)) hi;obtain rfl : j' = j := by rw [hp] at e; omega
 exact ⟨e1, e2, e4⟩
theorem Tab.nest {i : Nat} : ∀ {k : Nat}, i < k -> k < finAt t i -> k < t.length -> finAt t k <= finAt t i := by
 intro k
 induction k using Nat.strongRecOn with
 | ind k ih =>
  intro h1 h2 h3;have h4 := h.within i k h1 h2 h3;obtain ⟨j, e, e1, e2, _, _⟩ := h.up k (by omega) h3;rcases Nat.eq_or_lt_of_le (show i <= j by rw [e] at h4; omega) with rfl | hij
  ·exact e2
  ·exact Nat.le_trans e2 (ih j e1 hij (by omega) (by omega))
theorem Tab.below_step {a b j : Nat} (hb : b < t.length) (hp : parAt t b = (j : Int)) : below t a b = (decide (j = a) || below t a j) := by
 obtain ⟨e1, e2, _⟩ := h.par_is hb hp;have hg := h.fin_gt hb;unfold below
 by_cases hj : j = a
 ·subst hj;simp only [decide_true, Bool.true_or];exact decide_eq_true ⟨e1, by omega⟩
 ·simp only [hj, decide_false, Bool.false_or];refine decide_eq_decide.2 ⟨fun ⟨h1, h2⟩ => ?_, fun ⟨h1, h2⟩ => ?_⟩
  ·have := h.within a b h1 h2 hb;rw [hp] at this;omega
  ·have := h.nest h1 h2 (by omega);omega
omit h in
theorem below_zero (a : Nat) : below t a 0 = false := by
 unfold below;exact decide_eq_false (by omega)
end
/-! ### Lists of places -/
def spanQ (a b : Nat) (p : Nat -> Bool) : List Nat := (List.range' a (b - a)).filter p
theorem filter_range {n a b : Nat} {p : Nat -> Bool} (hp : ∀ k, k < n -> p k = true -> a <= k /\ k < b) (hb : b <= n) : (List.range n).filter p = spanQ a b p := by
 unfold spanQ;rcases Nat.le_total a b with hab | hab
 ·have e : List.range n = List.range' 0 a ++ (List.range' a (b - a) ++ List.range' b (n - b)) := by
   have e1 := List.range'_append_1 (s := a) (m := b - a) (n := n - b);rw [show a + (b - a) = b by omega, show b - a + (n - b) = n - a by omega] at e1;have e2 := List.range'_append_1 (s := 0) (m := a) (n := n - a);rw [Nat.zero_add, show a + (n - a) = n by omega] at e2;rw [List.range_eq_range', e1, e2]
  rw [e, List.filter_append, List.filter_append]
  have h1 : (List.range' 0 a).filter p = [] := by
   rw [List.filter_eq_nil_iff];intro k hk hpk;rw [List.mem_range'_1] at hk;have := hp k (by omega) hpk;omega
  have h2 : (List.range' b (n - b)).filter p = [] := by
   rw [List.filter_eq_nil_iff];intro k hk hpk;rw [List.mem_range'_1] at hk;have := hp k (by omega) hpk;omega
  rw [h1, h2, List.nil_append, List.append_nil]
 ·rw [show b - a = 0 by omega];simp only [List.range'_zero, List.filter_nil];rw [List.filter_eq_nil_iff];intro k hk hpk;have := hp k (List.mem_range.1 hk) hpk;omega
theorem spanQ_congr {a b : Nat} {p q : Nat -> Bool} (hpq : ∀ k, a <= k -> k < b -> p k = q k) : spanQ a b p = spanQ a b q := by
 unfold spanQ;refine List.filter_congr fun k hk => ?_
 rw [List.mem_range'_1] at hk;exact hpq k hk.1 (by omega)
def ancL (t : List Q) (i : Nat) : List Nat := ((List.range i).filter fun k => below t k i).reverse
theorem Tab.anc_step {t : List Q} (h : Tab t) {i p : Nat} (hi : i < t.length) (hp : parAt t i = (p : Int)) : ancL t i = p :: ancL t p := by
 have hpi := (h.par_is hi hp).1;unfold ancL
 have e : List.range i = List.range p ++ ([p] ++ List.range' (p + 1) (i - p - 1)) := by
  rw [List.range_eq_range', List.range_eq_range', show [p] = List.range' p 1 from rfl, List.range'_append_1];have := List.range'_append_1 (s := 0) (m := p) (n := 1 + (i - p - 1));rw [Nat.zero_add] at this;rw [this]
  congr 1
  omega
 rw [e, List.filter_append, List.filter_append]
 have h1 : (List.range' (p + 1) (i - p - 1)).filter (fun k => below t k i) = [] := by
  rw [List.filter_eq_nil_iff];intro k hk hpk;rw [List.mem_range'_1] at hk;simp only [h.below_step hi hp] at hpk;unfold below at hpk;simp at hpk;omega
 have h2 : [p].filter (fun k => below t k i) = [p] := by
  simp [h.below_step hi hp]
 have h3 : (List.range p).filter (fun k => below t k i) = (List.range p).filter (fun k => below t k p) := by
  refine List.filter_congr fun k hk => ?_
  rw [h.below_step hi hp];have := List.mem_range.1 hk;rw [decide_eq_false (show ¬ p = k by omega), Bool.false_or]
 rw [h1, h2, h3, List.append_nil, List.reverse_append];rfl
theorem Tab.anc_end {t : List Q} (h : Tab t) {i : Nat} (hi : i < t.length) (hp : parAt t i < 0) : ancL t i = [] := by
 obtain rfl := h.par_neg hi hp;rfl
/-! ### Values -/
def valQ (t : List Q) (i : Int) : Tx :=
 if i < 0 \/ (t.length : Int) <= i then []
 else if kindAt t i.toNat ≠ 6 /\ kindAt t i.toNat ≠ 1 then textAt t i.toNat
 else ((List.range t.length).filter fun k => decide (kindAt t k = 2) && below t i.toNat k).flatMap (textAt t)
def valP (t : List Q) (i : Int) : Tx :=
 if i < 0 \/ (t.length : Int) <= i then []
 else if kindAt t i.toNat ≠ 6 /\ kindAt t i.toNat ≠ 1 then textAt t i.toNat
 else (spanQ i.toNat (finAt t i.toNat) fun k => decide (kindAt t k = 2)).flatMap (textAt t)
theorem val_eq {t : List Q} (h : Tab t) (i : Int) : valP t i = valQ t i := by
 unfold valP valQ
 split
 ·rfl
 ·rename_i hi
  split
  ·rfl
  ·rename_i hk
   have hl : i.toNat < t.length := by omega
   rw [filter_range (a := i.toNat) (b := finAt t i.toNat) (fun k _ hp => by
    simp only [Bool.and_eq_true] at hp;have := of_decide_eq_true hp.2
    omega) (h.fin_le hl)]
   congr 1
   refine spanQ_congr fun k h1 h2 => ?_
   rcases Nat.eq_or_lt_of_le h1 with rfl | h1
   ·have : ¬ kindAt t i.toNat = 2 := (by omega);simp [this]
   ·unfold below;simp [h1, h2]
/-! ### Axes -/
def xSelf : Tx := [115, 101, 108, 102]
def xChild : Tx := [99, 104, 105, 108, 100]
def xParent : Tx := [112, 97, 114, 101, 110, 116]
def xAnc : Tx := [97, 110, 99, 101, 115, 116, 111, 114]
def xOrSelf : Tx := [45, 111, 114, 45, 115, 101, 108, 102]
def xAncS : Tx := xAnc ++ xOrSelf
def xDesc : Tx := [100, 101, 115, 99, 101, 110, 100, 97, 110, 116]
def xDescS : Tx := xDesc ++ xOrSelf
def xAttr : Tx := [97, 116, 116, 114, 105, 98, 117, 116, 101]
def xFoll : Tx := [102, 111, 108, 108, 111, 119, 105, 110, 103]
def xPrec : Tx := [112, 114, 101, 99, 101, 100, 105, 110, 103]
def xSib : Tx := [45, 115, 105, 98, 108, 105, 110, 103]
def xFollS : Tx := xFoll ++ xSib
def xPrecS : Tx := xPrec ++ xSib
def plainQ (t : List Q) (k : Nat) : Bool := decide (kindAt t k ≠ 5)
def sibQ (t : List Q) (i k : Nat) : Bool := decide (kindAt t i ≠ 5 /\ parAt t i = parAt t k /\ 0 <= parAt t i)
def inQ (t : List Q) (axis : Tx) (i k : Nat) : Bool :=
 if axis = xSelf then decide (k = i)
 else if axis = xAncS then decide (k = i) || below t k i
 else if axis = xDescS then decide (k = i) || (plainQ t k && below t i k)
 else if axis = xAttr then !plainQ t k && decide (parAt t k = i)
 else plainQ t k && (
 if axis = xChild then decide (parAt t k = i)
 else if axis = xParent then decide (parAt t i = k)
 else if axis = xAnc then below t k i
 else if axis = xDesc then below t i k
 else if axis = xFoll then decide (i < k) && !below t i k
 else if axis = xPrec then decide (k < i) && !below t k i
 else if axis = xFollS then decide (i < k) && sibQ t i k
 else if axis = xPrecS then decide (k < i) && sibQ t i k
 else false)
def backQ (axis : Tx) : Bool := decide (axis = xAnc \/ axis = xAncS \/ axis = xPrec \/ axis = xPrecS)
def axisR (t : List Q) (axis : Tx) (i : Nat) : List Nat :=
 let l := (List.range t.length).filter (inQ t axis i)
 if backQ axis then l.reverse else l
def sibP (t : List Q) (i a b : Nat) : List Nat := if kindAt t i = 5 \/ parAt t i < 0 then [] else spanQ a b fun k => plainQ t k && decide (parAt t k = parAt t i)
def axisP (t : List Q) (axis : Tx) (i : Nat) : List Nat :=
 if axis = xSelf then [i]
 else if axis = xChild then spanQ (i + 1) (finAt t i) fun k => plainQ t k && decide (parAt t k = i)
 else if axis = xAttr then spanQ (i + 1) (finAt t i) fun k => !plainQ t k && decide (parAt t k = i)
 else if axis = xParent then (ancL t i).take 1
 else if axis = xAnc then ancL t i
 else if axis = xAncS then i :: ancL t i
 else if axis = xDesc then spanQ (i + 1) (finAt t i) (plainQ t)
 else if axis = xDescS then i :: spanQ (i + 1) (finAt t i) (plainQ t)
 else if axis = xFoll then spanQ (finAt t i) t.length (plainQ t)
 else if axis = xFollS then sibP t i (finAt t i) t.length
 else if axis = xPrec then (spanQ 0 i fun k => plainQ t k && decide (finAt t k <= i)).reverse
 else if axis = xPrecS then (sibP t i 0 i).reverse
 else []
section
variable {t : List Q} (h : Tab t) {i : Nat} (hi : i < t.length)
include h hi
omit h in
theorem anc_all : (List.range t.length).filter (fun k => below t k i) = (ancL t i).reverse := by
 unfold ancL;rw [List.reverse_reverse, filter_range (a := 0) (b := i) (fun k _ hp => by unfold below at hp; simp at hp; omega) (by omega)];unfold spanQ;rw [Nat.sub_zero, <- List.range_eq_range']
theorem anc_plain {k : Nat} (hk : below t k i = true) : plainQ t k = true := by
 have hm : ∀ i, i < t.length -> below t k i = true -> plainQ t k = true := by
  intro i
  induction i using Nat.strongRecOn with
  | ind i ih =>
   intro hi hb;have h0 : 0 < i := by unfold below at hb; simp at hb; omega
   obtain ⟨j, e, e1, _, _, e4⟩ := h.up i h0 hi;rw [h.below_step hi e, Bool.or_eq_true] at hb;rcases hb with hb | hb
   ·obtain rfl := of_decide_eq_true hb;exact decide_eq_true e4
   ·exact ih j e1 (by omega) hb
 exact hm i hi hk
omit hi in
theorem in_child (k : Nat) (hk : k < t.length) (hp : parAt t k = (i : Int)) : i + 1 <= k /\ k < finAt t i := by
 have h1 := h.par_is hk hp;have := h.fin_gt hk;omega
theorem axis_eq (axis : Tx) : axisP t axis i = axisR t axis i := by
 have hfl := h.fin_le hi;have hfg := h.fin_gt hi
 by_cases a1 : axis = xSelf
 ·subst a1;have e : ∀ k, inQ t xSelf i k = decide (k = i) := fun k => by unfold inQ; rw [if_pos rfl]
  unfold axisP axisR;rw [if_pos rfl, if_neg (by decide), funext e, filter_range (a := i) (b := i + 1) (fun k _ hp => by have := of_decide_eq_true hp; omega) (by omega)];unfold spanQ;rw [show i + 1 - i = 1 by omega];simp
 by_cases a2 : axis = xChild
 ·subst a2
  have e : ∀ k, inQ t xChild i k = (plainQ t k && decide (parAt t k = i)) := fun k => by
   unfold inQ;rw [if_neg (by decide), if_neg (by decide), if_neg (by decide), if_neg (by decide), if_pos rfl]
  unfold axisP axisR;rw [if_neg (by decide), if_pos rfl, if_neg (by decide), funext e]
  exact (filter_range (fun k hk hp => by
   simp only [Bool.and_eq_true] at hp
   exact in_child h k hk (of_decide_eq_true hp.2)) hfl).symm
 by_cases a3 : axis = xAttr
 ·subst a3
  have e : ∀ k, inQ t xAttr i k = (!plainQ t k && decide (parAt t k = i)) := fun k => by
   unfold inQ;rw [if_neg (by decide), if_neg (by decide), if_neg (by decide), if_pos rfl]
  unfold axisP axisR;rw [if_neg (by decide), if_neg (by decide), if_pos rfl, if_neg (by decide), funext e]
  exact (filter_range (fun k hk hp => by
   simp only [Bool.and_eq_true] at hp
   exact in_child h k hk (of_decide_eq_true hp.2)) hfl).symm
 by_cases a4 : axis = xParent
 ·subst a4
  have e : ∀ k, inQ t xParent i k = (plainQ t k && decide (parAt t i = k)) := fun k => by
   unfold inQ;rw [if_neg (by decide), if_neg (by decide), if_neg (by decide), if_neg (by decide), if_neg (by decide), if_pos rfl]
  unfold axisP axisR;rw [if_neg (by decide), if_neg (by decide), if_neg (by decide), if_pos rfl, if_neg (by decide), funext e];rcases Nat.eq_zero_or_pos i with rfl | h0
  ·rw [h.anc_end hi (by rw [h.root.1]; omega), List.take_nil]
   symm
   rw [List.filter_eq_nil_iff];intro k _ hp;simp only [Bool.and_eq_true] at hp;have := of_decide_eq_true hp.2;rw [h.root.1] at this;omega
  ·obtain ⟨j, e0, e1, _, _, e4⟩ := h.up i h0 hi
   rw [h.anc_step hi e0, filter_range (a := j) (b := j + 1) (fun k _ hp => by
    simp only [Bool.and_eq_true] at hp;have := of_decide_eq_true hp.2;rw [e0] at this
    omega) (by omega)]
   unfold spanQ;rw [show j + 1 - j = 1 by omega];have hpl : plainQ t j = true := decide_eq_true e4;simp [hpl, e0]
 by_cases a5 : axis = xAnc
 ·subst a5
  have e : ∀ k, inQ t xAnc i k = below t k i := fun k => by
   unfold inQ;rw [if_neg (by decide), if_neg (by decide), if_neg (by decide), if_neg (by decide), if_neg (by decide : ¬ xAnc = xChild), if_neg (by decide), if_pos rfl]
   cases hb : below t k i
   ·simp
   ·rw [anc_plain h hi hb]; rfl
  unfold axisP axisR;rw [if_neg (by decide), if_neg (by decide), if_neg (by decide), if_neg (by decide), if_pos rfl, if_pos (by decide), funext e]
  show _ = List.reverse (List.filter (fun k => below t k i) (List.range t.length))
  rw [anc_all hi, List.reverse_reverse]
 by_cases a6 : axis = xAncS
 ·subst a6
  have e : ∀ k, inQ t xAncS i k = (decide (k = i) || below t k i) := fun k => by
   unfold inQ;rw [if_neg (by decide), if_pos rfl]
  unfold axisP axisR;rw [if_neg (by decide), if_neg (by decide), if_neg (by decide), if_neg (by decide), if_neg (by decide), if_pos rfl, if_pos (by decide), funext e]
  show _ = List.reverse (List.filter (fun k => decide (k = i) || below t k i) (List.range t.length))
  rw [filter_range (a := 0) (b := i + 1) (fun k _ hp => by
   rw [Bool.or_eq_true] at hp;rcases hp with hp | hp
   ·have := of_decide_eq_true hp;omega
   ·unfold below at hp; simp at hp; omega) (by omega)]
  unfold spanQ ancL;rw [Nat.sub_zero, <- List.range_eq_range', List.range_succ, List.filter_append, List.reverse_append];have h1 : [i].filter (fun k => decide (k = i) || below t k i) = [i] := by simp
  have h2 : (List.range i).filter (fun k => decide (k = i) || below t k i) = (List.range i).filter (fun k => below t k i) := List.filter_congr fun k hk => by
   have := List.mem_range.1 hk;rw [decide_eq_false (show ¬ k = i by omega), Bool.false_or]
  rw [h1, h2];rfl
 by_cases a7 : axis = xDesc
 ·subst a7
  have e : ∀ k, inQ t xDesc i k = (plainQ t k && below t i k) := fun k => by
   unfold inQ;rw [if_neg (by decide), if_neg (by decide), if_neg (by decide), if_neg (by decide), if_neg (by decide : ¬ xDesc = xChild), if_neg (by decide), if_neg (by decide), if_pos rfl]
  unfold axisP axisR;rw [if_neg (by decide), if_neg (by decide), if_neg (by decide), if_neg (by decide), if_neg (by decide), if_neg (by decide), if_pos rfl, if_neg (by decide), funext e]
  show _ = List.filter (fun k => plainQ t k && below t i k) (List.range t.length)
  rw [filter_range (a := i + 1) (b := finAt t i) (fun k _ hp => by
   simp only [Bool.and_eq_true] at hp;have := of_decide_eq_true hp.2
   omega) hfl]
  refine spanQ_congr fun k h1 h2 => ?_
  unfold below;rw [decide_eq_true (show i < k /\ k < finAt t i by omega), Bool.and_true]
 by_cases a8 : axis = xDescS
 ·subst a8
  have e : ∀ k, inQ t xDescS i k = (decide (k = i) || (plainQ t k && below t i k)) := fun k => by
   unfold inQ;rw [if_neg (by decide), if_neg (by decide), if_pos rfl]
  unfold axisP axisR;rw [if_neg (by decide), if_neg (by decide), if_neg (by decide), if_neg (by decide), if_neg (by decide), if_neg (by decide), if_neg (by decide), if_pos rfl, if_neg (by decide), funext e]
  show _ = List.filter (fun k => decide (k = i) || (plainQ t k && below t i k)) (List.range t.length)
  rw [filter_range (a := i) (b := finAt t i) (fun k _ hp => by
   rw [Bool.or_eq_true, Bool.and_eq_true] at hp;rcases hp with hp | hp
   ·have := of_decide_eq_true hp;omega
   ·have := of_decide_eq_true hp.2
    omega) hfl]
  unfold spanQ;rw [show finAt t i - i = (finAt t i - (i + 1)) + 1 by omega, List.range'_succ, List.filter_cons, if_pos (by simp)]
  congr 1
  refine List.filter_congr fun k hk => ?_
  rw [List.mem_range'_1] at hk;unfold below;rw [decide_eq_false (show ¬ k = i by omega), decide_eq_true (show i < k /\ k < finAt t i by omega), Bool.and_true, Bool.false_or]
 by_cases a9 : axis = xFoll
 ·subst a9
  have e : ∀ k, inQ t xFoll i k = (plainQ t k && (decide (i < k) && !below t i k)) := fun k => by
   unfold inQ;rw [if_neg (by decide), if_neg (by decide), if_neg (by decide), if_neg (by decide), if_neg (by decide : ¬ xFoll = xChild), if_neg (by decide), if_neg (by decide), if_neg (by decide), if_pos rfl]
  unfold axisP axisR;rw [if_neg (by decide), if_neg (by decide), if_neg (by decide), if_neg (by decide), if_neg (by decide), if_neg (by decide), if_neg (by decide), if_neg (by decide), if_pos rfl, if_neg (by decide), funext e]
  show _ = List.filter (fun k => plainQ t k && (decide (i < k) && !below t i k)) (List.range t.length)
  rw [filter_range (a := finAt t i) (b := t.length) (fun k hk hp => by
   simp only [Bool.and_eq_true, Bool.not_eq_true'] at hp;have h1 := of_decide_eq_true hp.2.1;have h2 := of_decide_eq_false hp.2.2
   omega) (Nat.le_refl _)]
  refine spanQ_congr fun k h1 h2 => ?_
  unfold below;rw [decide_eq_true (show i < k by omega), decide_eq_false (show ¬ (i < k /\ k < finAt t i) by omega)];simp
 by_cases a10 : axis = xFollS
 ·subst a10
  have e : ∀ k, inQ t xFollS i k = (plainQ t k && (decide (i < k) && sibQ t i k)) := fun k => by
   unfold inQ;rw [if_neg (by decide), if_neg (by decide), if_neg (by decide), if_neg (by decide), if_neg (by decide : ¬ xFollS = xChild), if_neg (by decide), if_neg (by decide), if_neg (by decide), if_neg (by decide), if_neg (by decide), if_pos rfl]
  unfold axisP axisR;rw [if_neg (by decide), if_neg (by decide), if_neg (by decide), if_neg (by decide), if_neg (by decide), if_neg (by decide), if_neg (by decide), if_neg (by decide), if_neg (by decide), if_pos rfl, if_neg (by decide), funext e]
  show _ = List.filter (fun k => plainQ t k && (decide (i < k) && sibQ t i k)) (List.range t.length)
  unfold sibP
  split
  ·rename_i hn
   symm
   rw [List.filter_eq_nil_iff];intro k _ hp;simp only [Bool.and_eq_true] at hp;have := of_decide_eq_true hp.2.2;omega
  ·rename_i hn
   rw [filter_range (a := finAt t i) (b := t.length) (fun k hk hp => by
    simp only [Bool.and_eq_true] at hp;have h1 := of_decide_eq_true hp.2.1;have h2 := of_decide_eq_true hp.2.2;rcases Nat.lt_or_ge k (finAt t i) with hlt | hge
    ·have h3 := h.within i k h1 hlt hk;obtain ⟨j, e0, e1, _⟩ := h.up i (h.par_pos hi (by omega)) hi;omega
    ·exact ⟨hge, hk⟩) (Nat.le_refl _)]
   refine spanQ_congr fun k h1 h2 => ?_
   unfold sibQ;rw [decide_eq_true (show i < k by omega), Bool.true_and]
   congr 1
   refine decide_eq_decide.2 ⟨fun e => ⟨by omega, e.symm, by omega⟩, fun e => e.2.1.symm⟩
 by_cases a11 : axis = xPrec
 ·subst a11
  have e : ∀ k, inQ t xPrec i k = (plainQ t k && (decide (k < i) && !below t k i)) := fun k => by
   unfold inQ;rw [if_neg (by decide), if_neg (by decide), if_neg (by decide), if_neg (by decide), if_neg (by decide : ¬ xPrec = xChild), if_neg (by decide), if_neg (by decide), if_neg (by decide), if_neg (by decide), if_pos rfl]
  unfold axisP axisR;rw [if_neg (by decide), if_neg (by decide), if_neg (by decide), if_neg (by decide), if_neg (by decide), if_neg (by decide), if_neg (by decide), if_neg (by decide), if_neg (by decide), if_neg (by decide), if_pos rfl, if_pos (by decide), funext e]
  congr 1
  show _ = List.filter (fun k => plainQ t k && (decide (k < i) && !below t k i)) (List.range t.length)
  rw [filter_range (a := 0) (b := i) (fun k hk hp => by
   simp only [Bool.and_eq_true] at hp;have h1 := of_decide_eq_true hp.2.1
   omega) (by omega)]
  refine spanQ_congr fun k h1 h2 => ?_
  unfold below;rw [decide_eq_true h2, Bool.true_and]
  congr 1
  rw [<- decide_not];exact decide_eq_decide.2 (by omega)
 by_cases a12 : axis = xPrecS
 ·subst a12
  have e : ∀ k, inQ t xPrecS i k = (plainQ t k && (decide (k < i) && sibQ t i k)) := fun k => by
   unfold inQ;rw [if_neg (by decide), if_neg (by decide), if_neg (by decide), if_neg (by decide), if_neg (by decide : ¬ xPrecS = xChild), if_neg (by decide), if_neg (by decide), if_neg (by decide), if_neg (by decide), if_neg (by decide), if_neg (by decide), if_pos rfl]
  unfold axisP axisR;rw [if_neg (by decide), if_neg (by decide), if_neg (by decide), if_neg (by decide), if_neg (by decide), if_neg (by decide), if_neg (by decide), if_neg (by decide), if_neg (by decide), if_neg (by decide), if_neg (by decide), if_pos rfl, if_pos (by decide), funext e]
  congr 1
  show _ = List.filter (fun k => plainQ t k && (decide (k < i) && sibQ t i k)) (List.range t.length)
  unfold sibP
  split
  ·rename_i hn
   symm
   rw [List.filter_eq_nil_iff];intro k _ hp;simp only [Bool.and_eq_true] at hp;have := of_decide_eq_true hp.2.2;omega
  ·rename_i hn
   rw [filter_range (a := 0) (b := i) (fun k hk hp => by
    simp only [Bool.and_eq_true] at hp;have h1 := of_decide_eq_true hp.2.1
    omega) (by omega)]
   refine spanQ_congr fun k h1 h2 => ?_
   unfold sibQ;rw [decide_eq_true h2, Bool.true_and]
   congr 1
   refine decide_eq_decide.2 ⟨fun e => ⟨by omega, e.symm, by omega⟩, fun e => e.2.1.symm⟩
 ·have e : ∀ k, inQ t axis i k = false := fun k => by
   unfold inQ;rw [if_neg a1, if_neg a6, if_neg a8, if_neg a3, if_neg a2, if_neg a4, if_neg a5, if_neg a7, if_neg a9, if_neg a11, if_neg a10, if_neg a12, Bool.and_false]
  unfold axisP axisR;rw [if_neg a1, if_neg a2, if_neg a3, if_neg a4, if_neg a5, if_neg a6, if_neg a7, if_neg a8, if_neg a9, if_neg a10, if_neg a11, if_neg a12];rw [show inQ t axis i = fun _ => false from funext e];have hn : (List.range t.length).filter (fun _ => false) = [] := by simp
  simp only [hn, List.reverse_nil, ite_self]
end
end Go.Proofs.YtdnfnkicmfkkmaaGreatDoor.Vw
end

section
-- wanted: tabD_tab val_eq axis_eq count_axis five pair val_root tabD_paths
namespace Go.Proofs.YtdnfnkicmfkkmaaGreatDoor.Vw
open Go.RowKit UtfW Xl Xt Xo No
open Go.Proofs.YtdnfnkicmfkkmaaGreatDoor (Ky.frontB Ky.Rl)
open Go.Proofs.YtdnfnkicmfkkmaaGreatDoor.Ky (Ts OwX tv join Rs)
theorem q_adr {w : World} {A : Option Addr} {n c : Nat} {t : List Q} (h : Sq QEl 6 w A n c t) (hn : 0 < n) : ∃ b o, A = some ⟨b, o, none⟩ := by
 obtain ⟨b, o, _, _, e, _⟩ := h.at_ hn;exact ⟨b, o, e⟩
theorem q_row {w : World} {b o n c : Nat} {t : List Q} (h : Sq QEl 6 w (some ⟨b, o, none⟩) n c t) {k : Nat} (hk : k < n) : ∃ q, t[k]? = some q /\ w.cell? ⟨b, o + k * 6, none⟩ = some (.int .i64 q.kind) /\ w.cell? ⟨b, o + k * 6 + 1, none⟩ = some (.string (strOf q.name)) /\ w.cell? ⟨b, o + k * 6 + 2, none⟩ = some (.string (strOf q.text)) /\ w.cell? ⟨b, o + k * 6 + 3, none⟩ = some (.int .i64 q.parent) /\ w.cell? ⟨b, o + k * 6 + 4, none⟩ = some (.int .i64 (q.fin : Nat)) /\ w.cell? ⟨b, o + k * 6 + 5, none⟩ = some (.string (strOf q.path)) := by
 obtain ⟨b', o', q, vs, e, _, hq, _, hv, hc⟩ := h.at_ hk;injection e with e;injection e with e1 e2;subst e1 e2;obtain rfl : vs = _ := hv;exact ⟨q, hq, hc 0 _ rfl, hc 1 _ rfl, hc 2 _ rfl, hc 3 _ rfl, hc 4 _ rfl, hc 5 _ rfl⟩
def txS (t : List Q) : Nat := (t.map fun q => q.text.length).sum
theorem txS_append (a b : List Q) : txS (a ++ b) = txS a + txS b := by
 unfold txS;rw [List.map_append, List.sum_append]
theorem txS_cons (q : Q) (b : List Q) : txS (q :: b) = q.text.length + txS b := by
 unfold txS;rw [List.map_cons, List.sum_cons]
theorem attr_txS (a : Nat) (path : Tx) : ∀ (n : Nat) (as_ : List At), txS (attrRows a path n as_) <= wA as_
 | n, [] => by unfold attrRows; exact Nat.zero_le _
 | n, x :: l => by
  unfold attrRows;have := attr_txS a path (n + 1) l;rw [txS_cons, wA];simp only;omega
mutual
theorem tabN_txS (l : List Ky.Rl) : ∀ (n : Nd) (names : List Tx) (a p : Nat) (path : Tx), txS (tabN l names a p path n) <= wN n
 | .mk k nm tx as_ ks, names, a, p, path => by
  unfold tabN;have h1 := tabL_txS l ks names (decide (names ≠ []) && !Ky.frontB l names) (a + 1 + as_.length) a path 0;have h2 := attr_txS a path (a + 1) as_;simp only [txS_cons, txS_append];rw [wN];omega
theorem tabL_txS (l : List Ky.Rl) : ∀ (ks : List Nd) (names : List Tx) (keyed : Bool) (a p : Nat) (path : Tx) (i : Nat), txS (tabL l names keyed a p path i ks) <= wL ks
 | [], _, _, _, _, _, _ => by unfold tabL; exact Nat.zero_le _
 | x :: xs, names, keyed, a, p, path, i => by
  unfold tabL;have h1 := tabN_txS l x (if keyed then names ++ [x.name] else []) a p (path ++ 47 :: (if keyed then endS (stepK l names x) else 35 :: Lib.decDigits (i + 1)));have h2 := tabL_txS l xs names keyed (a + (tabN l (if keyed then names ++ [x.name] else []) a p (path ++ 47 :: (if keyed then endS (stepK l names x) else 35 :: Lib.decDigits (i + 1))) x).length) p path (i + 1);simp only [txS_append];rw [wL];omega
end
set_option maxHeartbeats 20000000 in
set_option maxRecDepth 100000 in
theorem above_any {t : List Q} (hT : Tab t) (A : Option Addr) (n c : Nat) (w : World) (h : Sq QEl 6 w A n c t) (a b : Nat) (hb : b < n) :
  Calls Tryz.prog 34 #[.slice A n c, .int .i64 (a : Nat), .int .i64 (b : Nat)] w fun e w' => e = .returned (.bool (below t a b)) /\ w' = w := by
 have hl := h.len;have l1 := h.le;have l2 := h.max;obtain ⟨R, hR⟩ : ∃ R, below t a b = R := ⟨_, rfl⟩;rw [hR];obtain ⟨b0, o0, rfl⟩ := q_adr h (by omega);have h' := Hd h;have hlH := Hd hl;have hRH := Hd hR;have hTH := Hd hT;clear h hl hR hT
 go_enter Tryz.func34, Tryz.ntmps34
 go_wp2_with fail
 go_loopw [2] (fun v wr => Hid (wr = w) /\ ∃ B : Int, v = .int .i64 B /\ Hid ((B = -1 /\ R = false) \/ ∃ k : Nat, k < n /\ B = k /\ below t a k = R)) (fun v _ => (intOf v + 1).toNat)
 case atStart => exact ⟨Hd rfl, _, rfl, Hd (.inr ⟨b, hb, rfl, hRH.out⟩)⟩
 case round =>
  obtain ⟨hw0, B, rfl, hB⟩ := hrel;obtain rfl := hw0.out;rcases hB.out with ⟨rfl, hRf⟩ | ⟨k, hk, rfl, hRk⟩
  ·have hRfH := Hd hRf;clear hRf hB;go_wp2_with fail;go_ret;exact ⟨by rw [hRfH.out]; rfl, rfl⟩
  ·obtain ⟨q, hq, m0, m1, m2, m3, m4, m5⟩ := q_row h'.out hk;have hqH := Hd hq;have hRkH := Hd hRk;have ek := Hd (at_some hq);clear m0 m1 m2 m4 m5 hq hRk hB;have e1 : decide ((0 : Int) <= (k : Int)) = true := by rw [decide_eq_true_eq]; omega
   have e3 : (k : Int) < (n : Int) := by omega
   by_cases hk0 : k = 0
   ·have hp : q.parent = -1 := by
     rw [<- ek.out.2.1, hk0, hTH.out.root.1]
    have hno : Hid (R = false) := Hd (by rw [<- hRkH.out, hk0, below_zero]);have e4 : ((-1 : Int) == (a : Int)) = false := by rw [beq_eq_false_iff_ne]; omega
    rw [hp] at m3;clear hp hk0;go_wp2_with fail;go_roundw
    case rel => exact ⟨Hd (by simp), -1, rfl, Hd (.inl ⟨rfl, hno.out⟩)⟩
    case measure => simp [intOf]
   ·obtain ⟨j, hj, hjk, _, _, _⟩ := hTH.out.up k (by omega) (by rw [hlH.out]; exact hk);have hp : q.parent = (j : Int) := (by rw [<- ek.out.2.1, hj]);have hst := Hd (hTH.out.below_step (a := a) (by rw [hlH.out]; exact hk) hj);rw [hp] at m3;have e4 : decide ((0 : Int) <= (j : Int)) = true := by rw [decide_eq_true_eq]; omega
    clear hp hk0 hj
    by_cases hja : j = a
    ·have e5 : ((j : Int) == (a : Int)) = true := by rw [beq_iff_eq]; omega
     have hyes : Hid (R = true) := Hd (by rw [<- hRkH.out, hst.out, hja]; simp);clear hst hja;go_wp2_with fail;go_ret;exact ⟨by rw [hyes.out]; rfl, rfl⟩
    ·have e5 : ((j : Int) == (a : Int)) = false := by rw [beq_eq_false_iff_ne]; omega
     have hnext : Hid (below t a j = R) := Hd (by rw [<- hRkH.out, hst.out]; simp [hja]);clear hst hja;go_wp2_with fail;go_roundw
     case rel => exact ⟨Hd (by simp), _, rfl, Hd (.inr ⟨j, by omega, rfl, hnext.out⟩)⟩
     case measure => simp [intOf]; omega
end Go.Proofs.YtdnfnkicmfkkmaaGreatDoor.Vw
end

section
namespace Go.Proofs.YtdnfnkicmfkkmaaGreatDoor.Vw
open Go.RowKit UtfW Xl Xt Xo No
open Go.Proofs.YtdnfnkicmfkkmaaGreatDoor (Ky.frontB Ky.Rl)
open Go.Proofs.YtdnfnkicmfkkmaaGreatDoor.Ky (Ts OwX tv join Rs)
def valK (t : List Q) (i k : Nat) : Tx := ((List.range k).filter fun j => decide (kindAt t j = 2) && below t i j).flatMap (textAt t)
theorem valK_succ {t : List Q} (i : Nat) {k : Nat} {q : Q} (hq : t[k]? = some q) : valK t i (k + 1) = valK t i k ++ (if q.kind = 2 /\ below t i k = true then q.text else []) := by
 unfold valK;rw [List.range_succ, List.filter_append, List.flatMap_append]
 congr 1
 have e := at_some hq
 by_cases h1 : q.kind = 2 /\ below t i k = true
 ·rw [if_pos h1];have h2 : (decide (kindAt t k = 2) && below t i k) = true := by rw [e.1, h1.2]; simpa using h1.1
  simp [h2, e.2.2.2]
 ·rw [if_neg h1]
  have h2 : (decide (kindAt t k = 2) && below t i k) = false := by
   rw [Bool.eq_false_iff];intro h3;simp only [Bool.and_eq_true, decide_eq_true_eq] at h3;exact h1 ⟨by rw [<- e.1]; exact h3.1, h3.2⟩
  simp [h2]
theorem valK_len {t : List Q} (i : Nat) {k : Nat} (hk : k <= t.length) : (valK t i k).length <= txS t := by
 have h1 : ∀ k, k <= t.length -> (valK t i k).length <= txS (t.take k) := by
  intro k
  induction k with
  | zero => intro _; unfold valK; simp
  | succ k ih =>
   intro hk;obtain ⟨q, hq⟩ : ∃ q, t[k]? = some q := ⟨_, List.getElem?_eq_getElem (by omega)⟩;have := ih (by omega);rw [valK_succ i hq, take_snoc hq, txS_append, List.length_append, txS_cons]
   split <;> simp <;> omega
 refine Nat.le_trans (h1 k hk) ?_;have h2 : txS t = txS (t.take k) + txS (t.drop k) := by rw [<- txS_append, List.take_append_drop]
 omega
set_option maxHeartbeats 20000000 in
set_option maxRecDepth 100000 in
theorem rvalue_any {t : List Q} (hT : Tab t) (A : Option Addr) (n c : Nat) (w : World) (h : Sq QEl 6 w A n c t) (hz : txS t <= 100000000) (i : Int) :
  Calls Tryz.prog 15 #[.slice A n c, .int .i64 i] w fun e w' => e = .returned (.string (strOf (valQ t i))) /\ w' = w := by
 have hl := h.len;have l1 := h.le;have l2 := h.max;have hl0 := hT.pos;obtain ⟨b0, o0, rfl⟩ := q_adr h (by omega);have h' := Hd h;have hlH := Hd hl;have hTH := Hd hT;have hzH := Hd hz;clear h hT hz
 by_cases hi0 : i < 0
 ·have hv : valQ t i = [] := by unfold valQ; rw [if_pos (.inl hi0)]
  rw [hv];have e1 : decide (i < 0) = true := by rw [decide_eq_true_eq]; exact hi0
  clear hl hl0 hv
  go_enter Tryz.func15, Tryz.ntmps15
  go_wp2_with fail;go_ret;exact ⟨rfl, rfl⟩
 have e1 : decide (i < 0) = false := by rw [decide_eq_false_iff_not]; exact hi0
 by_cases hin : (n : Int) <= i
 ·have hv : valQ t i = [] := by unfold valQ; rw [if_pos (.inr (by omega))]
  rw [hv];have e2 : decide ((n : Int) <= i) = true := by rw [decide_eq_true_eq]; exact hin
  clear hl hl0 hv
  go_enter Tryz.func15, Tryz.ntmps15
  go_wp2_with fail;go_ret;exact ⟨rfl, rfl⟩
 have e2 : decide ((n : Int) <= i) = false := by rw [decide_eq_false_iff_not]; exact hin
 obtain ⟨m, rfl⟩ : ∃ m : Nat, i = (m : Int) := ⟨i.toNat, by omega⟩;have hm : m < n := by omega
 have e3 : (m : Int) < (n : Int) := by omega
 obtain ⟨q, hq, m0, m1, m2, m3, m4, m5⟩ := q_row h'.out hm;have ek := at_some hq
 by_cases hkd : q.kind = 6 \/ q.kind = 1
 ·have hv : valQ t m = valK t m n := by
   unfold valQ valK;rw [if_neg (by omega), if_neg (by rw [Int.toNat_natCast, ek.1]; omega), Int.toNat_natCast, hl]
  rw [hv];clear hl hl0 hv ek hq m1 m2 m3 m4 m5;rcases hkd with hkd | hkd
  ·rw [hkd] at m0;clear hkd
   go_enter Tryz.func15, Tryz.ntmps15
   go_wp2_with fail
   go_loopw [5, 6] (fun v5 v6 wr => ∃ (k : Nat) (S : ByteArray), k <= n /\ v6 = .int .i64 (k : Nat) /\ v5 = .string S /\ Hid (S = strOf (valK t m k)) /\ Hid (wr = w)) (fun _ v6 _ => n - (intOf v6).toNat)
   case atStart => exact ⟨0, _, by omega, rfl, rfl, Hd rfl, Hd rfl⟩
   case round =>
    obtain ⟨k, S, hk, rfl, rfl, hS, hw0⟩ := hrel;obtain rfl := hw0.out
    by_cases hlt : k < n
    ·have i1 : decide ((k : Int) < (n : Int)) = true := by rw [decide_eq_true_eq]; omega
     have i2 : decide (k < n) = true := by rw [decide_eq_true_eq]; omega
     have i3 : (k : Int) < (n : Int) := (by omega);obtain ⟨q, hq, g0, g1, g2, g3, g4, g5⟩ := q_row h'.out hlt;have hst := Hd (valK_succ m hq);have hsz := Hd (valK_len m (k := k + 1) (Nat.le_trans (Nat.le_of_eq rfl) (show k + 1 <= t.length by rw [hlH.out]; exact hlt)));clear hq g1 g3 g4 g5
     by_cases hk2 : q.kind = 2
     ·rw [hk2] at g0;have hcall := Hd (above_any hTH.out (some ⟨b0, o0, none⟩) n c wr h'.out m k hlt)
      by_cases hbl : below t m k = true
      ·have hnext' : valK t m (k + 1) = valK t m k ++ q.text := by rw [hst.out, if_pos ⟨hk2, hbl⟩]
       have e5 := fun w => add_txt w (valK t m k) q.text (by
        have h1 := hsz.out;rw [hnext', List.length_append] at h1;have h2 := hzH.out
        omega)
       obtain ⟨S1, hS1⟩ : ∃ S, strOf (valK t m k ++ q.text) = S := ⟨_, rfl⟩;obtain ⟨S2, hS2⟩ : ∃ S, strOf q.text = S := ⟨_, rfl⟩;rw [hS1, hS2, <- hS.out] at e5;rw [hS2] at g2;have hnext : Hid (S1 = strOf (valK t m (k + 1))) := Hd (by rw [<- hS1, hnext']);rw [hbl] at hcall;clear hnext' hst hsz hk2 hbl hS1 hS2;go_wp2_with fail;refine hcall.out.mono ?_;rintro e w' ⟨rfl, rfl⟩;go_wp2_with fail;go_roundw
       case rel => exact ⟨k + 1, _, by omega, by go_num, rfl, hnext, Hd (by simp)⟩
       case measure => simp [intOf]; omega
      ·have hnext : Hid (S = strOf (valK t m (k + 1))) := Hd (by rw [hS.out, hst.out, if_neg (fun h => hbl h.2), List.append_nil]);rw [show below t m k = false by simpa using hbl] at hcall;clear hst hsz hk2 hbl;go_wp2_with fail;refine hcall.out.mono ?_;rintro e w' ⟨rfl, rfl⟩;go_wp2_with fail;go_roundw
       case rel => exact ⟨k + 1, _, by omega, by go_num, rfl, hnext, Hd (by simp)⟩
       case measure => simp [intOf]; omega
     ·have hnext : Hid (S = strOf (valK t m (k + 1))) := Hd (by rw [hS.out, hst.out, if_neg (fun h => hk2 h.1), List.append_nil]);have e5 : (q.kind == 2) = false := by rw [beq_eq_false_iff_ne]; exact hk2
      clear hst hsz hk2;go_wp2_with fail;go_roundw
      case rel => exact ⟨k + 1, _, by omega, by go_num, rfl, hnext, Hd (by simp)⟩
      case measure => simp [intOf]; omega
    ·have i1 : decide ((k : Int) < (n : Int)) = false := by rw [decide_eq_false_iff_not]; omega
     have i2 : decide (k < n) = false := by rw [decide_eq_false_iff_not]; omega
     obtain rfl : k = n := by omega
     go_wp2_with fail;go_ret;exact ⟨by rw [hS.out]; rfl, rfl⟩
  ·rw [hkd] at m0;clear hkd
   go_enter Tryz.func15, Tryz.ntmps15
   go_wp2_with fail
   go_loopw [5, 6] (fun v5 v6 wr => ∃ (k : Nat) (S : ByteArray), k <= n /\ v6 = .int .i64 (k : Nat) /\ v5 = .string S /\ Hid (S = strOf (valK t m k)) /\ Hid (wr = w)) (fun _ v6 _ => n - (intOf v6).toNat)
   case atStart => exact ⟨0, _, by omega, rfl, rfl, Hd rfl, Hd rfl⟩
   case round =>
    obtain ⟨k, S, hk, rfl, rfl, hS, hw0⟩ := hrel;obtain rfl := hw0.out
    by_cases hlt : k < n
    ·have i1 : decide ((k : Int) < (n : Int)) = true := by rw [decide_eq_true_eq]; omega
     have i2 : decide (k < n) = true := by rw [decide_eq_true_eq]; omega
     have i3 : (k : Int) < (n : Int) := (by omega);obtain ⟨q, hq, g0, g1, g2, g3, g4, g5⟩ := q_row h'.out hlt;have hst := Hd (valK_succ m hq);have hsz := Hd (valK_len m (k := k + 1) (Nat.le_trans (Nat.le_of_eq rfl) (show k + 1 <= t.length by rw [hlH.out]; exact hlt)));clear hq g1 g3 g4 g5
     by_cases hk2 : q.kind = 2
     ·rw [hk2] at g0;have hcall := Hd (above_any hTH.out (some ⟨b0, o0, none⟩) n c wr h'.out m k hlt)
      by_cases hbl : below t m k = true
      ·have hnext' : valK t m (k + 1) = valK t m k ++ q.text := by rw [hst.out, if_pos ⟨hk2, hbl⟩]
       have e5 := fun w => add_txt w (valK t m k) q.text (by
        have h1 := hsz.out;rw [hnext', List.length_append] at h1;have h2 := hzH.out
        omega)
       obtain ⟨S1, hS1⟩ : ∃ S, strOf (valK t m k ++ q.text) = S := ⟨_, rfl⟩;obtain ⟨S2, hS2⟩ : ∃ S, strOf q.text = S := ⟨_, rfl⟩;rw [hS1, hS2, <- hS.out] at e5;rw [hS2] at g2;have hnext : Hid (S1 = strOf (valK t m (k + 1))) := Hd (by rw [<- hS1, hnext']);rw [hbl] at hcall;clear hnext' hst hsz hk2 hbl hS1 hS2;go_wp2_with fail;refine hcall.out.mono ?_;rintro e w' ⟨rfl, rfl⟩;go_wp2_with fail;go_roundw
       case rel => exact ⟨k + 1, _, by omega, by go_num, rfl, hnext, Hd (by simp)⟩
       case measure => simp [intOf]; omega
      ·have hnext : Hid (S = strOf (valK t m (k + 1))) := Hd (by rw [hS.out, hst.out, if_neg (fun h => hbl h.2), List.append_nil]);rw [show below t m k = false by simpa using hbl] at hcall;clear hst hsz hk2 hbl;go_wp2_with fail;refine hcall.out.mono ?_;rintro e w' ⟨rfl, rfl⟩;go_wp2_with fail;go_roundw
       case rel => exact ⟨k + 1, _, by omega, by go_num, rfl, hnext, Hd (by simp)⟩
       case measure => simp [intOf]; omega
     ·have hnext : Hid (S = strOf (valK t m (k + 1))) := Hd (by rw [hS.out, hst.out, if_neg (fun h => hk2 h.1), List.append_nil]);have e5 : (q.kind == 2) = false := by rw [beq_eq_false_iff_ne]; exact hk2
      clear hst hsz hk2;go_wp2_with fail;go_roundw
      case rel => exact ⟨k + 1, _, by omega, by go_num, rfl, hnext, Hd (by simp)⟩
      case measure => simp [intOf]; omega
    ·have i1 : decide ((k : Int) < (n : Int)) = false := by rw [decide_eq_false_iff_not]; omega
     have i2 : decide (k < n) = false := by rw [decide_eq_false_iff_not]; omega
     obtain rfl : k = n := by omega
     go_wp2_with fail;go_ret;exact ⟨by rw [hS.out]; rfl, rfl⟩
 ·have hv : valQ t m = q.text := by
   unfold valQ;rw [if_neg (by omega), if_pos (by rw [Int.toNat_natCast, ek.1]; omega), Int.toNat_natCast, ek.2.2.2]
  rw [hv];have e4 : (q.kind != 6) = true := by rw [bne_iff_ne]; omega
  have e5 : (q.kind != 1) = true := by rw [bne_iff_ne]; omega
  clear hl hl0 hv ek hq m1 m3 m4 m5 hkd
  go_enter Tryz.func15, Tryz.ntmps15
  go_wp2_with fail;go_ret;exact ⟨rfl, rfl⟩
end Go.Proofs.YtdnfnkicmfkkmaaGreatDoor.Vw
end

section
namespace Go.Proofs.YtdnfnkicmfkkmaaGreatDoor.Ky
open Go.RowKit Go.Shelf UtfW
abbrev Bd (B b : Nat) (l : List UInt8) (w : World) : Prop := Lib.IsBuilder 83 5 B b (Lib.byteCells l) w
theorem Bd.below {B b : Nat} {l : List UInt8} {w w' : World} (h : Bd B b l w) (hb : Below w.heap.size w w') : Bd B b l w' := by
 have key : ∀ p, Lib.BuilderAt 83 5 B b p (Lib.byteCells l) w -> Lib.BuilderAt 83 5 B b p (Lib.byteCells l) w' := fun p h => by
  have hlt := h.lt;obtain ⟨hB, v, hv, hown, hne⟩ := h;exact ⟨hB, v, (hb.block b hlt).trans hv, hown.kept (row := none) (grown_of_below hb) (Classical.em _), hne⟩
 exact h.elim (fun x => .inl (key _ x)) (fun x => .inr (key _ x))
theorem bd_new (w : World) (B : Nat) (hB : B <= w.heap.size) : Bd B w.heap.size [] (w.alloc (.cells #[.pointer none, .slice none 0 0] 83)) :=
 .inl ⟨hB, _, heap_alloc_new w _, World.ownsRow_nil _ B _ 1, by simp [Value.ownBlock]⟩
theorem write_any (B b : Nat) (l : List UInt8) (s : ByteArray) (w : World) (h : Bd B b l w) (hlen : l.length + s.size <= 1000000) (hBw : B <= w.heap.size) :
  Calls Tryz.prog 32 #[.pointer (some ⟨b, 0, none⟩), .string s] w fun e w' => e = .returned (.tuple #[.int .i64 s.size, .nilIface]) /\ Bd B b (l ++ s.data.toList) w' /\ Below B w w' := by
 refine (Any.Builder_WriteString { Tryz.lays156 with } Tryz.extra156 B b (Lib.byteCells l) s w h (by simp [Lib.byteCells]; omega) hBw).mono ?_;rintro e w' ⟨rfl, h1, h2⟩;refine ⟨rfl, .inr ?_, h2⟩;have e : Lib.byteCells (l ++ s.data.toList) = Lib.byteCells l ++ Lib.strCells s := by simp [Lib.byteCells, Lib.strCells]
 rw [e];exact h1
theorem string_any (B b : Nat) (l : List UInt8) (w : World) (h : Bd B b l w) (hBw : B <= w.heap.size) :
  Calls Tryz.prog 33 #[.pointer (some ⟨b, 0, none⟩)] w fun e w' => e = .returned (.string (strOf l)) /\ Below B w w' :=
 Any.Builder_String_any { Tryz.lays156 with } Tryz.extra156 B b l w h hBw
end Go.Proofs.YtdnfnkicmfkkmaaGreatDoor.Ky
end

section
namespace Go.Proofs.YtdnfnkicmfkkmaaGreatDoor.Vw
open Go.RowKit UtfW Xl Xt Xo No
open Go.Proofs.YtdnfnkicmfkkmaaGreatDoor (Ky.frontB Ky.Rl)
open Go.Proofs.YtdnfnkicmfkkmaaGreatDoor.Ky (Ts OwX tv join Rs)
def valS (t : List Q) (i k : Nat) : Tx := ((List.range' i k).filter fun j => decide (kindAt t j = 2)).flatMap (textAt t)
theorem valS_succ {t : List Q} (i : Nat) {k : Nat} {q : Q} (hq : t[i + k]? = some q) : valS t i (k + 1) = valS t i k ++ (if q.kind = 2 then q.text else []) := by
 unfold valS;rw [List.range'_1_concat, List.filter_append, List.flatMap_append]
 congr 1
 have e := at_some hq
 by_cases h1 : q.kind = 2
 ·rw [if_pos h1];have h2 : decide (kindAt t (i + k) = 2) = true := by rw [e.1]; simpa using h1
  simp [h2, e.2.2.2]
 ·rw [if_neg h1];have h2 : decide (kindAt t (i + k) = 2) = false := by rw [e.1]; simpa using h1
  simp [h2]
theorem valS_len {t : List Q} (i : Nat) {k : Nat} (hk : i + k <= t.length) : (valS t i k).length <= txS t := by
 have h1 : ∀ k, i + k <= t.length -> (valS t i k).length <= txS (t.take (i + k)) := by
  intro k
  induction k with
  | zero => intro _; unfold valS; simp
  | succ k ih =>
   intro hk;obtain ⟨q, hq⟩ : ∃ q, t[i + k]? = some q := ⟨_, List.getElem?_eq_getElem (by omega)⟩;have := ih (by omega);rw [valS_succ i hq, <- Nat.add_assoc, take_snoc hq, txS_append, List.length_append, txS_cons]
   split <;> simp <;> omega
 refine Nat.le_trans (h1 k hk) ?_;have h2 : txS t = txS (t.take (i + k)) + txS (t.drop (i + k)) := by rw [<- txS_append, List.take_append_drop]
 omega
set_option maxHeartbeats 20000000 in
set_option maxRecDepth 100000 in
theorem pvalue_any {t : List Q} (hT : Tab t) (A : Option Addr) (n c : Nat) (w : World) (h : Sq QEl 6 w A n c t) (hz : txS t <= 1000000) (i : Int) :
  Calls Tryz.prog 14 #[.slice A n c, .int .i64 i] w fun e w' => e = .returned (.string (strOf (valP t i))) /\ Below w.heap.size w w' := by
 have hl := h.len;have l1 := h.le;have l2 := h.max;have hl0 := hT.pos;obtain ⟨b0, o0, rfl⟩ := q_adr h (by omega);have h' := Hd h;have hlH := Hd hl;have hzH := Hd hz;clear h hz
 by_cases hi0 : i < 0
 ·have hv : valP t i = [] := by unfold valP; rw [if_pos (.inl hi0)]
  rw [hv];have e1 : decide (i < 0) = true := by rw [decide_eq_true_eq]; exact hi0
  clear hl hl0 hv hT
  go_enter Tryz.func14, Tryz.ntmps14
  go_wp2_with fail;go_ret;exact ⟨rfl, Below.refl _ _⟩
 have e1 : decide (i < 0) = false := by rw [decide_eq_false_iff_not]; exact hi0
 by_cases hin : (n : Int) <= i
 ·have hv : valP t i = [] := by unfold valP; rw [if_pos (.inr (by omega))]
  rw [hv];have e2 : decide ((n : Int) <= i) = true := by rw [decide_eq_true_eq]; exact hin
  clear hl hl0 hv hT
  go_enter Tryz.func14, Tryz.ntmps14
  go_wp2_with fail;go_ret;exact ⟨rfl, Below.refl _ _⟩
 have e2 : decide ((n : Int) <= i) = false := by rw [decide_eq_false_iff_not]; exact hin
 obtain ⟨m, rfl⟩ : ∃ m : Nat, i = (m : Int) := ⟨i.toNat, by omega⟩;have hm : m < n := by omega
 have e3 : (m : Int) < (n : Int) := by omega
 obtain ⟨q, hq, m0, m1, m2, m3, m4, m5⟩ := q_row h'.out hm;have ek := at_some hq;have hfg := hT.fin_gt (i := m) (by omega);have hfl := hT.fin_le (i := m) (by omega);rw [ek.2.2.1] at hfg hfl;rw [hl] at hfl
 by_cases hkd : q.kind = 6 \/ q.kind = 1
 ·obtain ⟨F, hF⟩ : ∃ F, q.fin - m = F := ⟨_, rfl⟩;have hfe : q.fin = m + F := by omega
  have hv : valP t m = valS t m F := by
   unfold valP valS spanQ;rw [if_neg (by omega), if_neg (by rw [Int.toNat_natCast, ek.1]; omega), Int.toNat_natCast, ek.2.2.1, hF]
  rw [hv];rw [hfe] at m4 hfl hfg;have q0 : ((m + F : Nat) : Int) <= (c : Int) := by omega
  have q1 : (0 : Int) <= ((m + F : Nat) : Int) /\ ((m + F : Nat) : Int) <= (c : Int) := ⟨by omega, by omega⟩;have q2 : (0 : Int) <= (m : Int) /\ (m : Int) <= ((m + F : Nat) : Int) := ⟨by omega, by omega⟩;have q3 : m + F <= c := by omega
  have q4 : (m : Int) <= ((m + F : Nat) : Int) := by omega
  have q5 : ¬ c = m := by omega
  have hnb := Ky.bd_new w w.heap.size (Nat.le_refl _);have hb1 := below_alloc w (.cells #[.pointer none, .slice none 0 0] 83);obtain ⟨T, hT⟩ : ∃ T, w.heap.size = T := ⟨_, rfl⟩;obtain ⟨w1, hw1⟩ : ∃ w1, w.alloc (.cells #[.pointer none, .slice none 0 0] 83) = w1 := ⟨_, rfl⟩;obtain ⟨r, hr, u0, u1, u2, u3, u4, u5⟩ := q_row (h'.out.below QEl.to hb1) hm;obtain rfl : q = r := by rw [hq] at hr; exact Option.some.inj hr
  rw [hw1] at hb1 hnb u4;rw [hT] at hnb;rw [hfe] at u4;have hnb := Hd hnb;have hb1 := Hd hb1;have hTH := Hd hT;clear hl hl0 hv ek hq m1 m2 m3 m4 m5 hF hfe u0 u1 u2 u3 u5 hr;rcases hkd with hkd | hkd
  ·rw [hkd] at m0;clear hkd
   go_enter Tryz.func14, Tryz.ntmps14
   go_wp2_with fail;clear hw1 hT
   go_loopw [44] (fun vi wr => ∃ k : Nat, k <= F /\ vi = .int .i64 (k : Nat) /\ Hid (Ky.Bd T T (valS t m k) wr) /\ Hid (Below w.heap.size w wr)) (fun vi _ => F - (intOf vi).toNat)
   case atStart => exact ⟨0, by omega, rfl, hnb, hb1⟩
   case round =>
    obtain ⟨k, hk, rfl, hbd, hb⟩ := hrel;have hTr : T <= wr.heap.size := by have := hb.out.size; have := hTH.out; omega
    by_cases hlt : k < F
    ·have i1 : decide ((k : Int) < (F : Int)) = true := by rw [decide_eq_true_eq]; omega
     have i2 : decide (k < F) = true := by rw [decide_eq_true_eq]; omega
     have i3 : (k : Int) < (F : Int) := (by omega);obtain ⟨q, hq, g0, g1, g2, g3, g4, g5⟩ := q_row (h'.out.below QEl.to hb.out) (k := m + k) (by omega);rw [Nat.add_mul, <- Nat.add_assoc] at g0 g1 g2 g3 g4 g5;have hst := Hd (valS_succ m hq);have hsz := Hd (valS_len m (k := k + 1) (show m + (k + 1) <= t.length by rw [hlH.out]; omega));obtain ⟨S2, hS2⟩ : ∃ S, strOf q.text = S := ⟨_, rfl⟩;rw [hS2] at g2;obtain ⟨w7, hw7⟩ : ∃ w7, wr.alloc (.cells #[.int .i64 q.kind, .string (strOf q.name), .string S2, .int .i64 q.parent, .int .i64 (q.fin : Nat), .string (strOf q.path)] 41) = w7 := ⟨_, rfl⟩;have hb7 := below_alloc wr (.cells #[.int .i64 q.kind, .string (strOf q.name), .string S2, .int .i64 q.parent, .int .i64 (q.fin : Nat), .string (strOf q.path)] 41);have hk7 := heap_alloc_new wr (.cells #[.int .i64 q.kind, .string (strOf q.name), .string S2, .int .i64 q.parent, .int .i64 (q.fin : Nat), .string (strOf q.path)] 41);rw [hw7] at hb7 hk7;have hbd7 := Hd (hbd.out.below hb7);have hb7' := Hd (hb.out.trans (hb7.mono hb.out.size));have hT7 : T <= w7.heap.size := by have := hb7.size; omega
     obtain ⟨p7, hp7⟩ : ∃ p7, wr.heap.size = p7 := ⟨_, rfl⟩;rw [hp7] at hk7;have c0 := Xp.cell_blk hk7 (i := 0) rfl;have c2 := Xp.cell_blk hk7 (i := 2) rfl;clear hq hb7 hk7
     by_cases hk2 : q.kind = 2
     ·have hnext' : valS t m (k + 1) = valS t m k ++ q.text := by rw [hst.out, if_pos hk2]
      have hcall := Hd (Ky.write_any T T (valS t m k) S2 w7 hbd7.out (by
       have h1 := hsz.out;rw [hnext', List.length_append] at h1;have h2 := hzH.out;rw [<- hS2, strOf_size']
       omega) hT7)
      have hnx : Hid (valS t m k ++ S2.data.toList = valS t m (k + 1)) := Hd (by rw [hnext', <- hS2]; simp [strOf]);have e5 : (q.kind == 2) = true := by rw [beq_iff_eq]; exact hk2
      clear hnext' hst hsz hk2;go_wp2_with fail;refine hcall.out.mono ?_;rintro e w' ⟨rfl, hn, hb8⟩;have hnext := Hd (show Ky.Bd T T (valS t m (k + 1)) w' by rw [<- hnx.out]; exact hn);have hb8 := Hd (hb7'.out.trans (hb8.mono (by have := hb1.out.size; have := hTH.out; omega)));clear hn;go_wp2_with fail;go_roundw
      case rel => exact ⟨k + 1, by omega, by go_num, hnext, hb8⟩
      case measure => simp [intOf]; omega
     ·have hnext := Hd (show Ky.Bd T T (valS t m (k + 1)) w7 by rw [hst.out, if_neg hk2, List.append_nil]; exact hbd7.out);have e5 : (q.kind == 2) = false := by rw [beq_eq_false_iff_ne]; exact hk2
      have hb8 := hb7';clear hst hsz hk2;go_wp2_with fail;go_roundw
      case rel => exact ⟨k + 1, by omega, by go_num, hnext, hb8⟩
      case measure => simp [intOf]; omega
    ·have i1 : decide ((k : Int) < (F : Int)) = false := by rw [decide_eq_false_iff_not]; omega
     have i2 : decide (k < F) = false := by rw [decide_eq_false_iff_not]; omega
     obtain rfl : k = F := by omega
     have hcall := Hd (Ky.string_any T T (valS t m k) wr hbd.out hTr);go_wp2_with fail;refine hcall.out.mono ?_;rintro e w' ⟨rfl, hb9⟩;have hb9 := Hd (hb.out.trans (hb9.mono (by have := hb1.out.size; have := hTH.out; omega)));go_wp2_with fail;go_ret;exact ⟨rfl, hb9.out⟩
  ·rw [hkd] at m0;clear hkd
   go_enter Tryz.func14, Tryz.ntmps14
   go_wp2_with fail;clear hw1 hT
   go_loopw [44] (fun vi wr => ∃ k : Nat, k <= F /\ vi = .int .i64 (k : Nat) /\ Hid (Ky.Bd T T (valS t m k) wr) /\ Hid (Below w.heap.size w wr)) (fun vi _ => F - (intOf vi).toNat)
   case atStart => exact ⟨0, by omega, rfl, hnb, hb1⟩
   case round =>
    obtain ⟨k, hk, rfl, hbd, hb⟩ := hrel;have hTr : T <= wr.heap.size := by have := hb.out.size; have := hTH.out; omega
    by_cases hlt : k < F
    ·have i1 : decide ((k : Int) < (F : Int)) = true := by rw [decide_eq_true_eq]; omega
     have i2 : decide (k < F) = true := by rw [decide_eq_true_eq]; omega
     have i3 : (k : Int) < (F : Int) := (by omega);obtain ⟨q, hq, g0, g1, g2, g3, g4, g5⟩ := q_row (h'.out.below QEl.to hb.out) (k := m + k) (by omega);rw [Nat.add_mul, <- Nat.add_assoc] at g0 g1 g2 g3 g4 g5;have hst := Hd (valS_succ m hq);have hsz := Hd (valS_len m (k := k + 1) (show m + (k + 1) <= t.length by rw [hlH.out]; omega));obtain ⟨S2, hS2⟩ : ∃ S, strOf q.text = S := ⟨_, rfl⟩;rw [hS2] at g2;obtain ⟨w7, hw7⟩ : ∃ w7, wr.alloc (.cells #[.int .i64 q.kind, .string (strOf q.name), .string S2, .int .i64 q.parent, .int .i64 (q.fin : Nat), .string (strOf q.path)] 41) = w7 := ⟨_, rfl⟩;have hb7 := below_alloc wr (.cells #[.int .i64 q.kind, .string (strOf q.name), .string S2, .int .i64 q.parent, .int .i64 (q.fin : Nat), .string (strOf q.path)] 41);have hk7 := heap_alloc_new wr (.cells #[.int .i64 q.kind, .string (strOf q.name), .string S2, .int .i64 q.parent, .int .i64 (q.fin : Nat), .string (strOf q.path)] 41);rw [hw7] at hb7 hk7;have hbd7 := Hd (hbd.out.below hb7);have hb7' := Hd (hb.out.trans (hb7.mono hb.out.size));have hT7 : T <= w7.heap.size := by have := hb7.size; omega
     obtain ⟨p7, hp7⟩ : ∃ p7, wr.heap.size = p7 := ⟨_, rfl⟩;rw [hp7] at hk7;have c0 := Xp.cell_blk hk7 (i := 0) rfl;have c2 := Xp.cell_blk hk7 (i := 2) rfl;clear hq hb7 hk7
     by_cases hk2 : q.kind = 2
     ·have hnext' : valS t m (k + 1) = valS t m k ++ q.text := by rw [hst.out, if_pos hk2]
      have hcall := Hd (Ky.write_any T T (valS t m k) S2 w7 hbd7.out (by
       have h1 := hsz.out;rw [hnext', List.length_append] at h1;have h2 := hzH.out;rw [<- hS2, strOf_size']
       omega) hT7)
      have hnx : Hid (valS t m k ++ S2.data.toList = valS t m (k + 1)) := Hd (by rw [hnext', <- hS2]; simp [strOf]);have e5 : (q.kind == 2) = true := by rw [beq_iff_eq]; exact hk2
      clear hnext' hst hsz hk2;go_wp2_with fail;refine hcall.out.mono ?_;rintro e w' ⟨rfl, hn, hb8⟩;have hnext := Hd (show Ky.Bd T T (valS t m (k + 1)) w' by rw [<- hnx.out]; exact hn);have hb8 := Hd (hb7'.out.trans (hb8.mono (by have := hb1.out.size; have := hTH.out; omega)));clear hn;go_wp2_with fail;go_roundw
      case rel => exact ⟨k + 1, by omega, by go_num, hnext, hb8⟩
      case measure => simp [intOf]; omega
     ·have hnext := Hd (show Ky.Bd T T (valS t m (k + 1)) w7 by rw [hst.out, if_neg hk2, List.append_nil]; exact hbd7.out);have e5 : (q.kind == 2) = false := by rw [beq_eq_false_iff_ne]; exact hk2
      have hb8 := hb7';clear hst hsz hk2;go_wp2_with fail;go_roundw
      case rel => exact ⟨k + 1, by omega, by go_num, hnext, hb8⟩
      case measure => simp [intOf]; omega
    ·have i1 : decide ((k : Int) < (F : Int)) = false := by rw [decide_eq_false_iff_not]; omega
     have i2 : decide (k < F) = false := by rw [decide_eq_false_iff_not]; omega
     obtain rfl : k = F := by omega
     have hcall := Hd (Ky.string_any T T (valS t m k) wr hbd.out hTr);go_wp2_with fail;refine hcall.out.mono ?_;rintro e w' ⟨rfl, hb9⟩;have hb9 := Hd (hb.out.trans (hb9.mono (by have := hb1.out.size; have := hTH.out; omega)));go_wp2_with fail;go_ret;exact ⟨rfl, hb9.out⟩
 ·have hv : valP t m = q.text := by
   unfold valP;rw [if_neg (by omega), if_pos (by rw [Int.toNat_natCast, ek.1]; omega), Int.toNat_natCast, ek.2.2.2]
  rw [hv];have e4 : (q.kind != 6) = true := by rw [bne_iff_ne]; omega
  have e5 : (q.kind != 1) = true := by rw [bne_iff_ne]; omega
  clear hl hl0 hv ek hq m1 m3 m4 m5 hkd hfl hfg hT
  go_enter Tryz.func14, Tryz.ntmps14
  go_wp2_with fail;go_ret;exact ⟨rfl, Below.refl _ _⟩
end Go.Proofs.YtdnfnkicmfkkmaaGreatDoor.Vw
end
