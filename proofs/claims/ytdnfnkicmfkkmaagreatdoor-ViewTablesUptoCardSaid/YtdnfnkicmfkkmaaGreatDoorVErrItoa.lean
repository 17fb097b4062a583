/- Numbers as texts: the document's Itoa by its walk. -/
import Derived.Test.YtdnfnkicmfkkmaaGreatDoorVUtfEnc
import Derived.Test.YtdnfnkicmfkkmaaGreatDoorVVwKey
import Derived.Test.YtdnfnkicmfkkmaaGreatDoorVArParts
import Derived.Shelf.Strconv.Itoa3
import Derived.Shelf.Lay
import Derived.Ground.NamesProg
import Derived.Test.YtdnfnkicmfkkmaaGreatDoorProg
import Derived.WalkKit
import Derived.Below
import Derived.Lib.AppendIntMem
import Derived.Lib.SmallJoins
import Derived.Lib.ItoaLen
import Derived.Laws.Concat
import Derived.Deep.DeepCutAuto
set_option linter.unusedVariables false
set_option linter.unusedSimpArgs false
section
namespace Go.Proofs.YtdnfnkicmfkkmaaGreatDoor.Vw
open Go.RowKit UtfW Xl Xt Xo No
open Go.Proofs.YtdnfnkicmfkkmaaGreatDoor (Ky.frontB Ky.Rl)
open Go.Proofs.YtdnfnkicmfkkmaaGreatDoor.Ky (Ts OwX tv join Rs)
theorem ows_lit {α : Type} {El : World -> List Value -> α -> Prop} {k : Nat} (w : World) (vs : List Value) (x : α) (E : TypeId) (hk : vs.length = k) (hk2 : k <= 100) (h : El (w.alloc (.cells vs.toArray E)) vs x) :
  OwS El k (w.alloc (.cells vs.toArray E)) w.heap.size E (.slice (some ⟨w.heap.size, 0, none⟩) 1 1) [x] :=
 ⟨vs, ⟨by simp [hk], .inr ⟨_, _, vs.toArray, rfl, Nat.le_refl _, heap_alloc_new w _, Nat.le_refl _, by unfold maxLen; simp, by simp [hk], List.take_of_length_le (by simp [hk])⟩⟩, Reads.one hk h⟩
def rootQ (m : Nat) : Q := ⟨6, [], [], -1, m, [47]⟩
set_option maxHeartbeats 8000000 in
set_option maxRecDepth 100000 in
theorem vnew_any (Al : Option Addr) (nl cl : Nat) (w : World) : Calls Tryz.prog 28 #[.slice Al nl cl] w fun e w' => ∃ v', e = .returned (.pointer (some ⟨w.heap.size + 1, 0, none⟩)) /\ Vb w.heap.size (w.heap.size + 1) (.slice Al nl cl) v' [rootQ 0] w' /\ Below w.heap.size w w' := by
 obtain ⟨T, hT⟩ : ∃ T, w.heap.size = T := ⟨_, rfl⟩;obtain ⟨w1, hw1⟩ : ∃ w1, w.alloc (.cells #[.int .i64 6, .string ⟨#[]⟩, .string ⟨#[]⟩, .int .i64 (-1), .int .i64 0, .string ⟨#[47]⟩] 41) = w1 := ⟨_, rfl⟩;obtain ⟨w2, hw2⟩ : ∃ w2, w1.alloc (.cells #[.slice Al nl cl, .slice (some ⟨T, 0, none⟩) 1 1] 78) = w2 := ⟨_, rfl⟩;have hs1 : w1.heap.size = T + 1 := by rw [<- hw1, World.size_alloc, hT]
 have hb1 : Below w.heap.size w w1 := by rw [<- hw1]; exact below_alloc w _
 have hb2 : Below w1.heap.size w1 w2 := by rw [<- hw2]; exact below_alloc w1 _
 have ho1 : OwS QEl 6 w1 T 41 (.slice (some ⟨T, 0, none⟩) 1 1) [rootQ 0] := by
  have h1 := ows_lit (El := QEl) (k := 6) w [.int .i64 6, .string ⟨#[]⟩, .string ⟨#[]⟩, .int .i64 (-1), .int .i64 0, .string ⟨#[47]⟩] (rootQ 0) 41 rfl (by decide) rfl;rw [hT] at h1;rw [<- hw1];exact h1
 have hk2 : w2.heap[T + 1]? = some (.cells #[.slice Al nl cl, .slice (some ⟨T, 0, none⟩) 1 1] 78) := by rw [<- hw2, <- hs1]; exact heap_alloc_new w1 _
 have hv : Hid (Vb T (T + 1) (.slice Al nl cl) (.slice (some ⟨T, 0, none⟩) 1 1) [rootQ 0] w2) := Hd ⟨hk2, ho1.below hb2 QEl.to, fun e => by have h9 : T = T + 1 := Option.some.inj e; omega, by omega⟩;have hbF := Hd (hb1.trans (hb2.mono hb1.size));rw [hT] at hbF ⊢;clear hb1 hb2 ho1 hk2
 go_enter Tryz.func28, Tryz.ntmps28
 go_wp2_with fail;go_ret;exact ⟨_, by simp [hs1], hv.out, hbF.out⟩
set_option maxHeartbeats 20000000 in
set_option maxRecDepth 100000 in
theorem vdoc_any (X : Nat -> Prop) (w : World) (hU : Ut w) (hTn : Nu.Tens w) (Al : Option Addr) (nl cl : Nat) (l : List Ky.Rl) (vs : List Value) (n : Nd) (hl : Rs w Al nl cl l) (hn : NdI X w vs n) (hX : ∀ j, X j -> j < w.heap.size)
  (hwt : Ky.wts l < 3000) (hf : fairN n = true) (hnf : nfN l [n.name] n) (hroot : ∃ r l', l = r :: l' /\ r.1 = [n.name] /\ r.2 = []) (hw : wN n <= 1200) :
  Calls Tryz.prog 10 #[.slice Al nl cl, .agg vs.toArray] w fun e w' => ∃ A m c, e = .returned (.slice A m c) /\ OwS QEl 6 w' w.heap.size 41 (.slice A m c) (tabD l n) /\ Below w.heap.size w w' := by
 have hn0 := hn;obtain ⟨kd, nm, tx, as_, kz, ekn⟩ : ∃ kd nm tx as_ kz, n = Nd.mk kd nm tx as_ kz := by cases n; exact ⟨_, _, _, _, _, rfl⟩
 rw [ekn] at hn0;obtain ⟨Ai, ci, Ak, ck, rfl, _⟩ := hn0.cells;have hnm : n.name = nm := by rw [ekn]; rfl
 obtain ⟨li, hli⟩ : ∃ la, as_.length = la := ⟨_, rfl⟩;obtain ⟨lk, hlk⟩ : ∃ lk, kz.length = lk := ⟨_, rfl⟩;obtain ⟨S1, hS1⟩ : ∃ S, strOf nm = S := ⟨_, rfl⟩;obtain ⟨S2, hS2⟩ : ∃ S, strOf tx = S := ⟨_, rfl⟩;rw [hli, hlk, hS1, hS2] at hn ⊢;obtain ⟨J, hJ⟩ : ∃ J, w.heap.size = J := ⟨_, rfl⟩;obtain ⟨w1, hw1⟩ : ∃ w1, w.alloc (.cells #[.int .i64 kd, .string S1, .string S2, .slice Ai li ci, .slice Ak lk ck] 26) = w1 := ⟨_, rfl⟩;have hs1 : w1.heap.size = J + 1 := by rw [<- hw1, World.size_alloc, hJ]
 have hb1 : Below w.heap.size w w1 := by rw [<- hw1]; exact below_alloc w _
 have hk1 : w1.heap[J]? = some (.cells #[.int .i64 kd, .string S1, .string S2, .slice Ai li ci, .slice Ak lk ck] 26) := by rw [<- hw1, <- hJ]; exact heap_alloc_new w _
 have hnew := Hd (vnew_any Al nl cl w1)
 have hE1 : Hid (VEnv w1.heap.size Al nl cl l w1) := Hd fun x hx => by
  have hwx := hb1.trans (hx.mono hb1.size);exact ⟨hTn.below hwx, hU.below hwx, hl.below hwx⟩
 have hn1 : Hid (∀ x, Below w1.heap.size w1 x -> NdI (fun j => j < w1.heap.size) x [.int .i64 kd, .string S1, .string S2, .slice Ai li ci, .slice Ak lk ck] n) := Hd fun x hx => hn.stay fun j hj => by
  have h1 := hX j hj;have h2 := hb1.size;exact ⟨by omega, ((hx.block j (by omega)).trans (hb1.block j h1))⟩
 have hJ1 : Hid (J < w1.heap.size) := Hd (by omega);have hk1H := Hd hk1;have hb1H := Hd hb1;obtain ⟨r, l', el, er1, er2⟩ := hroot
 have hru : Hid (ruleOf l [nm] = some r /\ keyR n r.2 = some []) := Hd (by
  refine ⟨?_, by rw [er2]; rfl⟩;unfold ruleOf
  rw [el, List.find?_cons_of_pos (by rw [er1, hnm]; exact decide_eq_true rfl)])
 have hwtH := Hd hwt;have hfH := Hd hf;have hnfH : Hid (nfN l [nm] n) := Hd (by rw [<- hnm]; exact hnf);have hwH := Hd hw;have hnmH := Hd hnm;have hS1H := Hd hS1;have hJw := Hd hJ;obtain ⟨TD, hTD⟩ : ∃ TD, tabD l n = TD := ⟨_, rfl⟩;rw [hTD];have hTDH := Hd hTD;clear hn hX hwt hf hnf hw hl hU hTn hb1 hk1 hn0 ekn hnm hli hlk hS1 hS2 el er1 er2 hTD
 go_enter Tryz.func10, Tryz.ntmps10
 go_wp2_with fail;refine hnew.out.mono ?_;rintro e w2 ⟨v2, rfl, hv2, hb2⟩;obtain ⟨B, hB⟩ : ∃ B, w1.heap.size = B := ⟨_, rfl⟩;rw [hB] at hv2 hb2 hE1 hn1 hJ1 ⊢;have hk2 := (hb2.block J hJ1.out).trans hk1H.out;obtain ⟨g0, g1, g2, g3, g4⟩ := cells_of5 hk2;obtain ⟨R, hR⟩ : ∃ R, w2.heap.size = R := ⟨_, rfl⟩;obtain ⟨w3, hw3⟩ : ∃ w3, w2.alloc (.cells #[.string S1] 9) = w3 := ⟨_, rfl⟩;have hb3 : Below w2.heap.size w2 w3 := by rw [<- hw3]; exact below_alloc w2 _
 have hts3 : Ts w3 (some ⟨R, 0, none⟩) 1 1 [nm] := by
  have h1 := Ky.ts_lit w2 S1 nm 9 (0, 0) hS1H.out.symm;rw [hR] at h1;rw [<- hw3];exact h1
 have hv3 := hv2.below hb3;have hb23 : Below B w2 w3 := hb3.mono hv2.leB
 have hkc := Hd (vkeyed_any (SizeOf.sizeOf n) n (Nat.le_refl _) B (B + 1) v2 [rootQ 0] w3 Al nl cl l (some ⟨R, 0, none⟩) 1 1 [nm] [.int .i64 kd, .string S1, .string S2, .slice Ai li ci, .slice Ak lk ck] 0 (rootQ 0) r [] hv3 (hE1.out.later (hb2.trans hb23)) (fun x hx => hn1.out x (hb2.trans (hb23.trans hx))) hts3 (fun a ea _ => by
  injection ea with ea;subst ea;refine ⟨?_, ?_, fun e9 => ?_⟩
  ·show R < w3.heap.size
   rw [<- hw3, World.size_alloc];omega
  ·have := hv2.lt
   show R ≠ B + 1
   omega
  ·have := (hv2.row_lt _ e9).2;simp only at this
   omega) (by simp) hnfH.out hru.out.1 hru.out.2 hwtH.out hfH.out hwH.out rfl (by have := hwH.out; omega) (by have := hwH.out; simp; omega) (by have := hwH.out; simp [rootQ]; omega))
 have htab : Hid ([rootQ 0] ++ tabN l [nm] ([rootQ 0] : List Q).length 0 ((if (0 : Nat) = 0 then [] else (rootQ 0).path) ++ 47 :: endS (n.name, [])) n = rootQ 0 :: tabN l [nm] 1 0 (47 :: nm) n) := Hd (by
  rw [if_pos rfl, hnmH.out]
  rfl)
 clear hnew hw1 hv2 hb3 hts3 hv3 hs1 hk2 hB;go_wp2_with fail;clear hw3 hR g0 g1 g2 g3 g4;refine hkc.out.mono ?_;rintro e w4 ⟨⟨r4, rfl⟩, v4, hv4, hk4⟩;rw [htab.out] at hv4;have htw : (tabN l [nm] 1 0 (47 :: nm) n).length <= wN n := tabN_w l n [nm] 1 0 (47 :: nm);have hsh := Hd (vshut_any B (B + 1) _ v4 _ w4 0 (rootQ 0) hv4 (by have := hwH.out; simp only [List.length_cons]; omega) rfl)
 have hfin : Hid ((rootQ 0 :: tabN l [nm] 1 0 (47 :: nm) n).set 0 ⟨(rootQ 0).kind, (rootQ 0).name, (rootQ 0).text, (rootQ 0).parent, (rootQ 0 :: tabN l [nm] 1 0 (47 :: nm) n).length, (rootQ 0).path⟩ = TD) := Hd (by
  rw [<- hTDH.out];unfold tabD;rw [hnmH.out]
  rfl)
 have hb4 : Hid (Below B w1 w4) := Hd (hb2.trans (hb23.trans hk4.bel));clear hv4 hk4 hkc htab htw hb2 hb23;go_wp2_with fail;refine hsh.out.mono ?_;rintro e w5 ⟨⟨r5, rfl⟩, hv5, hk5⟩;rw [hfin.out] at hv5;obtain ⟨A, c, rfl⟩ := hv5.len;have y1 := Xp.cell_blk hv5.blk (i := 1) rfl;have how : Hid (OwS QEl 6 w5 w.heap.size 41 (.slice A TD.length c) TD) := Hd (hv5.own.down (by have := hJw.out; have := hJ1.out; omega));have hbF := Hd (hb1H.out.trans ((hb4.out.trans hk5.bel).mono (by have := hJw.out; have := hJ1.out; omega)));clear hv5 hk5 hsh;go_wp2_with fail;go_ret;exact ⟨A, _, c, rfl, how.out, hbF.out⟩
end Go.Proofs.YtdnfnkicmfkkmaaGreatDoor.Vw
end

section
namespace Go.Proofs
open Go.Shelf Go.RowKit
end Go.Proofs
namespace Go.Proofs.YtdnfnkicmfkkmaaGreatDoor.Er
open Go.RowKit Go.Shelf
end Go.Proofs.YtdnfnkicmfkkmaaGreatDoor.Er
end

section
namespace Go.Proofs.YtdnfnkicmfkkmaaGreatDoor.Er
open Go.RowKit Go.Shelf
def dgs (v : Nat) (l : List UInt8) : List UInt8 := if v = 0 then l else Lib.decDigits v ++ l
theorem dgs_step (v : Nat) (l : List UInt8) (h : v ≠ 0) : dgs v l = dgs (v / 10) (UInt8.ofNat (48 + v % 10) :: l) := by
 unfold dgs;rw [if_neg h, Lib.decDigits]
 split
 ·rename_i h1
  rw [if_pos (by omega), Nat.mod_eq_of_lt h1];rfl
 ·rename_i h1
  rw [if_neg (by omega), List.append_assoc];rfl
theorem strOf_size (l : List UInt8) : (strOf l).size = l.length := by simp [strOf, ByteArray.size]
theorem one_add (x : UInt8) (l : List UInt8) : strOf [x] ++ strOf l = strOf (x :: l) := by
 unfold strOf;apply ByteArray.ext;simp [ByteArray.data_append]
theorem dgs_len (v : Nat) (l : List UInt8) : l.length <= (dgs v l).length := by
 unfold dgs
 split <;> simp
theorem dec_len (v : Nat) (h : v <= 9223372036854775808) : (Lib.decDigits v).length <= 21 := by
 rcases Nat.eq_zero_or_pos v with rfl | hv
 ·have := Lib.itoa_length_le 0 (by omega) (by omega);exact this
 ·have := Lib.itoa_length_le (-(v : Int)) (by omega) (by omega);unfold Lib.itoa at this;rw [if_pos (by omega)] at this;have e : (-(v : Int)).natAbs = v := by omega
  rw [e, List.length_cons] at this;omega
set_option maxHeartbeats 1000000 in
theorem ref_Itoa_pos (m : Nat) (h0 : 0 < m) (h1 : m <= 9223372036854775807) (w : World) :
  Calls Tryz.prog 64 #[.int .i64 m] w fun e w' => e = .returned (.string (strOf (Lib.decDigits m))) /\ Below w.heap.size w w' := by
 have hz' : ((m : Int) == 0) = false := by simp; omega
 have hl' : decide ((m : Int) < 0) = false := by simp
 have hD := dec_len m (by omega)
 go_enter Tryz.func64, Tryz.ntmps64
 go_wp2_with fail
 go_loopw [3, 4] (fun s v wr => ∃ (l : List UInt8) (k : Nat), k <= m /\ s = .string (strOf l) /\ v = .int .i64 (k : Nat) /\ Hid (dgs k l = Lib.decDigits m) /\ Below w.heap.size w wr) (fun _ v _ => (intOf v).toNat)
 case atStart => exact ⟨[], m, by omega, rfl, rfl, Hd (by unfold dgs; rw [if_neg (by omega), List.append_nil]), Below.refl _ _⟩
 case round =>
  obtain ⟨l, k, hk, rfl, rfl, hd, hb⟩ := hrel;have hb' := Hd hb;have hsz := hb.size;clear hb
  by_cases hk0 : k = 0
  ·subst hk0
   go_wp2
   go_ret;refine ⟨?_, hb'.out⟩;have := hd.out;unfold dgs at this;rw [if_pos rfl] at this;rw [this];rfl
  ·have hne : ((k : Int) != 0) = true := by simp; omega
   have t3 : decide ((k : Int) % 10 < 0) = false := by simp; omega
   have hw1 : (48 + (k : Int) % 10) % 256 = 48 + (k : Int) % 10 := by omega
   obtain ⟨d, hd0⟩ : ∃ d, Hid (d = UInt8.ofNat (48 + k % 10)) := ⟨_, Hd rfl⟩
   have kv : (convert 81 9 (.slice (some ⟨wr.heap.size, 0, none⟩) 1 1)).run Tryz.prog (wr.alloc (.cells #[.int .u8 (48 + (k : Int) % 10)] 5)) = .ok (.string (strOf [d])) (wr.alloc (.cells #[.int .u8 (48 + (k : Int) % 10)] 5)) :=
    Bs.conv (bs_lit wr #[.int .u8 (48 + (k : Int) % 10)] 5 (0, 0) [d] 1 rfl (by omega) (by
     have : d.toNat = 48 + k % 10 := by rw [hd0.out, UInt8.toNat_ofNat']; omega
     simp [bv, this])) Tryz.underlying81 Tryz.underlying5 Tryz.underlying9
   have hl21 : l.length <= 21 := by
    have := dgs_len k l;rw [hd.out] at this;omega
   have hadd := fun w => run_string_add_sum (P := Tryz.prog) w (strOf [d]) (strOf l) (by rw [strOf_size, strOf_size]; simp; omega)
   rw [one_add] at hadd
   go_wp2
   go_roundw
   case rel =>
    refine ⟨d :: l, k / 10, by omega, rfl, by go_num, Hd ?_, hb'.out.alloc (by omega) _⟩;rw [<- hd.out, dgs_step k l hk0, hd0.out]
   case measure => simp [intOf]; omega
end Go.Proofs.YtdnfnkicmfkkmaaGreatDoor.Er
end
