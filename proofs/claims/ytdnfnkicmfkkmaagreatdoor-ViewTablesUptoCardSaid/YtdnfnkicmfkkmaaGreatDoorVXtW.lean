/- How much a tree holds. No program stands here. -/
import Derived.Test.YtdnfnkicmfkkmaaGreatDoorVXpDoc
import Derived.Test.YtdnfnkicmfkkmaaGreatDoorVErrWalk2
import Derived.Test.YtdnfnkicmfkkmaaGreatDoorVXtForest
import Derived.Test.YtdnfnkicmfkkmaaGreatDoorVUtfEnc
import Derived.Test.YtdnfnkicmfkkmaaGreatDoorVVwMem
import Derived.Test.YtdnfnkicmfkkmaaGreatDoorVStrLaws
import Derived.Test.YtdnfnkicmfkkmaaGreatDoorVNoOrd
import Derived.Test.YtdnfnkicmfkkmaaGreatDoorRows
import Derived.Lib.SmallJoins
import Derived.OpenShut
set_option linter.unusedVariables false
set_option linter.unusedSimpArgs false
section
namespace Go.Proofs.YtdnfnkicmfkkmaaGreatDoor.Xp
open Go.RowKit UtfW Xl Xo Xt
end Go.Proofs.YtdnfnkicmfkkmaaGreatDoor.Xp
end

section

end

section

end

section

end

section
namespace Go.Proofs.YtdnfnkicmfkkmaaGreatDoor.Xp
open Go.RowKit UtfW Xl Xo Xt
end Go.Proofs.YtdnfnkicmfkkmaaGreatDoor.Xp
end

section
namespace Go.Proofs.YtdnfnkicmfkkmaaGreatDoor.Xp
open Go.RowKit UtfW Xl Xo Xt
theorem writeL_mem : ∀ {l : List Nd} {i : Nat} {x : Nd}, l[i]? = some x -> (writeN x).length <= (writeL l).length
 | [], i, x, h => by simp at h
 | y :: l, 0, x, h => by
  injection h with h;rw [<- h, writeL, List.length_append];omega
 | y :: l, i + 1, x, h => by
  have := writeL_mem (l := l) (i := i) h;rw [writeL, List.length_append];omega
end Go.Proofs.YtdnfnkicmfkkmaaGreatDoor.Xp
end

section
namespace Go.Proofs.YtdnfnkicmfkkmaaGreatDoor.Xp
open Go.RowKit UtfW Xl Xo Xt
theorem writeL_app : ∀ a b : List Nd, writeL (a ++ b) = writeL a ++ writeL b
 | [], b => by rw [List.nil_append, writeL]; rfl
 | x :: a, b => by rw [List.cons_append, writeL, writeL, writeL_app a b, List.append_assoc]
theorem writeA_app : ∀ a b : List At, writeA (a ++ b) = writeA a ++ writeA b
 | [], b => rfl
 | x :: a, b => by
  rw [List.cons_append, writeA, writeA, writeA_app a b];simp
theorem writeL_take_ (l : List Nd) (k : Nat) : (writeL (l.take k)).length <= (writeL l).length := by
 conv => rhs; rw [<- List.take_append_drop k l, writeL_app, List.length_append]
 omega
theorem writeA_take_ (l : List At) (k : Nat) : (writeA (l.take k)).length <= (writeA l).length := by
 conv => rhs; rw [<- List.take_append_drop k l, writeA_app, List.length_append]
 omega
theorem writeL_one (x : Nd) : writeL [x] = writeN x := by rw [writeL, writeL, List.append_nil]
def RNodeAt (X : Nat -> Prop) (x : Nd) : Prop := ∀ (vs : List Value) (w' : World), NdI X w' vs x -> (∀ j, X j -> j < w'.heap.size) →
 Calls Tryz.prog 155 #[.agg vs.toArray] w' fun e w'' => e = .returned (.string (strOf (writeN x))) /\ Below w'.heap.size w' w''
set_option maxHeartbeats 4000000 in
set_option maxRecDepth 100000 in
theorem rnodes_any (X : Nat -> Prop) (w : World) (A : Option Addr) (n c : Nat) (l : List Nd) (hS : Sq (NdE X) 5 w A n c l) (hX : ∀ j, X j -> j < w.heap.size) (hF : ∀ (i : Nat) x, l[i]? = some x -> RNodeAt X x) (hlen : (writeL l).length <= 100000000000000) :
  Calls Tryz.prog 148 #[.slice A n c] w fun e w' => e = .returned (.string (strOf (writeL l))) /\ Below w.heap.size w w' := by
 have hln := Hd hS.len;have hlm : n <= 9223372036854775807 := Nat.le_trans hS.le hS.max;have hS' := Hd hS;have hX' := Hd hX;have hF' := Hd hF;have hlen' := Hd hlen;obtain ⟨R, hR⟩ : ∃ R, strOf (writeL l) = R := ⟨_, rfl⟩;rw [hR];have hR' := Hd hR;clear hS hX hF hR hlen
 go_enter Tryz.func148, Tryz.ntmps148
 go_wp2_with fail
 go_loopw [3, 4] (fun v3 vi wr => ∃ (i : Nat) (S : ByteArray), i <= n /\ vi = .int .i64 (i : Nat) /\ v3 = .string S /\ Hid (S = strOf (writeL (l.take i))) /\ Hid (Below w.heap.size w wr)) (fun _ vi _ => n - (intOf vi).toNat)
 case atStart => exact ⟨0, ⟨#[]⟩, Nat.zero_le _, rfl, rfl, Hd rfl, Hd (Below.refl _ _)⟩
 case round =>
  obtain ⟨i, S, hi, rfl, rfl, hSv, hb⟩ := hrel
  by_cases hlt : i < n
  ·have i1 : decide ((i : Int) < (n : Int)) = true := by simp; omega
   have q1 : (i : Int) < (n : Int) := by omega
   have hX1 : ∀ j, X j -> j < wr.heap.size := fun j hj => Nat.lt_of_lt_of_le (hX'.out j hj) hb.out.size
   have hKr := sq_keep hS'.out hb.out (fun vs x h => NdI.later h hX'.out hb.out);obtain ⟨b1, off1, x, vs1, rfl, _, hx1, _, hv1, hc1⟩ := hKr.at_ hlt;have hrec := Hd (hF'.out i x hx1 _ wr hv1 hX1);obtain ⟨Kx, hKx⟩ : ∃ K, strOf (writeN x) = K := ⟨_, rfl⟩;rw [hKx] at hrec;have htot := writeL_take_ l (i + 1);rw [take_snoc hx1, writeL_app, writeL_one, List.length_append] at htot;have hl9 := hlen'.out;have hSz : S.size = (writeL (l.take i)).length := by rw [hSv.out, strOf_size']
   have hKz : Kx.size = (writeN x).length := by rw [<- hKx, strOf_size']
   obtain ⟨S2, hS2⟩ : ∃ s, S ++ Kx = s := ⟨_, rfl⟩;have e2 := fun w => run_string_add_sum (P := Tryz.prog) w S Kx (by omega)
   rw [hS2] at e2;have hnext : Hid (S2 = strOf (writeL (l.take (i + 1)))) := Hd (by rw [<- hS2, hSv.out, <- hKx, strOf_add, take_snoc hx1, writeL_app, writeL_one]);obtain ⟨kx, nx_, tx_, ax, kx_⟩ := x;obtain ⟨Ax, cax, A2x, c2x, rfl, -⟩ := hv1.cells;have m0 := hc1 0 _ rfl;have m1 := hc1 1 _ rfl;have m2 := hc1 2 _ rfl;have m3 := hc1 3 _ rfl;have m4 := hc1 4 _ rfl;rw [Nat.add_zero] at m0;clear hX1 hKr hc1 hx1 hv1 hKx htot hl9 hSz hKz hS2 hSv;go_wp2_with fail;refine hrec.out.mono ?_;rintro e w5 ⟨rfl, hb5⟩;have hw5 := Hd (hb.out.trans (hb5.mono hb.out.size));clear hb5 m0 m1 m2 m3 m4 hrec;go_wp2_with fail;go_roundw
   case rel => exact ⟨i + 1, S2, by omega, by go_num, rfl, hnext, hw5⟩
   case measure => simp [intOf]; omega
  ·have hie : i = n := by omega
   subst hie;have i1 : decide ((i : Int) < (i : Int)) = false := by simp
   have hRt : Hid (S = R) := Hd (by
    have h9 := hSv.out;rw [List.take_of_length_le (Nat.le_of_eq hln.out)] at h9
    rw [h9, hR'.out])
   clear hSv;go_wp2_with fail
   (try simp only [Exit.inBlock, Exit.then])
   go_ret;exact ⟨by rw [hRt.out]; rfl, hb.out⟩
set_option maxHeartbeats 16000000 in
set_option maxRecDepth 100000 in
theorem rNode_any : ∀ (k : Nat) (X : Nat -> Prop) (n : Nd), SizeOf.sizeOf n <= k -> smN n -> (writeN n).length <= 100000000000000 -> RNodeAt X n := by
 intro k
 induction k with
 | zero =>
  intro X n hk;obtain ⟨kd, nm, tx, as_, ks⟩ := n;simp at hk
 | succ k ih =>
  intro X n hk hsm hlen vs w hn hX;obtain ⟨kd, nm, tx, as_, ks⟩ := n;obtain ⟨A, ca, A2, c2, rfl, hA, hKs, hXA, hXK⟩ := hn.cells;rw [smN] at hsm;obtain ⟨z1, z2, z3, z4⟩ := hsm
  have hF : kd = 1 -> ∀ (i : Nat) x, ks[i]? = some x -> RNodeAt X x := fun hk1 i x hx => ih X x (by
   have := kid_lt (k := kd) (nm := nm) (tx := tx) (as_ := as_) hx
   omega) (smL_mem z4 hx) (by
   have h1 := writeL_mem hx;subst hk1;rw [writeN, if_pos rfl] at hlen
   have h2 : ks.isEmpty = false := by
    cases ks with
    | nil => simp at hx
    | cons a b => rfl
   rw [h2] at hlen;simp at hlen
   omega)
  have hL : kd = 1 -> (writeL ks).length <= 100000000000000 := fun hk1 => by
   subst hk1;rw [writeN, if_pos rfl] at hlen
   cases ks with
   | nil => rw [writeL]; simp
   | cons a b =>
    simp at hlen;omega
  clear ih hk z4;obtain ⟨n1, hn1⟩ : ∃ n, as_.length = n := ⟨_, rfl⟩;obtain ⟨n2, hn2⟩ : ∃ n, ks.length = n := ⟨_, rfl⟩;rw [hn1] at hA;rw [hn2] at hKs;rw [hn1, hn2];have hn1H := Hd hn1;have hn2H := Hd hn2;have hsA := Hd z3.2;have hm1 : n1 <= 1000000 := by rw [<- hn1]; exact z3.1
  clear hn1 hn2;obtain ⟨S1, hS1⟩ : ∃ S, strOf nm = S := ⟨_, rfl⟩;obtain ⟨S2, hS2⟩ : ∃ S, strOf tx = S := ⟨_, rfl⟩;rw [hS1, hS2];have S1z : S1.size = nm.length := by rw [<- hS1, strOf_size']
  have S2z : S2.size = tx.length := by rw [<- hS2, strOf_size']
  have hba := below_alloc w (.cells #[.int .i64 kd, .string S1, .string S2, .slice A n1 ca, .slice A2 n2 c2] 26);have hnb := heap_alloc_new w (.cells #[.int .i64 kd, .string S1, .string S2, .slice A n1 ca, .slice A2 n2 c2] 26);obtain ⟨T, hT⟩ : ∃ T, w.heap.size = T := ⟨_, rfl⟩;obtain ⟨w1, hw1⟩ : ∃ w1, w.alloc (.cells #[.int .i64 kd, .string S1, .string S2, .slice A n1 ca, .slice A2 n2 c2] 26) = w1 := ⟨_, rfl⟩;rw [hw1] at hba hnb;rw [hT] at hnb;have hTb : Hid (∀ x, Below w1.heap.size w1 x -> x.heap[T]? = some (.cells #[.int .i64 kd, .string S1, .string S2, .slice A n1 ca, .slice A2 n2 c2] 26)) := Hd fun x hx => (hx.block T (Array.getElem?_eq_some_iff.1 hnb).1).trans hnb
  have hlow : ∀ x, Below w1.heap.size w1 x -> Below w.heap.size w x := fun x hx => hba.trans (hx.mono hba.size)
  replace hA : Hid (∀ z, Below w1.heap.size w1 z -> Sq AtEl 2 z A n1 ca as_) := Hd fun z hz => hA.below AtEl.to (hlow z hz)
  have hK : Hid (∀ z, Below w1.heap.size w1 z -> kd = 1 -> Calls Tryz.prog 148 #[.slice A2 n2 c2] z fun e w' => e = .returned (.string (strOf (writeL ks))) /\ Below z.heap.size z w') := Hd fun z hz hk1 => rnodes_any X z A2 n2 c2 ks (sq_keep hKs (hlow z hz) (fun vs y h => NdI.later h hX (hlow z hz))) (fun j hj => Nat.lt_of_lt_of_le (hX j hj) (hlow z hz).size) (hF hk1) (hL hk1)
  have hec := Hd (fun (x : World) => resc_false tx z2 x);rw [hS2] at hec;have y0 : w1.cell? ⟨T, 0, none⟩ = some (.int .i64 kd) := Xp.cell_blk hnb rfl;have y1 : w1.cell? ⟨T, 1, none⟩ = some (.string S1) := Xp.cell_blk hnb rfl;have y2 : w1.cell? ⟨T, 2, none⟩ = some (.string S2) := Xp.cell_blk hnb rfl;have y3 : w1.cell? ⟨T, 3, none⟩ = some (.slice A n1 ca) := Xp.cell_blk hnb rfl;have y4 : w1.cell? ⟨T, 4, none⟩ = some (.slice A2 n2 c2) := Xp.cell_blk hnb rfl;have hbaH := Hd hba;have ez2 : S2.toList.isEmpty = tx.isEmpty := by rw [<- hS2, strOf_empty]
  have hS1H := Hd hS1;have hS2H := Hd hS2;clear hn hKs hXA hXK hX hlow hnb hba hS1 hS2 hF hL z3;obtain ⟨R, hRe⟩ : ∃ R, writeN (.mk kd nm tx as_ ks) = R := ⟨_, rfl⟩;rw [hRe];have hlenR : R.length <= 100000000000000 := by rw [<- hRe]; exact hlen
  clear hlen;rw [writeN] at hRe
  by_cases h1 : kd = 1
  ·subst h1;rw [if_pos rfl] at hRe;have k2 : ((1 : Int) == 2) = false := rfl;have k3 : ((1 : Int) == 3) = false := rfl;have k4 : ((1 : Int) == 4) = false := rfl;have k1 : ((1 : Int) != 1) = false := rfl;have hlR := hlenR;have hre := congrArg List.length hRe;simp only [List.length_append, List.length_cons] at hre;have hA9 := fun k => writeA_take_ as_ k
   have hAt : Hid (∀ k, nm.length + 1 + (writeA (as_.take k)).length <= R.length) := Hd fun k => by have := hA9 k; omega
   replace hRe := Hd hRe;replace hlenR := Hd hlenR;have hre9 := Hd hre;clear hA9 hec ez2;have hlR0 := hAt.out 0;obtain ⟨P0, h_P0⟩ : ∃ s, (ByteArray.mk #[60]) ++ S1 = s := ⟨_, rfl⟩;have e_P0 := fun w => run_string_add_sum (P := Tryz.prog) w ⟨#[60]⟩ S1 (by rw [show (ByteArray.mk #[60]).size = 1 from rfl]; omega)
   rw [h_P0] at e_P0;have z_P0 : P0.size = (ByteArray.mk #[60]).size + S1.size := by rw [<- h_P0, ByteArray.size_append]
   rw [show (ByteArray.mk #[60]).size = 1 from rfl] at z_P0;clear hlR hre hlR0 z_P0;replace h_P0 := Hd h_P0;replace hnL := Hd S1z;clear S1z S2z z1 z2
   go_enter Tryz.func155, Tryz.ntmps155
   go_wp2_with fail;clear e_P0 y0 y1 y2 y3 y4
   go_loopw [3, 4] (fun v3 v4 wr => ∃ (i : Nat) (S : ByteArray), i <= n1 /\ v4 = .int .i64 (i : Nat) /\ v3 = .string S /\ Hid (S = strOf (60 :: nm ++ writeA (as_.take i))) /\ Hid (Below w1.heap.size w1 wr)) (fun _ v4 _ => n1 - (intOf v4).toNat)
   case atStart => exact ⟨0, P0, Nat.zero_le _, rfl, rfl, Hd (by rw [<- h_P0.out, <- hS1H.out, show (ByteArray.mk #[60]) = strOf [60] from rfl, strOf_add]; simp [writeA]), Hd (Below.refl _ _)⟩
   case round =>
    obtain ⟨i, S, hi, rfl, rfl, hSv, hqwr⟩ := hrel;have hTb9 := hTb.out wr hqwr.out;have y0 := Xp.cell_blk hTb9 (i := 0) rfl;have y1 := Xp.cell_blk hTb9 (i := 1) rfl;have y2 := Xp.cell_blk hTb9 (i := 2) rfl;have y3 := Xp.cell_blk hTb9 (i := 3) rfl;have y4 := Xp.cell_blk hTb9 (i := 4) rfl;clear hTb9;have hSz : S.size = nm.length + 1 + (writeA (as_.take i)).length := (by rw [hSv.out, strOf_size', List.length_append, List.length_cons]);have hlR := hlenR.out
    by_cases hlt : i < n1
    ·have i1 : decide ((i : Int) < (n1 : Int)) = true := by simp; omega
     have q1 : (i : Int) < (n1 : Int) := (by omega);obtain ⟨b1, off1, rfl⟩ := sq_some (hA.out wr hqwr.out) (show 0 < n1 by omega);obtain ⟨ax, hx1, m0, m1⟩ := at_attr (hA.out wr hqwr.out) hlt;obtain ⟨hs1, hs2⟩ := hsA.out ax (List.mem_of_getElem? hx1);have hAt1 := hAt.out (i + 1);rw [take_snoc hx1, writeA_app, writeA, writeA, List.append_nil, List.length_append] at hAt1;simp only [List.length_append, List.length_cons, List.length_nil] at hAt1;have hesc := Hd (resc_true ax.2 hs2);obtain ⟨V1, hV1⟩ : ∃ s, strOf ax.1 = s := ⟨_, rfl⟩;obtain ⟨V2, hV2⟩ : ∃ s, strOf ax.2 = s := ⟨_, rfl⟩;obtain ⟨V3, hV3⟩ : ∃ s, strOf (esc true ax.2) = s := ⟨_, rfl⟩;have V1z : V1.size = ax.1.length := (by rw [<- hV1, strOf_size']);have V3z : V3.size = (esc true ax.2).length := (by rw [<- hV3, strOf_size']);rw [hV2, hV3] at hesc;rw [hV1] at m0;rw [hV2] at m1;obtain ⟨Sa, h_Sa⟩ : ∃ s, S ++ ⟨#[32]⟩ = s := ⟨_, rfl⟩;have e_Sa := fun w => run_string_add_sum (P := Tryz.prog) w S ⟨#[32]⟩ (by rw [show (ByteArray.mk #[32]).size = 1 from rfl]; omega)
     rw [h_Sa] at e_Sa;have z_Sa : Sa.size = S.size + (ByteArray.mk #[32]).size := (by rw [<- h_Sa, ByteArray.size_append]);rw [show (ByteArray.mk #[32]).size = 1 from rfl] at z_Sa;obtain ⟨Sb, h_Sb⟩ : ∃ s, Sa ++ V1 = s := ⟨_, rfl⟩;have e_Sb := fun w => run_string_add_sum (P := Tryz.prog) w Sa V1 (by omega)
     rw [h_Sb] at e_Sb;have z_Sb : Sb.size = Sa.size + V1.size := (by rw [<- h_Sb, ByteArray.size_append]);obtain ⟨Sc, h_Sc⟩ : ∃ s, Sb ++ ⟨#[61, 34]⟩ = s := ⟨_, rfl⟩;have e_Sc := fun w => run_string_add_sum (P := Tryz.prog) w Sb ⟨#[61, 34]⟩ (by rw [show (ByteArray.mk #[61, 34]).size = 2 from rfl]; omega)
     rw [h_Sc] at e_Sc;have z_Sc : Sc.size = Sb.size + (ByteArray.mk #[61, 34]).size := (by rw [<- h_Sc, ByteArray.size_append]);rw [show (ByteArray.mk #[61, 34]).size = 2 from rfl] at z_Sc;obtain ⟨Sd, h_Sd⟩ : ∃ s, Sc ++ V3 = s := ⟨_, rfl⟩;have e_Sd := fun w => run_string_add_sum (P := Tryz.prog) w Sc V3 (by omega)
     rw [h_Sd] at e_Sd;have z_Sd : Sd.size = Sc.size + V3.size := (by rw [<- h_Sd, ByteArray.size_append]);obtain ⟨Se, h_Se⟩ : ∃ s, Sd ++ ⟨#[34]⟩ = s := ⟨_, rfl⟩;have e_Se := fun w => run_string_add_sum (P := Tryz.prog) w Sd ⟨#[34]⟩ (by rw [show (ByteArray.mk #[34]).size = 1 from rfl]; omega)
     rw [h_Se] at e_Se;have z_Se : Se.size = Sd.size + (ByteArray.mk #[34]).size := (by rw [<- h_Se, ByteArray.size_append]);rw [show (ByteArray.mk #[34]).size = 1 from rfl] at z_Se
     have hnext : Hid (Se = strOf (60 :: nm ++ writeA (as_.take (i + 1)))) := Hd (by
      rw [<- h_Se, <- h_Sd, <- h_Sc, <- h_Sb, <- h_Sa, hSv.out, <- hV1, <- hV3, show (ByteArray.mk #[32]) = strOf [32] from rfl, show (ByteArray.mk #[61, 34]) = strOf [61, 34] from rfl, show (ByteArray.mk #[34]) = strOf [34] from rfl, strOf_add, strOf_add, strOf_add, strOf_add, strOf_add, take_snoc hx1, writeA_app, writeA, writeA]
      simp)
     have hdr : Hid (Below wr.heap.size wr wr.drew) := Hd (Joins.below_draws wr.heap.size wr 1)
     have hst : Hid (∀ z, Below wr.heap.size wr z -> z.cell? ⟨T, 3, none⟩ = some (.slice (some ⟨b1, off1, none⟩) n1 ca) /\ z.cell? ⟨b1, off1 + i * 2, none⟩ = some (.string V1) /\ z.cell? ⟨b1, off1 + i * 2 + 1, none⟩ = some (.string V2)) := Hd fun z hz => by
      have hz9 := hqwr.out.trans (hz.mono hqwr.out.size);rw [<- hV1, <- hV2];exact ⟨Xp.cell_blk (hTb.out z hz9) rfl, at_attr_ (hA.out z hz9) hx1⟩
     clear hx1 hs1 hs2 hAt1 hV1 hV2 hV3 V1z V3z hSz hlR z_Sa z_Sb z_Sc z_Sd z_Se h_Sa h_Sb h_Sc h_Sd h_Se hSv;go_wp2_with fail;refine Pl.wp_region_plan 17 (.take 0 (.take 1 (.take 2 (.take 3 (.take 4 (.take 5 (.take 6 (.take 7 (.take 8 (.take 9 (.take 10 (.take 11 (.take 12 (.take 13 (.take 14 (.take 15 (.run 16 .done))))))))))))))))) (fun x => x.cell? ⟨T, 3, none⟩ = some (.slice (some ⟨b1, off1, none⟩) n1 ca) /\ x.cell? ⟨b1, off1 + i * 2, none⟩ = some (.string V1) /\ x.cell? ⟨b1, off1 + i * 2 + 1, none⟩ = some (.string V2)) (by kernel_rfl) (by kernel_rfl) (by exact hst.out wr (Below.refl _ _)) ?_;simp only [Pl.fill, Al_4, Al_5, Al_6, Al_7]
     iterate 16
      refine Pl.take_go ?_ (by rfl) (fun _ _ _ h => h) ?_ ?_
      rotate_left
      ·(intro x hSw; (try dsimp only at hSw); go_simp; try with_reducible rfl)
      (try simp only [Act.put, Al_1, Al_2, Al_3])
     refine Pl.run_go (fun K hK => ?_);go_simp;refine (hesc.out _).mono ?_;rintro e w5 ⟨rfl, hb5⟩;have hqw5 := Hd (hqwr.out.trans ((hdr.out.trans (hb5.mono hdr.out.size)).mono hqwr.out.size));dsimp only;refine hK.out _ _ (Pl.more_go _ (fun _ h => h) (hst.out _ (hdr.out.trans (hb5.mono hdr.out.size))) ?_);clear hK K hb5 hst m0 m1 y0 y1 y2 y3 y4
     try simp only [Act.put, Al_1, Al_2, Al_3]
     refine Pl.done_go ?_;go_wp2_with fail;go_roundw
     case rel => exact ⟨i + 1, Se, by omega, by go_num, rfl, hnext, hqw5⟩
     case measure => simp [intOf]; omega
    ·have hie : i = n1 := (by omega);subst hie;have i1 : decide ((i : Int) < (i : Int)) = false := (by simp);have hre := hre9.out;rw [List.take_of_length_le (Nat.le_of_eq hn1H.out)] at hSz hSv;have hkd := Hd (hK.out wr.drew);rcases n2 with _ | n2
     ·obtain rfl : ks = [] := List.eq_nil_of_length_eq_zero hn2H.out;simp at hre;obtain ⟨Sa, h_Sa⟩ : ∃ s, S ++ ⟨#[47, 62]⟩ = s := ⟨_, rfl⟩;have e_Sa := fun w => run_string_add_sum (P := Tryz.prog) w S ⟨#[47, 62]⟩ (by rw [show (ByteArray.mk #[47, 62]).size = 2 from rfl]; omega)
      rw [h_Sa] at e_Sa;have z_Sa : Sa.size = S.size + (ByteArray.mk #[47, 62]).size := (by rw [<- h_Sa, ByteArray.size_append]);rw [show (ByteArray.mk #[47, 62]).size = 2 from rfl] at z_Sa
      have hRv : Hid (Sa = strOf R) := Hd (by
       rw [<- h_Sa, hSv.out, show (ByteArray.mk #[47, 62]) = strOf [47, 62] from rfl, strOf_add, <- hRe.out]
       simp)
      have hfin := Hd (hbaH.out.trans (hqwr.out.mono hbaH.out.size));clear hSz hlR hre z_Sa h_Sa hSv;go_wp2_with fail
      (try simp only [Exit.inBlock, Exit.then])
      go_ret;exact ⟨by rw [hRv.out]; rfl, hfin.out⟩
     ·have hne : ks.isEmpty = false := by
       cases ks with
       | nil => have := hn2H.out; simp at this
       | cons a b => rfl
      rw [hne] at hre;simp at hre;obtain ⟨V, hV⟩ : ∃ s, strOf (writeL ks) = s := ⟨_, rfl⟩;have Vz : V.size = (writeL ks).length := (by rw [<- hV, strOf_size']);have S1z := hnL.out;rw [hV] at hkd;obtain ⟨Sa, h_Sa⟩ : ∃ s, S ++ ⟨#[62]⟩ = s := ⟨_, rfl⟩;have e_Sa := fun w => run_string_add_sum (P := Tryz.prog) w S ⟨#[62]⟩ (by rw [show (ByteArray.mk #[62]).size = 1 from rfl]; omega)
      rw [h_Sa] at e_Sa;have z_Sa : Sa.size = S.size + (ByteArray.mk #[62]).size := (by rw [<- h_Sa, ByteArray.size_append]);rw [show (ByteArray.mk #[62]).size = 1 from rfl] at z_Sa;obtain ⟨Sb, h_Sb⟩ : ∃ s, Sa ++ V = s := ⟨_, rfl⟩;have e_Sb := fun w => run_string_add_sum (P := Tryz.prog) w Sa V (by omega)
      rw [h_Sb] at e_Sb;have z_Sb : Sb.size = Sa.size + V.size := (by rw [<- h_Sb, ByteArray.size_append]);obtain ⟨Sc, h_Sc⟩ : ∃ s, Sb ++ ⟨#[60, 47]⟩ = s := ⟨_, rfl⟩;have e_Sc := fun w => run_string_add_sum (P := Tryz.prog) w Sb ⟨#[60, 47]⟩ (by rw [show (ByteArray.mk #[60, 47]).size = 2 from rfl]; omega)
      rw [h_Sc] at e_Sc;have z_Sc : Sc.size = Sb.size + (ByteArray.mk #[60, 47]).size := (by rw [<- h_Sc, ByteArray.size_append]);rw [show (ByteArray.mk #[60, 47]).size = 2 from rfl] at z_Sc;obtain ⟨Sd, h_Sd⟩ : ∃ s, Sc ++ S1 = s := ⟨_, rfl⟩;have e_Sd := fun w => run_string_add_sum (P := Tryz.prog) w Sc S1 (by omega)
      rw [h_Sd] at e_Sd;have z_Sd : Sd.size = Sc.size + S1.size := (by rw [<- h_Sd, ByteArray.size_append]);obtain ⟨Se, h_Se⟩ : ∃ s, Sd ++ ⟨#[62]⟩ = s := ⟨_, rfl⟩;have e_Se := fun w => run_string_add_sum (P := Tryz.prog) w Sd ⟨#[62]⟩ (by rw [show (ByteArray.mk #[62]).size = 1 from rfl]; omega)
      rw [h_Se] at e_Se;have z_Se : Se.size = Sd.size + (ByteArray.mk #[62]).size := (by rw [<- h_Se, ByteArray.size_append]);rw [show (ByteArray.mk #[62]).size = 1 from rfl] at z_Se
      have hRv : Hid (Se = strOf R) := Hd (by
       rw [<- h_Se, <- h_Sd, <- h_Sc, <- h_Sb, <- h_Sa, hSv.out, <- hV, <- hS1H.out, show (ByteArray.mk #[62]) = strOf [62] from rfl, show (ByteArray.mk #[60, 47]) = strOf [60, 47] from rfl, strOf_add, strOf_add, strOf_add, strOf_add, strOf_add, <- hRe.out, hne]
       simp)
      have hdr : Hid (Below wr.heap.size wr wr.drew) := Hd (Joins.below_draws wr.heap.size wr 1);have hkd9 := Hd (hkd.out (hqwr.out.trans (hdr.out.mono hqwr.out.size)) (by first | rfl | trivial));have hst : Hid (∀ z, Below wr.heap.size wr z -> z.cell? ⟨T, 4, none⟩ = some (.slice A2 (n2 + 1) c2) /\ z.cell? ⟨T, 1, none⟩ = some (.string S1)) := Hd fun z hz => ⟨Xp.cell_blk (hTb.out z (hqwr.out.trans (hz.mono hqwr.out.size))) rfl, Xp.cell_blk (hTb.out z (hqwr.out.trans (hz.mono hqwr.out.size))) rfl⟩
      clear hSz hlR hre z_Sa z_Sb z_Sc z_Sd z_Se h_Sa h_Sb h_Sc h_Sd h_Se hSv hV Vz S1z hkd;go_wp2_with fail;refine Pl.wp_region_plan 9 (.take 0 (.take 1 (.take 2 (.take 3 (.take 7 (.take 8 (.run 4 (.take 5 (.take 6 .done))))))))) (fun x => x.cell? ⟨T, 4, none⟩ = some (.slice A2 (n2 + 1) c2) /\ x.cell? ⟨T, 1, none⟩ = some (.string S1)) (by kernel_rfl) (by kernel_rfl) (by exact hst.out wr (Below.refl _ _)) ?_;simp only [Pl.fill, Al_4, Al_5, Al_6, Al_7]
      iterate 6
       refine Pl.take_go ?_ (by rfl) (fun _ _ _ h => h) ?_ ?_
       rotate_left
       ·(intro x hSw; (try dsimp only at hSw); go_simp; try with_reducible rfl)
       (try simp only [Act.put, Al_1, Al_2, Al_3])
      refine Pl.run_go (fun K hK => ?_);go_simp;refine hkd9.out.mono ?_;rintro e w5 ⟨rfl, hb5⟩;have hfin := Hd (hbaH.out.trans ((hqwr.out.trans ((hdr.out.trans (hb5.mono hdr.out.size)).mono hqwr.out.size)).mono hbaH.out.size));dsimp only;refine hK.out _ _ (Pl.more_go _ (fun _ h => h) (hst.out _ (hdr.out.trans (hb5.mono hdr.out.size))) ?_);clear hK K hb5 hst y0 y1 y2 y3 y4
      try simp only [Act.put, Al_1, Al_2, Al_3]
      iterate 2
       refine Pl.take_go ?_ (by rfl) (fun _ _ _ h => h) ?_ ?_
       rotate_left
       ·(intro x hSw; (try dsimp only at hSw); go_simp; try with_reducible rfl)
       (try simp only [Act.put, Al_1, Al_2, Al_3])
      refine Pl.done_go ?_;go_wp2_with fail
      (try simp only [Exit.inBlock, Exit.then])
      go_ret;exact ⟨by rw [hRv.out]; rfl, hfin.out⟩
  rw [if_neg h1] at hRe;have k1 : (kd != 1) = true := by simpa using h1
  clear hA hK hsA
  by_cases h2 : kd = 2
  ·subst h2;rw [if_pos rfl] at hRe;rw [hRe] at hec;replace hRe := Hd hRe;have k2 : ((2 : Int) == 2) = true := rfl;clear S1z S2z z1 z2 ez2 h1 hlenR
   go_enter Tryz.func155, Tryz.ntmps155
   go_wp2_with fail;refine (hec.out w1).mono ?_;rintro e w2 ⟨rfl, hb2⟩;have hfin := Hd (hbaH.out.trans (hb2.mono hbaH.out.size));clear hb2 hec;go_wp2_with fail
   (try simp only [Exit.inBlock, Exit.then])
   go_ret;exact ⟨rfl, hfin.out⟩
  rw [if_neg h2] at hRe;have k2 : (kd == 2) = false := by simpa using h2
  clear hec
  by_cases h3 : kd = 3
  ·subst h3;rw [if_pos rfl] at hRe;have k3 : ((3 : Int) == 3) = true := rfl;obtain ⟨Sa, h_Sa⟩ : ∃ s, (ByteArray.mk #[60, 33, 45, 45]) ++ S2 = s := ⟨_, rfl⟩;have e_Sa := fun w => run_string_add_sum (P := Tryz.prog) w ⟨#[60, 33, 45, 45]⟩ S2 (by rw [show (ByteArray.mk #[60, 33, 45, 45]).size = 4 from rfl]; omega)
   rw [h_Sa] at e_Sa;have z_Sa : Sa.size = (ByteArray.mk #[60, 33, 45, 45]).size + S2.size := by rw [<- h_Sa, ByteArray.size_append]
   rw [show (ByteArray.mk #[60, 33, 45, 45]).size = 4 from rfl] at z_Sa;obtain ⟨Sb, h_Sb⟩ : ∃ s, Sa ++ ⟨#[45, 45, 62]⟩ = s := ⟨_, rfl⟩;have e_Sb := fun w => run_string_add_sum (P := Tryz.prog) w Sa ⟨#[45, 45, 62]⟩ (by rw [show (ByteArray.mk #[45, 45, 62]).size = 3 from rfl]; omega)
   rw [h_Sb] at e_Sb;have z_Sb : Sb.size = Sa.size + (ByteArray.mk #[45, 45, 62]).size := by rw [<- h_Sb, ByteArray.size_append]
   rw [show (ByteArray.mk #[45, 45, 62]).size = 3 from rfl] at z_Sb
   have hRv : Hid (Sb = strOf R) := Hd (by
    rw [<- h_Sb, <- h_Sa, <- hS2H.out, show (ByteArray.mk #[60, 33, 45, 45]) = strOf [60, 33, 45, 45] from rfl, show (ByteArray.mk #[45, 45, 62]) = strOf [45, 45, 62] from rfl, strOf_add, strOf_add, <- hRe])
   clear S1z S2z z1 z2 ez2 h1 h2 hRe hlenR z_Sa z_Sb h_Sa h_Sb
   go_enter Tryz.func155, Tryz.ntmps155
   go_wp2_with fail
   (try simp only [Exit.inBlock, Exit.then])
   go_ret;exact ⟨by rw [<- hRv.out]; rfl, hbaH.out⟩
  rw [if_neg h3] at hRe;have k3 : (kd == 3) = false := by simpa using h3
  by_cases h4 : kd = 4
  ·subst h4;rw [if_pos rfl] at hRe;have k4 : ((4 : Int) == 4) = true := rfl
   cases tx with
   | nil =>
    have e2 : S2.toList.isEmpty = true := ez2;obtain ⟨Sa, h_Sa⟩ : ∃ s, (ByteArray.mk #[60, 63]) ++ S1 = s := ⟨_, rfl⟩;have e_Sa := fun w => run_string_add_sum (P := Tryz.prog) w ⟨#[60, 63]⟩ S1 (by rw [show (ByteArray.mk #[60, 63]).size = 2 from rfl]; omega)
    rw [h_Sa] at e_Sa;have z_Sa : Sa.size = (ByteArray.mk #[60, 63]).size + S1.size := (by rw [<- h_Sa, ByteArray.size_append]);rw [show (ByteArray.mk #[60, 63]).size = 2 from rfl] at z_Sa;obtain ⟨Sb, h_Sb⟩ : ∃ s, Sa ++ ⟨#[63, 62]⟩ = s := ⟨_, rfl⟩;have e_Sb := fun w => run_string_add_sum (P := Tryz.prog) w Sa ⟨#[63, 62]⟩ (by rw [show (ByteArray.mk #[63, 62]).size = 2 from rfl]; omega)
    rw [h_Sb] at e_Sb;have z_Sb : Sb.size = Sa.size + (ByteArray.mk #[63, 62]).size := (by rw [<- h_Sb, ByteArray.size_append]);rw [show (ByteArray.mk #[63, 62]).size = 2 from rfl] at z_Sb
    have hRv : Hid (Sb = strOf R) := Hd (by
     rw [<- h_Sb, <- h_Sa, <- hS1H.out, show (ByteArray.mk #[60, 63]) = strOf [60, 63] from rfl, show (ByteArray.mk #[63, 62]) = strOf [63, 62] from rfl, strOf_add, strOf_add, <- hRe]
     simp)
    clear S1z S2z z1 z2 ez2 h1 h2 h3 hRe hlenR z_Sa z_Sb h_Sa h_Sb
    go_enter Tryz.func155, Tryz.ntmps155
    go_wp2_with fail
    (try simp only [Exit.inBlock, Exit.then])
    go_ret;exact ⟨by rw [<- hRv.out]; rfl, hbaH.out⟩
   | cons c0 r0 =>
    have e2 : S2.toList.isEmpty = false := ez2;obtain ⟨Sa, h_Sa⟩ : ∃ s, (ByteArray.mk #[60, 63]) ++ S1 = s := ⟨_, rfl⟩;have e_Sa := fun w => run_string_add_sum (P := Tryz.prog) w ⟨#[60, 63]⟩ S1 (by rw [show (ByteArray.mk #[60, 63]).size = 2 from rfl]; omega)
    rw [h_Sa] at e_Sa;have z_Sa : Sa.size = (ByteArray.mk #[60, 63]).size + S1.size := (by rw [<- h_Sa, ByteArray.size_append]);rw [show (ByteArray.mk #[60, 63]).size = 2 from rfl] at z_Sa;obtain ⟨Sb, h_Sb⟩ : ∃ s, Sa ++ ⟨#[32]⟩ = s := ⟨_, rfl⟩;have e_Sb := fun w => run_string_add_sum (P := Tryz.prog) w Sa ⟨#[32]⟩ (by rw [show (ByteArray.mk #[32]).size = 1 from rfl]; omega)
    rw [h_Sb] at e_Sb;have z_Sb : Sb.size = Sa.size + (ByteArray.mk #[32]).size := (by rw [<- h_Sb, ByteArray.size_append]);rw [show (ByteArray.mk #[32]).size = 1 from rfl] at z_Sb;obtain ⟨Sc, h_Sc⟩ : ∃ s, Sb ++ S2 = s := ⟨_, rfl⟩;have e_Sc := fun w => run_string_add_sum (P := Tryz.prog) w Sb S2 (by omega)
    rw [h_Sc] at e_Sc;have z_Sc : Sc.size = Sb.size + S2.size := (by rw [<- h_Sc, ByteArray.size_append]);obtain ⟨Sd, h_Sd⟩ : ∃ s, Sc ++ ⟨#[63, 62]⟩ = s := ⟨_, rfl⟩;have e_Sd := fun w => run_string_add_sum (P := Tryz.prog) w Sc ⟨#[63, 62]⟩ (by rw [show (ByteArray.mk #[63, 62]).size = 2 from rfl]; omega)
    rw [h_Sd] at e_Sd;have z_Sd : Sd.size = Sc.size + (ByteArray.mk #[63, 62]).size := (by rw [<- h_Sd, ByteArray.size_append]);rw [show (ByteArray.mk #[63, 62]).size = 2 from rfl] at z_Sd
    have hRv : Hid (Sd = strOf R) := Hd (by
     rw [<- h_Sd, <- h_Sc, <- h_Sb, <- h_Sa, <- hS1H.out, <- hS2H.out, show (ByteArray.mk #[60, 63]) = strOf [60, 63] from rfl, show (ByteArray.mk #[63, 62]) = strOf [63, 62] from rfl, show (ByteArray.mk #[32]) = strOf [32] from rfl, strOf_add, strOf_add, strOf_add, strOf_add, <- hRe]
     simp)
    clear S1z S2z z1 z2 ez2 h1 h2 h3 hRe hlenR z_Sa z_Sb z_Sc z_Sd h_Sa h_Sb h_Sc h_Sd
    go_enter Tryz.func155, Tryz.ntmps155
    go_wp2_with fail
    (try simp only [Exit.inBlock, Exit.then])
    go_ret;exact ⟨by rw [<- hRv.out]; rfl, hbaH.out⟩
  rw [if_neg h4] at hRe;have k4 : (kd == 4) = false := by simpa using h4
  subst hRe;clear S1z S2z z1 z2 ez2 h1 h2 h3 h4 hlenR
  go_enter Tryz.func155, Tryz.ntmps155
  go_wp2_with fail
  (try simp only [Exit.inBlock, Exit.then])
  go_ret;exact ⟨rfl, hbaH.out⟩
end Go.Proofs.YtdnfnkicmfkkmaaGreatDoor.Xp
end

section

end

section

end

section
namespace Go.Proofs.YtdnfnkicmfkkmaaGreatDoor.Xt
open Go.RowKit UtfW Xl
theorem Sq.kept_ {α : Type} {El : World -> List Value -> α -> Prop} {k : Nat} {w w' : World} {A : Option Addr} {n c : Nat} {l : List α} (h : Sq El k w A n c l) (hb : Below w.heap.size w w') (hE : ∀ vs x, El w vs x -> El w' vs x) : Sq El k w' A n c l :=
 Sq.stay h (fun ad e hn => by
  obtain ⟨b, off, e2, hbl, _⟩ := h.cell hn;rw [e] at e2;injection e2 with e2;rw [e2]
  exact hb.block b hbl) hE
end Go.Proofs.YtdnfnkicmfkkmaaGreatDoor.Xt
end

section

end

section
namespace Go.Proofs.YtdnfnkicmfkkmaaGreatDoor.Xt
open Go.RowKit UtfW Xl
open Go.Deep (oneCellFields)
section
variable {H : Type} {enc : TypeId × Value -> H} {P : Program} {w : World}
theorem open_rows {t e : TypeId} {fs : Array Field} {fuel : Nat} {cs : List Value} {x : DataW H × List MemPlace} (ht : P.underlying t = some (.slice e)) (he : P.underlying e = some (.struct fs))
  (hone : oneCellFields P fs = true) (hC : P.cellsOf e = fs.size) (h : DataW.trod enc P w 0 (fun _ => true) true fuel t cs = some x) :
  (cs = [.slice none 0 0] /\ x = (.nil, [])) ∨
  ∃ (a : Addr) (len cap : Nat) (elems rest : List (DataW H × List MemPlace)), cs = [.slice (some a) len cap] /\ len <= cap /\ cap <= maxLen ∧
   x.1 = .slice (elems.map (·.1)) (rest.map (·.1)) /\ elems.length = len /\ rest.length = cap - len ∧
   ∀ i, i < len -> ∃ (ys : List (DataW H × List MemPlace)) (y : DataW H × List MemPlace) (n : Nat), n < fuel /\ elems[i]? = some y /\ y.1 = .agg (ys.map (·.1)) /\ ys.length = fs.size ∧
    ∀ (j : Nat) (f : Field), fs[j]? = some f -> ∃ (v : Value) (y : DataW H × List MemPlace), w.cell? (a.add (i * fs.size + j)) = some v /\ ys[j]? = some y /\ DataW.trod enc P w 0 (fun _ => true) true n f.type [v] = some y := by
 rcases DataW.trod_slice ht h with h0 | ⟨a, len, cap, elems, rest, n, hfu, rfl, rfl, hb, hl, hm, hlen, hel, hsp, hns⟩
 ·exact .inl h0
 ·refine .inr ⟨a, len, cap, elems, rest, rfl, hl, hm, rfl, hlen, (hsp rfl).1, fun i hi => ?_⟩;have hy : elems[i]? = some (elems[i]'(by omega)) := List.getElem?_eq_getElem (by omega);have h1 := hel i hi;rw [hy, Option.bind_eq_some_iff] at h1;obtain ⟨cs', hc, ht'⟩ := h1;rw [hC] at hc;obtain ⟨ys, n', hn', hy', hlen', hyl, hf⟩ := DataW.trod_struct he ht';obtain ⟨_, hcl, hat⟩ := World.cells?_some hc;refine ⟨ys, _, n', by omega, hy, by rw [hy'], hyl, fun j f hj => ?_⟩;obtain ⟨ho, hk⟩ := Deep.hone_of hone j f hj;have hjl : j < fs.size := (Array.getElem?_eq_some_iff.1 hj).1;have hcell := hat j hjl;have hv : cs'[j]? = some (cs'[j]'(by omega)) := List.getElem?_eq_getElem (by omega);have h1 := hf j f hj;rw [ho, hk] at h1
  have hone' : (cs'.drop j).take 1 = [cs'[j]'(by omega)] := by
   rw [List.drop_eq_getElem_cons (by omega)];rfl
  rw [hone'] at h1;have hys : ys[j]? = some (ys[j]'(by omega)) := List.getElem?_eq_getElem (by omega);refine ⟨_, _, ?_, hys, h1.trans hys⟩;rw [<- Go.Deep.add_add, hcell, hv]
def FieldsD {H : Type} (enc : TypeId × Value -> H) (P : Program) (w : World) (fs : Array Field) (m : Nat) (vs : List Value) (ds : List (DataW H)) : Prop :=
 vs.length = fs.size /\ ds.length = fs.size /\ ∀ (j : Nat) (f : Field), fs[j]? = some f -> ∃ (v : Value) (y : DataW H × List MemPlace), vs[j]? = some v /\ ds[j]? = some y.1 /\ DataW.trod enc P w 0 (fun _ => true) true m f.type [v] = some y /\ Sized P f.type y.1
theorem sq_of_rows {α : Type} {El : World -> List Value -> α -> Prop} {R : α -> DataW H -> Prop} {t e : TypeId} {fs : Array Field} {fuel : Nat} {v : Value} {d : DataW H} {p : List MemPlace} (ht : P.underlying t = some (.slice e)) (he : P.underlying e = some (.struct fs)) (hone : oneCellFields P fs = true) (hC : P.cellsOf e = fs.size) (hpos : 0 < fs.size)
  (h : DataW.trod enc P w 0 (fun _ => true) true fuel t [v] = some (d, p)) (hz : Sized P t d)
  (each : ∀ m vs ds, m < fuel -> FieldsD enc P w fs m vs ds -> ∃ x, El w vs x /\ R x (.agg ds)) :
  ∃ A n c, ∃ l : List α, ∃ es sp : List (DataW H), v = .slice A n c /\ Sq El fs.size w A n c l /\ (n = 0 \/ n * P.bytesOf e <= 140737488351232) /\ (d = .slice es sp \/ (d = .nil /\ es = [])) /\ es.length = n /\ ∀ (i : Nat) x, l[i]? = some x -> ∃ y, es[i]? = some y /\ R x y := by
 rcases open_rows ht he hone hC h with ⟨hcs, hx⟩ | ⟨a, len, cap, elems, rest, hcs, hl, hm, hx, hlen, hrl, hall⟩
 ·injection hcs with hcs _;injection hx with hx _;exact ⟨_, _, _, [], [], [], hcs, Sq.none_ w, .inl rfl, .inr ⟨hx, rfl⟩, rfl, fun i x hi => by simp at hi⟩
 ·injection hcs with hcs _;simp only at hx;subst hx;have hrow := hz.row ht;simp only [List.length_map, hlen, hrl] at hrow
  have hel : ∀ i, i < len -> ∃ q : α × List Value × DataW H, q.2.1.length = fs.size /\ El w q.2.1 q.1 /\ (∀ j u, q.2.1[j]? = some u -> w.cell? (a.add (i * fs.size + j)) = some u) /\ (elems.map (·.1))[i]? = some q.2.2 /\ R q.1 q.2.2 := fun i hi => by
   obtain ⟨ys, y, m, hmf, hey, hya, hyl, hf⟩ := hall i hi;have hzi : Sized P e y.1 := hz.elem ht (List.mem_map.2 ⟨y, List.mem_of_getElem? hey, rfl⟩);rw [hya] at hzi
   have hV : ∀ j, j < fs.size -> ∃ u : Value, w.cell? (a.add (i * fs.size + j)) = some u /\ ∀ f, fs[j]? = some f -> ∃ y : DataW H × List MemPlace, (ys.map (·.1))[j]? = some y.1 /\ DataW.trod enc P w 0 (fun _ => true) true m f.type [u] = some y /\ Sized P f.type y.1 := fun j hj => by
    obtain ⟨u, y, h1, h2, h3⟩ := hf j fs[j] (by simp [hj]);refine ⟨u, h1, fun f hfj => ?_⟩;have : fs[j] = f := (by simpa [hj] using hfj);subst this;exact ⟨y, by rw [List.getElem?_map, h2]; rfl, h3, hzi.field he hfj (d := y.1) (by rw [List.getElem?_map, h2]; rfl)⟩
   obtain ⟨V, hV⟩ := Deep.choose_lt hV
   obtain ⟨x, hx, hR⟩ := each m ((List.range fs.size).map V) (ys.map (·.1)) hmf ⟨by simp, by simpa using hyl, fun j f hfj => by
    have hj : j < fs.size := (Array.getElem?_eq_some_iff.1 hfj).1;obtain ⟨y, h0, h1, h2⟩ := (hV j hj).2 f hfj
    exact ⟨V j, y, by simp [hj], h0, h1, h2⟩⟩
   refine ⟨(x, (List.range fs.size).map V, y.1), by simp, hx, fun j u hu => ?_, by rw [List.getElem?_map, hey]; rfl, by rw [hya]; exact hR⟩;rw [List.getElem?_map, Option.map_eq_some_iff] at hu;obtain ⟨j', hj', rfl⟩ := hu;obtain ⟨hjl, rfl⟩ := range_get hj';exact (hV j' hjl).1
  rcases Nat.eq_zero_or_pos len with h0 | hlpos
  ·subst h0;exact ⟨some a, 0, cap, [], [], _, hcs, { len := rfl, le := hl, max := by unfold maxLen at hm; omega, nil := fun h => (by simp at h), cell := fun hn => absurd hn (by omega) }, .inl rfl, .inl (by rw [List.eq_nil_of_length_eq_zero hlen]; rfl), rfl, fun i x hi => by simp at hi⟩
  haveI : Inhabited (α × List Value × DataW H) := ⟨(hel 0 hlpos).choose⟩
  obtain ⟨L, hL⟩ := Deep.choose_lt hel;refine ⟨some a, len, cap, (List.range len).map fun i => (L i).1, _, _, hcs, { len := by simp, le := hl, max := by unfold maxLen at hm; omega, nil := fun h => (by simp at h), cell := fun hn => ?_ }, .inr ?_, .inl rfl, by simpa using hlen, fun i x hi => ?_⟩
  ·have h00 : ∃ u, w.cell? (a.add 0) = some u := by
    obtain ⟨h1, _, h3, _⟩ := hL 0 (by omega);have hu : (L 0).2.1[0]? = some ((L 0).2.1[0]'(by omega)) := List.getElem?_eq_getElem (by omega);exact ⟨_, by simpa using h3 0 _ hu⟩
   obtain ⟨u0, hu0⟩ := h00
   have hspot : a.spot = none := by
    obtain ⟨b, off, spot⟩ := a
    simpa [Addr.add] using World.cell?_spot hu0
   have hae : a = ⟨a.block, a.off, none⟩ := by
    obtain ⟨b, off, spot⟩ := a;simp only at hspot;subst hspot;rfl
   refine ⟨a.block, a.off, by rw [<- hae], World.block_lt_of_cell? w ⟨a.block, a.off + 0, none⟩ (cell_add hu0 hspot), fun i x hi => ?_⟩;rw [List.getElem?_map, Option.map_eq_some_iff] at hi;obtain ⟨i', hi', rfl⟩ := hi;obtain ⟨hil, rfl⟩ := range_get hi';obtain ⟨h1, h2, h3, _⟩ := hL i' hil;refine ⟨(L i').2.1, h1, h2, fun j v hj => ?_⟩;rw [Nat.add_assoc];exact cell_add (h3 j v hj) hspot
  ·exact Nat.le_trans (Nat.mul_le_mul_right _ (by omega)) hrow
  ·rw [List.getElem?_map, Option.map_eq_some_iff] at hi;obtain ⟨i', hi', rfl⟩ := hi;obtain ⟨hil, rfl⟩ := range_get hi';obtain ⟨_, _, _, h4, h5⟩ := hL i' hil;exact ⟨_, h4, h5⟩
end
end Go.Proofs.YtdnfnkicmfkkmaaGreatDoor.Xt
end

section
namespace Go.Proofs.YtdnfnkicmfkkmaaGreatDoor.Xt
open Go.RowKit UtfW Xl
/-! ### How much a tree holds -/
def wA : List At -> Nat
 | [] => 0
 | a :: r => 1 + a.1.length + a.2.length + wA r
mutual
def wN : Nd -> Nat
 | .mk _ nm tx as_ ks => 1 + nm.length + tx.length + wA as_ + wL ks
def wL : List Nd -> Nat
 | [] => 0
 | x :: xs => wN x + wL xs
end
def bA (as_ : List At) : Prop := as_.length <= 140737488351232 /\ ∀ a ∈ as_, a.1.length <= 140737488351232 /\ a.2.length <= 140737488351232
mutual
def bN : Nd -> Prop
 | .mk _ nm tx as_ ks => nm.length <= 140737488351232 /\ tx.length <= 140737488351232 /\ bA as_ /\ bL ks
def bL : List Nd -> Prop
 | [] => True
 | x :: xs => bN x /\ bL xs
end
theorem bL_of : ∀ {l : List Nd}, (∀ (i : Nat) x, l[i]? = some x -> bN x) -> bL l
 | [], _ => by rw [bL]; trivial
 | y :: l, h => by
  rw [bL];exact ⟨h 0 y rfl, bL_of fun i x hi => h (i + 1) x hi⟩
end Go.Proofs.YtdnfnkicmfkkmaaGreatDoor.Xt
end
