/- count, flush, other of the tree's builder. -/
import Derived.Test.YtokdnhdfmgfkeaaGreatDoorWUtfMath
import Derived.Test.YtokdnhdfmgfkeaaGreatDoorWXlUpto
import Derived.Test.YtokdnhdfmgfkeaaGreatDoorWXlPlaces
import Derived.Deep.LoopGhost
import Derived.Test.YtokdnhdfmgfkeaaGreatDoorWPlan2
import Derived.Test.YtokdnhdfmgfkeaaGreatDoorWStrLaws
set_option linter.unusedVariables false
set_option linter.unusedSimpArgs false
section
namespace Go.Proofs.YtokdnhdfmgfkeaaGreatDoor.Xl
open Go.RowKit UtfW
section
variable {S x : Tx} {k m o : Nat} {ec : Int} {y : UInt8}
theorem com_upto (h : upto [45, 45] (S.drop (k + 4)) = .bad ec o) : comment (S.drop k) = .bad ec (4 + o) := by
 unfold comment;rw [List.drop_drop, h]
theorem com_end (h : upto [45, 45] (S.drop (k + 4)) = .ok x m) (he : S.length <= k + 4 + m) : comment (S.drop k) = .bad 6 (4 + m) := by
 unfold comment;rw [List.drop_drop, h];simp only [List.drop_drop, <- Nat.add_assoc, drop_end he]
theorem com_off (h : upto [45, 45] (S.drop (k + 4)) = .ok x m) (hy : S[k + 4 + m]? = some y) (hn : y ≠ 62) : comment (S.drop k) = .bad 2 (4 + m - 2) := by
 unfold comment;rw [List.drop_drop, h];simp only [List.drop_drop, <- Nat.add_assoc, drop_at hy, if_neg hn]
theorem com_ok (h : upto [45, 45] (S.drop (k + 4)) = .ok x m) (hy : S[k + 4 + m]? = some 62) : comment (S.drop k) = .ok ⟨6, 0, [], Utf.lines x, []⟩ (4 + m + 1) := by
 unfold comment;rw [List.drop_drop, h];simp only [List.drop_drop, <- Nat.add_assoc, drop_at hy, if_true]
end
section
variable (w : World) (b : Nat) (S : Tx) (k : Nat) (A : Option Addr) (c : Nat) (vo : Value)
set_option maxHeartbeats 2000000 in
set_option maxRecDepth 100000 in
theorem comment_any (h : Xc w b S k A c vo) (hk : k + 4 <= S.length) (hS : S.length <= 65536) :
  Calls Tryz.prog 180 #[.pointer (some ⟨b, 0, none⟩)] w fun e w' => GivesT w b S k A c vo (comment (S.drop k)) e w' := by
 have hbw : b < w.heap.size := h.lt;have hba := below_alloc w (.cells #[.int .i64 0, .int .i64 0, .string ⟨#[]⟩, .string ⟨#[]⟩, .slice none 0 0] 87);have hrb := tb_new w 0 0 ⟨#[]⟩ ⟨#[]⟩ (.slice none 0 0);obtain ⟨T0, hT0⟩ : ∃ T0, w.heap.size = T0 := ⟨_, rfl⟩;obtain ⟨w1, hw1⟩ : ∃ w1, w.alloc (.cells #[.int .i64 0, .int .i64 0, .string ⟨#[]⟩, .string ⟨#[]⟩, .slice none 0 0] 87) = w1 := ⟨_, rfl⟩;rw [hw1] at hba hrb;rw [hT0] at hrb;have hs1 := Hd (h.below hba);have hba2 := below_alloc w1 (.cells #[.int .i64 6, .int .i64 (k : Nat), .string ⟨#[]⟩, .string ⟨#[]⟩, .slice none 0 0] 87);have htb := tb_new w1 6 (k : Nat) ⟨#[]⟩ ⟨#[]⟩ (.slice none 0 0);have hs2 := Hd (hs1.out.below hba2);have hg2 := Hd (grown_in (r := some b) (hba.trans (hba2.mono hba.size)));have hrb2 := Hd (hrb.below hba2);have hTT : T0 ≠ w1.heap.size := by have := hrb.lt; omega
 have hTT' := Hd hTT;have h1lo := Hd hba.size;have htb' := Hd htb;have h0 := Hd h;have hbT : b ≠ T0 := by omega
 have hT0' := Hd hT0;have c1 := hs1.out.c1;have c2 := hs2.out.c1;have f2 := hs2.out.frozen 1;have hset := hs2.out.set1 (k + 4);have hs3 := Hd hset.1;have hg3 := Hd (hg2.out.trans hset.2);obtain ⟨R, hR⟩ : ∃ R, comment (S.drop k) = R := ⟨_, rfl⟩;rw [hR];have hR' := Hd hR;clear h hba hba2 hrb htb hTT hset hR
 go_enter Tryz.func180, Tryz.ntmps180
 go_wp2_with fail;have e2 : ((k : Int) + 4) = ((k + 4 : Nat) : Int) := by omega
 rw [e2];have hT2b : Hid (w1.heap.size ≠ b) := Hd (by have := h1lo.out; omega);have htb3 := Hd (htb'.out.on (grown_set _ ⟨b, 1, none⟩ (.int .i64 ((k + 4 : Nat) : Int))) hT2b.out);have hrb3 := Hd (hrb2.out.on (grown_set _ ⟨b, 1, none⟩ (.int .i64 ((k + 4 : Nat) : Int))) hbT.symm);clear hs2 hg2 hrb2 htb' c1 c2 f2 e2;generalize (w1.alloc (.cells #[.int .i64 6, .int .i64 (k : Nat), .string ⟨#[]⟩, .string ⟨#[]⟩, .slice none 0 0] 87)).setCell ⟨b, 1, none⟩ (.int .i64 ((k + 4 : Nat) : Int)) = w3 at hs3 hg3 htb3 hrb3 ⊢;generalize w1.heap.size = T2 at htb3 hTT' hT2b h1lo ⊢;clear hs1;refine (upto_any w3 b S (k + 4) A c vo hs3.out hk hS [45, 45] (by decide) (by decide)).mono ?_;rintro e w4 ⟨hg4, hG⟩
 cases hnm : upto [45, 45] (S.drop (k + 4)) with
 | bad ec o =>
  rw [hnm] at hG;subst hG;go_wp2_with fail;refine ⟨rfl, hg3.out.trans hg4, ?_⟩;have := hR'.out;rw [com_upto hnm] at this;rw [<- this];exact pan_eqI (by omega)
 | ok x m =>
  rw [hnm] at hG;obtain ⟨rfl, hs4⟩ := hG;have hul := upto_len hnm;have hm1 := hul.1;have hm2 := hul.2.1;rw [List.length_drop] at hm1;simp only [List.length_cons, List.length_nil] at hm2;clear hul;have hs4' := Hd hs4;have hg4' := Hd (hg3.out.trans hg4);have htb4' := Hd (htb3.out.on hg4 hT2b.out);have hrb4' := Hd (hrb3.out.on hg4 hbT.symm);have hnm' := Hd hnm;have hxl : (strOf x).size <= 1000000 := by rw [strOf_size' x]; omega
  have hls : (strOf x).data.toList = x := by simp [strOf]
  have hls' := Hd hls;clear hs4 hg4 hnm hs3 hg3 htb3 hrb3 hls;go_wp2_with fail;refine (utfLines_any (strOf x) hxl w4 hs4'.out.us.ut).mono ?_;rintro e wL ⟨rfl, hbL⟩;rw [hls'.out];have htbL := htb4'.out.below hbL;have hsL := hs4'.out.below hbL;have hgL := hg4'.out.trans (grown_in (r := some b) hbL);have hfb : Below w.heap.size wL (wL.setCell ⟨T2, 3, none⟩ (.string (strOf (Utf.lines x)))) := (Below.refl _ wL).setCell (p := ⟨T2, 3, none⟩) h1lo.out _;have hfar := h0.out.far hgL hsL hfb;have hs5 := Hd hfar.1;have hg5 := Hd hfar.2;have htb5 := Hd (tb_set3 (tx' := strOf (Utf.lines x)) htbL);have hrb5 := Hd ((hrb4'.out.below hbL).on (grown_set wL ⟨T2, 3, none⟩ (.string (strOf (Utf.lines x)))) hTT'.out);have z3 := htbL.cell 3;have zf := htbL.frozen 3;clear hbL htbL hsL hgL hfb hfar hs4' hg4' htb4' hrb4' hxl;go_wp2_with fail;generalize wL.setCell ⟨T2, 3, none⟩ (.string (strOf (Utf.lines x))) = w5 at hs5 hg5 htb5 hrb5 ⊢;clear z3 zf
  by_cases hge : S.length <= k + 4 + m
  ·refine (need_bad w5 b S (k + 4 + m) A c vo hs5.out hge).mono ?_;rintro e w6 ⟨rfl, hb6⟩;go_wp2_with fail;refine ⟨rfl, hg5.out.trans (grown_in hb6), ?_⟩;have := hR'.out;rw [com_end hnm'.out hge] at this;rw [<- this];exact pan_eqI (by omega)
  refine (need_ok w5 b S (k + 4 + m) A c vo hs5.out (by omega)).mono ?_;rintro e w6 ⟨rfl, hb6⟩;have hs6 := Hd (hs5.out.below hb6);have hg6 := Hd (hg5.out.trans (grown_in hb6));have htb6 := Hd (htb5.out.below hb6);have hrb6 := Hd (hrb5.out.below hb6);clear hb6;obtain ⟨K, hK⟩ : ∃ K, k + 4 + m = K := ⟨_, rfl⟩;rw [hK] at hs6 hge;have hKI := Hd hK;clear hK;have hlt : K < S.length := by omega
  have c0 := hs6.out.c0;have c1 := hs6.out.c1;obtain ⟨ba, off, rfl, hx, hcell⟩ := hs6.out.at_ hlt;generalize S[K] = y at hx hcell;have hx' := Hd hx;clear hx
  by_cases hy : y = 62
  ·have j1 : ((y.toNat : Int) != 62) = false := by rw [hy]; rfl
   have hx62 : Hid (S[k + 4 + m]? = some 62) := Hd (by rw [hKI.out, <- hy]; exact hx'.out);clear hy;go_wp2_with fail
   go_big_quiet (fail)
   have hb7 := Joins.below_draws w6.heap.size w6 nq;have hs7 := Hd (hs6.out.below hb7);have hg7 := Hd (hg6.out.trans (grown_in hb7));have htb7 := Hd (htb6.out.below hb7);have hrb7 := Hd (hrb6.out.below hb7);clear hb7;generalize w6.drewN nq = w7 at hs7 hg7 htb7 hrb7 ⊢;clear hs6 hg6 htb6 hrb6 c0 c1 hcell;have c1 := hs7.out.c1;have f1 := hs7.out.frozen 1;have hset := hs7.out.set1 (K + 1);have htb8 := htb7.out.on (grown_set w7 ⟨b, 1, none⟩ (.int .i64 ((K : Int) + 1))) hT2b.out;have hrb8 := hrb7.out.on (grown_set w7 ⟨b, 1, none⟩ (.int .i64 ((K : Int) + 1))) hbT.symm;have z0 := htb8.cell 0;have z1 := htb8.cell 1;have z2 := htb8.cell 2;have z3 := htb8.cell 3;have z4 := htb8.cell 4;have y0 := hrb8.cell 0;have y1 := hrb8.cell 1;have y2 := hrb8.cell 2;have y3 := hrb8.cell 3;have y4 := hrb8.cell 4;have g0 := hrb8.frozen 0;have g1 := hrb8.frozen 1;have g2 := hrb8.frozen 2;have g3 := hrb8.frozen 3;have g4 := hrb8.frozen 4;have hs8 := Hd hset.1;have hg8 := Hd (hg7.out.trans hset.2);have hrb8' := Hd hrb8;clear hset htb8 hrb8 hs7 hg7 htb7 hrb7;go_wp2_with fail;have hTlo : w.heap.size <= T0 := by have := hT0'.out; omega
   have hset := tb_set (kd' := 6) (at' := (k : Nat)) (nm' := ⟨#[]⟩) (tx' := strOf (Utf.lines x)) (va' := .slice none 0 0) hrb8'.out;have hfb := (((((Below.refl w.heap.size (w7.setCell ⟨b, 1, none⟩ (.int .i64 ((K + 1 : Nat) : Int)))).setCell (p := ⟨T0, 0, none⟩) hTlo (.int .i64 6)).setCell (p := ⟨T0, 1, none⟩) hTlo (.int .i64 (k : Nat))).setCell (p := ⟨T0, 2, none⟩) hTlo (.string ⟨#[]⟩)).setCell (p := ⟨T0, 3, none⟩) hTlo (.string (strOf (Utf.lines x)))).setCell (p := ⟨T0, 4, none⟩) hTlo (.slice none 0 0);have hfar := h0.out.far hg8.out hs8.out hfb;refine bodyPost_ret (res_tb rfl hset rfl) rfl ?_;refine ⟨hfar.2, ?_⟩;have := hR'.out;rw [com_ok hnm'.out hx62.out] at this;rw [<- this];refine ⟨.slice none 0 0, rfl, ?_, OwS.nil _ _ _⟩;rw [show k + (4 + m + 1) = K + 1 by have := hKI.out; omega];exact hfar.1
  ·have j0 : ((y.toNat : Int) == 62) = false := by rw [show (62 : Int) = ((62 : UInt8).toNat : Int) from rfl, byte_eq, decide_eq_false hy]
   have j1 : ((y.toNat : Int) != 62) = true := by unfold bne; rw [j0]; rfl
   have hy' := Hd hy;have hKb : 2 <= K := by have := hKI.out; omega
   clear hy j0;go_wp2_with fail
   go_big_quiet (fail)
   have hb7 := Joins.below_draws w6.heap.size w6 nq;have hs7 := Hd (hs6.out.below hb7);have hg7 := Hd (hg6.out.trans (grown_in hb7));clear hb7;generalize w6.drewN nq = w7 at hs7 hg7 ⊢;have d1 := hs7.out.c1;go_wp2_with fail;refine (fail_any _ 2 ((K : Int) - 2)).mono ?_;rintro e w9 ⟨rfl, rfl⟩;go_wp2_with fail;refine ⟨rfl, hg7.out, ?_⟩;have := hR'.out;rw [com_off hnm'.out (by rw [hKI.out]; exact hx'.out) hy'.out] at this;rw [<- this];exact pan_eqI (by have := hKI.out; omega)
end
end Go.Proofs.YtokdnhdfmgfkeaaGreatDoor.Xl
end

section
namespace Go.Proofs.YtokdnhdfmgfkeaaGreatDoor.Xl
open Go.RowKit UtfW
theorem OwS.low {α : Type} {El : World -> List Value -> α -> Prop} {k : Nat} {w : World} {B B' E : Nat} {v : Value} {l : List α} (h : OwS El k w B E v l) (hB : B' <= B) : OwS El k w B' E v l := by
 obtain ⟨xs, h1, h2⟩ := h;exact ⟨xs, Joins.ownsRow_le h1 hB, h2⟩
def putTok (w : World) (T : Nat) (kd at_ : Int) (nm tx : ByteArray) (va : Value) : World :=
 ((((w.setCell ⟨T, 0, none⟩ (.int .i64 kd)).setCell ⟨T, 1, none⟩ (.int .i64 at_)).setCell ⟨T, 2, none⟩ (.string nm)).setCell ⟨T, 3, none⟩ (.string tx)).setCell ⟨T, 4, none⟩ va
theorem grown_put (w : World) (T : Nat) (kd at_ : Int) (nm tx : ByteArray) (va : Value) : w.grownBy (putTok w T kd at_ nm tx va) (some T) :=
 ((((grown_set w ⟨T, 0, none⟩ _).trans (grown_set _ ⟨T, 1, none⟩ _)).trans (grown_set _ ⟨T, 2, none⟩ _)).trans (grown_set _ ⟨T, 3, none⟩ _)).trans (grown_set _ ⟨T, 4, none⟩ _)
theorem below_put {w w' : World} {B T : Nat} (h : Below B w w') (hT : B <= T) (kd at_ : Int) (nm tx : ByteArray) (va : Value) : Below B w (putTok w' T kd at_ nm tx va) :=
 ((((h.setCell (p := ⟨T, 0, none⟩) hT _).setCell (p := ⟨T, 1, none⟩) hT _).setCell (p := ⟨T, 2, none⟩) hT _).setCell (p := ⟨T, 3, none⟩) hT _).setCell (p := ⟨T, 4, none⟩) hT _
theorem tok_put {w w5 : World} {b k0 T0 q B E : Nat} {S : Tx} {A : Option Addr} {c : Nat} {vo : Value} {kd0 at0 kd at_ : Int} {nm0 tx0 nm tx : ByteArray} {va0 va : Value} {ats : List At}
  (h0 : Xc w b S k0 A c vo) (hg : w.grownBy w5 (some b)) (hs : Xc w5 b S q A c vo) (hT : w.heap.size = T0) (hrb : Tb w5 T0 kd0 at0 nm0 tx0 va0) (hB : T0 < B) (ho : OwS AtEl 2 w5 B E va ats) :
  Tb (putTok w5 T0 kd at_ nm tx va) T0 kd at_ nm tx va /\ w.grownBy (putTok w5 T0 kd at_ nm tx va) (some b) /\ Xc (putTok w5 T0 kd at_ nm tx va) b S q A c vo /\ OwS AtEl 2 (putTok w5 T0 kd at_ nm tx va) w.heap.size E va ats := by
 have hfar := h0.far hg hs (below_put (Below.refl w.heap.size w5) (Nat.le_of_eq hT) kd at_ nm tx va);refine ⟨tb_set hrb, hfar.2, hfar.1, ?_⟩;refine OwS.low (OwS.kept ho (grown_put w5 T0 kd at_ nm tx va) ?_ AtEl.to) (by omega)
 cases hv : va.ownBlock with
 | none => exact .inl rfl
 | some j =>
  right;have := (ho.lt j hv).1;intro e;injection e with e;omega
section
variable {S x : Tx} {k m o : Nat} {ec : Int}
theorem mark_com (h : Lib.hasPrefix (S.drop k) [60, 33, 45, 45] = true) : mark (S.drop k) = comment (S.drop k) := by
 unfold mark cmT;rw [if_pos h]
theorem mark_cd (h : Lib.hasPrefix (S.drop k) [60, 33, 45, 45] = false) (h2 : Lib.hasPrefix (S.drop k) [60, 33, 91, 67, 68, 65, 84, 65, 91] = true) : mark (S.drop k) = cdata (S.drop k) := by
 unfold mark;unfold cmT cdT;rw [if_neg (by rw [h]; decide), if_pos h2]
theorem mark_end (h : Lib.hasPrefix (S.drop k) [60, 33, 45, 45] = false) (h2 : Lib.hasPrefix (S.drop k) [60, 33, 91, 67, 68, 65, 84, 65, 91] = false) (h3 : Lib.hasPrefix [60, 33, 45, 45] (S.drop k) = true \/ Lib.hasPrefix [60, 33, 91, 67, 68, 65, 84, 65, 91] (S.drop k) = true) :
  mark (S.drop k) = .bad 6 (S.length - k) := by
 unfold mark;unfold cmT cdT;rw [if_neg (by rw [h]; decide), if_neg (by rw [h2]; decide), if_pos h3, List.length_drop]
theorem mark_off (h : Lib.hasPrefix (S.drop k) [60, 33, 45, 45] = false) (h2 : Lib.hasPrefix (S.drop k) [60, 33, 91, 67, 68, 65, 84, 65, 91] = false) (h3 : Lib.hasPrefix [60, 33, 45, 45] (S.drop k) = false) (h4 : Lib.hasPrefix [60, 33, 91, 67, 68, 65, 84, 65, 91] (S.drop k) = false) :
  mark (S.drop k) = .bad 2 0 := by
 unfold mark;unfold cmT cdT;rw [if_neg (by rw [h]; decide), if_neg (by rw [h2]; decide), if_neg (by rw [h3, h4]; decide)]
theorem cd_upto (h : upto [93, 93, 62] (S.drop (k + 9)) = .bad ec o) : cdata (S.drop k) = .bad ec (9 + o) := by
 unfold cdata;rw [List.drop_drop, h]
theorem cd_ok (h : upto [93, 93, 62] (S.drop (k + 9)) = .ok x m) : cdata (S.drop k) = .ok ⟨5, 0, [], Utf.lines x, []⟩ (9 + m) := by
 unfold cdata;rw [List.drop_drop, h]
end
section
variable (w : World) (b : Nat) (S : Tx) (k : Nat) (A : Option Addr) (c : Nat) (vo : Value)
set_option maxHeartbeats 2000000 in
set_option maxRecDepth 100000 in
theorem mark_any (h : Xc w b S k A c vo) (hk : k <= S.length) (hS : S.length <= 65536) :
  Calls Tryz.prog 162 #[.pointer (some ⟨b, 0, none⟩)] w fun e w' => GivesT w b S k A c vo (mark (S.drop k)) e w' := by
 have hbw : b < w.heap.size := h.lt;have hba0 := below_alloc w (.cells #[.int .i64 0, .int .i64 0, .string ⟨#[]⟩, .string ⟨#[]⟩, .slice none 0 0] 87);have hrb0 := tb_new w 0 0 ⟨#[]⟩ ⟨#[]⟩ (.slice none 0 0);obtain ⟨T0, hT0⟩ : ∃ T0, w.heap.size = T0 := ⟨_, rfl⟩;obtain ⟨w0, hw0⟩ : ∃ w0, w.alloc (.cells #[.int .i64 0, .int .i64 0, .string ⟨#[]⟩, .string ⟨#[]⟩, .slice none 0 0] 87) = w0 := ⟨_, rfl⟩;rw [hw0] at hba0 hrb0;rw [hT0] at hrb0;have hs0 := Hd (h.below hba0);have hrb0' := Hd hrb0;have hba0' := Hd hba0;have hbT : b ≠ T0 := by omega
 have hT0' := Hd hT0;have h0 := Hd h;obtain ⟨R, hR⟩ : ∃ R, mark (S.drop k) = R := ⟨_, rfl⟩;rw [hR];have hR' := Hd hR;clear h hba0 hrb0 hR
 go_enter Tryz.func162, Tryz.ntmps162
 go_wp2_with fail;refine (has_any w0 b S k A c vo hs0.out hk hS [60, 33, 45, 45] (by decide)).mono ?_;rintro e w1 ⟨rfl, hb1⟩;have hs1 := Hd (hs0.out.below hb1);have hrb1 := Hd (hrb0'.out.below hb1);have hba1 := Hd (hba0'.out.trans (hb1.mono hba0'.out.size));have hlt1 := Hd (Nat.lt_of_lt_of_le hrb0'.out.lt hb1.size);clear hb1 hs0 hrb0' hba0'
 cases hp1 : Lib.hasPrefix (S.drop k) [60, 33, 45, 45] with
 | true =>
  have hp1' := Hd hp1
  have hk4 : k + 4 <= S.length := by
   have := Qx.prefix_len hp1;rw [List.length_drop] at this;simp only [List.length_cons, List.length_nil] at this;omega
  clear hp1;go_wp2_with fail;refine (comment_any w1 b S k A c vo hs1.out hk4 hS).mono ?_;rintro e w5 ⟨hg5, hG⟩;have hRc : Hid (comment (S.drop k) = R) := Hd (by rw [<- mark_com hp1'.out]; exact hR'.out);rw [hRc.out] at hG
  cases R with
  | bad ec o =>
   subst hG;go_wp2_with fail;exact ⟨rfl, (grown_in hba1.out).trans hg5, rfl⟩
  | ok t n =>
   obtain ⟨va, he, hs5, ho5⟩ := hG;unfold tkV at he;obtain ⟨Av, cv, rfl⟩ := ho5.form;subst he;have hrb5 := hrb1.out.on hg5 hbT.symm;have hfin := Hd (tok_put (kd := (t.kind : Nat)) (at_ := (k : Nat)) (nm := strOf t.name) (tx := strOf t.text) h0.out ((grown_in hba1.out).trans hg5) hs5 hT0'.out hrb5 hlt1.out ho5);have y0 := hrb5.cell 0;have g0 := hrb5.frozen 0;have y1 := hrb5.cell 1;have g1 := hrb5.frozen 1;have y2 := hrb5.cell 2;have g2 := hrb5.frozen 2;have y3 := hrb5.cell 3;have g3 := hrb5.frozen 3;have y4 := hrb5.cell 4;have g4 := hrb5.frozen 4;have hrb5' := Hd hrb5;clear hrb5 hs5 ho5 hg5;go_wp2_with fail;have hf1 := hfin.out;unfold putTok at hf1
   (try simp only [Exit.inBlock, Exit.then])
   refine bodyPost_ret (res_tb rfl hf1.1 rfl) rfl ?_;exact ⟨hf1.2.1, _, rfl, hf1.2.2.1, hf1.2.2.2⟩
 | false =>
 have hp1' := Hd hp1;clear hp1;go_wp2_with fail;refine (has_any w1 b S k A c vo hs1.out hk hS [60, 33, 91, 67, 68, 65, 84, 65, 91] (by decide)).mono ?_;rintro e w1' ⟨rfl, hb1⟩;have hs1' := Hd (hs1.out.below hb1);have hrb1' := Hd (hrb1.out.below hb1);have hba1' := Hd (hba1.out.trans (hb1.mono hba1.out.size));clear hb1 hs1 hrb1 hba1 hlt1;generalize hww : w1' = w1 at hs1' hrb1' hba1' ⊢;clear hww
 cases hp2 : Lib.hasPrefix (S.drop k) [60, 33, 91, 67, 68, 65, 84, 65, 91] with
 | true =>
  have hp2' := Hd hp2
  have hk9 : k + 9 <= S.length := by
   have := Qx.prefix_len hp2;rw [List.length_drop] at this;simp only [List.length_cons, List.length_nil] at this;omega
  clear hp2;have hRc : Hid (cdata (S.drop k) = R) := Hd (by rw [<- mark_cd hp1'.out hp2'.out]; exact hR'.out);have hs1 := hs1';have hba := hba1'.out;have hrb := hrb1'.out;have hba2 := below_alloc w1 (.cells #[.int .i64 5, .int .i64 (k : Nat), .string ⟨#[]⟩, .string ⟨#[]⟩, .slice none 0 0] 87);have htb := tb_new w1 5 (k : Nat) ⟨#[]⟩ ⟨#[]⟩ (.slice none 0 0);have hs2 := Hd (hs1.out.below hba2);have hg2 := Hd (grown_in (r := some b) (hba.trans (hba2.mono hba.size)));have hrb2 := Hd (hrb.below hba2);have hTT : T0 ≠ w1.heap.size := by have := hrb.lt; omega
  have hTT' := Hd hTT;have h1lo := Hd hba.size;have htb' := Hd htb;have c1 := hs1.out.c1;have c2 := hs2.out.c1;have f2 := hs2.out.frozen 1;have hset := hs2.out.set1 (k + 9);have hs3 := Hd hset.1;have hg3 := Hd (hg2.out.trans hset.2);clear hba hba2 hrb htb hTT hset hba1' hrb1' hs1';go_wp2_with fail;have e2 : ((k : Int) + 9) = ((k + 9 : Nat) : Int) := by omega
  rw [e2];have hT2b : Hid (w1.heap.size ≠ b) := Hd (by have := h1lo.out; omega);have htb3 := Hd (htb'.out.on (grown_set _ ⟨b, 1, none⟩ (.int .i64 ((k + 9 : Nat) : Int))) hT2b.out);have hrb3 := Hd (hrb2.out.on (grown_set _ ⟨b, 1, none⟩ (.int .i64 ((k + 9 : Nat) : Int))) hbT.symm);clear hs2 hg2 hrb2 htb' c1 c2 f2 e2;generalize (w1.alloc (.cells #[.int .i64 5, .int .i64 (k : Nat), .string ⟨#[]⟩, .string ⟨#[]⟩, .slice none 0 0] 87)).setCell ⟨b, 1, none⟩ (.int .i64 ((k + 9 : Nat) : Int)) = w3 at hs3 hg3 htb3 hrb3 ⊢;generalize w1.heap.size = T2 at htb3 hTT' hT2b h1lo ⊢;clear hs1;refine (upto_any w3 b S (k + 9) A c vo hs3.out hk9 hS [93, 93, 62] (by decide) (by decide)).mono ?_;rintro e w4 ⟨hg4, hG⟩
  cases hnm : upto [93, 93, 62] (S.drop (k + 9)) with
  | bad ec o =>
   rw [hnm] at hG;subst hG;go_wp2_with fail;refine ⟨rfl, hg3.out.trans hg4, ?_⟩;have := hRc.out;rw [cd_upto hnm] at this;rw [<- this];exact pan_eqI (by omega)
  | ok x m =>
   rw [hnm] at hG;obtain ⟨rfl, hs4⟩ := hG;have hul := upto_len hnm;have hm1 := hul.1;have hm2 := hul.2.1;rw [List.length_drop] at hm1;simp only [List.length_cons, List.length_nil] at hm2;clear hul;have hs4' := Hd hs4;have hg4' := Hd (hg3.out.trans hg4);have htb4' := Hd (htb3.out.on hg4 hT2b.out);have hrb4' := Hd (hrb3.out.on hg4 hbT.symm);have hnm' := Hd hnm;have hxl : (strOf x).size <= 1000000 := by rw [strOf_size' x]; omega
   have hls : (strOf x).data.toList = x := by simp [strOf]
   have hls' := Hd hls;clear hs4 hg4 hnm hs3 hg3 htb3 hrb3 hls;go_wp2_with fail;refine (utfLines_any (strOf x) hxl w4 hs4'.out.us.ut).mono ?_;rintro e wL ⟨rfl, hbL⟩;rw [hls'.out];have htbL := htb4'.out.below hbL;have hsL := hs4'.out.below hbL;have hgL := hg4'.out.trans (grown_in (r := some b) hbL);have hfb : Below w.heap.size wL (wL.setCell ⟨T2, 3, none⟩ (.string (strOf (Utf.lines x)))) := (Below.refl _ wL).setCell (p := ⟨T2, 3, none⟩) h1lo.out _;have hfar := h0.out.far hgL hsL hfb;have hs5 := Hd hfar.1;have hg5 := Hd hfar.2;have htb5 := Hd (tb_set3 (tx' := strOf (Utf.lines x)) htbL);have hrb5 := (hrb4'.out.below hbL).on (grown_set wL ⟨T2, 3, none⟩ (.string (strOf (Utf.lines x)))) hTT'.out;have z3 := htbL.cell 3;have zf := htbL.frozen 3;have hrb5' := Hd hrb5;clear hbL htbL hsL hgL hfb hfar hs4' hg4' htb4' hrb4' hxl hrb5
   go_upto_region 7 with fail
   generalize wL.setCell ⟨T2, 3, none⟩ (.string (strOf (Utf.lines x))) = w5 at hs5 hg5 htb5 hrb5' ⊢;clear z3 zf;have z0 := htb5.out.cell 0;have z1 := htb5.out.cell 1;have z2 := htb5.out.cell 2;have z3 := htb5.out.cell 3;have z4 := htb5.out.cell 4;have hrb5 := hrb5'.out;have y0 := hrb5.cell 0;have g0 := hrb5.frozen 0;have y1 := hrb5.cell 1;have g1 := hrb5.frozen 1;have y2 := hrb5.cell 2;have g2 := hrb5.frozen 2;have y3 := hrb5.cell 3;have g3 := hrb5.frozen 3;have y4 := hrb5.cell 4;have g4 := hrb5.frozen 4;clear hrb5;go_wp2_with fail;have hTlo : w.heap.size <= T0 := by have := hT0'.out; omega
   have hset := tb_set (kd' := 5) (at' := (k : Nat)) (nm' := ⟨#[]⟩) (tx' := strOf (Utf.lines x)) (va' := .slice none 0 0) hrb5'.out;have hfb := below_put (Below.refl w.heap.size w5) hTlo 5 (k : Nat) ⟨#[]⟩ (strOf (Utf.lines x)) (.slice none 0 0);have hfar := h0.out.far hg5.out hs5.out hfb
   (try simp only [Exit.inBlock, Exit.then])
   refine bodyPost_ret (res_tb rfl hset rfl) rfl ?_;refine ⟨hfar.2, ?_⟩;have := hRc.out;rw [cd_ok hnm'.out] at this;rw [<- this];refine ⟨.slice none 0 0, rfl, ?_, OwS.nil _ _ _⟩;rw [show k + (9 + m) = k + 9 + m by omega];exact hfar.1
 | false =>
 have hp2' := Hd hp2;clear hp2;have hbL := below_alloc w1 (.cells #[.string ⟨#[60, 33, 45, 45]⟩, .string ⟨#[60, 33, 91, 67, 68, 65, 84, 65, 91]⟩] 9);have hnL := heap_alloc_new w1 (.cells #[.string ⟨#[60, 33, 45, 45]⟩, .string ⟨#[60, 33, 91, 67, 68, 65, 84, 65, 91]⟩] 9)
 go_upto_region 9 with fail
 generalize w1.alloc (.cells #[.string ⟨#[60, 33, 45, 45]⟩, .string ⟨#[60, 33, 91, 67, 68, 65, 84, 65, 91]⟩] 9) = wL at hbL hnL ⊢;have hLlo : Hid (w1.heap.size < wL.heap.size) := Hd (Array.getElem?_eq_some_iff.1 hnL).1;have hs2 := Hd (hs1'.out.below hbL);have hba2 := Hd (hba1'.out.trans (hbL.mono hba1'.out.size));have hnL' := Hd hnL;generalize w1.heap.size = L at hLlo hnL' ⊢;clear hbL hnL hs1' hba1' hrb1';have hgo : Hid (∀ w9, Below w.heap.size w w9 -> Xc w9 b S k A c vo -> Xc w9 b S k A c vo /\ w.grownBy w9 (some b)) := Hd fun w9 h9 hx => ⟨hx, grown_in h9⟩
 go_loopw [5, 33] (fun _ v33 wr => ∃ j : Nat, j <= 2 /\ v33 = .int .i64 (j : Nat) /\ Hid (1 <= j -> Lib.hasPrefix [60, 33, 45, 45] (S.drop k) = false) /\ Hid (2 <= j -> Lib.hasPrefix [60, 33, 91, 67, 68, 65, 84, 65, 91] (S.drop k) = false) /\ Hid (Below wL.heap.size wL wr)) (fun _ v33 _ => 2 - (intOf v33).toNat)
 case atStart => exact ⟨0, by omega, rfl, Hd (fun h => by omega), Hd (fun h => by omega), Hd (Below.refl _ _)⟩
 case round =>
  obtain ⟨j, hj, rfl, hj1, hj2, hb⟩ := hrel;have hs3 := Hd (hs2.out.below hb.out);have hba3 := Hd (hba2.out.trans (hb.out.mono hba2.out.size));have hrow : wr.heap[L]? = some (.cells #[.string ⟨#[60, 33, 45, 45]⟩, .string ⟨#[60, 33, 91, 67, 68, 65, 84, 65, 91]⟩] 9) := (hb.out.block L hLlo.out).trans hnL'.out;have hlo := Rd.le hs3.out.bs;have hma := Rd.max hs3.out.bs;have hq : Hid (∀ x, Below wr.heap.size wr x -> (x.cell? ⟨b, 0, none⟩ = some (.slice A S.length c) /\ x.cell? ⟨b, 1, none⟩ = some (.int .i64 (k : Nat))) /\ Below wr.heap.size wr x) := Hd fun x hx => ⟨⟨(hs3.out.below hx).c0, (hs3.out.below hx).c1⟩, hx⟩
  have hdr : Hid (Below wr.heap.size wr wr.drew) := Hd (Joins.below_draws wr.heap.size wr 1)
  have hcv : Hid (∀ x, Below wr.heap.size wr x -> (convert 41 9 (.slice (offA A c k) (S.length - k) (c - k))).run Tryz.prog x = .ok (.string (strOf (S.drop k))) x) := Hd fun x hx => by
   have hf := Bs.from (hs3.out.below hx).bs hk (Nat.le_refl _);rw [List.take_of_length_le (by rw [List.length_drop]; omega)] at hf;exact Bs.conv hf Tryz.underlying41 Tryz.underlying5 Tryz.underlying9
  unfold offA at hcv;obtain ⟨A1, hA1⟩ : ∃ A1, (if c = k then A else Option.map (fun x => x.add k) A) = A1 := ⟨_, rfl⟩;rw [hA1] at hcv
  by_cases hjj0 : j = 0
  ·subst hjj0;have r0 : wr.cell? ⟨L, 0, none⟩ = some (.string (strOf [60, 33, 45, 45])) := by simp [World.cell?, hrow]; rfl
   have hjb := Hd trivial
   go_upto_region 11 with fail
   clear r0;refine Pl.wp_region_plan 11 (.take 0 (.take 1 (.take 2 (.take 3 (.take 4 (.take 5 (.take 6 (.take 7 (.take 8 (.take 9 (.take 10 .done))))))))))) (fun x => (x.cell? ⟨b, 0, none⟩ = some (.slice A S.length c) /\ x.cell? ⟨b, 1, none⟩ = some (.int .i64 (k : Nat))) /\ Below wr.heap.size wr x) (by kernel_rfl) (by kernel_rfl) (by exact hq.out _ hdr.out) ?_;simp only [Pl.fill, Al_4, Al_5, Al_6, Al_7]
   iterate 10
    refine Pl.take_go ?_ (by rfl) (fun _ _ _ h => h) ?_ ?_
    rotate_left
    ·(intro x hSw; (try dsimp only at hSw); (try obtain ⟨⟨s0, s1⟩, _⟩ := hSw); go_simp; try with_reducible rfl)
    try simp only [Act.put, Al_1, Al_2, Al_3]
   refine Pl.take_go (.string (strOf (S.drop k))) (by rfl) (fun _ _ _ h => h) ?_ ?_
   ·intro x hSw;have hcx := hcv.out x hSw.2;go_simp
    try with_reducible rfl
   try simp only [Act.put, Al_1, Al_2, Al_3]
   refine Pl.done_go ?_;go_wp2_with fail;refine (hasS_any [60, 33, 45, 45] (S.drop k) wr.drew).mono ?_;rintro e w5 ⟨rfl, hww⟩;subst hww;have hs5 := Hd (hs3.out.below hdr.out);have hba5 := Hd (hba3.out.trans (hdr.out.mono hba3.out.size));have hbb := Hd (hb.out.trans (hdr.out.mono hb.out.size))
   cases hp3 : Lib.hasPrefix [60, 33, 45, 45] (S.drop k) with
   | true =>
    have hp3' := Hd hp3;clear hp3;have c0 := hs5.out.c0;go_wp2_with fail;refine (fail_any _ 6 (S.length : Nat)).mono ?_;rintro e w9 ⟨rfl, hww⟩;subst hww;go_wp2_with fail;refine ⟨rfl, grown_in hba5.out, ?_⟩;have := hR'.out;rw [mark_end hp1'.out hp2'.out (.inl hp3'.out)] at this;rw [<- this];exact pan_eqI (by omega)
   | false =>
    have hp3' := Hd hp3;clear hp3;go_wp2_with fail;go_roundw
    case rel => exact ⟨0 + 1, by omega, by go_num, Hd (fun _ => hp3'.out), Hd (fun h => by omega), hbb⟩
    case measure => simp [intOf]
  by_cases hjj1 : j = 1
  ·subst hjj1;have r1 : wr.cell? ⟨L, 1, none⟩ = some (.string (strOf [60, 33, 91, 67, 68, 65, 84, 65, 91])) := by simp [World.cell?, hrow]; rfl
   have hjb := Hd trivial
   go_upto_region 11 with fail
   clear r1;refine Pl.wp_region_plan 11 (.take 0 (.take 1 (.take 2 (.take 3 (.take 4 (.take 5 (.take 6 (.take 7 (.take 8 (.take 9 (.take 10 .done))))))))))) (fun x => (x.cell? ⟨b, 0, none⟩ = some (.slice A S.length c) /\ x.cell? ⟨b, 1, none⟩ = some (.int .i64 (k : Nat))) /\ Below wr.heap.size wr x) (by kernel_rfl) (by kernel_rfl) (by exact hq.out _ hdr.out) ?_;simp only [Pl.fill, Al_4, Al_5, Al_6, Al_7]
   iterate 10
    refine Pl.take_go ?_ (by rfl) (fun _ _ _ h => h) ?_ ?_
    rotate_left
    ·(intro x hSw; (try dsimp only at hSw); (try obtain ⟨⟨s0, s1⟩, _⟩ := hSw); go_simp; try with_reducible rfl)
    try simp only [Act.put, Al_1, Al_2, Al_3]
   refine Pl.take_go (.string (strOf (S.drop k))) (by rfl) (fun _ _ _ h => h) ?_ ?_
   ·intro x hSw;have hcx := hcv.out x hSw.2;go_simp
    try with_reducible rfl
   try simp only [Act.put, Al_1, Al_2, Al_3]
   refine Pl.done_go ?_;go_wp2_with fail;refine (hasS_any [60, 33, 91, 67, 68, 65, 84, 65, 91] (S.drop k) wr.drew).mono ?_;rintro e w5 ⟨rfl, hww⟩;subst hww;have hs5 := Hd (hs3.out.below hdr.out);have hba5 := Hd (hba3.out.trans (hdr.out.mono hba3.out.size));have hbb := Hd (hb.out.trans (hdr.out.mono hb.out.size))
   cases hp3 : Lib.hasPrefix [60, 33, 91, 67, 68, 65, 84, 65, 91] (S.drop k) with
   | true =>
    have hp3' := Hd hp3;clear hp3;have c0 := hs5.out.c0;go_wp2_with fail;refine (fail_any _ 6 (S.length : Nat)).mono ?_;rintro e w9 ⟨rfl, hww⟩;subst hww;go_wp2_with fail;refine ⟨rfl, grown_in hba5.out, ?_⟩;have := hR'.out;rw [mark_end hp1'.out hp2'.out (.inr hp3'.out)] at this;rw [<- this];exact pan_eqI (by omega)
   | false =>
    have hp3' := Hd hp3;clear hp3;go_wp2_with fail;go_roundw
    case rel => exact ⟨1 + 1, by omega, by go_num, Hd (fun _ => hj1.out (by omega)), Hd (fun _ => hp3'.out), hbb⟩
    case measure => simp [intOf]
  have i0 : decide ((j : Int) < 2) = false := by simp; omega
  obtain rfl : j = 2 := by omega
  have c1 := hs3.out.c1;clear hcv hA1 A1;go_wp2_with fail;refine (fail_any _ 2 (k : Nat)).mono ?_;rintro e w9 ⟨rfl, rfl⟩;go_wp2_with fail;refine ⟨rfl, grown_in hba3.out, ?_⟩;have := hR'.out;rw [mark_off hp1'.out hp2'.out (hj1.out (by omega)) (hj2.out (by omega))] at this;rw [<- this];exact pan_eqI (by omega)
end
end Go.Proofs.YtokdnhdfmgfkeaaGreatDoor.Xl
end

section
namespace Go.Proofs.YtokdnhdfmgfkeaaGreatDoor.Xl
open Go.RowKit UtfW
section
variable {S nm : Tx} {k n m o : Nat} {ec : Int} {e : Bool} {ats : List At}
theorem tag_name (h : name (S.drop (k + 1)) = .bad ec o) : tag (S.drop k) = .bad ec (1 + o) := by
 unfold tag;rw [List.drop_drop, h]
theorem tag_bad (h : name (S.drop (k + 1)) = .ok nm n) (ht : (tagF (S.length - k + 1) (S.drop (k + 1 + n)) []).shift (1 + n) = .bad ec o) : tag (S.drop k) = .bad ec o := by
 obtain ⟨p, hp, rfl⟩ := shift_bad ht;unfold tag;rw [List.drop_drop, h];simp only [List.drop_drop, <- Nat.add_assoc, List.length_drop, hp]
theorem tag_ok (h : name (S.drop (k + 1)) = .ok nm n) (ht : (tagF (S.length - k + 1) (S.drop (k + 1 + n)) []).shift (1 + n) = .ok (e, ats) m) : tag (S.drop k) = .ok ⟨if e then 2 else 1, 0, nm, [], ats⟩ m := by
 obtain ⟨p, hp, rfl⟩ := shift_ok ht;unfold tag;rw [List.drop_drop, h];simp only [List.drop_drop, <- Nat.add_assoc, List.length_drop, hp]
end
section
variable {S : Tx} {q f B n o : Nat} {ats : List At} {a : At} {ec : Int} {x : UInt8}
theorem tf_end (hB : blanks (S.drop q) = B) (h : S.length <= q + B) : tagF (f + 1) (S.drop q) ats = .bad 6 B := by
 rw [tagF_nil f ats (by rw [hB, List.drop_drop, drop_end h]), hB]
theorem tf_shut (hB : blanks (S.drop q) = B) (hx : S[q + B]? = some 62) : tagF (f + 1) (S.drop q) ats = .ok (false, ats) (B + 1) := by
 rw [tagF_cons f ats (by rw [hB, List.drop_drop]; exact drop_at hx), if_pos rfl, hB]
theorem tf_slash_bad (hB : blanks (S.drop q) = B) (hx : S[q + B]? = some 47) (he : eat [47, 62] (S.drop (q + B)) = .bad ec o) : tagF (f + 1) (S.drop q) ats = .bad ec (B + o) := by
 rw [tagF_cons f ats (by rw [hB, List.drop_drop]; exact drop_at hx), if_neg (by decide), if_pos rfl, <- drop_at hx, he, hB]
theorem tf_slash (hB : blanks (S.drop q) = B) (hx : S[q + B]? = some 47) (he : eat [47, 62] (S.drop (q + B)) = .ok () n) : tagF (f + 1) (S.drop q) ats = .ok (true, ats) (B + n) := by
 rw [tagF_cons f ats (by rw [hB, List.drop_drop]; exact drop_at hx), if_neg (by decide), if_pos rfl, <- drop_at hx, he, hB]
theorem tf_none (hB : blanks (S.drop q) = 0) (hx : S[q]? = some x) (h1 : x ≠ 62) (h2 : x ≠ 47) : tagF (f + 1) (S.drop q) ats = .bad 2 0 := by
 rw [tagF_cons f ats (by rw [hB, List.drop_drop]; exact drop_at hx), if_neg h1, if_neg h2, if_pos hB]
theorem tf_attr (hB : blanks (S.drop q) = B) (h0 : 0 < B) (hx : S[q + B]? = some x) (h1 : x ≠ 62) (h2 : x ≠ 47) : tagF (f + 1) (S.drop q) ats = match attr ats (S.drop (q + B)) with
   | .bad e o => .bad e (B + o)
   | .ok a n => (tagF f (S.drop (q + B + n)) (ats ++ [a])).shift (B + n) := by
 rw [tagF_cons f ats (by rw [hB, List.drop_drop]; exact drop_at hx), if_neg h1, if_neg h2, if_neg (by omega), <- drop_at hx, hB]
 cases attr ats (S.drop (q + B)) with
 | bad e o => rfl
 | ok a n => simp only [List.drop_drop]
end
theorem owS_kept {w w' : World} {B E b : Nat} {v : Value} {l : List At} (h : OwS AtEl 2 w B E v l) (hg : w.grownBy w' (some b)) (hb : b < B) : OwS AtEl 2 w' B E v l :=
 OwS.kept h hg (by
  cases hv : v.ownBlock with
  | none => exact .inl rfl
  | some j =>
   right;have := (OwS.lt h j hv).1;intro e;injection e with e
   omega) AtEl.to
theorem info_attr : (Tryz.prog.info? 55).map (fun i => (i.zero, i.size, i.bytes)) = some (some (.agg #[.string ⟨#[]⟩, .string ⟨#[]⟩]), 2, 32) := by kernel_rfl
section
variable (w : World) (b : Nat) (S : Tx) (k : Nat) (A : Option Addr) (c : Nat) (vo : Value)
set_option maxHeartbeats 2000000 in
set_option maxRecDepth 100000 in
theorem tag_any (h : Xc w b S k A c vo) (hk : k + 1 <= S.length) (hS : S.length <= 65536) :
  Calls Tryz.prog 165 #[.pointer (some ⟨b, 0, none⟩)] w fun e w' => GivesT w b S k A c vo (tag (S.drop k)) e w' := by
 have hbw : b < w.heap.size := h.lt;have hba := below_alloc w (.cells #[.int .i64 0, .int .i64 0, .string ⟨#[]⟩, .string ⟨#[]⟩, .slice none 0 0] 87);have hrb := tb_new w 0 0 ⟨#[]⟩ ⟨#[]⟩ (.slice none 0 0);obtain ⟨T0, hT0⟩ : ∃ T0, w.heap.size = T0 := ⟨_, rfl⟩;obtain ⟨w1, hw1⟩ : ∃ w1, w.alloc (.cells #[.int .i64 0, .int .i64 0, .string ⟨#[]⟩, .string ⟨#[]⟩, .slice none 0 0] 87) = w1 := ⟨_, rfl⟩;rw [hw1] at hba hrb;rw [hT0] at hrb;have hs1 := Hd (h.below hba);have hba2 := below_alloc w1 (.cells #[.int .i64 1, .int .i64 (k : Nat), .string ⟨#[]⟩, .string ⟨#[]⟩, .slice none 0 0] 87);have htb := tb_new w1 1 (k : Nat) ⟨#[]⟩ ⟨#[]⟩ (.slice none 0 0);have hs2 := Hd (hs1.out.below hba2);have hg2 := Hd (grown_in (r := some b) (hba.trans (hba2.mono hba.size)));have hrb2 := Hd (hrb.below hba2);have hTT : T0 ≠ w1.heap.size := by have := hrb.lt; omega
 have hTT' := Hd hTT;have h1lo := Hd hba.size;have htb' := Hd htb;have h0 := Hd h;have hbT : b ≠ T0 := by omega
 have hT0' := Hd hT0;have c1 := hs1.out.c1;have c2 := hs2.out.c1;have f2 := hs2.out.frozen 1;have hset := hs2.out.set1 (k + 1);have hs3 := Hd hset.1;have hg3 := Hd (hg2.out.trans hset.2);obtain ⟨R, hR⟩ : ∃ R, tag (S.drop k) = R := ⟨_, rfl⟩;rw [hR];have hR' := Hd hR;clear h hba hba2 hrb htb hTT hset hR
 go_enter Tryz.func165, Tryz.ntmps165
 go_wp2_with fail;have e2 : ((k : Int) + 1) = ((k + 1 : Nat) : Int) := by omega
 rw [e2];have hT2b : Hid (w1.heap.size ≠ b) := Hd (by have := h1lo.out; omega);have htb3 := Hd (htb'.out.on (grown_set _ ⟨b, 1, none⟩ (.int .i64 ((k + 1 : Nat) : Int))) hT2b.out);have hrb3 := Hd (hrb2.out.on (grown_set _ ⟨b, 1, none⟩ (.int .i64 ((k + 1 : Nat) : Int))) hbT.symm);clear hs2 hg2 hrb2 htb' c1 c2 f2 e2;generalize (w1.alloc (.cells #[.int .i64 1, .int .i64 (k : Nat), .string ⟨#[]⟩, .string ⟨#[]⟩, .slice none 0 0] 87)).setCell ⟨b, 1, none⟩ (.int .i64 ((k + 1 : Nat) : Int)) = w3 at hs3 hg3 htb3 hrb3 ⊢;generalize w1.heap.size = T2 at htb3 hTT' hT2b h1lo ⊢;clear hs1;refine (name_any w3 b S (k + 1) A c vo hs3.out hk hS).mono ?_;rintro e w4 ⟨hg4, hG⟩
 cases hnm : name (S.drop (k + 1)) with
 | bad ec o =>
  rw [hnm] at hG;subst hG;go_wp2_with fail;refine ⟨rfl, hg3.out.trans hg4, ?_⟩;have := hR'.out;rw [tag_name hnm] at this;rw [<- this];exact pan_eqI (by omega)
 | ok nm n =>
  rw [hnm] at hG;obtain ⟨rfl, hs4⟩ := hG;have hnl := name_len hnm;have hn1 := hnl.1;have hn2 := hnl.2.1;rw [List.length_drop] at hn2;clear hnl;have htb4 := htb3.out.on hg4 hT2b.out;have hrb4 := hrb3.out.on hg4 hbT.symm;have hfb : Below w.heap.size w4 (w4.setCell ⟨T2, 2, none⟩ (.string (strOf nm))) := (Below.refl _ w4).setCell (p := ⟨T2, 2, none⟩) h1lo.out _;have hfar := h0.out.far (hg3.out.trans hg4) hs4 hfb;have hs5 := Hd hfar.1;have hg5 := Hd hfar.2;have htb5 := Hd (tb_set2 (nm' := strOf nm) htb4);have hrb5 := Hd (hrb4.on (grown_set w4 ⟨T2, 2, none⟩ (.string (strOf nm))) hTT'.out);have z2 := htb4.cell 2;have zf := htb4.frozen 2;have hnm' := Hd hnm;obtain ⟨TR, hTR⟩ : ∃ TR, (tagF (S.length - k + 1) (S.drop (k + 1 + n)) []).shift (1 + n) = TR := ⟨_, rfl⟩;have hTR' := Hd hTR;have hbadR : Hid (∀ ec o, TR = .bad ec o -> R = .bad ec o) := Hd fun ec o h => by rw [<- hR'.out, tag_bad hnm'.out (hTR'.out.trans h)]
  have hokR : Hid (∀ e ats m, TR = .ok (e, ats) m -> R = .ok ⟨if e then 2 else 1, 0, nm, [], ats⟩ m) := Hd fun e ats m h => by rw [<- hR'.out, tag_ok hnm'.out (hTR'.out.trans h)]
  clear hs4 hg4 htb4 hrb4 hfb hfar hnm hs3 hg3 htb3 hrb3 hTR hR';have hTlo : Hid (w.heap.size <= T0) := Hd (by have := hT0'.out; omega)
  go_upto_region 4 with fail
  generalize w4.setCell ⟨T2, 2, none⟩ (.string (strOf nm)) = w5 at hs5 hg5 htb5 hrb5 ⊢;clear z2 zf;have hB0T2 := htb5.out.lt;have hB0T0 := hrb5.out.lt;have hB0b := hs5.out.lt;obtain ⟨B0, hB0⟩ : ∃ B0, w5.heap.size = B0 := ⟨_, rfl⟩;rw [hB0] at hB0T2 hB0T0 hB0b;have hB0T2' := Hd hB0T2;have hB0T0' := Hd hB0T0;have hB0b' := Hd hB0b;have hB0' := Hd hB0;have hB0w : Hid (w.heap.size <= B0) := Hd (by have := hg5.out.size; omega);clear hB0T2 hB0T0 hB0b hB0
  go_loopg [4] (S.length + 1) (fun m v4 wr => ∃ (q f : Nat) (ats : List At) (va : Value), k + 1 <= q /\ q <= S.length /\ S.length - q < m /\ ats.length <= q /\ Hid (S.length - q < f) /\ Hid ((tagF f (S.drop q) ats).shift (q - k) = TR) /\ Hid (B0 <= wr.heap.size) /\ Hid (Xc wr b S q A c vo) /\ Hid (w.grownBy wr (some b)) /\ Hid (Tb wr T2 1 (k : Nat) (strOf nm) ⟨#[]⟩ va) /\ Hid (Tb wr T0 0 0 ⟨#[]⟩ ⟨#[]⟩ (.slice none 0 0)) /\ Hid (OwS AtEl 2 wr B0 55 va ats))
  case atStart =>
   exact ⟨k + 1 + n, S.length - k + 1, [], .slice none 0 0, by omega, by omega, by omega, by simp, Hd (by omega), Hd (by rw [show k + 1 + n - k = 1 + n by omega]; exact hTR'.out), Hd (by rw [hB0'.out]; omega), hs5, hg5, htb5, hrb5, Hd (OwS.nil _ _ _)⟩
  case round =>
   clear hs5 hg5 htb5 hrb5 hTR';obtain ⟨q, f, ats, va, hkq, hql, hms, hal, hf, hr, hsz, hs, hg, htb, hrb, ho⟩ := hrel;obtain ⟨f', rfl⟩ : ∃ f', f = f' + 1 := ⟨f - 1, by have := hf.out; omega⟩;go_wp2_with fail;refine (blanks_any wr b S q A c vo hs.out hql hS).mono ?_;rintro e w6 ⟨rfl, hs6, hg6⟩;obtain ⟨A5, c5, rfl⟩ := ho.out.form;have hB1 := blanks_le (S.drop q);rw [List.length_drop] at hB1;obtain ⟨B, hBe⟩ : ∃ B, blanks (S.drop q) = B := ⟨_, rfl⟩;rw [hBe] at hs6 hB1 ⊢;have hB' := Hd hBe;have hs6' := Hd hs6;have hsz6 := Hd (Nat.le_trans hsz.out hg6.size);have hg6' := Hd (hg.out.trans hg6);have htb6 := Hd (htb.out.on hg6 hT2b.out);have hrb6 := Hd (hrb.out.on hg6 hbT.symm);have ho6 := Hd (owS_kept ho.out hg6 hB0b'.out);obtain ⟨some_, hsome⟩ : ∃ s, decide (0 < B) = s := ⟨_, rfl⟩;rw [hsome];have hsome' := Hd hsome;clear hs6 hg6 hBe hs hg htb hrb ho hsz hsome;go_wp2_with fail
   by_cases hge : S.length <= q + B
   ·refine (need_bad w6 b S (q + B) A c vo hs6'.out hge).mono ?_;rintro e w7 ⟨rfl, hb7⟩;go_wp2_with fail;refine ⟨rfl, hg6'.out.trans (grown_in hb7), ?_⟩;have := hr.out;rw [tf_end hB'.out hge] at this;rw [hbadR.out _ _ this.symm];exact pan_eqI (by omega)
   have hlt : q + B < S.length := by omega
   refine (need_ok w6 b S (q + B) A c vo hs6'.out hlt).mono ?_;rintro e w7 ⟨rfl, hb7⟩;have hs7 := Hd (hs6'.out.below hb7);have hg7 := Hd (hg6'.out.trans (grown_in hb7));have htb7 := Hd (htb6.out.below hb7);have hrb7 := Hd (hrb6.out.below hb7);have ho7 := Hd (OwS.below ho6.out hb7 AtEl.to);have hsz7 := Hd (Nat.le_trans hsz6.out hb7.size);clear hb7 hs6' hg6' htb6 hrb6 ho6 hsz6 hge;have c0 := hs7.out.c0;have c1 := hs7.out.c1;obtain ⟨ba, off, rfl, hx, hcell⟩ := hs7.out.at_ hlt;generalize S[q + B] = x at hx hcell;have hx' := Hd hx;clear hx;go_wp2_with fail
   go_big_quiet (fail)
   have hdr := Joins.below_draws w7.heap.size w7 nq;have hs8 := Hd (hs7.out.below hdr);have hg8 := Hd (hg7.out.trans (grown_in hdr));have htb8 := Hd (htb7.out.below hdr);have hrb8 := Hd (hrb7.out.below hdr);have ho8 := Hd (OwS.below ho7.out hdr AtEl.to);have hsz8 := Hd (Nat.le_trans hsz7.out hdr.size);generalize w7.drewN nq = w8 at hs8 hg8 htb8 hrb8 ho8 hsz8 ⊢;clear hdr hs7 hg7 htb7 hrb7 ho7 hsz7 c0 c1 hcell
   by_cases j6 : x = 62
   ·have j62 : ((x.toNat : Int) == 62) = true := by rw [j6]; rfl
    have hx62 : Hid (S[q + B]? = some 62) := Hd (by rw [<- j6]; exact hx'.out);clear j6;have c1 := hs8.out.c1;have f1 := hs8.out.frozen 1;have hset := hs8.out.set1 (q + B + 1);have htb9 := Hd (htb8.out.on (grown_set w8 ⟨b, 1, none⟩ (.int .i64 ((q + B + 1 : Nat) : Int))) hT2b.out);have hrb9 := Hd (hrb8.out.on (grown_set w8 ⟨b, 1, none⟩ (.int .i64 ((q + B + 1 : Nat) : Int))) hbT.symm);have hs9 := Hd hset.1;have hg9 := Hd (hg8.out.trans hset.2);have ho9 := Hd (owS_kept ho8.out (grown_set w8 ⟨b, 1, none⟩ (.int .i64 ((q + B + 1 : Nat) : Int))) hB0b'.out);clear hset hs8 hg8 htb8 hrb8 ho8
    go_upto_region 9 with fail
    have e3 : ((q : Int) + (B : Int) + 1) = ((q + B + 1 : Nat) : Int) := by omega
    try rw [e3]
    clear e3;generalize w8.setCell ⟨b, 1, none⟩ (.int .i64 ((q + B + 1 : Nat) : Int)) = w9 at hs9 hg9 htb9 hrb9 ho9 ⊢;clear c1 f1;have z0 := htb9.out.cell 0;have z1 := htb9.out.cell 1;have z2 := htb9.out.cell 2;have z3 := htb9.out.cell 3;have z4 := htb9.out.cell 4;have y0 := hrb9.out.cell 0;have g0 := hrb9.out.frozen 0;have y1 := hrb9.out.cell 1;have g1 := hrb9.out.frozen 1;have y2 := hrb9.out.cell 2;have g2 := hrb9.out.frozen 2;have y3 := hrb9.out.cell 3;have g3 := hrb9.out.frozen 3;have y4 := hrb9.out.cell 4;have g4 := hrb9.out.frozen 4;go_wp2_with fail;have hfin := tok_put (kd := 1) (at_ := (k : Nat)) (nm := strOf nm) (tx := ⟨#[]⟩) h0.out hg9.out hs9.out hT0'.out hrb9.out hB0T0'.out ho9.out;unfold putTok at hfin
    (try simp only [Exit.inBlock, Exit.then])
    refine bodyPost_ret (res_tb rfl hfin.1 rfl) rfl ?_;refine ⟨hfin.2.1, ?_⟩;have := hr.out;rw [tf_shut hB'.out hx62.out] at this;rw [hokR.out _ _ _ this.symm];refine ⟨_, rfl, ?_, hfin.2.2.2⟩;rw [show k + (q - k + (B + 1)) = q + B + 1 by omega];exact hfin.2.2.1
   have j62 : ((x.toNat : Int) == 62) = false := by rw [show (62 : Int) = ((62 : UInt8).toNat : Int) from rfl, byte_eq, decide_eq_false j6]
   have j6' := Hd j6;clear j6
   by_cases j4 : x = 47
   ·have j47 : ((x.toNat : Int) == 47) = true := by rw [j4]; rfl
    have hx47 : Hid (S[q + B]? = some 47) := Hd (by rw [<- j4]; exact hx'.out);clear j4;go_wp2_with fail;refine (eat_any w8 b S (q + B) _ c vo hs8.out (by omega) hS [47, 62] (by decide)).mono ?_;rintro e w9 ⟨hg9, hG⟩
    cases hea : eat [47, 62] (S.drop (q + B)) with
    | bad ec eo =>
     rw [hea] at hG;subst hG;go_wp2_with fail;refine ⟨rfl, hg8.out.trans hg9, ?_⟩;have := hr.out;rw [tf_slash_bad hB'.out hx47.out hea] at this;rw [hbadR.out _ _ this.symm];exact pan_eqI (by omega)
    | ok u m =>
     rw [hea] at hG;obtain ⟨rfl, hs9⟩ := hG;have htb9 := htb8.out.on hg9 hT2b.out;have hrb9 := hrb8.out.on hg9 hbT.symm;have ho9 := owS_kept ho8.out hg9 hB0b'.out;have hfb : Below w.heap.size w9 (w9.setCell ⟨T2, 0, none⟩ (.int .i64 2)) := (Below.refl _ w9).setCell (p := ⟨T2, 0, none⟩) h1lo.out _;have hfar := h0.out.far (hg8.out.trans hg9) hs9 hfb;have hsA := Hd hfar.1;have hgA := Hd hfar.2;have htbA := Hd (tb_set0 (kd' := 2) htb9);have hrbA := Hd (hrb9.on (grown_set w9 ⟨T2, 0, none⟩ (.int .i64 2)) hTT'.out);have hoA := Hd (owS_kept ho9 (grown_set w9 ⟨T2, 0, none⟩ (.int .i64 2)) hB0T2'.out);have z0 := htb9.cell 0;have zf := htb9.frozen 0;have hea' := Hd hea;clear hs9 hg9 htb9 hrb9 ho9 hfb hfar hea hs8 hg8 htb8 hrb8 ho8
     go_upto_region 13 with fail
     generalize w9.setCell ⟨T2, 0, none⟩ (.int .i64 2) = wA at hsA hgA htbA hrbA hoA ⊢;clear z0 zf;have z0 := htbA.out.cell 0;have z1 := htbA.out.cell 1;have z2 := htbA.out.cell 2;have z3 := htbA.out.cell 3;have z4 := htbA.out.cell 4;have y0 := hrbA.out.cell 0;have g0 := hrbA.out.frozen 0;have y1 := hrbA.out.cell 1;have g1 := hrbA.out.frozen 1;have y2 := hrbA.out.cell 2;have g2 := hrbA.out.frozen 2;have y3 := hrbA.out.cell 3;have g3 := hrbA.out.frozen 3;have y4 := hrbA.out.cell 4;have g4 := hrbA.out.frozen 4;go_wp2_with fail;have hfin := tok_put (kd := 2) (at_ := (k : Nat)) (nm := strOf nm) (tx := ⟨#[]⟩) h0.out hgA.out hsA.out hT0'.out hrbA.out hB0T0'.out hoA.out;unfold putTok at hfin
     (try simp only [Exit.inBlock, Exit.then])
     refine bodyPost_ret (res_tb rfl hfin.1 rfl) rfl ?_;refine ⟨hfin.2.1, ?_⟩;have := hr.out;rw [tf_slash hB'.out hx47.out hea'.out] at this;rw [hokR.out _ _ _ this.symm];refine ⟨_, rfl, ?_, hfin.2.2.2⟩;rw [show k + (q - k + (B + m)) = q + B + m by omega];exact hfin.2.2.1
   have j47 : ((x.toNat : Int) == 47) = false := by
    have hj : ¬ x = 47 := j4;rw [show (47 : Int) = ((47 : UInt8).toNat : Int) from rfl, byte_eq, decide_eq_false hj]
   have j4' := Hd j4;clear j4
   by_cases hB00 : B = 0
   ·have hs0 : some_ = false := by rw [<- hsome'.out, hB00]; rfl
    have hB0e := Hd hB00;subst hs0;have c1 := hs8.out.c1;clear hB00;go_wp2_with fail;refine (fail_any _ 2 ((q + B : Nat) : Int)).mono ?_;rintro e w9 ⟨rfl, rfl⟩;go_wp2_with fail;refine ⟨rfl, hg8.out, ?_⟩;have := hr.out;rw [tf_none (by rw [hB'.out]; exact hB0e.out) (by have h := hx'.out; rw [hB0e.out, Nat.add_zero] at h; exact h) j6'.out j4'.out] at this;rw [hbadR.out _ _ this.symm];exact pan_eqI (by have := hB0e.out; omega)
   have hs0 : some_ = true := by rw [<- hsome'.out]; simp; omega
   subst hs0;have hBpos : 0 < B := by omega
   clear hB00
   have hne : ∀ a, A5 = some a -> 0 < ats.length -> a.block ≠ b := fun a e _ => by
    have := (ho8.out.lt a.block (by rw [e]; rfl)).1;have := hB0b'.out;omega
   have hq : Hid (∀ x, Below w8.heap.size w8 x -> x.cell? ⟨T2, 4, none⟩ = some (.slice A5 ats.length c5)) := Hd fun x hx => (htb8.out.below hx).cell 4
   have hdr : Hid (Below w8.heap.size w8 w8.drew) := Hd (Joins.below_draws w8.heap.size w8 1);have hatc := attribute_any w8.drew b S (q + B) _ c vo (hs8.out.below hdr.out) (by omega) hS A5 ats.length c5 ats (OwS.sq' (OwS.below ho8.out hdr.out AtEl.to) (by decide)) hne (by omega);clear hne
   have hfa : Hid ((tagF (f' + 1) (S.drop q) ats) = match attr ats (S.drop (q + B)) with
     | .bad e o => .bad e (B + o)
     | .ok a n => (tagF f' (S.drop (q + B + n)) (ats ++ [a])).shift (B + n)) := Hd (tf_attr hB'.out hBpos hx'.out j6'.out j4'.out)
   cases hav : attr ats (S.drop (q + B)) with
   | bad ec eo =>
    rw [hav] at hatc hfa;have hatc' := Hd hatc;clear hatc hav
    go_upto_region 16 with fail
    refine Pl.wp_region_plan 7 (.take 0 (.take 1 (.take 2 (.take 3 (.take 4 (.run 5 (.run 6 .done))))))) (fun x => x.cell? ⟨T2, 4, none⟩ = some (.slice A5 ats.length c5)) (by kernel_rfl) (by kernel_rfl) (by exact hq.out _ hdr.out) ?_;simp only [Pl.fill, Al_4, Al_5, Al_6, Al_7]
    iterate 5
     refine Pl.take_go ?_ (by rfl) (fun _ _ _ h => h) ?_ ?_
     rotate_left
     ·(intro x hSw; (try dsimp only at hSw); go_simp; try with_reducible rfl)
     try simp only [Act.put, Al_1, Al_2, Al_3]
    refine Pl.run_go (fun K hK => ?_);go_simp;refine hatc'.out.mono ?_;rintro e w9 ⟨hg9, hG⟩;dsimp only at hG;subst hG;clear hK;have hgf := hg8.out.trans ((grown_in (r := some b) hdr.out).trans hg9);have hfin := hr.out;rw [hfa.out] at hfin;have hfin2 := hbadR.out _ _ hfin.symm
    try simp only [Exit.inBlock, Exit.then]
    refine ⟨rfl, hgf, ?_⟩;rw [hfin2];exact pan_eqI (by omega)
   | ok a n1 =>
    rw [hav] at hatc hfa;have hav' := attr_len hav;rw [List.length_drop] at hav';have hatc' := Hd hatc;clear hatc hav
    go_upto_region 16 with fail
    refine Pl.wp_region_plan 7 (.take 0 (.take 1 (.take 2 (.take 3 (.take 4 (.run 5 (.run 6 .done))))))) (fun x => x.cell? ⟨T2, 4, none⟩ = some (.slice A5 ats.length c5)) (by kernel_rfl) (by kernel_rfl) (by exact hq.out _ hdr.out) ?_;simp only [Pl.fill, Al_4, Al_5, Al_6, Al_7]
    iterate 5
     refine Pl.take_go ?_ (by rfl) (fun _ _ _ h => h) ?_ ?_
     rotate_left
     ·(intro x hSw; (try dsimp only at hSw); go_simp; try with_reducible rfl)
     try simp only [Act.put, Al_1, Al_2, Al_3]
    refine Pl.run_go (fun K hK => ?_);go_simp;refine hatc'.out.mono ?_;rintro e w9 ⟨hg9, hG⟩;dsimp only at hG;obtain ⟨rfl, hs9⟩ := hG;unfold atV;have hg9' := (grown_in (r := some b) hdr.out).trans hg9;have htb9 := htb8.out.on hg9' hT2b.out;have hrb9 := hrb8.out.on hg9' hbT.symm;have ho9 := owS_kept ho8.out hg9' hB0b'.out;have hsz9 := Nat.le_trans hsz8.out hg9'.size;have q9 := htb9.cell 4;dsimp only;refine hK.out _ _ (Pl.more_go _ (fun _ h => h) (by exact q9) ?_);clear hK K q9
    try simp only [Act.put, Al_1, Al_2, Al_3]
    refine Pl.run_go (fun K hK => ?_);have hbA := below_alloc w9 (.cells #[.string (strOf a.1), .string (strOf a.2)] 55);have hlit : Sq AtEl 2 (w9.alloc (.cells #[.string (strOf a.1), .string (strOf a.2)] 55)) (some ⟨w9.heap.size, 0, none⟩) 1 1 [a] := sq_one w9 [.string (strOf a.1), .string (strOf a.2)] a 55 (0, 0) rfl rfl;go_simp;obtain ⟨pA, hpA⟩ : ∃ pA, w9.heap.size = pA := ⟨_, rfl⟩;obtain ⟨wA, hwA⟩ : ∃ wA, w9.alloc (.cells #[.string (strOf a.1), .string (strOf a.2)] 55) = wA := ⟨_, rfl⟩;rw [hwA] at hbA hlit ⊢;rw [hpA] at hlit ⊢;have qA := (htb9.below hbA).cell 4;refine hK.out _ _ (Pl.more_go _ (fun _ h => h) (by exact qA) ?_);clear hK K qA
    try simp only [Act.put, Al_1, Al_2, Al_3]
    refine Pl.done_go ?_;have hoA := OwS.below ho9 hbA AtEl.to;have hszA := Nat.le_trans hsz9 hbA.size;refine append_sq wA 23 55 _ 32 Tryz.underlying23 info_attr (by rfl) (by decide) rfl _ _ rfl B0 _ ats rfl hoA _ 1 1 [a] rfl hlit (fun vs x h u hu => by unfold AtEl at h; subst h; simp at hu; rcases hu with rfl | rfl <;> rfl) (fun _ _ vs x h => h) (ats.length + 1) rfl (by omega) (by omega) hszA ?_;intro A6 c6 wB hoB hgB hbB _;have hbAB : Below w.heap.size w9 wB := (hbA.mono (by have := hg8.out.trans hg9'; exact this.size)).trans (hbB.mono hB0w.out);have htbB : Tb wB T2 1 (k : Nat) (strOf nm) ⟨#[]⟩ (.slice A5 ats.length c5) := (hbB.block T2 hB0T2'.out).trans (htb9.below hbA);have hrbB : Tb wB T0 0 0 ⟨#[]⟩ ⟨#[]⟩ (.slice none 0 0) := (hbB.block T0 hB0T0'.out).trans (hrb9.below hbA);have hfb := hbAB.setCell (p := ⟨T2, 4, none⟩) h1lo.out (.slice A6 (ats.length + 1) c6);have hfar := h0.out.far (hg8.out.trans hg9') hs9 hfb;have hsC := Hd hfar.1;have hgC := Hd hfar.2;have htbC := Hd (tb_set4 (va' := .slice A6 (ats.length + 1) c6) htbB);have hrbC := Hd (hrbB.on (grown_set wB ⟨T2, 4, none⟩ (.slice A6 (ats.length + 1) c6)) hTT'.out);have hoC := Hd (owS_kept hoB (grown_set wB ⟨T2, 4, none⟩ (.slice A6 (ats.length + 1) c6)) hB0T2'.out);have hszC : Hid (B0 <= (wB.setCell ⟨T2, 4, none⟩ (.slice A6 (ats.length + 1) c6)).heap.size) := Hd (Nat.le_trans hszA (Nat.le_trans hgB.size (grown_set wB ⟨T2, 4, none⟩ (.slice A6 (ats.length + 1) c6)).size));have z4 := htbB.cell 4;have zf := htbB.frozen 4;clear hbA hlit hoA hszA hoB hgB hbB hbAB htbB hrbB hfb hfar htb9 hrb9 ho9 hsz9 hs9 hg9 hg9' hs8 hg8 htb8 hrb8 ho8 hsz8 hatc' hq hdr hwA hpA;go_wp2_with fail
    go_roundg (S.length - (q + B + n1) + 1)
    case measure => omega
    case rel =>
     refine ⟨q + B + n1, f', ats ++ [a], .slice A6 (ats.length + 1) c6, by omega, by omega, by omega, by rw [List.length_append]; simp; omega, Hd (by have := hf.out; omega), Hd ?_, hszC, hsC, hgC, htbC, hrbC, hoC⟩;have := hr.out;rw [hfa.out, Out.shift_shift] at this;rw [show q + B + n1 - k = q - k + (B + n1) by omega];exact this
end
end Go.Proofs.YtokdnhdfmgfkeaaGreatDoor.Xl
end

section
namespace Go.Proofs.YtokdnhdfmgfkeaaGreatDoor.Xl
open Go.RowKit Go.Shelf UtfW
theorem foldT_low : ∀ x ∈ foldT, x.1 < 128 /\ x.2 < 128 := by decide
set_option maxRecDepth 100000 in
theorem simple_any (w : World) (hU : Un w) (a v : Nat) (hx : (a, v) ∈ foldT) : Calls Tryz.prog 206 #[.int .i32 (a : Nat)] w fun e w' => e = .returned (.int .i32 (v : Nat)) /\ w' = w := by
 have hc := hU.fold _ hx;obtain ⟨h1, h2⟩ := foldT_low _ hx;dsimp only at hc h1 h2;clear hx hU;have i0 : decide ((a : Int) < 0) = false := by simp
 have i1 : decide ((1114111 : Int) < (a : Int)) = false := by simp; omega
 have i2 : decide ((a : Int) < 128) = true := by simp; omega
 go_enter Tryz.func206, Tryz.ntmps206
 go_wp2_with fail;go_ret;exact ⟨rfl, rfl⟩
set_option maxRecDepth 100000 in
theorem decR_any (w : World) (y : UInt8) (r : Tx) (hy : y.toNat < 128) (hr : r.length <= 65536) : Calls Tryz.prog 115 #[.string (strOf (y :: r))] w fun e w' => e = .returned (.tuple #[.int .i32 (y.toNat : Nat), .int .i64 1]) /\ w' = w := by
 obtain ⟨T, hT⟩ : ∃ T, strOf (y :: r) = T := ⟨_, rfl⟩;have hsz : T.size = r.length + 1 := by rw [<- hT]; exact strOf_size' _
 have hem : T.toList.isEmpty = false := by rw [Lib.toList_data, <- hT]; simp [strOf]
 have h0 : 0 < T.size := by omega
 have hg : T[0]'h0 = y := by
  subst hT;rfl
 have i0 : decide ((y.toNat : Int) < 128) = true := by simp; omega
 rw [hT];clear hT;have hsz' := Hd hsz;clear hsz
 go_enter Tryz.func115, Tryz.ntmps115
 go_wp2_with fail
 go_ret2
 exact ⟨rfl, rfl⟩
/-! ### The walk -/
def Jump (s : Tx) (i : Nat) : Prop := ∃ x y, s[i]? = some x /\ ([120, 109, 108] : Tx)[i]? = some y /\ 128 <= x.toNat
def jt (s : Tx) (i : Nat) (u : Nat -> Value) : Array Value := #[.string (strOf s), .string (strOf [120, 109, 108]), u 2, u 3, u 4, .int .i64 (i : Nat), u 6, u 7, u 8, u 9, u 10, u 11, u 12, u 13, u 14, u 15, u 16, u 17, u 18, u 19, u 20, u 21, u 22, u 23, u 24, u 25, u 26, u 27, u 28, u 29, u 30, u 31, u 32, u 33, u 34, u 35, u 36, u 37, u 38, u 39, u 40, u 41, u 42, u 43, u 44, u 45, u 46, u 47, u 48, u 49, u 50, u 51, u 52, u 53, u 54, u 55, u 56, u 57, u 58, u 59, u 60, u 61, u 62, u 63, u 64, u 65, u 66, u 67, u 68, u 69, u 70, u 71, u 72, u 73, u 74, u 75, u 76, u 77, u 78, u 79, u 80, u 81, u 82, u 83, u 84, u 85, u 86, u 87, u 88, u 89, u 90, u 91, u 92, u 93, u 94, u 95, u 96, u 97, u 98, u 99, u 100, u 101, u 102, u 103, u 104, u 105, u 106, u 107, u 108, u 109, u 110, u 111, u 112, u 113, u 114, u 115, u 116, u 117, u 118, u 119, u 120, u 121, u 122]
theorem xml_low {i : Nat} {y : UInt8} (h : ([120, 109, 108] : Tx)[i]? = some y) : 97 <= y.toNat /\ y.toNat <= 122 /\ i < 3 := by
 match i, h with
 | 0, h => injection h with h; subst h; decide
 | 1, h => injection h with h; subst h; decide
 | 2, h => injection h with h; subst h; decide
theorem low_iff {x y : UInt8} (hy : 97 <= y.toNat /\ y.toNat <= 122) : low x = y ↔ (x.toNat = y.toNat \/ (65 <= x.toNat /\ x.toNat <= 90 /\ x.toNat + 32 = y.toNat)) := by
 unfold low;have hx := x.toNat_lt
 split
 ·rw [<- UInt8.toNat_inj, UInt8.toNat_add];have : (32 : UInt8).toNat = 32 := rfl;omega
 ·rw [<- UInt8.toNat_inj];omega
def foldB (s t : Tx) : Bool := decide (s.map low = t)
theorem fold_on {s t : Tx} {i : Nat} {x y : UInt8} (hs : s[i]? = some x) (ht : t[i]? = some y) (h : low x = y) : foldB (s.drop i) (t.drop i) = foldB (s.drop (i + 1)) (t.drop (i + 1)) := by
 unfold foldB;rw [drop_at hs, drop_at ht, List.map_cons, h];simp
theorem fold_off {s t : Tx} {i : Nat} {x y : UInt8} (hs : s[i]? = some x) (ht : t[i]? = some y) (h : low x ≠ y) : foldB (s.drop i) (t.drop i) = false := by
 unfold foldB;rw [drop_at hs, drop_at ht, List.map_cons];simp [h]
theorem fold_end {s t : Tx} {i : Nat} (h : i = s.length \/ i = t.length) (hs : i <= s.length) (ht : i <= t.length) : foldB (s.drop i) (t.drop i) = decide (s.length = t.length) := by
 unfold foldB;rw [decide_eq_decide];constructor
 ·intro e;have := congrArg List.length e;rw [List.length_map, List.length_drop, List.length_drop] at this;omega
 ·intro e;rw [drop_end (by omega), drop_end (by omega)];rfl
theorem fold_at {s t : Tx} {i : Nat} {x y : UInt8} (hs : s[i]? = some x) (ht : t[i]? = some y) (h : low x ≠ y) : foldB s t = false := by
 unfold foldB;rw [decide_eq_false_iff_not];intro e;rw [<- e, List.getElem?_map, hs] at ht;injection ht with ht;exact h ht
theorem xml_fold {i : Nat} {y : UInt8} (h : ([120, 109, 108] : Tx)[i]? = some y) : ∃ v, (y.toNat, v) ∈ foldT /\ (v, y.toNat) ∈ foldT /\ v ≠ y.toNat /\ v < 128 := by
 match i, h with
 | 0, h => injection h with h; subst h; exact ⟨88, by decide⟩
 | 1, h => injection h with h; subst h; exact ⟨77, by decide⟩
 | 2, h => injection h with h; subst h; exact ⟨76, by decide⟩
set_option maxHeartbeats 4000000 in
set_option maxRecDepth 1000000 in
theorem fold_any (w : World) (hU : Un w) (s : Tx) (hl : s.length <= 65536) :
  Calls Tryz.prog 184 #[.string (strOf s), .string (strOf [120, 109, 108])] w fun e w' => e = .returned (.bool (foldB s [120, 109, 108])) /\ Below w.heap.size w w' := by
 have hsz : (strOf s).size = s.length := strOf_size' s;obtain ⟨M, hM⟩ : ∃ M : Nat, min (s.length : Int) 3 = (M : Int) := ⟨min s.length 3, by omega⟩;have hMs : M <= s.length := by omega
 have hMt : M <= 3 := by omega
 have hMe : M = s.length \/ M = 3 := by omega
 have hU' := Hd hU;clear hU
 go_enter Tryz.func184, Tryz.ntmps184
 go_wp2
 refine wp_scope_jumps 0 (fun a' w' => w' = w /\ ∃ i : Nat, a'.defers = [] /\ a'.tmps = jt s i (fun k => a'.tmps.getD k undef) /\ Jump s i) (fun _ _ => 0) rfl ?_ ?_
 ·have hy3 : (strOf [120, 109, 108]).size = 3 := rfl;go_wp2_with fail
  go_loopg [5, 7, 8] M (fun g s5 _ _ wx => w = wx /\ ∃ i : Nat, i + g = M /\ s5 = .int .i64 i /\ Hid (foldB (s.drop i) (([120, 109, 108] : Tx).drop i) = foldB s [120, 109, 108]))
  case atStart => exact ⟨rfl, 0, by omega, rfl, Hd rfl⟩
  case round =>
   obtain ⟨rfl, i, hig, rfl, hinv⟩ := hrel
   cases gk with
   | zero =>
    have i0 : decide ((i : Int) < (M : Int)) = false := by simp; omega
    obtain rfl : i = M := by omega
    have hE : Hid (foldB s [120, 109, 108] = decide (s.length = 3)) := Hd (by rw [<- hinv.out]; exact fold_end hMe hMs hMt)
    by_cases hst : s.length = 3
    ·have hb : ((s.length : Int) == 3) = true := beq_iff_eq.2 (by omega);go_wp2_with fail
     (try simp only [Exit.inBlock, Exit.then, Exit.jump])
     go_ret;exact ⟨by rw [hE.out, decide_eq_true hst]; rfl, Below.refl _ _⟩
    ·have hb : ((s.length : Int) == 3) = false := beq_eq_false_iff_ne.2 (by omega);go_wp2_with fail
     (try simp only [Exit.inBlock, Exit.then, Exit.jump])
     go_ret;exact ⟨by rw [hE.out, decide_eq_false hst]; rfl, Below.refl _ _⟩
   | succ g =>
    have i0 : decide ((i : Int) < (M : Int)) = true := by simp; omega
    have his : i < s.length := (by omega);have hx : s[i]? = some s[i] := List.getElem?_eq_getElem his;generalize s[i] = x at hx;have hi3 : i < ([120, 109, 108] : Tx).length := by simp; omega
    have hy : ([120, 109, 108] : Tx)[i]? = some ([120, 109, 108] : Tx)[i] := List.getElem?_eq_getElem hi3;generalize ([120, 109, 108] : Tx)[i] = y at hy;obtain ⟨y1, y2, _⟩ := xml_low hy;have hlow := low_iff (x := x) ⟨y1, y2⟩;have hx256 := x.toNat_lt;have his' : i < (strOf s).size := (by omega);have hi3' : i < (strOf [120, 109, 108]).size := by rw [hy3]; omega
    have gx := str_at hx his';have gy := str_at hy hi3';have b1 : (i : Int) < (s.length : Int) := (by omega);have b2 : (i : Int) < 3 := (by omega);have hor : bits .or .u8 (x.toNat : Int) (y.toNat : Int) = ((x.toNat ||| y.toNat : Nat) : Int) := u8_or_nat _ _ (by omega) (by omega);have hx' := Hd hx;have hy' := Hd hy;clear hx hy hM hMe
    by_cases h128 : 128 <= x.toNat
    ·have hge : decide ((128 : Int) <= ((x.toNat ||| y.toNat : Nat) : Int)) = true := by
      have := Nat.left_le_or (n := x.toNat) (m := y.toNat);simp;omega
     have h128' := Hd h128;clear h128 hlow;go_wp2_with fail
     go_step3
     simp only [Exit.inBlock, Exit.then, Exit.jump];exact ⟨rfl, rfl, i, rfl, rfl, x, y, hx'.out, hy'.out, h128'.out⟩
    have hge : decide ((128 : Int) <= ((x.toNat ||| y.toNat : Nat) : Int)) = false := by
     have := Nat.or_lt_two_pow (n := 7) (x := x.toNat) (y := y.toNat) (by omega) (by omega);simp;omega
    by_cases he : x = y
    ·subst he
     have hon : Hid (foldB (s.drop (i + 1)) (([120, 109, 108] : Tx).drop (i + 1)) = foldB s [120, 109, 108]) := Hd (by
      rw [<- hinv.out]
      exact (fold_on hx'.out hy'.out (hlow.2 (.inl rfl))).symm)
     have k0 : ((x.toNat : Int) == (x.toNat : Int)) = true := (by simp);clear hlow hinv;go_wp2_with fail
     go_roundg g
     case measure => omega
     case rel => exact ⟨rfl, i + 1, by omega, by go_num, hon⟩
    have k0 : ((y.toNat : Int) == (x.toNat : Int)) = false := by
     rw [beq_eq_false_iff_ne];intro e;exact he (UInt8.toNat_inj.1 (by omega))
    have hne : x.toNat ≠ y.toNat := fun e => he (UInt8.toNat_inj.1 e)
    clear he
    by_cases hup : 65 <= x.toNat /\ x.toNat <= 90 /\ x.toNat + 32 = y.toNat
    ·have hon : Hid (foldB (s.drop (i + 1)) (([120, 109, 108] : Tx).drop (i + 1)) = foldB s [120, 109, 108]) := Hd (by
      rw [<- hinv.out]
      exact (fold_on hx'.out hy'.out (hlow.2 (.inr hup))).symm)
     obtain ⟨u1, u2, u3⟩ := hup;have k1 : decide (y.toNat < x.toNat) = false := by simp; omega
     have k2 : decide ((65 : Int) <= (x.toNat : Int)) = true := by simp; omega
     have k3 : decide ((x.toNat : Int) <= 90) = true := by simp; omega
     have k4 : ((x.toNat : Int) + 97 - 65) = (y.toNat : Int) := (by omega);have hxy : (x.toNat : Int) + 32 = (y.toNat : Int) := (by omega);clear hlow hinv u1 u2 u3 hne;go_wp2_with fail
     all_goals (try exact ())
     go_roundg g
     case measure => omega
     case rel => exact ⟨rfl, i + 1, by omega, by go_num, hon⟩
    have hoff : Hid (foldB s [120, 109, 108] = false) := Hd (by
     rw [<- hinv.out]
     exact fold_off hx'.out hy'.out (fun e => (hlow.1 e).elim hne hup))
    by_cases hlt : x.toNat < y.toNat
    ·have k1 : decide (y.toNat < x.toNat) = false := by simp; omega
     by_cases h65 : 65 <= x.toNat
     ·have k2 : decide ((65 : Int) <= (x.toNat : Int)) = true := by simp; omega
      by_cases h90 : x.toNat <= 90
      ·have k3 : decide ((x.toNat : Int) <= 90) = true := by simp; omega
       have k4 : ((y.toNat : Int) == (x.toNat : Int) + 97 - 65) = false := by simp; omega
       have k5 : IntKind.u8.wrap (IntKind.u8.wrap ((x.toNat : Int) + 97) - 65) = (x.toNat : Int) + 97 - 65 := by
        unfold IntKind.wrap;simp [IntKind.signed, IntKind.bits];omega
       clear hlow hinv hne hup hlt h65 h90;go_wp2_with fail
       (try simp only [Exit.inBlock, Exit.then, Exit.jump])
       go_ret;exact ⟨by rw [hoff.out]; rfl, Below.refl _ _⟩
      ·have k3 : decide ((x.toNat : Int) <= 90) = false := by simp; omega
       clear hlow hinv hne hup hlt h65 h90;go_wp2_with fail
       (try simp only [Exit.inBlock, Exit.then, Exit.jump])
       go_ret;exact ⟨by rw [hoff.out]; rfl, Below.refl _ _⟩
     ·have k2 : decide ((65 : Int) <= (x.toNat : Int)) = false := by simp; omega
      clear hlow hinv hne hup hlt h65;go_wp2_with fail
      (try simp only [Exit.inBlock, Exit.then, Exit.jump])
      go_ret;exact ⟨by rw [hoff.out]; rfl, Below.refl _ _⟩
    ·have k1 : decide (y.toNat < x.toNat) = true := by simp; omega
     have k2 : decide ((65 : Int) <= (y.toNat : Int)) = true := by simp; omega
     have k3 : decide ((y.toNat : Int) <= 90) = false := by simp; omega
     clear hlow hinv hne hup hlt;go_wp2_with fail
     (try simp only [Exit.inBlock, Exit.then, Exit.jump])
     go_ret;exact ⟨by rw [hoff.out]; rfl, Below.refl _ _⟩
 ·rintro ⟨tm, df⟩ w' ⟨rfl, i, hdf, htm, x, y, hx, hy, hxy⟩;dsimp only at hdf htm;subst hdf;generalize (fun k => tm.getD k undef) = u at htm;subst htm;unfold jt;obtain ⟨y1, y2, hi3⟩ := xml_low hy;have his := (List.getElem?_eq_some_iff.1 hx).1;have b1 : (0 : Int) <= (i : Int) /\ (i : Int) <= (s.length : Int) := ⟨by omega, by omega⟩;have b2 : (0 : Int) <= (i : Int) /\ (i : Int) <= 3 := ⟨by omega, by omega⟩;have ex1 : (strOf s).extract i s.length = strOf (s.drop i) := by rw [strOf_cut, List.take_of_length_le (by rw [List.length_drop]; omega)]
  have ex2 : (strOf [120, 109, 108]).extract i 3 = strOf (y :: ([120, 109, 108] : Tx).drop (i + 1)) := by
   rw [strOf_cut, List.take_of_length_le (by rw [List.length_drop]; simp), <- drop_at hy]
  have hsz3 : (strOf [120, 109, 108]).size = 3 := rfl;obtain ⟨v, g1, g2, g3, g4⟩ := xml_fold hy
  have hfin : Hid (foldB s [120, 109, 108] = false) := Hd (fold_at hx hy (fun e => by
   have := (low_iff ⟨y1, y2⟩).1 e
   omega))
  have hd0 : (s.drop i)[0]? = some x := by rw [List.getElem?_drop]; exact hx
  obtain ⟨S2, hS2⟩ : ∃ S2, s.drop i = S2 := ⟨_, rfl⟩;rw [hS2] at ex1 hd0;have hl2 : S2.length <= 65536 := by rw [<- hS2, List.length_drop]; omega
  obtain ⟨T2, hT2⟩ : ∃ T2, ([120, 109, 108] : Tx).drop (i + 1) = T2 := ⟨_, rfl⟩;rw [hT2] at ex2;have hl3 : T2.length <= 65536 := by rw [<- hT2, List.length_drop]; simp; omega
  have hy' : Hid (([120, 109, 108] : Tx)[i]? = some y) := Hd hy;clear hS2 hT2 hx hy;have hU := hU'.out;have b0 := World.block_lt_of_cell? w' _ (hU.fold _ g1);have hL := Hd b0;have hsz2 : (strOf S2).size = S2.length := strOf_size' S2;have hpos : 0 < S2.length := (List.getElem?_eq_some_iff.1 hd0).1;have hpos2 : 0 < (strOf S2).size := by omega
  obtain ⟨r, m, hD⟩ : ∃ r m, dec S2 0 = (r, m) := ⟨_, _, rfl⟩;have hrr : 128 <= r := by have := dec_high hd0 hxy; rw [hD] at this; exact this
  have hls : (strOf S2).data.toList = S2 := by simp [strOf]
  have hnx : ∀ w1 : World, w1.heap[w'.heap.size]? = some (.stringIter (strOf S2) 0) -> ∀ ty, (Instr.next (.pointer (some ⟨w'.heap.size, 0, none⟩)) true ty).run Tryz.prog w1 = .ok (.tuple #[.bool true, .int .i64 (0 : Nat), .int .i32 (r : Nat)]) (w1.iterAt w'.heap.size (strOf S2) (0 + m)) := fun w1 h1 ty => by
   have := Lib.run_next_any_at (P := Tryz.prog) w1 w'.heap.size (strOf S2) 0 ty h1 hpos2;rw [decode_str, hls, hD] at this;exact this
  have hnx' := Hd hnx;have hlt2 : (strOf (y :: T2)).size = T2.length + 1 := strOf_size' _;have e1T : (strOf (y :: T2)).extract 1 (T2.length + 1) = strOf T2 := by rw [strOf_cut, List.take_of_length_le (by rw [List.length_drop]; simp)]; rfl
  have k0 : (((T2.length + 1 : Nat) : Int) == 0) = false := by simp; omega
  have k1 : ((y.toNat : Int) == (r : Int)) = false := by simp; omega
  have k2 : decide ((y.toNat : Int) < (r : Int)) = true := by simp; omega
  have k3 : decide ((r : Int) < 128) = false := by simp; omega
  have k4 : ((v : Int) != (y.toNat : Int)) = true := by simp; omega
  have k5 : decide ((v : Int) < (r : Int)) = true := by simp; omega
  have k6 : ((y.toNat : Int) != (y.toNat : Int)) = false := by simp
  clear hd0 hD hls hnx hxy hpos
  go_upto_region 16 with fail
  clear ex1 ex2 b1 b2 hsz3;go_wp2_with fail
  go_loopw [1, 10, 11, 12, 13] (fun v1 _ _ _ _ wr => v1 = .string (strOf (y :: T2)) /\ wr.heap[w'.heap.size]? = some (.stringIter (strOf S2) 0) /\ Hid (Below w'.heap.size w' wr)) (fun _ _ _ _ _ _ => 0)
  case atStart => exact ⟨rfl, World.iter_heap _ _ _, Hd ((Below.refl _ w').alloc (Nat.le_refl _) _)⟩
  case round =>
   obtain ⟨rfl, hit, hb⟩ := hrel;have hn := hnx'.out _ hit;have hb2 := Hd (Lib.below_iterAt hb.out (k := w'.heap.size) (Nat.le_refl _) (strOf S2) (0 + m));obtain ⟨wi, hwi⟩ : ∃ wi, wr.iterAt w'.heap.size (strOf S2) (0 + m) = wi := ⟨_, rfl⟩;rw [hwi] at hn hb2;have hUi := Hd (hU'.out.below hb2.out);clear hit hb hwi;go_wp2_with fail;refine (decR_any wi y T2 (by omega) hl3).mono ?_;rintro e w2 ⟨rfl, hww⟩;subst hww;go_wp2_with fail;refine (simple_any w2 hUi.out y.toNat v g1).mono ?_;rintro e w3 ⟨rfl, hww⟩;subst hww;go_wp2_with fail
   go_loopw [13] (fun v13 wr => Hid (w3 = wr) /\ (v13 = .int .i32 (v : Nat) \/ v13 = .int .i32 (y.toNat : Nat))) (fun v13 _ => if intOf v13 = (y.toNat : Int) then 0 else 1)
   case atStart => exact ⟨Hd rfl, .inl rfl⟩
   case round =>
    obtain ⟨hww, rfl | rfl⟩ := hrel
    ·go_wp2_with fail;refine (simple_any wr (by rw [<- hww.out]; exact hUi.out) v y.toNat g2).mono ?_;rintro e w4 ⟨rfl, hww4⟩;subst hww4;go_wp2_with fail;go_roundw
     case rel => exact ⟨hww, .inr rfl⟩
     case measure => simp [intOf, show ¬ ((v : Int) = (y.toNat : Int)) by omega]
    ·go_wp2_with fail
     (try simp only [Exit.inBlock, Exit.then, Exit.jump])
     go_ret;exact ⟨by rw [hfin.out]; rfl, by rw [<- hww.out]; exact hb2.out⟩
end Go.Proofs.YtokdnhdfmgfkeaaGreatDoor.Xl
end

section
namespace Go.Proofs.YtokdnhdfmgfkeaaGreatDoor.Xl
open Go.RowKit UtfW
section
variable {S nm x : Tx} {k n m o B : Nat} {ec : Int}
theorem in_name (h : name (S.drop (k + 2)) = .bad ec o) : instr (S.drop k) = .bad ec (2 + o) := by
 unfold instr;rw [List.drop_drop, h]
theorem in_xml (h : name (S.drop (k + 2)) = .ok nm n) (hx : foldB nm [120, 109, 108] = true) : instr (S.drop k) = .bad 2 2 := by
 unfold instr;rw [List.drop_drop, h];simp only;rw [if_pos (of_decide_eq_true hx)]
theorem in_none_bad (h : name (S.drop (k + 2)) = .ok nm n) (hx : foldB nm [120, 109, 108] = false) (hB : blanks (S.drop (k + 2 + n)) = 0) (he : eat [63, 62] (S.drop (k + 2 + n)) = .bad ec o) : instr (S.drop k) = .bad ec (2 + n + o) := by
 unfold instr;rw [List.drop_drop, h];simp only;rw [if_neg (of_decide_eq_false hx)];simp only [List.drop_drop, <- Nat.add_assoc];rw [if_pos hB, he]
theorem in_none (h : name (S.drop (k + 2)) = .ok nm n) (hx : foldB nm [120, 109, 108] = false) (hB : blanks (S.drop (k + 2 + n)) = 0) (he : eat [63, 62] (S.drop (k + 2 + n)) = .ok () m) : instr (S.drop k) = .ok ⟨7, 0, nm, [], []⟩ (2 + n + m) := by
 unfold instr;rw [List.drop_drop, h];simp only;rw [if_neg (of_decide_eq_false hx)];simp only [List.drop_drop, <- Nat.add_assoc];rw [if_pos hB, he]
theorem in_upto (h : name (S.drop (k + 2)) = .ok nm n) (hx : foldB nm [120, 109, 108] = false) (hB : blanks (S.drop (k + 2 + n)) = B) (h0 : 0 < B) (he : upto [63, 62] (S.drop (k + 2 + n + B)) = .bad ec o) : instr (S.drop k) = .bad ec (2 + n + B + o) := by
 unfold instr;rw [List.drop_drop, h];simp only;rw [if_neg (of_decide_eq_false hx)];simp only [List.drop_drop, <- Nat.add_assoc, hB];rw [if_neg (by omega), he]
theorem in_ok (h : name (S.drop (k + 2)) = .ok nm n) (hx : foldB nm [120, 109, 108] = false) (hB : blanks (S.drop (k + 2 + n)) = B) (h0 : 0 < B) (he : upto [63, 62] (S.drop (k + 2 + n + B)) = .ok x m) : instr (S.drop k) = .ok ⟨7, 0, nm, Utf.lines x, []⟩ (2 + n + B + m) := by
 unfold instr;rw [List.drop_drop, h];simp only;rw [if_neg (of_decide_eq_false hx)];simp only [List.drop_drop, <- Nat.add_assoc, hB];rw [if_neg (by omega), he]
theorem fold_len {s : Tx} (h : foldB s [120, 109, 108] = true) : s.length = 3 := by
 have := congrArg List.length (of_decide_eq_true h);rw [List.length_map] at this;exact this
end
section
variable (w : World) (b : Nat) (S : Tx) (k : Nat) (A : Option Addr) (c : Nat) (vo : Value)
set_option maxHeartbeats 2000000 in
set_option maxRecDepth 100000 in
theorem instr_any (h : Xc w b S k A c vo) (hk : k + 2 <= S.length) (hS : S.length <= 65536) :
  Calls Tryz.prog 163 #[.pointer (some ⟨b, 0, none⟩)] w fun e w' => GivesT w b S k A c vo (instr (S.drop k)) e w' := by
 have hbw : b < w.heap.size := h.lt;have hba := below_alloc w (.cells #[.int .i64 0, .int .i64 0, .string ⟨#[]⟩, .string ⟨#[]⟩, .slice none 0 0] 87);have hrb := tb_new w 0 0 ⟨#[]⟩ ⟨#[]⟩ (.slice none 0 0);obtain ⟨T0, hT0⟩ : ∃ T0, w.heap.size = T0 := ⟨_, rfl⟩;obtain ⟨w1, hw1⟩ : ∃ w1, w.alloc (.cells #[.int .i64 0, .int .i64 0, .string ⟨#[]⟩, .string ⟨#[]⟩, .slice none 0 0] 87) = w1 := ⟨_, rfl⟩;rw [hw1] at hba hrb;rw [hT0] at hrb;have hs1 := Hd (h.below hba);have hba2 := below_alloc w1 (.cells #[.int .i64 7, .int .i64 (k : Nat), .string ⟨#[]⟩, .string ⟨#[]⟩, .slice none 0 0] 87);have htb := tb_new w1 7 (k : Nat) ⟨#[]⟩ ⟨#[]⟩ (.slice none 0 0);have hs2 := Hd (hs1.out.below hba2);have hg2 := Hd (grown_in (r := some b) (hba.trans (hba2.mono hba.size)));have hrb2 := Hd (hrb.below hba2);have hTT : T0 ≠ w1.heap.size := by have := hrb.lt; omega
 have hTT' := Hd hTT;have h1lo := Hd hba.size;have htb' := Hd htb;have h0 := Hd h;have hbT : b ≠ T0 := by omega
 have hT0' := Hd hT0;have c1 := hs1.out.c1;have c2 := hs2.out.c1;have f2 := hs2.out.frozen 1;have hset := hs2.out.set1 (k + 2);have hs3 := Hd hset.1;have hg3 := Hd (hg2.out.trans hset.2);obtain ⟨R, hR⟩ : ∃ R, instr (S.drop k) = R := ⟨_, rfl⟩;rw [hR];have hR' := Hd hR;clear h hba hba2 hrb htb hTT hset hR
 go_enter Tryz.func163, Tryz.ntmps163
 go_upto_region 3 with fail
 have e2 : ((k : Int) + 2) = ((k + 2 : Nat) : Int) := by omega
 rw [e2];have hT2b : Hid (w1.heap.size ≠ b) := Hd (by have := h1lo.out; omega);have htb3 := Hd (htb'.out.on (grown_set _ ⟨b, 1, none⟩ (.int .i64 ((k + 2 : Nat) : Int))) hT2b.out);have hrb3 := Hd (hrb2.out.on (grown_set _ ⟨b, 1, none⟩ (.int .i64 ((k + 2 : Nat) : Int))) hbT.symm);clear hs2 hg2 hrb2 htb' c1 c2 f2 e2;generalize (w1.alloc (.cells #[.int .i64 7, .int .i64 (k : Nat), .string ⟨#[]⟩, .string ⟨#[]⟩, .slice none 0 0] 87)).setCell ⟨b, 1, none⟩ (.int .i64 ((k + 2 : Nat) : Int)) = w3 at hs3 hg3 htb3 hrb3 ⊢;generalize w1.heap.size = T2 at htb3 hTT' hT2b h1lo ⊢;clear hs1;have c1 := hs3.out.c1;go_wp2_with fail;refine (name_any w3 b S (k + 2) A c vo hs3.out hk hS).mono ?_;rintro e w4 ⟨hg4, hG⟩;clear c1
 cases hnm : name (S.drop (k + 2)) with
 | bad ec o =>
  rw [hnm] at hG;subst hG;go_wp2_with fail;refine ⟨rfl, hg3.out.trans hg4, ?_⟩;have := hR'.out;rw [in_name hnm] at this;rw [<- this];exact pan_eqI (by omega)
 | ok nm n =>
  rw [hnm] at hG;obtain ⟨rfl, hs4⟩ := hG;have hnl := name_len hnm;have hn1 := hnl.1;have hn2 := hnl.2.1;have hnmx := hnl.2.2.1;rw [List.length_drop] at hn2;have hnml : nm.length <= 65536 := by rw [hnmx, List.length_take]; omega
  clear hnl hnmx;have htb4 := htb3.out.on hg4 hT2b.out;have hrb4 := hrb3.out.on hg4 hbT.symm;have hfb : Below w.heap.size w4 (w4.setCell ⟨T2, 2, none⟩ (.string (strOf nm))) := (Below.refl _ w4).setCell (p := ⟨T2, 2, none⟩) h1lo.out _;have hfar := h0.out.far (hg3.out.trans hg4) hs4 hfb;have hs5 := Hd hfar.1;have hg5 := Hd hfar.2;have htb5 := Hd (tb_set2 (nm' := strOf nm) htb4);have hrb5 := Hd (hrb4.on (grown_set w4 ⟨T2, 2, none⟩ (.string (strOf nm))) hTT'.out);have z2 := htb4.cell 2;have zf := htb4.frozen 2;have hnm' := Hd hnm;clear hs4 hg4 htb4 hrb4 hfb hfar hnm hs3 hg3 htb3 hrb3
  go_upto_region 5 with fail
  generalize w4.setCell ⟨T2, 2, none⟩ (.string (strOf nm)) = w5 at hs5 hg5 htb5 hrb5 ⊢;clear z2 zf;have hnsz : (strOf nm).size = nm.length := strOf_size' nm;have z2 := htb5.out.cell 2;go_wp2_with fail;refine (fold_any w5 hs5.out.us.un nm hnml).mono ?_;rintro e wF ⟨rfl, hbF⟩;have hsF := Hd (hs5.out.below hbF);have hgF := Hd (hg5.out.trans (grown_in (r := some b) hbF));have htbF := Hd (htb5.out.below hbF);have hrbF := Hd (hrb5.out.below hbF);clear hs5 hg5 htb5 hrb5 hbF z2;have z2 := htbF.out.cell 2
  cases hfo : foldB nm [120, 109, 108] with
  | true =>
   have hl3 : ((nm.length : Int) == 3) = true := by rw [fold_len hfo]; rfl
   have hfo' := Hd hfo;clear hfo;go_wp2_with fail;refine (fail_any _ 2 ((k + 2 : Nat) : Int)).mono ?_;rintro e w9 ⟨rfl, rfl⟩;go_wp2_with fail;refine ⟨rfl, hgF.out, ?_⟩;have := hR'.out;rw [in_xml hnm'.out hfo'.out] at this;rw [<- this];exact pan_eqI (by omega)
  | false =>
  have hfo' := Hd hfo;clear hfo;go_wp2_with fail;refine (blanks_any wF b S (k + 2 + n) A c vo hsF.out (by omega) hS).mono ?_;rintro e w6 ⟨rfl, hs6, hg6⟩;have hB1 := blanks_le (S.drop (k + 2 + n));rw [List.length_drop] at hB1;obtain ⟨B, hBe⟩ : ∃ B, blanks (S.drop (k + 2 + n)) = B := ⟨_, rfl⟩;rw [hBe] at hs6 hB1 ⊢;have hB' := Hd hBe;have hs6' := Hd hs6;have hg6' := Hd (hgF.out.trans hg6);have htb6 := Hd (htbF.out.on hg6 hT2b.out);have hrb6 := Hd (hrbF.out.on hg6 hbT.symm);clear hs6 hg6 hBe hsF hgF htbF hrbF z2
  by_cases hB0 : B = 0
  ·subst hB0;rw [Nat.add_zero] at hs6';rw [show decide (0 < 0) = false from rfl];go_wp2_with fail;refine (eat_any w6 b S (k + 2 + n) A c vo hs6'.out (by omega) hS [63, 62] (by decide)).mono ?_;rintro e w7 ⟨hg7, hG⟩
   cases hea : eat [63, 62] (S.drop (k + 2 + n)) with
   | bad ec eo =>
    rw [hea] at hG;subst hG;go_wp2_with fail;refine ⟨rfl, hg6'.out.trans hg7, ?_⟩;have := hR'.out;rw [in_none_bad hnm'.out hfo'.out hB'.out hea] at this;rw [<- this];exact pan_eqI (by omega)
   | ok u m =>
    rw [hea] at hG;obtain ⟨rfl, hs7⟩ := hG;have hs7' := Hd hs7;have hg7' := Hd (hg6'.out.trans hg7);have htb7 := Hd (htb6.out.on hg7 hT2b.out);have hrb7 := Hd (hrb6.out.on hg7 hbT.symm);have hea' := Hd hea;clear hs7 hg7 hea hs6' hg6' htb6 hrb6;have z0 := htb7.out.cell 0;have z1 := htb7.out.cell 1;have z2 := htb7.out.cell 2;have z3 := htb7.out.cell 3;have z4 := htb7.out.cell 4;have y0 := hrb7.out.cell 0;have g0 := hrb7.out.frozen 0;have y1 := hrb7.out.cell 1;have g1 := hrb7.out.frozen 1;have y2 := hrb7.out.cell 2;have g2 := hrb7.out.frozen 2;have y3 := hrb7.out.cell 3;have g3 := hrb7.out.frozen 3;have y4 := hrb7.out.cell 4;have g4 := hrb7.out.frozen 4;go_wp2_with fail;have hTlo : w.heap.size <= T0 := by have := hT0'.out; omega
    have hset := tb_set (kd' := 7) (at' := (k : Nat)) (nm' := strOf nm) (tx' := ⟨#[]⟩) (va' := .slice none 0 0) hrb7.out;have hfb := below_put (Below.refl w.heap.size w7) hTlo 7 (k : Nat) (strOf nm) ⟨#[]⟩ (.slice none 0 0);have hfar := h0.out.far hg7'.out hs7'.out hfb
    (try simp only [Exit.inBlock, Exit.then])
    refine bodyPost_ret (res_tb rfl hset rfl) rfl ?_;refine ⟨hfar.2, ?_⟩;have := hR'.out;rw [in_none hnm'.out hfo'.out hB'.out hea'.out] at this;rw [<- this];refine ⟨.slice none 0 0, rfl, ?_, OwS.nil _ _ _⟩;rw [show k + (2 + n + m) = k + 2 + n + m by omega];exact hfar.1
  have hdec : decide (0 < B) = true := by simp; omega
  rw [hdec];clear hdec;go_wp2_with fail;refine (upto_any w6 b S (k + 2 + n + B) A c vo hs6'.out (by omega) hS [63, 62] (by decide) (by decide)).mono ?_;rintro e w7 ⟨hg7, hG⟩
  cases hup : upto [63, 62] (S.drop (k + 2 + n + B)) with
  | bad ec eo =>
   rw [hup] at hG;subst hG;go_wp2_with fail;refine ⟨rfl, hg6'.out.trans hg7, ?_⟩;have := hR'.out;rw [in_upto hnm'.out hfo'.out hB'.out (by omega) hup] at this;rw [<- this];exact pan_eqI (by omega)
  | ok x m =>
   rw [hup] at hG;obtain ⟨rfl, hs7⟩ := hG;have hul := upto_len hup;have hm1 := hul.1;have hm2 := hul.2.1;rw [List.length_drop] at hm1;simp only [List.length_cons, List.length_nil] at hm2;clear hul;have hs4' := Hd hs7;have hg4' := Hd (hg6'.out.trans hg7);have htb4' := Hd (htb6.out.on hg7 hT2b.out);have hrb4' := Hd (hrb6.out.on hg7 hbT.symm);have hup' := Hd hup;have hxl : (strOf x).size <= 1000000 := by rw [strOf_size' x]; omega
   have hls : (strOf x).data.toList = x := by simp [strOf]
   have hls' := Hd hls;clear hs7 hg7 hup hs6' hg6' htb6 hrb6 hls;go_wp2_with fail;refine (utfLines_any (strOf x) hxl w7 hs4'.out.us.ut).mono ?_;rintro e wL ⟨rfl, hbL⟩;rw [hls'.out];have htbL := htb4'.out.below hbL;have hsL := hs4'.out.below hbL;have hgL := hg4'.out.trans (grown_in (r := some b) hbL);have hfb : Below w.heap.size wL (wL.setCell ⟨T2, 3, none⟩ (.string (strOf (Utf.lines x)))) := (Below.refl _ wL).setCell (p := ⟨T2, 3, none⟩) h1lo.out _;have hfar := h0.out.far hgL hsL hfb;have hs5 := Hd hfar.1;have hg5 := Hd hfar.2;have htb5 := Hd (tb_set3 (tx' := strOf (Utf.lines x)) htbL);have hrb5 := Hd ((hrb4'.out.below hbL).on (grown_set wL ⟨T2, 3, none⟩ (.string (strOf (Utf.lines x)))) hTT'.out);have z3 := htbL.cell 3;have zf := htbL.frozen 3;clear hbL htbL hsL hgL hfb hfar hs4' hg4' htb4' hrb4' hxl
   go_upto_region 11 with fail
   generalize wL.setCell ⟨T2, 3, none⟩ (.string (strOf (Utf.lines x))) = w8 at hs5 hg5 htb5 hrb5 ⊢;clear z3 zf;have z0 := htb5.out.cell 0;have z1 := htb5.out.cell 1;have z2 := htb5.out.cell 2;have z3 := htb5.out.cell 3;have z4 := htb5.out.cell 4;have y0 := hrb5.out.cell 0;have g0 := hrb5.out.frozen 0;have y1 := hrb5.out.cell 1;have g1 := hrb5.out.frozen 1;have y2 := hrb5.out.cell 2;have g2 := hrb5.out.frozen 2;have y3 := hrb5.out.cell 3;have g3 := hrb5.out.frozen 3;have y4 := hrb5.out.cell 4;have g4 := hrb5.out.frozen 4;go_wp2_with fail;have hTlo : w.heap.size <= T0 := by have := hT0'.out; omega
   have hset := tb_set (kd' := 7) (at' := (k : Nat)) (nm' := strOf nm) (tx' := strOf (Utf.lines x)) (va' := .slice none 0 0) hrb5.out;have hfb := below_put (Below.refl w.heap.size w8) hTlo 7 (k : Nat) (strOf nm) (strOf (Utf.lines x)) (.slice none 0 0);have hfar := h0.out.far hg5.out hs5.out hfb
   (try simp only [Exit.inBlock, Exit.then])
   refine bodyPost_ret (res_tb rfl hset rfl) rfl ?_;refine ⟨hfar.2, ?_⟩;have := hR'.out;rw [in_ok hnm'.out hfo'.out hB'.out (by omega) hup'.out] at this;rw [<- this];refine ⟨.slice none 0 0, rfl, ?_, OwS.nil _ _ _⟩;rw [show k + (2 + n + B + m) = k + 2 + n + B + m by omega];exact hfar.1
end
end Go.Proofs.YtokdnhdfmgfkeaaGreatDoor.Xl
end

section
namespace Go.Proofs.YtokdnhdfmgfkeaaGreatDoor.Xl
open Go.RowKit UtfW
section
variable {r : Tx}
theorem tok_chars (h : r.head? ≠ some 60) : token r = chars r := by
 unfold token;rw [if_pos h]
theorem tok_mark (h : r.head? = some 60) (h1 : Lib.hasPrefix r [60, 33] = true) : token r = mark r := by
 unfold token;rw [if_neg (fun e => e h), if_pos h1]
theorem tok_instr (h : r.head? = some 60) (h1 : Lib.hasPrefix r [60, 33] = false) (h2 : Lib.hasPrefix r [60, 63] = true) : token r = instr r := by
 unfold token;rw [if_neg (fun e => e h), if_neg (by rw [h1]; decide), if_pos h2]
theorem tok_end (h : r.head? = some 60) (h1 : Lib.hasPrefix r [60, 33] = false) (h2 : Lib.hasPrefix r [60, 63] = false) (h3 : Lib.hasPrefix r [60, 47] = true) : token r = endT r := by
 unfold token;rw [if_neg (fun e => e h), if_neg (by rw [h1]; decide), if_neg (by rw [h2]; decide), if_pos h3]
theorem tok_tag (h : r.head? = some 60) (h1 : Lib.hasPrefix r [60, 33] = false) (h2 : Lib.hasPrefix r [60, 63] = false) (h3 : Lib.hasPrefix r [60, 47] = false) : token r = tag r := by
 unfold token;rw [if_neg (fun e => e h), if_neg (by rw [h1]; decide), if_neg (by rw [h2]; decide), if_neg (by rw [h3]; decide)]
end
section
variable (w : World) (b : Nat) (S : Tx) (k : Nat) (A : Option Addr) (c : Nat) (vo : Value)
set_option maxHeartbeats 2000000 in
set_option maxRecDepth 100000 in
theorem token_any (h : Xc w b S k A c vo) (hk : k < S.length) (hS : S.length <= 65536) :
  Calls Tryz.prog 129 #[.pointer (some ⟨b, 0, none⟩)] w fun e w' => GivesT w b S k A c vo (token (S.drop k)) e w' := by
 have hbw : b < w.heap.size := h.lt;have hba0 := below_alloc w (.cells #[.int .i64 0, .int .i64 0, .string ⟨#[]⟩, .string ⟨#[]⟩, .slice none 0 0] 87);have hrb0 := tb_new w 0 0 ⟨#[]⟩ ⟨#[]⟩ (.slice none 0 0);obtain ⟨T0, hT0⟩ : ∃ T0, w.heap.size = T0 := ⟨_, rfl⟩;obtain ⟨w0, hw0⟩ : ∃ w0, w.alloc (.cells #[.int .i64 0, .int .i64 0, .string ⟨#[]⟩, .string ⟨#[]⟩, .slice none 0 0] 87) = w0 := ⟨_, rfl⟩;rw [hw0] at hba0 hrb0;rw [hT0] at hrb0;have hs0 := Hd (h.below hba0);have hrb0' := Hd hrb0;have hba0' := Hd hba0;have hbT : b ≠ T0 := by omega
 have hT0' := Hd hT0;have h0 := Hd h;have hlt0 := Hd hrb0.lt;obtain ⟨R, hR⟩ : ∃ R, token (S.drop k) = R := ⟨_, rfl⟩;rw [hR];have hR' := Hd hR;have c0 := hs0.out.c0;have c1 := hs0.out.c1;obtain ⟨ba, off, hAe, hx, hcell⟩ := hs0.out.at_ hk;have hAe' := Hd hAe;generalize S[k] = x at hx hcell;have hx' := Hd hx;subst hAe;clear h hba0 hrb0 hR hx;have hhd : Hid ((S.drop k).head? = some x) := Hd (by rw [drop_at hx'.out]; rfl)
 go_enter Tryz.func129, Tryz.ntmps129
 go_wp2_with fail
 go_big_quiet (fail)
 have hdr := Joins.below_draws w0.heap.size w0 nq;have hsq := Hd (hs0.out.below hdr);have hrbq := Hd (hrb0'.out.below hdr);have hbaq := Hd (hba0'.out.trans (hdr.mono hba0'.out.size));have hltq := Hd (Nat.lt_of_lt_of_le hlt0.out hdr.size);generalize w0.drewN nq = wq at hsq hrbq hbaq hltq ⊢;clear hdr c0 c1 hcell hs0 hrb0' hba0' hlt0 hAe'
 by_cases j6 : x = 60
 ·have j60 : ((x.toNat : Int) != 60) = false := by rw [j6]; rfl
  have hhd60 : Hid ((S.drop k).head? = some 60) := Hd (by rw [<- j6]; exact hhd.out);clear j6;go_wp2_with fail;refine (has_any wq b S k _ c vo hsq.out (by omega) hS [60, 33] (by decide)).mono ?_;rintro e wn ⟨rfl, hb1⟩;have hsn := Hd (hsq.out.below hb1);have hrbn := Hd (hrbq.out.below hb1);have hban := Hd (hbaq.out.trans (hb1.mono hbaq.out.size));have hltn := Hd (Nat.lt_of_lt_of_le hltq.out hb1.size);clear hb1 hsq hrbq hbaq hltq;generalize hww : wn = wq at hsn hrbn hban hltn ⊢;clear hww;have hsq := hsn;have hrbq := hrbn;have hbaq := hban;have hltq := hltn;clear hsn hrbn hban hltn
  cases hp1 : Lib.hasPrefix (S.drop k) [60, 33] with
  | true =>
   have hp1' := Hd hp1;clear hp1;have hRc : Hid (mark (S.drop k) = R) := Hd (by rw [<- tok_mark hhd60.out hp1'.out]; exact hR'.out);go_wp2_with fail;refine (mark_any wq b S k _ c vo hsq.out (by omega) hS).mono ?_;rintro e w5 ⟨hg5, hG⟩;rw [hRc.out] at hG
   cases R with
   | bad ec o =>
    subst hG;go_wp2_with fail;exact ⟨rfl, (grown_in hbaq.out).trans hg5, rfl⟩
   | ok t n =>
    obtain ⟨va, he, hs5, ho5⟩ := hG;unfold tkV at he;obtain ⟨Av, cv, rfl⟩ := ho5.form;subst he;have hrb5 := hrbq.out.on hg5 hbT.symm;have hfin := Hd (tok_put (kd := (t.kind : Nat)) (at_ := (k : Nat)) (nm := strOf t.name) (tx := strOf t.text) h0.out ((grown_in hbaq.out).trans hg5) hs5 hT0'.out hrb5 hltq.out ho5);have y0 := hrb5.cell 0;have g0 := hrb5.frozen 0;have y1 := hrb5.cell 1;have g1 := hrb5.frozen 1;have y2 := hrb5.cell 2;have g2 := hrb5.frozen 2;have y3 := hrb5.cell 3;have g3 := hrb5.frozen 3;have y4 := hrb5.cell 4;have g4 := hrb5.frozen 4;have hrb5' := Hd hrb5;clear hrb5 hs5 ho5 hg5;go_wp2_with fail;have hf1 := hfin.out;unfold putTok at hf1
    (try simp only [Exit.inBlock, Exit.then])
    refine bodyPost_ret (res_tb rfl hf1.1 rfl) rfl ?_;exact ⟨hf1.2.1, _, rfl, hf1.2.2.1, hf1.2.2.2⟩
  | false =>
  have hp1' := Hd hp1;clear hp1;go_wp2_with fail;refine (has_any wq b S k _ c vo hsq.out (by omega) hS [60, 63] (by decide)).mono ?_;rintro e wn ⟨rfl, hb1⟩;have hsn := Hd (hsq.out.below hb1);have hrbn := Hd (hrbq.out.below hb1);have hban := Hd (hbaq.out.trans (hb1.mono hbaq.out.size));have hltn := Hd (Nat.lt_of_lt_of_le hltq.out hb1.size);clear hb1 hsq hrbq hbaq hltq;generalize hww : wn = wq at hsn hrbn hban hltn ⊢;clear hww;have hsq := hsn;have hrbq := hrbn;have hbaq := hban;have hltq := hltn;clear hsn hrbn hban hltn
  cases hp2 : Lib.hasPrefix (S.drop k) [60, 63] with
  | true =>
   have hp2' := Hd hp2
   have hk2 : k + 2 <= S.length := by
    have := Qx.prefix_len hp2;rw [List.length_drop] at this;simp only [List.length_cons, List.length_nil] at this;omega
   clear hp2;have hRc : Hid (instr (S.drop k) = R) := Hd (by rw [<- tok_instr hhd60.out hp1'.out hp2'.out]; exact hR'.out);go_wp2_with fail;refine (instr_any wq b S k _ c vo hsq.out hk2 hS).mono ?_;rintro e w5 ⟨hg5, hG⟩;rw [hRc.out] at hG
   cases R with
   | bad ec o =>
    subst hG;go_wp2_with fail;exact ⟨rfl, (grown_in hbaq.out).trans hg5, rfl⟩
   | ok t n =>
    obtain ⟨va, he, hs5, ho5⟩ := hG;unfold tkV at he;obtain ⟨Av, cv, rfl⟩ := ho5.form;subst he;have hrb5 := hrbq.out.on hg5 hbT.symm;have hfin := Hd (tok_put (kd := (t.kind : Nat)) (at_ := (k : Nat)) (nm := strOf t.name) (tx := strOf t.text) h0.out ((grown_in hbaq.out).trans hg5) hs5 hT0'.out hrb5 hltq.out ho5);have y0 := hrb5.cell 0;have g0 := hrb5.frozen 0;have y1 := hrb5.cell 1;have g1 := hrb5.frozen 1;have y2 := hrb5.cell 2;have g2 := hrb5.frozen 2;have y3 := hrb5.cell 3;have g3 := hrb5.frozen 3;have y4 := hrb5.cell 4;have g4 := hrb5.frozen 4;have hrb5' := Hd hrb5;clear hrb5 hs5 ho5 hg5;go_wp2_with fail;have hf1 := hfin.out;unfold putTok at hf1
    (try simp only [Exit.inBlock, Exit.then])
    refine bodyPost_ret (res_tb rfl hf1.1 rfl) rfl ?_;exact ⟨hf1.2.1, _, rfl, hf1.2.2.1, hf1.2.2.2⟩
  | false =>
  have hp2' := Hd hp2;clear hp2;go_wp2_with fail;refine (has_any wq b S k _ c vo hsq.out (by omega) hS [60, 47] (by decide)).mono ?_;rintro e wn ⟨rfl, hb1⟩;have hsn := Hd (hsq.out.below hb1);have hrbn := Hd (hrbq.out.below hb1);have hban := Hd (hbaq.out.trans (hb1.mono hbaq.out.size));have hltn := Hd (Nat.lt_of_lt_of_le hltq.out hb1.size);clear hb1 hsq hrbq hbaq hltq;generalize hww : wn = wq at hsn hrbn hban hltn ⊢;clear hww;have hsq := hsn;have hrbq := hrbn;have hbaq := hban;have hltq := hltn;clear hsn hrbn hban hltn
  cases hp3 : Lib.hasPrefix (S.drop k) [60, 47] with
  | true =>
   have hp3' := Hd hp3
   have hk2 : k + 2 <= S.length := by
    have := Qx.prefix_len hp3;rw [List.length_drop] at this;simp only [List.length_cons, List.length_nil] at this;omega
   clear hp3;have hRc : Hid (endT (S.drop k) = R) := Hd (by rw [<- tok_end hhd60.out hp1'.out hp2'.out hp3'.out]; exact hR'.out);go_wp2_with fail;refine (end_any wq b S k _ c vo hsq.out hk2 hS).mono ?_;rintro e w5 ⟨hg5, hG⟩;rw [hRc.out] at hG
   cases R with
   | bad ec o =>
    subst hG;go_wp2_with fail;exact ⟨rfl, (grown_in hbaq.out).trans hg5, rfl⟩
   | ok t n =>
    obtain ⟨va, he, hs5, ho5⟩ := hG;unfold tkV at he;obtain ⟨Av, cv, rfl⟩ := ho5.form;subst he;have hrb5 := hrbq.out.on hg5 hbT.symm;have hfin := Hd (tok_put (kd := (t.kind : Nat)) (at_ := (k : Nat)) (nm := strOf t.name) (tx := strOf t.text) h0.out ((grown_in hbaq.out).trans hg5) hs5 hT0'.out hrb5 hltq.out ho5);have y0 := hrb5.cell 0;have g0 := hrb5.frozen 0;have y1 := hrb5.cell 1;have g1 := hrb5.frozen 1;have y2 := hrb5.cell 2;have g2 := hrb5.frozen 2;have y3 := hrb5.cell 3;have g3 := hrb5.frozen 3;have y4 := hrb5.cell 4;have g4 := hrb5.frozen 4;have hrb5' := Hd hrb5;clear hrb5 hs5 ho5 hg5;go_wp2_with fail;have hf1 := hfin.out;unfold putTok at hf1
    (try simp only [Exit.inBlock, Exit.then])
    refine bodyPost_ret (res_tb rfl hf1.1 rfl) rfl ?_;exact ⟨hf1.2.1, _, rfl, hf1.2.2.1, hf1.2.2.2⟩
  | false =>
  have hp3' := Hd hp3;clear hp3;have hRc : Hid (tag (S.drop k) = R) := Hd (by rw [<- tok_tag hhd60.out hp1'.out hp2'.out hp3'.out]; exact hR'.out);go_wp2_with fail;refine (tag_any wq b S k _ c vo hsq.out (by omega) hS).mono ?_;rintro e w5 ⟨hg5, hG⟩;rw [hRc.out] at hG
  cases R with
  | bad ec o =>
   subst hG;go_wp2_with fail;exact ⟨rfl, (grown_in hbaq.out).trans hg5, rfl⟩
  | ok t n =>
   obtain ⟨va, he, hs5, ho5⟩ := hG;unfold tkV at he;obtain ⟨Av, cv, rfl⟩ := ho5.form;subst he;have hrb5 := hrbq.out.on hg5 hbT.symm;have hfin := Hd (tok_put (kd := (t.kind : Nat)) (at_ := (k : Nat)) (nm := strOf t.name) (tx := strOf t.text) h0.out ((grown_in hbaq.out).trans hg5) hs5 hT0'.out hrb5 hltq.out ho5);have y0 := hrb5.cell 0;have g0 := hrb5.frozen 0;have y1 := hrb5.cell 1;have g1 := hrb5.frozen 1;have y2 := hrb5.cell 2;have g2 := hrb5.frozen 2;have y3 := hrb5.cell 3;have g3 := hrb5.frozen 3;have y4 := hrb5.cell 4;have g4 := hrb5.frozen 4;have hrb5' := Hd hrb5;clear hrb5 hs5 ho5 hg5;go_wp2_with fail;have hf1 := hfin.out;unfold putTok at hf1
   (try simp only [Exit.inBlock, Exit.then])
   refine bodyPost_ret (res_tb rfl hf1.1 rfl) rfl ?_;exact ⟨hf1.2.1, _, rfl, hf1.2.2.1, hf1.2.2.2⟩
 ·have j60 : ((x.toNat : Int) != 60) = true := by
   unfold bne;rw [show (60 : Int) = ((60 : UInt8).toNat : Int) from rfl, byte_eq, decide_eq_false j6];rfl
  have hhd60 : Hid ((S.drop k).head? ≠ some 60) := Hd (by
   rw [hhd.out];intro e;injection e with e
   exact j6 e)
  clear j6;have hRc : Hid (chars (S.drop k) = R) := Hd (by rw [<- tok_chars hhd60.out]; exact hR'.out);go_wp2_with fail;refine (characters_any wq b S k _ c vo hsq.out (by omega) hS).mono ?_;rintro e w5 ⟨hg5, hG⟩;rw [hRc.out] at hG
  cases R with
  | bad ec o =>
   subst hG;go_wp2_with fail;exact ⟨rfl, (grown_in hbaq.out).trans hg5, rfl⟩
  | ok t n =>
   obtain ⟨va, he, hs5, ho5⟩ := hG;unfold tkV at he;obtain ⟨Av, cv, rfl⟩ := ho5.form;subst he;have hrb5 := hrbq.out.on hg5 hbT.symm;have hfin := Hd (tok_put (kd := (t.kind : Nat)) (at_ := (k : Nat)) (nm := strOf t.name) (tx := strOf t.text) h0.out ((grown_in hbaq.out).trans hg5) hs5 hT0'.out hrb5 hltq.out ho5);have y0 := hrb5.cell 0;have g0 := hrb5.frozen 0;have y1 := hrb5.cell 1;have g1 := hrb5.frozen 1;have y2 := hrb5.cell 2;have g2 := hrb5.frozen 2;have y3 := hrb5.cell 3;have g3 := hrb5.frozen 3;have y4 := hrb5.cell 4;have g4 := hrb5.frozen 4;have hrb5' := Hd hrb5;clear hrb5 hs5 ho5 hg5;go_wp2_with fail;have hf1 := hfin.out;unfold putTok at hf1
   (try simp only [Exit.inBlock, Exit.then])
   refine bodyPost_ret (res_tb rfl hf1.1 rfl) rfl ?_;exact ⟨hf1.2.1, _, rfl, hf1.2.2.1, hf1.2.2.2⟩
end
end Go.Proofs.YtokdnhdfmgfkeaaGreatDoor.Xl
end

section
namespace Go.Proofs.YtokdnhdfmgfkeaaGreatDoor.Xl
open Go.RowKit UtfW
theorem ows_keptT {w w' : World} {B E n size : Nat} {v : Value} {xs : List Value} {row : Option Nat} (h : w.ownsRow B E size v n xs) (hg : w.grownBy w' row) (hr : ∀ g, row = some g -> B <= g -> ∀ cur, w.heap[g]? ≠ some (.cells cur E)) : w'.ownsRow B E size v n xs := by
 obtain ⟨h1, h2⟩ := h;refine ⟨h1, ?_⟩;rcases h2 with h2 | ⟨g, cap, cur, hv, hB, hc, h3⟩
 ·exact .inl h2
 ·refine .inr ⟨g, cap, cur, hv, hB, (hg.block g (Array.getElem?_eq_some_iff.1 hc).1 ?_).trans hc, h3⟩;intro e;exact hr g e.symm hB cur hc
def TkO (B : Nat) (w : World) (vs : List Value) (t : Tok) : Prop := ∃ A c, vs = [.int .i64 (t.kind : Nat), .int .i64 (t.at_ : Nat), .string (strOf t.name), .string (strOf t.text), .slice A t.attrs.length c] /\ OwS AtEl 2 w B 55 (.slice A t.attrs.length c) t.attrs
theorem TkO.kept {B : Nat} {w w' : World} {row : Option Nat} (hg : w.grownBy w' row) (hr : ∀ g, row = some g -> B <= g -> ∀ cur, w.heap[g]? ≠ some (.cells cur 55)) : ∀ vs t, TkO B w vs t -> TkO B w' vs t := by
 rintro vs t ⟨A, c, rfl, xs, h1, h2⟩;exact ⟨A, c, rfl, xs, ows_keptT h1 hg hr, h2.mono AtEl.to⟩
theorem TkO.one {B : Nat} {w : World} : ∀ vs t, TkO B w vs t -> ∀ u ∈ vs, u.oneCell' = true := by
 rintro vs t ⟨A, c, rfl, _⟩ u hu;simp at hu;rcases hu with rfl | rfl | rfl | rfl | rfl <;> rfl
def OwTk (w : World) (B : Nat) (v : Value) (ts : List Tok) : Prop := OwS (TkO B) 5 w B 87 v ts
section
variable {B : Nat} {w w' : World} {v : Value} {ts : List Tok}
theorem OwTk.nil (w : World) (B : Nat) : OwTk w B (.slice none 0 0) [] := OwS.nil w B _
theorem OwTk.kept {row : Option Nat} (h : OwTk w B v ts) (hg : w.grownBy w' row) (hr : ∀ g, row = some g -> B <= g -> ∀ cur E, (E = 55 \/ E = 87) -> w.heap[g]? ≠ some (.cells cur E)) : OwTk w' B v ts := by
 obtain ⟨xs, h1, h2⟩ := h;exact ⟨xs, ows_keptT h1 hg fun g e hB cur => hr g e hB cur _ (.inr rfl), h2.mono (TkO.kept hg fun g e hB cur => hr g e hB cur _ (.inl rfl))⟩
theorem OwTk.below (h : OwTk w B v ts) (hb : Below w.heap.size w w') : OwTk w' B v ts := h.kept (grown_of_below hb) (fun g e => by cases e)
theorem OwTk.on {b : Nat} (h : OwTk w B v ts) (hg : w.grownBy w' (some b)) (hb : b < B) : OwTk w' B v ts :=
 h.kept hg fun g e hB => by injection e with e; omega
end
theorem info_tok : (Tryz.prog.info? 87).map (fun i => (i.zero, i.size, i.bytes)) = some (some (.agg #[.int .i64 0, .int .i64 0, .string ⟨#[]⟩, .string ⟨#[]⟩, .slice none 0 0]), 5, 72) := by kernel_rfl
section
variable {ops : Array Oper} {rest : List Oper} {o : Oper} {a : Act} {Q : Exit -> Act -> World -> Prop}
theorem append_tok (w : World) (hgd : o.guard = none) (s x : Operand)
  (ho : o.op = .call { callee := .builtin .append, args := #[s, x], argTypes := #[79, 79] })
  (B : Nat) (v : Value) (la : List Tok) (hs : a.eval s = v) (hown : OwTk w B v la)
  (A : Option Addr) (m c : Nat) (lb : List Tok) (hx : a.eval x = .slice A m c) (hr : Sq (TkO B) 5 w A m c lb)
  (N : Nat) (hN : la.length + m = N) (hsz : N * 72 <= 140737488355328) (hB : B <= w.heap.size)
  (h : ∀ A' c' w', OwTk w' B (.slice A' N c') (la ++ lb) -> w.grownBy w' v.ownBlock -> Below B w w' -> wpList Tryz.prog ops Q rest (a.put o.dst (.slice A' N c')) w') :
  wpList Tryz.prog ops Q (o :: rest) a w := by
 refine append_sq w 79 87 _ 72 Tryz.underlying79 info_tok (by rfl) (by decide) hgd s x ho B v la hs hown A m c lb hx hr TkO.one ?_ N hN hsz (by omega) hB (fun A' c' w' h1 h2 h3 _ => h A' c' w' h1 h2 h3);intro w' hg;obtain ⟨xs, ⟨_, h2⟩, _⟩ := hown;refine TkO.kept hg fun g e hB' cur hc => ?_
 rcases h2 with ⟨rfl, _⟩ | ⟨g', cap, cur', rfl, _, hc', _⟩
 ·cases e
 ·simp [Value.ownBlock] at e;subst e;rw [hc'] at hc;injection hc with hc;injection hc with _ hc _;exact absurd hc (by decide)
end
end Go.Proofs.YtokdnhdfmgfkeaaGreatDoor.Xl
end

section
namespace Go.Proofs.YtokdnhdfmgfkeaaGreatDoor.Xt
open Go.RowKit UtfW Xl
structure Sm (s : St) (N : Nat) : Prop where
 bef : s.before.length <= N
 aft : s.after.length <= N
 kid : ∀ f ∈ s.opn, f.kids.length <= N
theorem Sm.put {s : St} {N : Nat} (h : Sm s N) (n : Nd) : Sm (put s n) (N + 1) := by
 obtain ⟨h1, h2, h3⟩ := h;unfold Xt.put
 split
 ·rename_i f F ho
  refine ⟨by simpa using Nat.le_succ_of_le h1, by simpa using Nat.le_succ_of_le h2, fun g hg => ?_⟩;simp at hg;rcases hg with rfl | hg
  ·have := h3 f (by rw [ho]; exact List.mem_cons_self ..)
   simpa using this
  ·exact Nat.le_succ_of_le (h3 g (by rw [ho]; exact List.mem_cons_of_mem _ hg))
 ·rename_i ho
  split
  ·exact ⟨Nat.le_succ_of_le h1, Nat.le_succ_of_le h2, fun g hg => Nat.le_succ_of_le (h3 g hg)⟩
  ·split
   ·exact ⟨Nat.le_succ_of_le h1, by simpa using h2, fun g hg => Nat.le_succ_of_le (h3 g hg)⟩
   ·exact ⟨by simpa using h1, Nat.le_succ_of_le h2, fun g hg => Nat.le_succ_of_le (h3 g hg)⟩
theorem Sm.mono {s : St} {N M : Nat} (h : Sm s N) (hM : N <= M) : Sm s M := ⟨Nat.le_trans h.bef hM, Nat.le_trans h.aft hM, fun f hf => Nat.le_trans (h.kid f hf) hM⟩
theorem Sm.opn {s : St} {N : Nat} (h : Sm s N) {F : List Fr} (hF : ∀ f ∈ F, f.kids.length <= N) (t : Tx) (k : Nat) (hs : Bool) : Sm { s with opn := F, text := t, nodes := k, has := hs } N := ⟨h.bef, h.aft, hF⟩
theorem Sm.flush {s : St} {N : Nat} (h : Sm s N) : Sm (flush s) (N + 1) := by
 unfold Xt.flush
 split
 ·exact h.mono (by omega)
 ·have := h.put (textN s.text);exact ⟨this.bef, this.aft, this.kid⟩
theorem Bb.cell {BT : TypeId} {w : World} {b : Nat} {v1 v2 v3 r0 r1 r2 r3 r4 : Value} {s : St} (h : w.heap[b]? = some (.cells #[v1, r0, r1, r2, r3, r4, v2, v3, .string (strOf s.text), .int .i64 (s.nodes : Nat), .bool s.has] BT)) (i : Nat) : w.cell? ⟨b, i, none⟩ = (#[v1, r0, r1, r2, r3, r4, v2, v3, .string (strOf s.text), .int .i64 (s.nodes : Nat), .bool s.has] : Array Value)[i]? := by
 simp [World.cell?, h]
theorem cell_blk {w : World} {b i : Nat} {cs : Array Value} {E : TypeId} {v : Value} (h : w.heap[b]? = some (.cells cs E)) (hi : cs[i]? = some v) : w.cell? ⟨b, i, none⟩ = some v := by
 simp [World.cell?, h, hi]
abbrev BsA (ρ : Rol) (P0 : Pp) (w : World) (b : Nat) (s : St) : Prop := BsP 25 136 85 ρ P0 w b s
abbrev BsN (ρ : Rol) (P0 : Pp) (w w' : World) (b : Nat) (s : St) : Prop := BsW 25 136 85 ρ P0 w w' b s
section
variable {w : World} {b N : Nat} {P0 : Pp} {ρ : Rol} {v1 v2 v3 : Value} {vr vs : List Value} {nb : List Nat} {s : St} {n : Nd}
set_option maxHeartbeats 4000000 in
set_option maxRecDepth 100000 in
theorem put_root (hR : BsR 25 136 None_ ρ P0 w b v1 v2 v3 vr nb s) (hB : Bb 85 w b v1 v2 v3 vr s) (hn : NdI (Fin_ ρ P0) w vs n) (hk : n.kind = 1) (ho : s.opn = []) :
  Calls Tryz.prog 132 #[.pointer (some ⟨b, 0, none⟩), .agg vs.toArray] w fun e w' => (∃ v, e = .returned v) /\ Below P0 w w' /\ BsN ρ P0 w w' b (put s n) := by
 obtain ⟨kd, nm, tx, as_, ks⟩ := n;have hk' : kd = 1 := hk;subst hk';obtain ⟨r0, r1, r2, r3, r4, rfl, hB⟩ := hB;have hl := hR.len;rw [ho] at hl;obtain ⟨p1, p2⟩ := hR.opn id;obtain ⟨A3, c3, rfl⟩ := ownsRow_form p1;rw [hl] at *;obtain ⟨A, ca, A2, c2, rfl, -⟩ := hn.cells;have hb7 := Bb.cell hB 7;have hba := below_alloc w (.cells #[.int .i64 1, .string (strOf nm), .string (strOf tx), .slice A as_.length ca, .slice A2 ks.length c2] 25);obtain ⟨T, hT⟩ : ∃ T, w.heap.size = T := ⟨_, rfl⟩;obtain ⟨w1, hw1⟩ : ∃ w1, w.alloc (.cells #[.int .i64 1, .string (strOf nm), .string (strOf tx), .slice A as_.length ca, .slice A2 ks.length c2] 25) = w1 := ⟨_, rfl⟩;have hnb := heap_alloc_new w (.cells #[.int .i64 1, .string (strOf nm), .string (strOf tx), .slice A as_.length ca, .slice A2 ks.length c2] 25);rw [hw1] at hba hnb;rw [hT] at hnb;have hB1 := (hba.block b (Array.getElem?_eq_some_iff.1 hB).1).trans hB;have c7 := Bb.cell hB1 7;have f := fun i => frozen_of_row w1 b i _ _ hB1
 have f1 := f 1;have f2 := f 2;have f3 := f 3;have f4 := f 4;have f5 := f 5;have f10 := f 10;have c1 := Bb.cell hB1 1;have c2_ := Bb.cell hB1 2;have c3_ := Bb.cell hB1 3;have c4 := Bb.cell hB1 4;have c5 := Bb.cell hB1 5;have c10 := Bb.cell hB1 10;have x0 : w1.cell? ⟨T, 0, none⟩ = some (.int .i64 1) := cell_blk hnb rfl;have x1 : w1.cell? ⟨T, 1, none⟩ = some (.string (strOf nm)) := cell_blk hnb rfl;have x2 : w1.cell? ⟨T, 2, none⟩ = some (.string (strOf tx)) := cell_blk hnb rfl;have x3 : w1.cell? ⟨T, 3, none⟩ = some (.slice A as_.length ca) := cell_blk hnb rfl;have x4 : w1.cell? ⟨T, 4, none⟩ = some (.slice A2 ks.length c2) := cell_blk hnb rfl;clear f hb7
 go_enter Tryz.func132, Tryz.ntmps132
 go_wp2_with fail
 go_end0
 refine ⟨⟨_, rfl⟩, ?_, ?_⟩
 ·have hP := (hR.dom b (by rw [hR.rb]; exact fun e => by cases e)).1;have hg := (((((grown_set w1 ⟨b, 1, none⟩ (.int .i64 1)).trans (grown_set _ ⟨b, 2, none⟩ (.string (strOf nm)))).trans (grown_set _ ⟨b, 3, none⟩ (.string (strOf tx)))).trans (grown_set _ ⟨b, 4, none⟩ (.slice A as_.length ca))).trans (grown_set _ ⟨b, 5, none⟩ (.slice A2 ks.length c2))).trans (grown_set _ ⟨b, 10, none⟩ (.bool true));exact (hba.mono hR.p0).grown hg (by have := hba.size; have := hR.p0; omega) (fun k hk => by injection hk with hk; have : b = k := hk; omega)
 ·have hT1 := Turns.below hR.dom hba .no;have hR1 := hR.turn hT1 (fun e => by cases e) (.inr (.inr rfl));have hx1 := NdI.turn hn hR.dom hR.p0 hT1 (fun e => by cases e);have hg := (((((grown_set w1 ⟨b, 1, none⟩ (.int .i64 1)).trans (grown_set _ ⟨b, 2, none⟩ (.string (strOf nm)))).trans (grown_set _ ⟨b, 3, none⟩ (.string (strOf tx)))).trans (grown_set _ ⟨b, 4, none⟩ (.slice A as_.length ca))).trans (grown_set _ ⟨b, 5, none⟩ (.slice A2 ks.length c2))).trans (grown_set _ ⟨b, 10, none⟩ (.bool true));have hT2 := Turns.on hR1.dom hR1.rb (fun e => by cases e) hg;have hR2 := hR1.turn hT2 (fun e => by cases e) (.inr (.inl rfl));have hx2 := NdI.turn hx1 hR1.dom hR1.p0 hT2 (fun e => by cases e);have hb2 := blk_setCell (blk_setCell (blk_setCell (blk_setCell (blk_setCell (blk_setCell hB1 (i := 1) (.int .i64 1)) (i := 2) (.string (strOf nm))) (i := 3) (.string (strOf tx))) (i := 4) (.slice A as_.length ca)) (i := 5) (.slice A2 ks.length c2)) (i := 10) (.bool true)
  have e : put s (.mk 1 nm tx as_ ks) = { s with root := .mk 1 nm tx as_ ks, has := true } := by
   unfold put;rw [ho];rfl
  rw [e];have hR3 := hR2.fillRoot hx2;exact ⟨_, ⟨v1, v2, _, _, nb, hR3.setText s.text s.nodes true, _, _, _, _, _, rfl, hb2⟩, (Kp.below hba).trans (Kp.on hT2 (fun e => by cases e)) hba.size⟩
end
end Go.Proofs.YtokdnhdfmgfkeaaGreatDoor.Xt
end

section
namespace Go.Proofs.YtokdnhdfmgfkeaaGreatDoor.Xt
open Go.RowKit UtfW Xl
theorem info_node : (Tryz.prog.info? 25).map (fun i => (i.zero, i.size, i.bytes)) = some (some (.agg #[.int .i64 0, .string ⟨#[]⟩, .string ⟨#[]⟩, .slice none 0 0, .slice none 0 0]), 5, 88) := by kernel_rfl
theorem zero_nd (X : Nat -> Prop) (w : World) : NdI X w [.int .i64 0, .string ⟨#[]⟩, .string ⟨#[]⟩, .slice none 0 0, .slice none 0 0] zero :=
 .mk 0 [] [] [] [] none 0 none 0 (fun _ => []) (Sq.none_ w) (fun a e => by cases e) (Sq.none_ w) (fun a e => by cases e) (fun i x hi => by simp at hi)
theorem fin_kept {E : TypeId} {w : World} {ρ : Rol} {P0 : Pp} {r : Ro} {v : Value} {l : List Nd} (hO : OwN E ρ P0 w r v l) (hd : ∀ k, ρ k ≠ .no -> P0 <= k /\ k < w.heap.size) (hp : P0 <= w.heap.size) (hr : r ≠ .fin) :
  ∀ w', w.grownBy w' v.ownBlock -> ∀ vs x, NdI (Fin_ ρ P0) w vs x -> NdI (Fin_ ρ P0) w' vs x := fun w' hg vs x hx => hx.stay fun k hk => ⟨hk, hg.block k (fin_mem hd hp hk) (fun e => by
   have h1 := hO.rl k e.symm;rcases hk with hk | hk
   ·have := (OwS.lt hO.ow k e.symm).1;omega
   ·exact hr (h1.symm.trans hk))⟩
section
variable {w : World} {b N : Nat} {P0 : Pp} {ρ : Rol} {v1 v2 v3 : Value} {vr vs : List Value} {nb : List Nat} {s : St} {n : Nd}
set_option maxHeartbeats 4000000 in
set_option maxRecDepth 100000 in
theorem put_after (hR : BsR 25 136 None_ ρ P0 w b v1 v2 v3 vr nb s) (hB : Bb 85 w b v1 v2 v3 vr s) (hn : NdI (Fin_ ρ P0) w vs n) (hk : n.kind ≠ 1) (hh : s.has = true) (ho : s.opn = []) (hN : s.after.length <= 1000000) :
  Calls Tryz.prog 132 #[.pointer (some ⟨b, 0, none⟩), .agg vs.toArray] w fun e w' => (∃ v, e = .returned v) /\ Below P0 w w' /\ BsN ρ P0 w w' b (put s n) := by
 obtain ⟨kd, nm, tx, as_, ks⟩ := n;have hk' : (kd == 1) = false := by rw [beq_eq_false_iff_ne]; exact hk
 obtain ⟨r0, r1, r2, r3, r4, rfl, hB⟩ := hB;have hl := hR.len;rw [ho] at hl;obtain ⟨p1, p2⟩ := hR.opn id;obtain ⟨A3, c3, rfl⟩ := ownsRow_form p1;rw [hl] at *;obtain ⟨A, ca, A2, c2, rfl, -⟩ := hn.cells;obtain ⟨Af, cf, rfl⟩ := OwS.form (hR.aft id).ow;have hba := below_alloc w (.cells #[.int .i64 kd, .string (strOf nm), .string (strOf tx), .slice A as_.length ca, .slice A2 ks.length c2] 25);obtain ⟨T, hT⟩ : ∃ T, w.heap.size = T := ⟨_, rfl⟩;obtain ⟨w1, hw1⟩ : ∃ w1, w.alloc (.cells #[.int .i64 kd, .string (strOf nm), .string (strOf tx), .slice A as_.length ca, .slice A2 ks.length c2] 25) = w1 := ⟨_, rfl⟩;have hnb := heap_alloc_new w (.cells #[.int .i64 kd, .string (strOf nm), .string (strOf tx), .slice A as_.length ca, .slice A2 ks.length c2] 25);rw [hw1] at hba hnb;rw [hT] at hnb;have hB1 := (hba.block b (Array.getElem?_eq_some_iff.1 hB).1).trans hB;have c7 := Bb.cell hB1 7;have c10 := Bb.cell hB1 10;have c6 := Bb.cell hB1 6;rw [hh] at c10;have x0 : w1.cell? ⟨T, 0, none⟩ = some (.int .i64 kd) := cell_blk hnb rfl;have x1 : w1.cell? ⟨T, 1, none⟩ = some (.string (strOf nm)) := cell_blk hnb rfl;have x2 : w1.cell? ⟨T, 2, none⟩ = some (.string (strOf tx)) := cell_blk hnb rfl;have x3 : w1.cell? ⟨T, 3, none⟩ = some (.slice A as_.length ca) := cell_blk hnb rfl;have x4 : w1.cell? ⟨T, 4, none⟩ = some (.slice A2 ks.length c2) := cell_blk hnb rfl;obtain ⟨na, hna⟩ : ∃ na, s.after.length = na := ⟨_, rfl⟩;rw [hna] at hN;rw [show (#[v1, r0, r1, r2, r3, r4, Value.slice Af s.after.length cf, Value.slice A3 [].length c3, .string (strOf s.text), .int .i64 (s.nodes : Nat), .bool s.has] : Array Value)[6]? = some (.slice Af na cf) by rw [<- hna]; rfl] at c6;have hT1 := Turns.below hR.dom hba .no;have hR1 := hR.turn hT1 (fun e => by cases e) (.inr (.inr rfl));have hx1 := NdI.turn hn hR.dom hR.p0 hT1 (fun e => by cases e)
 have hbT : b ≠ T := by have := (Array.getElem?_eq_some_iff.1 hB).1; omega
 have hTl : T < w1.heap.size := (Array.getElem?_eq_some_iff.1 hnb).1;obtain ⟨w3, hw3⟩ : ∃ w3, (w1.alloc (.cells #[.int .i64 0, .string ⟨#[]⟩, .string ⟨#[]⟩, .slice none 0 0, .slice none 0 0] 25)).drew = w3 := ⟨_, rfl⟩
 have hz : Sq (NdE (Fin_ ρ P0)) 5 w3 (some ⟨w1.heap.size, 0, none⟩) 1 1 [zero] := by
  rw [<- hw3];exact sq_one w1.drew [.int .i64 0, .string ⟨#[]⟩, .string ⟨#[]⟩, .slice none 0 0, .slice none 0 0] zero 25 (0, 0) rfl (zero_nd _ _)
 have hb3 : Below w1.heap.size w1 w3 := by
  rw [<- hw3];exact (below_alloc w1 _).drew
 obtain ⟨T3, hT3⟩ : ∃ T3, w1.heap.size = T3 := ⟨_, rfl⟩;rw [hT3] at hz;have hT3r := Turns.below hR1.dom hb3 .no;have hR3 := hR1.turn hT3r (fun e => by cases e) (.inr (.inr rfl));have hx3 := Hd (NdI.turn hx1 hR1.dom hR1.p0 hT3r (fun e => by cases e));have hB3 := (hb3.block b (Array.getElem?_eq_some_iff.1 hB1).1).trans hB1;have hT33 : w3.heap[T]? = w1.heap[T]? := hb3.block T hTl;have hlt3 : T < w3.heap.size := by have := hb3.size; omega
 have hO3 := hR3.aft id;rw [hna] at hO3;have hrT : ρ T = .no := Classical.byContradiction fun h => by have := (hR.dom T h).2; omega
 have hvT : ∀ k, (Value.slice Af na cf).ownBlock = some k -> k ≠ T := fun k hk e => by
  have h1 := hO3.rl k hk;rw [e, hrT] at h1;cases h1
 have hST : ∀ x : World, x.heap[T]? = w1.heap[T]? -> x.cell? ⟨T, 0, none⟩ = some (.int .i64 kd) /\ x.cell? ⟨T, 1, none⟩ = some (.string (strOf nm)) /\ x.cell? ⟨T, 2, none⟩ = some (.string (strOf tx)) /\ x.cell? ⟨T, 3, none⟩ = some (.slice A as_.length ca) /\ x.cell? ⟨T, 4, none⟩ = some (.slice A2 ks.length c2) := fun x hx =>
  ⟨(cell_same hx).trans x0, (cell_same hx).trans x1, (cell_same hx).trans x2, (cell_same hx).trans x3, (cell_same hx).trans x4⟩
 have hST := Hd hST;have hbel3 : Hid (Below P0 w w3 /\ Below w.heap.size w w3) := Hd ⟨(hba.mono hR.p0).trans (hb3.mono (by have := hba.size; have := hR.p0; omega)), hba.trans (hb3.mono hba.size)⟩
 have hput : put s (.mk kd nm tx as_ ks) = { s with after := s.after ++ [.mk kd nm tx as_ ks] } := by
  unfold put;rw [ho];dsimp only;rw [if_neg hk, if_pos hh]
 rw [hput];rw [hna] at hR3 hB3;have hR3 := Hd hR3;have hO3 := Hd hO3;have hvT := Hd hvT;have hz := Hd hz;have hna := Hd hna;have hB3 := Hd hB3;clear hh ho hput hR1 hx1 hT1 hT3r hba hnb hn hR p1 p2 hl hb3 hrT;have q1 : (na : Int) < (na : Int) + 1 := by omega
 go_enter Tryz.func132, Tryz.ntmps132
 go_upto_region 8 with fail
 clear hw1 hT
 refine Pl.wp_region_plan 15 (.take 0 (.take 1 (.take 2 (.take 3 (.take 5 (.two 4 (.take 6 (.run 7 (.run 8 (.take 9 (.take 11 (.take 12 (.take 13 (.two 10 (.run 14 .done) 14 (.run 10 .done))))))))) 7 (.run 4 (.take 6 (.run 8 (.take 9 (.take 11 (.take 12 (.take 13 (.two 10 (.run 14 .done) 14 (.run 10 .done)))))))))))))))
  (fun x => x.cell? ⟨T, 0, none⟩ = some (.int .i64 kd) /\ x.cell? ⟨T, 1, none⟩ = some (.string (strOf nm)) /\ x.cell? ⟨T, 2, none⟩ = some (.string (strOf tx)) /\ x.cell? ⟨T, 3, none⟩ = some (.slice A as_.length ca) /\ x.cell? ⟨T, 4, none⟩ = some (.slice A2 ks.length c2)) (by kernel_rfl) (by kernel_rfl) (by exact ⟨x0, x1, x2, x3, x4⟩) ?_
 simp only [Pl.fill, Al_4, Al_5, Al_6, Al_7]
 iterate 5
  refine Pl.take_go ?_ (by rfl) (fun _ _ _ h => h) ?_ ?_
  rotate_left
  ·(intro x hSw; (try dsimp only at hSw); go_simp; try with_reducible rfl)
  try simp only [Act.put, Al_1, Al_2, Al_3]
 refine Pl.two_go ?_ ?_
 ·refine Pl.run_go (fun K hK => ?_);go_simp;refine hK.out _ _ (Pl.more_go _ (fun _ h => h) (hST.out _ rfl) ?_);clear hK K
  try simp only [Act.put, Al_1, Al_2, Al_3]
  refine Pl.take_go ?_ (by rfl) (fun _ _ _ h => h) ?_ ?_
  rotate_left
  ·(intro x hSw; (try dsimp only at hSw); go_simp; try with_reducible rfl)
  try simp only [Act.put, Al_1, Al_2, Al_3]
  refine Pl.run_go (fun K hK => ?_);go_simp
  try rw [hw3]
  try rw [hT3]
  refine hK.out _ _ (Pl.more_go _ (fun _ h => h) (hST.out _ hT33) ?_);clear hK K
  try simp only [Act.put, Al_1, Al_2, Al_3]
  refine Pl.run_list (fun K hK => ?_);refine append_sq (El := NdE (Fin_ ρ P0)) (k := 5) _ 22 25 (.agg #[.int .i64 0, .string ⟨#[]⟩, .string ⟨#[]⟩, .slice none 0 0, .slice none 0 0]) 88 Tryz.underlying22 info_node rfl (by omega) rfl _ _ rfl P0 (.slice Af na cf) s.after rfl hO3.out.ow _ 1 1 _ rfl hz.out (fun vs x h => NdI.one h) (fin_kept hO3.out hR3.out.dom hR3.out.p0 (fun e => by cases e)) (na + 1) ?h3 ?h4 ?h5 ?h6 ?_
  case h3 => rw [hna.out]
  case h4 => omega
  case h5 => omega
  case h6 => exact hR3.out.p0
  intro A7 c7 w4 ho hg hb hv;obtain ⟨g, cur, rfl, hPg, hcg, hsz, hcells⟩ := OwS.where_ ho (by simp [hna.out])
  have hgT : g ≠ T := by
   rcases hv with h | h
   ·exact hvT.out g h.symm
   ·injection h with h; have h : g = w3.heap.size := h; omega
  have hfin := Hd (put_aft hR3.out ⟨_, _, _, _, _, rfl, hB3.out⟩ hna.out ho hg hv hx3.out);have hT4 : w4.heap[T]? = w1.heap[T]? := (hg.block T hlt3 (fun e => hvT.out T e.symm rfl)).trans hT33;have hB4 := hb.trans (Below.refl _ _);clear hb hB4;refine hK.out _ _ (Pl.more_go _ (fun _ h => h) (hST.out _ hT4) ?_);clear hK K
  try simp only [Act.put, Al_1, Al_2, Al_3]
  iterate 4
   refine Pl.take_go ?_ (by rfl) (fun _ _ _ h => h) ?_ ?_
   rotate_left
   ·(intro x hSw; (try dsimp only at hSw); go_simp; try with_reducible rfl)
   try simp only [Act.put, Al_1, Al_2, Al_3]
  have hlt4 : T < w4.heap.size := Nat.lt_of_lt_of_le hlt3 hg.size;have hP5 := grown_put5 w4 g (na * 5) (.int .i64 kd) (.string (strOf nm)) (.string (strOf tx)) (.slice A as_.length ca) (.slice A2 ks.length c2)
  have hb4 : w4.heap[b]? = w3.heap[b]? := hg.block b (Array.getElem?_eq_some_iff.1 hB3.out).1 (fun e => by
   have h1 := hO3.out.rl b e.symm;rw [hR3.out.rb] at h1
   cases h1)
  have hB4 := hb4.trans hB3.out;have hgb := hfin.out.1;refine Pl.two_go ?_ ?_
  ·refine Pl.run_go (fun K hK => ?_);obtain ⟨g0, g1, g2, g3, g4, u0, u1, u2, u3, u4, d0, d1, d2, d3, d4⟩ := hcells w4 rfl;go_simp;clear g0 g1 g2 g3 g4 d0 d1 d2 d3 d4;obtain ⟨w5, hw5⟩ : ∃ w5, put5 w4 g (na * 5) (.int .i64 kd) (.string (strOf nm)) (.string (strOf tx)) (.slice A as_.length ca) (.slice A2 ks.length c2) = w5 := ⟨_, rfl⟩;change K _ (put5 w4 g (na * 5) (.int .i64 kd) (.string (strOf nm)) (.string (strOf tx)) (.slice A as_.length ca) (.slice A2 ks.length c2));rw [hw5] at hP5 ⊢;have hT5 : w5.heap[T]? = w1.heap[T]? := (hP5.block T hlt4 (fun e => by injection e with e; exact hgT e.symm)).trans hT4;have hB5 := (hP5.block b (Array.getElem?_eq_some_iff.1 hB4).1 (fun e => by injection e with e; exact hgb e.symm)).trans hB4;refine hK.out _ _ (Pl.more_go _ (fun _ h => h) (hST.out _ hT5) ?_);clear hK K
   try simp only [Act.put, Al_1, Al_2, Al_3]
   refine Pl.run_go (fun K hK => ?_);have c6 := Bb.cell hB5 6;have f6 := frozen_of_row w5 b 6 _ _ hB5;go_simp;have hT6 : (w5.setCell ⟨b, 6, none⟩ (.slice (some ⟨g, 0, none⟩) (na + 1) c7)).heap[T]? = w1.heap[T]? := ((grown_set w5 ⟨b, 6, none⟩ _).block T (Nat.lt_of_lt_of_le hlt4 hP5.size) (fun e => by injection e with e; have e : T = b := e; exact hbT e.symm)).trans hT5;refine hK.out _ _ (Pl.more_go _ (fun _ h => h) (hST.out _ hT6) ?_);clear hK K
   try simp only [Act.put, Al_1, Al_2, Al_3]
   refine Pl.done_go ?_;unfold putW at hfin;rw [hw5] at hfin;go_wp2_with fail
   go_end0
   exact ⟨⟨_, rfl⟩, hbel3.out.1.trans hfin.out.2.1, BsW.from_ hfin.out.2.2 hbel3.out.2⟩
  ·refine Pl.run_go (fun K hK => ?_);have c6 := Bb.cell hB4 6;have f6 := frozen_of_row w4 b 6 _ _ hB4;go_simp;have hS5 := grown_set w4 ⟨b, 6, none⟩ (.slice (some ⟨g, 0, none⟩) (na + 1) c7);obtain ⟨w5, hw5⟩ : ∃ w5, w4.setCell ⟨b, 6, none⟩ (.slice (some ⟨g, 0, none⟩) (na + 1) c7) = w5 := ⟨_, rfl⟩;change K _ (w4.setCell ⟨b, 6, none⟩ (.slice (some ⟨g, 0, none⟩) (na + 1) c7));rw [hw5] at hS5 ⊢;have hT5 : w5.heap[T]? = w1.heap[T]? := (hS5.block T hlt4 (fun e => by injection e with e; have e : T = b := e; exact hbT e.symm)).trans hT4;refine hK.out _ _ (Pl.more_go _ (fun _ h => h) (hST.out _ hT5) ?_);clear hK K
   try simp only [Act.put, Al_1, Al_2, Al_3]
   refine Pl.run_go (fun K hK => ?_);obtain ⟨g0, g1, g2, g3, g4, u0, u1, u2, u3, u4, d0, d1, d2, d3, d4⟩ := hcells w5 (hS5.block g (Array.getElem?_eq_some_iff.1 hcg).1 (fun e => by injection e with e; exact hgb e));go_simp;change K _ (put5 w5 g (na * 5) (.int .i64 kd) (.string (strOf nm)) (.string (strOf tx)) (.slice A as_.length ca) (.slice A2 ks.length c2));clear g0 g1 g2 g3 g4 d0 d1 d2 d3 d4;have hP6 := grown_put5 w5 g (na * 5) (.int .i64 kd) (.string (strOf nm)) (.string (strOf tx)) (.slice A as_.length ca) (.slice A2 ks.length c2)
   have hcomm : put5 w5 g (na * 5) (.int .i64 kd) (.string (strOf nm)) (.string (strOf tx)) (.slice A as_.length ca) (.slice A2 ks.length c2) = putW w4 g na (.int .i64 kd) (.string (strOf nm)) (.string (strOf tx)) (.slice A as_.length ca) (.slice A2 ks.length c2) b 6 (.slice (some ⟨g, 0, none⟩) (na + 1) c7) := by
    rw [<- hw5];exact put5_comm w4 g (na * 5) _ _ _ _ _ _ _ hgb
   have hT6 := (hP6.block T (Nat.lt_of_lt_of_le hlt4 hS5.size) (fun e => by injection e with e; exact hgT e.symm)).trans hT5;rw [hcomm] at hT6 ⊢;refine hK.out _ _ (Pl.more_go _ (fun _ h => h) (hST.out _ hT6) ?_);clear hK K
   try simp only [Act.put, Al_1, Al_2, Al_3]
   refine Pl.done_go ?_;generalize putW w4 g na (.int .i64 kd) (.string (strOf nm)) (.string (strOf tx)) (.slice A as_.length ca) (.slice A2 ks.length c2) b 6 (.slice (some ⟨g, 0, none⟩) (na + 1) c7) = w6 at hfin ⊢;go_wp2_with fail
   go_end0
   exact ⟨⟨_, rfl⟩, hbel3.out.1.trans hfin.out.2.1, BsW.from_ hfin.out.2.2 hbel3.out.2⟩
 ·refine Pl.run_go (fun K hK => ?_);go_simp
  try rw [hw3]
  try rw [hT3]
  refine hK.out _ _ (Pl.more_go _ (fun _ h => h) (hST.out _ hT33) ?_);clear hK K
  try simp only [Act.put, Al_1, Al_2, Al_3]
  refine Pl.run_go (fun K hK => ?_);have c63 : w3.cell? ⟨b, 6, none⟩ = some (.slice Af na cf) := cell_blk hB3.out rfl;go_simp;refine hK.out _ _ (Pl.more_go _ (fun _ h => h) (hST.out _ hT33) ?_);clear hK K
  try simp only [Act.put, Al_1, Al_2, Al_3]
  refine Pl.take_go ?_ (by rfl) (fun _ _ _ h => h) ?_ ?_
  rotate_left
  ·(intro x hSw; (try dsimp only at hSw); go_simp; try with_reducible rfl)
  try simp only [Act.put, Al_1, Al_2, Al_3]
  refine Pl.run_list (fun K hK => ?_);refine append_sq (El := NdE (Fin_ ρ P0)) (k := 5) _ 22 25 (.agg #[.int .i64 0, .string ⟨#[]⟩, .string ⟨#[]⟩, .slice none 0 0, .slice none 0 0]) 88 Tryz.underlying22 info_node rfl (by omega) rfl _ _ rfl P0 (.slice Af na cf) s.after rfl hO3.out.ow _ 1 1 _ rfl hz.out (fun vs x h => NdI.one h) (fin_kept hO3.out hR3.out.dom hR3.out.p0 (fun e => by cases e)) (na + 1) ?h3 ?h4 ?h5 ?h6 ?_
  case h3 => rw [hna.out]
  case h4 => omega
  case h5 => omega
  case h6 => exact hR3.out.p0
  intro A7 c7 w4 ho hg hb hv;obtain ⟨g, cur, rfl, hPg, hcg, hsz, hcells⟩ := OwS.where_ ho (by simp [hna.out])
  have hgT : g ≠ T := by
   rcases hv with h | h
   ·exact hvT.out g h.symm
   ·injection h with h; have h : g = w3.heap.size := h; omega
  have hfin := Hd (put_aft hR3.out ⟨_, _, _, _, _, rfl, hB3.out⟩ hna.out ho hg hv hx3.out);have hT4 : w4.heap[T]? = w1.heap[T]? := (hg.block T hlt3 (fun e => hvT.out T e.symm rfl)).trans hT33;have hB4 := hb.trans (Below.refl _ _);clear hb hB4;refine hK.out _ _ (Pl.more_go _ (fun _ h => h) (hST.out _ hT4) ?_);clear hK K
  try simp only [Act.put, Al_1, Al_2, Al_3]
  iterate 4
   refine Pl.take_go ?_ (by rfl) (fun _ _ _ h => h) ?_ ?_
   rotate_left
   ·(intro x hSw; (try dsimp only at hSw); go_simp; try with_reducible rfl)
   try simp only [Act.put, Al_1, Al_2, Al_3]
  have hlt4 : T < w4.heap.size := Nat.lt_of_lt_of_le hlt3 hg.size;have hP5 := grown_put5 w4 g (na * 5) (.int .i64 kd) (.string (strOf nm)) (.string (strOf tx)) (.slice A as_.length ca) (.slice A2 ks.length c2)
  have hb4 : w4.heap[b]? = w3.heap[b]? := hg.block b (Array.getElem?_eq_some_iff.1 hB3.out).1 (fun e => by
   have h1 := hO3.out.rl b e.symm;rw [hR3.out.rb] at h1
   cases h1)
  have hB4 := hb4.trans hB3.out;have hgb := hfin.out.1;refine Pl.two_go ?_ ?_
  ·refine Pl.run_go (fun K hK => ?_);obtain ⟨g0, g1, g2, g3, g4, u0, u1, u2, u3, u4, d0, d1, d2, d3, d4⟩ := hcells w4 rfl;go_simp;clear g0 g1 g2 g3 g4 d0 d1 d2 d3 d4;obtain ⟨w5, hw5⟩ : ∃ w5, put5 w4 g (na * 5) (.int .i64 kd) (.string (strOf nm)) (.string (strOf tx)) (.slice A as_.length ca) (.slice A2 ks.length c2) = w5 := ⟨_, rfl⟩;change K _ (put5 w4 g (na * 5) (.int .i64 kd) (.string (strOf nm)) (.string (strOf tx)) (.slice A as_.length ca) (.slice A2 ks.length c2));rw [hw5] at hP5 ⊢;have hT5 : w5.heap[T]? = w1.heap[T]? := (hP5.block T hlt4 (fun e => by injection e with e; exact hgT e.symm)).trans hT4;have hB5 := (hP5.block b (Array.getElem?_eq_some_iff.1 hB4).1 (fun e => by injection e with e; exact hgb e.symm)).trans hB4;refine hK.out _ _ (Pl.more_go _ (fun _ h => h) (hST.out _ hT5) ?_);clear hK K
   try simp only [Act.put, Al_1, Al_2, Al_3]
   refine Pl.run_go (fun K hK => ?_);have c6 := Bb.cell hB5 6;have f6 := frozen_of_row w5 b 6 _ _ hB5;go_simp;have hT6 : (w5.setCell ⟨b, 6, none⟩ (.slice (some ⟨g, 0, none⟩) (na + 1) c7)).heap[T]? = w1.heap[T]? := ((grown_set w5 ⟨b, 6, none⟩ _).block T (Nat.lt_of_lt_of_le hlt4 hP5.size) (fun e => by injection e with e; have e : T = b := e; exact hbT e.symm)).trans hT5;refine hK.out _ _ (Pl.more_go _ (fun _ h => h) (hST.out _ hT6) ?_);clear hK K
   try simp only [Act.put, Al_1, Al_2, Al_3]
   refine Pl.done_go ?_;unfold putW at hfin;rw [hw5] at hfin;go_wp2_with fail
   go_end0
   exact ⟨⟨_, rfl⟩, hbel3.out.1.trans hfin.out.2.1, BsW.from_ hfin.out.2.2 hbel3.out.2⟩
  ·refine Pl.run_go (fun K hK => ?_);have c6 := Bb.cell hB4 6;have f6 := frozen_of_row w4 b 6 _ _ hB4;go_simp;have hS5 := grown_set w4 ⟨b, 6, none⟩ (.slice (some ⟨g, 0, none⟩) (na + 1) c7);obtain ⟨w5, hw5⟩ : ∃ w5, w4.setCell ⟨b, 6, none⟩ (.slice (some ⟨g, 0, none⟩) (na + 1) c7) = w5 := ⟨_, rfl⟩;change K _ (w4.setCell ⟨b, 6, none⟩ (.slice (some ⟨g, 0, none⟩) (na + 1) c7));rw [hw5] at hS5 ⊢;have hT5 : w5.heap[T]? = w1.heap[T]? := (hS5.block T hlt4 (fun e => by injection e with e; have e : T = b := e; exact hbT e.symm)).trans hT4;refine hK.out _ _ (Pl.more_go _ (fun _ h => h) (hST.out _ hT5) ?_);clear hK K
   try simp only [Act.put, Al_1, Al_2, Al_3]
   refine Pl.run_go (fun K hK => ?_);obtain ⟨g0, g1, g2, g3, g4, u0, u1, u2, u3, u4, d0, d1, d2, d3, d4⟩ := hcells w5 (hS5.block g (Array.getElem?_eq_some_iff.1 hcg).1 (fun e => by injection e with e; exact hgb e));go_simp;change K _ (put5 w5 g (na * 5) (.int .i64 kd) (.string (strOf nm)) (.string (strOf tx)) (.slice A as_.length ca) (.slice A2 ks.length c2));clear g0 g1 g2 g3 g4 d0 d1 d2 d3 d4;have hP6 := grown_put5 w5 g (na * 5) (.int .i64 kd) (.string (strOf nm)) (.string (strOf tx)) (.slice A as_.length ca) (.slice A2 ks.length c2)
   have hcomm : put5 w5 g (na * 5) (.int .i64 kd) (.string (strOf nm)) (.string (strOf tx)) (.slice A as_.length ca) (.slice A2 ks.length c2) = putW w4 g na (.int .i64 kd) (.string (strOf nm)) (.string (strOf tx)) (.slice A as_.length ca) (.slice A2 ks.length c2) b 6 (.slice (some ⟨g, 0, none⟩) (na + 1) c7) := by
    rw [<- hw5];exact put5_comm w4 g (na * 5) _ _ _ _ _ _ _ hgb
   have hT6 := (hP6.block T (Nat.lt_of_lt_of_le hlt4 hS5.size) (fun e => by injection e with e; exact hgT e.symm)).trans hT5;rw [hcomm] at hT6 ⊢;refine hK.out _ _ (Pl.more_go _ (fun _ h => h) (hST.out _ hT6) ?_);clear hK K
   try simp only [Act.put, Al_1, Al_2, Al_3]
   refine Pl.done_go ?_;generalize putW w4 g na (.int .i64 kd) (.string (strOf nm)) (.string (strOf tx)) (.slice A as_.length ca) (.slice A2 ks.length c2) b 6 (.slice (some ⟨g, 0, none⟩) (na + 1) c7) = w6 at hfin ⊢;go_wp2_with fail
   go_end0
   exact ⟨⟨_, rfl⟩, hbel3.out.1.trans hfin.out.2.1, BsW.from_ hfin.out.2.2 hbel3.out.2⟩
end
end Go.Proofs.YtokdnhdfmgfkeaaGreatDoor.Xt
end

section
namespace Go.Proofs.YtokdnhdfmgfkeaaGreatDoor.Xt
open Go.RowKit UtfW Xl
section
variable {w : World} {b N : Nat} {P0 : Pp} {ρ : Rol} {v1 v2 v3 : Value} {vr vs : List Value} {nb : List Nat} {s : St} {n : Nd}
set_option maxHeartbeats 4000000 in
set_option maxRecDepth 100000 in
theorem put_before (hR : BsR 25 136 None_ ρ P0 w b v1 v2 v3 vr nb s) (hB : Bb 85 w b v1 v2 v3 vr s) (hn : NdI (Fin_ ρ P0) w vs n) (hk : n.kind ≠ 1) (hh : s.has = false) (ho : s.opn = []) (hN : s.before.length <= 1000000) :
  Calls Tryz.prog 132 #[.pointer (some ⟨b, 0, none⟩), .agg vs.toArray] w fun e w' => (∃ v, e = .returned v) /\ Below P0 w w' /\ BsN ρ P0 w w' b (put s n) := by
 obtain ⟨kd, nm, tx, as_, ks⟩ := n;have hk' : (kd == 1) = false := by rw [beq_eq_false_iff_ne]; exact hk
 obtain ⟨r0, r1, r2, r3, r4, rfl, hB⟩ := hB;have hl := hR.len;rw [ho] at hl;obtain ⟨p1, p2⟩ := hR.opn id;obtain ⟨A3, c3, rfl⟩ := ownsRow_form p1;rw [hl] at *;obtain ⟨A, ca, A2, c2, rfl, -⟩ := hn.cells;obtain ⟨Af, cf, rfl⟩ := OwS.form (hR.bef id).ow;have hba := below_alloc w (.cells #[.int .i64 kd, .string (strOf nm), .string (strOf tx), .slice A as_.length ca, .slice A2 ks.length c2] 25);obtain ⟨T, hT⟩ : ∃ T, w.heap.size = T := ⟨_, rfl⟩;obtain ⟨w1, hw1⟩ : ∃ w1, w.alloc (.cells #[.int .i64 kd, .string (strOf nm), .string (strOf tx), .slice A as_.length ca, .slice A2 ks.length c2] 25) = w1 := ⟨_, rfl⟩;have hnb := heap_alloc_new w (.cells #[.int .i64 kd, .string (strOf nm), .string (strOf tx), .slice A as_.length ca, .slice A2 ks.length c2] 25);rw [hw1] at hba hnb;rw [hT] at hnb;have hB1 := (hba.block b (Array.getElem?_eq_some_iff.1 hB).1).trans hB;have c7 := Bb.cell hB1 7;have c10 := Bb.cell hB1 10;have c6 := Bb.cell hB1 0;rw [hh] at c10;have x0 : w1.cell? ⟨T, 0, none⟩ = some (.int .i64 kd) := cell_blk hnb rfl;have x1 : w1.cell? ⟨T, 1, none⟩ = some (.string (strOf nm)) := cell_blk hnb rfl;have x2 : w1.cell? ⟨T, 2, none⟩ = some (.string (strOf tx)) := cell_blk hnb rfl;have x3 : w1.cell? ⟨T, 3, none⟩ = some (.slice A as_.length ca) := cell_blk hnb rfl;have x4 : w1.cell? ⟨T, 4, none⟩ = some (.slice A2 ks.length c2) := cell_blk hnb rfl;obtain ⟨na, hna⟩ : ∃ na, s.before.length = na := ⟨_, rfl⟩;rw [hna] at hN;rw [show (#[Value.slice Af s.before.length cf, r0, r1, r2, r3, r4, v2, Value.slice A3 [].length c3, .string (strOf s.text), .int .i64 (s.nodes : Nat), .bool s.has] : Array Value)[0]? = some (.slice Af na cf) by rw [<- hna]; rfl] at c6;have hT1 := Turns.below hR.dom hba .no;have hR1 := hR.turn hT1 (fun e => by cases e) (.inr (.inr rfl));have hx1 := NdI.turn hn hR.dom hR.p0 hT1 (fun e => by cases e)
 have hbT : b ≠ T := by have := (Array.getElem?_eq_some_iff.1 hB).1; omega
 have hTl : T < w1.heap.size := (Array.getElem?_eq_some_iff.1 hnb).1;obtain ⟨w3, hw3⟩ : ∃ w3, (w1.alloc (.cells #[.int .i64 0, .string ⟨#[]⟩, .string ⟨#[]⟩, .slice none 0 0, .slice none 0 0] 25)).drew = w3 := ⟨_, rfl⟩
 have hz : Sq (NdE (Fin_ ρ P0)) 5 w3 (some ⟨w1.heap.size, 0, none⟩) 1 1 [zero] := by
  rw [<- hw3];exact sq_one w1.drew [.int .i64 0, .string ⟨#[]⟩, .string ⟨#[]⟩, .slice none 0 0, .slice none 0 0] zero 25 (0, 0) rfl (zero_nd _ _)
 have hb3 : Below w1.heap.size w1 w3 := by
  rw [<- hw3];exact (below_alloc w1 _).drew
 obtain ⟨T3, hT3⟩ : ∃ T3, w1.heap.size = T3 := ⟨_, rfl⟩;rw [hT3] at hz;have hT3r := Turns.below hR1.dom hb3 .no;have hR3 := hR1.turn hT3r (fun e => by cases e) (.inr (.inr rfl));have hx3 := Hd (NdI.turn hx1 hR1.dom hR1.p0 hT3r (fun e => by cases e));have hB3 := (hb3.block b (Array.getElem?_eq_some_iff.1 hB1).1).trans hB1;have hT33 : w3.heap[T]? = w1.heap[T]? := hb3.block T hTl;have hlt3 : T < w3.heap.size := by have := hb3.size; omega
 have hO3 := hR3.bef id;rw [hna] at hO3;have hrT : ρ T = .no := Classical.byContradiction fun h => by have := (hR.dom T h).2; omega
 have hvT : ∀ k, (Value.slice Af na cf).ownBlock = some k -> k ≠ T := fun k hk e => by
  have h1 := hO3.rl k hk;rw [e, hrT] at h1;cases h1
 have hST : ∀ x : World, x.heap[T]? = w1.heap[T]? -> x.cell? ⟨T, 0, none⟩ = some (.int .i64 kd) /\ x.cell? ⟨T, 1, none⟩ = some (.string (strOf nm)) /\ x.cell? ⟨T, 2, none⟩ = some (.string (strOf tx)) /\ x.cell? ⟨T, 3, none⟩ = some (.slice A as_.length ca) /\ x.cell? ⟨T, 4, none⟩ = some (.slice A2 ks.length c2) := fun x hx =>
  ⟨(cell_same hx).trans x0, (cell_same hx).trans x1, (cell_same hx).trans x2, (cell_same hx).trans x3, (cell_same hx).trans x4⟩
 have hST := Hd hST;have hbel3 : Hid (Below P0 w w3 /\ Below w.heap.size w w3) := Hd ⟨(hba.mono hR.p0).trans (hb3.mono (by have := hba.size; have := hR.p0; omega)), hba.trans (hb3.mono hba.size)⟩
 have hput : put s (.mk kd nm tx as_ ks) = { s with before := s.before ++ [.mk kd nm tx as_ ks] } := by
  unfold put;rw [ho];dsimp only;rw [if_neg hk, if_neg (by rw [hh]; decide)]
 rw [hput];rw [hna] at hR3 hB3;have hR3 := Hd hR3;have hO3 := Hd hO3;have hvT := Hd hvT;have hz := Hd hz;have hna := Hd hna;have hB3 := Hd hB3;clear hh ho hput hR1 hx1 hT1 hT3r hba hnb hn hR p1 p2 hl hb3 hrT;have q1 : (na : Int) < (na : Int) + 1 := by omega
 go_enter Tryz.func132, Tryz.ntmps132
 go_upto_region 1 with fail
 clear hw1 hT
 refine Pl.wp_region_plan 15 (.take 0 (.take 1 (.take 2 (.take 3 (.take 5 (.two 4 (.take 6 (.run 7 (.run 8 (.take 9 (.take 11 (.take 12 (.take 13 (.two 10 (.run 14 .done) 14 (.run 10 .done))))))))) 7 (.run 4 (.take 6 (.run 8 (.take 9 (.take 11 (.take 12 (.take 13 (.two 10 (.run 14 .done) 14 (.run 10 .done)))))))))))))))
  (fun x => x.cell? ⟨T, 0, none⟩ = some (.int .i64 kd) /\ x.cell? ⟨T, 1, none⟩ = some (.string (strOf nm)) /\ x.cell? ⟨T, 2, none⟩ = some (.string (strOf tx)) /\ x.cell? ⟨T, 3, none⟩ = some (.slice A as_.length ca) /\ x.cell? ⟨T, 4, none⟩ = some (.slice A2 ks.length c2)) (by kernel_rfl) (by kernel_rfl) (by exact ⟨x0, x1, x2, x3, x4⟩) ?_
 simp only [Pl.fill, Al_4, Al_5, Al_6, Al_7]
 iterate 5
  refine Pl.take_go ?_ (by rfl) (fun _ _ _ h => h) ?_ ?_
  rotate_left
  ·(intro x hSw; (try dsimp only at hSw); go_simp; try with_reducible rfl)
  try simp only [Act.put, Al_1, Al_2, Al_3]
 refine Pl.two_go ?_ ?_
 ·refine Pl.run_go (fun K hK => ?_);go_simp;refine hK.out _ _ (Pl.more_go _ (fun _ h => h) (hST.out _ rfl) ?_);clear hK K
  try simp only [Act.put, Al_1, Al_2, Al_3]
  refine Pl.take_go ?_ (by rfl) (fun _ _ _ h => h) ?_ ?_
  rotate_left
  ·(intro x hSw; (try dsimp only at hSw); go_simp; try with_reducible rfl)
  try simp only [Act.put, Al_1, Al_2, Al_3]
  refine Pl.run_go (fun K hK => ?_);go_simp
  try rw [hw3]
  try rw [hT3]
  refine hK.out _ _ (Pl.more_go _ (fun _ h => h) (hST.out _ hT33) ?_);clear hK K
  try simp only [Act.put, Al_1, Al_2, Al_3]
  refine Pl.run_list (fun K hK => ?_);refine append_sq (El := NdE (Fin_ ρ P0)) (k := 5) _ 22 25 (.agg #[.int .i64 0, .string ⟨#[]⟩, .string ⟨#[]⟩, .slice none 0 0, .slice none 0 0]) 88 Tryz.underlying22 info_node rfl (by omega) rfl _ _ rfl P0 (.slice Af na cf) s.before rfl hO3.out.ow _ 1 1 _ rfl hz.out (fun vs x h => NdI.one h) (fin_kept hO3.out hR3.out.dom hR3.out.p0 (fun e => by cases e)) (na + 1) ?h3 ?h4 ?h5 ?h6 ?_
  case h3 => rw [hna.out]
  case h4 => omega
  case h5 => omega
  case h6 => exact hR3.out.p0
  intro A7 c7 w4 ho hg hb hv;obtain ⟨g, cur, rfl, hPg, hcg, hsz, hcells⟩ := OwS.where_ ho (by simp [hna.out])
  have hgT : g ≠ T := by
   rcases hv with h | h
   ·exact hvT.out g h.symm
   ·injection h with h; have h : g = w3.heap.size := h; omega
  have hfin := Hd (put_bef hR3.out ⟨_, _, _, _, _, rfl, hB3.out⟩ hna.out ho hg hv hx3.out);have hT4 : w4.heap[T]? = w1.heap[T]? := (hg.block T hlt3 (fun e => hvT.out T e.symm rfl)).trans hT33;have hB4 := hb.trans (Below.refl _ _);clear hb hB4;refine hK.out _ _ (Pl.more_go _ (fun _ h => h) (hST.out _ hT4) ?_);clear hK K
  try simp only [Act.put, Al_1, Al_2, Al_3]
  iterate 4
   refine Pl.take_go ?_ (by rfl) (fun _ _ _ h => h) ?_ ?_
   rotate_left
   ·(intro x hSw; (try dsimp only at hSw); go_simp; try with_reducible rfl)
   try simp only [Act.put, Al_1, Al_2, Al_3]
  have hlt4 : T < w4.heap.size := Nat.lt_of_lt_of_le hlt3 hg.size;have hP5 := grown_put5 w4 g (na * 5) (.int .i64 kd) (.string (strOf nm)) (.string (strOf tx)) (.slice A as_.length ca) (.slice A2 ks.length c2)
  have hb4 : w4.heap[b]? = w3.heap[b]? := hg.block b (Array.getElem?_eq_some_iff.1 hB3.out).1 (fun e => by
   have h1 := hO3.out.rl b e.symm;rw [hR3.out.rb] at h1
   cases h1)
  have hB4 := hb4.trans hB3.out;have hgb := hfin.out.1;refine Pl.two_go ?_ ?_
  ·refine Pl.run_go (fun K hK => ?_);obtain ⟨g0, g1, g2, g3, g4, u0, u1, u2, u3, u4, d0, d1, d2, d3, d4⟩ := hcells w4 rfl;go_simp;clear g0 g1 g2 g3 g4 d0 d1 d2 d3 d4;obtain ⟨w5, hw5⟩ : ∃ w5, put5 w4 g (na * 5) (.int .i64 kd) (.string (strOf nm)) (.string (strOf tx)) (.slice A as_.length ca) (.slice A2 ks.length c2) = w5 := ⟨_, rfl⟩;change K _ (put5 w4 g (na * 5) (.int .i64 kd) (.string (strOf nm)) (.string (strOf tx)) (.slice A as_.length ca) (.slice A2 ks.length c2));rw [hw5] at hP5 ⊢;have hT5 : w5.heap[T]? = w1.heap[T]? := (hP5.block T hlt4 (fun e => by injection e with e; exact hgT e.symm)).trans hT4;have hB5 := (hP5.block b (Array.getElem?_eq_some_iff.1 hB4).1 (fun e => by injection e with e; exact hgb e.symm)).trans hB4;refine hK.out _ _ (Pl.more_go _ (fun _ h => h) (hST.out _ hT5) ?_);clear hK K
   try simp only [Act.put, Al_1, Al_2, Al_3]
   refine Pl.run_go (fun K hK => ?_);have c6 := Bb.cell hB5 0;have f6 := frozen_of_row w5 b 0 _ _ hB5;go_simp;have hT6 : (w5.setCell ⟨b, 0, none⟩ (.slice (some ⟨g, 0, none⟩) (na + 1) c7)).heap[T]? = w1.heap[T]? := ((grown_set w5 ⟨b, 0, none⟩ _).block T (Nat.lt_of_lt_of_le hlt4 hP5.size) (fun e => by injection e with e; have e : T = b := e; exact hbT e.symm)).trans hT5;refine hK.out _ _ (Pl.more_go _ (fun _ h => h) (hST.out _ hT6) ?_);clear hK K
   try simp only [Act.put, Al_1, Al_2, Al_3]
   refine Pl.done_go ?_;unfold putW at hfin;rw [hw5] at hfin;go_wp2_with fail
   go_end0
   exact ⟨⟨_, rfl⟩, hbel3.out.1.trans hfin.out.2.1, BsW.from_ hfin.out.2.2 hbel3.out.2⟩
  ·refine Pl.run_go (fun K hK => ?_);have c6 := Bb.cell hB4 0;have f6 := frozen_of_row w4 b 0 _ _ hB4;go_simp;have hS5 := grown_set w4 ⟨b, 0, none⟩ (.slice (some ⟨g, 0, none⟩) (na + 1) c7);obtain ⟨w5, hw5⟩ : ∃ w5, w4.setCell ⟨b, 0, none⟩ (.slice (some ⟨g, 0, none⟩) (na + 1) c7) = w5 := ⟨_, rfl⟩;change K _ (w4.setCell ⟨b, 0, none⟩ (.slice (some ⟨g, 0, none⟩) (na + 1) c7));rw [hw5] at hS5 ⊢;have hT5 : w5.heap[T]? = w1.heap[T]? := (hS5.block T hlt4 (fun e => by injection e with e; have e : T = b := e; exact hbT e.symm)).trans hT4;refine hK.out _ _ (Pl.more_go _ (fun _ h => h) (hST.out _ hT5) ?_);clear hK K
   try simp only [Act.put, Al_1, Al_2, Al_3]
   refine Pl.run_go (fun K hK => ?_);obtain ⟨g0, g1, g2, g3, g4, u0, u1, u2, u3, u4, d0, d1, d2, d3, d4⟩ := hcells w5 (hS5.block g (Array.getElem?_eq_some_iff.1 hcg).1 (fun e => by injection e with e; exact hgb e));go_simp;change K _ (put5 w5 g (na * 5) (.int .i64 kd) (.string (strOf nm)) (.string (strOf tx)) (.slice A as_.length ca) (.slice A2 ks.length c2));clear g0 g1 g2 g3 g4 d0 d1 d2 d3 d4;have hP6 := grown_put5 w5 g (na * 5) (.int .i64 kd) (.string (strOf nm)) (.string (strOf tx)) (.slice A as_.length ca) (.slice A2 ks.length c2)
   have hcomm : put5 w5 g (na * 5) (.int .i64 kd) (.string (strOf nm)) (.string (strOf tx)) (.slice A as_.length ca) (.slice A2 ks.length c2) = putW w4 g na (.int .i64 kd) (.string (strOf nm)) (.string (strOf tx)) (.slice A as_.length ca) (.slice A2 ks.length c2) b 0 (.slice (some ⟨g, 0, none⟩) (na + 1) c7) := by
    rw [<- hw5];exact put5_comm w4 g (na * 5) _ _ _ _ _ _ _ hgb
   have hT6 := (hP6.block T (Nat.lt_of_lt_of_le hlt4 hS5.size) (fun e => by injection e with e; exact hgT e.symm)).trans hT5;rw [hcomm] at hT6 ⊢;refine hK.out _ _ (Pl.more_go _ (fun _ h => h) (hST.out _ hT6) ?_);clear hK K
   try simp only [Act.put, Al_1, Al_2, Al_3]
   refine Pl.done_go ?_;generalize putW w4 g na (.int .i64 kd) (.string (strOf nm)) (.string (strOf tx)) (.slice A as_.length ca) (.slice A2 ks.length c2) b 0 (.slice (some ⟨g, 0, none⟩) (na + 1) c7) = w6 at hfin ⊢;go_wp2_with fail
   go_end0
   exact ⟨⟨_, rfl⟩, hbel3.out.1.trans hfin.out.2.1, BsW.from_ hfin.out.2.2 hbel3.out.2⟩
 ·refine Pl.run_go (fun K hK => ?_);go_simp
  try rw [hw3]
  try rw [hT3]
  refine hK.out _ _ (Pl.more_go _ (fun _ h => h) (hST.out _ hT33) ?_);clear hK K
  try simp only [Act.put, Al_1, Al_2, Al_3]
  refine Pl.run_go (fun K hK => ?_);have c63 : w3.cell? ⟨b, 0, none⟩ = some (.slice Af na cf) := cell_blk hB3.out rfl;go_simp;refine hK.out _ _ (Pl.more_go _ (fun _ h => h) (hST.out _ hT33) ?_);clear hK K
  try simp only [Act.put, Al_1, Al_2, Al_3]
  refine Pl.take_go ?_ (by rfl) (fun _ _ _ h => h) ?_ ?_
  rotate_left
  ·(intro x hSw; (try dsimp only at hSw); go_simp; try with_reducible rfl)
  try simp only [Act.put, Al_1, Al_2, Al_3]
  refine Pl.run_list (fun K hK => ?_);refine append_sq (El := NdE (Fin_ ρ P0)) (k := 5) _ 22 25 (.agg #[.int .i64 0, .string ⟨#[]⟩, .string ⟨#[]⟩, .slice none 0 0, .slice none 0 0]) 88 Tryz.underlying22 info_node rfl (by omega) rfl _ _ rfl P0 (.slice Af na cf) s.before rfl hO3.out.ow _ 1 1 _ rfl hz.out (fun vs x h => NdI.one h) (fin_kept hO3.out hR3.out.dom hR3.out.p0 (fun e => by cases e)) (na + 1) ?h3 ?h4 ?h5 ?h6 ?_
  case h3 => rw [hna.out]
  case h4 => omega
  case h5 => omega
  case h6 => exact hR3.out.p0
  intro A7 c7 w4 ho hg hb hv;obtain ⟨g, cur, rfl, hPg, hcg, hsz, hcells⟩ := OwS.where_ ho (by simp [hna.out])
  have hgT : g ≠ T := by
   rcases hv with h | h
   ·exact hvT.out g h.symm
   ·injection h with h; have h : g = w3.heap.size := h; omega
  have hfin := Hd (put_bef hR3.out ⟨_, _, _, _, _, rfl, hB3.out⟩ hna.out ho hg hv hx3.out);have hT4 : w4.heap[T]? = w1.heap[T]? := (hg.block T hlt3 (fun e => hvT.out T e.symm rfl)).trans hT33;have hB4 := hb.trans (Below.refl _ _);clear hb hB4;refine hK.out _ _ (Pl.more_go _ (fun _ h => h) (hST.out _ hT4) ?_);clear hK K
  try simp only [Act.put, Al_1, Al_2, Al_3]
  iterate 4
   refine Pl.take_go ?_ (by rfl) (fun _ _ _ h => h) ?_ ?_
   rotate_left
   ·(intro x hSw; (try dsimp only at hSw); go_simp; try with_reducible rfl)
   try simp only [Act.put, Al_1, Al_2, Al_3]
  have hlt4 : T < w4.heap.size := Nat.lt_of_lt_of_le hlt3 hg.size;have hP5 := grown_put5 w4 g (na * 5) (.int .i64 kd) (.string (strOf nm)) (.string (strOf tx)) (.slice A as_.length ca) (.slice A2 ks.length c2)
  have hb4 : w4.heap[b]? = w3.heap[b]? := hg.block b (Array.getElem?_eq_some_iff.1 hB3.out).1 (fun e => by
   have h1 := hO3.out.rl b e.symm;rw [hR3.out.rb] at h1
   cases h1)
  have hB4 := hb4.trans hB3.out;have hgb := hfin.out.1;refine Pl.two_go ?_ ?_
  ·refine Pl.run_go (fun K hK => ?_);obtain ⟨g0, g1, g2, g3, g4, u0, u1, u2, u3, u4, d0, d1, d2, d3, d4⟩ := hcells w4 rfl;go_simp;clear g0 g1 g2 g3 g4 d0 d1 d2 d3 d4;obtain ⟨w5, hw5⟩ : ∃ w5, put5 w4 g (na * 5) (.int .i64 kd) (.string (strOf nm)) (.string (strOf tx)) (.slice A as_.length ca) (.slice A2 ks.length c2) = w5 := ⟨_, rfl⟩;change K _ (put5 w4 g (na * 5) (.int .i64 kd) (.string (strOf nm)) (.string (strOf tx)) (.slice A as_.length ca) (.slice A2 ks.length c2));rw [hw5] at hP5 ⊢;have hT5 : w5.heap[T]? = w1.heap[T]? := (hP5.block T hlt4 (fun e => by injection e with e; exact hgT e.symm)).trans hT4;have hB5 := (hP5.block b (Array.getElem?_eq_some_iff.1 hB4).1 (fun e => by injection e with e; exact hgb e.symm)).trans hB4;refine hK.out _ _ (Pl.more_go _ (fun _ h => h) (hST.out _ hT5) ?_);clear hK K
   try simp only [Act.put, Al_1, Al_2, Al_3]
   refine Pl.run_go (fun K hK => ?_);have c6 := Bb.cell hB5 0;have f6 := frozen_of_row w5 b 0 _ _ hB5;go_simp;have hT6 : (w5.setCell ⟨b, 0, none⟩ (.slice (some ⟨g, 0, none⟩) (na + 1) c7)).heap[T]? = w1.heap[T]? := ((grown_set w5 ⟨b, 0, none⟩ _).block T (Nat.lt_of_lt_of_le hlt4 hP5.size) (fun e => by injection e with e; have e : T = b := e; exact hbT e.symm)).trans hT5;refine hK.out _ _ (Pl.more_go _ (fun _ h => h) (hST.out _ hT6) ?_);clear hK K
   try simp only [Act.put, Al_1, Al_2, Al_3]
   refine Pl.done_go ?_;unfold putW at hfin;rw [hw5] at hfin;go_wp2_with fail
   go_end0
   exact ⟨⟨_, rfl⟩, hbel3.out.1.trans hfin.out.2.1, BsW.from_ hfin.out.2.2 hbel3.out.2⟩
  ·refine Pl.run_go (fun K hK => ?_);have c6 := Bb.cell hB4 0;have f6 := frozen_of_row w4 b 0 _ _ hB4;go_simp;have hS5 := grown_set w4 ⟨b, 0, none⟩ (.slice (some ⟨g, 0, none⟩) (na + 1) c7);obtain ⟨w5, hw5⟩ : ∃ w5, w4.setCell ⟨b, 0, none⟩ (.slice (some ⟨g, 0, none⟩) (na + 1) c7) = w5 := ⟨_, rfl⟩;change K _ (w4.setCell ⟨b, 0, none⟩ (.slice (some ⟨g, 0, none⟩) (na + 1) c7));rw [hw5] at hS5 ⊢;have hT5 : w5.heap[T]? = w1.heap[T]? := (hS5.block T hlt4 (fun e => by injection e with e; have e : T = b := e; exact hbT e.symm)).trans hT4;refine hK.out _ _ (Pl.more_go _ (fun _ h => h) (hST.out _ hT5) ?_);clear hK K
   try simp only [Act.put, Al_1, Al_2, Al_3]
   refine Pl.run_go (fun K hK => ?_);obtain ⟨g0, g1, g2, g3, g4, u0, u1, u2, u3, u4, d0, d1, d2, d3, d4⟩ := hcells w5 (hS5.block g (Array.getElem?_eq_some_iff.1 hcg).1 (fun e => by injection e with e; exact hgb e));go_simp;change K _ (put5 w5 g (na * 5) (.int .i64 kd) (.string (strOf nm)) (.string (strOf tx)) (.slice A as_.length ca) (.slice A2 ks.length c2));clear g0 g1 g2 g3 g4 d0 d1 d2 d3 d4;have hP6 := grown_put5 w5 g (na * 5) (.int .i64 kd) (.string (strOf nm)) (.string (strOf tx)) (.slice A as_.length ca) (.slice A2 ks.length c2)
   have hcomm : put5 w5 g (na * 5) (.int .i64 kd) (.string (strOf nm)) (.string (strOf tx)) (.slice A as_.length ca) (.slice A2 ks.length c2) = putW w4 g na (.int .i64 kd) (.string (strOf nm)) (.string (strOf tx)) (.slice A as_.length ca) (.slice A2 ks.length c2) b 0 (.slice (some ⟨g, 0, none⟩) (na + 1) c7) := by
    rw [<- hw5];exact put5_comm w4 g (na * 5) _ _ _ _ _ _ _ hgb
   have hT6 := (hP6.block T (Nat.lt_of_lt_of_le hlt4 hS5.size) (fun e => by injection e with e; exact hgT e.symm)).trans hT5;rw [hcomm] at hT6 ⊢;refine hK.out _ _ (Pl.more_go _ (fun _ h => h) (hST.out _ hT6) ?_);clear hK K
   try simp only [Act.put, Al_1, Al_2, Al_3]
   refine Pl.done_go ?_;generalize putW w4 g na (.int .i64 kd) (.string (strOf nm)) (.string (strOf tx)) (.slice A as_.length ca) (.slice A2 ks.length c2) b 0 (.slice (some ⟨g, 0, none⟩) (na + 1) c7) = w6 at hfin ⊢;go_wp2_with fail
   go_end0
   exact ⟨⟨_, rfl⟩, hbel3.out.1.trans hfin.out.2.1, BsW.from_ hfin.out.2.2 hbel3.out.2⟩
end
end Go.Proofs.YtokdnhdfmgfkeaaGreatDoor.Xt
end

section
namespace Go.Proofs.YtokdnhdfmgfkeaaGreatDoor.Xt
open Go.RowKit UtfW Xl
theorem row_top {w : World} {P0 : Pp} {E : TypeId} {v : Value} {n k : Nat} {nb0 : List Nat} (h : w.ownsRow P0 E 1 v (nb0 ++ [k]).length ((nb0 ++ [k]).map fun k => Value.pointer (some ⟨k, 0, none⟩))) (hn : nb0.length = n) :
  ∃ g c, v = .slice (some ⟨g, 0, none⟩) (n + 1) c /\ n + 1 <= maxLen /\ g < w.heap.size /\ w.cell? ⟨g, n, none⟩ = some (.pointer (some ⟨k, 0, none⟩)) := by
 obtain ⟨h1, h2⟩ := h;have hl : (nb0 ++ [k]).length = n + 1 := by simp [hn]
 rw [hl] at h2;rcases h2 with ⟨_, h2⟩ | ⟨g, cap, cur, hv, hB, hc, hcap, hmax, hsz, ht⟩
 ·omega
 ·refine ⟨g, cap, hv, by omega, (Array.getElem?_eq_some_iff.1 hc).1, ?_⟩
  have h3 : (cur.toList.take ((n + 1) * 1))[n]? = some (.pointer (some ⟨k, 0, none⟩)) := by
   rw [ht, List.map_append, List.getElem?_append_right (by simp [hn])];simp [hn]
  rw [List.getElem?_take, if_pos (by omega)] at h3;simp only [World.cell?, hc]
  simpa using h3
section
variable {w : World} {b N : Nat} {P0 : Pp} {ρ : Rol} {v1 v2 v3 : Value} {vr vs : List Value} {nb : List Nat} {s : St} {n : Nd}
set_option maxHeartbeats 4000000 in
set_option maxRecDepth 100000 in
theorem put_inner {f : Fr} {F : List Fr} (hR : BsR 25 136 None_ ρ P0 w b v1 v2 v3 vr nb s) (hB : Bb 85 w b v1 v2 v3 vr s) (hn : NdI (Fin_ ρ P0) w vs n) (ho : s.opn = f :: F) (hN : f.kids.length <= 1000000) :
  Calls Tryz.prog 132 #[.pointer (some ⟨b, 0, none⟩), .agg vs.toArray] w fun e w' => (∃ v, e = .returned v) /\ Below P0 w w' /\ BsN ρ P0 w w' b (put s n) := by
 obtain ⟨kd, nm, tx, as_, ks⟩ := n;obtain ⟨r0, r1, r2, r3, r4, rfl, hB⟩ := hB;obtain ⟨nb0, k, rfl, hnl⟩ := hR.parted ho;obtain ⟨p1, p2⟩ := hR.opn id;obtain ⟨A, ca, A2, c2, rfl, -⟩ := hn.cells;have hba := below_alloc w (.cells #[.int .i64 kd, .string (strOf nm), .string (strOf tx), .slice A as_.length ca, .slice A2 ks.length c2] 25);obtain ⟨T, hT⟩ : ∃ T, w.heap.size = T := ⟨_, rfl⟩;obtain ⟨w1, hw1⟩ : ∃ w1, w.alloc (.cells #[.int .i64 kd, .string (strOf nm), .string (strOf tx), .slice A as_.length ca, .slice A2 ks.length c2] 25) = w1 := ⟨_, rfl⟩;have hnb := heap_alloc_new w (.cells #[.int .i64 kd, .string (strOf nm), .string (strOf tx), .slice A as_.length ca, .slice A2 ks.length c2] 25);rw [hw1] at hba hnb;rw [hT] at hnb;have hB1 := (hba.block b (Array.getElem?_eq_some_iff.1 hB).1).trans hB;obtain ⟨nF, hnF⟩ : ∃ nF, F.length = nF := ⟨_, rfl⟩;rw [hnF] at hnl;have x0 : w1.cell? ⟨T, 0, none⟩ = some (.int .i64 kd) := cell_blk hnb rfl;have x1 : w1.cell? ⟨T, 1, none⟩ = some (.string (strOf nm)) := cell_blk hnb rfl;have x2 : w1.cell? ⟨T, 2, none⟩ = some (.string (strOf tx)) := cell_blk hnb rfl;have x3 : w1.cell? ⟨T, 3, none⟩ = some (.slice A as_.length ca) := cell_blk hnb rfl;have x4 : w1.cell? ⟨T, 4, none⟩ = some (.slice A2 ks.length c2) := cell_blk hnb rfl;obtain ⟨na, hna⟩ : ∃ na, f.kids.length = na := ⟨_, rfl⟩;rw [hna] at hN;have hT1 := Turns.below hR.dom hba .no;have hR1 := hR.turn hT1 (fun e => by cases e) (.inr (.inr rfl));have hx1 := NdI.turn hn hR.dom hR.p0 hT1 (fun e => by cases e);have hbT : b ≠ T := by have := (Array.getElem?_eq_some_iff.1 hB).1; omega
 have hTl : T < w1.heap.size := (Array.getElem?_eq_some_iff.1 hnb).1;obtain ⟨w3, hw3⟩ : ∃ w3, (w1.alloc (.cells #[.int .i64 0, .string ⟨#[]⟩, .string ⟨#[]⟩, .slice none 0 0, .slice none 0 0] 25)).drew.drew = w3 := ⟨_, rfl⟩
 have hz : Sq (NdE (Fin_ ρ P0)) 5 w3 (some ⟨w1.heap.size, 0, none⟩) 1 1 [zero] := by
  rw [<- hw3];exact sq_one w1.drew.drew [.int .i64 0, .string ⟨#[]⟩, .string ⟨#[]⟩, .slice none 0 0, .slice none 0 0] zero 25 (0, 0) rfl (zero_nd _ _)
 have hb3 : Below w1.heap.size w1 w3 := by
  rw [<- hw3];exact (below_alloc w1 _).drew.drew
 obtain ⟨T3, hT3⟩ : ∃ T3, w1.heap.size = T3 := ⟨_, rfl⟩;rw [hT3] at hz;have hT3r := Turns.below hR1.dom hb3 .no;have hR3 := hR1.turn hT3r (fun e => by cases e) (.inr (.inr rfl));have hx3 := Hd (NdI.turn hx1 hR1.dom hR1.p0 hT3r (fun e => by cases e));have hB3 := (hb3.block b (Array.getElem?_eq_some_iff.1 hB1).1).trans hB1;have hT33 : w3.heap[T]? = w1.heap[T]? := hb3.block T hTl;have hlt3 : T < w3.heap.size := by have := hb3.size; omega
 obtain ⟨⟨Aa, cx, kv, m1, m2, m3, m4⟩, m5⟩ := hR1.top ho;obtain ⟨Af, cf, rfl⟩ := OwS.form m4.ow;obtain ⟨⟨Aa3, cx3, kv3, e1, e2, e3, hO3⟩, e5⟩ := hR3.top ho;have hkk : w3.heap[k]? = w1.heap[k]? := hb3.block k (Array.getElem?_eq_some_iff.1 m1).1;rw [hkk, m1] at e1;injection e1 with e1;injection e1 with e1 e1x e1y;clear e1x e1y;injection e1 with e1;simp only [List.cons.injEq, true_and, and_true] at e1;obtain ⟨e1, e4⟩ := e1;injection e1 with e1a e1b e1c;clear e1b;subst e1a;subst e1c;subst e4;have e1 := hkk.trans m1;rw [hna] at hO3 e1;obtain ⟨gO, cO, rfl, hmx, hgO, hctop⟩ := row_top (hR1.opn id).1 hnl;have hlen : (nb0 ++ [k]).length = nF + 1 := by simp [hnl]
 have c7 := Bb.cell hB1 7;rw [show (#[v1, r0, r1, r2, r3, r4, v2, Value.slice (some ⟨gO, 0, none⟩) (nF + 1) cO, .string (strOf s.text), .int .i64 (s.nodes : Nat), .bool s.has] : Array Value)[7]? = some (.slice (some ⟨gO, 0, none⟩) (nF + 1) cO) from rfl] at c7;have k4 : w1.cell? ⟨k, 4, none⟩ = some (.slice Af na cf) := (by rw [<- hna]; exact cell_blk m1 rfl);have q0 : (0 : Int) < (nF : Int) + 1 := by omega
 have q2 : (nF : Int) < (nF : Int) + 1 := by omega
 have q3 : (0 : Int) <= (nF : Int) := by omega
 have q4 : nF < nF + 1 := by omega
 have hm2 : nF + 1 <= 9223372036854775807 := Nat.le_trans hmx (by decide)
 have hkT : k ≠ T := fun e => by
  have h1 := (hR.dom k (by rw [m5]; exact fun e => by cases e)).2;omega
 have hrT : ρ T = .no := Classical.byContradiction fun h => by have := (hR.dom T h).2; omega
 have hvT : ∀ k, (Value.slice Af na cf).ownBlock = some k -> k ≠ T := fun k hk e => by
  have h1 := hO3.rl k hk;rw [e, hrT] at h1;cases h1
 have hST : ∀ x : World, x.heap[T]? = w1.heap[T]? -> x.cell? ⟨T, 0, none⟩ = some (.int .i64 kd) /\ x.cell? ⟨T, 1, none⟩ = some (.string (strOf nm)) /\ x.cell? ⟨T, 2, none⟩ = some (.string (strOf tx)) /\ x.cell? ⟨T, 3, none⟩ = some (.slice A as_.length ca) /\ x.cell? ⟨T, 4, none⟩ = some (.slice A2 ks.length c2) := fun x hx =>
  ⟨(cell_same hx).trans x0, (cell_same hx).trans x1, (cell_same hx).trans x2, (cell_same hx).trans x3, (cell_same hx).trans x4⟩
 replace hST := Hd hST;have hbel3 : Hid (Below P0 w w3 /\ Below w.heap.size w w3) := Hd ⟨(hba.mono hR.p0).trans (hb3.mono (by have := hba.size; have := hR.p0; omega)), hba.trans (hb3.mono hba.size)⟩
 have hput : put s (.mk kd nm tx as_ ks) = { s with opn := { f with kids := f.kids ++ [.mk kd nm tx as_ ks] } :: F } := by
  unfold put;rw [ho]
 rw [hput];replace hR3 := Hd hR3;replace hO3 := Hd hO3;replace hvT := Hd hvT;replace hz := Hd hz;replace hna := Hd hna;replace hB3 := Hd hB3;replace e1 := Hd e1;replace e2 := Hd e2;replace e3 := Hd e3;replace e5 := Hd e5;have hop := Hd ho;replace m5 := Hd m5;clear ho hput hR1 hx1 hT1 hT3r hba hnb hn hR p1 p2 hb3 hrT m2 m3 m4 hlen hmx hnl hkk;have q1 : (na : Int) < (na : Int) + 1 := by omega
 go_enter Tryz.func132, Tryz.ntmps132
 go_upto_region 3 with fail
 clear hw1 hT
 refine Pl.wp_region_plan 10 (.take 0 (.take 1 (.take 2 (.take 3 (.take 4 (.take 5 (.take 6 (.take 7 (.take 8 (.take 9 .done))))))))))
  (fun x => x.cell? ⟨b, 7, none⟩ = some (.slice (some ⟨gO, 0, none⟩) (nF + 1) cO)) (by kernel_rfl) (by kernel_rfl) (by exact c7) ?_
 simp only [Pl.fill, Al_4, Al_5, Al_6, Al_7]
 iterate 10
  refine Pl.take_go ?_ (by rfl) (fun _ _ _ h => h) ?_ ?_
  rotate_left
  ·(intro x hSw; (try dsimp only at hSw); go_simp; try with_reducible rfl)
  try simp only [Act.put, Al_1, Al_2, Al_3]
 refine Pl.done_go ?_;have hctop' : w1.drew.cell? ⟨gO, nF, none⟩ = some (.pointer (some ⟨k, 0, none⟩)) := hctop
 go_upto_region 4 with fail
 clear hctop hctop' c7
 refine Pl.wp_region_plan 13 (.take 0 (.take 1 (.take 2 (.take 4 (.two 3 (.take 5 (.run 6 (.run 7 (.take 8 (.take 10 (.take 11 (.two 9 (.run 12 .done) 12 (.run 9 .done)))))))) 6 (.run 3 (.take 5 (.run 7 (.take 8 (.take 10 (.take 11 (.two 9 (.run 12 .done) 12 (.run 9 .done)))))))))))))
  (fun x => x.cell? ⟨T, 0, none⟩ = some (.int .i64 kd) /\ x.cell? ⟨T, 1, none⟩ = some (.string (strOf nm)) /\ x.cell? ⟨T, 2, none⟩ = some (.string (strOf tx)) /\ x.cell? ⟨T, 3, none⟩ = some (.slice A as_.length ca) /\ x.cell? ⟨T, 4, none⟩ = some (.slice A2 ks.length c2)) (by kernel_rfl) (by kernel_rfl) (by exact ⟨x0, x1, x2, x3, x4⟩) ?_
 simp only [Pl.fill, Al_4, Al_5, Al_6, Al_7]
 iterate 4
  refine Pl.take_go ?_ (by rfl) (fun _ _ _ h => h) ?_ ?_
  rotate_left
  ·(intro x hSw; (try dsimp only at hSw); go_simp; try with_reducible rfl)
  try simp only [Act.put, Al_1, Al_2, Al_3]
 refine Pl.two_go ?_ ?_
 ·refine Pl.run_go (fun K hK => ?_);go_simp;refine hK.out _ _ (Pl.more_go _ (fun _ h => h) (hST.out _ rfl) ?_);clear hK K
  try simp only [Act.put, Al_1, Al_2, Al_3]
  refine Pl.take_go ?_ (by rfl) (fun _ _ _ h => h) ?_ ?_
  rotate_left
  ·(intro x hSw; (try dsimp only at hSw); go_simp; try with_reducible rfl)
  try simp only [Act.put, Al_1, Al_2, Al_3]
  refine Pl.run_go (fun K hK => ?_);go_simp
  try rw [hw3]
  try rw [hT3]
  refine hK.out _ _ (Pl.more_go _ (fun _ h => h) (hST.out _ hT33) ?_);clear hK K
  try simp only [Act.put, Al_1, Al_2, Al_3]
  refine Pl.run_list (fun K hK => ?_);refine append_sq (El := NdE (Fin_ ρ P0)) (k := 5) _ 22 25 (.agg #[.int .i64 0, .string ⟨#[]⟩, .string ⟨#[]⟩, .slice none 0 0, .slice none 0 0]) 88 Tryz.underlying22 info_node rfl (by omega) rfl _ _ rfl P0 (.slice Af na cf) f.kids rfl hO3.out.ow _ 1 1 _ rfl hz.out (fun vs x h => NdI.one h) (fin_kept hO3.out hR3.out.dom hR3.out.p0 (fun e => by cases e)) (na + 1) ?h3 ?h4 ?h5 ?h6 ?_
  case h3 => rw [hna.out]
  case h4 => omega
  case h5 => omega
  case h6 => exact hR3.out.p0
  intro A7 c7 w4 ho hg hb hv;obtain ⟨g, cur, rfl, hPg, hcg, hsz, hcells⟩ := OwS.where_ ho (by simp [hna.out])
  have hgT : g ≠ T := by
   rcases hv with h | h
   ·exact hvT.out g h.symm
   ·injection h with h; have h : g = w3.heap.size := h; omega
  have hfin := Hd (put_kids hR3.out ⟨_, _, _, _, _, rfl, hB3.out⟩ hop.out hna.out e1.out e2.out e3.out hO3.out e5.out ho hg hv hx3.out);have hT4 : w4.heap[T]? = w1.heap[T]? := (hg.block T hlt3 (fun e => hvT.out T e.symm rfl)).trans hT33;have hB4 := hb.trans (Below.refl _ _);clear hb hB4;refine hK.out _ _ (Pl.more_go _ (fun _ h => h) (hST.out _ hT4) ?_);clear hK K
  try simp only [Act.put, Al_1, Al_2, Al_3]
  iterate 3
   refine Pl.take_go ?_ (by rfl) (fun _ _ _ h => h) ?_ ?_
   rotate_left
   ·(intro x hSw; (try dsimp only at hSw); go_simp; try with_reducible rfl)
   try simp only [Act.put, Al_1, Al_2, Al_3]
  have hlt4 : T < w4.heap.size := Nat.lt_of_lt_of_le hlt3 hg.size;have hP5 := grown_put5 w4 g (na * 5) (.int .i64 kd) (.string (strOf nm)) (.string (strOf tx)) (.slice A as_.length ca) (.slice A2 ks.length c2);have e14 := e1.out
  have hb4 : w4.heap[k]? = w3.heap[k]? := hg.block k (Array.getElem?_eq_some_iff.1 e14).1 (fun e => by
   have h1 := hO3.out.rl k e.symm;rw [e5.out] at h1
   cases h1)
  have hB4 := hb4.trans e14;have hgb := hfin.out.1;refine Pl.two_go ?_ ?_
  ·refine Pl.run_go (fun K hK => ?_);obtain ⟨g0, g1, g2, g3, g4, u0, u1, u2, u3, u4, d0, d1, d2, d3, d4⟩ := hcells w4 rfl;go_simp;clear g0 g1 g2 g3 g4 d0 d1 d2 d3 d4;obtain ⟨w5, hw5⟩ : ∃ w5, put5 w4 g (na * 5) (.int .i64 kd) (.string (strOf nm)) (.string (strOf tx)) (.slice A as_.length ca) (.slice A2 ks.length c2) = w5 := ⟨_, rfl⟩;change K _ (put5 w4 g (na * 5) (.int .i64 kd) (.string (strOf nm)) (.string (strOf tx)) (.slice A as_.length ca) (.slice A2 ks.length c2));rw [hw5] at hP5 ⊢;have hT5 : w5.heap[T]? = w1.heap[T]? := (hP5.block T hlt4 (fun e => by injection e with e; exact hgT e.symm)).trans hT4;have hB5 := (hP5.block k (Array.getElem?_eq_some_iff.1 hB4).1 (fun e => by injection e with e; exact hgb e.symm)).trans hB4;refine hK.out _ _ (Pl.more_go _ (fun _ h => h) (hST.out _ hT5) ?_);clear hK K
   try simp only [Act.put, Al_1, Al_2, Al_3]
   refine Pl.run_go (fun K hK => ?_);have c6 : w5.cell? ⟨k, 4, none⟩ = some _ := cell_blk hB5 rfl;have f6 := frozen_of_row w5 k 4 _ _ hB5;go_simp;have hT6 : (w5.setCell ⟨k, 4, none⟩ (.slice (some ⟨g, 0, none⟩) (na + 1) c7)).heap[T]? = w1.heap[T]? := ((grown_set w5 ⟨k, 4, none⟩ _).block T (Nat.lt_of_lt_of_le hlt4 hP5.size) (fun e => by injection e with e; have e : T = k := e; exact hkT e.symm)).trans hT5;refine hK.out _ _ (Pl.more_go _ (fun _ h => h) (hST.out _ hT6) ?_);clear hK K
   try simp only [Act.put, Al_1, Al_2, Al_3]
   refine Pl.done_go ?_;unfold putW at hfin;rw [hw5] at hfin;go_wp2_with fail
   go_end0
   exact ⟨⟨_, rfl⟩, hbel3.out.1.trans hfin.out.2.1, BsW.from_ hfin.out.2.2 hbel3.out.2⟩
  ·refine Pl.run_go (fun K hK => ?_);have c6 : w4.cell? ⟨k, 4, none⟩ = some _ := cell_blk hB4 rfl;have f6 := frozen_of_row w4 k 4 _ _ hB4;go_simp;have hS5 := grown_set w4 ⟨k, 4, none⟩ (.slice (some ⟨g, 0, none⟩) (na + 1) c7);obtain ⟨w5, hw5⟩ : ∃ w5, w4.setCell ⟨k, 4, none⟩ (.slice (some ⟨g, 0, none⟩) (na + 1) c7) = w5 := ⟨_, rfl⟩;change K _ (w4.setCell ⟨k, 4, none⟩ (.slice (some ⟨g, 0, none⟩) (na + 1) c7));rw [hw5] at hS5 ⊢;have hT5 : w5.heap[T]? = w1.heap[T]? := (hS5.block T hlt4 (fun e => by injection e with e; have e : T = k := e; exact hkT e.symm)).trans hT4;refine hK.out _ _ (Pl.more_go _ (fun _ h => h) (hST.out _ hT5) ?_);clear hK K
   try simp only [Act.put, Al_1, Al_2, Al_3]
   refine Pl.run_go (fun K hK => ?_);obtain ⟨g0, g1, g2, g3, g4, u0, u1, u2, u3, u4, d0, d1, d2, d3, d4⟩ := hcells w5 (hS5.block g (Array.getElem?_eq_some_iff.1 hcg).1 (fun e => by injection e with e; exact hgb e));go_simp;change K _ (put5 w5 g (na * 5) (.int .i64 kd) (.string (strOf nm)) (.string (strOf tx)) (.slice A as_.length ca) (.slice A2 ks.length c2));clear g0 g1 g2 g3 g4 d0 d1 d2 d3 d4;have hP6 := grown_put5 w5 g (na * 5) (.int .i64 kd) (.string (strOf nm)) (.string (strOf tx)) (.slice A as_.length ca) (.slice A2 ks.length c2)
   have hcomm : put5 w5 g (na * 5) (.int .i64 kd) (.string (strOf nm)) (.string (strOf tx)) (.slice A as_.length ca) (.slice A2 ks.length c2) = putW w4 g na (.int .i64 kd) (.string (strOf nm)) (.string (strOf tx)) (.slice A as_.length ca) (.slice A2 ks.length c2) k 4 (.slice (some ⟨g, 0, none⟩) (na + 1) c7) := by
    rw [<- hw5];exact put5_comm w4 g (na * 5) _ _ _ _ _ _ _ hgb
   have hT6 := (hP6.block T (Nat.lt_of_lt_of_le hlt4 hS5.size) (fun e => by injection e with e; exact hgT e.symm)).trans hT5;rw [hcomm] at hT6 ⊢;refine hK.out _ _ (Pl.more_go _ (fun _ h => h) (hST.out _ hT6) ?_);clear hK K
   try simp only [Act.put, Al_1, Al_2, Al_3]
   refine Pl.done_go ?_;generalize putW w4 g na (.int .i64 kd) (.string (strOf nm)) (.string (strOf tx)) (.slice A as_.length ca) (.slice A2 ks.length c2) k 4 (.slice (some ⟨g, 0, none⟩) (na + 1) c7) = w6 at hfin ⊢;go_wp2_with fail
   go_end0
   exact ⟨⟨_, rfl⟩, hbel3.out.1.trans hfin.out.2.1, BsW.from_ hfin.out.2.2 hbel3.out.2⟩
 ·refine Pl.run_go (fun K hK => ?_);go_simp
  try rw [hw3]
  try rw [hT3]
  refine hK.out _ _ (Pl.more_go _ (fun _ h => h) (hST.out _ hT33) ?_);clear hK K
  try simp only [Act.put, Al_1, Al_2, Al_3]
  refine Pl.run_go (fun K hK => ?_);have c63 : w3.cell? ⟨k, 4, none⟩ = some (.slice Af na cf) := cell_blk e1.out rfl;go_simp;refine hK.out _ _ (Pl.more_go _ (fun _ h => h) (hST.out _ hT33) ?_);clear hK K
  try simp only [Act.put, Al_1, Al_2, Al_3]
  refine Pl.take_go ?_ (by rfl) (fun _ _ _ h => h) ?_ ?_
  rotate_left
  ·(intro x hSw; (try dsimp only at hSw); go_simp; try with_reducible rfl)
  try simp only [Act.put, Al_1, Al_2, Al_3]
  refine Pl.run_list (fun K hK => ?_);refine append_sq (El := NdE (Fin_ ρ P0)) (k := 5) _ 22 25 (.agg #[.int .i64 0, .string ⟨#[]⟩, .string ⟨#[]⟩, .slice none 0 0, .slice none 0 0]) 88 Tryz.underlying22 info_node rfl (by omega) rfl _ _ rfl P0 (.slice Af na cf) f.kids rfl hO3.out.ow _ 1 1 _ rfl hz.out (fun vs x h => NdI.one h) (fin_kept hO3.out hR3.out.dom hR3.out.p0 (fun e => by cases e)) (na + 1) ?h3 ?h4 ?h5 ?h6 ?_
  case h3 => rw [hna.out]
  case h4 => omega
  case h5 => omega
  case h6 => exact hR3.out.p0
  intro A7 c7 w4 ho hg hb hv;obtain ⟨g, cur, rfl, hPg, hcg, hsz, hcells⟩ := OwS.where_ ho (by simp [hna.out])
  have hgT : g ≠ T := by
   rcases hv with h | h
   ·exact hvT.out g h.symm
   ·injection h with h; have h : g = w3.heap.size := h; omega
  have hfin := Hd (put_kids hR3.out ⟨_, _, _, _, _, rfl, hB3.out⟩ hop.out hna.out e1.out e2.out e3.out hO3.out e5.out ho hg hv hx3.out);have hT4 : w4.heap[T]? = w1.heap[T]? := (hg.block T hlt3 (fun e => hvT.out T e.symm rfl)).trans hT33;have hB4 := hb.trans (Below.refl _ _);clear hb hB4;refine hK.out _ _ (Pl.more_go _ (fun _ h => h) (hST.out _ hT4) ?_);clear hK K
  try simp only [Act.put, Al_1, Al_2, Al_3]
  iterate 3
   refine Pl.take_go ?_ (by rfl) (fun _ _ _ h => h) ?_ ?_
   rotate_left
   ·(intro x hSw; (try dsimp only at hSw); go_simp; try with_reducible rfl)
   try simp only [Act.put, Al_1, Al_2, Al_3]
  have hlt4 : T < w4.heap.size := Nat.lt_of_lt_of_le hlt3 hg.size;have hP5 := grown_put5 w4 g (na * 5) (.int .i64 kd) (.string (strOf nm)) (.string (strOf tx)) (.slice A as_.length ca) (.slice A2 ks.length c2);have e14 := e1.out
  have hb4 : w4.heap[k]? = w3.heap[k]? := hg.block k (Array.getElem?_eq_some_iff.1 e14).1 (fun e => by
   have h1 := hO3.out.rl k e.symm;rw [e5.out] at h1
   cases h1)
  have hB4 := hb4.trans e14;have hgb := hfin.out.1;refine Pl.two_go ?_ ?_
  ·refine Pl.run_go (fun K hK => ?_);obtain ⟨g0, g1, g2, g3, g4, u0, u1, u2, u3, u4, d0, d1, d2, d3, d4⟩ := hcells w4 rfl;go_simp;clear g0 g1 g2 g3 g4 d0 d1 d2 d3 d4;obtain ⟨w5, hw5⟩ : ∃ w5, put5 w4 g (na * 5) (.int .i64 kd) (.string (strOf nm)) (.string (strOf tx)) (.slice A as_.length ca) (.slice A2 ks.length c2) = w5 := ⟨_, rfl⟩;change K _ (put5 w4 g (na * 5) (.int .i64 kd) (.string (strOf nm)) (.string (strOf tx)) (.slice A as_.length ca) (.slice A2 ks.length c2));rw [hw5] at hP5 ⊢;have hT5 : w5.heap[T]? = w1.heap[T]? := (hP5.block T hlt4 (fun e => by injection e with e; exact hgT e.symm)).trans hT4;have hB5 := (hP5.block k (Array.getElem?_eq_some_iff.1 hB4).1 (fun e => by injection e with e; exact hgb e.symm)).trans hB4;refine hK.out _ _ (Pl.more_go _ (fun _ h => h) (hST.out _ hT5) ?_);clear hK K
   try simp only [Act.put, Al_1, Al_2, Al_3]
   refine Pl.run_go (fun K hK => ?_);have c6 : w5.cell? ⟨k, 4, none⟩ = some _ := cell_blk hB5 rfl;have f6 := frozen_of_row w5 k 4 _ _ hB5;go_simp;have hT6 : (w5.setCell ⟨k, 4, none⟩ (.slice (some ⟨g, 0, none⟩) (na + 1) c7)).heap[T]? = w1.heap[T]? := ((grown_set w5 ⟨k, 4, none⟩ _).block T (Nat.lt_of_lt_of_le hlt4 hP5.size) (fun e => by injection e with e; have e : T = k := e; exact hkT e.symm)).trans hT5;refine hK.out _ _ (Pl.more_go _ (fun _ h => h) (hST.out _ hT6) ?_);clear hK K
   try simp only [Act.put, Al_1, Al_2, Al_3]
   refine Pl.done_go ?_;unfold putW at hfin;rw [hw5] at hfin;go_wp2_with fail
   go_end0
   exact ⟨⟨_, rfl⟩, hbel3.out.1.trans hfin.out.2.1, BsW.from_ hfin.out.2.2 hbel3.out.2⟩
  ·refine Pl.run_go (fun K hK => ?_);have c6 : w4.cell? ⟨k, 4, none⟩ = some _ := cell_blk hB4 rfl;have f6 := frozen_of_row w4 k 4 _ _ hB4;go_simp;have hS5 := grown_set w4 ⟨k, 4, none⟩ (.slice (some ⟨g, 0, none⟩) (na + 1) c7);obtain ⟨w5, hw5⟩ : ∃ w5, w4.setCell ⟨k, 4, none⟩ (.slice (some ⟨g, 0, none⟩) (na + 1) c7) = w5 := ⟨_, rfl⟩;change K _ (w4.setCell ⟨k, 4, none⟩ (.slice (some ⟨g, 0, none⟩) (na + 1) c7));rw [hw5] at hS5 ⊢;have hT5 : w5.heap[T]? = w1.heap[T]? := (hS5.block T hlt4 (fun e => by injection e with e; have e : T = k := e; exact hkT e.symm)).trans hT4;refine hK.out _ _ (Pl.more_go _ (fun _ h => h) (hST.out _ hT5) ?_);clear hK K
   try simp only [Act.put, Al_1, Al_2, Al_3]
   refine Pl.run_go (fun K hK => ?_);obtain ⟨g0, g1, g2, g3, g4, u0, u1, u2, u3, u4, d0, d1, d2, d3, d4⟩ := hcells w5 (hS5.block g (Array.getElem?_eq_some_iff.1 hcg).1 (fun e => by injection e with e; exact hgb e));go_simp;change K _ (put5 w5 g (na * 5) (.int .i64 kd) (.string (strOf nm)) (.string (strOf tx)) (.slice A as_.length ca) (.slice A2 ks.length c2));clear g0 g1 g2 g3 g4 d0 d1 d2 d3 d4;have hP6 := grown_put5 w5 g (na * 5) (.int .i64 kd) (.string (strOf nm)) (.string (strOf tx)) (.slice A as_.length ca) (.slice A2 ks.length c2)
   have hcomm : put5 w5 g (na * 5) (.int .i64 kd) (.string (strOf nm)) (.string (strOf tx)) (.slice A as_.length ca) (.slice A2 ks.length c2) = putW w4 g na (.int .i64 kd) (.string (strOf nm)) (.string (strOf tx)) (.slice A as_.length ca) (.slice A2 ks.length c2) k 4 (.slice (some ⟨g, 0, none⟩) (na + 1) c7) := by
    rw [<- hw5];exact put5_comm w4 g (na * 5) _ _ _ _ _ _ _ hgb
   have hT6 := (hP6.block T (Nat.lt_of_lt_of_le hlt4 hS5.size) (fun e => by injection e with e; exact hgT e.symm)).trans hT5;rw [hcomm] at hT6 ⊢;refine hK.out _ _ (Pl.more_go _ (fun _ h => h) (hST.out _ hT6) ?_);clear hK K
   try simp only [Act.put, Al_1, Al_2, Al_3]
   refine Pl.done_go ?_;generalize putW w4 g na (.int .i64 kd) (.string (strOf nm)) (.string (strOf tx)) (.slice A as_.length ca) (.slice A2 ks.length c2) k 4 (.slice (some ⟨g, 0, none⟩) (na + 1) c7) = w6 at hfin ⊢;go_wp2_with fail
   go_end0
   exact ⟨⟨_, rfl⟩, hbel3.out.1.trans hfin.out.2.1, BsW.from_ hfin.out.2.2 hbel3.out.2⟩
end
end Go.Proofs.YtokdnhdfmgfkeaaGreatDoor.Xt
end

section
namespace Go.Proofs.YtokdnhdfmgfkeaaGreatDoor.Xt
open Go.RowKit UtfW Xl
section
variable {w w' w'' : World} {b N : Nat} {P0 : Pp} {s s' : St} {ρ : Rol} {v1 v2 v3 : Value} {vr vs : List Value} {nb : List Nat} {n : Nd}
theorem put_any (hR : BsR 25 136 None_ ρ P0 w b v1 v2 v3 vr nb s) (hB : Bb 85 w b v1 v2 v3 vr s) (hn : NdI (Fin_ ρ P0) w vs n) (hs : Sm s N) (hN : N <= 1000000) :
  Calls Tryz.prog 132 #[.pointer (some ⟨b, 0, none⟩), .agg vs.toArray] w fun e w' => (∃ v, e = .returned v) /\ Below P0 w w' /\ BsN ρ P0 w w' b (put s n) := by
 cases ho : s.opn with
 | cons f F => exact put_inner hR hB hn ho (Nat.le_trans (hs.kid f (by rw [ho]; exact List.mem_cons_self ..)) hN)
 | nil =>
  by_cases hk : n.kind = 1
  ·exact put_root hR hB hn hk ho
  ·cases hh : s.has with
   | true => exact put_after hR hB hn hk hh ho (Nat.le_trans hs.aft hN)
   | false => exact put_before hR hB hn hk hh ho (Nat.le_trans hs.bef hN)
theorem BsA.lt (h : BsA ρ P0 w b s) : P0 <= b /\ b < w.heap.size := by
 obtain ⟨v1, v2, v3, vr, nb, hR, hB⟩ := h;exact hR.dom b (by rw [hR.rb]; exact fun e => by cases e)
theorem BsA.p0 (h : BsA ρ P0 w b s) : P0 <= w.heap.size := by
 obtain ⟨v1, v2, v3, vr, nb, hR, hB⟩ := h;exact hR.p0
theorem BsA.new (h : BsA ρ P0 w b s) : ρ w.heap.size = .no := by
 obtain ⟨v1, v2, v3, vr, nb, hR, hB⟩ := h
 exact Classical.byContradiction fun e => by
  have := (hR.dom _ e).2;omega
theorem BsA.rb (h : BsA ρ P0 w b s) : ρ b = .bld := by
 obtain ⟨v1, v2, v3, vr, nb, hR, hB⟩ := h;exact hR.rb
theorem BsA.blk (h : BsA ρ P0 w b s) : ∃ C : Array Value, C.size = 11 /\ w.heap[b]? = some (.cells C 85) /\ C[8]? = some (.string (strOf s.text)) /\ C[9]? = some (.int .i64 (s.nodes : Nat)) /\ C[10]? = some (.bool s.has) /\ ∃ A c, C[7]? = some (.slice A s.opn.length c) := by
 obtain ⟨v1, v2, v3, vr, nb, hR, r0, r1, r2, r3, r4, rfl, hB⟩ := h;obtain ⟨A, c, rfl⟩ := ownsRow_form (hR.opn id).1;refine ⟨_, rfl, hB, rfl, rfl, rfl, A, c, ?_⟩;rw [<- hR.len];rfl
theorem BsA.frozen (h : BsA ρ P0 w b s) (i : Nat) : w.frozen? ⟨b, i, none⟩ = false := by
 obtain ⟨C, _, h1, _⟩ := h.blk;exact frozen_of_row w b i _ _ h1
theorem BsA.c8 (h : BsA ρ P0 w b s) : w.cell? ⟨b, 8, none⟩ = some (.string (strOf s.text)) := by
 obtain ⟨C, _, h1, h2, _⟩ := h.blk;exact cell_blk h1 h2
theorem BsA.c9 (h : BsA ρ P0 w b s) : w.cell? ⟨b, 9, none⟩ = some (.int .i64 (s.nodes : Nat)) := by
 obtain ⟨C, _, h1, _, h2, _⟩ := h.blk;exact cell_blk h1 h2
theorem BsA.c10 (h : BsA ρ P0 w b s) : w.cell? ⟨b, 10, none⟩ = some (.bool s.has) := by
 obtain ⟨C, _, h1, _, _, h2, _⟩ := h.blk;exact cell_blk h1 h2
theorem BsA.c7 (h : BsA ρ P0 w b s) : ∃ A c, w.cell? ⟨b, 7, none⟩ = some (.slice A s.opn.length c) := by
 obtain ⟨C, _, h1, _, _, _, A, c, h2⟩ := h.blk;exact ⟨A, c, cell_blk h1 h2⟩
theorem BsA.later (h : BsA ρ P0 w b s) (hb : Below w.heap.size w w') : BsA ρ P0 w' b s := by
 obtain ⟨v1, v2, v3, vr, nb, hR, r0, r1, r2, r3, r4, rfl, hB⟩ := h;have hT := Turns.below hR.dom hb .no;exact ⟨v1, v2, v3, _, nb, hR.turn hT (fun e => by cases e) (.inr (.inr rfl)), r0, r1, r2, r3, r4, rfl, (hb.block b (Array.getElem?_eq_some_iff.1 hB).1).trans hB⟩
theorem BsA.set8 (h : BsA ρ P0 w b s) (t : Tx) : BsA ρ P0 (w.setCell ⟨b, 8, none⟩ (.string (strOf t))) b { s with text := t } := by
 obtain ⟨v1, v2, v3, vr, nb, hR, r0, r1, r2, r3, r4, rfl, hB⟩ := h;have hT := Turns.on hR.dom hR.rb (fun e => by cases e) (grown_set w ⟨b, 8, none⟩ (.string (strOf t)));exact ⟨v1, v2, v3, _, nb, (hR.turn hT (fun e => by cases e) (.inr (.inl rfl))).setText t s.nodes s.has, r0, r1, r2, r3, r4, rfl, blk_setCell hB (i := 8) _⟩
theorem BsA.set9 (h : BsA ρ P0 w b s) (k : Nat) : BsA ρ P0 (w.setCell ⟨b, 9, none⟩ (.int .i64 (k : Nat))) b { s with nodes := k } := by
 obtain ⟨v1, v2, v3, vr, nb, hR, r0, r1, r2, r3, r4, rfl, hB⟩ := h;have hT := Turns.on hR.dom hR.rb (fun e => by cases e) (grown_set w ⟨b, 9, none⟩ (.int .i64 (k : Nat)));exact ⟨v1, v2, v3, _, nb, (hR.turn hT (fun e => by cases e) (.inr (.inl rfl))).setText s.text k s.has, r0, r1, r2, r3, r4, rfl, blk_setCell hB (i := 9) _⟩
theorem BsA.set10 (h : BsA ρ P0 w b s) (q : Bool) : BsA ρ P0 (w.setCell ⟨b, 10, none⟩ (.bool q)) b { s with has := q } := by
 obtain ⟨v1, v2, v3, vr, nb, hR, r0, r1, r2, r3, r4, rfl, hB⟩ := h;have hT := Turns.on hR.dom hR.rb (fun e => by cases e) (grown_set w ⟨b, 10, none⟩ (.bool q));exact ⟨v1, v2, v3, _, nb, (hR.turn hT (fun e => by cases e) (.inr (.inl rfl))).setText s.text s.nodes q, r0, r1, r2, r3, r4, rfl, blk_setCell hB (i := 10) _⟩
theorem BsA.kp_set (h : BsA ρ P0 w b s) (i : Nat) (u : Value) : Below P0 w (w.setCell ⟨b, i, none⟩ u) /\ Kp ρ w ρ (w.setCell ⟨b, i, none⟩ u) :=
  ⟨(Below.refl P0 w).grown (grown_set w ⟨b, i, none⟩ u) h.p0 (fun k hk => by injection hk with hk; have : b = k := hk; have := h.lt; omega), fun k hk h0 => ⟨(grown_set w ⟨b, i, none⟩ u).block k hk (fun e => by
    injection e with e;have e : k = b := e;rw [e, h.rb] at h0
    cases h0), h0⟩⟩
theorem BsN.then_ {ρ' : Rol} (hK : Kp ρ w ρ' w') (hs : w.heap.size <= w'.heap.size) (h2 : BsN ρ' P0 w' w'' b s') : BsN ρ P0 w w'' b s' := by
 obtain ⟨ρ'', g1, g2⟩ := h2;exact ⟨ρ'', g1, hK.trans g2 hs⟩
theorem BsA.here (h : BsA ρ P0 w b s) : BsN ρ P0 w w b s := ⟨ρ, h, Kp.refl ρ w⟩
theorem nd_bare (X : Nat -> Prop) (w : World) (kd : Int) (nm tx : Tx) : NdI X w [.int .i64 kd, .string (strOf nm), .string (strOf tx), .slice none 0 0, .slice none 0 0] (.mk kd nm tx [] []) :=
 .mk kd nm tx [] [] none 0 none 0 (fun _ => []) (Sq.none_ w) (fun a e => by cases e) (Sq.none_ w) (fun a e => by cases e) (fun i x hi => by simp at hi)
theorem put_bare (h : BsA ρ P0 w b s) (kd : Int) (nm tx : Tx) (hs : Sm s N) (hN : N <= 1000000) :
  Calls Tryz.prog 132 #[.pointer (some ⟨b, 0, none⟩), .agg #[.int .i64 kd, .string (strOf nm), .string (strOf tx), .slice none 0 0, .slice none 0 0]] w fun e w' => (∃ v, e = .returned v) /\ Below P0 w w' /\ BsN ρ P0 w w' b (put s (.mk kd nm tx [] [])) := by
 obtain ⟨v1, v2, v3, vr, nb, hR, hB⟩ := h;exact put_any hR hB (nd_bare _ w kd nm tx) hs hN
end
end Go.Proofs.YtokdnhdfmgfkeaaGreatDoor.Xt
end

section
namespace Go.Proofs.YtokdnhdfmgfkeaaGreatDoor.Xt
open Go.RowKit UtfW Xl
section
variable {w w' : World} {b N : Nat} {P0 : Pp} {s : St} {ρ : Rol}
set_option maxHeartbeats 1000000 in
theorem count_any (h : BsA ρ P0 w b s) (k : Nat) (hs : s.nodes <= 1000000) (hk : k <= 1000000) :
  Calls Tryz.prog 130 #[.pointer (some ⟨b, 0, none⟩), .int .i64 (k : Nat)] w fun e w' => e = .returned (.bool (decide (s.nodes + k <= 4096))) /\ Below P0 w w' /\ BsN ρ P0 w w' b { s with nodes := s.nodes + k } := by
 have c9 := h.c9;have f9 := h.frozen 9;have hset := Hd (h.set9 (s.nodes + k));have hbel := Hd (h.kp_set 9 (.int .i64 ((s.nodes + k : Nat) : Int)));have hd : decide ((s.nodes : Int) + (k : Int) <= 4096) = decide (s.nodes + k <= 4096) := by rw [decide_eq_decide]; omega
 obtain ⟨B, hB⟩ : ∃ B, decide (s.nodes + k <= 4096) = B := ⟨_, rfl⟩;rw [hB] at hd ⊢;rw [Int.natCast_add] at hset hbel;clear h hB
 go_enter Tryz.func130, Tryz.ntmps130
 go_wp2_with fail;go_ret;exact ⟨rfl, hbel.out.1, _, hset.out, hbel.out.2⟩
set_option maxHeartbeats 1000000 in
theorem flush_any (h : BsA ρ P0 w b s) (hs : Sm s N) (hN : N <= 1000000) :
  Calls Tryz.prog 131 #[.pointer (some ⟨b, 0, none⟩)] w fun e w' => (∃ v, e = .returned v) /\ Below P0 w w' /\ BsN ρ P0 w w' b (flush s) := by
 have c8 := h.c8;obtain ⟨S, hS⟩ : ∃ S, strOf s.text = S := ⟨_, rfl⟩;rw [hS] at c8
 by_cases ht : s.text = []
 ·have e1 : S.toList.isEmpty = true := by rw [<- hS, strOf_empty, ht]; rfl
  have hf : flush s = s := by unfold flush; rw [if_pos ht]
  rw [hf];have h' := Hd h.here;clear h hS ht hf
  go_enter Tryz.func131, Tryz.ntmps131
  go_wp2_with fail
  go_end0
  exact ⟨⟨_, rfl⟩, Below.refl _ _, h'.out⟩
 ·have e1 : S.toList.isEmpty = false := by
   rw [<- hS, strOf_empty]
   cases hx : s.text with
   | nil => exact absurd hx ht
   | cons c t => rfl
  have hf : flush s = { put s (textN s.text) with text := [] } := by unfold flush; rw [if_neg ht]
  rw [hf];have hp := put_bare h 2 [] s.text hs hN;rw [hS] at hp;replace hp := Hd hp;clear h hS ht hf
  go_enter Tryz.func131, Tryz.ntmps131
  go_wp2_with fail;refine hp.out.mono ?_;rintro e w1 ⟨⟨v, rfl⟩, hb1, ρ1, h1, hk1⟩;have f8 := BsA.frozen h1 8;have c8' := BsA.c8 h1;have h2 := Hd (BsA.set8 h1 []);have hk2 := BsA.kp_set h1 8 (.string (strOf []));have hb2 := Hd (hb1.trans hk2.1);have hk3 := Hd (hk1.trans hk2.2 hb1.size);clear h1 hb1 hp hk1 hk2;go_wp2_with fail
  go_end0
  exact ⟨⟨_, rfl⟩, hb2.out, _, h2.out, hk3.out⟩
def TkP (P0 : Pp) (w : World) (vs : List Value) (t : Tok) : Prop := ∃ A c, vs = [.int .i64 (t.kind : Nat), .int .i64 (t.at_ : Nat), .string (strOf t.name), .string (strOf t.text), .slice A t.attrs.length c] /\ Sq AtEl 2 w A t.attrs.length c t.attrs /\ ∀ a, A = some a -> 0 < t.attrs.length -> (P0.lo <= a.block /\ a.block < P0.hi)
theorem TkP.below {vs : List Value} {t : Tok} (h : TkP P0 w vs t) (hb : Below P0 w w') : TkP P0 w' vs t := by
 obtain ⟨A, c, rfl, h1, h2⟩ := h;exact ⟨A, c, rfl, Sq.stay h1 (fun a e hn => hb.block _ (h2 a e hn).2) (fun _ _ h => h), h2⟩
structure TkB (ρ : Rol) (w : World) (T : Nat) (t : Tok) (A : Option Addr) (ca : Nat) : Prop where
 blk : w.heap[T]? = some (.cells #[.int .i64 (t.kind : Nat), .int .i64 (t.at_ : Nat), .string (strOf t.name), .string (strOf t.text), .slice A t.attrs.length ca] 87)
 no : ρ T = .no
theorem TkB.lt {T : Nat} {t : Tok} {A : Option Addr} {ca : Nat} (h : TkB ρ w T t A ca) : T < w.heap.size := (Array.getElem?_eq_some_iff.1 h.blk).1
theorem TkB.kp {ρ' : Rol} {T : Nat} {t : Tok} {A : Option Addr} {ca : Nat} (h : TkB ρ w T t A ca) (hK : Kp ρ w ρ' w') : TkB ρ' w' T t A ca := by
 obtain ⟨g1, g2⟩ := hK T h.lt h.no;exact ⟨g1.trans h.blk, g2⟩
theorem BsN.up {w0 : World} {s' : St} (h : BsN ρ P0 w w' b s') (hb : Below w0.heap.size w0 w) : BsN ρ P0 w0 w' b s' := BsW.from_ h hb
set_option maxHeartbeats 2000000 in
theorem other_any {vs : List Value} {t : Tok} (h : BsA ρ P0 w b s) (ht : TkP P0 w vs t) (kd : Int) (hs : Sm s N) (hN : N + 1 <= 1000000) (hn : s.nodes <= 1000000) :
  Calls Tryz.prog 98 #[.pointer (some ⟨b, 0, none⟩), .agg vs.toArray, .int .i64 kd] w fun e w' => ∃ c, e = .returned (.int .i64 c) /\ Below P0 w w' /\ match otherT s t kd with
   | .error x => c = x /\ ∃ ρ', Kp ρ w ρ' w'
   | .ok s' => c = 0 /\ BsN ρ P0 w w' b s' := by
 obtain ⟨A, ca, rfl, _, _⟩ := ht;have hba := below_alloc w (.cells #[.int .i64 (t.kind : Nat), .int .i64 (t.at_ : Nat), .string (strOf t.name), .string (strOf t.text), .slice A t.attrs.length ca] 87);have hnb := heap_alloc_new w (.cells #[.int .i64 (t.kind : Nat), .int .i64 (t.at_ : Nat), .string (strOf t.name), .string (strOf t.text), .slice A t.attrs.length ca] 87);have hno := h.new;obtain ⟨T, hT⟩ : ∃ T, w.heap.size = T := ⟨_, rfl⟩;obtain ⟨w1, hw1⟩ : ∃ w1, w.alloc (.cells #[.int .i64 (t.kind : Nat), .int .i64 (t.at_ : Nat), .string (strOf t.name), .string (strOf t.text), .slice A t.attrs.length ca] 87) = w1 := ⟨_, rfl⟩;rw [hw1] at hba hnb;rw [hT] at hnb hno;have hB1 := Hd (TkB.mk hnb hno);have h1 := h.later hba;have hb1 := hba.mono h.p0;obtain ⟨q, hq⟩ : ∃ q, otherT s t kd = q := ⟨_, rfl⟩;have hc := count_any h1 1 hn (by omega);rw [hq];unfold otherT at hq
 by_cases hm : 4096 < s.nodes + 1
 ·rw [if_pos hm] at hq;subst hq;have hd : decide (s.nodes + 1 <= 4096) = false := by simp; omega
  rw [hd] at hc;replace hc := Hd hc;replace hb1 := Hd hb1;replace hba := Hd hba;clear hnb h h1 hd hm hno
  go_enter Tryz.func98, Tryz.ntmps98
  go_wp2_with fail;refine hc.out.mono ?_;rintro e w2 ⟨rfl, hb2, ρ2, _, hk2⟩;have hkf := Hd ((Kp.below (ρ := ρ) hba.out).trans hk2 hba.out.size);replace hb2 := Hd (hb1.out.trans hb2);clear hk2;go_wp2_with fail;go_ret;exact ⟨_, rfl, hb2.out, rfl, _, hkf.out⟩
 ·rw [if_neg hm] at hq;have hd : decide (s.nodes + 1 <= 4096) = true := by simp; omega
  rw [hd] at hc;subst hq;replace hc := Hd hc;replace hb1 := Hd hb1;have hs2 : Sm { s with nodes := s.nodes + 1 } N := ⟨hs.bef, hs.aft, hs.kid⟩;replace hba := Hd hba;clear hnb h h1 hd hm hno
  go_enter Tryz.func98, Tryz.ntmps98
  go_wp2_with fail;refine hc.out.mono ?_;rintro e w2 ⟨rfl, hb2, ρ2, h2, hk2⟩;have hB2 := Hd (hB1.out.kp hk2);replace hk2 := Hd hk2;replace hb2 := Hd hb2;have hf := Hd (flush_any h2 hs2 (by omega));clear hc h2;go_wp2_with fail;refine hf.out.mono ?_;rintro e w3 ⟨⟨v, rfl⟩, hb3, ρ3, h3, hk3⟩;have hB3 := hB2.out.kp hk3;have x2 : w3.cell? ⟨T, 2, none⟩ = some (.string (strOf t.name)) := cell_blk hB3.blk rfl;have x3 : w3.cell? ⟨T, 3, none⟩ = some (.string (strOf t.text)) := cell_blk hB3.blk rfl;have hp := Hd (put_bare h3 kd t.name t.text hs2.flush hN);have hk23 := Hd (hk2.out.trans hk3 hb2.out.size);have hb23 := Hd (hb2.out.trans hb3);clear hf hB3 hb3 h3 hk3;go_wp2_with fail;refine hp.out.mono ?_;rintro e w4 ⟨⟨v', rfl⟩, hb4, h4⟩;have hfin := Hd (BsN.up (BsN.then_ hk23.out hb23.out.size h4) hba.out);have hbf := Hd (hb1.out.trans (hb23.out.trans hb4));clear hp hb4 h4;go_wp2_with fail;go_ret;exact ⟨_, rfl, hbf.out, rfl, hfin.out⟩
end
end Go.Proofs.YtokdnhdfmgfkeaaGreatDoor.Xt
end
