/- tag of the scanner. Printed by xl_tag.py. -/
import Derived.Test.YtcecmbbhjaeodaaGreatDoorMXlChars
import Derived.Test.YtcecmbbhjaeodaaGreatDoorMXlUpto
import Derived.Test.YtcecmbbhjaeodaaGreatDoorMXlLines
section
namespace Go.Proofs.YtcecmbbhjaeodaaGreatDoor.Xl
open Go.RowKit UtfW

section
variable {S x : Tx} {k m o : Nat} {ec : Int} {y : UInt8}
theorem com_upto (h : upto [45, 45] (S.drop (k + 4)) = .bad ec o) : comment (S.drop k) = .bad ec (4 + o) := by
  unfold comment
  rw [List.drop_drop, h]
theorem com_end (h : upto [45, 45] (S.drop (k + 4)) = .ok x m) (he : S.length ≤ k + 4 + m) : comment (S.drop k) = .bad 6 (4 + m) := by
  unfold comment
  rw [List.drop_drop, h]
  simp only [List.drop_drop, ← Nat.add_assoc, drop_end he]
theorem com_off (h : upto [45, 45] (S.drop (k + 4)) = .ok x m) (hy : S[k + 4 + m]? = some y) (hn : y ≠ 62) : comment (S.drop k) = .bad 2 (4 + m - 2) := by
  unfold comment
  rw [List.drop_drop, h]
  simp only [List.drop_drop, ← Nat.add_assoc, drop_at hy, if_neg hn]
theorem com_ok (h : upto [45, 45] (S.drop (k + 4)) = .ok x m) (hy : S[k + 4 + m]? = some 62) : comment (S.drop k) = .ok ⟨6, 0, [], Utf.lines x, []⟩ (4 + m + 1) := by
  unfold comment
  rw [List.drop_drop, h]
  simp only [List.drop_drop, ← Nat.add_assoc, drop_at hy, if_true]
end

section
variable (w : World) (b : Nat) (S : Tx) (k : Nat) (A : Option Addr) (c : Nat) (vo : Value)
set_option maxHeartbeats 2000000 in
set_option maxRecDepth 100000 in
theorem comment_any (h : Xc w b S k A c vo) (hk : k + 4 ≤ S.length) (hS : S.length ≤ 65536) :
    Calls Tryz.prog 86 #[.pointer (some ⟨b, 0, none⟩)] w fun e w' => GivesT w b S k A c vo (comment (S.drop k)) e w' := by
  have hbw : b < w.heap.size := h.lt
  have hba := below_alloc w (.cells #[.int .i64 0, .int .i64 0, .string ⟨#[]⟩, .string ⟨#[]⟩, .slice none 0 0] 39)
  have hrb := tb_new w 0 0 ⟨#[]⟩ ⟨#[]⟩ (.slice none 0 0)
  obtain ⟨T0, hT0⟩ : ∃ T0, w.heap.size = T0 := ⟨_, rfl⟩
  obtain ⟨w1, hw1⟩ : ∃ w1, w.alloc (.cells #[.int .i64 0, .int .i64 0, .string ⟨#[]⟩, .string ⟨#[]⟩, .slice none 0 0] 39) = w1 := ⟨_, rfl⟩
  rw [hw1] at hba hrb
  rw [hT0] at hrb
  have hs1 := Lib.hid (h.below hba)
  have hba2 := below_alloc w1 (.cells #[.int .i64 6, .int .i64 (k : Nat), .string ⟨#[]⟩, .string ⟨#[]⟩, .slice none 0 0] 39)
  have htb := tb_new w1 6 (k : Nat) ⟨#[]⟩ ⟨#[]⟩ (.slice none 0 0)
  have hs2 := Lib.hid (hs1.out.below hba2)
  have hg2 := Lib.hid (grown_in (r := some b) (hba.trans (hba2.mono hba.size)))
  have hrb2 := Lib.hid (hrb.below hba2)
  have hTT : T0 ≠ w1.heap.size := by have := hrb.lt; omega
  have hTT' := Lib.hid hTT
  have h1lo := Lib.hid hba.size
  have htb' := Lib.hid htb
  have h0 := Lib.hid h
  have hbT : b ≠ T0 := by omega
  have hT0' := Lib.hid hT0
  have c1 := hs1.out.c1
  have c2 := hs2.out.c1
  have f2 := hs2.out.frozen 1
  have hset := hs2.out.set1 (k + 4)
  have hs3 := Lib.hid hset.1
  have hg3 := Lib.hid (hg2.out.trans hset.2)
  obtain ⟨R, hR⟩ : ∃ R, comment (S.drop k) = R := ⟨_, rfl⟩
  rw [hR]
  have hR' := Lib.hid hR
  clear h hba hba2 hrb htb hTT hset hR
  go_enter Tryz.func86, Tryz.ntmps86
  go_wp2_with fail
  have e2 : ((k : Int) + 4) = ((k + 4 : Nat) : Int) := by omega
  rw [e2]
  have hT2b : Hid (w1.heap.size ≠ b) := Lib.hid (by have := h1lo.out; omega)
  have htb3 := Lib.hid (htb'.out.on (grown_set _ ⟨b, 1, none⟩ (.int .i64 ((k + 4 : Nat) : Int))) hT2b.out)
  have hrb3 := Lib.hid (hrb2.out.on (grown_set _ ⟨b, 1, none⟩ (.int .i64 ((k + 4 : Nat) : Int))) hbT.symm)
  clear hs2 hg2 hrb2 htb' c1 c2 f2 e2
  generalize (w1.alloc (.cells #[.int .i64 6, .int .i64 (k : Nat), .string ⟨#[]⟩, .string ⟨#[]⟩, .slice none 0 0] 39)).setCell ⟨b, 1, none⟩ (.int .i64 ((k + 4 : Nat) : Int)) = w3 at hs3 hg3 htb3 hrb3 ⊢
  generalize w1.heap.size = T2 at htb3 hTT' hT2b h1lo ⊢
  clear hs1
  refine (upto_any w3 b S (k + 4) A c vo hs3.out hk hS [45, 45] (by decide) (by decide)).mono ?_
  rintro e w4 ⟨hg4, hG⟩
  cases hnm : upto [45, 45] (S.drop (k + 4)) with
  | bad ec o =>
    rw [hnm] at hG
    subst hG
    go_wp2_with fail
    refine ⟨rfl, hg3.out.trans hg4, ?_⟩
    have := hR'.out
    rw [com_upto hnm] at this
    rw [← this]
    exact pan_eqI (by omega)
  | ok x m =>
    rw [hnm] at hG
    obtain ⟨rfl, hs4⟩ := hG
    have hul := upto_len hnm
    have hm1 := hul.1
    have hm2 := hul.2.1
    rw [List.length_drop] at hm1
    simp only [List.length_cons, List.length_nil] at hm2
    clear hul
    have hs4' := Lib.hid hs4
    have hg4' := Lib.hid (hg3.out.trans hg4)
    have htb4' := Lib.hid (htb3.out.on hg4 hT2b.out)
    have hrb4' := Lib.hid (hrb3.out.on hg4 hbT.symm)
    have hnm' := Lib.hid hnm
    have hxl : (strOf x).size ≤ 1000000 := by rw [strOf_size' x]; omega
    have hls : (strOf x).data.toList = x := by simp [strOf]
    have hls' := Lib.hid hls
    clear hs4 hg4 hnm hs3 hg3 htb3 hrb3 hls
    go_wp2_with fail
    refine (utfLines_any (strOf x) hxl w4 hs4'.out.us.ut).mono ?_
    rintro e wL ⟨rfl, hbL⟩
    rw [hls'.out]
    have htbL := htb4'.out.below hbL
    have hsL := hs4'.out.below hbL
    have hgL := hg4'.out.trans (grown_in (r := some b) hbL)
    have hfb : Below w.heap.size wL (wL.setCell ⟨T2, 3, none⟩ (.string (strOf (Utf.lines x)))) := (Below.refl _ wL).setCell (p := ⟨T2, 3, none⟩) h1lo.out _
    have hfar := h0.out.far hgL hsL hfb
    have hs5 := Lib.hid hfar.1
    have hg5 := Lib.hid hfar.2
    have htb5 := Lib.hid (tb_set3 (tx' := strOf (Utf.lines x)) htbL)
    have hrb5 := Lib.hid ((hrb4'.out.below hbL).on (grown_set wL ⟨T2, 3, none⟩ (.string (strOf (Utf.lines x)))) hTT'.out)
    have z3 := htbL.cell 3
    have zf := htbL.frozen 3
    clear hbL htbL hsL hgL hfb hfar hs4' hg4' htb4' hrb4' hxl
    go_wp2_with fail
    generalize wL.setCell ⟨T2, 3, none⟩ (.string (strOf (Utf.lines x))) = w5 at hs5 hg5 htb5 hrb5 ⊢
    clear z3 zf
    by_cases hge : S.length ≤ k + 4 + m
    · refine (need_bad w5 b S (k + 4 + m) A c vo hs5.out hge).mono ?_
      rintro e w6 ⟨rfl, hb6⟩
      go_wp2_with fail
      refine ⟨rfl, hg5.out.trans (grown_in hb6), ?_⟩
      have := hR'.out
      rw [com_end hnm'.out hge] at this
      rw [← this]
      exact pan_eqI (by omega)
    refine (need_ok w5 b S (k + 4 + m) A c vo hs5.out (by omega)).mono ?_
    rintro e w6 ⟨rfl, hb6⟩
    have hs6 := Lib.hid (hs5.out.below hb6)
    have hg6 := Lib.hid (hg5.out.trans (grown_in hb6))
    have htb6 := Lib.hid (htb5.out.below hb6)
    have hrb6 := Lib.hid (hrb5.out.below hb6)
    clear hb6
    obtain ⟨K, hK⟩ : ∃ K, k + 4 + m = K := ⟨_, rfl⟩
    rw [hK] at hs6 hge
    have hKI := Lib.hid hK
    clear hK
    have hlt : K < S.length := by omega
    have c0 := hs6.out.c0
    have c1 := hs6.out.c1
    obtain ⟨ba, off, rfl, hx, hcell⟩ := hs6.out.at_ hlt
    generalize S[K] = y at hx hcell
    have hx' := Lib.hid hx
    clear hx
    by_cases hy : y = 62
    · have j1 : ((y.toNat : Int) != 62) = false := by rw [hy]; rfl
      have hx62 : Hid (S[k + 4 + m]? = some 62) := Lib.hid (by rw [hKI.out, ← hy]; exact hx'.out)
      clear hy
      go_wp2_with fail
      go_big_quiet (fail)
      have hb7 := Joins.below_draws w6.heap.size w6 nq
      have hs7 := Lib.hid (hs6.out.below hb7)
      have hg7 := Lib.hid (hg6.out.trans (grown_in hb7))
      have htb7 := Lib.hid (htb6.out.below hb7)
      have hrb7 := Lib.hid (hrb6.out.below hb7)
      clear hb7
      generalize w6.drewN nq = w7 at hs7 hg7 htb7 hrb7 ⊢
      clear hs6 hg6 htb6 hrb6 c0 c1 hcell
      have c1 := hs7.out.c1
      have f1 := hs7.out.frozen 1
      have hset := hs7.out.set1 (K + 1)
      have htb8 := htb7.out.on (grown_set w7 ⟨b, 1, none⟩ (.int .i64 ((K : Int) + 1))) hT2b.out
      have hrb8 := hrb7.out.on (grown_set w7 ⟨b, 1, none⟩ (.int .i64 ((K : Int) + 1))) hbT.symm
      have z0 := htb8.cell 0
      have z1 := htb8.cell 1
      have z2 := htb8.cell 2
      have z3 := htb8.cell 3
      have z4 := htb8.cell 4
      have y0 := hrb8.cell 0
      have y1 := hrb8.cell 1
      have y2 := hrb8.cell 2
      have y3 := hrb8.cell 3
      have y4 := hrb8.cell 4
      have g0 := hrb8.frozen 0
      have g1 := hrb8.frozen 1
      have g2 := hrb8.frozen 2
      have g3 := hrb8.frozen 3
      have g4 := hrb8.frozen 4
      have hs8 := Lib.hid hset.1
      have hg8 := Lib.hid (hg7.out.trans hset.2)
      have hrb8' := Lib.hid hrb8
      clear hset htb8 hrb8 hs7 hg7 htb7 hrb7
      go_wp2_with fail
      have hTlo : w.heap.size ≤ T0 := by have := hT0'.out; omega
      have hset := tb_set (kd' := 6) (at' := (k : Nat)) (nm' := ⟨#[]⟩) (tx' := strOf (Utf.lines x)) (va' := .slice none 0 0) hrb8'.out
      have hfb := (((((Below.refl w.heap.size (w7.setCell ⟨b, 1, none⟩ (.int .i64 ((K + 1 : Nat) : Int)))).setCell (p := ⟨T0, 0, none⟩) hTlo (.int .i64 6)).setCell (p := ⟨T0, 1, none⟩) hTlo (.int .i64 (k : Nat))).setCell (p := ⟨T0, 2, none⟩) hTlo (.string ⟨#[]⟩)).setCell (p := ⟨T0, 3, none⟩) hTlo (.string (strOf (Utf.lines x)))).setCell (p := ⟨T0, 4, none⟩) hTlo (.slice none 0 0)
      have hfar := h0.out.far hg8.out hs8.out hfb
      refine bodyPost_ret (res_tb rfl hset rfl) rfl ?_
      refine ⟨hfar.2, ?_⟩
      have := hR'.out
      rw [com_ok hnm'.out hx62.out] at this
      rw [← this]
      refine ⟨.slice none 0 0, rfl, ?_, OwS.nil _ _ _⟩
      rw [show k + (4 + m + 1) = K + 1 by have := hKI.out; omega]
      exact hfar.1
    · have j0 : ((y.toNat : Int) == 62) = false := by rw [show (62 : Int) = ((62 : UInt8).toNat : Int) from rfl, byte_eq, decide_eq_false hy]
      have j1 : ((y.toNat : Int) != 62) = true := by unfold bne; rw [j0]; rfl
      have hy' := Lib.hid hy
      have hKb : 2 ≤ K := by have := hKI.out; omega
      clear hy j0
      go_wp2_with fail
      go_big_quiet (fail)
      have hb7 := Joins.below_draws w6.heap.size w6 nq
      have hs7 := Lib.hid (hs6.out.below hb7)
      have hg7 := Lib.hid (hg6.out.trans (grown_in hb7))
      clear hb7
      generalize w6.drewN nq = w7 at hs7 hg7 ⊢
      have d1 := hs7.out.c1
      go_wp2_with fail
      refine (fail_any _ 2 ((K : Int) - 2)).mono ?_
      rintro e w9 ⟨rfl, rfl⟩
      go_wp2_with fail
      refine ⟨rfl, hg7.out, ?_⟩
      have := hR'.out
      rw [com_off hnm'.out (by rw [hKI.out]; exact hx'.out) hy'.out] at this
      rw [← this]
      exact pan_eqI (by have := hKI.out; omega)
end
end Go.Proofs.YtcecmbbhjaeodaaGreatDoor.Xl
end

section
namespace Go.Proofs.YtcecmbbhjaeodaaGreatDoor.Xl
open Go.RowKit UtfW

theorem OwS.low {α : Type} {El : World → List Value → α → Prop} {k : Nat} {w : World} {B B' E : Nat} {v : Value} {l : List α} (h : OwS El k w B E v l) (hB : B' ≤ B) : OwS El k w B' E v l := by
  obtain ⟨xs, h1, h2⟩ := h
  exact ⟨xs, Joins.ownsRow_le h1 hB, h2⟩
/-- The token's cells stored into the result's. -/
def putTok (w : World) (T : Nat) (kd at_ : Int) (nm tx : ByteArray) (va : Value) : World :=
  ((((w.setCell ⟨T, 0, none⟩ (.int .i64 kd)).setCell ⟨T, 1, none⟩ (.int .i64 at_)).setCell ⟨T, 2, none⟩ (.string nm)).setCell ⟨T, 3, none⟩ (.string tx)).setCell ⟨T, 4, none⟩ va
theorem grown_put (w : World) (T : Nat) (kd at_ : Int) (nm tx : ByteArray) (va : Value) : w.grownBy (putTok w T kd at_ nm tx va) (some T) :=
  ((((grown_set w ⟨T, 0, none⟩ _).trans (grown_set _ ⟨T, 1, none⟩ _)).trans (grown_set _ ⟨T, 2, none⟩ _)).trans (grown_set _ ⟨T, 3, none⟩ _)).trans (grown_set _ ⟨T, 4, none⟩ _)
theorem below_put {w w' : World} {B T : Nat} (h : Below B w w') (hT : B ≤ T) (kd at_ : Int) (nm tx : ByteArray) (va : Value) : Below B w (putTok w' T kd at_ nm tx va) :=
  ((((h.setCell (p := ⟨T, 0, none⟩) hT _).setCell (p := ⟨T, 1, none⟩) hT _).setCell (p := ⟨T, 2, none⟩) hT _).setCell (p := ⟨T, 3, none⟩) hT _).setCell (p := ⟨T, 4, none⟩) hT _
theorem tok_put {w w5 : World} {b k0 T0 q B E : Nat} {S : Tx} {A : Option Addr} {c : Nat} {vo : Value} {kd0 at0 kd at_ : Int} {nm0 tx0 nm tx : ByteArray} {va0 va : Value} {ats : List At}
    (h0 : Xc w b S k0 A c vo) (hg : w.grownBy w5 (some b)) (hs : Xc w5 b S q A c vo) (hT : w.heap.size = T0) (hrb : Tb w5 T0 kd0 at0 nm0 tx0 va0) (hB : T0 < B) (ho : OwS AtEl 2 w5 B E va ats) :
    Tb (putTok w5 T0 kd at_ nm tx va) T0 kd at_ nm tx va ∧ w.grownBy (putTok w5 T0 kd at_ nm tx va) (some b) ∧ Xc (putTok w5 T0 kd at_ nm tx va) b S q A c vo ∧ OwS AtEl 2 (putTok w5 T0 kd at_ nm tx va) w.heap.size E va ats := by
  have hfar := h0.far hg hs (below_put (Below.refl w.heap.size w5) (Nat.le_of_eq hT) kd at_ nm tx va)
  refine ⟨tb_set hrb, hfar.2, hfar.1, ?_⟩
  refine OwS.low (OwS.kept ho (grown_put w5 T0 kd at_ nm tx va) ?_ AtEl.to) (by omega)
  cases hv : va.ownBlock with
  | none => exact .inl rfl
  | some j =>
    right
    have := (ho.lt j hv).1
    intro e
    injection e with e
    omega

section
variable {S x : Tx} {k m o : Nat} {ec : Int}
theorem mark_com (h : Lib.hasPrefix (S.drop k) [60, 33, 45, 45] = true) : mark (S.drop k) = comment (S.drop k) := by
  unfold mark cmT
  rw [if_pos h]
theorem mark_cd (h : Lib.hasPrefix (S.drop k) [60, 33, 45, 45] = false) (h2 : Lib.hasPrefix (S.drop k) [60, 33, 91, 67, 68, 65, 84, 65, 91] = true) : mark (S.drop k) = cdata (S.drop k) := by
  unfold mark
  unfold cmT cdT
  rw [if_neg (by rw [h]; decide), if_pos h2]
theorem mark_end (h : Lib.hasPrefix (S.drop k) [60, 33, 45, 45] = false) (h2 : Lib.hasPrefix (S.drop k) [60, 33, 91, 67, 68, 65, 84, 65, 91] = false) (h3 : Lib.hasPrefix [60, 33, 45, 45] (S.drop k) = true ∨ Lib.hasPrefix [60, 33, 91, 67, 68, 65, 84, 65, 91] (S.drop k) = true) :
    mark (S.drop k) = .bad 6 (S.length - k) := by
  unfold mark
  unfold cmT cdT
  rw [if_neg (by rw [h]; decide), if_neg (by rw [h2]; decide), if_pos h3, List.length_drop]
theorem mark_off (h : Lib.hasPrefix (S.drop k) [60, 33, 45, 45] = false) (h2 : Lib.hasPrefix (S.drop k) [60, 33, 91, 67, 68, 65, 84, 65, 91] = false) (h3 : Lib.hasPrefix [60, 33, 45, 45] (S.drop k) = false) (h4 : Lib.hasPrefix [60, 33, 91, 67, 68, 65, 84, 65, 91] (S.drop k) = false) :
    mark (S.drop k) = .bad 2 0 := by
  unfold mark
  unfold cmT cdT
  rw [if_neg (by rw [h]; decide), if_neg (by rw [h2]; decide), if_neg (by rw [h3, h4]; decide)]
theorem cd_upto (h : upto [93, 93, 62] (S.drop (k + 9)) = .bad ec o) : cdata (S.drop k) = .bad ec (9 + o) := by
  unfold cdata
  rw [List.drop_drop, h]
theorem cd_ok (h : upto [93, 93, 62] (S.drop (k + 9)) = .ok x m) : cdata (S.drop k) = .ok ⟨5, 0, [], Utf.lines x, []⟩ (9 + m) := by
  unfold cdata
  rw [List.drop_drop, h]
end

section
variable (w : World) (b : Nat) (S : Tx) (k : Nat) (A : Option Addr) (c : Nat) (vo : Value)
set_option maxHeartbeats 2000000 in
set_option maxRecDepth 100000 in
theorem mark_any (h : Xc w b S k A c vo) (hk : k ≤ S.length) (hS : S.length ≤ 65536) :
    Calls Tryz.prog 65 #[.pointer (some ⟨b, 0, none⟩)] w fun e w' => GivesT w b S k A c vo (mark (S.drop k)) e w' := by
  have hbw : b < w.heap.size := h.lt
  have hba0 := below_alloc w (.cells #[.int .i64 0, .int .i64 0, .string ⟨#[]⟩, .string ⟨#[]⟩, .slice none 0 0] 39)
  have hrb0 := tb_new w 0 0 ⟨#[]⟩ ⟨#[]⟩ (.slice none 0 0)
  obtain ⟨T0, hT0⟩ : ∃ T0, w.heap.size = T0 := ⟨_, rfl⟩
  obtain ⟨w0, hw0⟩ : ∃ w0, w.alloc (.cells #[.int .i64 0, .int .i64 0, .string ⟨#[]⟩, .string ⟨#[]⟩, .slice none 0 0] 39) = w0 := ⟨_, rfl⟩
  rw [hw0] at hba0 hrb0
  rw [hT0] at hrb0
  have hs0 := Lib.hid (h.below hba0)
  have hrb0' := Lib.hid hrb0
  have hba0' := Lib.hid hba0
  have hbT : b ≠ T0 := by omega
  have hT0' := Lib.hid hT0
  have h0 := Lib.hid h
  obtain ⟨R, hR⟩ : ∃ R, mark (S.drop k) = R := ⟨_, rfl⟩
  rw [hR]
  have hR' := Lib.hid hR
  clear h hba0 hrb0 hR
  go_enter Tryz.func65, Tryz.ntmps65
  go_wp2_with fail
  refine (has_any w0 b S k A c vo hs0.out hk hS [60, 33, 45, 45] (by decide)).mono ?_
  rintro e w1 ⟨rfl, hb1⟩
  have hs1 := Lib.hid (hs0.out.below hb1)
  have hrb1 := Lib.hid (hrb0'.out.below hb1)
  have hba1 := Lib.hid (hba0'.out.trans (hb1.mono hba0'.out.size))
  have hlt1 := Lib.hid (Nat.lt_of_lt_of_le hrb0'.out.lt hb1.size)
  clear hb1 hs0 hrb0' hba0'
  cases hp1 : Lib.hasPrefix (S.drop k) [60, 33, 45, 45] with
  | true =>
    have hp1' := Lib.hid hp1
    have hk4 : k + 4 ≤ S.length := by
      have := Qx.prefix_len hp1
      rw [List.length_drop] at this
      simp only [List.length_cons, List.length_nil] at this
      omega
    clear hp1
    go_wp2_with fail
    refine (comment_any w1 b S k A c vo hs1.out hk4 hS).mono ?_
    rintro e w5 ⟨hg5, hG⟩
    have hRc : Hid (comment (S.drop k) = R) := Lib.hid (by rw [← mark_com hp1'.out]; exact hR'.out)
    rw [hRc.out] at hG
    cases R with
    | bad ec o =>
      subst hG
      go_wp2_with fail
      exact ⟨rfl, (grown_in hba1.out).trans hg5, rfl⟩
    | ok t n =>
      obtain ⟨va, he, hs5, ho5⟩ := hG
      unfold tkV at he
      obtain ⟨Av, cv, rfl⟩ := ho5.form
      subst he
      have hrb5 := hrb1.out.on hg5 hbT.symm
      have hfin := Lib.hid (tok_put (kd := (t.kind : Nat)) (at_ := (k : Nat)) (nm := strOf t.name) (tx := strOf t.text) h0.out ((grown_in hba1.out).trans hg5) hs5 hT0'.out hrb5 hlt1.out ho5)
      have y0 := hrb5.cell 0
      have g0 := hrb5.frozen 0
      have y1 := hrb5.cell 1
      have g1 := hrb5.frozen 1
      have y2 := hrb5.cell 2
      have g2 := hrb5.frozen 2
      have y3 := hrb5.cell 3
      have g3 := hrb5.frozen 3
      have y4 := hrb5.cell 4
      have g4 := hrb5.frozen 4
      have hrb5' := Lib.hid hrb5
      clear hrb5 hs5 ho5 hg5
      go_wp2_with fail
      have hf1 := hfin.out
      unfold putTok at hf1
      (try simp only [Exit.inBlock, Exit.then])
      refine bodyPost_ret (res_tb rfl hf1.1 rfl) rfl ?_
      exact ⟨hf1.2.1, _, rfl, hf1.2.2.1, hf1.2.2.2⟩
  | false =>
  have hp1' := Lib.hid hp1
  clear hp1
  go_wp2_with fail
  refine (has_any w1 b S k A c vo hs1.out hk hS [60, 33, 91, 67, 68, 65, 84, 65, 91] (by decide)).mono ?_
  rintro e w1' ⟨rfl, hb1⟩
  have hs1' := Lib.hid (hs1.out.below hb1)
  have hrb1' := Lib.hid (hrb1.out.below hb1)
  have hba1' := Lib.hid (hba1.out.trans (hb1.mono hba1.out.size))
  clear hb1 hs1 hrb1 hba1 hlt1
  generalize hww : w1' = w1 at hs1' hrb1' hba1' ⊢
  clear hww
  cases hp2 : Lib.hasPrefix (S.drop k) [60, 33, 91, 67, 68, 65, 84, 65, 91] with
  | true =>
    have hp2' := Lib.hid hp2
    have hk9 : k + 9 ≤ S.length := by
      have := Qx.prefix_len hp2
      rw [List.length_drop] at this
      simp only [List.length_cons, List.length_nil] at this
      omega
    clear hp2
    have hRc : Hid (cdata (S.drop k) = R) := Lib.hid (by rw [← mark_cd hp1'.out hp2'.out]; exact hR'.out)
    have hs1 := hs1'
    have hba := hba1'.out
    have hrb := hrb1'.out
    have hba2 := below_alloc w1 (.cells #[.int .i64 5, .int .i64 (k : Nat), .string ⟨#[]⟩, .string ⟨#[]⟩, .slice none 0 0] 39)
    have htb := tb_new w1 5 (k : Nat) ⟨#[]⟩ ⟨#[]⟩ (.slice none 0 0)
    have hs2 := Lib.hid (hs1.out.below hba2)
    have hg2 := Lib.hid (grown_in (r := some b) (hba.trans (hba2.mono hba.size)))
    have hrb2 := Lib.hid (hrb.below hba2)
    have hTT : T0 ≠ w1.heap.size := by have := hrb.lt; omega
    have hTT' := Lib.hid hTT
    have h1lo := Lib.hid hba.size
    have htb' := Lib.hid htb
    have c1 := hs1.out.c1
    have c2 := hs2.out.c1
    have f2 := hs2.out.frozen 1
    have hset := hs2.out.set1 (k + 9)
    have hs3 := Lib.hid hset.1
    have hg3 := Lib.hid (hg2.out.trans hset.2)
    clear hba hba2 hrb htb hTT hset hba1' hrb1' hs1'
    go_wp2_with fail
    have e2 : ((k : Int) + 9) = ((k + 9 : Nat) : Int) := by omega
    rw [e2]
    have hT2b : Hid (w1.heap.size ≠ b) := Lib.hid (by have := h1lo.out; omega)
    have htb3 := Lib.hid (htb'.out.on (grown_set _ ⟨b, 1, none⟩ (.int .i64 ((k + 9 : Nat) : Int))) hT2b.out)
    have hrb3 := Lib.hid (hrb2.out.on (grown_set _ ⟨b, 1, none⟩ (.int .i64 ((k + 9 : Nat) : Int))) hbT.symm)
    clear hs2 hg2 hrb2 htb' c1 c2 f2 e2
    generalize (w1.alloc (.cells #[.int .i64 5, .int .i64 (k : Nat), .string ⟨#[]⟩, .string ⟨#[]⟩, .slice none 0 0] 39)).setCell ⟨b, 1, none⟩ (.int .i64 ((k + 9 : Nat) : Int)) = w3 at hs3 hg3 htb3 hrb3 ⊢
    generalize w1.heap.size = T2 at htb3 hTT' hT2b h1lo ⊢
    clear hs1
    refine (upto_any w3 b S (k + 9) A c vo hs3.out hk9 hS [93, 93, 62] (by decide) (by decide)).mono ?_
    rintro e w4 ⟨hg4, hG⟩
    cases hnm : upto [93, 93, 62] (S.drop (k + 9)) with
    | bad ec o =>
      rw [hnm] at hG
      subst hG
      go_wp2_with fail
      refine ⟨rfl, hg3.out.trans hg4, ?_⟩
      have := hRc.out
      rw [cd_upto hnm] at this
      rw [← this]
      exact pan_eqI (by omega)
    | ok x m =>
      rw [hnm] at hG
      obtain ⟨rfl, hs4⟩ := hG
      have hul := upto_len hnm
      have hm1 := hul.1
      have hm2 := hul.2.1
      rw [List.length_drop] at hm1
      simp only [List.length_cons, List.length_nil] at hm2
      clear hul
      have hs4' := Lib.hid hs4
      have hg4' := Lib.hid (hg3.out.trans hg4)
      have htb4' := Lib.hid (htb3.out.on hg4 hT2b.out)
      have hrb4' := Lib.hid (hrb3.out.on hg4 hbT.symm)
      have hnm' := Lib.hid hnm
      have hxl : (strOf x).size ≤ 1000000 := by rw [strOf_size' x]; omega
      have hls : (strOf x).data.toList = x := by simp [strOf]
      have hls' := Lib.hid hls
      clear hs4 hg4 hnm hs3 hg3 htb3 hrb3 hls
      go_wp2_with fail
      refine (utfLines_any (strOf x) hxl w4 hs4'.out.us.ut).mono ?_
      rintro e wL ⟨rfl, hbL⟩
      rw [hls'.out]
      have htbL := htb4'.out.below hbL
      have hsL := hs4'.out.below hbL
      have hgL := hg4'.out.trans (grown_in (r := some b) hbL)
      have hfb : Below w.heap.size wL (wL.setCell ⟨T2, 3, none⟩ (.string (strOf (Utf.lines x)))) := (Below.refl _ wL).setCell (p := ⟨T2, 3, none⟩) h1lo.out _
      have hfar := h0.out.far hgL hsL hfb
      have hs5 := Lib.hid hfar.1
      have hg5 := Lib.hid hfar.2
      have htb5 := Lib.hid (tb_set3 (tx' := strOf (Utf.lines x)) htbL)
      have hrb5 := (hrb4'.out.below hbL).on (grown_set wL ⟨T2, 3, none⟩ (.string (strOf (Utf.lines x)))) hTT'.out
      have z3 := htbL.cell 3
      have zf := htbL.frozen 3
      have hrb5' := Lib.hid hrb5
      clear hbL htbL hsL hgL hfb hfar hs4' hg4' htb4' hrb4' hxl hrb5
      go_upto_region 7 with fail
      generalize wL.setCell ⟨T2, 3, none⟩ (.string (strOf (Utf.lines x))) = w5 at hs5 hg5 htb5 hrb5' ⊢
      clear z3 zf
      have z0 := htb5.out.cell 0
      have z1 := htb5.out.cell 1
      have z2 := htb5.out.cell 2
      have z3 := htb5.out.cell 3
      have z4 := htb5.out.cell 4
      have hrb5 := hrb5'.out
      have y0 := hrb5.cell 0
      have g0 := hrb5.frozen 0
      have y1 := hrb5.cell 1
      have g1 := hrb5.frozen 1
      have y2 := hrb5.cell 2
      have g2 := hrb5.frozen 2
      have y3 := hrb5.cell 3
      have g3 := hrb5.frozen 3
      have y4 := hrb5.cell 4
      have g4 := hrb5.frozen 4
      clear hrb5
      go_wp2_with fail
      have hTlo : w.heap.size ≤ T0 := by have := hT0'.out; omega
      have hset := tb_set (kd' := 5) (at' := (k : Nat)) (nm' := ⟨#[]⟩) (tx' := strOf (Utf.lines x)) (va' := .slice none 0 0) hrb5'.out
      have hfb := below_put (Below.refl w.heap.size w5) hTlo 5 (k : Nat) ⟨#[]⟩ (strOf (Utf.lines x)) (.slice none 0 0)
      have hfar := h0.out.far hg5.out hs5.out hfb
      (try simp only [Exit.inBlock, Exit.then])
      refine bodyPost_ret (res_tb rfl hset rfl) rfl ?_
      refine ⟨hfar.2, ?_⟩
      have := hRc.out
      rw [cd_ok hnm'.out] at this
      rw [← this]
      refine ⟨.slice none 0 0, rfl, ?_, OwS.nil _ _ _⟩
      rw [show k + (9 + m) = k + 9 + m by omega]
      exact hfar.1
  | false =>
  have hp2' := Lib.hid hp2
  clear hp2
  have hbL := below_alloc w1 (.cells #[.string ⟨#[60, 33, 45, 45]⟩, .string ⟨#[60, 33, 91, 67, 68, 65, 84, 65, 91]⟩] 9)
  have hnL := heap_alloc_new w1 (.cells #[.string ⟨#[60, 33, 45, 45]⟩, .string ⟨#[60, 33, 91, 67, 68, 65, 84, 65, 91]⟩] 9)
  go_upto_region 9 with fail
  generalize w1.alloc (.cells #[.string ⟨#[60, 33, 45, 45]⟩, .string ⟨#[60, 33, 91, 67, 68, 65, 84, 65, 91]⟩] 9) = wL at hbL hnL ⊢
  have hLlo : Hid (w1.heap.size < wL.heap.size) := Lib.hid (Array.getElem?_eq_some_iff.1 hnL).1
  have hs2 := Lib.hid (hs1'.out.below hbL)
  have hba2 := Lib.hid (hba1'.out.trans (hbL.mono hba1'.out.size))
  have hnL' := Lib.hid hnL
  generalize w1.heap.size = L at hLlo hnL' ⊢
  clear hbL hnL hs1' hba1' hrb1'
  have hgo : Hid (∀ w9, Below w.heap.size w w9 → Xc w9 b S k A c vo → Xc w9 b S k A c vo ∧ w.grownBy w9 (some b)) := Lib.hid fun w9 h9 hx => ⟨hx, grown_in h9⟩
  go_loopw [5, 33] (fun _ v33 wr => ∃ j : Nat, j ≤ 2 ∧ v33 = .int .i64 (j : Nat) ∧ Hid (1 ≤ j → Lib.hasPrefix [60, 33, 45, 45] (S.drop k) = false) ∧ Hid (2 ≤ j → Lib.hasPrefix [60, 33, 91, 67, 68, 65, 84, 65, 91] (S.drop k) = false) ∧ Hid (Below wL.heap.size wL wr)) (fun _ v33 _ => 2 - (intOf v33).toNat)
  case atStart => exact ⟨0, by omega, rfl, Lib.hid (fun h => by omega), Lib.hid (fun h => by omega), Lib.hid (Below.refl _ _)⟩
  case round =>
    obtain ⟨j, hj, rfl, hj1, hj2, hb⟩ := hrel
    have hs3 := Lib.hid (hs2.out.below hb.out)
    have hba3 := Lib.hid (hba2.out.trans (hb.out.mono hba2.out.size))
    have hrow : wr.heap[L]? = some (.cells #[.string ⟨#[60, 33, 45, 45]⟩, .string ⟨#[60, 33, 91, 67, 68, 65, 84, 65, 91]⟩] 9) := (hb.out.block L hLlo.out).trans hnL'.out
    have hlo := Rd.le hs3.out.bs
    have hma := Rd.max hs3.out.bs
    have hq : Hid (∀ x, Below wr.heap.size wr x → (x.cell? ⟨b, 0, none⟩ = some (.slice A S.length c) ∧ x.cell? ⟨b, 1, none⟩ = some (.int .i64 (k : Nat))) ∧ Below wr.heap.size wr x) := Lib.hid fun x hx => ⟨⟨(hs3.out.below hx).c0, (hs3.out.below hx).c1⟩, hx⟩
    have hdr : Hid (Below wr.heap.size wr wr.drew) := Lib.hid (Joins.below_draws wr.heap.size wr 1)
    have hcv : Hid (∀ x, Below wr.heap.size wr x → (convert 22 9 (.slice (offA A c k) (S.length - k) (c - k))).run Tryz.prog x = .ok (.string (strOf (S.drop k))) x) := Lib.hid fun x hx => by
      have hf := Bs.from (hs3.out.below hx).bs hk (Nat.le_refl _)
      rw [List.take_of_length_le (by rw [List.length_drop]; omega)] at hf
      exact Bs.conv hf Tryz.underlying22 Tryz.underlying5 Tryz.underlying9
    unfold offA at hcv
    obtain ⟨A1, hA1⟩ : ∃ A1, (if c = k then A else Option.map (fun x => x.add k) A) = A1 := ⟨_, rfl⟩
    rw [hA1] at hcv
    by_cases hjj0 : j = 0
    · subst hjj0
      have r0 : wr.cell? ⟨L, 0, none⟩ = some (.string (strOf [60, 33, 45, 45])) := by simp [World.cell?, hrow]; rfl
      have hjb := Lib.hid trivial
      go_upto_region 11 with fail
      clear r0
      refine Pl.wp_region_plan 11 (.take 0 (.take 1 (.take 2 (.take 3 (.take 4 (.take 5 (.take 6 (.take 7 (.take 8 (.take 9 (.take 10 .done))))))))))) (fun x => (x.cell? ⟨b, 0, none⟩ = some (.slice A S.length c) ∧ x.cell? ⟨b, 1, none⟩ = some (.int .i64 (k : Nat))) ∧ Below wr.heap.size wr x) (by kernel_rfl) (by kernel_rfl) (by exact hq.out _ hdr.out) ?_
      simp only [Pl.fill, List.getElem?_cons_zero, List.getElem?_cons_succ, List.drop_succ_cons, List.drop_zero]
      iterate 10
        refine Pl.take_go ?_ (by rfl) (fun _ _ _ h => h) ?_ ?_
        rotate_left
        · (intro x hSw; (try dsimp only at hSw); (try obtain ⟨⟨s0, s1⟩, _⟩ := hSw); go_simp; try with_reducible rfl)
        try simp only [Act.put, List.setIfInBounds_toArray, List.set_cons_zero, List.set_cons_succ]
      refine Pl.take_go (.string (strOf (S.drop k))) (by rfl) (fun _ _ _ h => h) ?_ ?_
      · intro x hSw
        have hcx := hcv.out x hSw.2
        go_simp
        try with_reducible rfl
      try simp only [Act.put, List.setIfInBounds_toArray, List.set_cons_zero, List.set_cons_succ]
      refine Pl.done_go ?_
      go_wp2_with fail
      refine (hasS_any [60, 33, 45, 45] (S.drop k) wr.drew).mono ?_
      rintro e w5 ⟨rfl, hww⟩
      subst hww
      have hs5 := Lib.hid (hs3.out.below hdr.out)
      have hba5 := Lib.hid (hba3.out.trans (hdr.out.mono hba3.out.size))
      have hbb := Lib.hid (hb.out.trans (hdr.out.mono hb.out.size))
      cases hp3 : Lib.hasPrefix [60, 33, 45, 45] (S.drop k) with
      | true =>
        have hp3' := Lib.hid hp3
        clear hp3
        have c0 := hs5.out.c0
        go_wp2_with fail
        refine (fail_any _ 6 (S.length : Nat)).mono ?_
        rintro e w9 ⟨rfl, hww⟩
        subst hww
        go_wp2_with fail
        refine ⟨rfl, grown_in hba5.out, ?_⟩
        have := hR'.out
        rw [mark_end hp1'.out hp2'.out (.inl hp3'.out)] at this
        rw [← this]
        exact pan_eqI (by omega)
      | false =>
        have hp3' := Lib.hid hp3
        clear hp3
        go_wp2_with fail
        go_roundw
        case rel => exact ⟨0 + 1, by omega, by go_num, Lib.hid (fun _ => hp3'.out), Lib.hid (fun h => by omega), hbb⟩
        case measure => simp [intOf]
    by_cases hjj1 : j = 1
    · subst hjj1
      have r1 : wr.cell? ⟨L, 1, none⟩ = some (.string (strOf [60, 33, 91, 67, 68, 65, 84, 65, 91])) := by simp [World.cell?, hrow]; rfl
      have hjb := Lib.hid trivial
      go_upto_region 11 with fail
      clear r1
      refine Pl.wp_region_plan 11 (.take 0 (.take 1 (.take 2 (.take 3 (.take 4 (.take 5 (.take 6 (.take 7 (.take 8 (.take 9 (.take 10 .done))))))))))) (fun x => (x.cell? ⟨b, 0, none⟩ = some (.slice A S.length c) ∧ x.cell? ⟨b, 1, none⟩ = some (.int .i64 (k : Nat))) ∧ Below wr.heap.size wr x) (by kernel_rfl) (by kernel_rfl) (by exact hq.out _ hdr.out) ?_
      simp only [Pl.fill, List.getElem?_cons_zero, List.getElem?_cons_succ, List.drop_succ_cons, List.drop_zero]
      iterate 10
        refine Pl.take_go ?_ (by rfl) (fun _ _ _ h => h) ?_ ?_
        rotate_left
        · (intro x hSw; (try dsimp only at hSw); (try obtain ⟨⟨s0, s1⟩, _⟩ := hSw); go_simp; try with_reducible rfl)
        try simp only [Act.put, List.setIfInBounds_toArray, List.set_cons_zero, List.set_cons_succ]
      refine Pl.take_go (.string (strOf (S.drop k))) (by rfl) (fun _ _ _ h => h) ?_ ?_
      · intro x hSw
        have hcx := hcv.out x hSw.2
        go_simp
        try with_reducible rfl
      try simp only [Act.put, List.setIfInBounds_toArray, List.set_cons_zero, List.set_cons_succ]
      refine Pl.done_go ?_
      go_wp2_with fail
      refine (hasS_any [60, 33, 91, 67, 68, 65, 84, 65, 91] (S.drop k) wr.drew).mono ?_
      rintro e w5 ⟨rfl, hww⟩
      subst hww
      have hs5 := Lib.hid (hs3.out.below hdr.out)
      have hba5 := Lib.hid (hba3.out.trans (hdr.out.mono hba3.out.size))
      have hbb := Lib.hid (hb.out.trans (hdr.out.mono hb.out.size))
      cases hp3 : Lib.hasPrefix [60, 33, 91, 67, 68, 65, 84, 65, 91] (S.drop k) with
      | true =>
        have hp3' := Lib.hid hp3
        clear hp3
        have c0 := hs5.out.c0
        go_wp2_with fail
        refine (fail_any _ 6 (S.length : Nat)).mono ?_
        rintro e w9 ⟨rfl, hww⟩
        subst hww
        go_wp2_with fail
        refine ⟨rfl, grown_in hba5.out, ?_⟩
        have := hR'.out
        rw [mark_end hp1'.out hp2'.out (.inr hp3'.out)] at this
        rw [← this]
        exact pan_eqI (by omega)
      | false =>
        have hp3' := Lib.hid hp3
        clear hp3
        go_wp2_with fail
        go_roundw
        case rel => exact ⟨1 + 1, by omega, by go_num, Lib.hid (fun _ => hj1.out (by omega)), Lib.hid (fun _ => hp3'.out), hbb⟩
        case measure => simp [intOf]
    have i0 : decide ((j : Int) < 2) = false := by simp; omega
    obtain rfl : j = 2 := by omega
    have c1 := hs3.out.c1
    clear hcv hA1 A1
    go_wp2_with fail
    refine (fail_any _ 2 (k : Nat)).mono ?_
    rintro e w9 ⟨rfl, rfl⟩
    go_wp2_with fail
    refine ⟨rfl, grown_in hba3.out, ?_⟩
    have := hR'.out
    rw [mark_off hp1'.out hp2'.out (hj1.out (by omega)) (hj2.out (by omega))] at this
    rw [← this]
    exact pan_eqI (by omega)
end
end Go.Proofs.YtcecmbbhjaeodaaGreatDoor.Xl
end

section
namespace Go.Proofs.YtcecmbbhjaeodaaGreatDoor.Xl
open Go.RowKit UtfW

section
variable {S nm : Tx} {k n m o : Nat} {ec : Int} {e : Bool} {ats : List At}
theorem tag_name (h : name (S.drop (k + 1)) = .bad ec o) : tag (S.drop k) = .bad ec (1 + o) := by
  unfold tag
  rw [List.drop_drop, h]
theorem tag_bad (h : name (S.drop (k + 1)) = .ok nm n) (ht : (tagF (S.length - k + 1) (S.drop (k + 1 + n)) []).shift (1 + n) = .bad ec o) : tag (S.drop k) = .bad ec o := by
  obtain ⟨p, hp, rfl⟩ := shift_bad ht
  unfold tag
  rw [List.drop_drop, h]
  simp only [List.drop_drop, ← Nat.add_assoc, List.length_drop, hp]
theorem tag_ok (h : name (S.drop (k + 1)) = .ok nm n) (ht : (tagF (S.length - k + 1) (S.drop (k + 1 + n)) []).shift (1 + n) = .ok (e, ats) m) : tag (S.drop k) = .ok ⟨if e then 2 else 1, 0, nm, [], ats⟩ m := by
  obtain ⟨p, hp, rfl⟩ := shift_ok ht
  unfold tag
  rw [List.drop_drop, h]
  simp only [List.drop_drop, ← Nat.add_assoc, List.length_drop, hp]
end
section
variable {S : Tx} {q f B n o : Nat} {ats : List At} {a : At} {ec : Int} {x : UInt8}
theorem tf_end (hB : blanks (S.drop q) = B) (h : S.length ≤ q + B) : tagF (f + 1) (S.drop q) ats = .bad 6 B := by
  rw [tagF_nil f ats (by rw [hB, List.drop_drop, drop_end h]), hB]
theorem tf_shut (hB : blanks (S.drop q) = B) (hx : S[q + B]? = some 62) : tagF (f + 1) (S.drop q) ats = .ok (false, ats) (B + 1) := by
  rw [tagF_cons f ats (by rw [hB, List.drop_drop]; exact drop_at hx), if_pos rfl, hB]
theorem tf_slash_bad (hB : blanks (S.drop q) = B) (hx : S[q + B]? = some 47) (he : eat [47, 62] (S.drop (q + B)) = .bad ec o) : tagF (f + 1) (S.drop q) ats = .bad ec (B + o) := by
  rw [tagF_cons f ats (by rw [hB, List.drop_drop]; exact drop_at hx), if_neg (by decide), if_pos rfl, ← drop_at hx, he, hB]
theorem tf_slash (hB : blanks (S.drop q) = B) (hx : S[q + B]? = some 47) (he : eat [47, 62] (S.drop (q + B)) = .ok () n) : tagF (f + 1) (S.drop q) ats = .ok (true, ats) (B + n) := by
  rw [tagF_cons f ats (by rw [hB, List.drop_drop]; exact drop_at hx), if_neg (by decide), if_pos rfl, ← drop_at hx, he, hB]
theorem tf_none (hB : blanks (S.drop q) = 0) (hx : S[q]? = some x) (h1 : x ≠ 62) (h2 : x ≠ 47) : tagF (f + 1) (S.drop q) ats = .bad 2 0 := by
  rw [tagF_cons f ats (by rw [hB, List.drop_drop]; exact drop_at hx), if_neg h1, if_neg h2, if_pos hB]
theorem tf_attr (hB : blanks (S.drop q) = B) (h0 : 0 < B) (hx : S[q + B]? = some x) (h1 : x ≠ 62) (h2 : x ≠ 47) : tagF (f + 1) (S.drop q) ats = match attr ats (S.drop (q + B)) with
      | .bad e o => .bad e (B + o)
      | .ok a n => (tagF f (S.drop (q + B + n)) (ats ++ [a])).shift (B + n) := by
  rw [tagF_cons f ats (by rw [hB, List.drop_drop]; exact drop_at hx), if_neg h1, if_neg h2, if_neg (by omega), ← drop_at hx, hB]
  cases attr ats (S.drop (q + B)) with
  | bad e o => rfl
  | ok a n => simp only [List.drop_drop]
end
theorem owS_kept {w w' : World} {B E b : Nat} {v : Value} {l : List At} (h : OwS AtEl 2 w B E v l) (hg : w.grownBy w' (some b)) (hb : b < B) : OwS AtEl 2 w' B E v l :=
  OwS.kept h hg (by
    cases hv : v.ownBlock with
    | none => exact .inl rfl
    | some j =>
      right
      have := (OwS.lt h j hv).1
      intro e
      injection e with e
      omega) AtEl.to
theorem info_attr : (Tryz.prog.info? 43).map (fun i => (i.zero, i.size, i.bytes)) = some (some (.agg #[.string ⟨#[]⟩, .string ⟨#[]⟩]), 2, 32) := by kernel_rfl
theorem at_cells (x : At) : ([.string (strOf x.1), .string (strOf x.2)] : List Value).length = 2 := rfl

section
variable (w : World) (b : Nat) (S : Tx) (k : Nat) (A : Option Addr) (c : Nat) (vo : Value)
set_option maxHeartbeats 2000000 in
set_option maxRecDepth 100000 in
theorem tag_any (h : Xc w b S k A c vo) (hk : k + 1 ≤ S.length) (hS : S.length ≤ 65536) :
    Calls Tryz.prog 68 #[.pointer (some ⟨b, 0, none⟩)] w fun e w' => GivesT w b S k A c vo (tag (S.drop k)) e w' := by
  have hbw : b < w.heap.size := h.lt
  have hba := below_alloc w (.cells #[.int .i64 0, .int .i64 0, .string ⟨#[]⟩, .string ⟨#[]⟩, .slice none 0 0] 39)
  have hrb := tb_new w 0 0 ⟨#[]⟩ ⟨#[]⟩ (.slice none 0 0)
  obtain ⟨T0, hT0⟩ : ∃ T0, w.heap.size = T0 := ⟨_, rfl⟩
  obtain ⟨w1, hw1⟩ : ∃ w1, w.alloc (.cells #[.int .i64 0, .int .i64 0, .string ⟨#[]⟩, .string ⟨#[]⟩, .slice none 0 0] 39) = w1 := ⟨_, rfl⟩
  rw [hw1] at hba hrb
  rw [hT0] at hrb
  have hs1 := Lib.hid (h.below hba)
  have hba2 := below_alloc w1 (.cells #[.int .i64 1, .int .i64 (k : Nat), .string ⟨#[]⟩, .string ⟨#[]⟩, .slice none 0 0] 39)
  have htb := tb_new w1 1 (k : Nat) ⟨#[]⟩ ⟨#[]⟩ (.slice none 0 0)
  have hs2 := Lib.hid (hs1.out.below hba2)
  have hg2 := Lib.hid (grown_in (r := some b) (hba.trans (hba2.mono hba.size)))
  have hrb2 := Lib.hid (hrb.below hba2)
  have hTT : T0 ≠ w1.heap.size := by have := hrb.lt; omega
  have hTT' := Lib.hid hTT
  have h1lo := Lib.hid hba.size
  have htb' := Lib.hid htb
  have h0 := Lib.hid h
  have hbT : b ≠ T0 := by omega
  have hT0' := Lib.hid hT0
  have c1 := hs1.out.c1
  have c2 := hs2.out.c1
  have f2 := hs2.out.frozen 1
  have hset := hs2.out.set1 (k + 1)
  have hs3 := Lib.hid hset.1
  have hg3 := Lib.hid (hg2.out.trans hset.2)
  obtain ⟨R, hR⟩ : ∃ R, tag (S.drop k) = R := ⟨_, rfl⟩
  rw [hR]
  have hR' := Lib.hid hR
  clear h hba hba2 hrb htb hTT hset hR
  go_enter Tryz.func68, Tryz.ntmps68
  go_wp2_with fail
  have e2 : ((k : Int) + 1) = ((k + 1 : Nat) : Int) := by omega
  rw [e2]
  have hT2b : Hid (w1.heap.size ≠ b) := Lib.hid (by have := h1lo.out; omega)
  have htb3 := Lib.hid (htb'.out.on (grown_set _ ⟨b, 1, none⟩ (.int .i64 ((k + 1 : Nat) : Int))) hT2b.out)
  have hrb3 := Lib.hid (hrb2.out.on (grown_set _ ⟨b, 1, none⟩ (.int .i64 ((k + 1 : Nat) : Int))) hbT.symm)
  clear hs2 hg2 hrb2 htb' c1 c2 f2 e2
  generalize (w1.alloc (.cells #[.int .i64 1, .int .i64 (k : Nat), .string ⟨#[]⟩, .string ⟨#[]⟩, .slice none 0 0] 39)).setCell ⟨b, 1, none⟩ (.int .i64 ((k + 1 : Nat) : Int)) = w3 at hs3 hg3 htb3 hrb3 ⊢
  generalize w1.heap.size = T2 at htb3 hTT' hT2b h1lo ⊢
  clear hs1
  refine (name_any w3 b S (k + 1) A c vo hs3.out hk hS).mono ?_
  rintro e w4 ⟨hg4, hG⟩
  cases hnm : name (S.drop (k + 1)) with
  | bad ec o =>
    rw [hnm] at hG
    subst hG
    go_wp2_with fail
    refine ⟨rfl, hg3.out.trans hg4, ?_⟩
    have := hR'.out
    rw [tag_name hnm] at this
    rw [← this]
    exact pan_eqI (by omega)
  | ok nm n =>
    rw [hnm] at hG
    obtain ⟨rfl, hs4⟩ := hG
    have hnl := name_len hnm
    have hn1 := hnl.1
    have hn2 := hnl.2.1
    rw [List.length_drop] at hn2
    clear hnl
    have htb4 := htb3.out.on hg4 hT2b.out
    have hrb4 := hrb3.out.on hg4 hbT.symm
    have hfb : Below w.heap.size w4 (w4.setCell ⟨T2, 2, none⟩ (.string (strOf nm))) := (Below.refl _ w4).setCell (p := ⟨T2, 2, none⟩) h1lo.out _
    have hfar := h0.out.far (hg3.out.trans hg4) hs4 hfb
    have hs5 := Lib.hid hfar.1
    have hg5 := Lib.hid hfar.2
    have htb5 := Lib.hid (tb_set2 (nm' := strOf nm) htb4)
    have hrb5 := Lib.hid (hrb4.on (grown_set w4 ⟨T2, 2, none⟩ (.string (strOf nm))) hTT'.out)
    have z2 := htb4.cell 2
    have zf := htb4.frozen 2
    have hnm' := Lib.hid hnm
    obtain ⟨TR, hTR⟩ : ∃ TR, (tagF (S.length - k + 1) (S.drop (k + 1 + n)) []).shift (1 + n) = TR := ⟨_, rfl⟩
    have hTR' := Lib.hid hTR
    have hbadR : Hid (∀ ec o, TR = .bad ec o → R = .bad ec o) := Lib.hid fun ec o h => by rw [← hR'.out, tag_bad hnm'.out (hTR'.out.trans h)]
    have hokR : Hid (∀ e ats m, TR = .ok (e, ats) m → R = .ok ⟨if e then 2 else 1, 0, nm, [], ats⟩ m) := Lib.hid fun e ats m h => by rw [← hR'.out, tag_ok hnm'.out (hTR'.out.trans h)]
    clear hs4 hg4 htb4 hrb4 hfb hfar hnm hs3 hg3 htb3 hrb3 hTR hR'
    have hTlo : Hid (w.heap.size ≤ T0) := Lib.hid (by have := hT0'.out; omega)
    go_upto_region 4 with fail
    generalize w4.setCell ⟨T2, 2, none⟩ (.string (strOf nm)) = w5 at hs5 hg5 htb5 hrb5 ⊢
    clear z2 zf
    have hB0T2 := htb5.out.lt
    have hB0T0 := hrb5.out.lt
    have hB0b := hs5.out.lt
    obtain ⟨B0, hB0⟩ : ∃ B0, w5.heap.size = B0 := ⟨_, rfl⟩
    rw [hB0] at hB0T2 hB0T0 hB0b
    have hB0T2' := Lib.hid hB0T2
    have hB0T0' := Lib.hid hB0T0
    have hB0b' := Lib.hid hB0b
    have hB0' := Lib.hid hB0
    have hB0w : Hid (w.heap.size ≤ B0) := Lib.hid (by have := hg5.out.size; omega)
    clear hB0T2 hB0T0 hB0b hB0
    go_loopg [4] (S.length + 1) (fun m v4 wr => ∃ (q f : Nat) (ats : List At) (va : Value), k + 1 ≤ q ∧ q ≤ S.length ∧ S.length - q < m ∧ ats.length ≤ q ∧ Hid (S.length - q < f) ∧ Hid ((tagF f (S.drop q) ats).shift (q - k) = TR) ∧ Hid (B0 ≤ wr.heap.size) ∧ Hid (Xc wr b S q A c vo) ∧ Hid (w.grownBy wr (some b)) ∧ Hid (Tb wr T2 1 (k : Nat) (strOf nm) ⟨#[]⟩ va) ∧ Hid (Tb wr T0 0 0 ⟨#[]⟩ ⟨#[]⟩ (.slice none 0 0)) ∧ Hid (OwS AtEl 2 wr B0 43 va ats))
    case atStart =>
      exact ⟨k + 1 + n, S.length - k + 1, [], .slice none 0 0, by omega, by omega, by omega, by simp, Lib.hid (by omega), Lib.hid (by rw [show k + 1 + n - k = 1 + n by omega]; exact hTR'.out), Lib.hid (by rw [hB0'.out]; omega), hs5, hg5, htb5, hrb5, Lib.hid (OwS.nil _ _ _)⟩
    case round =>
      clear hs5 hg5 htb5 hrb5 hTR'
      obtain ⟨q, f, ats, va, hkq, hql, hms, hal, hf, hr, hsz, hs, hg, htb, hrb, ho⟩ := hrel
      obtain ⟨f', rfl⟩ : ∃ f', f = f' + 1 := ⟨f - 1, by have := hf.out; omega⟩
      go_wp2_with fail
      refine (blanks_any wr b S q A c vo hs.out hql hS).mono ?_
      rintro e w6 ⟨rfl, hs6, hg6⟩
      obtain ⟨A5, c5, rfl⟩ := ho.out.form
      have hB1 := blanks_le (S.drop q)
      rw [List.length_drop] at hB1
      obtain ⟨B, hBe⟩ : ∃ B, blanks (S.drop q) = B := ⟨_, rfl⟩
      rw [hBe] at hs6 hB1 ⊢
      have hB' := Lib.hid hBe
      have hs6' := Lib.hid hs6
      have hsz6 := Lib.hid (Nat.le_trans hsz.out hg6.size)
      have hg6' := Lib.hid (hg.out.trans hg6)
      have htb6 := Lib.hid (htb.out.on hg6 hT2b.out)
      have hrb6 := Lib.hid (hrb.out.on hg6 hbT.symm)
      have ho6 := Lib.hid (owS_kept ho.out hg6 hB0b'.out)
      obtain ⟨some_, hsome⟩ : ∃ s, decide (0 < B) = s := ⟨_, rfl⟩
      rw [hsome]
      have hsome' := Lib.hid hsome
      clear hs6 hg6 hBe hs hg htb hrb ho hsz hsome
      go_wp2_with fail
      by_cases hge : S.length ≤ q + B
      · refine (need_bad w6 b S (q + B) A c vo hs6'.out hge).mono ?_
        rintro e w7 ⟨rfl, hb7⟩
        go_wp2_with fail
        refine ⟨rfl, hg6'.out.trans (grown_in hb7), ?_⟩
        have := hr.out
        rw [tf_end hB'.out hge] at this
        rw [hbadR.out _ _ this.symm]
        exact pan_eqI (by omega)
      have hlt : q + B < S.length := by omega
      refine (need_ok w6 b S (q + B) A c vo hs6'.out hlt).mono ?_
      rintro e w7 ⟨rfl, hb7⟩
      have hs7 := Lib.hid (hs6'.out.below hb7)
      have hg7 := Lib.hid (hg6'.out.trans (grown_in hb7))
      have htb7 := Lib.hid (htb6.out.below hb7)
      have hrb7 := Lib.hid (hrb6.out.below hb7)
      have ho7 := Lib.hid (OwS.below ho6.out hb7 AtEl.to)
      have hsz7 := Lib.hid (Nat.le_trans hsz6.out hb7.size)
      clear hb7 hs6' hg6' htb6 hrb6 ho6 hsz6 hge
      have c0 := hs7.out.c0
      have c1 := hs7.out.c1
      obtain ⟨ba, off, rfl, hx, hcell⟩ := hs7.out.at_ hlt
      generalize S[q + B] = x at hx hcell
      have hx' := Lib.hid hx
      clear hx
      go_wp2_with fail
      go_big_quiet (fail)
      have hdr := Joins.below_draws w7.heap.size w7 nq
      have hs8 := Lib.hid (hs7.out.below hdr)
      have hg8 := Lib.hid (hg7.out.trans (grown_in hdr))
      have htb8 := Lib.hid (htb7.out.below hdr)
      have hrb8 := Lib.hid (hrb7.out.below hdr)
      have ho8 := Lib.hid (OwS.below ho7.out hdr AtEl.to)
      have hsz8 := Lib.hid (Nat.le_trans hsz7.out hdr.size)
      generalize w7.drewN nq = w8 at hs8 hg8 htb8 hrb8 ho8 hsz8 ⊢
      clear hdr hs7 hg7 htb7 hrb7 ho7 hsz7 c0 c1 hcell
      by_cases j6 : x = 62
      · have j62 : ((x.toNat : Int) == 62) = true := by rw [j6]; rfl
        have hx62 : Hid (S[q + B]? = some 62) := Lib.hid (by rw [← j6]; exact hx'.out)
        clear j6
        have c1 := hs8.out.c1
        have f1 := hs8.out.frozen 1
        have hset := hs8.out.set1 (q + B + 1)
        have htb9 := Lib.hid (htb8.out.on (grown_set w8 ⟨b, 1, none⟩ (.int .i64 ((q + B + 1 : Nat) : Int))) hT2b.out)
        have hrb9 := Lib.hid (hrb8.out.on (grown_set w8 ⟨b, 1, none⟩ (.int .i64 ((q + B + 1 : Nat) : Int))) hbT.symm)
        have hs9 := Lib.hid hset.1
        have hg9 := Lib.hid (hg8.out.trans hset.2)
        have ho9 := Lib.hid (owS_kept ho8.out (grown_set w8 ⟨b, 1, none⟩ (.int .i64 ((q + B + 1 : Nat) : Int))) hB0b'.out)
        clear hset hs8 hg8 htb8 hrb8 ho8
        go_upto_region 9 with fail
        have e3 : ((q : Int) + (B : Int) + 1) = ((q + B + 1 : Nat) : Int) := by omega
        try rw [e3]
        clear e3
        generalize w8.setCell ⟨b, 1, none⟩ (.int .i64 ((q + B + 1 : Nat) : Int)) = w9 at hs9 hg9 htb9 hrb9 ho9 ⊢
        clear c1 f1
        have z0 := htb9.out.cell 0
        have z1 := htb9.out.cell 1
        have z2 := htb9.out.cell 2
        have z3 := htb9.out.cell 3
        have z4 := htb9.out.cell 4
        have y0 := hrb9.out.cell 0
        have g0 := hrb9.out.frozen 0
        have y1 := hrb9.out.cell 1
        have g1 := hrb9.out.frozen 1
        have y2 := hrb9.out.cell 2
        have g2 := hrb9.out.frozen 2
        have y3 := hrb9.out.cell 3
        have g3 := hrb9.out.frozen 3
        have y4 := hrb9.out.cell 4
        have g4 := hrb9.out.frozen 4
        go_wp2_with fail
        have hfin := tok_put (kd := 1) (at_ := (k : Nat)) (nm := strOf nm) (tx := ⟨#[]⟩) h0.out hg9.out hs9.out hT0'.out hrb9.out hB0T0'.out ho9.out
        unfold putTok at hfin
        (try simp only [Exit.inBlock, Exit.then])
        refine bodyPost_ret (res_tb rfl hfin.1 rfl) rfl ?_
        refine ⟨hfin.2.1, ?_⟩
        have := hr.out
        rw [tf_shut hB'.out hx62.out] at this
        rw [hokR.out _ _ _ this.symm]
        refine ⟨_, rfl, ?_, hfin.2.2.2⟩
        rw [show k + (q - k + (B + 1)) = q + B + 1 by omega]
        exact hfin.2.2.1
      have j62 : ((x.toNat : Int) == 62) = false := by rw [show (62 : Int) = ((62 : UInt8).toNat : Int) from rfl, byte_eq, decide_eq_false j6]
      have j6' := Lib.hid j6
      clear j6
      by_cases j4 : x = 47
      · have j47 : ((x.toNat : Int) == 47) = true := by rw [j4]; rfl
        have hx47 : Hid (S[q + B]? = some 47) := Lib.hid (by rw [← j4]; exact hx'.out)
        clear j4
        go_wp2_with fail
        refine (eat_any w8 b S (q + B) _ c vo hs8.out (by omega) hS [47, 62] (by decide)).mono ?_
        rintro e w9 ⟨hg9, hG⟩
        cases hea : eat [47, 62] (S.drop (q + B)) with
        | bad ec eo =>
          rw [hea] at hG
          subst hG
          go_wp2_with fail
          refine ⟨rfl, hg8.out.trans hg9, ?_⟩
          have := hr.out
          rw [tf_slash_bad hB'.out hx47.out hea] at this
          rw [hbadR.out _ _ this.symm]
          exact pan_eqI (by omega)
        | ok u m =>
          rw [hea] at hG
          obtain ⟨rfl, hs9⟩ := hG
          have htb9 := htb8.out.on hg9 hT2b.out
          have hrb9 := hrb8.out.on hg9 hbT.symm
          have ho9 := owS_kept ho8.out hg9 hB0b'.out
          have hfb : Below w.heap.size w9 (w9.setCell ⟨T2, 0, none⟩ (.int .i64 2)) := (Below.refl _ w9).setCell (p := ⟨T2, 0, none⟩) h1lo.out _
          have hfar := h0.out.far (hg8.out.trans hg9) hs9 hfb
          have hsA := Lib.hid hfar.1
          have hgA := Lib.hid hfar.2
          have htbA := Lib.hid (tb_set0 (kd' := 2) htb9)
          have hrbA := Lib.hid (hrb9.on (grown_set w9 ⟨T2, 0, none⟩ (.int .i64 2)) hTT'.out)
          have hoA := Lib.hid (owS_kept ho9 (grown_set w9 ⟨T2, 0, none⟩ (.int .i64 2)) hB0T2'.out)
          have z0 := htb9.cell 0
          have zf := htb9.frozen 0
          have hea' := Lib.hid hea
          clear hs9 hg9 htb9 hrb9 ho9 hfb hfar hea hs8 hg8 htb8 hrb8 ho8
          go_upto_region 13 with fail
          generalize w9.setCell ⟨T2, 0, none⟩ (.int .i64 2) = wA at hsA hgA htbA hrbA hoA ⊢
          clear z0 zf
          have z0 := htbA.out.cell 0
          have z1 := htbA.out.cell 1
          have z2 := htbA.out.cell 2
          have z3 := htbA.out.cell 3
          have z4 := htbA.out.cell 4
          have y0 := hrbA.out.cell 0
          have g0 := hrbA.out.frozen 0
          have y1 := hrbA.out.cell 1
          have g1 := hrbA.out.frozen 1
          have y2 := hrbA.out.cell 2
          have g2 := hrbA.out.frozen 2
          have y3 := hrbA.out.cell 3
          have g3 := hrbA.out.frozen 3
          have y4 := hrbA.out.cell 4
          have g4 := hrbA.out.frozen 4
          go_wp2_with fail
          have hfin := tok_put (kd := 2) (at_ := (k : Nat)) (nm := strOf nm) (tx := ⟨#[]⟩) h0.out hgA.out hsA.out hT0'.out hrbA.out hB0T0'.out hoA.out
          unfold putTok at hfin
          (try simp only [Exit.inBlock, Exit.then])
          refine bodyPost_ret (res_tb rfl hfin.1 rfl) rfl ?_
          refine ⟨hfin.2.1, ?_⟩
          have := hr.out
          rw [tf_slash hB'.out hx47.out hea'.out] at this
          rw [hokR.out _ _ _ this.symm]
          refine ⟨_, rfl, ?_, hfin.2.2.2⟩
          rw [show k + (q - k + (B + m)) = q + B + m by omega]
          exact hfin.2.2.1
      have j47 : ((x.toNat : Int) == 47) = false := by
        have hj : ¬ x = 47 := j4
        rw [show (47 : Int) = ((47 : UInt8).toNat : Int) from rfl, byte_eq, decide_eq_false hj]
      have j4' := Lib.hid j4
      clear j4
      by_cases hB00 : B = 0
      · have hs0 : some_ = false := by rw [← hsome'.out, hB00]; rfl
        have hB0e := Lib.hid hB00
        subst hs0
        have c1 := hs8.out.c1
        clear hB00
        go_wp2_with fail
        refine (fail_any _ 2 ((q + B : Nat) : Int)).mono ?_
        rintro e w9 ⟨rfl, rfl⟩
        go_wp2_with fail
        refine ⟨rfl, hg8.out, ?_⟩
        have := hr.out
        rw [tf_none (by rw [hB'.out]; exact hB0e.out) (by have h := hx'.out; rw [hB0e.out, Nat.add_zero] at h; exact h) j6'.out j4'.out] at this
        rw [hbadR.out _ _ this.symm]
        exact pan_eqI (by have := hB0e.out; omega)
      have hs0 : some_ = true := by rw [← hsome'.out]; simp; omega
      subst hs0
      have hBpos : 0 < B := by omega
      clear hB00
      have hne : ∀ a, A5 = some a → 0 < ats.length → a.block ≠ b := fun a e _ => by
        have := (ho8.out.lt a.block (by rw [e]; rfl)).1
        have := hB0b'.out
        omega
      have hq : Hid (∀ x, Below w8.heap.size w8 x → x.cell? ⟨T2, 4, none⟩ = some (.slice A5 ats.length c5)) := Lib.hid fun x hx => (htb8.out.below hx).cell 4
      have hdr : Hid (Below w8.heap.size w8 w8.drew) := Lib.hid (Joins.below_draws w8.heap.size w8 1)
      have hatc := attribute_any w8.drew b S (q + B) _ c vo (hs8.out.below hdr.out) (by omega) hS A5 ats.length c5 ats (OwS.sq' (OwS.below ho8.out hdr.out AtEl.to) (by decide)) hne (by omega)
      clear hne
      have hfa : Hid ((tagF (f' + 1) (S.drop q) ats) = match attr ats (S.drop (q + B)) with
          | .bad e o => .bad e (B + o)
          | .ok a n => (tagF f' (S.drop (q + B + n)) (ats ++ [a])).shift (B + n)) := Lib.hid (tf_attr hB'.out hBpos hx'.out j6'.out j4'.out)
      cases hav : attr ats (S.drop (q + B)) with
      | bad ec eo =>
        rw [hav] at hatc hfa
        have hatc' := Lib.hid hatc
        clear hatc hav
        go_upto_region 16 with fail
        refine Pl.wp_region_plan 7 (.take 0 (.take 1 (.take 2 (.take 3 (.take 4 (.run 5 (.run 6 .done))))))) (fun x => x.cell? ⟨T2, 4, none⟩ = some (.slice A5 ats.length c5)) (by kernel_rfl) (by kernel_rfl) (by exact hq.out _ hdr.out) ?_
        simp only [Pl.fill, List.getElem?_cons_zero, List.getElem?_cons_succ, List.drop_succ_cons, List.drop_zero]
        iterate 5
          refine Pl.take_go ?_ (by rfl) (fun _ _ _ h => h) ?_ ?_
          rotate_left
          · (intro x hSw; (try dsimp only at hSw); go_simp; try with_reducible rfl)
          try simp only [Act.put, List.setIfInBounds_toArray, List.set_cons_zero, List.set_cons_succ]
        refine Pl.run_go (fun K hK => ?_)
        go_simp
        refine hatc'.out.mono ?_
        rintro e w9 ⟨hg9, hG⟩
        dsimp only at hG
        subst hG
        clear hK
        have hgf := hg8.out.trans ((grown_in (r := some b) hdr.out).trans hg9)
        have hfin := hr.out
        rw [hfa.out] at hfin
        have hfin2 := hbadR.out _ _ hfin.symm
        try simp only [Exit.inBlock, Exit.then]
        refine ⟨rfl, hgf, ?_⟩
        rw [hfin2]
        exact pan_eqI (by omega)
      | ok a n1 =>
        rw [hav] at hatc hfa
        have hav' := attr_len hav
        rw [List.length_drop] at hav'
        have hatc' := Lib.hid hatc
        clear hatc hav
        go_upto_region 16 with fail
        refine Pl.wp_region_plan 7 (.take 0 (.take 1 (.take 2 (.take 3 (.take 4 (.run 5 (.run 6 .done))))))) (fun x => x.cell? ⟨T2, 4, none⟩ = some (.slice A5 ats.length c5)) (by kernel_rfl) (by kernel_rfl) (by exact hq.out _ hdr.out) ?_
        simp only [Pl.fill, List.getElem?_cons_zero, List.getElem?_cons_succ, List.drop_succ_cons, List.drop_zero]
        iterate 5
          refine Pl.take_go ?_ (by rfl) (fun _ _ _ h => h) ?_ ?_
          rotate_left
          · (intro x hSw; (try dsimp only at hSw); go_simp; try with_reducible rfl)
          try simp only [Act.put, List.setIfInBounds_toArray, List.set_cons_zero, List.set_cons_succ]
        refine Pl.run_go (fun K hK => ?_)
        go_simp
        refine hatc'.out.mono ?_
        rintro e w9 ⟨hg9, hG⟩
        dsimp only at hG
        obtain ⟨rfl, hs9⟩ := hG
        unfold atV
        have hg9' := (grown_in (r := some b) hdr.out).trans hg9
        have htb9 := htb8.out.on hg9' hT2b.out
        have hrb9 := hrb8.out.on hg9' hbT.symm
        have ho9 := owS_kept ho8.out hg9' hB0b'.out
        have hsz9 := Nat.le_trans hsz8.out hg9'.size
        have q9 := htb9.cell 4
        dsimp only
        refine hK.out _ _ (Pl.more_go _ (fun _ h => h) (by exact q9) ?_)
        clear hK K q9
        try simp only [Act.put, List.setIfInBounds_toArray, List.set_cons_zero, List.set_cons_succ]
        refine Pl.run_go (fun K hK => ?_)
        have hbA := below_alloc w9 (.cells #[.string (strOf a.1), .string (strOf a.2)] 43)
        have hlit : Sq AtEl 2 (w9.alloc (.cells #[.string (strOf a.1), .string (strOf a.2)] 43)) (some ⟨w9.heap.size, 0, none⟩) 1 1 [a] := sq_one w9 [.string (strOf a.1), .string (strOf a.2)] a 43 (0, 0) rfl rfl
        go_simp
        obtain ⟨pA, hpA⟩ : ∃ pA, w9.heap.size = pA := ⟨_, rfl⟩
        obtain ⟨wA, hwA⟩ : ∃ wA, w9.alloc (.cells #[.string (strOf a.1), .string (strOf a.2)] 43) = wA := ⟨_, rfl⟩
        rw [hwA] at hbA hlit ⊢
        rw [hpA] at hlit ⊢
        have qA := (htb9.below hbA).cell 4
        refine hK.out _ _ (Pl.more_go _ (fun _ h => h) (by exact qA) ?_)
        clear hK K qA
        try simp only [Act.put, List.setIfInBounds_toArray, List.set_cons_zero, List.set_cons_succ]
        refine Pl.done_go ?_
        have hoA := OwS.below ho9 hbA AtEl.to
        have hszA := Nat.le_trans hsz9 hbA.size
        refine append_sq wA 37 43 _ 32 Tryz.underlying37 info_attr (by rfl) (by decide) rfl _ _ rfl B0 _ ats rfl hoA _ 1 1 [a] rfl hlit (fun vs x h u hu => by unfold AtEl at h; subst h; simp at hu; rcases hu with rfl | rfl <;> rfl) (fun _ _ vs x h => h) (ats.length + 1) rfl (by omega) (by omega) hszA ?_
        intro A6 c6 wB hoB hgB hbB _
        have hbAB : Below w.heap.size w9 wB := (hbA.mono (by have := hg8.out.trans hg9'; exact this.size)).trans (hbB.mono hB0w.out)
        have htbB : Tb wB T2 1 (k : Nat) (strOf nm) ⟨#[]⟩ (.slice A5 ats.length c5) := (hbB.block T2 hB0T2'.out).trans (htb9.below hbA)
        have hrbB : Tb wB T0 0 0 ⟨#[]⟩ ⟨#[]⟩ (.slice none 0 0) := (hbB.block T0 hB0T0'.out).trans (hrb9.below hbA)
        have hfb := hbAB.setCell (p := ⟨T2, 4, none⟩) h1lo.out (.slice A6 (ats.length + 1) c6)
        have hfar := h0.out.far (hg8.out.trans hg9') hs9 hfb
        have hsC := Lib.hid hfar.1
        have hgC := Lib.hid hfar.2
        have htbC := Lib.hid (tb_set4 (va' := .slice A6 (ats.length + 1) c6) htbB)
        have hrbC := Lib.hid (hrbB.on (grown_set wB ⟨T2, 4, none⟩ (.slice A6 (ats.length + 1) c6)) hTT'.out)
        have hoC := Lib.hid (owS_kept hoB (grown_set wB ⟨T2, 4, none⟩ (.slice A6 (ats.length + 1) c6)) hB0T2'.out)
        have hszC : Hid (B0 ≤ (wB.setCell ⟨T2, 4, none⟩ (.slice A6 (ats.length + 1) c6)).heap.size) := Lib.hid (Nat.le_trans hszA (Nat.le_trans hgB.size (grown_set wB ⟨T2, 4, none⟩ (.slice A6 (ats.length + 1) c6)).size))
        have z4 := htbB.cell 4
        have zf := htbB.frozen 4
        clear hbA hlit hoA hszA hoB hgB hbB hbAB htbB hrbB hfb hfar htb9 hrb9 ho9 hsz9 hs9 hg9 hg9' hs8 hg8 htb8 hrb8 ho8 hsz8 hatc' hq hdr hwA hpA
        go_wp2_with fail
        go_roundg (S.length - (q + B + n1) + 1)
        case measure => omega
        case rel =>
          refine ⟨q + B + n1, f', ats ++ [a], .slice A6 (ats.length + 1) c6, by omega, by omega, by omega, by rw [List.length_append]; simp; omega, Lib.hid (by have := hf.out; omega), Lib.hid ?_, hszC, hsC, hgC, htbC, hrbC, hoC⟩
          have := hr.out
          rw [hfa.out, Out.shift_shift] at this
          rw [show q + B + n1 - k = q - k + (B + n1) by omega]
          exact this
end
end Go.Proofs.YtcecmbbhjaeodaaGreatDoor.Xl
end
