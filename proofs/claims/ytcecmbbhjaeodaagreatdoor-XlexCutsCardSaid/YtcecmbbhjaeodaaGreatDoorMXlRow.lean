/- Rows of tokens. -/
import Derived.Test.YtcecmbbhjaeodaaGreatDoorMXlTag
import Derived.Test.YtcecmbbhjaeodaaGreatDoorMXlFold
import Derived.Test.YtcecmbbhjaeodaaGreatDoorMXlChars
import Derived.Tactics2
import Derived.Defers
import Derived.Recover
import Derived.Laws.Pointers
section
namespace Go.Proofs.YtcecmbbhjaeodaaGreatDoor.Xl
open Go.RowKit UtfW

section
variable {S nm x : Tx} {k n m o B : Nat} {ec : Int}
theorem in_name (h : name (S.drop (k + 2)) = .bad ec o) : instr (S.drop k) = .bad ec (2 + o) := by
  unfold instr
  rw [List.drop_drop, h]
theorem in_xml (h : name (S.drop (k + 2)) = .ok nm n) (hx : foldB nm [120, 109, 108] = true) : instr (S.drop k) = .bad 2 2 := by
  unfold instr
  rw [List.drop_drop, h]
  simp only
  rw [if_pos (of_decide_eq_true hx)]
theorem in_none_bad (h : name (S.drop (k + 2)) = .ok nm n) (hx : foldB nm [120, 109, 108] = false) (hB : blanks (S.drop (k + 2 + n)) = 0) (he : eat [63, 62] (S.drop (k + 2 + n)) = .bad ec o) : instr (S.drop k) = .bad ec (2 + n + o) := by
  unfold instr
  rw [List.drop_drop, h]
  simp only
  rw [if_neg (of_decide_eq_false hx)]
  simp only [List.drop_drop, ← Nat.add_assoc]
  rw [if_pos hB, he]
theorem in_none (h : name (S.drop (k + 2)) = .ok nm n) (hx : foldB nm [120, 109, 108] = false) (hB : blanks (S.drop (k + 2 + n)) = 0) (he : eat [63, 62] (S.drop (k + 2 + n)) = .ok () m) : instr (S.drop k) = .ok ⟨7, 0, nm, [], []⟩ (2 + n + m) := by
  unfold instr
  rw [List.drop_drop, h]
  simp only
  rw [if_neg (of_decide_eq_false hx)]
  simp only [List.drop_drop, ← Nat.add_assoc]
  rw [if_pos hB, he]
theorem in_upto (h : name (S.drop (k + 2)) = .ok nm n) (hx : foldB nm [120, 109, 108] = false) (hB : blanks (S.drop (k + 2 + n)) = B) (h0 : 0 < B) (he : upto [63, 62] (S.drop (k + 2 + n + B)) = .bad ec o) : instr (S.drop k) = .bad ec (2 + n + B + o) := by
  unfold instr
  rw [List.drop_drop, h]
  simp only
  rw [if_neg (of_decide_eq_false hx)]
  simp only [List.drop_drop, ← Nat.add_assoc, hB]
  rw [if_neg (by omega), he]
theorem in_ok (h : name (S.drop (k + 2)) = .ok nm n) (hx : foldB nm [120, 109, 108] = false) (hB : blanks (S.drop (k + 2 + n)) = B) (h0 : 0 < B) (he : upto [63, 62] (S.drop (k + 2 + n + B)) = .ok x m) : instr (S.drop k) = .ok ⟨7, 0, nm, Utf.lines x, []⟩ (2 + n + B + m) := by
  unfold instr
  rw [List.drop_drop, h]
  simp only
  rw [if_neg (of_decide_eq_false hx)]
  simp only [List.drop_drop, ← Nat.add_assoc, hB]
  rw [if_neg (by omega), he]
theorem fold_len {s : Tx} (h : foldB s [120, 109, 108] = true) : s.length = 3 := by
  have := congrArg List.length (of_decide_eq_true h)
  rw [List.length_map] at this
  exact this
end

section
variable (w : World) (b : Nat) (S : Tx) (k : Nat) (A : Option Addr) (c : Nat) (vo : Value)
set_option maxHeartbeats 2000000 in
set_option maxRecDepth 100000 in
theorem instr_any (h : Xc w b S k A c vo) (hk : k + 2 ≤ S.length) (hS : S.length ≤ 65536) :
    Calls Tryz.prog 66 #[.pointer (some ⟨b, 0, none⟩)] w fun e w' => GivesT w b S k A c vo (instr (S.drop k)) e w' := by
  have hbw : b < w.heap.size := h.lt
  have hba := below_alloc w (.cells #[.int .i64 0, .int .i64 0, .string ⟨#[]⟩, .string ⟨#[]⟩, .slice none 0 0] 39)
  have hrb := tb_new w 0 0 ⟨#[]⟩ ⟨#[]⟩ (.slice none 0 0)
  obtain ⟨T0, hT0⟩ : ∃ T0, w.heap.size = T0 := ⟨_, rfl⟩
  obtain ⟨w1, hw1⟩ : ∃ w1, w.alloc (.cells #[.int .i64 0, .int .i64 0, .string ⟨#[]⟩, .string ⟨#[]⟩, .slice none 0 0] 39) = w1 := ⟨_, rfl⟩
  rw [hw1] at hba hrb
  rw [hT0] at hrb
  have hs1 := Lib.hid (h.below hba)
  have hba2 := below_alloc w1 (.cells #[.int .i64 7, .int .i64 (k : Nat), .string ⟨#[]⟩, .string ⟨#[]⟩, .slice none 0 0] 39)
  have htb := tb_new w1 7 (k : Nat) ⟨#[]⟩ ⟨#[]⟩ (.slice none 0 0)
  have hs2 := Lib.hid (hs1.out.below hba2)
  have hg2 := Lib.hid (grown_in (r := some b) (hba.trans (hba2.mono hba.size)))
  have hrb2 := Lib.hid (hrb.below hba2)
  have hTT : T0 ≠ w1.heap.size := by have := hrb.lt; omega
  have hTT' := Lib.hid hTT
  have h1lo := Lib.hid hba.size
  have htb' := Lib.hid htb
  have h0 := Lib.hid h
  have hbT : b ≠ T0 := by omega
  have hT0' := Lib.hid hT0
  have c1 := hs1.out.c1
  have c2 := hs2.out.c1
  have f2 := hs2.out.frozen 1
  have hset := hs2.out.set1 (k + 2)
  have hs3 := Lib.hid hset.1
  have hg3 := Lib.hid (hg2.out.trans hset.2)
  obtain ⟨R, hR⟩ : ∃ R, instr (S.drop k) = R := ⟨_, rfl⟩
  rw [hR]
  have hR' := Lib.hid hR
  clear h hba hba2 hrb htb hTT hset hR
  go_enter Tryz.func66, Tryz.ntmps66
  go_upto_region 3 with fail
  have e2 : ((k : Int) + 2) = ((k + 2 : Nat) : Int) := by omega
  rw [e2]
  have hT2b : Hid (w1.heap.size ≠ b) := Lib.hid (by have := h1lo.out; omega)
  have htb3 := Lib.hid (htb'.out.on (grown_set _ ⟨b, 1, none⟩ (.int .i64 ((k + 2 : Nat) : Int))) hT2b.out)
  have hrb3 := Lib.hid (hrb2.out.on (grown_set _ ⟨b, 1, none⟩ (.int .i64 ((k + 2 : Nat) : Int))) hbT.symm)
  clear hs2 hg2 hrb2 htb' c1 c2 f2 e2
  generalize (w1.alloc (.cells #[.int .i64 7, .int .i64 (k : Nat), .string ⟨#[]⟩, .string ⟨#[]⟩, .slice none 0 0] 39)).setCell ⟨b, 1, none⟩ (.int .i64 ((k + 2 : Nat) : Int)) = w3 at hs3 hg3 htb3 hrb3 ⊢
  generalize w1.heap.size = T2 at htb3 hTT' hT2b h1lo ⊢
  clear hs1
  have c1 := hs3.out.c1
  go_wp2_with fail
  refine (name_any w3 b S (k + 2) A c vo hs3.out hk hS).mono ?_
  rintro e w4 ⟨hg4, hG⟩
  clear c1
  cases hnm : name (S.drop (k + 2)) with
  | bad ec o =>
    rw [hnm] at hG
    subst hG
    go_wp2_with fail
    refine ⟨rfl, hg3.out.trans hg4, ?_⟩
    have := hR'.out
    rw [in_name hnm] at this
    rw [← this]
    exact pan_eqI (by omega)
  | ok nm n =>
    rw [hnm] at hG
    obtain ⟨rfl, hs4⟩ := hG
    have hnl := name_len hnm
    have hn1 := hnl.1
    have hn2 := hnl.2.1
    have hnmx := hnl.2.2.1
    rw [List.length_drop] at hn2
    have hnml : nm.length ≤ 65536 := by rw [hnmx, List.length_take]; omega
    clear hnl hnmx
    have htb4 := htb3.out.on hg4 hT2b.out
    have hrb4 := hrb3.out.on hg4 hbT.symm
    have hfb : Below w.heap.size w4 (w4.setCell ⟨T2, 2, none⟩ (.string (strOf nm))) := (Below.refl _ w4).setCell (p := ⟨T2, 2, none⟩) h1lo.out _
    have hfar := h0.out.far (hg3.out.trans hg4) hs4 hfb
    have hs5 := Lib.hid hfar.1
    have hg5 := Lib.hid hfar.2
    have htb5 := Lib.hid (tb_set2 (nm' := strOf nm) htb4)
    have hrb5 := Lib.hid (hrb4.on (grown_set w4 ⟨T2, 2, none⟩ (.string (strOf nm))) hTT'.out)
    have z2 := htb4.cell 2
    have zf := htb4.frozen 2
    have hnm' := Lib.hid hnm
    clear hs4 hg4 htb4 hrb4 hfb hfar hnm hs3 hg3 htb3 hrb3
    go_upto_region 5 with fail
    generalize w4.setCell ⟨T2, 2, none⟩ (.string (strOf nm)) = w5 at hs5 hg5 htb5 hrb5 ⊢
    clear z2 zf
    have hnsz : (strOf nm).size = nm.length := strOf_size' nm
    have z2 := htb5.out.cell 2
    go_wp2_with fail
    refine (fold_any w5 hs5.out.us.un nm hnml).mono ?_
    rintro e wF ⟨rfl, hbF⟩
    have hsF := Lib.hid (hs5.out.below hbF)
    have hgF := Lib.hid (hg5.out.trans (grown_in (r := some b) hbF))
    have htbF := Lib.hid (htb5.out.below hbF)
    have hrbF := Lib.hid (hrb5.out.below hbF)
    clear hs5 hg5 htb5 hrb5 hbF z2
    have z2 := htbF.out.cell 2
    cases hfo : foldB nm [120, 109, 108] with
    | true =>
      have hl3 : ((nm.length : Int) == 3) = true := by rw [fold_len hfo]; rfl
      have hfo' := Lib.hid hfo
      clear hfo
      go_wp2_with fail
      refine (fail_any _ 2 ((k + 2 : Nat) : Int)).mono ?_
      rintro e w9 ⟨rfl, rfl⟩
      go_wp2_with fail
      refine ⟨rfl, hgF.out, ?_⟩
      have := hR'.out
      rw [in_xml hnm'.out hfo'.out] at this
      rw [← this]
      exact pan_eqI (by omega)
    | false =>
    have hfo' := Lib.hid hfo
    clear hfo
    go_wp2_with fail
    refine (blanks_any wF b S (k + 2 + n) A c vo hsF.out (by omega) hS).mono ?_
    rintro e w6 ⟨rfl, hs6, hg6⟩
    have hB1 := blanks_le (S.drop (k + 2 + n))
    rw [List.length_drop] at hB1
    obtain ⟨B, hBe⟩ : ∃ B, blanks (S.drop (k + 2 + n)) = B := ⟨_, rfl⟩
    rw [hBe] at hs6 hB1 ⊢
    have hB' := Lib.hid hBe
    have hs6' := Lib.hid hs6
    have hg6' := Lib.hid (hgF.out.trans hg6)
    have htb6 := Lib.hid (htbF.out.on hg6 hT2b.out)
    have hrb6 := Lib.hid (hrbF.out.on hg6 hbT.symm)
    clear hs6 hg6 hBe hsF hgF htbF hrbF z2
    by_cases hB0 : B = 0
    · subst hB0
      rw [Nat.add_zero] at hs6'
      rw [show decide (0 < 0) = false from rfl]
      go_wp2_with fail
      refine (eat_any w6 b S (k + 2 + n) A c vo hs6'.out (by omega) hS [63, 62] (by decide)).mono ?_
      rintro e w7 ⟨hg7, hG⟩
      cases hea : eat [63, 62] (S.drop (k + 2 + n)) with
      | bad ec eo =>
        rw [hea] at hG
        subst hG
        go_wp2_with fail
        refine ⟨rfl, hg6'.out.trans hg7, ?_⟩
        have := hR'.out
        rw [in_none_bad hnm'.out hfo'.out hB'.out hea] at this
        rw [← this]
        exact pan_eqI (by omega)
      | ok u m =>
        rw [hea] at hG
        obtain ⟨rfl, hs7⟩ := hG
        have hs7' := Lib.hid hs7
        have hg7' := Lib.hid (hg6'.out.trans hg7)
        have htb7 := Lib.hid (htb6.out.on hg7 hT2b.out)
        have hrb7 := Lib.hid (hrb6.out.on hg7 hbT.symm)
        have hea' := Lib.hid hea
        clear hs7 hg7 hea hs6' hg6' htb6 hrb6
        have z0 := htb7.out.cell 0
        have z1 := htb7.out.cell 1
        have z2 := htb7.out.cell 2
        have z3 := htb7.out.cell 3
        have z4 := htb7.out.cell 4
        have y0 := hrb7.out.cell 0
        have g0 := hrb7.out.frozen 0
        have y1 := hrb7.out.cell 1
        have g1 := hrb7.out.frozen 1
        have y2 := hrb7.out.cell 2
        have g2 := hrb7.out.frozen 2
        have y3 := hrb7.out.cell 3
        have g3 := hrb7.out.frozen 3
        have y4 := hrb7.out.cell 4
        have g4 := hrb7.out.frozen 4
        go_wp2_with fail
        have hTlo : w.heap.size ≤ T0 := by have := hT0'.out; omega
        have hset := tb_set (kd' := 7) (at' := (k : Nat)) (nm' := strOf nm) (tx' := ⟨#[]⟩) (va' := .slice none 0 0) hrb7.out
        have hfb := below_put (Below.refl w.heap.size w7) hTlo 7 (k : Nat) (strOf nm) ⟨#[]⟩ (.slice none 0 0)
        have hfar := h0.out.far hg7'.out hs7'.out hfb
        (try simp only [Exit.inBlock, Exit.then])
        refine bodyPost_ret (res_tb rfl hset rfl) rfl ?_
        refine ⟨hfar.2, ?_⟩
        have := hR'.out
        rw [in_none hnm'.out hfo'.out hB'.out hea'.out] at this
        rw [← this]
        refine ⟨.slice none 0 0, rfl, ?_, OwS.nil _ _ _⟩
        rw [show k + (2 + n + m) = k + 2 + n + m by omega]
        exact hfar.1
    have hdec : decide (0 < B) = true := by simp; omega
    rw [hdec]
    clear hdec
    go_wp2_with fail
    refine (upto_any w6 b S (k + 2 + n + B) A c vo hs6'.out (by omega) hS [63, 62] (by decide) (by decide)).mono ?_
    rintro e w7 ⟨hg7, hG⟩
    cases hup : upto [63, 62] (S.drop (k + 2 + n + B)) with
    | bad ec eo =>
      rw [hup] at hG
      subst hG
      go_wp2_with fail
      refine ⟨rfl, hg6'.out.trans hg7, ?_⟩
      have := hR'.out
      rw [in_upto hnm'.out hfo'.out hB'.out (by omega) hup] at this
      rw [← this]
      exact pan_eqI (by omega)
    | ok x m =>
      rw [hup] at hG
      obtain ⟨rfl, hs7⟩ := hG
      have hul := upto_len hup
      have hm1 := hul.1
      have hm2 := hul.2.1
      rw [List.length_drop] at hm1
      simp only [List.length_cons, List.length_nil] at hm2
      clear hul
      have hs4' := Lib.hid hs7
      have hg4' := Lib.hid (hg6'.out.trans hg7)
      have htb4' := Lib.hid (htb6.out.on hg7 hT2b.out)
      have hrb4' := Lib.hid (hrb6.out.on hg7 hbT.symm)
      have hup' := Lib.hid hup
      have hxl : (strOf x).size ≤ 1000000 := by rw [strOf_size' x]; omega
      have hls : (strOf x).data.toList = x := by simp [strOf]
      have hls' := Lib.hid hls
      clear hs7 hg7 hup hs6' hg6' htb6 hrb6 hls
      go_wp2_with fail
      refine (utfLines_any (strOf x) hxl w7 hs4'.out.us.ut).mono ?_
      rintro e wL ⟨rfl, hbL⟩
      rw [hls'.out]
      have htbL := htb4'.out.below hbL
      have hsL := hs4'.out.below hbL
      have hgL := hg4'.out.trans (grown_in (r := some b) hbL)
      have hfb : Below w.heap.size wL (wL.setCell ⟨T2, 3, none⟩ (.string (strOf (Utf.lines x)))) := (Below.refl _ wL).setCell (p := ⟨T2, 3, none⟩) h1lo.out _
      have hfar := h0.out.far hgL hsL hfb
      have hs5 := Lib.hid hfar.1
      have hg5 := Lib.hid hfar.2
      have htb5 := Lib.hid (tb_set3 (tx' := strOf (Utf.lines x)) htbL)
      have hrb5 := Lib.hid ((hrb4'.out.below hbL).on (grown_set wL ⟨T2, 3, none⟩ (.string (strOf (Utf.lines x)))) hTT'.out)
      have z3 := htbL.cell 3
      have zf := htbL.frozen 3
      clear hbL htbL hsL hgL hfb hfar hs4' hg4' htb4' hrb4' hxl
      go_upto_region 11 with fail
      generalize wL.setCell ⟨T2, 3, none⟩ (.string (strOf (Utf.lines x))) = w8 at hs5 hg5 htb5 hrb5 ⊢
      clear z3 zf
      have z0 := htb5.out.cell 0
      have z1 := htb5.out.cell 1
      have z2 := htb5.out.cell 2
      have z3 := htb5.out.cell 3
      have z4 := htb5.out.cell 4
      have y0 := hrb5.out.cell 0
      have g0 := hrb5.out.frozen 0
      have y1 := hrb5.out.cell 1
      have g1 := hrb5.out.frozen 1
      have y2 := hrb5.out.cell 2
      have g2 := hrb5.out.frozen 2
      have y3 := hrb5.out.cell 3
      have g3 := hrb5.out.frozen 3
      have y4 := hrb5.out.cell 4
      have g4 := hrb5.out.frozen 4
      go_wp2_with fail
      have hTlo : w.heap.size ≤ T0 := by have := hT0'.out; omega
      have hset := tb_set (kd' := 7) (at' := (k : Nat)) (nm' := strOf nm) (tx' := strOf (Utf.lines x)) (va' := .slice none 0 0) hrb5.out
      have hfb := below_put (Below.refl w.heap.size w8) hTlo 7 (k : Nat) (strOf nm) (strOf (Utf.lines x)) (.slice none 0 0)
      have hfar := h0.out.far hg5.out hs5.out hfb
      (try simp only [Exit.inBlock, Exit.then])
      refine bodyPost_ret (res_tb rfl hset rfl) rfl ?_
      refine ⟨hfar.2, ?_⟩
      have := hR'.out
      rw [in_ok hnm'.out hfo'.out hB'.out (by omega) hup'.out] at this
      rw [← this]
      refine ⟨.slice none 0 0, rfl, ?_, OwS.nil _ _ _⟩
      rw [show k + (2 + n + B + m) = k + 2 + n + B + m by omega]
      exact hfar.1
end
end Go.Proofs.YtcecmbbhjaeodaaGreatDoor.Xl
end

section
namespace Go.Proofs.YtcecmbbhjaeodaaGreatDoor.Xl
open Go.RowKit UtfW

section
variable {r : Tx}
theorem tok_chars (h : r.head? ≠ some 60) : token r = chars r := by
  unfold token
  rw [if_pos h]
theorem tok_mark (h : r.head? = some 60) (h1 : Lib.hasPrefix r [60, 33] = true) : token r = mark r := by
  unfold token
  rw [if_neg (fun e => e h), if_pos h1]
theorem tok_instr (h : r.head? = some 60) (h1 : Lib.hasPrefix r [60, 33] = false) (h2 : Lib.hasPrefix r [60, 63] = true) : token r = instr r := by
  unfold token
  rw [if_neg (fun e => e h), if_neg (by rw [h1]; decide), if_pos h2]
theorem tok_end (h : r.head? = some 60) (h1 : Lib.hasPrefix r [60, 33] = false) (h2 : Lib.hasPrefix r [60, 63] = false) (h3 : Lib.hasPrefix r [60, 47] = true) : token r = endT r := by
  unfold token
  rw [if_neg (fun e => e h), if_neg (by rw [h1]; decide), if_neg (by rw [h2]; decide), if_pos h3]
theorem tok_tag (h : r.head? = some 60) (h1 : Lib.hasPrefix r [60, 33] = false) (h2 : Lib.hasPrefix r [60, 63] = false) (h3 : Lib.hasPrefix r [60, 47] = false) : token r = tag r := by
  unfold token
  rw [if_neg (fun e => e h), if_neg (by rw [h1]; decide), if_neg (by rw [h2]; decide), if_neg (by rw [h3]; decide)]
end

section
variable (w : World) (b : Nat) (S : Tx) (k : Nat) (A : Option Addr) (c : Nat) (vo : Value)
set_option maxHeartbeats 2000000 in
set_option maxRecDepth 100000 in
theorem token_any (h : Xc w b S k A c vo) (hk : k < S.length) (hS : S.length ≤ 65536) :
    Calls Tryz.prog 40 #[.pointer (some ⟨b, 0, none⟩)] w fun e w' => GivesT w b S k A c vo (token (S.drop k)) e w' := by
  have hbw : b < w.heap.size := h.lt
  have hba0 := below_alloc w (.cells #[.int .i64 0, .int .i64 0, .string ⟨#[]⟩, .string ⟨#[]⟩, .slice none 0 0] 39)
  have hrb0 := tb_new w 0 0 ⟨#[]⟩ ⟨#[]⟩ (.slice none 0 0)
  obtain ⟨T0, hT0⟩ : ∃ T0, w.heap.size = T0 := ⟨_, rfl⟩
  obtain ⟨w0, hw0⟩ : ∃ w0, w.alloc (.cells #[.int .i64 0, .int .i64 0, .string ⟨#[]⟩, .string ⟨#[]⟩, .slice none 0 0] 39) = w0 := ⟨_, rfl⟩
  rw [hw0] at hba0 hrb0
  rw [hT0] at hrb0
  have hs0 := Lib.hid (h.below hba0)
  have hrb0' := Lib.hid hrb0
  have hba0' := Lib.hid hba0
  have hbT : b ≠ T0 := by omega
  have hT0' := Lib.hid hT0
  have h0 := Lib.hid h
  have hlt0 := Lib.hid hrb0.lt
  obtain ⟨R, hR⟩ : ∃ R, token (S.drop k) = R := ⟨_, rfl⟩
  rw [hR]
  have hR' := Lib.hid hR
  have c0 := hs0.out.c0
  have c1 := hs0.out.c1
  obtain ⟨ba, off, hAe, hx, hcell⟩ := hs0.out.at_ hk
  have hAe' := Lib.hid hAe
  generalize S[k] = x at hx hcell
  have hx' := Lib.hid hx
  subst hAe
  clear h hba0 hrb0 hR hx
  have hhd : Hid ((S.drop k).head? = some x) := Lib.hid (by rw [drop_at hx'.out]; rfl)
  go_enter Tryz.func40, Tryz.ntmps40
  go_wp2_with fail

  go_big_quiet (fail)
  have hdr := Joins.below_draws w0.heap.size w0 nq
  have hsq := Lib.hid (hs0.out.below hdr)
  have hrbq := Lib.hid (hrb0'.out.below hdr)
  have hbaq := Lib.hid (hba0'.out.trans (hdr.mono hba0'.out.size))
  have hltq := Lib.hid (Nat.lt_of_lt_of_le hlt0.out hdr.size)
  generalize w0.drewN nq = wq at hsq hrbq hbaq hltq ⊢
  clear hdr c0 c1 hcell hs0 hrb0' hba0' hlt0 hAe'
  by_cases j6 : x = 60
  · have j60 : ((x.toNat : Int) != 60) = false := by rw [j6]; rfl
    have hhd60 : Hid ((S.drop k).head? = some 60) := Lib.hid (by rw [← j6]; exact hhd.out)
    clear j6
    go_wp2_with fail
    refine (has_any wq b S k _ c vo hsq.out (by omega) hS [60, 33] (by decide)).mono ?_
    rintro e wn ⟨rfl, hb1⟩
    have hsn := Lib.hid (hsq.out.below hb1)
    have hrbn := Lib.hid (hrbq.out.below hb1)
    have hban := Lib.hid (hbaq.out.trans (hb1.mono hbaq.out.size))
    have hltn := Lib.hid (Nat.lt_of_lt_of_le hltq.out hb1.size)
    clear hb1 hsq hrbq hbaq hltq
    generalize hww : wn = wq at hsn hrbn hban hltn ⊢
    clear hww
    have hsq := hsn
    have hrbq := hrbn
    have hbaq := hban
    have hltq := hltn
    clear hsn hrbn hban hltn
    cases hp1 : Lib.hasPrefix (S.drop k) [60, 33] with
    | true =>
      have hp1' := Lib.hid hp1
      clear hp1
      have hRc : Hid (mark (S.drop k) = R) := Lib.hid (by rw [← tok_mark hhd60.out hp1'.out]; exact hR'.out)
      go_wp2_with fail
      refine (mark_any wq b S k _ c vo hsq.out (by omega) hS).mono ?_
      rintro e w5 ⟨hg5, hG⟩
      rw [hRc.out] at hG
      cases R with
      | bad ec o =>
        subst hG
        go_wp2_with fail
        exact ⟨rfl, (grown_in hbaq.out).trans hg5, rfl⟩
      | ok t n =>
        obtain ⟨va, he, hs5, ho5⟩ := hG
        unfold tkV at he
        obtain ⟨Av, cv, rfl⟩ := ho5.form
        subst he
        have hrb5 := hrbq.out.on hg5 hbT.symm
        have hfin := Lib.hid (tok_put (kd := (t.kind : Nat)) (at_ := (k : Nat)) (nm := strOf t.name) (tx := strOf t.text) h0.out ((grown_in hbaq.out).trans hg5) hs5 hT0'.out hrb5 hltq.out ho5)
        have y0 := hrb5.cell 0
        have g0 := hrb5.frozen 0
        have y1 := hrb5.cell 1
        have g1 := hrb5.frozen 1
        have y2 := hrb5.cell 2
        have g2 := hrb5.frozen 2
        have y3 := hrb5.cell 3
        have g3 := hrb5.frozen 3
        have y4 := hrb5.cell 4
        have g4 := hrb5.frozen 4
        have hrb5' := Lib.hid hrb5
        clear hrb5 hs5 ho5 hg5
        go_wp2_with fail
        have hf1 := hfin.out
        unfold putTok at hf1
        (try simp only [Exit.inBlock, Exit.then])
        refine bodyPost_ret (res_tb rfl hf1.1 rfl) rfl ?_
        exact ⟨hf1.2.1, _, rfl, hf1.2.2.1, hf1.2.2.2⟩
    | false =>
    have hp1' := Lib.hid hp1
    clear hp1
    go_wp2_with fail
    refine (has_any wq b S k _ c vo hsq.out (by omega) hS [60, 63] (by decide)).mono ?_
    rintro e wn ⟨rfl, hb1⟩
    have hsn := Lib.hid (hsq.out.below hb1)
    have hrbn := Lib.hid (hrbq.out.below hb1)
    have hban := Lib.hid (hbaq.out.trans (hb1.mono hbaq.out.size))
    have hltn := Lib.hid (Nat.lt_of_lt_of_le hltq.out hb1.size)
    clear hb1 hsq hrbq hbaq hltq
    generalize hww : wn = wq at hsn hrbn hban hltn ⊢
    clear hww
    have hsq := hsn
    have hrbq := hrbn
    have hbaq := hban
    have hltq := hltn
    clear hsn hrbn hban hltn
    cases hp2 : Lib.hasPrefix (S.drop k) [60, 63] with
    | true =>
      have hp2' := Lib.hid hp2
      have hk2 : k + 2 ≤ S.length := by
        have := Qx.prefix_len hp2
        rw [List.length_drop] at this
        simp only [List.length_cons, List.length_nil] at this
        omega
      clear hp2
      have hRc : Hid (instr (S.drop k) = R) := Lib.hid (by rw [← tok_instr hhd60.out hp1'.out hp2'.out]; exact hR'.out)
      go_wp2_with fail
      refine (instr_any wq b S k _ c vo hsq.out hk2 hS).mono ?_
      rintro e w5 ⟨hg5, hG⟩
      rw [hRc.out] at hG
      cases R with
      | bad ec o =>
        subst hG
        go_wp2_with fail
        exact ⟨rfl, (grown_in hbaq.out).trans hg5, rfl⟩
      | ok t n =>
        obtain ⟨va, he, hs5, ho5⟩ := hG
        unfold tkV at he
        obtain ⟨Av, cv, rfl⟩ := ho5.form
        subst he
        have hrb5 := hrbq.out.on hg5 hbT.symm
        have hfin := Lib.hid (tok_put (kd := (t.kind : Nat)) (at_ := (k : Nat)) (nm := strOf t.name) (tx := strOf t.text) h0.out ((grown_in hbaq.out).trans hg5) hs5 hT0'.out hrb5 hltq.out ho5)
        have y0 := hrb5.cell 0
        have g0 := hrb5.frozen 0
        have y1 := hrb5.cell 1
        have g1 := hrb5.frozen 1
        have y2 := hrb5.cell 2
        have g2 := hrb5.frozen 2
        have y3 := hrb5.cell 3
        have g3 := hrb5.frozen 3
        have y4 := hrb5.cell 4
        have g4 := hrb5.frozen 4
        have hrb5' := Lib.hid hrb5
        clear hrb5 hs5 ho5 hg5
        go_wp2_with fail
        have hf1 := hfin.out
        unfold putTok at hf1
        (try simp only [Exit.inBlock, Exit.then])
        refine bodyPost_ret (res_tb rfl hf1.1 rfl) rfl ?_
        exact ⟨hf1.2.1, _, rfl, hf1.2.2.1, hf1.2.2.2⟩
    | false =>
    have hp2' := Lib.hid hp2
    clear hp2
    go_wp2_with fail
    refine (has_any wq b S k _ c vo hsq.out (by omega) hS [60, 47] (by decide)).mono ?_
    rintro e wn ⟨rfl, hb1⟩
    have hsn := Lib.hid (hsq.out.below hb1)
    have hrbn := Lib.hid (hrbq.out.below hb1)
    have hban := Lib.hid (hbaq.out.trans (hb1.mono hbaq.out.size))
    have hltn := Lib.hid (Nat.lt_of_lt_of_le hltq.out hb1.size)
    clear hb1 hsq hrbq hbaq hltq
    generalize hww : wn = wq at hsn hrbn hban hltn ⊢
    clear hww
    have hsq := hsn
    have hrbq := hrbn
    have hbaq := hban
    have hltq := hltn
    clear hsn hrbn hban hltn
    cases hp3 : Lib.hasPrefix (S.drop k) [60, 47] with
    | true =>
      have hp3' := Lib.hid hp3
      have hk2 : k + 2 ≤ S.length := by
        have := Qx.prefix_len hp3
        rw [List.length_drop] at this
        simp only [List.length_cons, List.length_nil] at this
        omega
      clear hp3
      have hRc : Hid (endT (S.drop k) = R) := Lib.hid (by rw [← tok_end hhd60.out hp1'.out hp2'.out hp3'.out]; exact hR'.out)
      go_wp2_with fail
      refine (end_any wq b S k _ c vo hsq.out hk2 hS).mono ?_
      rintro e w5 ⟨hg5, hG⟩
      rw [hRc.out] at hG
      cases R with
      | bad ec o =>
        subst hG
        go_wp2_with fail
        exact ⟨rfl, (grown_in hbaq.out).trans hg5, rfl⟩
      | ok t n =>
        obtain ⟨va, he, hs5, ho5⟩ := hG
        unfold tkV at he
        obtain ⟨Av, cv, rfl⟩ := ho5.form
        subst he
        have hrb5 := hrbq.out.on hg5 hbT.symm
        have hfin := Lib.hid (tok_put (kd := (t.kind : Nat)) (at_ := (k : Nat)) (nm := strOf t.name) (tx := strOf t.text) h0.out ((grown_in hbaq.out).trans hg5) hs5 hT0'.out hrb5 hltq.out ho5)
        have y0 := hrb5.cell 0
        have g0 := hrb5.frozen 0
        have y1 := hrb5.cell 1
        have g1 := hrb5.frozen 1
        have y2 := hrb5.cell 2
        have g2 := hrb5.frozen 2
        have y3 := hrb5.cell 3
        have g3 := hrb5.frozen 3
        have y4 := hrb5.cell 4
        have g4 := hrb5.frozen 4
        have hrb5' := Lib.hid hrb5
        clear hrb5 hs5 ho5 hg5
        go_wp2_with fail
        have hf1 := hfin.out
        unfold putTok at hf1
        (try simp only [Exit.inBlock, Exit.then])
        refine bodyPost_ret (res_tb rfl hf1.1 rfl) rfl ?_
        exact ⟨hf1.2.1, _, rfl, hf1.2.2.1, hf1.2.2.2⟩
    | false =>
    have hp3' := Lib.hid hp3
    clear hp3
    have hRc : Hid (tag (S.drop k) = R) := Lib.hid (by rw [← tok_tag hhd60.out hp1'.out hp2'.out hp3'.out]; exact hR'.out)
    go_wp2_with fail
    refine (tag_any wq b S k _ c vo hsq.out (by omega) hS).mono ?_
    rintro e w5 ⟨hg5, hG⟩
    rw [hRc.out] at hG
    cases R with
    | bad ec o =>
      subst hG
      go_wp2_with fail
      exact ⟨rfl, (grown_in hbaq.out).trans hg5, rfl⟩
    | ok t n =>
      obtain ⟨va, he, hs5, ho5⟩ := hG
      unfold tkV at he
      obtain ⟨Av, cv, rfl⟩ := ho5.form
      subst he
      have hrb5 := hrbq.out.on hg5 hbT.symm
      have hfin := Lib.hid (tok_put (kd := (t.kind : Nat)) (at_ := (k : Nat)) (nm := strOf t.name) (tx := strOf t.text) h0.out ((grown_in hbaq.out).trans hg5) hs5 hT0'.out hrb5 hltq.out ho5)
      have y0 := hrb5.cell 0
      have g0 := hrb5.frozen 0
      have y1 := hrb5.cell 1
      have g1 := hrb5.frozen 1
      have y2 := hrb5.cell 2
      have g2 := hrb5.frozen 2
      have y3 := hrb5.cell 3
      have g3 := hrb5.frozen 3
      have y4 := hrb5.cell 4
      have g4 := hrb5.frozen 4
      have hrb5' := Lib.hid hrb5
      clear hrb5 hs5 ho5 hg5
      go_wp2_with fail
      have hf1 := hfin.out
      unfold putTok at hf1
      (try simp only [Exit.inBlock, Exit.then])
      refine bodyPost_ret (res_tb rfl hf1.1 rfl) rfl ?_
      exact ⟨hf1.2.1, _, rfl, hf1.2.2.1, hf1.2.2.2⟩
  · have j60 : ((x.toNat : Int) != 60) = true := by
      unfold bne
      rw [show (60 : Int) = ((60 : UInt8).toNat : Int) from rfl, byte_eq, decide_eq_false j6]
      rfl
    have hhd60 : Hid ((S.drop k).head? ≠ some 60) := Lib.hid (by
      rw [hhd.out]
      intro e
      injection e with e
      exact j6 e)
    clear j6
    have hRc : Hid (chars (S.drop k) = R) := Lib.hid (by rw [← tok_chars hhd60.out]; exact hR'.out)
    go_wp2_with fail
    refine (characters_any wq b S k _ c vo hsq.out (by omega) hS).mono ?_
    rintro e w5 ⟨hg5, hG⟩
    rw [hRc.out] at hG
    cases R with
    | bad ec o =>
      subst hG
      go_wp2_with fail
      exact ⟨rfl, (grown_in hbaq.out).trans hg5, rfl⟩
    | ok t n =>
      obtain ⟨va, he, hs5, ho5⟩ := hG
      unfold tkV at he
      obtain ⟨Av, cv, rfl⟩ := ho5.form
      subst he
      have hrb5 := hrbq.out.on hg5 hbT.symm
      have hfin := Lib.hid (tok_put (kd := (t.kind : Nat)) (at_ := (k : Nat)) (nm := strOf t.name) (tx := strOf t.text) h0.out ((grown_in hbaq.out).trans hg5) hs5 hT0'.out hrb5 hltq.out ho5)
      have y0 := hrb5.cell 0
      have g0 := hrb5.frozen 0
      have y1 := hrb5.cell 1
      have g1 := hrb5.frozen 1
      have y2 := hrb5.cell 2
      have g2 := hrb5.frozen 2
      have y3 := hrb5.cell 3
      have g3 := hrb5.frozen 3
      have y4 := hrb5.cell 4
      have g4 := hrb5.frozen 4
      have hrb5' := Lib.hid hrb5
      clear hrb5 hs5 ho5 hg5
      go_wp2_with fail
      have hf1 := hfin.out
      unfold putTok at hf1
      (try simp only [Exit.inBlock, Exit.then])
      refine bodyPost_ret (res_tb rfl hf1.1 rfl) rfl ?_
      exact ⟨hf1.2.1, _, rfl, hf1.2.2.1, hf1.2.2.2⟩
end
end Go.Proofs.YtcecmbbhjaeodaaGreatDoor.Xl
end

section
namespace Go.Proofs.YtcecmbbhjaeodaaGreatDoor.Xl
open Go.RowKit UtfW

set_option maxRecDepth 100000 in
theorem catch_idle (p q : Addr) (w : World) :
    CallsD Tryz.prog 38 #[.pointer (some p), .pointer (some q)] .returning w fun e u' w' => e = .returned (.tuple #[]) ∧ u' = .returning ∧ w' = w := by
  refine callsD_of_wpS Tryz.func38 rfl fun c₀ cs hu => ?_
  apply wpS_seq
  apply wpS_region
  simp [wpOpsS, go_sem, recoverD, hu, Tryz.ntmps38, Exit.thenS]
  refine wpS_of_wp ?_
  go_wp2_with fail
  cases c₀
  simp_all [bodyPostS, results, Exit.inBlock, Tryz.results38]

theorem cell_far {w : World} {p i q j : Nat} {v : Value} (h : p ≠ q) : (w.setCell ⟨p, i, none⟩ v).cell? ⟨q, j, none⟩ = w.cell? ⟨q, j, none⟩ := by
  unfold World.cell? World.setCell
  simp [Array.getElem?_modify, h]
theorem ta_wrong (v : Value) (w : World) : (Instr.typeAssert (.iface 75 v) 20 75 true).run Tryz.prog w = .ok (.tuple #[v, .bool true]) w := by kernel_rfl
set_option maxHeartbeats 1000000 in
set_option maxRecDepth 100000 in
theorem catch_pan (p q : Nat) (cd at_ x y : Int) (w : World) (hp : w.cell? ⟨p, 0, none⟩ = some (.int .i64 x)) (hq : w.cell? ⟨q, 0, none⟩ = some (.int .i64 y)) (fp : w.frozen? ⟨p, 0, none⟩ = false) (fq : w.frozen? ⟨q, 0, none⟩ = false) (hpq : p ≠ q) :
    CallsD Tryz.prog 38 #[.pointer (some ⟨p, 0, none⟩), .pointer (some ⟨q, 0, none⟩)] (.panicking [wr cd at_]) w fun e u' w' => e = .returned (.tuple #[]) ∧ u' = .panicking [{ wr cd at_ with recovered := true }] ∧ ∃ w1, Below w.heap.size w w1 ∧ w' = (w1.setCell ⟨p, 0, none⟩ (.int .i64 cd)).setCell ⟨q, 0, none⟩ (.int .i64 at_) := by
  refine callsD_of_wpS Tryz.func38 rfl fun c₀ cs hu => ?_
  simp only [Tryz.ntmps38, List.size_toArray, List.length_cons, List.length_nil, Nat.reduceAdd, Nat.reduceSub, Array.replicate_succ, Array.replicate_zero, List.push_toArray, List.append_toArray, List.nil_append, List.cons_append]
  apply wpS_seq
  apply wpS_region
  unfold wr at hu ⊢
  simp [wpOpsS, go_sem, recoverD, hu, Exit.thenS]
  refine wpS_of_wp ?_
  have hta := ta_wrong
  have hbA := below_alloc w (.cells #[.int .i64 cd, .int .i64 at_] 75)
  have hnA := heap_alloc_new w (.cells #[.int .i64 cd, .int .i64 at_] 75)
  have hp0 := World.block_lt_of_cell? w _ hp
  have hq0 := World.block_lt_of_cell? w _ hq
  go_wp2_with fail
  generalize w.alloc (.cells #[.int .i64 cd, .int .i64 at_] 75) = w1 at hbA hnA ⊢
  have hLp : w.heap.size ≠ p := Nat.ne_of_gt hp0
  have hp1 := (hbA.cell hp0).trans hp
  have hq1 := (hbA.cell hq0).trans hq
  have fp1 : w1.frozen? ⟨p, 0, none⟩ = false := (hbA.frozen hp0).trans fp
  have fq1 : w1.frozen? ⟨q, 0, none⟩ = false := (hbA.frozen hq0).trans fq
  have hc0 : w1.cell? ⟨w.heap.size, 0, none⟩ = some (.int .i64 cd) := by simp [World.cell?, hnA]
  have hc1 : w1.cell? ⟨w.heap.size, 1, none⟩ = some (.int .i64 at_) := by simp [World.cell?, hnA]
  have hb2 : Hid (Below w.heap.size w w1.drew) := Lib.hid (hbA.trans (Joins.below_draws _ w1 1))
  generalize w.heap.size = L at hLp hc0 hc1
  clear hp hq fp fq hbA hnA hta
  refine Pl.wp_region_plan 5 (.take 0 (.take 1 (.take 2 (.take 3 (.run 4 .done))))) (fun x => x.cell? ⟨L, 0, none⟩ = some (.int .i64 cd) ∧ x.cell? ⟨L, 1, none⟩ = some (.int .i64 at_)) (by kernel_rfl) (by kernel_rfl) (by exact ⟨hc0, hc1⟩) ?_
  simp only [Pl.fill, List.getElem?_cons_zero, List.getElem?_cons_succ, List.drop_succ_cons, List.drop_zero]
  iterate 4
    refine Pl.take_go ?_ (by rfl) (fun _ _ _ h => h) ?_ ?_
    rotate_left
    · (intro x hSw; (try dsimp only at hSw); (try obtain ⟨s0, s1⟩ := hSw); go_simp; try with_reducible rfl)
    try simp only [Act.put, List.setIfInBounds_toArray, List.set_cons_zero, List.set_cons_succ]
  have hp2 : w1.drew.cell? ⟨p, 0, none⟩ = some (.int .i64 x) := hp1
  have hq2 : w1.drew.cell? ⟨q, 0, none⟩ = some (.int .i64 y) := hq1
  have fp2 : w1.drew.frozen? ⟨p, 0, none⟩ = false := fp1
  have fq2 : w1.drew.frozen? ⟨q, 0, none⟩ = false := fq1
  have hd0 : w1.drew.cell? ⟨L, 0, none⟩ = some (.int .i64 cd) := hc0
  have hd1 : w1.drew.cell? ⟨L, 1, none⟩ = some (.int .i64 at_) := hc1
  clear hp1 hq1 fp1 fq1 hc0 hc1
  generalize w1.drew = w2 at hp2 hq2 fp2 fq2 hd0 hd1 hb2 ⊢
  have e0 : (w2.setCell ⟨p, 0, none⟩ (.int .i64 cd)).cell? ⟨L, 0, none⟩ = some (.int .i64 cd) := (cell_far (by omega)).trans hd0
  have e1 : (w2.setCell ⟨p, 0, none⟩ (.int .i64 cd)).cell? ⟨L, 1, none⟩ = some (.int .i64 at_) := (cell_far (by omega)).trans hd1
  have e2 : (w2.setCell ⟨p, 0, none⟩ (.int .i64 cd)).cell? ⟨q, 0, none⟩ = some (.int .i64 y) := (cell_far (by omega)).trans hq2
  have e3 : (w2.setCell ⟨p, 0, none⟩ (.int .i64 cd)).frozen? ⟨q, 0, none⟩ = false := by rw [World.frozen?_setCell]; exact fq2
  refine Pl.run_go (fun K hK => ?_)
  go_simp
  refine hK.out _ _ (Pl.more_go _ (fun _ h => h) (by exact ⟨e0, e1⟩) ?_)
  clear hK K
  refine Pl.done_go ?_
  go_wp2_with fail
  cases c₀
  simp_all [bodyPostS, results, Exit.inBlock, Exit.then, Tryz.results38]
  exact ⟨w2, hb2.out, rfl⟩
end Go.Proofs.YtcecmbbhjaeodaaGreatDoor.Xl
end

section
namespace Go.Proofs.YtcecmbbhjaeodaaGreatDoor.Xl
open Go.RowKit UtfW

theorem ows_keptT {w w' : World} {B E n size : Nat} {v : Value} {xs : List Value} {row : Option Nat} (h : w.ownsRow B E size v n xs) (hg : w.grownBy w' row) (hr : ∀ g, row = some g → B ≤ g → ∀ cur, w.heap[g]? ≠ some (.cells cur E)) : w'.ownsRow B E size v n xs := by
  obtain ⟨h1, h2⟩ := h
  refine ⟨h1, ?_⟩
  rcases h2 with h2 | ⟨g, cap, cur, hv, hB, hc, h3⟩
  · exact .inl h2
  · refine .inr ⟨g, cap, cur, hv, hB, (hg.block g (Array.getElem?_eq_some_iff.1 hc).1 ?_).trans hc, h3⟩
    intro e
    exact hr g e.symm hB cur hc
/-- The cells of a token, its attributes in memory of the call's own. -/
def TkO (B : Nat) (w : World) (vs : List Value) (t : Tok) : Prop := ∃ A c, vs = [.int .i64 (t.kind : Nat), .int .i64 (t.at_ : Nat), .string (strOf t.name), .string (strOf t.text), .slice A t.attrs.length c] ∧ OwS AtEl 2 w B 43 (.slice A t.attrs.length c) t.attrs
theorem TkO.kept {B : Nat} {w w' : World} {row : Option Nat} (hg : w.grownBy w' row) (hr : ∀ g, row = some g → B ≤ g → ∀ cur, w.heap[g]? ≠ some (.cells cur 43)) : ∀ vs t, TkO B w vs t → TkO B w' vs t := by
  rintro vs t ⟨A, c, rfl, xs, h1, h2⟩
  exact ⟨A, c, rfl, xs, ows_keptT h1 hg hr, h2.mono AtEl.to⟩
theorem TkO.one {B : Nat} {w : World} : ∀ vs t, TkO B w vs t → ∀ u ∈ vs, u.oneCell' = true := by
  rintro vs t ⟨A, c, rfl, _⟩ u hu
  simp at hu
  rcases hu with rfl | rfl | rfl | rfl | rfl <;> rfl
def OwTk (w : World) (B : Nat) (v : Value) (ts : List Tok) : Prop := OwS (TkO B) 5 w B 39 v ts
section
variable {B : Nat} {w w' : World} {v : Value} {ts : List Tok}
theorem OwTk.nil (w : World) (B : Nat) : OwTk w B (.slice none 0 0) [] := OwS.nil w B _
theorem OwTk.kept {row : Option Nat} (h : OwTk w B v ts) (hg : w.grownBy w' row) (hr : ∀ g, row = some g → B ≤ g → ∀ cur E, (E = 43 ∨ E = 39) → w.heap[g]? ≠ some (.cells cur E)) : OwTk w' B v ts := by
  obtain ⟨xs, h1, h2⟩ := h
  exact ⟨xs, ows_keptT h1 hg fun g e hB cur => hr g e hB cur _ (.inr rfl), h2.mono (TkO.kept hg fun g e hB cur => hr g e hB cur _ (.inl rfl))⟩
theorem OwTk.below (h : OwTk w B v ts) (hb : Below w.heap.size w w') : OwTk w' B v ts := h.kept (grown_of_below hb) (fun g e => by cases e)
theorem OwTk.on {b : Nat} (h : OwTk w B v ts) (hg : w.grownBy w' (some b)) (hb : b < B) : OwTk w' B v ts :=
  h.kept hg fun g e hB => by injection e with e; omega
end
theorem info_tok : (Tryz.prog.info? 39).map (fun i => (i.zero, i.size, i.bytes)) = some (some (.agg #[.int .i64 0, .int .i64 0, .string ⟨#[]⟩, .string ⟨#[]⟩, .slice none 0 0]), 5, 72) := by kernel_rfl

section
variable {ops : Array Oper} {rest : List Oper} {o : Oper} {a : Act} {Q : Exit → Act → World → Prop}
/-- 'append(x, y...)' at tokens. -/
theorem append_tok (w : World) (hgd : o.guard = none) (s x : Operand)
    (ho : o.op = .call { callee := .builtin .append, args := #[s, x], argTypes := #[24, 24] })
    (B : Nat) (v : Value) (la : List Tok) (hs : a.eval s = v) (hown : OwTk w B v la)
    (A : Option Addr) (m c : Nat) (lb : List Tok) (hx : a.eval x = .slice A m c) (hr : Sq (TkO B) 5 w A m c lb)
    (N : Nat) (hN : la.length + m = N) (hsz : N * 72 ≤ 140737488355328) (hB : B ≤ w.heap.size)
    (h : ∀ A' c' w', OwTk w' B (.slice A' N c') (la ++ lb) → w.grownBy w' v.ownBlock → Below B w w' → wpList Tryz.prog ops Q rest (a.put o.dst (.slice A' N c')) w') :
    wpList Tryz.prog ops Q (o :: rest) a w := by
  refine append_sq w 24 39 _ 72 Tryz.underlying24 info_tok (by rfl) (by decide) hgd s x ho B v la hs hown A m c lb hx hr TkO.one ?_ N hN hsz (by omega) hB (fun A' c' w' h1 h2 h3 _ => h A' c' w' h1 h2 h3)
  intro w' hg
  obtain ⟨xs, ⟨_, h2⟩, _⟩ := hown
  refine TkO.kept hg fun g e hB' cur hc => ?_
  rcases h2 with ⟨rfl, _⟩ | ⟨g', cap, cur', rfl, _, hc', _⟩
  · cases e
  · simp [Value.ownBlock] at e
    subst e
    rw [hc'] at hc
    injection hc with hc
    injection hc with _ hc _
    exact absurd hc (by decide)
end
end Go.Proofs.YtcecmbbhjaeodaaGreatDoor.Xl
end
