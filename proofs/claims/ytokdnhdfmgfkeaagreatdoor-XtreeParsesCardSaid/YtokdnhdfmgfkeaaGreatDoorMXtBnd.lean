/- Nodes and Docs of the document; sound of the laws. Printed by xt_bnd.py. -/
import Derived.Test.YtokdnhdfmgfkeaaGreatDoorMRowS
import Derived.Test.YtokdnhdfmgfkeaaGreatDoorMXrStep
import Derived.Test.YtokdnhdfmgfkeaaGreatDoorMXlRname
import Derived.Test.YtokdnhdfmgfkeaaGreatDoorMXlScan
import Derived.Test.YtokdnhdfmgfkeaaGreatDoorMXlLawA
import Derived.Test.YtokdnhdfmgfkeaaGreatDoorMXlLex
import Derived.Test.YtokdnhdfmgfkeaaGreatDoorMXtSame
import Derived.Test.YtokdnhdfmgfkeaaGreatDoorMXlValues
section
namespace Go.Proofs.YtokdnhdfmgfkeaaGreatDoor.Xl
open Go.RowKit UtfW Er
theorem attr_steps {ats : List At} {S v1 v6 : Tx} {Q0 q1 q3 q4 q5 q6 p1 p2 p4 p6 pl : Nat} {e1 e2 e4 e6 : Int}
  (h1 : Stp (name (S.drop Q0)) Q0 0 pl v1 q1 e1 p1)
  (h2 : (e1 ≠ 0 -> e2 = e1 /\ p2 = p1) /\ (e1 = 0 -> (v1 ∈ ats.map (·.1) -> e2 = 4 /\ p2 = Q0) /\ (v1 ∉ ats.map (·.1) -> e2 = 0 /\ p2 = p1)))
  (h3 : e2 = 0 -> q3 = q1 + blanks (S.drop q1))
  (h4 : Stp (eat [61] (S.drop q3)) q3 e2 p2 () q4 e4 p4)
  (h5 : e4 = 0 -> q5 = q4 + blanks (S.drop q4))
  (h6 : Stp (value (S.drop q5)) q5 e4 p4 v6 q6 e6 p6) :
  (e6 = 0 /\ p6 = pl /\ attr ats (S.drop Q0) = .ok (v1, v6) (q6 - Q0) /\ Q0 + 4 <= q6) \/ (e6 ≠ 0 /\ ∃ o, attr ats (S.drop Q0) = .bad e6 o /\ p6 = Q0 + o) := by
 rcases h1.2 rfl with ⟨cd, o, hn, rfl, hc, rfl⟩ | ⟨n1, hn, rfl, rfl, rfl⟩
 ·obtain ⟨rfl, rfl⟩ := h2.1 hc;obtain ⟨rfl, rfl, _⟩ := h4.1 hc;obtain ⟨rfl, rfl, _⟩ := h6.1 hc;refine .inr ⟨hc, o, ?_, rfl⟩;unfold attr;rw [hn]
 ·by_cases hm : v1 ∈ ats.map (·.1)
  ·obtain ⟨rfl, rfl⟩ := (h2.2 rfl).1 hm;obtain ⟨rfl, rfl, _⟩ := h4.1 (by decide);obtain ⟨rfl, rfl, _⟩ := h6.1 (by decide);refine .inr ⟨by decide, 0, ?_, rfl⟩;unfold attr;rw [hn];simp only;rw [if_pos hm]
  ·obtain ⟨rfl, rfl⟩ := (h2.2 rfl).2 hm;have h3' := h3 rfl;subst h3';rcases h4.2 rfl with ⟨cd, o, he, rfl, hc, rfl⟩ | ⟨m, he, rfl, rfl, rfl⟩
   ·obtain ⟨rfl, rfl, _⟩ := h6.1 hc;exact .inr ⟨hc, _, attr_eat hn hm rfl he, by omega⟩
   ·have h5' := h5 rfl;subst h5';rcases h6.2 rfl with ⟨cd, o, hv, rfl, hc, rfl⟩ | ⟨n, hv, rfl, rfl, rfl⟩
    ·exact .inr ⟨hc, _, attr_value hn hm rfl he rfl hv, by omega⟩
    ·refine .inl ⟨rfl, rfl, ?_, ?_⟩
     ·rw [attr_ok hn hm rfl he rfl hv]
      congr 1
      omega
     ·have g1 := (name_len hn).1;have g2 := (eat_len he).1;have g3 := (value_len hv).1;simp at g2;omega
theorem tagS_name {S : Tx} {k o : Nat} {ec : Int} (h : name (S.drop (k + 1)) = .bad ec o) : tag (S.drop k) = .bad ec (1 + o) := tag_name h
section
variable (w : World) (b : Nat) (S : Tx) (k : Nat) (A : Option Addr) (c : Nat)
set_option maxHeartbeats 4000000 in
set_option maxRecDepth 100000 in
theorem rtag_any (pl at0 : Nat) (h : Sr w b S k A c 0 pl) (hk : k < S.length) (hS : S.length <= 65536) :
  Calls Tryz.prog 144 #[.pointer (some ⟨b, 0, none⟩), .agg #[.int .i64 0, .int .i64 (at0 : Nat), .string ⟨#[]⟩, .string ⟨#[]⟩, .slice none 0 0]] w fun e w' => GivesRT w b S k A c pl at0 (tag (S.drop k)) e w' := by
 have hba := below_alloc w (.cells #[.int .i64 0, .int .i64 (at0 : Nat), .string ⟨#[]⟩, .string ⟨#[]⟩, .slice none 0 0] 87);have htb := tb_new w 0 (at0 : Nat) ⟨#[]⟩ ⟨#[]⟩ (.slice none 0 0);obtain ⟨T2, hT2⟩ : ∃ T2, w.heap.size = T2 := ⟨_, rfl⟩;obtain ⟨w1, hw1⟩ : ∃ w1, w.alloc (.cells #[.int .i64 0, .int .i64 (at0 : Nat), .string ⟨#[]⟩, .string ⟨#[]⟩, .slice none 0 0] 87) = w1 := ⟨_, rfl⟩;rw [hw1] at hba htb;rw [hT2] at htb;have hba2 := below_alloc w1 (.cells #[.int .i64 0, .int .i64 0, .string ⟨#[]⟩, .string ⟨#[]⟩, .slice none 0 0] 87);have hrb := tb_new w1 0 0 ⟨#[]⟩ ⟨#[]⟩ (.slice none 0 0);obtain ⟨T0, hT0⟩ : ∃ T0, w1.heap.size = T0 := ⟨_, rfl⟩;obtain ⟨w2, hw2⟩ : ∃ w2, w1.alloc (.cells #[.int .i64 0, .int .i64 0, .string ⟨#[]⟩, .string ⟨#[]⟩, .slice none 0 0] 87) = w2 := ⟨_, rfl⟩;rw [hw2] at hba2 hrb;rw [hT0] at hrb;have hne : T0 ≠ T2 := by have := htb.lt; omega
 have F : Hid (TgF w b T2 T0 w2.heap.size S k A c pl) := Hd ⟨h, by omega, by have := hba.size; omega, hne, by have := htb.lt; have := hba2.size; omega, hrb.lt⟩;have hS2 : Hid (TgS w w2 b T2 T0 w2.heap.size S A c k 0 pl 0 (at0 : Nat) ⟨#[]⟩ ⟨#[]⟩ (.slice none 0 0)) := Hd ⟨(h.below hba).below hba2, (grown_in hba).trans (grown_in hba2), Nat.le_refl _, htb.below hba2, hrb⟩;obtain ⟨B0, hB0⟩ : ∃ B0, w2.heap.size = B0 := ⟨_, rfl⟩;rw [hB0] at F hS2;have hS3 := Hd (hS2.out.set1 F.out (k + 1));have hS4 := Hd (hS3.out.set0 F.out 1);have c1 := hS2.out.sr.c1;have f1 := hS2.out.sr.frozen 1;have d0 := hS2.out.tb.cell 0;have e0 := hS2.out.tb.frozen 0;obtain ⟨R, hR⟩ : ∃ R, tag (S.drop k) = R := ⟨_, rfl⟩;rw [hR];have hR' := Hd hR;have hhs : Hid (w.heap.size <= w.heap.size) := Hd (Nat.le_refl _);clear h hba hba2 htb hrb hne hR hB0
 go_enter Tryz.func144, Tryz.ntmps144
 go_wp2_with fail;rw [show ((k : Int) + 1) = ((k + 1 : Nat) : Int) by omega];generalize (w2.setCell ⟨b, 1, none⟩ (.int .i64 ((k + 1 : Nat) : Int))).setCell ⟨T2, 0, none⟩ (.int .i64 1) = w3 at hS4 ⊢;clear c1 f1 d0 e0 hS3 hS2 hw2 hw1 hT2 hT0;refine (rname_all w3 b S (k + 1) A c pl hS4.out.sr (by omega) hS).mono ?_;rintro e w4 ⟨nm, q1, e1, p1, rfl, hg4, hq1, hs4, hst⟩;have hSa := Hd (hS4.out.on F.out hg4 hs4);have hst' := Hd hst;have hS5 := Hd (hSa.out.set2 F.out (strOf nm));have z2 := hSa.out.tb.cell 2;have zf := hSa.out.tb.frozen 2;clear hg4 hs4 hst hS4
 go_upto_region 4 with fail
 generalize w4.setCell ⟨T2, 2, none⟩ (.string (strOf nm)) = w5 at hS5 ⊢;clear z2 zf hSa;obtain ⟨TR, hTR⟩ : ∃ TR, (tagF (S.length - k + 1) (S.drop q1) []).shift (q1 - k) = TR := ⟨_, rfl⟩;have hTR' := Hd hTR
 have hfail : Hid (e1 ≠ 0 -> ∃ o, R = .bad e1 o /\ p1 = k + o) := Hd fun he => by
  rcases hst'.out.2 rfl with ⟨cd, o, hn, rfl, hc, rfl⟩ | ⟨n, hn, rfl, _⟩
  ·exact ⟨1 + o, by rw [<- hR'.out, tagS_name hn], by omega⟩
  ·exact absurd rfl he
 have hbadR : Hid (e1 = 0 -> p1 = pl /\ k + 2 <= q1 /\ (∀ ec o, TR = .bad ec o -> R = .bad ec o) /\ (∀ e ats m, TR = .ok (e, ats) m -> R = .ok ⟨if e then 2 else 1, 0, nm, [], ats⟩ m)) := Hd fun he => by
  rcases hst'.out.2 rfl with ⟨cd, o, hn, rfl, hc, rfl⟩ | ⟨n, hn, _, rfl, rfl⟩
  ·exact absurd he hc
  ·have h1 := (name_len hn).1;have hT : (tagF (S.length - k + 1) (S.drop (k + 1 + n)) []).shift (1 + n) = TR := by rw [<- hTR'.out, show k + 1 + n - k = 1 + n by omega]
   exact ⟨rfl, by omega, fun ec o h => by rw [<- hR'.out, tag_bad hn (hT.trans h)], fun e ats m h => by rw [<- hR'.out, tag_ok hn (hT.trans h)]⟩
 clear hTR hR' hst' hhs
 go_loopg [5, 6, 7, 8] (S.length + 1) (fun m v5 v6 v7 v8 wr => ∃ (q : Nat) (e : Int) (p : Nat) (ats : List At) (va : Value), q <= S.length /\ ats.length <= S.length + 1 /\ (e = 0 -> S.length - q < m) /\ Hid (e = 0 -> e1 = 0 /\ p = pl /\ k + 2 <= q /\ ats.length <= q /\ ∃ f, S.length - q < f /\ (tagF f (S.drop q) ats).shift (q - k) = TR) /\ Hid (e ≠ 0 -> ∃ o, R = .bad e o /\ p = k + o) /\ Hid (TgS w wr b T2 T0 B0 S A c q e p 1 (at0 : Nat) (strOf nm) ⟨#[]⟩ va) /\ Hid (OwS AtEl 2 wr B0 55 va ats))
 case atStart =>
  exact ⟨q1, e1, p1, [], .slice none 0 0, hq1, by simp, fun _ => by omega, Hd (fun he => ⟨he, (hbadR.out he).1, (hbadR.out he).2.1, by simp, S.length - k + 1, by have := (hbadR.out he).2.1; omega, hTR'.out⟩), hfail, hS5, Hd (OwS.nil _ _ _)⟩
 case round =>
  clear hS5 hTR' hfail;obtain ⟨q, e, p, ats, va, hq, hal, hms, hrun, hbad, hs, ho⟩ := hrel;have c2 := hs.out.sr.c2;obtain ⟨A5, c5, rfl⟩ := ho.out.form
  by_cases he : e = 0
  rotate_left
  ·have j0 : (e == 0) = false := by rw [beq_eq_false_iff_ne]; exact he
   have hbad' := Hd (hbad.out he);have he' := Hd he;clear he hms hrun hbad;have hal2 : ats.length <= 65537 := by omega
   have z0 := hs.out.tb.cell 0;have z1 := hs.out.tb.cell 1;have z2 := hs.out.tb.cell 2;have z3 := hs.out.tb.cell 3;have z4 := hs.out.tb.cell 4;have y0 := hs.out.rb.cell 0;have g0 := hs.out.rb.frozen 0;have y1 := hs.out.rb.cell 1;have g1 := hs.out.rb.frozen 1;have y2 := hs.out.rb.cell 2;have g2 := hs.out.rb.frozen 2;have y3 := hs.out.rb.cell 3;have g3 := hs.out.rb.frozen 3;have y4 := hs.out.rb.cell 4;have g4 := hs.out.rb.frozen 4;go_wp2_with fail;have hfin := hs.out.put F.out ho.out;unfold putTok at hfin
   (try simp only [Exit.inBlock, Exit.then])
   refine bodyPost_ret (res_tb rfl hfin.1 rfl) rfl ?_;refine ⟨⟨1, at0, nm, [], ats⟩, _, rfl, hfin.2.1, hfin.2.2.2, hal2, _, _, _, hfin.2.2.1, ?_⟩;obtain ⟨o, hRo, hpo⟩ := hbad'.out;rw [hRo];exact ⟨rfl, he'.out, hpo⟩
  subst he;obtain ⟨he1, hpl, hkq, haq, f, hf, hr⟩ := hrun.out rfl;have hms' := hms rfl;obtain ⟨hp1, hk1, hbadR2, hokR2⟩ := hbadR.out he1;have hbadR3 := Hd hbadR2;have hokR3 := Hd hokR2;obtain ⟨f', rfl⟩ : ∃ f', f = f' + 1 := ⟨f - 1, by omega⟩;have hf' : Hid (S.length - q < f' + 1) := Hd hf;have hr' := Hd hr;have he1' := Hd he1;subst hpl;clear hms hrun hbad he1 hf hr hp1 hk1 hbadR2 hokR2 hbadR;go_wp2_with fail;refine (rblanks_any wr b S q A c p hs.out.sr hq (by omega)).mono ?_;rintro e w6 ⟨rfl, hs6, hg6⟩;have hB1 := blanks_le (S.drop q);rw [List.length_drop] at hB1;obtain ⟨B, hBe⟩ : ∃ B, blanks (S.drop q) = B := ⟨_, rfl⟩;rw [hBe] at hs6 hB1 ⊢;have hB' := Hd hBe;have hs6' := Hd (hs.out.on F.out hg6 hs6);have ho6 := Hd (owS_kept ho.out hg6 F.out.bB);clear hs6 hg6 hBe hs ho c2
  by_cases hge : S.length <= q + B
  ·have hF := cF_end (S := S) (k := q + B) hge;have hF' := Hd hF;have hRb : Hid (R = .bad 6 (q - k + B)) := Hd (hbadR3.out _ _ (by rw [<- hr'.out, tf_end hB'.out hge]; rfl));clear hF;go_wp2_with fail;refine (rc_any w6 b S (q + B) A c p hs6'.out.sr 0 (by omega)).mono ?_;rintro e w7 ⟨rfl, hbz⟩;have hs7 := Hd (hs6'.out.below hbz);have ho7 := Hd (OwS.below ho6.out hbz AtEl.to);rw [Nat.add_zero, hF'.out];clear hbz hs6' ho6;go_wp2_with fail;refine (rc_any w7 b S (q + B) A c p hs7.out.sr 0 (by omega)).mono ?_;rintro e w8 ⟨rfl, hbz⟩;have hs8 := Hd (hs7.out.below hbz);have ho8 := Hd (OwS.below ho7.out hbz AtEl.to);rw [Nat.add_zero, hF'.out];clear hbz hs7 ho7;go_wp2_with fail;refine (rc_any w8 b S (q + B) A c p hs8.out.sr 0 (by omega)).mono ?_;rintro e w9 ⟨rfl, hbz⟩;have hs9 := Hd (hs8.out.below hbz);have ho9 := Hd (OwS.below ho8.out hbz AtEl.to);rw [Nat.add_zero, hF'.out];clear hbz hs8 ho8;have c0 := hs9.out.sr.c0;go_wp2_with fail;refine (rbad_any w9 b S (q + B) A c p hs9.out.sr 6 S.length).mono ?_;rintro e wA ⟨rfl, hsA, hgA⟩;have hsA' := Hd (hs9.out.on F.out hgA hsA);have hoA := Hd (owS_kept ho9.out hgA F.out.bB);have hal2 : ats.length <= 65537 := by omega
   clear hsA hgA c0 hs9 ho9;have z0 := hsA'.out.tb.cell 0;have z1 := hsA'.out.tb.cell 1;have z2 := hsA'.out.tb.cell 2;have z3 := hsA'.out.tb.cell 3;have z4 := hsA'.out.tb.cell 4;have y0 := hsA'.out.rb.cell 0;have g0 := hsA'.out.rb.frozen 0;have y1 := hsA'.out.rb.cell 1;have g1 := hsA'.out.rb.frozen 1;have y2 := hsA'.out.rb.cell 2;have g2 := hsA'.out.rb.frozen 2;have y3 := hsA'.out.rb.cell 3;have g3 := hsA'.out.rb.frozen 3;have y4 := hsA'.out.rb.cell 4;have g4 := hsA'.out.rb.frozen 4;go_wp2_with fail;have hfin := hsA'.out.put F.out hoA.out;unfold putTok at hfin
   (try simp only [Exit.inBlock, Exit.then])
   refine bodyPost_ret (res_tb rfl hfin.1 rfl) rfl ?_;refine ⟨⟨1, at0, nm, [], ats⟩, _, rfl, hfin.2.1, hfin.2.2.2, hal2, _, _, _, hfin.2.2.1, ?_⟩;rw [hRb.out];exact ⟨rfl, by decide, by omega⟩
  have hlt : q + B < S.length := by omega
  have hx : S[q + B]? = some S[q + B] := List.getElem?_eq_getElem hlt;generalize S[q + B] = x at hx;have hF := cF_at hx;have hF' := Hd hF;have hx' := Hd hx;clear hx hF hge
  by_cases j6 : x = 62
  ·have j62 : ((x.toNat : Int) == 62) = true := by rw [j6]; rfl
   have hRk : Hid (R = .ok ⟨1, 0, nm, [], ats⟩ (q - k + (B + 1))) := Hd (hokR3.out false ats _ (by rw [<- hr'.out, tf_shut hB'.out (by rw [<- j6]; exact hx'.out)]; rfl));clear j6;go_wp2_with fail;refine (rc_any w6 b S (q + B) A c p hs6'.out.sr 0 (by omega)).mono ?_;rintro e w7 ⟨rfl, hbz⟩;have hs7 := Hd (hs6'.out.below hbz);have ho7 := Hd (OwS.below ho6.out hbz AtEl.to);rw [Nat.add_zero, hF'.out];clear hbz hs6' ho6;have c1 := hs7.out.sr.c1;have f1 := hs7.out.sr.frozen 1;have hs8 := Hd (hs7.out.set1 F.out (q + B + 1));have ho8 := Hd (owS_kept ho7.out (grown_set w7 ⟨b, 1, none⟩ (.int .i64 ((q + B + 1 : Nat) : Int))) F.out.bB)
   go_upto_region 8 with fail
   have e3 : ((q : Int) + (B : Int) + 1) = ((q + B + 1 : Nat) : Int) := by omega
   try rw [e3]
   clear e3;generalize w7.setCell ⟨b, 1, none⟩ (.int .i64 ((q + B + 1 : Nat) : Int)) = w8 at hs8 ho8 ⊢;have hal2 : ats.length <= 65537 := by omega
   clear c1 f1 hs7 ho7;have z0 := hs8.out.tb.cell 0;have z1 := hs8.out.tb.cell 1;have z2 := hs8.out.tb.cell 2;have z3 := hs8.out.tb.cell 3;have z4 := hs8.out.tb.cell 4;have y0 := hs8.out.rb.cell 0;have g0 := hs8.out.rb.frozen 0;have y1 := hs8.out.rb.cell 1;have g1 := hs8.out.rb.frozen 1;have y2 := hs8.out.rb.cell 2;have g2 := hs8.out.rb.frozen 2;have y3 := hs8.out.rb.cell 3;have g3 := hs8.out.rb.frozen 3;have y4 := hs8.out.rb.cell 4;have g4 := hs8.out.rb.frozen 4;go_wp2_with fail;have hfin := hs8.out.put F.out ho8.out;unfold putTok at hfin
   (try simp only [Exit.inBlock, Exit.then])
   refine bodyPost_ret (res_tb rfl hfin.1 rfl) rfl ?_;refine ⟨⟨1, at0, nm, [], ats⟩, _, rfl, hfin.2.1, hfin.2.2.2, hal2, _, _, _, hfin.2.2.1, ?_⟩;rw [hRk.out];exact ⟨rfl, rfl, by omega, rfl⟩
  have j62 : ((x.toNat : Int) == 62) = false := by rw [show (62 : Int) = ((62 : UInt8).toNat : Int) from rfl, byte_eq, decide_eq_false j6]
  have j6' := Hd j6;clear j6
  by_cases j4 : x = 47
  ·have j47 : ((x.toNat : Int) == 47) = true := by rw [j4]; rfl
   have hx47 : Hid (S[q + B]? = some 47) := Hd (by rw [<- j4]; exact hx'.out);clear j4;go_wp2_with fail;refine (rc_any w6 b S (q + B) A c p hs6'.out.sr 0 (by omega)).mono ?_;rintro e w7 ⟨rfl, hbz⟩;have hs7 := Hd (hs6'.out.below hbz);have ho7 := Hd (OwS.below ho6.out hbz AtEl.to);rw [Nat.add_zero, hF'.out];clear hbz hs6' ho6;go_wp2_with fail;refine (rc_any w7 b S (q + B) A c p hs7.out.sr 0 (by omega)).mono ?_;rintro e w8 ⟨rfl, hbz⟩;have hs8 := Hd (hs7.out.below hbz);have ho8 := Hd (OwS.below ho7.out hbz AtEl.to);rw [Nat.add_zero, hF'.out];clear hbz hs7 ho7;have c1 := hs8.out.sr.c1;have f1 := hs8.out.sr.frozen 1;have hs9 := Hd (hs8.out.set1 F.out (q + B + 1));have ho9 := Hd (owS_kept ho8.out (grown_set w8 ⟨b, 1, none⟩ (.int .i64 ((q + B + 1 : Nat) : Int))) F.out.bB);go_wp2_with fail;have e3 : ((q : Int) + (B : Int) + 1) = ((q + B + 1 : Nat) : Int) := by omega
   try rw [e3]
   clear e3;generalize w8.setCell ⟨b, 1, none⟩ (.int .i64 ((q + B + 1 : Nat) : Int)) = w9 at hs9 ho9 ⊢;clear c1 f1 hs8 ho8;refine (rmust_all w9 b S (q + B + 1) A c p hs9.out.sr (by omega) hS 62).mono ?_;rintro e wA ⟨u, q4, e4, p4, rfl, hgA, hq4, hsA, hst⟩;have hsA' := Hd (hs9.out.on F.out hgA hsA);have hoA := Hd (owS_kept ho9.out hgA F.out.bB);have z0 := hsA'.out.tb.cell 0;have zf := hsA'.out.tb.frozen 0;have hsB := Hd (hsA'.out.set0 F.out 2);have hoB := Hd (owS_kept hoA.out (grown_set wA ⟨T2, 0, none⟩ (.int .i64 2)) F.out.b2);have hst' := Hd hst;have hal2 : ats.length <= 65537 := by omega
   clear hsA hgA hs9 ho9 hst
   go_upto_region 13 with fail
   generalize wA.setCell ⟨T2, 0, none⟩ (.int .i64 2) = wB at hsB hoB ⊢;clear z0 zf hsA' hoA;have z0 := hsB.out.tb.cell 0;have z1 := hsB.out.tb.cell 1;have z2 := hsB.out.tb.cell 2;have z3 := hsB.out.tb.cell 3;have z4 := hsB.out.tb.cell 4;have y0 := hsB.out.rb.cell 0;have g0 := hsB.out.rb.frozen 0;have y1 := hsB.out.rb.cell 1;have g1 := hsB.out.rb.frozen 1;have y2 := hsB.out.rb.cell 2;have g2 := hsB.out.rb.frozen 2;have y3 := hsB.out.rb.cell 3;have g3 := hsB.out.rb.frozen 3;have y4 := hsB.out.rb.cell 4;have g4 := hsB.out.rb.frozen 4;go_wp2_with fail;have hfin := hsB.out.put F.out hoB.out;unfold putTok at hfin
   (try simp only [Exit.inBlock, Exit.then])
   refine bodyPost_ret (res_tb rfl hfin.1 rfl) rfl ?_;refine ⟨⟨2, at0, nm, [], ats⟩, _, rfl, hfin.2.1, hfin.2.2.2, hal2, _, _, _, hfin.2.2.1, ?_⟩;rcases hst'.out.2 rfl with ⟨cd, o, hn, rfl, hc, rfl⟩ | ⟨n, hn, rfl, rfl, rfl⟩
   ·rw [hbadR3.out e4 (q - k + (B + (1 + o))) (by rw [<- hr'.out, tf_slash_bad hB'.out hx47.out (by rw [drop_at hx47.out, eat, if_pos rfl, hn]; rfl)]; rfl)];exact ⟨rfl, hc, by omega⟩
   ·rw [hokR3.out true ats (q - k + (B + (1 + n))) (by rw [<- hr'.out, tf_slash hB'.out hx47.out (by rw [drop_at hx47.out, eat, if_pos rfl, hn]; rfl)]; rfl)];exact ⟨rfl, rfl, by omega, rfl⟩
  have j47 : ((x.toNat : Int) == 47) = false := by
   have hj : ¬ x = 47 := j4;rw [show (47 : Int) = ((47 : UInt8).toNat : Int) from rfl, byte_eq, decide_eq_false hj]
  have j4' := Hd j4;clear j4;have i0 : decide ((x.toNat : Int) < 0) = false := by simp
  go_wp2_with fail;refine (rc_any w6 b S (q + B) A c p hs6'.out.sr 0 (by omega)).mono ?_;rintro e w7 ⟨rfl, hbz⟩;have hs7 := Hd (hs6'.out.below hbz);have ho7 := Hd (OwS.below ho6.out hbz AtEl.to);rw [Nat.add_zero, hF'.out];clear hbz hs6' ho6;go_wp2_with fail;refine (rc_any w7 b S (q + B) A c p hs7.out.sr 0 (by omega)).mono ?_;rintro e w8 ⟨rfl, hbz⟩;have hs8 := Hd (hs7.out.below hbz);have ho8 := Hd (OwS.below ho7.out hbz AtEl.to);rw [Nat.add_zero, hF'.out];clear hbz hs7 ho7;go_wp2_with fail;refine (rc_any w8 b S (q + B) A c p hs8.out.sr 0 (by omega)).mono ?_;rintro e w9 ⟨rfl, hbz⟩;have hs9 := Hd (hs8.out.below hbz);have ho9 := Hd (OwS.below ho8.out hbz AtEl.to);rw [Nat.add_zero, hF'.out];clear hbz hs8 ho8
  by_cases hB00 : B = 0
  ·have hfinal : Hid (∀ (v1 v6 : Tx) (r1 r3 r4 r5 r6 s1 s2 s4 s6 : Nat) (t1 t2 t4 t6 : Int), Stp (name (S.drop (q + B))) (q + B) 2 q v1 r1 t1 s1 -> ((t1 ≠ 0 -> t2 = t1 /\ s2 = s1) /\ (t1 = 0 -> (v1 ∈ ats.map (·.1) -> t2 = 4 /\ s2 = q + B) /\ (v1 ∉ ats.map (·.1) -> t2 = 0 /\ s2 = s1))) -> (t2 = 0 -> r3 = r1 + blanks (S.drop r1)) -> Stp (eat [61] (S.drop r3)) r3 t2 s2 () r4 t4 s4 -> (t4 = 0 -> r5 = r4 + blanks (S.drop r4)) -> Stp (value (S.drop r5)) r5 t4 s4 v6 r6 t6 s6 -> (t6 = 0 -> e1 = 0 /\ s6 = p /\ k + 2 <= r6 /\ q < r6 /\ ats.length + 1 <= r6 /\ ∃ f, S.length - r6 < f /\ (tagF f (S.drop r6) (ats ++ [(v1, v6)])).shift (r6 - k) = TR) /\ (t6 ≠ 0 -> ∃ o, R = .bad t6 o /\ s6 = k + o)) := Hd (by
    intro v1 v6 r1 r3 r4 r5 r6 s1 s2 s4 s6 t1 t2 t4 t6 h1 h2 h3 h4 h5 h6;obtain ⟨a1, a2, _⟩ := h1.1 (by decide);obtain ⟨b1, b2⟩ := h2.1 (by rw [a1]; decide);obtain ⟨c1', c2', _⟩ := h4.1 (by rw [b1, a1]; decide);obtain ⟨d1, d2, _⟩ := h6.1 (by rw [c1', b1, a1]; decide);have e6 : t6 = 2 := (by rw [d1, c1', b1, a1]);have e7 : s6 = q := (by rw [d2, c2', b2, a2]);have hx0 := hx'.out;rw [hB00, Nat.add_zero] at hx0
    refine ⟨fun h => absurd (e6.symm.trans h) (by decide), fun _ => ⟨q - k, by rw [e6]; exact hbadR3.out _ _ (by rw [<- hr'.out, tf_none (by rw [hB'.out]; exact hB00) hx0 j6'.out j4'.out]; rfl), by omega⟩⟩)
   have iB : ((B : Int) == 0) = true := by rw [hB00]; rfl
   have c1 := hs9.out.sr.c1;have hqB : Hid (q + B = q) := Hd (by omega);clear hB00;go_wp2_with fail;have e3 : ((q : Int) + (B : Int)) = ((q + B : Nat) : Int) := by omega
   try rw [e3]
   clear e3;refine (rbad_any w9 b S (q + B) A c p hs9.out.sr 2 (q + B)).mono ?_;rintro e wz ⟨rfl, hsz, hgz⟩;rw [show Sr wz b S (q + B) A c 2 (q + B) = Sr wz b S (q + B) A c 2 q by rw [hqB.out]] at hsz;have hsZ := Hd (hs9.out.on F.out hgz hsz);have hoZ := Hd (owS_kept ho9.out hgz F.out.bB);clear hsz hgz hs9 ho9 c1 hqB;have c1 := hsZ.out.sr.c1;go_wp2_with fail;refine (rname_all wz b S (q + B) A c (q) hsZ.out.sr (by omega) hS).mono ?_;rintro e wc ⟨v1, q1', e1', p1', rfl, hgc, hq1', hsc, hst1⟩;have hsC := Hd (hsZ.out.on F.out hgc hsc);have hoC := Hd (owS_kept hoZ.out hgc F.out.bB);have hst1' := Hd hst1;clear hsc hgc hst1 hsZ hoZ c1;have hbA2 := below_alloc wc (.cells #[.string (strOf v1), .string ⟨#[]⟩] 55);have hAb1 := Hd (ab_new wc (strOf v1) ⟨#[]⟩);have hsD := Hd (hsC.out.below hbA2);have hoD := Hd (OwS.below hoC.out hbA2 AtEl.to);have haB : Hid (B0 <= wc.heap.size) := Hd hsC.out.sz;have hrw : Hid (∀ kk, (Value.slice A5 ats.length c5).ownBlock = some kk -> kk ≠ wc.heap.size) := Hd (fun kk h => by have := (hoC.out.lt kk h).2; omega);clear hbA2 hsC hoC;go_wp2_with fail;generalize wc.alloc (.cells #[.string (strOf v1), .string ⟨#[]⟩] 55) = wD at hAb1 hsD hoD ⊢;generalize wc.heap.size = aB at hAb1 haB hrw ⊢;have haBb : Hid (aB ≠ b) := Hd (by have := haB.out; have := F.out.bB; omega);have haT2 : Hid (aB ≠ T2) := Hd (by have := haB.out; have := F.out.b2; omega)
   go_loopw [8] (fun v8 wr => ∃ (i : Nat) (e2 : Int) (p2 : Nat), i <= ats.length /\ v8 = .int .i64 (i : Nat) /\ Hid (e1' ≠ 0 -> e2 = e1' /\ p2 = p1') /\ Hid (e1' = 0 -> (e2 = 0 /\ p2 = p1' /\ ∀ a ∈ ats.take i, a.1 ≠ v1) \/ (e2 = 4 /\ p2 = q + B /\ v1 ∈ ats.map (·.1))) /\ Hid (TgS w wr b T2 T0 B0 S A c q1' e2 p2 1 (at0 : Nat) (strOf nm) ⟨#[]⟩ (.slice A5 ats.length c5)) /\ Hid (OwS AtEl 2 wr B0 55 (.slice A5 ats.length c5) ats) /\ Hid (Ab wr aB (strOf v1) ⟨#[]⟩)) (fun v8 _ => ats.length - (intOf v8).toNat)
   case atStart => exact ⟨0, e1', p1', by omega, rfl, Hd (fun _ => ⟨rfl, rfl⟩), Hd (fun h => .inl ⟨h, rfl, by simp⟩), hsD, hoD, hAb1⟩
   case round =>
    clear hsD hoD hAb1;obtain ⟨i, e2, p2, hi, rfl, hE1, hE2, hs, ho, hab⟩ := hrel;have c2 := hs.out.sr.c2;have z4 := hs.out.tb.cell 4
    by_cases hcond : i < ats.length /\ e2 = 0
    ·obtain ⟨hlt2, he2⟩ := hcond;subst he2;have j1 : decide ((i : Int) < (ats.length : Int)) = true := by simp; omega
     have j2 : decide (i < ats.length) = true := by simp; omega
     have q2 : (i : Int) < (ats.length : Int) := (by omega);obtain ⟨ba, off, y, vs, rfl, _, hy, _, hv1, hc1⟩ := (OwS.sq' ho.out (by decide)).at_ hlt2;unfold AtEl at hv1;subst hv1;have m0 := hc1 0 _ rfl;rw [Nat.add_zero] at m0;have a0 := hab.out.c0;have hq : Hid (∀ z, Below wr.heap.size wr z -> z.cell? ⟨T2, 4, none⟩ = some (.slice (some ⟨ba, off, none⟩) ats.length c5) /\ z.cell? ⟨ba, off + i * 2, none⟩ = some (.string (strOf y.1)) /\ z.cell? ⟨aB, 0, none⟩ = some (.string (strOf v1))) := Hd fun z hz => ⟨cell_keep z4 hz, cell_keep m0 hz, cell_keep a0 hz⟩
     have hy' := Hd hy;have he0 : Hid (e1' = 0) := Hd (Classical.byContradiction fun h => h (by have := (hE1.out h).1; exact this.symm))
     have hE3 : Hid (p2 = p1' /\ ∀ a ∈ ats.take i, a.1 ≠ v1) := Hd (by
      rcases hE2.out he0.out with ⟨_, h1, h2⟩ | ⟨h, _⟩
      ·exact ⟨h1, h2⟩
      ·exact absurd h (by decide))
     clear hc1 m0 a0 hy hE1 hE2 hlt2;go_wp2_with fail;refine Pl.wp_region_plan 8 (.take 0 (.take 1 (.take 2 (.take 3 (.take 4 (.take 5 (.take 6 (.take 7 .done)))))))) (fun x => Below wr.heap.size wr x) (by kernel_rfl) (by kernel_rfl) (by exact below_drew wr) ?_;simp only [Pl.fill, Al_4, Al_5, Al_6, Al_7]
     iterate 8
      refine Pl.take_go ?_ (by rfl) (fun _ _ _ h => h) ?_ ?_
      rotate_left
      ·(intro x hSw; obtain ⟨s0, s1, s2⟩ := hq.out x hSw; go_simp; try with_reducible rfl)
      try simp only [Act.put, Al_1, Al_2, Al_3]
     refine Pl.done_go ?_;have hdr := below_drew wr;have hs3 := Hd (hs.out.below hdr);have ho3 := Hd (OwS.below ho.out hdr AtEl.to);have hab3 := Hd (hab.out.below hdr);clear hdr hq hs ho hab c2 z4
     have hcmp : ((strOf y.1).toList == (strOf v1).toList) = decide (y.1 = v1) := by
      have e : (strOf v1).toList = v1 := by rw [Lib.toList_data]; simp [strOf]
      rw [e, str_eqL]
     by_cases hyv : y.1 = v1
     ·rw [decide_eq_true hyv] at hcmp;have hmem : Hid (v1 ∈ ats.map (·.1)) := Hd (List.mem_map.2 ⟨y, List.mem_of_getElem? hy'.out, hyv⟩);clear hyv;go_wp2_with fail;have e3 : ((q : Int) + (B : Int)) = ((q + B : Nat) : Int) := by omega
      try rw [e3]
      clear e3;refine (rbad_any _ b S q1' A c p2 hs3.out.sr 4 (q + B)).mono ?_;rintro e wg ⟨rfl, hsg, hgg⟩;have hs4 := Hd (hs3.out.on F.out hgg hsg);have ho4 := Hd (owS_kept ho3.out hgg F.out.bB);have hab4 := Hd (hab3.out.on hgg haBb.out);clear hsg hgg hs3 ho3 hab3;go_wp2_with fail;go_roundw
      case rel => exact ⟨i + 1, 4, q + B, by omega, by go_num, Hd (fun h => absurd he0.out h), Hd (fun _ => .inr ⟨rfl, rfl, hmem.out⟩), hs4, ho4, hab4⟩
      case measure => simp [intOf]; omega
     ·rw [decide_eq_false hyv] at hcmp
      have hall : Hid (∀ a ∈ ats.take (i + 1), a.1 ≠ v1) := Hd (by
       rw [take_snoc hy'.out];intro a ha;rcases List.mem_append.1 ha with ha | ha
       ·exact hE3.out.2 a ha
       ·rw [List.mem_singleton.1 ha]; exact hyv)
      clear hyv;go_wp2_with fail;go_roundw
      case rel => exact ⟨i + 1, 0, p2, by omega, by go_num, Hd (fun h => absurd he0.out h), Hd (fun _ => .inl ⟨rfl, hE3.out.1, hall.out⟩), hs3, ho3, hab3⟩
      case measure => simp [intOf]; omega
    ·have hdup : Hid ((e1' ≠ 0 -> e2 = e1' /\ p2 = p1') /\ (e1' = 0 -> (v1 ∈ ats.map (·.1) -> e2 = 4 /\ p2 = q + B) /\ (v1 ∉ ats.map (·.1) -> e2 = 0 /\ p2 = p1'))) := Hd (by
      refine ⟨hE1.out, fun h0 => ?_⟩;rcases hE2.out h0 with ⟨g1, g2, g3⟩ | ⟨g1, g2, g3⟩
      ·have hil : ats.length <= i := by
        rcases Nat.lt_or_ge i ats.length with h | h
        ·exact absurd ⟨h, g1⟩ hcond
        ·exact h
       rw [List.take_of_length_le hil] at g3;refine ⟨fun hm => ?_, fun _ => ⟨g1, g2⟩⟩;obtain ⟨a, ha, hav⟩ := List.mem_map.1 hm;exact absurd hav (g3 a ha)
      ·exact ⟨fun _ => ⟨g1, g2⟩, fun hm => absurd g3 hm⟩)
     go_upto_region 22 with fail
     go_cut [89] (fun v wx => v = .bool false /\ wx = wr)
     case first =>
      by_cases hil : i < ats.length
      ·have j1 : decide ((i : Int) < (ats.length : Int)) = true := by simp; omega
       have j2 : decide (i < ats.length) = true := by simp; omega
       have j3 : (e2 == 0) = false := by rw [beq_eq_false_iff_ne]; exact fun h => hcond ⟨hil, h⟩
       clear hcond hil;go_wp2_with fail
       go_meet
       exact ⟨rfl, rfl⟩
      ·have j1 : decide ((i : Int) < (ats.length : Int)) = false := by simp; omega
       have j2 : decide (i < ats.length) = false := by simp; omega
       clear hcond hil;go_wp2_with fail
       go_meet
       exact ⟨rfl, rfl⟩
     obtain ⟨rfl, hwc⟩ := hcut;subst hwc;clear hcond hE1 hE2 c2 z4;go_wp2_with fail
     (try simp only [Exit.inBlock, Exit.then])
     refine (rblanks_all _ b S q1' A c p2 hs.out.sr hq1' hS).mono ?_;rintro e we ⟨n3, rfl, hge, hq3, hse, hn3, _⟩;have hsE := Hd (hs.out.on F.out hge hse);have hoE := Hd (owS_kept ho.out hge F.out.bB);have habE := Hd (hab.out.on hge haBb.out);have hn3' : Hid (e2 = 0 -> q1' + n3 = q1' + blanks (S.drop q1')) := Hd (fun h => by rw [hn3 h]);clear hge hse hn3 hs ho hab;go_wp2_with fail;refine (rmust_all we b S (q1' + n3) A c p2 hsE.out.sr hq3 hS 61).mono ?_;rintro e wf ⟨u4, q4, e4, p4, rfl, hgf, hq4, hsf, hst4⟩;have hsF := Hd (hsE.out.on F.out hgf hsf);have hoF := Hd (owS_kept hoE.out hgf F.out.bB);have habF := Hd (habE.out.on hgf haBb.out);have hst4' := Hd hst4;clear hgf hsf hst4 hsE hoE habE;go_wp2_with fail;refine (rblanks_all wf b S q4 A c p4 hsF.out.sr hq4 hS).mono ?_;rintro e wg ⟨n5, rfl, hgg, hq5, hsg, hn5, _⟩;have hsG := Hd (hsF.out.on F.out hgg hsg);have hoG := Hd (owS_kept hoF.out hgg F.out.bB);have habG := Hd (habF.out.on hgg haBb.out);have hn5' : Hid (e4 = 0 -> q4 + n5 = q4 + blanks (S.drop q4)) := Hd (fun h => by rw [hn5 h]);clear hgg hsg hn5 hsF hoF habF;go_wp2_with fail;refine (rvalue_all wg b S (q4 + n5) A c p4 hsG.out.sr hq5 hS).mono ?_;rintro e wh ⟨v6, q6, e6, p6, rfl, hgh, hq6, hsh, hst6⟩;have hsH := Hd (hsG.out.on F.out hgh hsh);have hoH := Hd (owS_kept hoG.out hgh F.out.bB);have habH := Hd (habG.out.on hgh haBb.out);have hFn := Hd (hfinal.out _ _ _ _ _ _ _ _ _ _ _ _ _ _ _ hst1'.out hdup.out hn3'.out hst4'.out hn5'.out hst6);have m1 := habH.out.c1;have mf1 := habH.out.frozen 1;have habI := Hd (ab_set1 (v' := strOf v6) habH.out);have hbI : Below w.heap.size wh (wh.setCell ⟨aB, 1, none⟩ (.string (strOf v6))) := (Below.refl _ wh).setCell (p := ⟨aB, 1, none⟩) (Nat.le_trans F.out.wB haB.out) _
     have hsI := Hd (hsH.out.far F.out hbI (hsH.out.tb.on (grown_set wh ⟨aB, 1, none⟩ (.string (strOf v6))) haT2.out.symm) (hsH.out.rb.on (grown_set wh ⟨aB, 1, none⟩ (.string (strOf v6))) (by have := haB.out; have := F.out.b0; show T0 ≠ aB; omega)))
     have hoI : Hid (OwS AtEl 2 (wh.setCell ⟨aB, 1, none⟩ (.string (strOf v6))) B0 55 (.slice A5 ats.length c5) ats) := Hd (OwS.kept hoH.out (grown_set wh ⟨aB, 1, none⟩ (.string (strOf v6))) (by
      cases hv : (Value.slice A5 ats.length c5).ownBlock with
      | none => exact .inl rfl
      | some j =>
       right;intro e;injection e with e
       exact hrw.out j hv e) AtEl.to)
     clear hgh hsh hst6 hsG hoG habG hsH hoH habH hbI
     go_upto_region 30 with fail
     generalize wh.setCell ⟨aB, 1, none⟩ (.string (strOf v6)) = wI at habI hsI hoI ⊢;clear m1 mf1;have z4 := hsI.out.tb.cell 4;have a0 := habI.out.c0;have a1 := habI.out.c1;have hbJ := below_alloc wI (.cells #[.string (strOf v1), .string (strOf v6)] 55);have hlit : Sq AtEl 2 (wI.alloc (.cells #[.string (strOf v1), .string (strOf v6)] 55)) (some ⟨wI.heap.size, 0, none⟩) 1 1 [(v1, v6)] := sq_one wI [.string (strOf v1), .string (strOf v6)] (v1, v6) 55 (0, 0) rfl rfl;have hsJ := hsI.out.below hbJ;have hoJ := OwS.below hoI.out hbJ AtEl.to;have hlit' := Hd hlit;have hsJ' := Hd hsJ;have hoJ' := Hd hoJ;have hal9 : Hid (ats.length <= 65536) := Hd (by omega);clear hlit hsJ hoJ hbJ
     go_wp2_with (at_builtin; apply stop_here)
     refine Stop.go (append_sq _ 23 55 _ 32 Tryz.underlying23 info_attr (by rfl) (by decide) rfl _ _ rfl B0 _ ats rfl hoJ'.out _ 1 1 [(v1, v6)] rfl hlit'.out (fun vs x h u hu => by unfold AtEl at h; subst h; simp at hu; rcases hu with rfl | rfl <;> rfl) (fun _ _ vs x h => h) (ats.length + 1) rfl (by have := hal9.out; omega) (by have := hal9.out; omega) hsJ'.out.sz ?_);intro A6 c6 wK hoK hgK hbK _;have hsK := Hd (hsJ'.out.far F.out (hbK.mono F.out.wB) ((hbK.block T2 F.out.b2).trans hsJ'.out.tb) ((hbK.block T0 F.out.b0).trans hsJ'.out.rb));have z4 := hsK.out.tb.cell 4;have zf := hsK.out.tb.frozen 4;have hsL := Hd (hsK.out.set4 F.out (.slice A6 (ats.length + 1) c6));have hoL := Hd (owS_kept hoK (grown_set wK ⟨T2, 4, none⟩ (.slice A6 (ats.length + 1) c6)) F.out.b2)
     have hmm : Hid ((if e6 = 0 then S.length - q6 + 1 else 0) < gk) := Hd (by
      split
      ·rename_i h
       have := (hFn.out.1 h).2.2.2.1;omega
      ·omega)
     clear hoK hgK hbK hsK hsI hoI habI a0 a1 hsJ' hoJ' hlit';go_wp2_with fail
     go_roundg (if e6 = 0 then S.length - q6 + 1 else 0)
     case measure => exact hmm.out
     case rel =>
      refine ⟨q6, e6, p6, ats ++ [(v1, v6)], .slice A6 (ats.length + 1) c6, hq6, by rw [List.length_append]; simp; omega, fun h => by rw [if_pos h]; omega, Hd (fun h => ?_), Hd hFn.out.2, hsL, hoL⟩;obtain ⟨g1, g2, g3, g4, g5, g6⟩ := hFn.out.1 h;exact ⟨g1, g2, g3, by rw [List.length_append]; simp; omega, g6⟩
  ·have hBpos : 0 < B := by omega
   have hfinal : Hid (∀ (v1 v6 : Tx) (r1 r3 r4 r5 r6 s1 s2 s4 s6 : Nat) (t1 t2 t4 t6 : Int), Stp (name (S.drop (q + B))) (q + B) 0 p v1 r1 t1 s1 -> ((t1 ≠ 0 -> t2 = t1 /\ s2 = s1) /\ (t1 = 0 -> (v1 ∈ ats.map (·.1) -> t2 = 4 /\ s2 = q + B) /\ (v1 ∉ ats.map (·.1) -> t2 = 0 /\ s2 = s1))) -> (t2 = 0 -> r3 = r1 + blanks (S.drop r1)) -> Stp (eat [61] (S.drop r3)) r3 t2 s2 () r4 t4 s4 -> (t4 = 0 -> r5 = r4 + blanks (S.drop r4)) -> Stp (value (S.drop r5)) r5 t4 s4 v6 r6 t6 s6 -> (t6 = 0 -> e1 = 0 /\ s6 = p /\ k + 2 <= r6 /\ q < r6 /\ ats.length + 1 <= r6 /\ ∃ f, S.length - r6 < f /\ (tagF f (S.drop r6) (ats ++ [(v1, v6)])).shift (r6 - k) = TR) /\ (t6 ≠ 0 -> ∃ o, R = .bad t6 o /\ s6 = k + o)) := Hd (by
    intro v1 v6 r1 r3 r4 r5 r6 s1 s2 s4 s6 t1 t2 t4 t6 h1 h2 h3 h4 h5 h6;have hfa := tf_attr (f := f') (ats := ats) hB'.out hBpos hx'.out j6'.out j4'.out;rcases attr_steps h1 h2 h3 h4 h5 h6 with ⟨rfl, rfl, ha, hq4⟩ | ⟨hne, o, ha, rfl⟩
    ·rw [ha] at hfa;simp only at hfa;refine ⟨fun _ => ⟨he1'.out, rfl, by omega, by omega, by omega, f', by have := hf'.out; omega, ?_⟩, fun h => absurd rfl h⟩;rw [<- hr'.out, hfa, Out.shift_shift, show q + B + (r6 - (q + B)) = r6 by omega]
     congr 1
     omega
    ·rw [ha] at hfa;simp only at hfa
     refine ⟨fun h => absurd h hne, fun _ => ⟨q - k + (B + o), hbadR3.out _ _ (by rw [<- hr'.out, hfa]; rfl), by omega⟩⟩)
   have iB : ((B : Int) == 0) = false := by rw [beq_eq_false_iff_ne]; omega
   have hsZ := hs9;have hoZ := ho9;clear hB00 hs9 ho9;obtain ⟨wz, rfl⟩ : ∃ wz, wz = w9 := ⟨w9, rfl⟩;have c1 := hsZ.out.sr.c1;go_wp2_with fail;refine (rname_all wz b S (q + B) A c (p) hsZ.out.sr (by omega) hS).mono ?_;rintro e wc ⟨v1, q1', e1', p1', rfl, hgc, hq1', hsc, hst1⟩;have hsC := Hd (hsZ.out.on F.out hgc hsc);have hoC := Hd (owS_kept hoZ.out hgc F.out.bB);have hst1' := Hd hst1;clear hsc hgc hst1 hsZ hoZ c1;have hbA2 := below_alloc wc (.cells #[.string (strOf v1), .string ⟨#[]⟩] 55);have hAb1 := Hd (ab_new wc (strOf v1) ⟨#[]⟩);have hsD := Hd (hsC.out.below hbA2);have hoD := Hd (OwS.below hoC.out hbA2 AtEl.to);have haB : Hid (B0 <= wc.heap.size) := Hd hsC.out.sz;have hrw : Hid (∀ kk, (Value.slice A5 ats.length c5).ownBlock = some kk -> kk ≠ wc.heap.size) := Hd (fun kk h => by have := (hoC.out.lt kk h).2; omega);clear hbA2 hsC hoC;go_wp2_with fail;generalize wc.alloc (.cells #[.string (strOf v1), .string ⟨#[]⟩] 55) = wD at hAb1 hsD hoD ⊢;generalize wc.heap.size = aB at hAb1 haB hrw ⊢;have haBb : Hid (aB ≠ b) := Hd (by have := haB.out; have := F.out.bB; omega);have haT2 : Hid (aB ≠ T2) := Hd (by have := haB.out; have := F.out.b2; omega)
   go_loopw [8] (fun v8 wr => ∃ (i : Nat) (e2 : Int) (p2 : Nat), i <= ats.length /\ v8 = .int .i64 (i : Nat) /\ Hid (e1' ≠ 0 -> e2 = e1' /\ p2 = p1') /\ Hid (e1' = 0 -> (e2 = 0 /\ p2 = p1' /\ ∀ a ∈ ats.take i, a.1 ≠ v1) \/ (e2 = 4 /\ p2 = q + B /\ v1 ∈ ats.map (·.1))) /\ Hid (TgS w wr b T2 T0 B0 S A c q1' e2 p2 1 (at0 : Nat) (strOf nm) ⟨#[]⟩ (.slice A5 ats.length c5)) /\ Hid (OwS AtEl 2 wr B0 55 (.slice A5 ats.length c5) ats) /\ Hid (Ab wr aB (strOf v1) ⟨#[]⟩)) (fun v8 _ => ats.length - (intOf v8).toNat)
   case atStart => exact ⟨0, e1', p1', by omega, rfl, Hd (fun _ => ⟨rfl, rfl⟩), Hd (fun h => .inl ⟨h, rfl, by simp⟩), hsD, hoD, hAb1⟩
   case round =>
    clear hsD hoD hAb1;obtain ⟨i, e2, p2, hi, rfl, hE1, hE2, hs, ho, hab⟩ := hrel;have c2 := hs.out.sr.c2;have z4 := hs.out.tb.cell 4
    by_cases hcond : i < ats.length /\ e2 = 0
    ·obtain ⟨hlt2, he2⟩ := hcond;subst he2;have j1 : decide ((i : Int) < (ats.length : Int)) = true := by simp; omega
     have j2 : decide (i < ats.length) = true := by simp; omega
     have q2 : (i : Int) < (ats.length : Int) := (by omega);obtain ⟨ba, off, y, vs, rfl, _, hy, _, hv1, hc1⟩ := (OwS.sq' ho.out (by decide)).at_ hlt2;unfold AtEl at hv1;subst hv1;have m0 := hc1 0 _ rfl;rw [Nat.add_zero] at m0;have a0 := hab.out.c0;have hq : Hid (∀ z, Below wr.heap.size wr z -> z.cell? ⟨T2, 4, none⟩ = some (.slice (some ⟨ba, off, none⟩) ats.length c5) /\ z.cell? ⟨ba, off + i * 2, none⟩ = some (.string (strOf y.1)) /\ z.cell? ⟨aB, 0, none⟩ = some (.string (strOf v1))) := Hd fun z hz => ⟨cell_keep z4 hz, cell_keep m0 hz, cell_keep a0 hz⟩
     have hy' := Hd hy;have he0 : Hid (e1' = 0) := Hd (Classical.byContradiction fun h => h (by have := (hE1.out h).1; exact this.symm))
     have hE3 : Hid (p2 = p1' /\ ∀ a ∈ ats.take i, a.1 ≠ v1) := Hd (by
      rcases hE2.out he0.out with ⟨_, h1, h2⟩ | ⟨h, _⟩
      ·exact ⟨h1, h2⟩
      ·exact absurd h (by decide))
     clear hc1 m0 a0 hy hE1 hE2 hlt2;go_wp2_with fail;refine Pl.wp_region_plan 8 (.take 0 (.take 1 (.take 2 (.take 3 (.take 4 (.take 5 (.take 6 (.take 7 .done)))))))) (fun x => Below wr.heap.size wr x) (by kernel_rfl) (by kernel_rfl) (by exact below_drew wr) ?_;simp only [Pl.fill, Al_4, Al_5, Al_6, Al_7]
     iterate 8
      refine Pl.take_go ?_ (by rfl) (fun _ _ _ h => h) ?_ ?_
      rotate_left
      ·(intro x hSw; obtain ⟨s0, s1, s2⟩ := hq.out x hSw; go_simp; try with_reducible rfl)
      try simp only [Act.put, Al_1, Al_2, Al_3]
     refine Pl.done_go ?_;have hdr := below_drew wr;have hs3 := Hd (hs.out.below hdr);have ho3 := Hd (OwS.below ho.out hdr AtEl.to);have hab3 := Hd (hab.out.below hdr);clear hdr hq hs ho hab c2 z4
     have hcmp : ((strOf y.1).toList == (strOf v1).toList) = decide (y.1 = v1) := by
      have e : (strOf v1).toList = v1 := by rw [Lib.toList_data]; simp [strOf]
      rw [e, str_eqL]
     by_cases hyv : y.1 = v1
     ·rw [decide_eq_true hyv] at hcmp;have hmem : Hid (v1 ∈ ats.map (·.1)) := Hd (List.mem_map.2 ⟨y, List.mem_of_getElem? hy'.out, hyv⟩);clear hyv;go_wp2_with fail;have e3 : ((q : Int) + (B : Int)) = ((q + B : Nat) : Int) := by omega
      try rw [e3]
      clear e3;refine (rbad_any _ b S q1' A c p2 hs3.out.sr 4 (q + B)).mono ?_;rintro e wg ⟨rfl, hsg, hgg⟩;have hs4 := Hd (hs3.out.on F.out hgg hsg);have ho4 := Hd (owS_kept ho3.out hgg F.out.bB);have hab4 := Hd (hab3.out.on hgg haBb.out);clear hsg hgg hs3 ho3 hab3;go_wp2_with fail;go_roundw
      case rel => exact ⟨i + 1, 4, q + B, by omega, by go_num, Hd (fun h => absurd he0.out h), Hd (fun _ => .inr ⟨rfl, rfl, hmem.out⟩), hs4, ho4, hab4⟩
      case measure => simp [intOf]; omega
     ·rw [decide_eq_false hyv] at hcmp
      have hall : Hid (∀ a ∈ ats.take (i + 1), a.1 ≠ v1) := Hd (by
       rw [take_snoc hy'.out];intro a ha;rcases List.mem_append.1 ha with ha | ha
       ·exact hE3.out.2 a ha
       ·rw [List.mem_singleton.1 ha]; exact hyv)
      clear hyv;go_wp2_with fail;go_roundw
      case rel => exact ⟨i + 1, 0, p2, by omega, by go_num, Hd (fun h => absurd he0.out h), Hd (fun _ => .inl ⟨rfl, hE3.out.1, hall.out⟩), hs3, ho3, hab3⟩
      case measure => simp [intOf]; omega
    ·have hdup : Hid ((e1' ≠ 0 -> e2 = e1' /\ p2 = p1') /\ (e1' = 0 -> (v1 ∈ ats.map (·.1) -> e2 = 4 /\ p2 = q + B) /\ (v1 ∉ ats.map (·.1) -> e2 = 0 /\ p2 = p1'))) := Hd (by
      refine ⟨hE1.out, fun h0 => ?_⟩;rcases hE2.out h0 with ⟨g1, g2, g3⟩ | ⟨g1, g2, g3⟩
      ·have hil : ats.length <= i := by
        rcases Nat.lt_or_ge i ats.length with h | h
        ·exact absurd ⟨h, g1⟩ hcond
        ·exact h
       rw [List.take_of_length_le hil] at g3;refine ⟨fun hm => ?_, fun _ => ⟨g1, g2⟩⟩;obtain ⟨a, ha, hav⟩ := List.mem_map.1 hm;exact absurd hav (g3 a ha)
      ·exact ⟨fun _ => ⟨g1, g2⟩, fun hm => absurd g3 hm⟩)
     go_upto_region 22 with fail
     go_cut [89] (fun v wx => v = .bool false /\ wx = wr)
     case first =>
      by_cases hil : i < ats.length
      ·have j1 : decide ((i : Int) < (ats.length : Int)) = true := by simp; omega
       have j2 : decide (i < ats.length) = true := by simp; omega
       have j3 : (e2 == 0) = false := by rw [beq_eq_false_iff_ne]; exact fun h => hcond ⟨hil, h⟩
       clear hcond hil;go_wp2_with fail
       go_meet
       exact ⟨rfl, rfl⟩
      ·have j1 : decide ((i : Int) < (ats.length : Int)) = false := by simp; omega
       have j2 : decide (i < ats.length) = false := by simp; omega
       clear hcond hil;go_wp2_with fail
       go_meet
       exact ⟨rfl, rfl⟩
     obtain ⟨rfl, hwc⟩ := hcut;subst hwc;clear hcond hE1 hE2 c2 z4;go_wp2_with fail
     (try simp only [Exit.inBlock, Exit.then])
     refine (rblanks_all _ b S q1' A c p2 hs.out.sr hq1' hS).mono ?_;rintro e we ⟨n3, rfl, hge, hq3, hse, hn3, _⟩;have hsE := Hd (hs.out.on F.out hge hse);have hoE := Hd (owS_kept ho.out hge F.out.bB);have habE := Hd (hab.out.on hge haBb.out);have hn3' : Hid (e2 = 0 -> q1' + n3 = q1' + blanks (S.drop q1')) := Hd (fun h => by rw [hn3 h]);clear hge hse hn3 hs ho hab;go_wp2_with fail;refine (rmust_all we b S (q1' + n3) A c p2 hsE.out.sr hq3 hS 61).mono ?_;rintro e wf ⟨u4, q4, e4, p4, rfl, hgf, hq4, hsf, hst4⟩;have hsF := Hd (hsE.out.on F.out hgf hsf);have hoF := Hd (owS_kept hoE.out hgf F.out.bB);have habF := Hd (habE.out.on hgf haBb.out);have hst4' := Hd hst4;clear hgf hsf hst4 hsE hoE habE;go_wp2_with fail;refine (rblanks_all wf b S q4 A c p4 hsF.out.sr hq4 hS).mono ?_;rintro e wg ⟨n5, rfl, hgg, hq5, hsg, hn5, _⟩;have hsG := Hd (hsF.out.on F.out hgg hsg);have hoG := Hd (owS_kept hoF.out hgg F.out.bB);have habG := Hd (habF.out.on hgg haBb.out);have hn5' : Hid (e4 = 0 -> q4 + n5 = q4 + blanks (S.drop q4)) := Hd (fun h => by rw [hn5 h]);clear hgg hsg hn5 hsF hoF habF;go_wp2_with fail;refine (rvalue_all wg b S (q4 + n5) A c p4 hsG.out.sr hq5 hS).mono ?_;rintro e wh ⟨v6, q6, e6, p6, rfl, hgh, hq6, hsh, hst6⟩;have hsH := Hd (hsG.out.on F.out hgh hsh);have hoH := Hd (owS_kept hoG.out hgh F.out.bB);have habH := Hd (habG.out.on hgh haBb.out);have hFn := Hd (hfinal.out _ _ _ _ _ _ _ _ _ _ _ _ _ _ _ hst1'.out hdup.out hn3'.out hst4'.out hn5'.out hst6);have m1 := habH.out.c1;have mf1 := habH.out.frozen 1;have habI := Hd (ab_set1 (v' := strOf v6) habH.out);have hbI : Below w.heap.size wh (wh.setCell ⟨aB, 1, none⟩ (.string (strOf v6))) := (Below.refl _ wh).setCell (p := ⟨aB, 1, none⟩) (Nat.le_trans F.out.wB haB.out) _
     have hsI := Hd (hsH.out.far F.out hbI (hsH.out.tb.on (grown_set wh ⟨aB, 1, none⟩ (.string (strOf v6))) haT2.out.symm) (hsH.out.rb.on (grown_set wh ⟨aB, 1, none⟩ (.string (strOf v6))) (by have := haB.out; have := F.out.b0; show T0 ≠ aB; omega)))
     have hoI : Hid (OwS AtEl 2 (wh.setCell ⟨aB, 1, none⟩ (.string (strOf v6))) B0 55 (.slice A5 ats.length c5) ats) := Hd (OwS.kept hoH.out (grown_set wh ⟨aB, 1, none⟩ (.string (strOf v6))) (by
      cases hv : (Value.slice A5 ats.length c5).ownBlock with
      | none => exact .inl rfl
      | some j =>
       right;intro e;injection e with e
       exact hrw.out j hv e) AtEl.to)
     clear hgh hsh hst6 hsG hoG habG hsH hoH habH hbI
     go_upto_region 30 with fail
     generalize wh.setCell ⟨aB, 1, none⟩ (.string (strOf v6)) = wI at habI hsI hoI ⊢;clear m1 mf1;have z4 := hsI.out.tb.cell 4;have a0 := habI.out.c0;have a1 := habI.out.c1;have hbJ := below_alloc wI (.cells #[.string (strOf v1), .string (strOf v6)] 55);have hlit : Sq AtEl 2 (wI.alloc (.cells #[.string (strOf v1), .string (strOf v6)] 55)) (some ⟨wI.heap.size, 0, none⟩) 1 1 [(v1, v6)] := sq_one wI [.string (strOf v1), .string (strOf v6)] (v1, v6) 55 (0, 0) rfl rfl;have hsJ := hsI.out.below hbJ;have hoJ := OwS.below hoI.out hbJ AtEl.to;have hlit' := Hd hlit;have hsJ' := Hd hsJ;have hoJ' := Hd hoJ;have hal9 : Hid (ats.length <= 65536) := Hd (by omega);clear hlit hsJ hoJ hbJ
     go_wp2_with (at_builtin; apply stop_here)
     refine Stop.go (append_sq _ 23 55 _ 32 Tryz.underlying23 info_attr (by rfl) (by decide) rfl _ _ rfl B0 _ ats rfl hoJ'.out _ 1 1 [(v1, v6)] rfl hlit'.out (fun vs x h u hu => by unfold AtEl at h; subst h; simp at hu; rcases hu with rfl | rfl <;> rfl) (fun _ _ vs x h => h) (ats.length + 1) rfl (by have := hal9.out; omega) (by have := hal9.out; omega) hsJ'.out.sz ?_);intro A6 c6 wK hoK hgK hbK _;have hsK := Hd (hsJ'.out.far F.out (hbK.mono F.out.wB) ((hbK.block T2 F.out.b2).trans hsJ'.out.tb) ((hbK.block T0 F.out.b0).trans hsJ'.out.rb));have z4 := hsK.out.tb.cell 4;have zf := hsK.out.tb.frozen 4;have hsL := Hd (hsK.out.set4 F.out (.slice A6 (ats.length + 1) c6));have hoL := Hd (owS_kept hoK (grown_set wK ⟨T2, 4, none⟩ (.slice A6 (ats.length + 1) c6)) F.out.b2)
     have hmm : Hid ((if e6 = 0 then S.length - q6 + 1 else 0) < gk) := Hd (by
      split
      ·rename_i h
       have := (hFn.out.1 h).2.2.2.1;omega
      ·omega)
     clear hoK hgK hbK hsK hsI hoI habI a0 a1 hsJ' hoJ' hlit';go_wp2_with fail
     go_roundg (if e6 = 0 then S.length - q6 + 1 else 0)
     case measure => exact hmm.out
     case rel =>
      refine ⟨q6, e6, p6, ats ++ [(v1, v6)], .slice A6 (ats.length + 1) c6, hq6, by rw [List.length_append]; simp; omega, fun h => by rw [if_pos h]; omega, Hd (fun h => ?_), Hd hFn.out.2, hsL, hoL⟩;obtain ⟨g1, g2, g3, g4, g5, g6⟩ := hFn.out.1 h;exact ⟨g1, g2, g3, by rw [List.length_append]; simp; omega, g6⟩
end
end Go.Proofs.YtokdnhdfmgfkeaaGreatDoor.Xl
end

section
namespace Go.Proofs.YtokdnhdfmgfkeaaGreatDoor.Xl
open Go.RowKit UtfW Er
theorem map_at {s t : Tx} (h : ∀ j, j < s.length -> (s[j]?).map low = t[j]?) (hl : s.length = t.length) : s.map low = t := by
 refine List.ext_getElem? fun j => ?_
 rw [List.getElem?_map]
 by_cases hj : j < s.length
 ·exact h j hj
 ·rw [List.getElem?_eq_none (by omega), List.getElem?_eq_none (by omega)];rfl
set_option maxHeartbeats 1000000 in
set_option maxRecDepth 100000 in
theorem rsame_any (w : World) (s t : Tx) (hs : s.length <= 1000000) (ht : t.length <= 1000000) :
  Calls Tryz.prog 137 #[.string (strOf s), .string (strOf t)] w fun e w' => e = .returned (.bool (decide (s.map low = t))) /\ w' = w := by
 have hsz : (strOf s).size = s.length := strOf_size' s;have htz : (strOf t).size = t.length := strOf_size' t;obtain ⟨R, hR⟩ : ∃ R, decide (s.map low = t) = R := ⟨_, rfl⟩;rw [hR];have hR' := Hd hR;clear hR
 by_cases hl : s.length = t.length
 ·have j0 : ((s.length : Int) != (t.length : Int)) = false := by rw [hl]; simp
  have hl' := Hd hl;have hls : t.length = s.length := hl.symm;rw [hls] at j0 htz;clear hl
  go_enter Tryz.func137, Tryz.ntmps137
  go_wp2_with fail
  go_loopw [5, 6] (fun v5 v6 wr => wr = w /\ ∃ i : Nat, i <= s.length /\ v5 = .int .i64 (i : Nat) /\ Hid (∀ j, j < i -> (s[j]?).map low = t[j]?)) (fun v5 _ _ => s.length - (intOf v5).toNat)
  case atStart => exact ⟨rfl, 0, by omega, rfl, Hd (fun j hj => absurd hj (by omega))⟩
  case round =>
   obtain ⟨hwr, i, hi, rfl, hok⟩ := hrel;subst hwr
   by_cases hlt : i < s.length
   ·have i1 : decide ((i : Int) < (s.length : Int)) = true := by simp; omega
    have i2 : decide (i < s.length) = true := by simp; omega
    have q1 : (i : Int) < (s.length : Int) := (by omega);have hx : s[i]? = some s[i] := List.getElem?_eq_getElem hlt;generalize s[i] = x at hx;have hlt' : i < (strOf s).size := (by omega);have hgx := str_at hx hlt';have hy : t[i]? = some t[i] := List.getElem?_eq_getElem (by have := hl'.out; omega);generalize t[i] = y at hy;have hlt2 : i < (strOf t).size := (by omega);have hgy := str_at hy hlt2;have hx' := Hd hx;have hy' := Hd hy;have hxb : x.toNat < 256 := x.toNat_lt;clear hx hy
    have hon : low x = y -> Hid (∀ j, j < i + 1 -> (s[j]?).map low = t[j]?) := fun h => Hd fun j hj => by
     by_cases hji : j = i
     ·rw [hji, hx'.out, hy'.out, <- h]; rfl
     ·exact hok.out j (by omega)
    have hoff : low x ≠ y -> R = false := fun h => by
     rw [<- hR'.out, decide_eq_false_iff_not];intro e;have := congrArg (fun z : Tx => z[i]?) e;simp only [List.getElem?_map] at this;rw [hx'.out, hy'.out] at this;injection this with this;exact h this
    have hon' := Hd hon;have hoff' := Hd hoff;clear hon hoff
    by_cases hg : 65 <= x.toNat /\ x.toNat <= 90
    ·have g1 : decide ((65 : Int) <= (x.toNat : Int)) = true := by simp; omega
     have g2 : decide ((x.toNat : Int) <= 90) = true := by simp; omega
     have hlow : (low x).toNat = x.toNat + 32 := by
      unfold low;rw [if_pos hg, UInt8.toNat_add]
      show (x.toNat + 32) % 256 = _
      omega
     have h8 : ((x.toNat : Int) + 32) % 256 = ((low x).toNat : Int) := by rw [hlow]; omega
     have h9 : wrap64 (((low x).toNat : Nat) : Int) = ((low x).toNat : Int) := by have := (low x).toNat_lt; unfold wrap64; omega
     clear hlow hg
     by_cases hxy : low x = y
     ·have hok2 := hon'.out hxy;have j1 : (((low x).toNat : Int) != (y.toNat : Int)) = false := by rw [hxy]; simp
      clear hxy;go_wp2_with fail;go_roundw
      case rel => exact ⟨by first | rfl | trivial, i + 1, by omega, by go_num, hok2⟩
      case measure => simp [intOf]; omega
     ·have hRf : R = false := hoff'.out hxy;subst hRf
      have j1 : (((low x).toNat : Int) != (y.toNat : Int)) = true := by 
       rw [bne_iff_ne];intro e;exact hxy (UInt8.toNat_inj.1 (by omega))
      clear hxy;go_wp2_with fail
      (try simp only [Exit.inBlock, Exit.then])
      go_ret;exact ⟨rfl, rfl⟩
    ·have hlow : low x = x := by unfold low; rw [if_neg hg]
     have hlw := Hd hlow;clear hlow
     by_cases g1 : 65 <= x.toNat
     ·have g1' : decide ((65 : Int) <= (x.toNat : Int)) = true := by simp; omega
      have g2 : decide ((x.toNat : Int) <= 90) = false := by simp; omega
      clear hg
      by_cases hxy : low x = y
      ·have hok2 := hon'.out hxy;have j1 : ((x.toNat : Int) != (y.toNat : Int)) = false := by rw [<- hxy, hlw.out]; simp
       clear hxy;go_wp2_with fail;go_roundw
       case rel => exact ⟨by first | rfl | trivial, i + 1, by omega, by go_num, hok2⟩
       case measure => simp [intOf]; omega
      ·have hRf : R = false := hoff'.out hxy;subst hRf
       have j1 : ((x.toNat : Int) != (y.toNat : Int)) = true := by 
        rw [bne_iff_ne];intro e;exact hxy (by rw [hlw.out]; exact UInt8.toNat_inj.1 (by omega))
       clear hxy;go_wp2_with fail
       (try simp only [Exit.inBlock, Exit.then])
       go_ret;exact ⟨rfl, rfl⟩
     ·have g1' : decide ((65 : Int) <= (x.toNat : Int)) = false := by simp; omega
      clear hg
      by_cases hxy : low x = y
      ·have hok2 := hon'.out hxy;have j1 : ((x.toNat : Int) != (y.toNat : Int)) = false := by rw [<- hxy, hlw.out]; simp
       clear hxy;go_wp2_with fail;go_roundw
       case rel => exact ⟨by first | rfl | trivial, i + 1, by omega, by go_num, hok2⟩
       case measure => simp [intOf]; omega
      ·have hRf : R = false := hoff'.out hxy;subst hRf
       have j1 : ((x.toNat : Int) != (y.toNat : Int)) = true := by 
        rw [bne_iff_ne];intro e;exact hxy (by rw [hlw.out]; exact UInt8.toNat_inj.1 (by omega))
       clear hxy;go_wp2_with fail
       (try simp only [Exit.inBlock, Exit.then])
       go_ret;exact ⟨rfl, rfl⟩
   ·have i1 : decide ((i : Int) < (s.length : Int)) = false := by simp; omega
    have i2 : decide (i < s.length) = false := by simp; omega
    have hRt : R = true := by
     rw [<- hR'.out, decide_eq_true_eq];exact map_at (fun j hj => hok.out j (by omega)) hl'.out
    subst hRt;go_wp2_with fail
    (try simp only [Exit.inBlock, Exit.then])
    go_ret;exact ⟨rfl, rfl⟩
 ·have j0 : ((s.length : Int) != (t.length : Int)) = true := by rw [bne_iff_ne]; omega
  have hRf : R = false := by
   rw [<- hR'.out, decide_eq_false_iff_not];intro e;apply hl;rw [<- e, List.length_map]
  subst hRf;clear hl
  go_enter Tryz.func137, Tryz.ntmps137
  go_wp2_with fail;go_ret;exact ⟨rfl, rfl⟩
set_option maxRecDepth 100000 in
theorem rskip_any (w : World) (s : Tx) (k : Nat) (hk : k <= s.length) (hs : s.length <= 1000000) :
  Calls Tryz.prog 135 #[.string (strOf s), .int .i64 (k : Nat)] w fun e w' => e = .returned (.int .i64 ((k + blanks (s.drop k) : Nat) : Int)) /\ w' = w := by
 have hsz : (strOf s).size = s.length := strOf_size' s;obtain ⟨R, hR⟩ : ∃ R, k + blanks (s.drop k) = R := ⟨_, rfl⟩;rw [hR];have hR' := Hd hR;clear hR
 go_enter Tryz.func135, Tryz.ntmps135
 go_wp2_with fail
 go_loopw [1] (fun v1 wr => wr = w /\ ∃ q : Nat, k <= q /\ q <= s.length /\ v1 = .int .i64 (q : Nat) /\ Hid (q + blanks (s.drop q) = R)) (fun v1 _ => s.length - (intOf v1).toNat)
 case atStart => exact ⟨rfl, k, by omega, hk, rfl, Hd hR'.out⟩
 case round =>
  obtain ⟨hwr, q, hkq, hq, rfl, hr⟩ := hrel;subst hwr
  by_cases hlt : q < s.length
  ·have i1 : decide ((q : Int) < (s.length : Int)) = true := by simp; omega
   have i2 : decide (q < s.length) = true := by simp; omega
   have q1 : (q : Int) < (s.length : Int) := by omega
   have hx : s[q]? = some s[q] := List.getElem?_eq_getElem hlt;generalize s[q] = x at hx;have hlt' : q < (strOf s).size := by omega
   have hgx := str_at hx hlt';have hx' := Hd hx;clear hx;have hw := wrap32_byte x;go_wp2_with fail;refine (refblank_any _ _).mono ?_;rintro e w3 ⟨rfl, hw3⟩;subst hw3
   cases hbl : Qx.blank x with
   | true =>
    have hbl' : Blank (x.toNat : Int) = true := hbl;have hr2 : Hid (q + 1 + blanks (s.drop (q + 1)) = R) := Hd (by have := hr.out; rw [blanks_on hx'.out hbl] at this; omega);clear hbl;rw [hbl'];go_wp2_with fail;go_roundw
    case rel => exact ⟨by first | rfl | trivial, q + 1, by omega, by omega, by go_num, hr2⟩
    case measure => simp [intOf]; omega
   | false =>
    have hbl' : Blank (x.toNat : Int) = false := hbl;have hr2 : Hid (q = R) := Hd (by have := hr.out; rw [blanks_off hx'.out hbl] at this; omega);clear hbl;rw [hbl'];go_wp2_with fail
    (try simp only [Exit.inBlock, Exit.then])
    go_ret;exact ⟨ret_int (by rw [<- hr2.out]), rfl⟩
  ·have i1 : decide ((q : Int) < (s.length : Int)) = false := by simp; omega
   have i2 : decide (q < s.length) = false := by simp; omega
   have hr2 : Hid (q = R) := Hd (by have := hr.out; rw [blanks_end (by omega)] at this; omega);go_wp2_with fail
   (try simp only [Exit.inBlock, Exit.then])
   go_ret;exact ⟨ret_int (by rw [<- hr2.out]), rfl⟩
def begF (p r : Tx) : Bool := decide (r.length < p.length) && Lib.hasPrefix p r
theorem begF_eq {p r : Tx} (h : r.length < p.length) : Lib.hasPrefix r (p.take r.length) = begF p r := by
 unfold begF;rw [decide_eq_true h, Bool.true_and, Bool.eq_iff_iff];constructor
 ·intro h1;obtain ⟨x, hx⟩ := hp_cut h1;have hl := congrArg List.length hx;rw [List.length_append, List.length_take] at hl;have hx0 : x = [] := List.length_eq_zero_iff.1 (by omega);rw [hx0, List.append_nil] at hx;rw [hx];exact List.isPrefixOf_iff_prefix.2 ⟨p.drop r.length, List.take_append_drop _ _⟩
 ·intro h1;obtain ⟨x, hx⟩ := List.isPrefixOf_iff_prefix.1 h1;have : p.take r.length = r := by rw [<- hx]; simp
  rw [this];exact List.isPrefixOf_iff_prefix.2 (List.prefix_refl r)
theorem str_extract (p : Tx) (n : Nat) : (strOf p).extract 0 n = strOf (p.take n) := by
 apply ByteArray.ext;simp [strOf]
section
variable (w : World) (b : Nat) (S : Tx) (k : Nat) (A : Option Addr) (c : Nat)
set_option maxRecDepth 100000 in
theorem rbegins_any {e0 : Int} (pl : Nat) (h : Sr w b S k A c e0 pl) (hk : k <= S.length) (hS : S.length <= 65536) (p : Tx) (hp : p.length <= 100) :
    Calls Tryz.prog 140 #[.pointer (some ⟨b, 0, none⟩), .string (strOf p)] w fun e w' => e = .returned (.bool (begF p (S.drop k))) /\ Below w.heap.size w w' := by
  have hsz : (strOf p).size = p.length := strOf_size' p;have h' := Hd h;clear h;obtain ⟨R, hR⟩ : ∃ R, begF p (S.drop k) = R := ⟨_, rfl⟩;rw [hR];have hR' := Hd hR;clear hR;obtain ⟨N, hN⟩ : ∃ N, S.length = k + N := ⟨S.length - k, by omega⟩;have hNI : (S.length : Int) - (k : Int) = (N : Int) := by omega
  have hN' := Hd hN;have hNb : N <= 65536 := by omega
  have hdr := below_drew w;have hs2 := Hd (h'.out.below hdr);have hdr' := Hd hdr;clear hdr hN
  by_cases hlt : N < p.length
  · have i1 : decide ((N : Int) < (p.length : Int)) = true := by simp; omega
    have i2 : decide (N < p.length) = true := by simp; omega
    have q1 : (0 : Int) <= (N : Int) /\ (N : Int) <= (p.length : Int) := ⟨by omega, by omega⟩;have q2 : N <= p.length := (by omega);have hex := str_extract p N
    have hres : Hid (Lib.hasPrefix (S.drop k) (p.take N) = R) := Hd (by
      have hl : (S.drop k).length = N := by rw [List.length_drop]; have := hN'.out; omega
      rw [<- hR'.out, <- begF_eq (by omega), hl])
    go_enter Tryz.func140, Tryz.ntmps140
    go_wp2_with fail;refine Pl.wp_region_plan 9 (.take 0 (.take 1 (.take 2 (.take 3 (.take 4 (.take 5 (.take 6 (.take 7 (.take 8 .done))))))))) (fun x => Below w.heap.size w x) (by kernel_rfl) (by kernel_rfl) (by exact (below_drew w)) ?_;simp only [Pl.fill, Al_4, Al_5, Al_6, Al_7]
    iterate 9
      first
      | (refine Pl.take_go ?_ (by rfl) (fun _ _ _ h => h) ?_ ?_
         rotate_left
         · (intro x hSw; have s0 := (h'.out.below hSw).c0; have s1 := (h'.out.below hSw).c1; go_simp; try with_reducible rfl)
         (try simp only [Act.put, Al_1, Al_2, Al_3]))
      | (refine Pl.take_skip (by rfl) (fun _ _ _ h => h) ?_
         (try simp only [Act.put, Al_1, Al_2, Al_3]))
    refine Pl.done_go ?_;go_wp2_with fail;refine (rhas_any w.drew b S k A c pl hs2.out (p.take N) (by rw [List.length_take]; omega) (by omega)).mono ?_;rintro e w3 ⟨rfl, hb3⟩;rw [hres.out];have hb4 := Hd (hdr'.out.trans (hb3.mono hdr'.out.size));clear hb3;go_wp2_with fail;go_ret;exact ⟨rfl, hb4.out⟩
  · have i1 : decide ((N : Int) < (p.length : Int)) = false := by simp; omega
    have i2 : decide (N < p.length) = false := by simp; omega
    have hRf : R = false := by
      rw [<- hR'.out];unfold begF;rw [decide_eq_false (by rw [List.length_drop]; have := hN'.out; omega), Bool.false_and]
    subst hRf;clear hlt
    go_enter Tryz.func140, Tryz.ntmps140
    go_wp2_with fail;refine Pl.wp_region_plan 9 (.take 0 (.take 1 (.take 2 (.take 3 (.take 4 (.take 5 (.take 6 (.take 7 (.take 8 .done))))))))) (fun x => Below w.heap.size w x) (by kernel_rfl) (by kernel_rfl) (by exact (below_drew w)) ?_;simp only [Pl.fill, Al_4, Al_5, Al_6, Al_7]
    iterate 9
      first
      | (refine Pl.take_go ?_ (by rfl) (fun _ _ _ h => h) ?_ ?_
         rotate_left
         · (intro x hSw; have s0 := (h'.out.below hSw).c0; have s1 := (h'.out.below hSw).c1; go_simp; try with_reducible rfl)
         (try simp only [Act.put, Al_1, Al_2, Al_3]))
      | (refine Pl.take_skip (by rfl) (fun _ _ _ h => h) ?_
         (try simp only [Act.put, Al_1, Al_2, Al_3]))
    refine Pl.done_go ?_;go_wp2_with fail;go_ret;exact ⟨rfl, hdr'.out⟩
end
end Go.Proofs.YtokdnhdfmgfkeaaGreatDoor.Xl
end

section
namespace Go.Proofs.YtokdnhdfmgfkeaaGreatDoor.Xl
open Go.RowKit UtfW Er
theorem TgS.putV {w0 w : World} {b T2 T0 B0 : Nat} {S : Tx} {A : Option Addr} {c q : Nat} {e : Int} {pl : Nat} {kd at_ : Int} {nm tx : ByteArray} {va : Value} {k0 pl0 : Nat} {kd' at' : Int} {nm' tx' : ByteArray} {va' : Value} {E : Nat} {ats : List At}
  (F : TgF w0 b T2 T0 B0 S k0 A c pl0) (h : TgS w0 w b T2 T0 B0 S A c q e pl kd at_ nm tx va) (ho : OwS AtEl 2 w B0 E va' ats) :
  Tb (putTok w T0 kd' at' nm' tx' va') T0 kd' at' nm' tx' va' /\ w0.grownBy (putTok w T0 kd' at' nm' tx' va') (some b) /\ Sr (putTok w T0 kd' at' nm' tx' va') b S q A c e pl /\ OwS AtEl 2 (putTok w T0 kd' at' nm' tx' va') w0.heap.size E va' ats := by
 have hfar := F.h0.far h.gr h.sr (below_put (Below.refl w0.heap.size w) F.t0 kd' at' nm' tx' va');refine ⟨tb_set h.rb, hfar.2, hfar.1, ?_⟩;refine OwS.low (OwS.kept ho (grown_put w T0 kd' at' nm' tx' va') ?_ AtEl.to) F.wB
 cases hv : va'.ownBlock with
 | none => exact .inl rfl
 | some j =>
  right;have := (ho.lt j hv).1;have := F.b0;intro e;injection e with e;omega
theorem strOf_any (O : ByteArray) : ∃ o, O = strOf o := ⟨O.data.toList, by apply ByteArray.ext; simp [strOf]⟩
section
variable {S : Tx} {k : Nat} {x : UInt8}
theorem hp2 {a b : UInt8} : Lib.hasPrefix (S.drop k) [a, b] = true ↔ S[k]? = some a /\ S[k + 1]? = some b := by
 rw [hp_iff];constructor
 ·intro h;have h0 := h 0 (by simp);have h1 := h 1 (by simp);rw [List.getElem?_drop] at h0 h1;exact ⟨h0, h1⟩
 ·rintro ⟨h0, h1⟩ m hm;rw [List.getElem?_drop];rcases (by simp at hm; omega : m = 0 \/ m = 1) with rfl | rfl
  ·exact h0
  ·exact h1
theorem head_at (hx : S[k]? = some x) : (S.drop k).head? = some x := by rw [drop_at hx]; rfl
theorem tk_chars (hx : S[k]? = some x) (h : x ≠ 60) : token (S.drop k) = chars (S.drop k) := by
 unfold token;rw [if_pos (by rw [head_at hx]; exact fun e => h (by injection e))]
theorem hp_short {r p q : Tx} (h : Lib.hasPrefix r (p ++ q) = true) : Lib.hasPrefix r p = true := by
 obtain ⟨y, rfl⟩ := hp_cut h;exact List.isPrefixOf_iff_prefix.2 ⟨q ++ y, by rw [List.append_assoc]⟩
theorem tk_mark (hx : S[k]? = some 60) (h : S[k + 1]? = some 33) : token (S.drop k) = mark (S.drop k) := by
 unfold token;rw [if_neg (by rw [head_at hx]; simp), if_pos (hp2.2 ⟨hx, h⟩)]
theorem tk_com (hx : S[k]? = some 60) (h : Lib.hasPrefix (S.drop k) [60, 33, 45, 45] = true) : token (S.drop k) = comment (S.drop k) := by
 rw [tk_mark hx (hp2.1 (hp_short (p := [60, 33]) (q := [45, 45]) h)).2, mark_com h]
theorem tk_cd (hx : S[k]? = some 60) (h : Lib.hasPrefix (S.drop k) [60, 33, 45, 45] = false) (h2 : Lib.hasPrefix (S.drop k) [60, 33, 91, 67, 68, 65, 84, 65, 91] = true) : token (S.drop k) = cdata (S.drop k) := by
 rw [tk_mark hx (hp2.1 (hp_short (p := [60, 33]) (q := [91, 67, 68, 65, 84, 65, 91]) h2)).2, mark_cd h h2]
theorem begF_of {p r : Tx} (h : Lib.hasPrefix r p = false) : begF p r = Lib.hasPrefix p r := by
 unfold begF
 cases hp : Lib.hasPrefix p r with
 | false => simp
 | true =>
  rw [Bool.and_true, decide_eq_true_eq];obtain ⟨y, hy⟩ := List.isPrefixOf_iff_prefix.1 hp;have hl := congrArg List.length hy;rw [List.length_append] at hl;rcases Nat.lt_or_ge r.length p.length with h1 | h1
  ·exact h1
  ·exfalso;have hy0 : y = [] := List.length_eq_zero_iff.1 (by omega);rw [hy0, List.append_nil] at hy;rw [hy] at h;have : Lib.hasPrefix p p = true := List.isPrefixOf_iff_prefix.2 (List.prefix_refl p);rw [this] at h;cases h
theorem tk_bang (hx : S[k]? = some 60) (h1 : S[k + 1]? = some 33) (h : Lib.hasPrefix (S.drop k) [60, 33, 45, 45] = false) (h2 : Lib.hasPrefix (S.drop k) [60, 33, 91, 67, 68, 65, 84, 65, 91] = false) :
  token (S.drop k) = if (begF [60, 33, 45, 45] (S.drop k) || begF [60, 33, 91, 67, 68, 65, 84, 65, 91] (S.drop k)) = true then .bad 6 (S.length - k) else .bad 2 0 := by
 rw [tk_mark hx h1, begF_of h, begF_of h2]
 by_cases hc : (Lib.hasPrefix [60, 33, 45, 45] (S.drop k) || Lib.hasPrefix [60, 33, 91, 67, 68, 65, 84, 65, 91] (S.drop k)) = true
 ·rw [if_pos hc, mark_end h h2 (by simpa using hc)]
 ·rw [if_neg hc];rw [Bool.not_eq_true, Bool.or_eq_false_iff] at hc;exact mark_off h h2 hc.1 hc.2
theorem tk_pi (hx : S[k]? = some 60) (h1 : S[k + 1]? = some 63) : token (S.drop k) = instr (S.drop k) := by
 unfold token;rw [if_neg (by rw [head_at hx]; simp), if_neg (by rw [hp2, h1]; simp), if_pos (hp2.2 ⟨hx, h1⟩)]
theorem tk_end (hx : S[k]? = some 60) (h1 : S[k + 1]? = some 47) : token (S.drop k) = endT (S.drop k) := by
 unfold token;rw [if_neg (by rw [head_at hx]; simp), if_neg (by rw [hp2, h1]; simp), if_neg (by rw [hp2, h1]; simp), if_pos (hp2.2 ⟨hx, h1⟩)]
theorem cF_ne {y : UInt8} (h : S[k]? ≠ some y) : (cF S k == (y.toNat : Int)) = false := by
 rw [beq_eq_false_iff_ne];intro e;apply h;unfold cF at e
 split at e
 ·omega
 ·rename_i z hz
  rw [hz]
  congr 1
  exact UInt8.toNat_inj.1 (by omega)
theorem tk_tag (hx : S[k]? = some 60) (h1 : S[k + 1]? ≠ some 33) (h2 : S[k + 1]? ≠ some 63) (h3 : S[k + 1]? ≠ some 47) : token (S.drop k) = tag (S.drop k) := by
 unfold token;rw [if_neg (by rw [head_at hx]; simp), if_neg (by rw [hp2]; exact fun h => h1 h.2), if_neg (by rw [hp2]; exact fun h => h2 h.2), if_neg (by rw [hp2]; exact fun h => h3 h.2)]
def chG : Out Tx -> Out Tok
 | .bad c o => .bad c o
 | .ok x n => .ok ⟨4, 0, [], x, []⟩ n
theorem chars_eq : chars (S.drop k) = chG (textF (S.length - k + 1) (S.drop k) []) := by
 unfold chars;rw [List.length_drop]
 cases textF (S.length - k + 1) (S.drop k) [] <;> rfl
theorem eat_two {a b : UInt8} {r : Tx} : eat [a, b] r = match eat [a] r with
 | .bad c o => .bad c o
 | .ok _ _ => (eat [b] (r.drop 1)).shift 1 := by
 cases r with
 | nil => rfl
 | cons y t =>
  rw [eat, eat]
  by_cases h : y = a
  ·rw [if_pos h, if_pos h, eat];rfl
  ·rw [if_neg h, if_neg h]
end
theorem instr_steps {S nm : Tx} {k q1 p1 p2 q2 n3 q4 p4 q5 p5 pl : Nat} {e1 e2 e4 e5 : Int}
  (h1 : Stp (name (S.drop (k + 2))) (k + 2) 0 pl nm q1 e1 p1)
  (h2 : (e1 ≠ 0 -> e2 = e1 /\ p2 = p1) /\ (e1 = 0 -> (nm.map low = [120, 109, 108] -> e2 = 2 /\ p2 = k + 2) /\ (nm.map low ≠ [120, 109, 108] -> e2 = 0 /\ p2 = p1))) (hq2 : q2 = q1)
  (h3 : (e2 = 0 -> n3 = blanks (S.drop q2)) /\ (e2 ≠ 0 -> n3 = 0)) (hn : n3 = 0)
  (h4 : Stp (eat [63] (S.drop (q2 + n3))) (q2 + n3) e2 p2 () q4 e4 p4)
  (h5 : Stp (eat [62] (S.drop q4)) q4 e4 p4 () q5 e5 p5) :
  match instr (S.drop k) with
  | .bad cd o => e5 = cd /\ cd ≠ 0 /\ p5 = k + o
  | .ok t n => e5 = 0 /\ p5 = pl /\ q5 = k + n /\ t = ⟨7, 0, nm, [], []⟩ := by
 subst hq2;subst hn;rw [Nat.add_zero] at h4;unfold instr;rw [List.drop_drop];rcases h1.2 rfl with ⟨cd, o, hx, rfl, hc, rfl⟩ | ⟨n, hx, rfl, rfl, rfl⟩
 ·obtain ⟨rfl, rfl⟩ := h2.1 hc;obtain ⟨rfl, rfl, _⟩ := h4.1 hc;obtain ⟨rfl, rfl, _⟩ := h5.1 hc;rw [hx];exact ⟨rfl, hc, by omega⟩
 ·rw [hx];simp only
  by_cases hm : nm.map low = [120, 109, 108]
  ·obtain ⟨rfl, rfl⟩ := (h2.2 rfl).1 hm;obtain ⟨rfl, rfl, _⟩ := h4.1 (by decide);obtain ⟨rfl, rfl, _⟩ := h5.1 (by decide);rw [if_pos hm];exact ⟨rfl, by decide, rfl⟩
  ·obtain ⟨rfl, rfl⟩ := (h2.2 rfl).2 hm;have hb := h3.1 rfl;rw [if_neg hm, if_pos (by rw [List.drop_drop, <- Nat.add_assoc]; exact hb.symm), List.drop_drop, <- Nat.add_assoc, eat_two];rcases h4.2 rfl with ⟨cd, o, he, rfl, hc, rfl⟩ | ⟨m, he, rfl, rfl, rfl⟩
   ·obtain ⟨rfl, rfl, _⟩ := h5.1 hc;rw [he];exact ⟨rfl, hc, by omega⟩
   ·have hm1 : m = 1 := (eat_len he).1;subst hm1;rw [he];simp only [List.drop_drop];rcases h5.2 rfl with ⟨cd, o, he5, rfl, hc, rfl⟩ | ⟨m, he5, rfl, rfl, rfl⟩
    ·rw [he5];exact ⟨rfl, hc, by show k + 2 + n + 1 + o = k + (2 + n + (1 + o)); omega⟩
    ·rw [he5];exact ⟨rfl, rfl, by show k + 2 + n + 1 + m = k + (2 + n + (1 + m)); omega, rfl⟩
theorem instr_text {S nm : Tx} {k q1 p1 p2 q2 n3 pl : Nat} {e1 e2 : Int}
  (h1 : Stp (name (S.drop (k + 2))) (k + 2) 0 pl nm q1 e1 p1)
  (h2 : (e1 ≠ 0 -> e2 = e1 /\ p2 = p1) /\ (e1 = 0 -> (nm.map low = [120, 109, 108] -> e2 = 2 /\ p2 = k + 2) /\ (nm.map low ≠ [120, 109, 108] -> e2 = 0 /\ p2 = p1))) (hq2 : q2 = q1)
  (h3 : (e2 = 0 -> n3 = blanks (S.drop q2)) /\ (e2 ≠ 0 -> n3 = 0)) (hn : n3 ≠ 0) :
  e2 = 0 /\ p2 = pl /\ k + 2 <= q2 /\ instr (S.drop k) = match upto [63, 62] (S.drop (q2 + n3)) with
   | .bad c o => .bad c (q2 + n3 - k + o)
   | .ok x m => .ok ⟨7, 0, nm, Utf.lines x, []⟩ (q2 + n3 - k + m) := by
 subst hq2;rcases h1.2 rfl with ⟨cd, o, hx, rfl, hc, rfl⟩ | ⟨n, hx, rfl, rfl, rfl⟩
 ·obtain ⟨rfl, rfl⟩ := h2.1 hc;exact absurd (h3.2 hc) hn
 ·by_cases hm : nm.map low = [120, 109, 108]
  ·obtain ⟨rfl, rfl⟩ := (h2.2 rfl).1 hm;exact absurd (h3.2 (by decide)) hn
  ·obtain ⟨rfl, rfl⟩ := (h2.2 rfl).2 hm;have hb := h3.1 rfl;refine ⟨rfl, rfl, by omega, ?_⟩;unfold instr;rw [List.drop_drop, hx];simp only [List.drop_drop, <- Nat.add_assoc];rw [if_neg hm, if_neg (by rw [<- hb]; exact hn), <- hb, show k + 2 + n + n3 - k = 2 + n + n3 by omega]
   cases upto [63, 62] (S.drop (k + 2 + n + n3)) <;> rfl
theorem end_steps {S nm : Tx} {k q1 p1 n3 q4 p4 pl : Nat} {e1 e4 : Int}
  (h1 : Stp (name (S.drop (k + 2))) (k + 2) 0 pl nm q1 e1 p1)
  (h3 : (e1 = 0 -> n3 = blanks (S.drop q1)) /\ (e1 ≠ 0 -> n3 = 0))
  (h4 : Stp (eat [62] (S.drop (q1 + n3))) (q1 + n3) e1 p1 () q4 e4 p4) :
  match endT (S.drop k) with
  | .bad cd o => e4 = cd /\ cd ≠ 0 /\ p4 = k + o
  | .ok t n => e4 = 0 /\ p4 = pl /\ q4 = k + n /\ t = ⟨3, 0, nm, [], []⟩ := by
 rcases h1.2 rfl with ⟨cd, o, hx, rfl, hc, rfl⟩ | ⟨n, hx, rfl, rfl, rfl⟩
 ·obtain ⟨rfl, rfl, _⟩ := h4.1 hc;rw [endT_name hx];exact ⟨rfl, hc, by omega⟩
 ·have hb := h3.1 rfl;rcases h4.2 rfl with ⟨cd, o, he, rfl, hc, rfl⟩ | ⟨m, he, rfl, rfl, rfl⟩
  ·rw [endT_eat hx hb.symm he];exact ⟨rfl, hc, by omega⟩
  ·rw [endT_ok hx hb.symm he];exact ⟨rfl, rfl, by omega, rfl⟩
section
variable (w : World) (b : Nat) (S : Tx) (k : Nat) (A : Option Addr) (c : Nat)
theorem rname_sm (pl : Nat) (h : Sr w b S k A c 0 pl) (hk : k <= S.length) (hS : S.length <= 65536) :
  Calls Tryz.prog 141 #[.pointer (some ⟨b, 0, none⟩)] w fun e w' => ∃ nm q' e' pl', e = .returned (.string (strOf nm)) /\ nm.length <= 1000000 /\ w.grownBy w' (some b) /\ q' <= S.length /\ Sr w' b S q' A c e' pl' /\ Stp (name (S.drop k)) k 0 pl nm q' e' pl' := by
 refine (rname_any w b S k A c pl h hk (by omega)).mono ?_;rintro e w' ⟨hg, hG⟩
 cases hn : name (S.drop k) with
 | bad cd o =>
  rw [hn] at hG;obtain ⟨hc, v, q', rfl, rfl, hq', hs⟩ := hG;exact ⟨[], q', cd, k + o, rfl, by simp, hg, hq', hs, fun h0 => absurd rfl h0, fun _ => .inl ⟨cd, o, rfl, rfl, hc, rfl⟩⟩
 | ok a n =>
  rw [hn] at hG;obtain ⟨rfl, hs⟩ := hG;have hl := name_len hn;rw [List.length_drop] at hl;exact ⟨a, k + n, 0, pl, rfl, by rw [hl.2.2.1, List.length_take, List.length_drop]; omega, hg, by omega, hs, fun h0 => absurd rfl h0, fun _ => .inr ⟨n, rfl, rfl, rfl, rfl⟩⟩
set_option maxHeartbeats 4000000 in
set_option maxRecDepth 100000 in
theorem rtoken_any (pl : Nat) (h : Sr w b S k A c 0 pl) (hk : k < S.length) (hS : S.length <= 65536) :
  Calls Tryz.prog 104 #[.pointer (some ⟨b, 0, none⟩)] w fun e w' => GivesRT w b S k A c pl k (token (S.drop k)) e w' := by
 have hba := below_alloc w (.cells #[.int .i64 0, .int .i64 0, .string ⟨#[]⟩, .string ⟨#[]⟩, .slice none 0 0] 87);have hrb := tb_new w 0 0 ⟨#[]⟩ ⟨#[]⟩ (.slice none 0 0);obtain ⟨T0, hT0⟩ : ∃ T0, w.heap.size = T0 := ⟨_, rfl⟩;obtain ⟨w1, hw1⟩ : ∃ w1, w.alloc (.cells #[.int .i64 0, .int .i64 0, .string ⟨#[]⟩, .string ⟨#[]⟩, .slice none 0 0] 87) = w1 := ⟨_, rfl⟩;rw [hw1] at hba hrb;rw [hT0] at hrb;have hba2 := below_alloc w1 (.cells #[.int .i64 0, .int .i64 (k : Nat), .string ⟨#[]⟩, .string ⟨#[]⟩, .slice none 0 0] 87);have htb := tb_new w1 0 (k : Nat) ⟨#[]⟩ ⟨#[]⟩ (.slice none 0 0);obtain ⟨T2, hT2⟩ : ∃ T2, w1.heap.size = T2 := ⟨_, rfl⟩;rw [hT2] at htb;have hne : T0 ≠ T2 := by have := hrb.lt; omega
 have F : Hid (TgF w b T2 T0 (w1.alloc (.cells #[.int .i64 0, .int .i64 (k : Nat), .string ⟨#[]⟩, .string ⟨#[]⟩, .slice none 0 0] 87)).heap.size S k A c pl) := Hd ⟨h, by have := hba.size; omega, by omega, hne, htb.lt, by have := hrb.lt; have := hba2.size; omega⟩;have hs2 : Hid (TgS w (w1.alloc (.cells #[.int .i64 0, .int .i64 (k : Nat), .string ⟨#[]⟩, .string ⟨#[]⟩, .slice none 0 0] 87)) b T2 T0 (w1.alloc (.cells #[.int .i64 0, .int .i64 (k : Nat), .string ⟨#[]⟩, .string ⟨#[]⟩, .slice none 0 0] 87)).heap.size S A c k 0 pl 0 (k : Nat) ⟨#[]⟩ ⟨#[]⟩ (.slice none 0 0)) := Hd ⟨(h.below hba).below hba2, (grown_in hba).trans (grown_in hba2), Nat.le_refl _, htb, hrb.below hba2⟩;have c1 := (h.below hba).c1;obtain ⟨B0, hB0⟩ : ∃ B0, (w1.alloc (.cells #[.int .i64 0, .int .i64 (k : Nat), .string ⟨#[]⟩, .string ⟨#[]⟩, .slice none 0 0] 87)).heap.size = B0 := ⟨_, rfl⟩;rw [hB0] at F hs2;obtain ⟨R, hR⟩ : ∃ R, token (S.drop k) = R := ⟨_, rfl⟩;rw [hR];have hR' := Hd hR;clear h hba hba2 htb hrb hne hR hB0;have hx : S[k]? = some S[k] := List.getElem?_eq_getElem hk;generalize S[k] = x at hx;have hF := cF_at hx;have hF' := Hd hF;have hx' := Hd hx;clear hx hF
 by_cases h60 : x ≠ 60
 ·have j60 : ((x.toNat : Int) != 60) = true := by
   rw [bne_iff_ne];intro e;exact h60 (UInt8.toNat_inj.1 (by show x.toNat = 60; omega))
  have hRc : Hid (R = chars (S.drop k)) := Hd (by rw [<- hR'.out, tk_chars hx'.out h60]);clear h60
  go_enter Tryz.func104, Tryz.ntmps104
  go_wp2_with fail;generalize w1.alloc (.cells #[.int .i64 0, .int .i64 (k : Nat), .string ⟨#[]⟩, .string ⟨#[]⟩, .slice none 0 0] 87) = w2 at hs2 ⊢;clear hw1 hT2 hT0 c1;refine (rc_any w2 b S k A c pl hs2.out.sr 0 (by omega)).mono ?_;rintro e w3 ⟨rfl, hbz⟩;have hs3 := Hd (hs2.out.below hbz);rw [Nat.add_zero, hF'.out];clear hbz hs2;have hs4 := Hd (hs3.out.set0 F.out 4);have z0 := hs3.out.tb.cell 0;have zf := hs3.out.tb.frozen 0;go_wp2_with fail;generalize w3.setCell ⟨T2, 0, none⟩ (.int .i64 4) = w4 at hs4 ⊢;clear z0 zf hs3;refine (rtext_any w4 b S k A c pl hs4.out.sr (by omega) hS (S.length - k + 1) (by omega)).mono ?_;rintro e w5 ⟨hg5, hG⟩;obtain ⟨G, hGe⟩ : ∃ G, textF (S.length - k + 1) (S.drop k) [] = G := ⟨_, rfl⟩;rw [hGe] at hG;have hRG : Hid (R = chG G) := Hd (by rw [hRc.out, chars_eq, hGe]);clear hGe
  cases G with
  | bad cd o =>
   obtain ⟨hc, v, q, rfl, ⟨O, rfl, hO⟩, hq, hs5⟩ := hG;obtain ⟨tx, rfl⟩ := strOf_any O;have hs5' := Hd (hs4.out.on F.out hg5 hs5);have hc' := Hd hc;clear hs5 hg5 hs4 hc;have hs6 := Hd (hs5'.out.set3 F.out (strOf tx));have z3 := hs5'.out.tb.cell 3;have zf := hs5'.out.tb.frozen 3
   go_upto_region 5 with fail
   generalize w5.setCell ⟨T2, 3, none⟩ (.string (strOf tx)) = w6 at hs6 ⊢;clear z3 zf hs5';have z0 := hs6.out.tb.cell 0;have z1 := hs6.out.tb.cell 1;have z2 := hs6.out.tb.cell 2;have z3 := hs6.out.tb.cell 3;have z4 := hs6.out.tb.cell 4;have y0 := hs6.out.rb.cell 0;have g0 := hs6.out.rb.frozen 0;have y1 := hs6.out.rb.cell 1;have g1 := hs6.out.rb.frozen 1;have y2 := hs6.out.rb.cell 2;have g2 := hs6.out.rb.frozen 2;have y3 := hs6.out.rb.cell 3;have g3 := hs6.out.rb.frozen 3;have y4 := hs6.out.rb.cell 4;have g4 := hs6.out.rb.frozen 4;go_wp2_with fail;have hfin := hs6.out.put F.out (OwS.nil (El := AtEl) (k := 2) _ _ 55);unfold putTok at hfin
   (try simp only [Exit.inBlock, Exit.then])
   refine bodyPost_ret (res_tb rfl hfin.1 rfl) rfl ?_;refine ⟨⟨4, k, [], tx, []⟩, _, rfl, hfin.2.1, hfin.2.2.2, by simp, _, _, _, hfin.2.2.1, ?_⟩;rw [hRG.out];exact ⟨rfl, hc'.out, rfl⟩
  | ok tx n =>
   obtain ⟨rfl, hs5⟩ := hG;have hs5' := Hd (hs4.out.on F.out hg5 hs5);clear hs5 hg5 hs4;have hs6 := Hd (hs5'.out.set3 F.out (strOf tx));have z3 := hs5'.out.tb.cell 3;have zf := hs5'.out.tb.frozen 3
   go_upto_region 5 with fail
   generalize w5.setCell ⟨T2, 3, none⟩ (.string (strOf tx)) = w6 at hs6 ⊢;clear z3 zf hs5';have z0 := hs6.out.tb.cell 0;have z1 := hs6.out.tb.cell 1;have z2 := hs6.out.tb.cell 2;have z3 := hs6.out.tb.cell 3;have z4 := hs6.out.tb.cell 4;have y0 := hs6.out.rb.cell 0;have g0 := hs6.out.rb.frozen 0;have y1 := hs6.out.rb.cell 1;have g1 := hs6.out.rb.frozen 1;have y2 := hs6.out.rb.cell 2;have g2 := hs6.out.rb.frozen 2;have y3 := hs6.out.rb.cell 3;have g3 := hs6.out.rb.frozen 3;have y4 := hs6.out.rb.cell 4;have g4 := hs6.out.rb.frozen 4;go_wp2_with fail;have hfin := hs6.out.put F.out (OwS.nil (El := AtEl) (k := 2) _ _ 55);unfold putTok at hfin
   (try simp only [Exit.inBlock, Exit.then])
   refine bodyPost_ret (res_tb rfl hfin.1 rfl) rfl ?_;refine ⟨⟨4, k, [], tx, []⟩, _, rfl, hfin.2.1, hfin.2.2.2, by simp, _, _, _, hfin.2.2.1, ?_⟩;rw [hRG.out];exact ⟨rfl, rfl, rfl, rfl⟩
 have h60' : x = 60 := Classical.not_not.1 h60;subst h60';have j60 : (((60 : UInt8).toNat : Int) != 60) = false := rfl;clear h60
 cases hcm : Lib.hasPrefix (S.drop k) [60, 33, 45, 45] with
 | true =>
  have hRc : Hid (R = comment (S.drop k)) := Hd (by rw [<- hR'.out, tk_com hx'.out hcm]);have hkl : k + 4 <= S.length := by have := Qx.prefix_len hcm; rw [List.length_drop] at this; simp at this; omega
  go_enter Tryz.func104, Tryz.ntmps104
  go_wp2_with fail;generalize w1.alloc (.cells #[.int .i64 0, .int .i64 (k : Nat), .string ⟨#[]⟩, .string ⟨#[]⟩, .slice none 0 0] 87) = w2 at hs2 ⊢;clear hw1 hT2 hT0 c1;refine (rc_any w2 b S k A c pl hs2.out.sr 0 (by omega)).mono ?_;rintro e w3 ⟨rfl, hbz⟩;have hs3 := Hd (hs2.out.below hbz);rw [Nat.add_zero, hF'.out];clear hbz hs2;go_wp2_with fail;refine (rhas_any w3 b S k A c pl hs3.out.sr [60, 33, 45, 45] (by decide) (by omega)).mono ?_;rintro e w4 ⟨rfl, hbz⟩;have hs4 := Hd (hs3.out.below hbz);rw [hcm];clear hbz hs3;have hs6 := Hd ((hs4.out.set0 F.out 6).set1 F.out (k + 4));have z0 := hs4.out.tb.cell 0;have zf := hs4.out.tb.frozen 0;have d1 := hs4.out.sr.c1;have g1 := hs4.out.sr.frozen 1;go_wp2_with fail
  try rw [show ((k : Int) + 4) = ((k + 4 : Nat) : Int) by omega]
  generalize (w4.setCell ⟨T2, 0, none⟩ (.int .i64 6)).setCell ⟨b, 1, none⟩ (.int .i64 ((k + 4 : Nat) : Int)) = w6 at hs6 ⊢;clear z0 zf d1 g1 hs4;refine (runtil_any w6 b S (k + 4) A c pl hs6.out.sr hkl (by omega) [45, 45] (by decide) (by decide)).mono ?_;rintro e w7 ⟨hg7, hG⟩;obtain ⟨G, hGe⟩ : ∃ G, upto [45, 45] (S.drop (k + 4)) = G := ⟨_, rfl⟩;rw [hGe] at hG;have hup0 := Hd hGe;clear hGe
  cases G with
  | bad cd o =>
   obtain ⟨hc, v, q, rfl, rfl, hq, hs7'⟩ := hG;have hup := hup0;have hs7 := Hd (hs6.out.on F.out hg7 hs7');clear hs7' hg7 hs6 hup0;go_wp2_with fail;refine (refLines_any ⟨#[]⟩ (by decide) w7).mono ?_;rintro e wl ⟨rfl, hbl⟩;have hsl := Hd (hs7.out.below hbl);rw [show (⟨#[]⟩ : ByteArray).data.toList = [] from rfl];have hs8 := Hd (hsl.out.set3 F.out (strOf (Utf.lines ([]))));have z3 := hsl.out.tb.cell 3;have zf := hsl.out.tb.frozen 3;clear hbl hs7
   go_upto_region 10 with fail
   generalize wl.setCell ⟨T2, 3, none⟩ (.string (strOf (Utf.lines ([])))) = w8 at hs8 ⊢;clear z3 zf hsl;have j0 : (cd == 0) = false := by rw [beq_eq_false_iff_ne]; exact hc
   have c2 := hs8.out.sr.c2;have c1 := hs8.out.sr.c1;have f1 := hs8.out.sr.frozen 1;have hs9 := Hd (hs8.out.set1 F.out (q + 1));have hc' := Hd hc;clear hc
   go_upto_region 15 with fail
   have e3 : ((q : Int) + 1) = ((q + 1 : Nat) : Int) := by omega
   try rw [e3]
   clear e3;generalize w8.setCell ⟨b, 1, none⟩ (.int .i64 ((q + 1 : Nat) : Int)) = w9 at hs9 ⊢;clear c2 c1 f1 hs8;have z0 := hs9.out.tb.cell 0;have z1 := hs9.out.tb.cell 1;have z2 := hs9.out.tb.cell 2;have z3 := hs9.out.tb.cell 3;have z4 := hs9.out.tb.cell 4;have y0 := hs9.out.rb.cell 0;have g0 := hs9.out.rb.frozen 0;have y1 := hs9.out.rb.cell 1;have g1 := hs9.out.rb.frozen 1;have y2 := hs9.out.rb.cell 2;have g2 := hs9.out.rb.frozen 2;have y3 := hs9.out.rb.cell 3;have g3 := hs9.out.rb.frozen 3;have y4 := hs9.out.rb.cell 4;have g4 := hs9.out.rb.frozen 4;go_wp2_with fail;have hfin := hs9.out.put F.out (OwS.nil (El := AtEl) (k := 2) _ _ 55);unfold putTok at hfin
   (try simp only [Exit.inBlock, Exit.then])
   refine bodyPost_ret (res_tb rfl hfin.1 rfl) rfl ?_;refine ⟨⟨6, k, [], Utf.lines [], []⟩, _, rfl, hfin.2.1, hfin.2.2.2, by simp, _, _, _, hfin.2.2.1, ?_⟩;rw [hRc.out, com_upto hup.out];exact ⟨rfl, hc'.out, by omega⟩
  | ok x n =>
   obtain ⟨rfl, hs7'⟩ := hG;have hup := hup0;have hs7 := Hd (hs6.out.on F.out hg7 hs7');have hxl := upto_len hup.out;rw [List.length_drop] at hxl;have hxn : (strOf x).size = x.length := strOf_size' x;have hx1 := hxl.1;have hx2 := hxl.2.1;clear hs7' hg7 hs6 hup0 hxl;go_wp2_with fail;refine (refLines_any (strOf (x)) (by omega) w7).mono ?_;rintro e wl ⟨rfl, hbl⟩;have hsl := Hd (hs7.out.below hbl);rw [show (strOf (x) : ByteArray).data.toList = x by simp [strOf]];have hs8 := Hd (hsl.out.set3 F.out (strOf (Utf.lines (x))));have z3 := hsl.out.tb.cell 3;have zf := hsl.out.tb.frozen 3;clear hbl hs7
   go_upto_region 10 with fail
   generalize wl.setCell ⟨T2, 3, none⟩ (.string (strOf (Utf.lines (x)))) = w8 at hs8 ⊢;clear z3 zf hsl;have c2 := hs8.out.sr.c2
   by_cases hge : S.length <= k + 4 + n
   ·have hF2 := cF_end (S := S) (k := k + 4 + n) hge;have hF2' := Hd hF2;clear hF2;go_wp2_with fail;refine (rc_any w8 b S (k + 4 + n) A c pl hs8.out.sr 0 (by omega)).mono ?_;rintro e wa ⟨rfl, hbz⟩;have hsa := Hd (hs8.out.below hbz);rw [Nat.add_zero];rw [hF2'.out];clear hbz hs8;have c0 := hsa.out.sr.c0;clear c2;go_wp2_with fail;refine (rbad_any wa b S (k + 4 + n) A c pl hsa.out.sr 6 S.length).mono ?_;rintro e wb ⟨rfl, hsb, hgb⟩;have hsb' := Hd (hsa.out.on F.out hgb hsb);have c2 := hsb'.out.sr.c2;have c1 := hsb'.out.sr.c1;have f1 := hsb'.out.sr.frozen 1;have hs9 := Hd (hsb'.out.set1 F.out (k + 4 + n + 1));clear hsb hgb hsa c0
    go_upto_region 15 with fail
    generalize hWW : wb.setCell ⟨b, 1, none⟩ _ = w9;rw [show wb.setCell ⟨b, 1, none⟩ (.int .i64 ((k + 4 + n + 1 : Nat) : Int)) = w9 from hWW] at hs9;clear c2 c1 f1 hsb' hWW;have z0 := hs9.out.tb.cell 0;have z1 := hs9.out.tb.cell 1;have z2 := hs9.out.tb.cell 2;have z3 := hs9.out.tb.cell 3;have z4 := hs9.out.tb.cell 4;have y0 := hs9.out.rb.cell 0;have g0 := hs9.out.rb.frozen 0;have y1 := hs9.out.rb.cell 1;have g1 := hs9.out.rb.frozen 1;have y2 := hs9.out.rb.cell 2;have g2 := hs9.out.rb.frozen 2;have y3 := hs9.out.rb.cell 3;have g3 := hs9.out.rb.frozen 3;have y4 := hs9.out.rb.cell 4;have g4 := hs9.out.rb.frozen 4;go_wp2_with fail;have hfin := hs9.out.put F.out (OwS.nil (El := AtEl) (k := 2) _ _ 55);unfold putTok at hfin
    (try simp only [Exit.inBlock, Exit.then])
    refine bodyPost_ret (res_tb rfl hfin.1 rfl) rfl ?_;refine ⟨⟨6, k, [], Utf.lines x, []⟩, _, rfl, hfin.2.1, hfin.2.2.2, by simp, _, _, _, hfin.2.2.1, ?_⟩;rw [hRc.out, com_end hup.out hge];exact ⟨rfl, by decide, by omega⟩
   have hlt : k + 4 + n < S.length := by omega
   have hy : S[k + 4 + n]? = some S[k + 4 + n] := List.getElem?_eq_getElem hlt;generalize S[k + 4 + n] = y at hy;have hF2 := cF_at hy;have hF2' := Hd hF2;have hy' := Hd hy;clear hF2 hy hge;have i0 : decide ((y.toNat : Int) < 0) = false := by simp
   by_cases hy62 : y = 62
   ·have j62 : ((y.toNat : Int) != 62) = false := by rw [hy62]; rfl
    have hyy : Hid (S[k + 4 + n]? = some 62) := Hd (by rw [<- hy62]; exact hy'.out);clear hy62;go_wp2_with fail;refine (rc_any w8 b S (k + 4 + n) A c pl hs8.out.sr 0 (by omega)).mono ?_;rintro e wa ⟨rfl, hbz⟩;have hsa := Hd (hs8.out.below hbz);rw [Nat.add_zero];rw [hF2'.out];clear hbz hs8;clear c2;have c2 := hsa.out.sr.c2;go_wp2_with fail;refine (rc_any wa b S (k + 4 + n) A c pl hsa.out.sr 0 (by omega)).mono ?_;rintro e wb ⟨rfl, hbz⟩;have hsb := Hd (hsa.out.below hbz);rw [Nat.add_zero];rw [hF2'.out];clear hbz hsa;clear c2;have c1 := hsb.out.sr.c1;have f1 := hsb.out.sr.frozen 1;have hs9 := Hd (hsb.out.set1 F.out (k + 4 + n + 1))
    go_upto_region 15 with fail
    generalize hWW : wb.setCell ⟨b, 1, none⟩ _ = w9;rw [show wb.setCell ⟨b, 1, none⟩ (.int .i64 ((k + 4 + n + 1 : Nat) : Int)) = w9 from hWW] at hs9;clear c1 f1 hsb hWW;have z0 := hs9.out.tb.cell 0;have z1 := hs9.out.tb.cell 1;have z2 := hs9.out.tb.cell 2;have z3 := hs9.out.tb.cell 3;have z4 := hs9.out.tb.cell 4;have y0 := hs9.out.rb.cell 0;have g0 := hs9.out.rb.frozen 0;have y1 := hs9.out.rb.cell 1;have g1 := hs9.out.rb.frozen 1;have y2 := hs9.out.rb.cell 2;have g2 := hs9.out.rb.frozen 2;have y3 := hs9.out.rb.cell 3;have g3 := hs9.out.rb.frozen 3;have y4 := hs9.out.rb.cell 4;have g4 := hs9.out.rb.frozen 4;go_wp2_with fail;have hfin := hs9.out.put F.out (OwS.nil (El := AtEl) (k := 2) _ _ 55);unfold putTok at hfin
    (try simp only [Exit.inBlock, Exit.then])
    refine bodyPost_ret (res_tb rfl hfin.1 rfl) rfl ?_;refine ⟨⟨6, k, [], Utf.lines x, []⟩, _, rfl, hfin.2.1, hfin.2.2.2, by simp, _, _, _, hfin.2.2.1, ?_⟩;rw [hRc.out, com_ok hup.out hyy.out];exact ⟨rfl, rfl, by omega, rfl⟩
   ·have j62 : ((y.toNat : Int) != 62) = true := by
     rw [bne_iff_ne];intro e;exact hy62 (UInt8.toNat_inj.1 (by show y.toNat = 62; omega))
    have hyn := Hd hy62;clear hy62;go_wp2_with fail;refine (rc_any w8 b S (k + 4 + n) A c pl hs8.out.sr 0 (by omega)).mono ?_;rintro e wa ⟨rfl, hbz⟩;have hsa := Hd (hs8.out.below hbz);rw [Nat.add_zero];rw [hF2'.out];clear hbz hs8;clear c2;have c2 := hsa.out.sr.c2;go_wp2_with fail;refine (rc_any wa b S (k + 4 + n) A c pl hsa.out.sr 0 (by omega)).mono ?_;rintro e wb ⟨rfl, hbz⟩;have hsb := Hd (hsa.out.below hbz);rw [Nat.add_zero];rw [hF2'.out];clear hbz hsa;clear c2;have c1 := hsb.out.sr.c1;go_wp2_with fail
    try rw [show ((k : Int) + 4 + (n : Int) - 2) = ((k + 4 + n - 2 : Nat) : Int) by omega]
    refine (rbad_any wb b S (k + 4 + n) A c pl hsb.out.sr 2 (k + 4 + n - 2)).mono ?_;rintro e wd ⟨rfl, hsd, hgd⟩;have hsd' := Hd (hsb.out.on F.out hgd hsd);clear hsd hgd hsb c1;have c1 := hsd'.out.sr.c1;have f1 := hsd'.out.sr.frozen 1;have hs9 := Hd (hsd'.out.set1 F.out (k + 4 + n + 1))
    go_upto_region 15 with fail
    generalize hWW : wd.setCell ⟨b, 1, none⟩ _ = w9;rw [show wd.setCell ⟨b, 1, none⟩ (.int .i64 ((k + 4 + n + 1 : Nat) : Int)) = w9 from hWW] at hs9;clear c1 f1 hsd' hWW;have z0 := hs9.out.tb.cell 0;have z1 := hs9.out.tb.cell 1;have z2 := hs9.out.tb.cell 2;have z3 := hs9.out.tb.cell 3;have z4 := hs9.out.tb.cell 4;have y0 := hs9.out.rb.cell 0;have g0 := hs9.out.rb.frozen 0;have y1 := hs9.out.rb.cell 1;have g1 := hs9.out.rb.frozen 1;have y2 := hs9.out.rb.cell 2;have g2 := hs9.out.rb.frozen 2;have y3 := hs9.out.rb.cell 3;have g3 := hs9.out.rb.frozen 3;have y4 := hs9.out.rb.cell 4;have g4 := hs9.out.rb.frozen 4;go_wp2_with fail;have hfin := hs9.out.put F.out (OwS.nil (El := AtEl) (k := 2) _ _ 55);unfold putTok at hfin
    (try simp only [Exit.inBlock, Exit.then])
    refine bodyPost_ret (res_tb rfl hfin.1 rfl) rfl ?_;refine ⟨⟨6, k, [], Utf.lines x, []⟩, _, rfl, hfin.2.1, hfin.2.2.2, by simp, _, _, _, hfin.2.2.1, ?_⟩;rw [hRc.out, com_off hup.out hy'.out hyn.out];exact ⟨rfl, by decide, by omega⟩
 | false =>
 cases hcd : Lib.hasPrefix (S.drop k) [60, 33, 91, 67, 68, 65, 84, 65, 91] with
 | true =>
  have hRc : Hid (R = cdata (S.drop k)) := Hd (by rw [<- hR'.out, tk_cd hx'.out hcm hcd]);have hkl : k + 9 <= S.length := by have := Qx.prefix_len hcd; rw [List.length_drop] at this; simp at this; omega
  go_enter Tryz.func104, Tryz.ntmps104
  go_wp2_with fail;generalize w1.alloc (.cells #[.int .i64 0, .int .i64 (k : Nat), .string ⟨#[]⟩, .string ⟨#[]⟩, .slice none 0 0] 87) = w2 at hs2 ⊢;clear hw1 hT2 hT0 c1;refine (rc_any w2 b S k A c pl hs2.out.sr 0 (by omega)).mono ?_;rintro e w3 ⟨rfl, hbz⟩;have hs3 := Hd (hs2.out.below hbz);rw [Nat.add_zero, hF'.out];clear hbz hs2;go_wp2_with fail;refine (rhas_any w3 b S k A c pl hs3.out.sr [60, 33, 45, 45] (by decide) (by omega)).mono ?_;rintro e w4 ⟨rfl, hbz⟩;have hs4 := Hd (hs3.out.below hbz);rw [hcm];clear hbz hs3;go_wp2_with fail;refine (rhas_any w4 b S k A c pl hs4.out.sr [60, 33, 91, 67, 68, 65, 84, 65, 91] (by decide) (by omega)).mono ?_;rintro e w5 ⟨rfl, hbz⟩;have hs5 := Hd (hs4.out.below hbz);rw [hcd];clear hbz hs4;have hs6 := Hd ((hs5.out.set0 F.out 5).set1 F.out (k + 9));have z0 := hs5.out.tb.cell 0;have zf := hs5.out.tb.frozen 0;have d1 := hs5.out.sr.c1;have g1 := hs5.out.sr.frozen 1;go_wp2_with fail
  try rw [show ((k : Int) + 9) = ((k + 9 : Nat) : Int) by omega]
  generalize (w5.setCell ⟨T2, 0, none⟩ (.int .i64 5)).setCell ⟨b, 1, none⟩ (.int .i64 ((k + 9 : Nat) : Int)) = w6 at hs6 ⊢;clear z0 zf d1 g1 hs5;refine (runtil_any w6 b S (k + 9) A c pl hs6.out.sr hkl (by omega) [93, 93, 62] (by decide) (by decide)).mono ?_;rintro e w7 ⟨hg7, hG⟩;obtain ⟨G, hGe⟩ : ∃ G, upto [93, 93, 62] (S.drop (k + 9)) = G := ⟨_, rfl⟩;rw [hGe] at hG;have hup0 := Hd hGe;clear hGe
  cases G with
  | bad cd o =>
   obtain ⟨hc, v, q, rfl, rfl, hq, hs7'⟩ := hG;have hup := hup0;have hs7 := Hd (hs6.out.on F.out hg7 hs7');clear hs7' hg7 hs6 hup0;go_wp2_with fail;refine (refLines_any ⟨#[]⟩ (by decide) w7).mono ?_;rintro e wl ⟨rfl, hbl⟩;have hsl := Hd (hs7.out.below hbl);rw [show (⟨#[]⟩ : ByteArray).data.toList = [] from rfl];have hs8 := Hd (hsl.out.set3 F.out (strOf (Utf.lines ([]))));have z3 := hsl.out.tb.cell 3;have zf := hsl.out.tb.frozen 3;clear hbl hs7
   go_upto_region 20 with fail
   generalize wl.setCell ⟨T2, 3, none⟩ (.string (strOf (Utf.lines ([])))) = w8 at hs8 ⊢;clear z3 zf hsl;have hc' := Hd hc;clear hc;have z0 := hs8.out.tb.cell 0;have z1 := hs8.out.tb.cell 1;have z2 := hs8.out.tb.cell 2;have z3 := hs8.out.tb.cell 3;have z4 := hs8.out.tb.cell 4;have y0 := hs8.out.rb.cell 0;have g0 := hs8.out.rb.frozen 0;have y1 := hs8.out.rb.cell 1;have g1 := hs8.out.rb.frozen 1;have y2 := hs8.out.rb.cell 2;have g2 := hs8.out.rb.frozen 2;have y3 := hs8.out.rb.cell 3;have g3 := hs8.out.rb.frozen 3;have y4 := hs8.out.rb.cell 4;have g4 := hs8.out.rb.frozen 4;go_wp2_with fail;have hfin := hs8.out.put F.out (OwS.nil (El := AtEl) (k := 2) _ _ 55);unfold putTok at hfin
   (try simp only [Exit.inBlock, Exit.then])
   refine bodyPost_ret (res_tb rfl hfin.1 rfl) rfl ?_;refine ⟨⟨5, k, [], Utf.lines [], []⟩, _, rfl, hfin.2.1, hfin.2.2.2, by simp, _, _, _, hfin.2.2.1, ?_⟩;rw [hRc.out, cd_upto hup.out];exact ⟨rfl, hc'.out, by omega⟩
  | ok x n =>
   obtain ⟨rfl, hs7'⟩ := hG;have hup := hup0;have hs7 := Hd (hs6.out.on F.out hg7 hs7');have hxl := upto_len hup.out;rw [List.length_drop] at hxl;have hxn : (strOf x).size = x.length := strOf_size' x;have hx1 := hxl.1;have hx2 := hxl.2.1;clear hs7' hg7 hs6 hup0 hxl;go_wp2_with fail;refine (refLines_any (strOf (x)) (by omega) w7).mono ?_;rintro e wl ⟨rfl, hbl⟩;have hsl := Hd (hs7.out.below hbl);rw [show (strOf (x) : ByteArray).data.toList = x by simp [strOf]];have hs8 := Hd (hsl.out.set3 F.out (strOf (Utf.lines (x))));have z3 := hsl.out.tb.cell 3;have zf := hsl.out.tb.frozen 3;clear hbl hs7
   go_upto_region 20 with fail
   generalize wl.setCell ⟨T2, 3, none⟩ (.string (strOf (Utf.lines (x)))) = w8 at hs8 ⊢;clear z3 zf hsl;have z0 := hs8.out.tb.cell 0;have z1 := hs8.out.tb.cell 1;have z2 := hs8.out.tb.cell 2;have z3 := hs8.out.tb.cell 3;have z4 := hs8.out.tb.cell 4;have y0 := hs8.out.rb.cell 0;have g0 := hs8.out.rb.frozen 0;have y1 := hs8.out.rb.cell 1;have g1 := hs8.out.rb.frozen 1;have y2 := hs8.out.rb.cell 2;have g2 := hs8.out.rb.frozen 2;have y3 := hs8.out.rb.cell 3;have g3 := hs8.out.rb.frozen 3;have y4 := hs8.out.rb.cell 4;have g4 := hs8.out.rb.frozen 4;go_wp2_with fail;have hfin := hs8.out.put F.out (OwS.nil (El := AtEl) (k := 2) _ _ 55);unfold putTok at hfin
   (try simp only [Exit.inBlock, Exit.then])
   refine bodyPost_ret (res_tb rfl hfin.1 rfl) rfl ?_;refine ⟨⟨5, k, [], Utf.lines x, []⟩, _, rfl, hfin.2.1, hfin.2.2.2, by simp, _, _, _, hfin.2.2.1, ?_⟩;rw [hRc.out, cd_ok hup.out];exact ⟨rfl, rfl, by omega, rfl⟩
 | false =>
 by_cases h33 : S[k + 1]? = some 33
 ·have hRc : Hid (R = if (begF [60, 33, 45, 45] (S.drop k) || begF [60, 33, 91, 67, 68, 65, 84, 65, 91] (S.drop k)) = true then .bad 6 (S.length - k) else .bad 2 0) := Hd (by rw [<- hR'.out, tk_bang hx'.out h33 hcm hcd]);have hF2 : cF S (k + 1) = 33 := by rw [cF_at h33]; rfl
  have hF2' := Hd hF2;clear h33 hF2
  go_enter Tryz.func104, Tryz.ntmps104
  go_wp2_with fail;generalize w1.alloc (.cells #[.int .i64 0, .int .i64 (k : Nat), .string ⟨#[]⟩, .string ⟨#[]⟩, .slice none 0 0] 87) = w2 at hs2 ⊢;clear hw1 hT2 hT0 c1;refine (rc_any w2 b S k A c pl hs2.out.sr 0 (by omega)).mono ?_;rintro e w3 ⟨rfl, hbz⟩;have hs3 := Hd (hs2.out.below hbz);rw [Nat.add_zero, hF'.out];clear hbz hs2;go_wp2_with fail;refine (rhas_any w3 b S k A c pl hs3.out.sr [60, 33, 45, 45] (by decide) (by omega)).mono ?_;rintro e w4 ⟨rfl, hbz⟩;have hs4 := Hd (hs3.out.below hbz);rw [hcm];clear hbz hs3;go_wp2_with fail;refine (rhas_any w4 b S k A c pl hs4.out.sr [60, 33, 91, 67, 68, 65, 84, 65, 91] (by decide) (by omega)).mono ?_;rintro e w5 ⟨rfl, hbz⟩;have hs5 := Hd (hs4.out.below hbz);rw [hcd];clear hbz hs4;go_wp2_with fail;refine (rc_any w5 b S (k) A c pl hs5.out.sr 1 (by omega)).mono ?_;rintro e w6 ⟨rfl, hbz⟩;have hs6 := Hd (hs5.out.below hbz);rw [hF2'.out];clear hbz hs5;go_wp2_with fail;refine (rbegins_any w6 b S k A c pl hs6.out.sr (by omega) hS [60, 33, 45, 45] (by decide)).mono ?_;rintro e w7 ⟨rfl, hbz⟩;have hs7 := Hd (hs6.out.below hbz);clear hbz hs6
  cases hb1 : begF [60, 33, 45, 45] (S.drop k) with
  | true =>
   have hRb : Hid (R = .bad 6 (S.length - k)) := Hd (by rw [hRc.out, hb1]; rfl);have c0 := hs7.out.sr.c0;clear hb1;go_wp2_with fail;refine (rbad_any w7 b S k A c pl hs7.out.sr 6 S.length).mono ?_;rintro e wa ⟨rfl, hsa, hga⟩;have hsa' := Hd (hs7.out.on F.out hga hsa);clear hsa hga hs7 c0;have c1 := hsa'.out.sr.c1;go_wp2_with fail;refine (rbad_idle wa b S k A c S.length hsa'.out.sr (by decide) 2 k).mono ?_;rintro e wb ⟨rfl, hwb⟩;subst hwb;clear c1;have z0 := hsa'.out.tb.cell 0;have z1 := hsa'.out.tb.cell 1;have z2 := hsa'.out.tb.cell 2;have z3 := hsa'.out.tb.cell 3;have z4 := hsa'.out.tb.cell 4;have y0 := hsa'.out.rb.cell 0;have g0 := hsa'.out.rb.frozen 0;have y1 := hsa'.out.rb.cell 1;have g1 := hsa'.out.rb.frozen 1;have y2 := hsa'.out.rb.cell 2;have g2 := hsa'.out.rb.frozen 2;have y3 := hsa'.out.rb.cell 3;have g3 := hsa'.out.rb.frozen 3;have y4 := hsa'.out.rb.cell 4;have g4 := hsa'.out.rb.frozen 4;go_wp2_with fail;have hfin := hsa'.out.put F.out (OwS.nil (El := AtEl) (k := 2) _ _ 55);unfold putTok at hfin
   (try simp only [Exit.inBlock, Exit.then])
   refine bodyPost_ret (res_tb rfl hfin.1 rfl) rfl ?_;refine ⟨⟨0, k, [], [], []⟩, _, rfl, hfin.2.1, hfin.2.2.2, by simp, _, _, _, hfin.2.2.1, ?_⟩;rw [hRb.out];exact ⟨rfl, by decide, by omega⟩
  | false =>
   have hb1' := Hd hb1;clear hb1;go_wp2_with fail;refine (rbegins_any w7 b S k A c pl hs7.out.sr (by omega) hS [60, 33, 91, 67, 68, 65, 84, 65, 91] (by decide)).mono ?_;rintro e w8 ⟨rfl, hbz⟩;have hs8 := Hd (hs7.out.below hbz);clear hbz hs7
   cases hb2 : begF [60, 33, 91, 67, 68, 65, 84, 65, 91] (S.drop k) with
   | true =>
    have hRb : Hid (R = .bad 6 (S.length - k)) := Hd (by rw [hRc.out, hb1'.out, hb2]; rfl);have c0 := hs8.out.sr.c0;clear hb2;go_wp2_with fail;refine (rbad_any w8 b S k A c pl hs8.out.sr 6 S.length).mono ?_;rintro e wa ⟨rfl, hsa, hga⟩;have hsa' := Hd (hs8.out.on F.out hga hsa);clear hsa hga hs8 c0;have c1 := hsa'.out.sr.c1;go_wp2_with fail;refine (rbad_idle wa b S k A c S.length hsa'.out.sr (by decide) 2 k).mono ?_;rintro e wb ⟨rfl, hwb⟩;subst hwb;clear c1;have z0 := hsa'.out.tb.cell 0;have z1 := hsa'.out.tb.cell 1;have z2 := hsa'.out.tb.cell 2;have z3 := hsa'.out.tb.cell 3;have z4 := hsa'.out.tb.cell 4;have y0 := hsa'.out.rb.cell 0;have g0 := hsa'.out.rb.frozen 0;have y1 := hsa'.out.rb.cell 1;have g1 := hsa'.out.rb.frozen 1;have y2 := hsa'.out.rb.cell 2;have g2 := hsa'.out.rb.frozen 2;have y3 := hsa'.out.rb.cell 3;have g3 := hsa'.out.rb.frozen 3;have y4 := hsa'.out.rb.cell 4;have g4 := hsa'.out.rb.frozen 4;go_wp2_with fail;have hfin := hsa'.out.put F.out (OwS.nil (El := AtEl) (k := 2) _ _ 55);unfold putTok at hfin
    (try simp only [Exit.inBlock, Exit.then])
    refine bodyPost_ret (res_tb rfl hfin.1 rfl) rfl ?_;refine ⟨⟨0, k, [], [], []⟩, _, rfl, hfin.2.1, hfin.2.2.2, by simp, _, _, _, hfin.2.2.1, ?_⟩;rw [hRb.out];exact ⟨rfl, by decide, by omega⟩
   | false =>
    have hRb : Hid (R = .bad 2 0) := Hd (by rw [hRc.out, hb1'.out, hb2]; rfl);have c1 := hs8.out.sr.c1;clear hb2;go_wp2_with fail;refine (rbad_any w8 b S k A c pl hs8.out.sr 2 k).mono ?_;rintro e w9 ⟨rfl, hs9, hg9⟩;have hs9' := Hd (hs8.out.on F.out hg9 hs9);clear hs9 hg9 hs8 c1;have z0 := hs9'.out.tb.cell 0;have z1 := hs9'.out.tb.cell 1;have z2 := hs9'.out.tb.cell 2;have z3 := hs9'.out.tb.cell 3;have z4 := hs9'.out.tb.cell 4;have y0 := hs9'.out.rb.cell 0;have g0 := hs9'.out.rb.frozen 0;have y1 := hs9'.out.rb.cell 1;have g1 := hs9'.out.rb.frozen 1;have y2 := hs9'.out.rb.cell 2;have g2 := hs9'.out.rb.frozen 2;have y3 := hs9'.out.rb.cell 3;have g3 := hs9'.out.rb.frozen 3;have y4 := hs9'.out.rb.cell 4;have g4 := hs9'.out.rb.frozen 4;go_wp2_with fail;have hfin := hs9'.out.put F.out (OwS.nil (El := AtEl) (k := 2) _ _ 55);unfold putTok at hfin
    (try simp only [Exit.inBlock, Exit.then])
    refine bodyPost_ret (res_tb rfl hfin.1 rfl) rfl ?_;refine ⟨⟨0, k, [], [], []⟩, _, rfl, hfin.2.1, hfin.2.2.2, by simp, _, _, _, hfin.2.2.1, ?_⟩;rw [hRb.out];exact ⟨rfl, by decide, rfl⟩
 have hn33 : Hid (S[k + 1]? ≠ some 33) := Hd h33;have j33 : (cF S (k + 1) == 33) = false := cF_ne (y := 33) h33;clear h33
 by_cases h63 : S[k + 1]? = some 63
 ·have hRc : Hid (R = instr (S.drop k)) := Hd (by rw [<- hR'.out, tk_pi hx'.out h63]);have hkl : k + 2 <= S.length := (List.getElem?_eq_some_iff.1 h63).1;have hF2 : cF S (k + 1) = 63 := by rw [cF_at h63]; rfl
  have hF2' := Hd hF2;clear h63 hF2 j33
  go_enter Tryz.func104, Tryz.ntmps104
  go_wp2_with fail;generalize w1.alloc (.cells #[.int .i64 0, .int .i64 (k : Nat), .string ⟨#[]⟩, .string ⟨#[]⟩, .slice none 0 0] 87) = w2 at hs2 ⊢;clear hw1 hT2 hT0 c1;refine (rc_any w2 b S k A c pl hs2.out.sr 0 (by omega)).mono ?_;rintro e w3 ⟨rfl, hbz⟩;have hs3 := Hd (hs2.out.below hbz);rw [Nat.add_zero, hF'.out];clear hbz hs2;go_wp2_with fail;refine (rhas_any w3 b S k A c pl hs3.out.sr [60, 33, 45, 45] (by decide) (by omega)).mono ?_;rintro e w4 ⟨rfl, hbz⟩;have hs4 := Hd (hs3.out.below hbz);rw [hcm];clear hbz hs3;go_wp2_with fail;refine (rhas_any w4 b S k A c pl hs4.out.sr [60, 33, 91, 67, 68, 65, 84, 65, 91] (by decide) (by omega)).mono ?_;rintro e w5 ⟨rfl, hbz⟩;have hs5 := Hd (hs4.out.below hbz);rw [hcd];clear hbz hs4;go_wp2_with fail;refine (rc_any w5 b S (k) A c pl hs5.out.sr 1 (by omega)).mono ?_;rintro e w6 ⟨rfl, hbz⟩;have hs6 := Hd (hs5.out.below hbz);rw [hF2'.out];clear hbz hs5;go_wp2_with fail;refine (rc_any w6 b S (k) A c pl hs6.out.sr 1 (by omega)).mono ?_;rintro e w7 ⟨rfl, hbz⟩;have hs7 := Hd (hs6.out.below hbz);rw [hF2'.out];clear hbz hs6;have hs8 := Hd ((hs7.out.set0 F.out 7).set1 F.out (k + 2));have z0 := hs7.out.tb.cell 0;have zf := hs7.out.tb.frozen 0;have d1 := hs7.out.sr.c1;have g1 := hs7.out.sr.frozen 1;go_wp2_with fail
  try rw [show ((k : Int) + 2) = ((k + 2 : Nat) : Int) by omega]
  generalize (w7.setCell ⟨T2, 0, none⟩ (.int .i64 7)).setCell ⟨b, 1, none⟩ (.int .i64 ((k + 2 : Nat) : Int)) = w8 at hs8 ⊢;clear z0 zf d1 g1 hs7;have c1 := hs8.out.sr.c1;go_wp2_with fail;refine (rname_sm w8 b S (k + 2) A c pl hs8.out.sr hkl hS).mono ?_;rintro e w9 ⟨nm, q1, e1, p1, rfl, hnl, hg9, hq1, hs9, hst⟩;have hs9' := Hd (hs8.out.on F.out hg9 hs9);have hst' := Hd hst;clear hg9 hs9 hst hs8 c1;have hsA := Hd (hs9'.out.set2 F.out (strOf nm));have z2 := hs9'.out.tb.cell 2;have zf := hs9'.out.tb.frozen 2
  go_upto_region 31 with fail
  generalize w9.setCell ⟨T2, 2, none⟩ (.string (strOf nm)) = wA at hsA ⊢;clear z2 zf hs9';have z2 := hsA.out.tb.cell 2;go_wp2_with fail;refine (rsame_any wA nm [120, 109, 108] hnl (by decide)).mono ?_;rintro e wA' ⟨rfl, hwA⟩;subst hwA;clear z2
  cases hxm : decide (nm.map low = [120, 109, 108]) with
  | true =>
   go_wp2_with fail
   try rw [show ((k : Int) + 2) = ((k + 2 : Nat) : Int) by omega]
   refine (rbad_all _ b S q1 A c p1 hsA.out.sr 2 (k + 2)).mono ?_;rintro e wB ⟨rfl, hgB, e2, p2, hsB, hB0, hB1⟩;have hsB' := Hd (hsA.out.on F.out hgB hsB);have hdup : Hid ((e1 ≠ 0 -> e2 = e1 /\ p2 = p1) /\ (e1 = 0 -> (nm.map low = [120, 109, 108] -> e2 = 2 /\ p2 = k + 2) /\ (nm.map low ≠ [120, 109, 108] -> e2 = 0 /\ p2 = p1))) := Hd ⟨hB1, fun h => ⟨fun _ => hB0 h, fun hn => absurd (of_decide_eq_true hxm) hn⟩⟩;clear hgB hsB hB0 hB1 hsA hxm;go_wp2_with fail;refine (rblanks_all _ b S q1 A c p2 hsB'.out.sr hq1 hS).mono ?_;rintro e wC ⟨n3, rfl, hgC, hq3, hsC, hn3, hn3'⟩;have hsC' := Hd (hsB'.out.on F.out hgC hsC);have h3 := Hd (And.intro hn3 hn3');clear hgC hsC hn3 hn3' hsB'
   by_cases hn0 : n3 = 0
   ·have i3 : ((n3 : Int) == 0) = true := by rw [hn0]; rfl
    have hn0' := Hd hn0;clear hn0;go_wp2_with fail;refine (rmust_all wC b S (q1 + n3) A c p2 hsC'.out.sr hq3 hS 63).mono ?_;rintro e wD ⟨u4, q4, e4, p4, rfl, hgD, hq4, hsD, hst4⟩;have hsD' := Hd (hsC'.out.on F.out hgD hsD);have hst4' := Hd hst4;clear hgD hsD hst4 hsC';go_wp2_with fail;refine (rmust_all wD b S q4 A c p4 hsD'.out.sr hq4 hS 62).mono ?_;rintro e wE ⟨u5, q5, e5, p5, rfl, hgE, hq5, hsE, hst5⟩;have hsE' := Hd (hsD'.out.on F.out hgE hsE);have hst5' := Hd hst5;clear hgE hsE hst5 hsD';have z0 := hsE'.out.tb.cell 0;have z1 := hsE'.out.tb.cell 1;have z2 := hsE'.out.tb.cell 2;have z3 := hsE'.out.tb.cell 3;have z4 := hsE'.out.tb.cell 4;have y0 := hsE'.out.rb.cell 0;have g0 := hsE'.out.rb.frozen 0;have y1 := hsE'.out.rb.cell 1;have g1 := hsE'.out.rb.frozen 1;have y2 := hsE'.out.rb.cell 2;have g2 := hsE'.out.rb.frozen 2;have y3 := hsE'.out.rb.cell 3;have g3 := hsE'.out.rb.frozen 3;have y4 := hsE'.out.rb.cell 4;have g4 := hsE'.out.rb.frozen 4;go_wp2_with fail;have hfin := hsE'.out.put F.out (OwS.nil (El := AtEl) (k := 2) _ _ 55);unfold putTok at hfin
    (try simp only [Exit.inBlock, Exit.then])
    refine bodyPost_ret (res_tb rfl hfin.1 rfl) rfl ?_;refine ⟨⟨7, k, nm, [], []⟩, _, rfl, hfin.2.1, hfin.2.2.2, by simp, _, _, _, hfin.2.2.1, ?_⟩;have hfinal := instr_steps hst'.out hdup.out rfl h3.out hn0'.out hst4'.out hst5'.out;rw [hRc.out]
    cases hE : instr (S.drop k) with
    | bad cd o => rw [hE] at hfinal; exact hfinal
    | ok t n =>
     rw [hE] at hfinal;obtain ⟨g1, g2, g3, rfl⟩ := hfinal;exact ⟨g1, g2, g3, rfl⟩
   ·have i3 : ((n3 : Int) == 0) = false := by rw [beq_eq_false_iff_ne]; omega
    obtain ⟨rfl, rfl, hq2, hRi⟩ := instr_text hst'.out hdup.out rfl h3.out hn0;rw [<- hRc.out] at hRi;have hRi' := Hd hRi;have hkl : q1 + n3 <= S.length := hq3;clear hn0 hRi;go_wp2_with fail;refine (runtil_any wC b S (q1 + n3) A c _ hsC'.out.sr hq3 (by omega) [63, 62] (by decide) (by decide)).mono ?_;rintro e w7 ⟨hg7, hG⟩;obtain ⟨G, hGe⟩ : ∃ G, upto [63, 62] (S.drop (q1 + n3)) = G := ⟨_, rfl⟩;rw [hGe] at hG;have hup0 := Hd hGe;clear hGe
    cases G with
    | bad cd o =>
     obtain ⟨hc, v, q, rfl, rfl, hq, hs7'⟩ := hG;have hup := hup0;have hs7 := Hd (hsC'.out.on F.out hg7 hs7');clear hs7' hg7 hsC' hup0;go_wp2_with fail;refine (refLines_any ⟨#[]⟩ (by decide) w7).mono ?_;rintro e wl ⟨rfl, hbl⟩;have hsl := Hd (hs7.out.below hbl);rw [show (⟨#[]⟩ : ByteArray).data.toList = [] from rfl];have hs8 := Hd (hsl.out.set3 F.out (strOf (Utf.lines ([]))));have z3 := hsl.out.tb.cell 3;have zf := hsl.out.tb.frozen 3;clear hbl hs7
     go_upto_region 38 with fail
     generalize wl.setCell ⟨T2, 3, none⟩ (.string (strOf (Utf.lines ([])))) = w8 at hs8 ⊢;clear z3 zf hsl;have hc' := Hd hc;clear hc;have z0 := hs8.out.tb.cell 0;have z1 := hs8.out.tb.cell 1;have z2 := hs8.out.tb.cell 2;have z3 := hs8.out.tb.cell 3;have z4 := hs8.out.tb.cell 4;have y0 := hs8.out.rb.cell 0;have g0 := hs8.out.rb.frozen 0;have y1 := hs8.out.rb.cell 1;have g1 := hs8.out.rb.frozen 1;have y2 := hs8.out.rb.cell 2;have g2 := hs8.out.rb.frozen 2;have y3 := hs8.out.rb.cell 3;have g3 := hs8.out.rb.frozen 3;have y4 := hs8.out.rb.cell 4;have g4 := hs8.out.rb.frozen 4;go_wp2_with fail;have hfin := hs8.out.put F.out (OwS.nil (El := AtEl) (k := 2) _ _ 55);unfold putTok at hfin
     (try simp only [Exit.inBlock, Exit.then])
     refine bodyPost_ret (res_tb rfl hfin.1 rfl) rfl ?_;refine ⟨⟨7, k, nm, Utf.lines [], []⟩, _, rfl, hfin.2.1, hfin.2.2.2, by simp, _, _, _, hfin.2.2.1, ?_⟩;rw [hRi'.out, hup.out];exact ⟨rfl, hc'.out, by omega⟩
    | ok x n =>
     obtain ⟨rfl, hs7'⟩ := hG;have hup := hup0;have hs7 := Hd (hsC'.out.on F.out hg7 hs7');have hxl := upto_len hup.out;rw [List.length_drop] at hxl;have hxn : (strOf x).size = x.length := strOf_size' x;have hx1 := hxl.1;have hx2 := hxl.2.1;clear hs7' hg7 hsC' hup0 hxl;go_wp2_with fail;refine (refLines_any (strOf (x)) (by omega) w7).mono ?_;rintro e wl ⟨rfl, hbl⟩;have hsl := Hd (hs7.out.below hbl);rw [show (strOf (x) : ByteArray).data.toList = x by simp [strOf]];have hs8 := Hd (hsl.out.set3 F.out (strOf (Utf.lines (x))));have z3 := hsl.out.tb.cell 3;have zf := hsl.out.tb.frozen 3;clear hbl hs7
     go_upto_region 38 with fail
     generalize wl.setCell ⟨T2, 3, none⟩ (.string (strOf (Utf.lines (x)))) = w8 at hs8 ⊢;clear z3 zf hsl;have z0 := hs8.out.tb.cell 0;have z1 := hs8.out.tb.cell 1;have z2 := hs8.out.tb.cell 2;have z3 := hs8.out.tb.cell 3;have z4 := hs8.out.tb.cell 4;have y0 := hs8.out.rb.cell 0;have g0 := hs8.out.rb.frozen 0;have y1 := hs8.out.rb.cell 1;have g1 := hs8.out.rb.frozen 1;have y2 := hs8.out.rb.cell 2;have g2 := hs8.out.rb.frozen 2;have y3 := hs8.out.rb.cell 3;have g3 := hs8.out.rb.frozen 3;have y4 := hs8.out.rb.cell 4;have g4 := hs8.out.rb.frozen 4;go_wp2_with fail;have hfin := hs8.out.put F.out (OwS.nil (El := AtEl) (k := 2) _ _ 55);unfold putTok at hfin
     (try simp only [Exit.inBlock, Exit.then])
     refine bodyPost_ret (res_tb rfl hfin.1 rfl) rfl ?_;refine ⟨⟨7, k, nm, Utf.lines x, []⟩, _, rfl, hfin.2.1, hfin.2.2.2, by simp, _, _, _, hfin.2.2.1, ?_⟩;rw [hRi'.out, hup.out];exact ⟨rfl, rfl, by omega, rfl⟩
  | false =>
   have hdup : Hid ((e1 ≠ 0 -> e1 = e1 /\ p1 = p1) /\ (e1 = 0 -> (nm.map low = [120, 109, 108] -> e1 = 2 /\ p1 = k + 2) /\ (nm.map low ≠ [120, 109, 108] -> e1 = 0 /\ p1 = p1))) := Hd ⟨fun _ => ⟨rfl, rfl⟩, fun h => ⟨fun hm => absurd hm (of_decide_eq_false hxm), fun _ => ⟨h, rfl⟩⟩⟩;have hsB' := hsA;clear hsA hxm;obtain ⟨e2, p2, he2, hp2⟩ : ∃ e2 p2, e1 = e2 /\ p1 = p2 := ⟨_, _, rfl, rfl⟩;rw [he2, hp2] at hsB';have hdup2 : Hid ((e1 ≠ 0 -> e2 = e1 /\ p2 = p1) /\ (e1 = 0 -> (nm.map low = [120, 109, 108] -> e2 = 2 /\ p2 = k + 2) /\ (nm.map low ≠ [120, 109, 108] -> e2 = 0 /\ p2 = p1))) := Hd (by subst he2 hp2; exact hdup.out);clear hdup he2 hp2;have hdup := hdup2;clear hdup2;go_wp2_with fail;refine (rblanks_all _ b S q1 A c p2 hsB'.out.sr hq1 hS).mono ?_;rintro e wC ⟨n3, rfl, hgC, hq3, hsC, hn3, hn3'⟩;have hsC' := Hd (hsB'.out.on F.out hgC hsC);have h3 := Hd (And.intro hn3 hn3');clear hgC hsC hn3 hn3' hsB'
   by_cases hn0 : n3 = 0
   ·have i3 : ((n3 : Int) == 0) = true := by rw [hn0]; rfl
    have hn0' := Hd hn0;clear hn0;go_wp2_with fail;refine (rmust_all wC b S (q1 + n3) A c p2 hsC'.out.sr hq3 hS 63).mono ?_;rintro e wD ⟨u4, q4, e4, p4, rfl, hgD, hq4, hsD, hst4⟩;have hsD' := Hd (hsC'.out.on F.out hgD hsD);have hst4' := Hd hst4;clear hgD hsD hst4 hsC';go_wp2_with fail;refine (rmust_all wD b S q4 A c p4 hsD'.out.sr hq4 hS 62).mono ?_;rintro e wE ⟨u5, q5, e5, p5, rfl, hgE, hq5, hsE, hst5⟩;have hsE' := Hd (hsD'.out.on F.out hgE hsE);have hst5' := Hd hst5;clear hgE hsE hst5 hsD';have z0 := hsE'.out.tb.cell 0;have z1 := hsE'.out.tb.cell 1;have z2 := hsE'.out.tb.cell 2;have z3 := hsE'.out.tb.cell 3;have z4 := hsE'.out.tb.cell 4;have y0 := hsE'.out.rb.cell 0;have g0 := hsE'.out.rb.frozen 0;have y1 := hsE'.out.rb.cell 1;have g1 := hsE'.out.rb.frozen 1;have y2 := hsE'.out.rb.cell 2;have g2 := hsE'.out.rb.frozen 2;have y3 := hsE'.out.rb.cell 3;have g3 := hsE'.out.rb.frozen 3;have y4 := hsE'.out.rb.cell 4;have g4 := hsE'.out.rb.frozen 4;go_wp2_with fail;have hfin := hsE'.out.put F.out (OwS.nil (El := AtEl) (k := 2) _ _ 55);unfold putTok at hfin
    (try simp only [Exit.inBlock, Exit.then])
    refine bodyPost_ret (res_tb rfl hfin.1 rfl) rfl ?_;refine ⟨⟨7, k, nm, [], []⟩, _, rfl, hfin.2.1, hfin.2.2.2, by simp, _, _, _, hfin.2.2.1, ?_⟩;have hfinal := instr_steps hst'.out hdup.out rfl h3.out hn0'.out hst4'.out hst5'.out;rw [hRc.out]
    cases hE : instr (S.drop k) with
    | bad cd o => rw [hE] at hfinal; exact hfinal
    | ok t n =>
     rw [hE] at hfinal;obtain ⟨g1, g2, g3, rfl⟩ := hfinal;exact ⟨g1, g2, g3, rfl⟩
   ·have i3 : ((n3 : Int) == 0) = false := by rw [beq_eq_false_iff_ne]; omega
    obtain ⟨rfl, rfl, hq2, hRi⟩ := instr_text hst'.out hdup.out rfl h3.out hn0;rw [<- hRc.out] at hRi;have hRi' := Hd hRi;have hkl : q1 + n3 <= S.length := hq3;clear hn0 hRi;go_wp2_with fail;refine (runtil_any wC b S (q1 + n3) A c _ hsC'.out.sr hq3 (by omega) [63, 62] (by decide) (by decide)).mono ?_;rintro e w7 ⟨hg7, hG⟩;obtain ⟨G, hGe⟩ : ∃ G, upto [63, 62] (S.drop (q1 + n3)) = G := ⟨_, rfl⟩;rw [hGe] at hG;have hup0 := Hd hGe;clear hGe
    cases G with
    | bad cd o =>
     obtain ⟨hc, v, q, rfl, rfl, hq, hs7'⟩ := hG;have hup := hup0;have hs7 := Hd (hsC'.out.on F.out hg7 hs7');clear hs7' hg7 hsC' hup0;go_wp2_with fail;refine (refLines_any ⟨#[]⟩ (by decide) w7).mono ?_;rintro e wl ⟨rfl, hbl⟩;have hsl := Hd (hs7.out.below hbl);rw [show (⟨#[]⟩ : ByteArray).data.toList = [] from rfl];have hs8 := Hd (hsl.out.set3 F.out (strOf (Utf.lines ([]))));have z3 := hsl.out.tb.cell 3;have zf := hsl.out.tb.frozen 3;clear hbl hs7
     go_upto_region 38 with fail
     generalize wl.setCell ⟨T2, 3, none⟩ (.string (strOf (Utf.lines ([])))) = w8 at hs8 ⊢;clear z3 zf hsl;have hc' := Hd hc;clear hc;have z0 := hs8.out.tb.cell 0;have z1 := hs8.out.tb.cell 1;have z2 := hs8.out.tb.cell 2;have z3 := hs8.out.tb.cell 3;have z4 := hs8.out.tb.cell 4;have y0 := hs8.out.rb.cell 0;have g0 := hs8.out.rb.frozen 0;have y1 := hs8.out.rb.cell 1;have g1 := hs8.out.rb.frozen 1;have y2 := hs8.out.rb.cell 2;have g2 := hs8.out.rb.frozen 2;have y3 := hs8.out.rb.cell 3;have g3 := hs8.out.rb.frozen 3;have y4 := hs8.out.rb.cell 4;have g4 := hs8.out.rb.frozen 4;go_wp2_with fail;have hfin := hs8.out.put F.out (OwS.nil (El := AtEl) (k := 2) _ _ 55);unfold putTok at hfin
     (try simp only [Exit.inBlock, Exit.then])
     refine bodyPost_ret (res_tb rfl hfin.1 rfl) rfl ?_;refine ⟨⟨7, k, nm, Utf.lines [], []⟩, _, rfl, hfin.2.1, hfin.2.2.2, by simp, _, _, _, hfin.2.2.1, ?_⟩;rw [hRi'.out, hup.out];exact ⟨rfl, hc'.out, by omega⟩
    | ok x n =>
     obtain ⟨rfl, hs7'⟩ := hG;have hup := hup0;have hs7 := Hd (hsC'.out.on F.out hg7 hs7');have hxl := upto_len hup.out;rw [List.length_drop] at hxl;have hxn : (strOf x).size = x.length := strOf_size' x;have hx1 := hxl.1;have hx2 := hxl.2.1;clear hs7' hg7 hsC' hup0 hxl;go_wp2_with fail;refine (refLines_any (strOf (x)) (by omega) w7).mono ?_;rintro e wl ⟨rfl, hbl⟩;have hsl := Hd (hs7.out.below hbl);rw [show (strOf (x) : ByteArray).data.toList = x by simp [strOf]];have hs8 := Hd (hsl.out.set3 F.out (strOf (Utf.lines (x))));have z3 := hsl.out.tb.cell 3;have zf := hsl.out.tb.frozen 3;clear hbl hs7
     go_upto_region 38 with fail
     generalize wl.setCell ⟨T2, 3, none⟩ (.string (strOf (Utf.lines (x)))) = w8 at hs8 ⊢;clear z3 zf hsl;have z0 := hs8.out.tb.cell 0;have z1 := hs8.out.tb.cell 1;have z2 := hs8.out.tb.cell 2;have z3 := hs8.out.tb.cell 3;have z4 := hs8.out.tb.cell 4;have y0 := hs8.out.rb.cell 0;have g0 := hs8.out.rb.frozen 0;have y1 := hs8.out.rb.cell 1;have g1 := hs8.out.rb.frozen 1;have y2 := hs8.out.rb.cell 2;have g2 := hs8.out.rb.frozen 2;have y3 := hs8.out.rb.cell 3;have g3 := hs8.out.rb.frozen 3;have y4 := hs8.out.rb.cell 4;have g4 := hs8.out.rb.frozen 4;go_wp2_with fail;have hfin := hs8.out.put F.out (OwS.nil (El := AtEl) (k := 2) _ _ 55);unfold putTok at hfin
     (try simp only [Exit.inBlock, Exit.then])
     refine bodyPost_ret (res_tb rfl hfin.1 rfl) rfl ?_;refine ⟨⟨7, k, nm, Utf.lines x, []⟩, _, rfl, hfin.2.1, hfin.2.2.2, by simp, _, _, _, hfin.2.2.1, ?_⟩;rw [hRi'.out, hup.out];exact ⟨rfl, rfl, by omega, rfl⟩
 have hn63 : Hid (S[k + 1]? ≠ some 63) := Hd h63;have j63 : (cF S (k + 1) == 63) = false := cF_ne (y := 63) h63;clear h63
 by_cases h47 : S[k + 1]? = some 47
 ·have hRc : Hid (R = endT (S.drop k)) := Hd (by rw [<- hR'.out, tk_end hx'.out h47]);have hkl : k + 2 <= S.length := (List.getElem?_eq_some_iff.1 h47).1;have hF2 : cF S (k + 1) = 47 := by rw [cF_at h47]; rfl
  have hF2' := Hd hF2;clear h47 hF2 j33 j63
  go_enter Tryz.func104, Tryz.ntmps104
  go_wp2_with fail;generalize w1.alloc (.cells #[.int .i64 0, .int .i64 (k : Nat), .string ⟨#[]⟩, .string ⟨#[]⟩, .slice none 0 0] 87) = w2 at hs2 ⊢;clear hw1 hT2 hT0 c1;refine (rc_any w2 b S k A c pl hs2.out.sr 0 (by omega)).mono ?_;rintro e w3 ⟨rfl, hbz⟩;have hs3 := Hd (hs2.out.below hbz);rw [Nat.add_zero, hF'.out];clear hbz hs2;go_wp2_with fail;refine (rhas_any w3 b S k A c pl hs3.out.sr [60, 33, 45, 45] (by decide) (by omega)).mono ?_;rintro e w4 ⟨rfl, hbz⟩;have hs4 := Hd (hs3.out.below hbz);rw [hcm];clear hbz hs3;go_wp2_with fail;refine (rhas_any w4 b S k A c pl hs4.out.sr [60, 33, 91, 67, 68, 65, 84, 65, 91] (by decide) (by omega)).mono ?_;rintro e w5 ⟨rfl, hbz⟩;have hs5 := Hd (hs4.out.below hbz);rw [hcd];clear hbz hs4;go_wp2_with fail;refine (rc_any w5 b S (k) A c pl hs5.out.sr 1 (by omega)).mono ?_;rintro e w6 ⟨rfl, hbz⟩;have hs6 := Hd (hs5.out.below hbz);rw [hF2'.out];clear hbz hs5;go_wp2_with fail;refine (rc_any w6 b S (k) A c pl hs6.out.sr 1 (by omega)).mono ?_;rintro e w7 ⟨rfl, hbz⟩;have hs7 := Hd (hs6.out.below hbz);rw [hF2'.out];clear hbz hs6;go_wp2_with fail;refine (rc_any w7 b S (k) A c pl hs7.out.sr 1 (by omega)).mono ?_;rintro e w77 ⟨rfl, hbz⟩;have hs77 := Hd (hs7.out.below hbz);rw [hF2'.out];clear hbz hs7;have hs8 := Hd ((hs77.out.set0 F.out 3).set1 F.out (k + 2));have z0 := hs77.out.tb.cell 0;have zf := hs77.out.tb.frozen 0;have d1 := hs77.out.sr.c1;have g1 := hs77.out.sr.frozen 1;go_wp2_with fail
  try rw [show ((k : Int) + 2) = ((k + 2 : Nat) : Int) by omega]
  generalize (w77.setCell ⟨T2, 0, none⟩ (.int .i64 3)).setCell ⟨b, 1, none⟩ (.int .i64 ((k + 2 : Nat) : Int)) = w8 at hs8 ⊢;clear z0 zf d1 g1 hs77;refine (rname_all w8 b S (k + 2) A c pl hs8.out.sr hkl hS).mono ?_;rintro e w9 ⟨nm, q1, e1, p1, rfl, hg9, hq1, hs9, hst⟩;have hs9' := Hd (hs8.out.on F.out hg9 hs9);have hst' := Hd hst;clear hg9 hs9 hst hs8;have hsA := Hd (hs9'.out.set2 F.out (strOf nm));have z2 := hs9'.out.tb.cell 2;have zf := hs9'.out.tb.frozen 2;go_wp2_with fail;generalize w9.setCell ⟨T2, 2, none⟩ (.string (strOf nm)) = wA at hsA ⊢;clear z2 zf hs9';refine (rblanks_all wA b S q1 A c p1 hsA.out.sr hq1 hS).mono ?_;rintro e wB ⟨n3, rfl, hgB, hq3, hsB, hn3, hn3'⟩;have hsB' := Hd (hsA.out.on F.out hgB hsB);have h3 := Hd (And.intro hn3 hn3');clear hgB hsB hn3 hn3' hsA;go_wp2_with fail;refine (rmust_all wB b S (q1 + n3) A c p1 hsB'.out.sr hq3 hS 62).mono ?_;rintro e wC ⟨u4, q4, e4, p4, rfl, hgC, hq4, hsC, hst4⟩;have hsC' := Hd (hsB'.out.on F.out hgC hsC);have hst4' := Hd hst4;clear hgC hsC hst4 hsB';have z0 := hsC'.out.tb.cell 0;have z1 := hsC'.out.tb.cell 1;have z2 := hsC'.out.tb.cell 2;have z3 := hsC'.out.tb.cell 3;have z4 := hsC'.out.tb.cell 4;have y0 := hsC'.out.rb.cell 0;have g0 := hsC'.out.rb.frozen 0;have y1 := hsC'.out.rb.cell 1;have g1 := hsC'.out.rb.frozen 1;have y2 := hsC'.out.rb.cell 2;have g2 := hsC'.out.rb.frozen 2;have y3 := hsC'.out.rb.cell 3;have g3 := hsC'.out.rb.frozen 3;have y4 := hsC'.out.rb.cell 4;have g4 := hsC'.out.rb.frozen 4;go_wp2_with fail;have hfin := hsC'.out.put F.out (OwS.nil (El := AtEl) (k := 2) _ _ 55);unfold putTok at hfin
  (try simp only [Exit.inBlock, Exit.then])
  refine bodyPost_ret (res_tb rfl hfin.1 rfl) rfl ?_;refine ⟨⟨3, k, nm, [], []⟩, _, rfl, hfin.2.1, hfin.2.2.2, by simp, _, _, _, hfin.2.2.1, ?_⟩;have hfinal := end_steps hst'.out h3.out hst4'.out;rw [hRc.out]
  cases hE : endT (S.drop k) with
  | bad cd o => rw [hE] at hfinal; exact hfinal
  | ok t n =>
   rw [hE] at hfinal;obtain ⟨g1, g2, g3, rfl⟩ := hfinal;exact ⟨g1, g2, g3, rfl⟩
 have hRc : Hid (R = tag (S.drop k)) := Hd (by rw [<- hR'.out, tk_tag hx'.out hn33.out hn63.out h47]);have j47 : (cF S (k + 1) == 47) = false := cF_ne (y := 47) h47;clear h47
 go_enter Tryz.func104, Tryz.ntmps104
 go_wp2_with fail;generalize w1.alloc (.cells #[.int .i64 0, .int .i64 (k : Nat), .string ⟨#[]⟩, .string ⟨#[]⟩, .slice none 0 0] 87) = w2 at hs2 ⊢;clear hw1 hT2 hT0 c1;refine (rc_any w2 b S k A c pl hs2.out.sr 0 (by omega)).mono ?_;rintro e w3 ⟨rfl, hbz⟩;have hs3 := Hd (hs2.out.below hbz);rw [Nat.add_zero, hF'.out];clear hbz hs2;go_wp2_with fail;refine (rhas_any w3 b S k A c pl hs3.out.sr [60, 33, 45, 45] (by decide) (by omega)).mono ?_;rintro e w4 ⟨rfl, hbz⟩;have hs4 := Hd (hs3.out.below hbz);rw [hcm];clear hbz hs3;go_wp2_with fail;refine (rhas_any w4 b S k A c pl hs4.out.sr [60, 33, 91, 67, 68, 65, 84, 65, 91] (by decide) (by omega)).mono ?_;rintro e w5 ⟨rfl, hbz⟩;have hs5 := Hd (hs4.out.below hbz);rw [hcd];clear hbz hs4;go_wp2_with fail;refine (rc_any w5 b S (k) A c pl hs5.out.sr 1 (by omega)).mono ?_;rintro e w6 ⟨rfl, hbz⟩;have hs6 := Hd (hs5.out.below hbz);clear hbz hs5;go_wp2_with fail;refine (rc_any w6 b S (k) A c pl hs6.out.sr 1 (by omega)).mono ?_;rintro e w7 ⟨rfl, hbz⟩;have hs7 := Hd (hs6.out.below hbz);clear hbz hs6;go_wp2_with fail;refine (rc_any w7 b S (k) A c pl hs7.out.sr 1 (by omega)).mono ?_;rintro e w8 ⟨rfl, hbz⟩;have hs8 := Hd (hs7.out.below hbz);clear hbz hs7;have z0 := hs8.out.tb.cell 0;have z1 := hs8.out.tb.cell 1;have z2 := hs8.out.tb.cell 2;have z3 := hs8.out.tb.cell 3;have z4 := hs8.out.tb.cell 4;go_wp2_with fail;refine (rtag_any w8 b S k A c pl k hs8.out.sr hk hS).mono ?_;rintro e w9 ⟨t, va, rfl, hg9, ho9, hl9, q', e', pl', hs9, hfin0⟩;have hs9' := Hd (hs8.out.on F.out hg9 hs9);have ho9' := Hd (OwS.low ho9 hs8.out.sz);have hfin0' := Hd hfin0;obtain ⟨A5, c5, rfl⟩ := ho9.form;unfold tkV;clear hg9 hs9 ho9 hfin0 hs8;have y0 := hs9'.out.rb.cell 0;have g0 := hs9'.out.rb.frozen 0;have y1 := hs9'.out.rb.cell 1;have g1 := hs9'.out.rb.frozen 1;have y2 := hs9'.out.rb.cell 2;have g2 := hs9'.out.rb.frozen 2;have y3 := hs9'.out.rb.cell 3;have g3 := hs9'.out.rb.frozen 3
 have y4 := hs9'.out.rb.cell 4;have g4 := hs9'.out.rb.frozen 4;go_wp2_with fail;have hfin := TgS.putV (kd' := (t.kind : Nat)) (at' := (t.at_ : Nat)) (nm' := strOf t.name) (tx' := strOf t.text) F.out hs9'.out ho9'.out;unfold putTok at hfin
 (try simp only [Exit.inBlock, Exit.then])
 refine bodyPost_ret (res_tb rfl hfin.1 rfl) rfl ?_;refine ⟨t, _, rfl, hfin.2.1, hfin.2.2.2, hl9, _, _, _, hfin.2.2.1, ?_⟩;rw [hRc.out];exact hfin0'.out
end
end Go.Proofs.YtokdnhdfmgfkeaaGreatDoor.Xl
end

section
namespace Go.Proofs.YtokdnhdfmgfkeaaGreatDoor.Xl
open Go.RowKit UtfW Er
theorem eat_one {a : UInt8} {r : Tx} : eat [a] r = if Lib.hasPrefix r [a] = true then .ok () 1 else if r = [] then .bad 6 0 else .bad 2 0 := by
 cases r with
 | nil => rfl
 | cons y t =>
  rw [eat, eat]
  by_cases h : y = a
  ·subst h;rw [if_pos rfl, if_pos (by simp [Lib.hasPrefix, List.isPrefixOf])];rfl
  ·rw [if_neg h, if_neg (by simp [Lib.hasPrefix, List.isPrefixOf]; exact fun e => h e.symm), if_neg (by simp)]
def GivesQR (w : World) (k : Nat) (x : Option (Tx × Nat)) (e : Ending) (w' : World) : Prop :=
 Below w.heap.size w w' /\ match x with
 | none => e = .returned (.tuple #[.string ⟨#[]⟩, .int .i64 (-1)])
 | some (t, n) => e = .returned (.tuple #[.string (strOf t), .int .i64 ((k + n : Nat) : Int)])
section
variable (w : World) (S : Tx) (k : Nat) (p : Tx)
set_option maxHeartbeats 4000000 in
set_option maxRecDepth 100000 in
theorem rquoted_any (hk : k <= S.length) (hS : S.length <= 65536) (hp : p.length <= 100) :
    Calls Tryz.prog 136 #[.string (strOf S), .int .i64 (k : Nat), .string (strOf p)] w fun e w' => GivesQR w k (quoted p (S.drop k)) e w' := by
  have hpz : (strOf p).size = p.length := strOf_size' p;obtain ⟨bd, cb, w1, hcv, hbs, hb1⟩ := conv_bytes w S (by omega);have hbA := below_alloc w1 (.cells #[.slice (some ⟨bd, 0, none⟩) S.length cb, .int .i64 (k : Nat), .int .i64 0, .int .i64 0] 140)
  have hs2 : Sr (w1.alloc (.cells #[.slice (some ⟨bd, 0, none⟩) S.length cb, .int .i64 (k : Nat), .int .i64 0, .int .i64 0] 140)) w1.heap.size S k (some ⟨bd, 0, none⟩) cb 0 0 := by
    refine ⟨heap_alloc_new w1 _, Bs.below hbs hbA, fun a e hn => ?_⟩;injection e with e;subst e;obtain ⟨b', off, e, hlt, _⟩ := Rd.cell hbs hn;injection e with e;injection e with e1 e2;subst e1
    show bd ≠ w1.heap.size
    omega
  have hbB := Hd (hb1.trans (hbA.mono hb1.size));have hbw : Hid (w.heap.size <= w1.heap.size) := Hd hb1.size;have hs2' := Hd hs2;obtain ⟨R, hR⟩ : ∃ R, quoted p (S.drop k) = R := ⟨_, rfl⟩;rw [hR];have hR' := Hd hR;clear hs2 hbA hb1 hbs hR
  go_enter Tryz.func136, Tryz.ntmps136
  go_wp2_with fail;generalize w1.alloc (.cells #[.slice (some ⟨bd, 0, none⟩) S.length cb, .int .i64 (k : Nat), .int .i64 0, .int .i64 0] 140) = w2 at hs2' hbB ⊢;generalize w1.heap.size = b at hs2' hbw ⊢;clear hcv;have hfin : Hid (∀ w', w2.grownBy w' (some b) -> Below w.heap.size w w') := Hd (fun w' hg => hbB.out.trans (below_row hg hbw.out hbB.out.size));refine (rhas_any w2 b S k _ cb 0 hs2'.out p (by omega) (by omega)).mono ?_;rintro e w3 ⟨rfl, hb3⟩;have hs3 := Hd (hs2'.out.below hb3);have hg3 := Hd (grown_in (r := some b) hb3);clear hb3 hs2'
  cases hp1 : Lib.hasPrefix (S.drop k) p with
  | false =>
    have hRn : Hid (R = none) := Hd (by rw [<- hR'.out, qu_has hp1]);clear hp1;go_wp2_with fail
    go_ret2
    refine ⟨hfin.out _ hg3.out, ?_⟩;rw [hRn.out];rfl
  | true =>
  have hp1' := Hd hp1;have hpl : k + p.length <= S.length := by have := Qx.prefix_len hp1; rw [List.length_drop] at this; omega
  have c1 := hs3.out.c1;have f1 := hs3.out.frozen 1;have hset := hs3.out.set1 (k + p.length);have hs4 := Hd hset.1;have hg4 := Hd (hg3.out.trans hset.2);clear hp1 hset;go_wp2_with fail
  try rw [show ((k : Int) + (p.length : Int)) = ((k + p.length : Nat) : Int) by omega]
  generalize w3.setCell ⟨b, 1, none⟩ (.int .i64 ((k + p.length : Nat) : Int)) = w4 at hs4 hg4 ⊢;clear c1 f1 hs3 hg3;refine (rblanks_any w4 b S (k + p.length) _ cb 0 hs4.out hpl (by omega)).mono ?_;rintro e w5 ⟨rfl, hs5, hg5⟩;have hB1 := blanks_le (S.drop (k + p.length));rw [List.length_drop] at hB1;obtain ⟨B1, hBe⟩ : ∃ B1, blanks (S.drop (k + p.length)) = B1 := ⟨_, rfl⟩;rw [hBe] at hs5 hB1 ⊢;have hB1' := Hd hBe;have hs5' := Hd hs5;have hg5' := Hd (hg4.out.trans hg5);clear hs5 hg5 hBe hs4 hg4;go_wp2_with fail;refine (rmust_all w5 b S (k + p.length + B1) _ cb 0 hs5'.out (by omega) hS 61).mono ?_;rintro e w6 ⟨u, q4, e4, p4, rfl, hg6, hq4, hs6, hst⟩;have hs6' := Hd hs6;have hg6' := Hd (hg5'.out.trans hg6);have hst' := Hd hst;clear hs6 hg6 hst hs5' hg5';go_wp2_with fail;refine (rblanks_all w6 b S q4 _ cb p4 hs6'.out hq4 hS).mono ?_;rintro e w7 ⟨n5, rfl, hg7, hq5, hs7, hn5, hn5'⟩;have hs7' := Hd hs7;have hg7' := Hd (hg6'.out.trans hg7);have h5 := Hd (And.intro hn5 hn5');clear hs7 hg7 hn5 hn5' hs6' hg6';go_wp2_with fail;refine (rc_any w7 b S (q4 + n5) _ cb p4 hs7'.out 0 (by omega)).mono ?_;rintro e w8 ⟨rfl, hb8⟩;have hs8 := Hd (hs7'.out.below hb8);have hg8 := Hd (hg7'.out.trans (grown_in (r := some b) hb8));rw [Nat.add_zero];clear hb8 hs7' hg7';have c2 := hs8.out.c2
  by_cases he4 : e4 = 0
  rotate_left
  · have j0 : (e4 != 0) = true := by rw [bne_iff_ne]; exact he4
    have hRn : Hid (R = none) := Hd (by
      rcases hst'.out.2 rfl with ⟨cd, o, he, _⟩ | ⟨n, he, h0, _⟩
      · rw [eat_one] at he
        rw [<- hR'.out, qu_eq hp1'.out hB1'.out];rw [Bool.eq_false_iff];intro h;rw [if_pos h] at he;cases he
      · exact absurd h0 he4)
    clear he4;go_wp2_with fail
    go_ret2
    refine ⟨hfin.out _ hg8.out, ?_⟩;rw [hRn.out];rfl
  subst he4
  have hq4e : Hid (q4 = k + p.length + B1 + 1 /\ p4 = 0 /\ Lib.hasPrefix (S.drop (k + p.length + B1)) [61] = true) := Hd (by
    rcases hst'.out.2 rfl with ⟨cd, o, he, h0, hc, _⟩ | ⟨n, he, h0, h1, h2⟩
    · exact absurd h0.symm hc
    · rw [eat_one] at he
      split at he
      · rename_i h
        injection he with _ hn;exact ⟨by omega, h1, h⟩
      · split at he <;> cases he)
  obtain ⟨hq4v, hp4v, h61⟩ := hq4e.out;subst hq4v;subst hp4v;have h61' := Hd h61;have hn5v : Hid (blanks (S.drop (k + p.length + B1 + 1)) = n5) := Hd (h5.out.1 rfl).symm;clear h61 hq4e hst' h5 hq4;obtain ⟨Q5, hQ5⟩ : ∃ Q5, k + p.length + B1 + 1 + n5 = Q5 := ⟨_, rfl⟩;rw [hQ5] at hs8 hq5 ⊢;have hQ5' := Hd hQ5;clear hQ5
  by_cases hend : S.length <= Q5
  · have hRn : Hid (R = none) := Hd (by rw [<- hR'.out, qu_end hp1'.out hB1'.out h61'.out hn5v.out (by rw [hQ5'.out]; exact hend)])
    rw [cF_end hend];clear hend;go_wp2_with fail
    go_ret2
    refine ⟨hfin.out _ hg8.out, ?_⟩;rw [hRn.out];rfl
  have hlt : Q5 < S.length := by omega
  have hx : S[Q5]? = some S[Q5] := List.getElem?_eq_getElem hlt;generalize S[Q5] = q at hx;rw [cF_at hx];have hx' := Hd hx;clear hx hend
  by_cases hqt : ¬ (q = 34 \/ q = 39)
  · have hRn : Hid (R = none) := Hd (by rw [<- hR'.out, qu_off hp1'.out hB1'.out h61'.out hn5v.out (by rw [hQ5'.out]; exact hx'.out) hqt])
    have m34 : ((q.toNat : Int) != 34) = true := by
      rw [bne_iff_ne]; intro e; exact hqt (.inl (UInt8.toNat_inj.1 (by show q.toNat = 34; omega)))
    have m39 : ((q.toNat : Int) != 39) = true := by
      rw [bne_iff_ne]; intro e; exact hqt (.inr (UInt8.toNat_inj.1 (by show q.toNat = 39; omega)))
    clear hqt;go_wp2_with fail
    go_ret2
    refine ⟨hfin.out _ hg8.out, ?_⟩;rw [hRn.out];rfl
  have hqt2 := Classical.not_not.1 hqt
  have hRf : Hid (R = (find [q] (S.drop (Q5 + 1))).map fun n => ((S.drop (Q5 + 1)).take n, Q5 - k + (n + 2))) := Hd (by
    rw [<- hR'.out, qu_find hp1'.out hB1'.out h61'.out hn5v.out (by rw [hQ5'.out]; exact hx'.out) hqt2, hQ5'.out]
    congr 1
    funext n
    congr 1
    have := hQ5'.out
    omega)
  have hall := Hd hqt2;clear hqt hqt2
  go_upto_region 9 with fail
  go_cut [50] (fun v wx => v = .bool false /\ wx = w8)
  case first =>
    rcases hall.out with e | e
    · have j1 : ((q.toNat : Int) != 34) = false := by rw [e]; rfl
      go_wp2_with fail
      go_meet
      exact ⟨rfl, rfl⟩
    · have j1 : ((q.toNat : Int) != 34) = true := by rw [e]; rfl
      have j2 : ((q.toNat : Int) != 39) = false := by rw [e]; rfl
      go_wp2_with fail
      go_meet
      exact ⟨rfl, rfl⟩
  obtain ⟨rfl, hwc⟩ := hcut;subst hwc;clear c2;have c1 := hs8.out.c1;have f1 := hs8.out.frozen 1;have hset := hs8.out.set1 (Q5 + 1);have hs9 := Hd hset.1;have hg9 := Hd (hg8.out.trans hset.2);clear hset;have hx8 : (q.toNat : Int) % 256 = (q.toNat : Int) := by have := q.toNat_lt; omega
  go_upto_region 12 with fail
  try rw [show ((Q5 : Int) + 1) = ((Q5 + 1 : Nat) : Int) by omega]
  generalize wc.setCell ⟨b, 1, none⟩ (.int .i64 ((Q5 + 1 : Nat) : Int)) = w9 at hs9 hg9 ⊢;clear c1 f1 hs8 hg8;have hcv := conv_one w9 q;have hal := below_alloc w9 (.cells #[.int .u8 (q.toNat : Int)] 5);have hsA := Hd (hs9.out.below hal);have hgA := Hd (hg9.out.trans (grown_in (r := some b) hal));clear hal;go_wp2_with fail;refine (runtil_any _ b S (Q5 + 1) _ cb 0 hsA.out (by omega) (by omega) [q] (by simp) (by simp)).mono ?_;rintro e wB ⟨hgB, hG⟩;have hgB' := Hd (hgA.out.trans hgB);unfold upto at hG;clear hgB hcv
  cases hf : find [q] (S.drop (Q5 + 1)) with
  | none =>
    rw [hf] at hG;obtain ⟨hc, v, q2, rfl, rfl, hq2, hsB⟩ := hG;have hRn : Hid (R = none) := Hd (by rw [hRf.out, hf]; rfl);have c2 := hsB.c2;clear hf hc hsB;go_wp2_with fail
    go_ret2
    refine ⟨hfin.out _ hgB'.out, ?_⟩;rw [hRn.out];rfl
  | some n =>
    rw [hf] at hG;obtain ⟨rfl, hsB⟩ := hG;have hfl := (find_len hf).1;rw [List.length_drop] at hfl;simp only [List.length_cons, List.length_nil] at hfl hsB;have hRs : Hid (R = some ((S.drop (Q5 + 1)).take n, Q5 - k + (n + 2))) := Hd (by rw [hRf.out, hf]; rfl);have hsB' := Hd hsB;have c2 := hsB'.out.c2;clear hf hsB;go_wp2_with fail;refine Pl.wp_region_plan 6 (.take 0 (.take 1 (.take 2 (.take 3 (.take 4 (.take 5 .done)))))) (fun x => Below wB.heap.size wB x) (by kernel_rfl) (by kernel_rfl) (by exact below_drew wB) ?_;simp only [Pl.fill, Al_4, Al_5, Al_6, Al_7]
    iterate 6
      first
      | (refine Pl.take_go ?_ (by rfl) (fun _ _ _ h => h) ?_ ?_
         rotate_left
         · (intro x hSw; have s1 := (hsB'.out.below hSw).c1; go_simp; try with_reducible rfl)
         (try simp only [Act.put, Al_1, Al_2, Al_3]))
      | (refine Pl.take_skip (by rfl) (fun _ _ _ h => h) ?_
         (try simp only [Act.put, Al_1, Al_2, Al_3]))
    refine Pl.done_go ?_;have hgC := Hd (hgB'.out.trans (grown_in (r := some b) (below_drew wB)));go_wp2_with fail
    go_ret2
    refine ⟨hfin.out _ hgC.out, ?_⟩;rw [hRs.out]
    show _ = Ending.returned (.tuple #[.string (strOf ((S.drop (Q5 + 1)).take n)), .int .i64 ((k + (Q5 - k + (n + 2)) : Nat) : Int)])
    rw [show k + (Q5 - k + (n + 2)) = Q5 + 1 + (n + 1) by have := hQ5'.out; omega];rfl
end
end Go.Proofs.YtokdnhdfmgfkeaaGreatDoor.Xl
end

section
namespace Go.Proofs.YtokdnhdfmgfkeaaGreatDoor.Xl
open Go.RowKit UtfW Er
theorem stand_eq (r : Tx) (s : Bool) : stand r s = match quoted [115, 116, 97, 110, 100, 97, 108, 111, 110, 101] r with
  | none => decide (r = [])
  | some (y, n) => s && (decide (y = [121, 101, 115]) || decide (y = [110, 111])) && decide (n + blanks (r.drop n) = r.length) := by
 cases h : Lib.hasPrefix r [115, 116, 97, 110, 100, 97, 108, 111, 110, 101] with
 | false =>
  have hq : quoted [115, 116, 97, 110, 100, 97, 108, 111, 110, 101] r = none := by
   have := qu_has (S := r) (k := 0) (p := [115, 116, 97, 110, 100, 97, 108, 111, 110, 101]) (by rw [List.drop_zero]; exact h)
   rwa [List.drop_zero] at this
  rw [stand_off h, hq]
 | true =>
  cases hq : quoted [115, 116, 97, 110, 100, 97, 108, 111, 110, 101] r with
  | none =>
   rw [stand_none h hq];simp only
   symm
   rw [decide_eq_false_iff_not];rintro rfl;exact absurd h (by decide)
  | some x =>
   obtain ⟨y, n⟩ := x;rw [stand_some h hq]
theorem encd_eq (r : Tx) (s : Bool) : encd r s = match quoted [101, 110, 99, 111, 100, 105, 110, 103] r with
  | none => stand r s
  | some (e, n) => s && decide (e.map low = [117, 116, 102, 45, 56]) && stand (r.drop (n + blanks (r.drop n))) (decide (0 < blanks (r.drop n))) := by
 cases h : Lib.hasPrefix r [101, 110, 99, 111, 100, 105, 110, 103] with
 | false =>
  have hq : quoted [101, 110, 99, 111, 100, 105, 110, 103] r = none := by
   have := qu_has (S := r) (k := 0) (p := [101, 110, 99, 111, 100, 105, 110, 103]) (by rw [List.drop_zero]; exact h)
   rwa [List.drop_zero] at this
  rw [encd_off h, hq]
 | true =>
  cases hq : quoted [101, 110, 99, 111, 100, 105, 110, 103] r with
  | none =>
   rw [encd_none h hq];obtain ⟨y, rfl⟩ := hp_cut h;simp only;rw [stand_off (by simp [Lib.hasPrefix, List.isPrefixOf])]
   symm
   rw [decide_eq_false_iff_not];simp
  | some x =>
   obtain ⟨y, n⟩ := x;rw [encd_some h hq];rfl
section
variable (w : World) (S : Tx)
set_option maxHeartbeats 4000000 in
set_option maxRecDepth 100000 in
theorem rdeclared_any (hS : S.length <= 65536) :
  Calls Tryz.prog 102 #[.string (strOf S)] w fun e w' => e = .returned (.bool (declared S)) /\ Below w.heap.size w w' := by
 have hsz : (strOf S).size = S.length := strOf_size' S;obtain ⟨R, hR⟩ : ∃ R, declared S = R := ⟨_, rfl⟩;rw [hR];have hR' := Hd hR;clear hR;have hbl := blanks_le S
 go_enter Tryz.func102, Tryz.ntmps102
 go_wp2_with fail;refine (rskip_any w S 0 (by omega) (by omega)).mono ?_;rintro e w1 ⟨rfl, hw1⟩;subst hw1;rw [Nat.zero_add, List.drop_zero];obtain ⟨B, hB⟩ : ∃ B, blanks S = B := ⟨_, rfl⟩;rw [hB] at hbl ⊢;have hB' := Hd hB;clear hB;go_wp2_with fail;refine (rquoted_any w1 S B [118, 101, 114, 115, 105, 111, 110] hbl hS (by decide)).mono ?_;rintro e w2 ⟨hb2, hG⟩;have hb2' := Hd hb2;clear hb2
 have hdec : Hid (R = (decide (0 < B) && match quoted [118, 101, 114, 115, 105, 111, 110] (S.drop B) with
   | none => false
   | some (v, n) => decide (v = [49, 46, 48]) && encd (S.drop (B + n + blanks (S.drop (B + n)))) (decide (0 < blanks (S.drop (B + n)))))) := Hd (by
  rw [<- hR'.out];unfold declared verT;simp only [hB'.out, List.drop_drop]
  rfl)
 cases hq1 : quoted [118, 101, 114, 115, 105, 111, 110] (S.drop B) with
 | none =>
  rw [hq1] at hG;have hRf : R = false := by rw [hdec.out, hq1]; simp
  subst hRf;subst hG;clear hq1
  by_cases h0 : B = 0
  ·have j0 : ((B : Int) == 0) = true := by rw [h0]; rfl
   clear h0;go_wp2_with fail;go_ret;exact ⟨rfl, hb2'.out⟩
  ·have j0 : ((B : Int) == 0) = false := by rw [beq_eq_false_iff_ne]; omega
   clear h0;go_wp2_with fail;go_ret;exact ⟨rfl, hb2'.out⟩
 | some x =>
  obtain ⟨v, n⟩ := x;rw [hq1] at hG;have hnl := quoted_len hq1;rw [List.length_drop] at hnl;have hR2 : Hid (R = (decide (0 < B) && (decide (v = [49, 46, 48]) && encd (S.drop (B + n + blanks (S.drop (B + n)))) (decide (0 < blanks (S.drop (B + n))))))) := Hd (by rw [hdec.out, hq1]);have hG2 : e = .returned (.tuple #[.string (strOf v), .int .i64 ((B + n : Nat) : Int)]) := hG;subst hG2;clear hG hdec hq1;obtain ⟨N, hN⟩ : ∃ N, B + n = N := ⟨_, rfl⟩;rw [hN] at hR2 ⊢;have hNb : N <= S.length := by omega
  clear hN hnl;have i1 : decide ((N : Int) < 0) = false := by simp
  have hv := str_eqL v [49, 46, 48]
  by_cases h0 : B = 0
  ·have j0 : ((B : Int) == 0) = true := by rw [h0]; rfl
   have hRf : R = false := by rw [hR2.out, decide_eq_false (by omega)]; rfl
   subst hRf;clear h0 hv;go_wp2_with fail;go_ret;exact ⟨rfl, hb2'.out⟩
  have j0 : ((B : Int) == 0) = false := by rw [beq_eq_false_iff_ne]; omega
  by_cases hvv : v ≠ [49, 46, 48]
  ·rw [decide_eq_false hvv] at hv;have hv2 : ((strOf v).toList != [49, 46, 48]) = true := by unfold bne; rw [hv]; rfl
   have hRf : R = false := by rw [hR2.out, decide_eq_false hvv]; simp
   subst hRf;clear h0 hvv;go_wp2_with fail;go_ret;exact ⟨rfl, hb2'.out⟩
  have hvv2 := Classical.not_not.1 hvv;rw [decide_eq_true hvv2] at hv;have hv2 : ((strOf v).toList != [49, 46, 48]) = false := by unfold bne; rw [hv]; rfl
  have hR3 : Hid (R = encd (S.drop (N + blanks (S.drop N))) (decide (0 < blanks (S.drop N)))) := Hd (by
   rw [hR2.out, decide_eq_true (by omega), decide_eq_true hvv2]
   rfl)
  clear h0 hvv hvv2 hR2;go_wp2_with fail;refine (rskip_any w2 S N hNb (by omega)).mono ?_;rintro e w3 ⟨rfl, hw3⟩;subst hw3;have hbl1 := blanks_le (S.drop N);rw [List.length_drop] at hbl1;obtain ⟨B1, hB1⟩ : ∃ B1, blanks (S.drop N) = B1 := ⟨_, rfl⟩;rw [hB1] at hbl1 hR3 ⊢;clear hB1 hv hv2 j0 i1;go_wp2_with fail;refine (rquoted_any w3 S (N + B1) [101, 110, 99, 111, 100, 105, 110, 103] (by omega) hS (by decide)).mono ?_;rintro e w4 ⟨hb4, hG⟩;have hb4' := Hd (hb2'.out.trans (hb4.mono hb2'.out.size));clear hb4 hb2';have hR4 := hR3.out;rw [encd_eq] at hR4
  cases hq2 : quoted [101, 110, 99, 111, 100, 105, 110, 103] (S.drop (N + B1)) with
  | none =>
   rw [hq2] at hG hR4;have hRs : Hid (R = stand (S.drop (N + B1)) (decide (0 < B1))) := Hd hR4;subst hG;clear hq2 hR4 hR3;obtain ⟨wy, rfl⟩ : ∃ wy, wy = w4 := ⟨w4, rfl⟩;obtain ⟨Nz, hNz⟩ : ∃ Nz, N = Nz := ⟨_, rfl⟩;obtain ⟨Bz, hBz⟩ : ∃ Bz, B1 = Bz := ⟨_, rfl⟩;rw [hNz, hBz] at hRs;have hNzb : Nz + Bz <= S.length := by omega
   rw [hNz, hBz];clear hbl1 hNb hNz hBz;go_wp2_with fail;refine (rquoted_any wy S (Nz + Bz) [115, 116, 97, 110, 100, 97, 108, 111, 110, 101] hNzb hS (by decide)).mono ?_;rintro e wx ⟨hbx, hG⟩;have hbx' := Hd (hb4'.out.trans (hbx.mono hb4'.out.size));clear hbx hb4';have hR8 := hRs.out;rw [stand_eq] at hR8
   cases hq3 : quoted [115, 116, 97, 110, 100, 97, 108, 111, 110, 101] (S.drop (Nz + Bz)) with
   | none =>
    rw [hq3] at hG hR8;have hR9 : Hid (R = decide (S.drop (Nz + Bz) = [])) := Hd hR8;subst hG;clear hq3 hR8 hRs;rw [drop_nil hNzb] at hR9
    have hR10 : Hid ((((Nz + Bz : Nat) : Int) == (S.length : Int)) = R) := Hd (by
     rw [hR9.out, Bool.eq_iff_iff, beq_iff_eq, decide_eq_true_eq]
     omega)
    have k0 := hR10.out;have k1 : ((Nz : Int) + (Bz : Int) == (S.length : Int)) = R := by rw [<- k0]; rfl
    clear hR9 hR10;go_wp2_with fail;go_ret;exact ⟨rfl, hbx'.out⟩
   | some x =>
    obtain ⟨yv, n3⟩ := x;rw [hq3] at hG hR8;have hnl3 := quoted_len hq3;rw [List.length_drop] at hnl3;have hG2 : e = .returned (.tuple #[.string (strOf yv), .int .i64 ((Nz + Bz + n3 : Nat) : Int)]) := hG;have hR9 : Hid (R = (decide (0 < Bz) && (decide (yv = [121, 101, 115]) || decide (yv = [110, 111])) && decide (n3 + blanks ((S.drop (Nz + Bz)).drop n3) = (S.drop (Nz + Bz)).length))) := Hd hR8;subst hG2;clear hG hq3 hR8 hRs;obtain ⟨Nx, hNx⟩ : ∃ Nx, Nz + Bz + n3 = Nx := ⟨_, rfl⟩;rw [hNx];have hNxb : Nx <= S.length := (by omega);have l1 : decide (0 <= (Nx : Int)) = true := by simp
    by_cases h0 : Bz = 0
    ·have hRf : R = false := by rw [hR9.out, decide_eq_false (by omega)]; rfl
     have j0 : (((Nz + Bz : Nat) : Int) == (Nz : Int)) = true := by rw [h0]; simp
     have j1 : ((Nz : Int) + (Bz : Int) == (Nz : Int)) = true := by rw [h0]; simp
     subst hRf;clear h0 hNx;go_wp2_with fail;go_ret;exact ⟨rfl, hbx'.out⟩
    have j0 : (((Nz + Bz : Nat) : Int) == (Nz : Int)) = false := by rw [beq_eq_false_iff_ne]; omega
    have j1 : ((Nz : Int) + (Bz : Int) == (Nz : Int)) = false := by rw [beq_eq_false_iff_ne]; omega
    have hR10 : Hid (R = ((decide (yv = [121, 101, 115]) || decide (yv = [110, 111])) && decide (Nx + blanks (S.drop Nx) = S.length))) := Hd (by
     rw [hR9.out, decide_eq_true (by omega), Bool.true_and];simp only [List.drop_drop, hNx, List.length_drop]
     congr 1
     rw [decide_eq_decide]
     omega)
    clear h0 hR9 hNx;have i5 := str_eqL yv [121, 101, 115];have i6 := str_eqL yv [110, 111]
    by_cases hy : yv = [121, 101, 115]
    ·rw [decide_eq_true hy] at i5;have m5 : ((strOf yv).toList != [121, 101, 115]) = false := by unfold bne; rw [i5]; rfl
     have hR11 : Hid (R = decide (Nx + blanks (S.drop Nx) = S.length)) := Hd (by rw [hR10.out, decide_eq_true hy]; rfl);clear hy hR10 i6;go_wp2_with fail;refine (rskip_any wx S Nx hNxb (by omega)).mono ?_;rintro e wq ⟨rfl, hwq⟩;subst hwq;obtain ⟨Bx, hBx⟩ : ∃ Bx, blanks (S.drop Nx) = Bx := ⟨_, rfl⟩;rw [hBx] at hR11 ⊢
     have k0 : (((Nx + Bx : Nat) : Int) == (S.length : Int)) = R := by
      rw [hR11.out, Bool.eq_iff_iff, beq_iff_eq, decide_eq_true_eq];omega
     have k1 : ((Nx : Int) + (Bx : Int) == (S.length : Int)) = R := by rw [<- k0]; rfl
     clear hBx hR11;go_wp2_with fail;go_ret;exact ⟨rfl, hbx'.out⟩
    rw [decide_eq_false hy] at i5;have m5 : ((strOf yv).toList != [121, 101, 115]) = true := by unfold bne; rw [i5]; rfl
    by_cases hy2 : yv = [110, 111]
    ·rw [decide_eq_true hy2] at i6;have m6 : ((strOf yv).toList != [110, 111]) = false := by unfold bne; rw [i6]; rfl
     have hR11 : Hid (R = decide (Nx + blanks (S.drop Nx) = S.length)) := Hd (by rw [hR10.out, decide_eq_true hy2, Bool.or_true]; rfl);clear hy hy2 hR10;go_wp2_with fail;refine (rskip_any wx S Nx hNxb (by omega)).mono ?_;rintro e wq ⟨rfl, hwq⟩;subst hwq;obtain ⟨Bx, hBx⟩ : ∃ Bx, blanks (S.drop Nx) = Bx := ⟨_, rfl⟩;rw [hBx] at hR11 ⊢
     have k0 : (((Nx + Bx : Nat) : Int) == (S.length : Int)) = R := by
      rw [hR11.out, Bool.eq_iff_iff, beq_iff_eq, decide_eq_true_eq];omega
     have k1 : ((Nx : Int) + (Bx : Int) == (S.length : Int)) = R := by rw [<- k0]; rfl
     clear hBx hR11;go_wp2_with fail;go_ret;exact ⟨rfl, hbx'.out⟩
    rw [decide_eq_false hy2] at i6;have m6 : ((strOf yv).toList != [110, 111]) = true := by unfold bne; rw [i6]; rfl
    have hRf : R = false := by rw [hR10.out, decide_eq_false hy, decide_eq_false hy2]; rfl
    subst hRf;clear hy hy2;go_wp2_with fail;go_ret;exact ⟨rfl, hbx'.out⟩
  | some x =>
   obtain ⟨ev, n2⟩ := x;rw [hq2] at hG hR4;have hnl := quoted_len hq2;have hev := quoted_txt hq2;rw [List.length_drop] at hnl hev;have hG2 : e = .returned (.tuple #[.string (strOf ev), .int .i64 ((N + B1 + n2 : Nat) : Int)]) := hG;have hR5 : Hid (R = (decide (0 < B1) && decide (ev.map low = [117, 116, 102, 45, 56]) && stand ((S.drop (N + B1)).drop (n2 + blanks ((S.drop (N + B1)).drop n2))) (decide (0 < blanks ((S.drop (N + B1)).drop n2))))) := Hd hR4;subst hG2;clear hG hq2 hR4 hR3;obtain ⟨Nz, hNz⟩ : ∃ Nz, N + B1 + n2 = Nz := ⟨_, rfl⟩;rw [hNz];have hNzb : Nz <= S.length := by omega
   have i1 : decide (0 <= (Nz : Int)) = true := by simp
   by_cases h0 : B1 = 0
   ·have hRf : R = false := by rw [hR5.out, decide_eq_false (by omega)]; rfl
    have j0 : (((N + B1 : Nat) : Int) == (N : Int)) = true := by rw [h0]; simp
    have j1 : ((N : Int) + (B1 : Int) == (N : Int)) = true := by rw [h0]; simp
    subst hRf;clear h0 hNz;go_wp2_with fail;go_ret;exact ⟨rfl, hb4'.out⟩
   have j0 : (((N + B1 : Nat) : Int) == (N : Int)) = false := by rw [beq_eq_false_iff_ne]; omega
   have j1 : ((N : Int) + (B1 : Int) == (N : Int)) = false := by rw [beq_eq_false_iff_ne]; omega
   have hR6 : Hid (R = (decide (ev.map low = [117, 116, 102, 45, 56]) && stand (S.drop (Nz + blanks (S.drop Nz))) (decide (0 < blanks (S.drop Nz))))) := Hd (by
    rw [hR5.out, decide_eq_true (by omega), Bool.true_and]
    simp only [List.drop_drop, <- Nat.add_assoc, hNz])
   clear h0 hR5 hNz;go_wp2_with fail;refine (rsame_any w4 ev [117, 116, 102, 45, 56] (by omega) (by decide)).mono ?_;rintro e w5 ⟨rfl, hw5⟩;subst hw5
   cases hsm : decide (ev.map low = [117, 116, 102, 45, 56]) with
   | false =>
    have hRf : R = false := by rw [hR6.out, hsm]; rfl
    subst hRf;clear hsm;go_wp2_with fail;go_ret;exact ⟨rfl, hb4'.out⟩
   | true =>
    have hR7 : Hid (R = stand (S.drop (Nz + blanks (S.drop Nz))) (decide (0 < blanks (S.drop Nz)))) := Hd (by rw [hR6.out, hsm]; rfl);clear hsm hR6;go_wp2_with fail;refine (rskip_any w5 S Nz hNzb (by omega)).mono ?_;rintro e wy ⟨rfl, hwy⟩;subst hwy;have hbl2 := blanks_le (S.drop Nz);rw [List.length_drop] at hbl2;obtain ⟨Bz, hBz⟩ : ∃ Bz, blanks (S.drop Nz) = Bz := ⟨_, rfl⟩;rw [hBz] at hbl2 hR7 ⊢;have hRs : Hid (R = stand (S.drop (Nz + Bz)) (decide (0 < Bz))) := Hd hR7.out;have hNzb2 : Nz + Bz <= S.length := (by omega);clear hBz hR7 hNzb hbl2 j0 j1 i1 hbl1 hNb hnl hev;have hNzb := hNzb2;go_wp2_with fail;refine (rquoted_any wy S (Nz + Bz) [115, 116, 97, 110, 100, 97, 108, 111, 110, 101] hNzb hS (by decide)).mono ?_;rintro e wx ⟨hbx, hG⟩;have hbx' := Hd (hb4'.out.trans (hbx.mono hb4'.out.size));clear hbx hb4';have hR8 := hRs.out;rw [stand_eq] at hR8
    cases hq3 : quoted [115, 116, 97, 110, 100, 97, 108, 111, 110, 101] (S.drop (Nz + Bz)) with
    | none =>
     rw [hq3] at hG hR8;have hR9 : Hid (R = decide (S.drop (Nz + Bz) = [])) := Hd hR8;subst hG;clear hq3 hR8 hRs;rw [drop_nil hNzb] at hR9
     have hR10 : Hid ((((Nz + Bz : Nat) : Int) == (S.length : Int)) = R) := Hd (by
      rw [hR9.out, Bool.eq_iff_iff, beq_iff_eq, decide_eq_true_eq]
      omega)
     have k0 := hR10.out;have k1 : ((Nz : Int) + (Bz : Int) == (S.length : Int)) = R := by rw [<- k0]; rfl
     clear hR9 hR10;go_wp2_with fail;go_ret;exact ⟨rfl, hbx'.out⟩
    | some x =>
     obtain ⟨yv, n3⟩ := x;rw [hq3] at hG hR8;have hnl3 := quoted_len hq3;rw [List.length_drop] at hnl3;have hG2 : e = .returned (.tuple #[.string (strOf yv), .int .i64 ((Nz + Bz + n3 : Nat) : Int)]) := hG;have hR9 : Hid (R = (decide (0 < Bz) && (decide (yv = [121, 101, 115]) || decide (yv = [110, 111])) && decide (n3 + blanks ((S.drop (Nz + Bz)).drop n3) = (S.drop (Nz + Bz)).length))) := Hd hR8;subst hG2;clear hG hq3 hR8 hRs;obtain ⟨Nx, hNx⟩ : ∃ Nx, Nz + Bz + n3 = Nx := ⟨_, rfl⟩;rw [hNx];have hNxb : Nx <= S.length := (by omega);have l1 : decide (0 <= (Nx : Int)) = true := by simp
     by_cases h0 : Bz = 0
     ·have hRf : R = false := by rw [hR9.out, decide_eq_false (by omega)]; rfl
      have j0 : (((Nz + Bz : Nat) : Int) == (Nz : Int)) = true := by rw [h0]; simp
      have j1 : ((Nz : Int) + (Bz : Int) == (Nz : Int)) = true := by rw [h0]; simp
      subst hRf;clear h0 hNx;go_wp2_with fail;go_ret;exact ⟨rfl, hbx'.out⟩
     have j0 : (((Nz + Bz : Nat) : Int) == (Nz : Int)) = false := by rw [beq_eq_false_iff_ne]; omega
     have j1 : ((Nz : Int) + (Bz : Int) == (Nz : Int)) = false := by rw [beq_eq_false_iff_ne]; omega
     have hR10 : Hid (R = ((decide (yv = [121, 101, 115]) || decide (yv = [110, 111])) && decide (Nx + blanks (S.drop Nx) = S.length))) := Hd (by
      rw [hR9.out, decide_eq_true (by omega), Bool.true_and];simp only [List.drop_drop, hNx, List.length_drop]
      congr 1
      rw [decide_eq_decide]
      omega)
     clear h0 hR9 hNx;have i5 := str_eqL yv [121, 101, 115];have i6 := str_eqL yv [110, 111]
     by_cases hy : yv = [121, 101, 115]
     ·rw [decide_eq_true hy] at i5;have m5 : ((strOf yv).toList != [121, 101, 115]) = false := by unfold bne; rw [i5]; rfl
      have hR11 : Hid (R = decide (Nx + blanks (S.drop Nx) = S.length)) := Hd (by rw [hR10.out, decide_eq_true hy]; rfl);clear hy hR10 i6;go_wp2_with fail;refine (rskip_any wx S Nx hNxb (by omega)).mono ?_;rintro e wq ⟨rfl, hwq⟩;subst hwq;obtain ⟨Bx, hBx⟩ : ∃ Bx, blanks (S.drop Nx) = Bx := ⟨_, rfl⟩;rw [hBx] at hR11 ⊢
      have k0 : (((Nx + Bx : Nat) : Int) == (S.length : Int)) = R := by
       rw [hR11.out, Bool.eq_iff_iff, beq_iff_eq, decide_eq_true_eq];omega
      have k1 : ((Nx : Int) + (Bx : Int) == (S.length : Int)) = R := by rw [<- k0]; rfl
      clear hBx hR11;go_wp2_with fail;go_ret;exact ⟨rfl, hbx'.out⟩
     rw [decide_eq_false hy] at i5;have m5 : ((strOf yv).toList != [121, 101, 115]) = true := by unfold bne; rw [i5]; rfl
     by_cases hy2 : yv = [110, 111]
     ·rw [decide_eq_true hy2] at i6;have m6 : ((strOf yv).toList != [110, 111]) = false := by unfold bne; rw [i6]; rfl
      have hR11 : Hid (R = decide (Nx + blanks (S.drop Nx) = S.length)) := Hd (by rw [hR10.out, decide_eq_true hy2, Bool.or_true]; rfl);clear hy hy2 hR10;go_wp2_with fail;refine (rskip_any wx S Nx hNxb (by omega)).mono ?_;rintro e wq ⟨rfl, hwq⟩;subst hwq;obtain ⟨Bx, hBx⟩ : ∃ Bx, blanks (S.drop Nx) = Bx := ⟨_, rfl⟩;rw [hBx] at hR11 ⊢
      have k0 : (((Nx + Bx : Nat) : Int) == (S.length : Int)) = R := by
       rw [hR11.out, Bool.eq_iff_iff, beq_iff_eq, decide_eq_true_eq];omega
      have k1 : ((Nx : Int) + (Bx : Int) == (S.length : Int)) = R := by rw [<- k0]; rfl
      clear hBx hR11;go_wp2_with fail;go_ret;exact ⟨rfl, hbx'.out⟩
     rw [decide_eq_false hy2] at i6;have m6 : ((strOf yv).toList != [110, 111]) = true := by unfold bne; rw [i6]; rfl
     have hRf : R = false := by rw [hR10.out, decide_eq_false hy, decide_eq_false hy2]; rfl
     subst hRf;clear hy hy2;go_wp2_with fail;go_ret;exact ⟨rfl, hbx'.out⟩
end
end Go.Proofs.YtokdnhdfmgfkeaaGreatDoor.Xl
end

section
namespace Go.Proofs.YtokdnhdfmgfkeaaGreatDoor.Xl
open Go.RowKit UtfW Er
def AllR (S : Tx) (w : World) (e : Ending) (w' : World) : Prop := Below w.heap.size w w' /\ ∃ A c cd p ts, allF S = (cd, p, ts) /\ (cd = 0 -> p = 0) /\ (cd ≠ 0 -> ts = []) /\ e = .returned (.tuple #[.slice A ts.length c, .int .i64 cd, .int .i64 ((p : Nat) : Int)]) /\ OwTk w' w.heap.size (.slice A ts.length c) ts
def declP (S : Tx) (q : Nat) (e : Int) (p : Nat) : Prop := match decl S with
 | .bad cd o => e = cd /\ cd ≠ 0 /\ p = o
 | .ok _ n => e = 0 /\ p = 0 /\ q = n
section
variable (w : World) (A : Option Addr) (n c : Nat) (S : Tx)
set_option maxHeartbeats 4000000 in
set_option maxRecDepth 100000 in
theorem rall_any (hBs : Bs w A n c S) (hn : n <= 1000000) : Calls Tryz.prog 63 #[.slice A n c] w fun e w' => AllR S w e w' := by
  have hl : S.length = n := hBs.len;subst hl;have hlc := Rd.le hBs;have hcm := Rd.max hBs;have hBs' := Hd hBs;obtain ⟨R, hR⟩ : ∃ R, allF S = R := ⟨_, rfl⟩;have hR' := Hd hR;clear hBs hR
  by_cases hlong : 65536 < S.length
  · have i0 : decide ((65536 : Int) < (S.length : Int)) = true := by simp; omega
    have i1 : decide (65536 < S.length) = true := by simp; omega
    have hl2 := Hd hlong;clear hlong
    go_enter Tryz.func63, Tryz.ntmps63
    go_wp2_with fail
    go_ret3
    exact ⟨Below.refl _ _, none, 0, 8, 65536, [], all_long hl2.out, fun h => absurd h (by decide), fun _ => rfl, rfl, OwTk.nil _ _⟩
  have i0 : decide ((65536 : Int) < (S.length : Int)) = false := by simp; omega
  have i1 : decide (65536 < S.length) = false := by simp; omega
  have hS : S.length <= 65536 := by omega
  clear hlong
  go_enter Tryz.func63, Tryz.ntmps63
  go_wp2_with fail;refine (refBad_any A S.length c S (by omega) w hBs'.out).mono ?_;rintro e w1 ⟨rfl, hb1⟩;have hb1' := Hd hb1;obtain ⟨K, hK⟩ : ∃ K, badW S 0 = K := ⟨_, rfl⟩;rw [hK];have hK' := Hd hK;have hBs1 := Hd (Bs.below hBs'.out hb1);clear hb1 hK i0 i1
  by_cases hbad : 0 <= K
  · have j0 : decide (0 <= K) = true := decide_eq_true hbad
    have hb2 := Hd hbad;clear hbad;go_wp2_with fail
    go_ret3
    refine ⟨hb1'.out, none, 0, 1, K.toNat, [], all_byte hS hK'.out hb2.out, fun h => absurd h (by decide), fun _ => rfl, ?_, OwTk.nil _ _⟩;rw [Int.toNat_of_nonneg hb2.out];rfl
  have j0 : decide (0 <= K) = false := decide_eq_false hbad;have hsc : Hid (allF S = scanF S) := Hd (all_scan hS (by rw [hK'.out]; omega));clear hbad;have hbA := below_alloc w1 (.cells #[.slice A S.length c, .int .i64 0, .int .i64 0, .int .i64 0] 140)
  have hs2 : Sr (w1.alloc (.cells #[.slice A S.length c, .int .i64 0, .int .i64 0, .int .i64 0] 140)) w1.heap.size S 0 A c 0 0 := by
    refine ⟨heap_alloc_new w1 _, Bs.below hBs1.out hbA, fun a e hn => ?_⟩;obtain ⟨b', off, e2, hlt, _⟩ := Rd.cell hBs1.out hn;rw [e] at e2;injection e2 with e2;rw [e2]
    show b' ≠ w1.heap.size
    omega
  have hs2' := Hd hs2;have hbB := Hd (hb1'.out.trans (hbA.mono hb1'.out.size));have hbw : Hid (w.heap.size <= w1.heap.size) := Hd hb1'.out.size;have hBs2 := Hd (Bs.below hBs1.out hbA);clear hs2 hbA
  go_upto_region 7 with fail
  generalize w1.alloc (.cells #[.slice A S.length c, .int .i64 0, .int .i64 0, .int .i64 0] 140) = w2 at hs2' hbB hBs2 ⊢;generalize w1.heap.size = b at hs2' hbw ⊢;have hfin : Hid (∀ w', w2.grownBy w' (some b) -> Below w.heap.size w w') := Hd (fun w' hg => hbB.out.trans (below_row hg hbw.out hbB.out.size));clear j0 hbB;obtain ⟨HP, hHP⟩ : ∃ HP, Lib.hasPrefix S [60, 63, 120, 109, 108] = HP := ⟨_, rfl⟩;have hHP' := Hd hHP;clear hHP
  go_cut [23] (fun v wx => v = .bool HP /\ Hid (Below w2.heap.size w2 wx))
  case first =>
    go_wp2_with fail;refine (rhas_any w2 b S 0 A c 0 hs2'.out [60, 63, 120, 109, 108] (by decide) (by omega)).mono ?_;rintro e w3 ⟨rfl, hb3⟩;have hb3' := Hd hb3;rw [List.drop_zero, hHP'.out];clear hb3;go_wp2_with fail
    go_meet
    exact ⟨rfl, hb3'⟩
  obtain ⟨rfl, hbx⟩ := hcut;have hs3 := Hd (hs2'.out.below hbx.out);have hg3 := Hd (grown_in (r := some b) hbx.out);have hBs3 := Hd (Bs.below hBs2.out hbx.out);clear hbx hs2' hBs2;obtain ⟨w3, rfl⟩ : ∃ w3, w3 = wc := ⟨wc, rfl⟩
  go_upto_if 23 with fail
  go_cut [] (fun wx => ∃ q e p, q <= S.length /\ Hid (Sr wx b S q A c e p) /\ Hid (w2.grownBy wx (some b)) /\ Hid (declP S q e p))
  case first =>
    cases HP with
    | false =>
      have hd : Hid (declP S 0 0 0) := Hd (by unfold declP; rw [decl_none hHP'.out]; exact ⟨rfl, rfl, rfl⟩);go_wp2_with fail
      go_meet
      exact ⟨0, 0, 0, by omega, hs3, hg3, hd⟩
    | true =>
      have h5 : 5 <= S.length := by have := Qx.prefix_len hHP'.out; simp at this; omega
      have hc := refNext_any A S.length c S 5 (by omega) w3 hBs3.out;rw [show (5 : Int) = ((5 : Nat) : Int) from rfl, nxI_nat] at hc;obtain ⟨P, hP⟩ : ∃ P, nx S 5 = P := ⟨_, rfl⟩;rw [hP] at hc;have hP' := Hd hP;clear hP;obtain ⟨r, m⟩ := P;unfold nxV at hc;simp only at hc;have hc' := Hd hc;clear hc;go_wp2_with fail;refine hc'.out.mono ?_;rintro e w4 ⟨rfl, hb4⟩;have hs4 := Hd (hs3.out.below hb4);have hg4 := Hd (hg3.out.trans (grown_in (r := some b) hb4));clear hb4 hs3 hg3 hc';go_wp2_with fail;refine (refgoeson_any (r : Nat) w4).mono ?_;rintro e w5 ⟨rfl, hw5⟩;subst hw5
      cases hgo : GoesOn (r : Nat) with
      | true =>
        have hd : Hid (declP S 0 0 0) := Hd (by unfold declP; rw [decl_on (by rw [<- Qx.nx_drop, hP'.out]; exact hgo)]; exact ⟨rfl, rfl, rfl⟩);clear hgo;go_wp2_with fail
        go_meet
        exact ⟨0, 0, 0, by omega, hs4, hg4, hd⟩
      | false =>
        have hgo' : Hid (GoesOn (nx (S.drop 5) 0).1 = false) := Hd (by rw [<- Qx.nx_drop, hP'.out]; exact hgo);have c1 := hs4.out.c1;have f1 := hs4.out.frozen 1;have hset := hs4.out.set1 5;have hs5 := Hd hset.1;have hg5 := Hd (hg4.out.trans hset.2);clear hgo hset hs4 hg4;go_wp2_with fail
        rename_i w5' _
        have e5 : (((5 : Nat) : Int)) = 5 := rfl;rw [e5] at hs5 hg5;generalize World.setCell _ ⟨b, 1, none⟩ (.int .i64 5) = w6 at hs5 hg5 ⊢;clear c1 f1 e5;refine (runtil_any w6 b S 5 A c 0 hs5.out h5 (by omega) [63, 62] (by decide) (by decide)).mono ?_;rintro e w7 ⟨hg7, hG⟩;have hg7' := Hd (hg5.out.trans hg7)
        cases hup : upto [63, 62] (S.drop 5) with
        | bad cd o =>
          rw [hup] at hG;obtain ⟨hcd, v, q, rfl, rfl, hq, hs7⟩ := hG;have hs7' := Hd hs7;have hd : Hid (declP S q cd (5 + o)) := Hd (by unfold declP; rw [decl_bad hHP'.out hgo'.out hup]; exact ⟨rfl, hcd, rfl⟩);have k0 : (cd == 0) = false := by rw [beq_eq_false_iff_ne]; exact hcd
          have c2 := hs7'.out.c2;clear hcd hs7 hg7 hup hs5 hg5;go_wp2_with fail
          go_meet
          exact ⟨q, cd, 5 + o, hq, hs7', hg7', hd⟩
        | ok x m2 =>
          rw [hup] at hG;obtain ⟨rfl, hs7⟩ := hG;have hs7' := Hd hs7;have hxl := upto_len hup;rw [List.length_drop] at hxl;have hx1 := hxl.1;have hx2 := hxl.2.1;have hup' := Hd hup;have c2 := hs7'.out.c2;clear hs7 hg7 hup hs5 hg5 hxl;go_wp2_with fail;refine (rdeclared_any w7 x (by omega)).mono ?_;rintro e w8 ⟨rfl, hb8⟩;have hs8 := Hd (hs7'.out.below hb8);have hg8 := Hd (hg7'.out.trans (grown_in (r := some b) hb8));clear hb8 hs7' hg7'
          cases hdx : declared x with
          | true =>
            have hd : Hid (declP S (5 + m2) 0 0) := Hd (by unfold declP; rw [decl_ok hHP'.out hgo'.out hup'.out hdx]; exact ⟨rfl, rfl, rfl⟩);clear hdx c2;go_wp2_with fail
            go_meet
            exact ⟨5 + m2, 0, 0, by omega, hs8, hg8, hd⟩
          | false =>
            have hd : Hid (declP S (5 + m2) 2 0) := Hd (by unfold declP; rw [decl_off hHP'.out hgo'.out hup'.out hdx]; exact ⟨rfl, by decide, rfl⟩);clear hdx c2;go_wp2_with fail;refine (rbad_any w8 b S (5 + m2) A c 0 hs8.out 2 0).mono ?_;rintro e w9 ⟨rfl, hs9, hg9⟩;have hs9' := Hd hs9;have hg9' := Hd (hg8.out.trans hg9);clear hs9 hg9;go_wp2_with fail
            go_meet
            exact ⟨5 + m2, 2, 0, by omega, hs9', hg9', hd⟩
  obtain ⟨q0, e0, p0, hq0, hs4, hg4, hd⟩ := hcut;clear hs3 hg3 hBs3;obtain ⟨B0, hB0⟩ : ∃ B0, wc.heap.size = B0 := ⟨_, rfl⟩;have hBsz : Hid (w2.heap.size <= B0) := Hd (by rw [<- hB0]; exact hg4.out.size);have hbB0 : Hid (b < B0) := Hd (by rw [<- hB0]; exact hs4.out.lt);have hwB0 : Hid (w.heap.size <= B0) := Hd (by rw [<- hB0]; exact (hfin.out _ hg4.out).size);have hsz0 : Hid (B0 <= wc.heap.size) := Hd (by rw [hB0]; exact Nat.le_refl _)
  have hst : Hid ((e0 = 0 -> p0 = 0 /\ runF (S.length + 1) (S.drop q0) q0 [] = R) /\ (e0 ≠ 0 -> R = (e0, p0, []))) := Hd (by
    have h1 := hR'.out;rw [hsc.out] at h1;have h2 := hd.out;unfold scanF at h1;unfold declP at h2
    cases hD : decl S with
    | bad cd o =>
      rw [hD] at h1 h2;obtain ⟨rfl, hc, rfl⟩ := h2;exact ⟨fun h => absurd h hc, fun _ => h1.symm⟩
    | ok u n =>
      rw [hD] at h1 h2;obtain ⟨rfl, rfl, rfl⟩ := h2
      exact ⟨fun _ => ⟨rfl, h1⟩, fun h => absurd rfl h⟩)
  clear hB0 hd;go_wp2_with fail
  go_loopg [10] (S.length + 1) (fun m v10 wr => ∃ (q : Nat) (e : Int) (p : Nat) (ts : List Tok), (e = 0 -> q <= S.length /\ S.length - q < m) /\ ts.length <= S.length + 1 /\ Hid (e = 0 -> p = 0 /\ ts.length <= q /\ ∃ f, S.length - q < f /\ runF f (S.drop q) q ts = R) /\ Hid (e ≠ 0 -> R = (e, p, [])) /\ Hid (B0 <= wr.heap.size) /\ Hid (Sr wr b S q A c e p) /\ Hid (w2.grownBy wr (some b)) /\ Hid (OwTk wr B0 v10 ts))
  case atStart => exact ⟨q0, e0, p0, [], fun h => ⟨hq0, by omega⟩, by simp, Hd (fun h => ⟨(hst.out.1 h).1, by simp, S.length + 1, by omega, (hst.out.1 h).2⟩), Hd (fun h => hst.out.2 h), hsz0, hs4, hg4, Hd (OwTk.nil _ _)⟩
  case round =>
    clear hst hsz0 hs4 hg4;obtain ⟨q, e, p, ts, hmq, htl, hrun, hbad, hsz, hs, hg, ho⟩ := hrel;have c2 := hs.out.c2
    by_cases he : e = 0
    rotate_left
    · have j0 : (e == 0) = false := by rw [beq_eq_false_iff_ne]; exact he
      have j1 : (e != 0) = true := by rw [bne_iff_ne]; exact he
      have hRb := Hd (hbad.out he);have he' := Hd he;clear he hmq hrun hbad;go_wp2_with fail;refine Pl.wp_region_plan 10 (.take 0 (.take 1 (.take 2 (.take 3 (.take 4 (.take 5 (.take 6 (.take 7 (.take 8 (.take 9 .done)))))))))) (fun x => Below wr.heap.size wr x) (by kernel_rfl) (by kernel_rfl) (by exact (below_drew wr)) ?_;simp only [Pl.fill, Al_4, Al_5, Al_6, Al_7]
      iterate 10
        first
        | (refine Pl.take_go ?_ (by rfl) (fun _ _ _ h => h) ?_ ?_
           rotate_left
           · (intro x hSw; have s2 := (hs.out.below hSw).c2; have s3 := (hs.out.below hSw).c3; go_simp; try with_reducible rfl)
           (try simp only [Act.put, Al_1, Al_2, Al_3]))
        | (refine Pl.take_skip (by rfl) (fun _ _ _ h => h) ?_
           (try simp only [Act.put, Al_1, Al_2, Al_3]))
      refine Pl.done_go ?_;have hdr := below_drew wr;have hg2 := Hd (hg.out.trans (grown_in (r := some b) hdr));clear hdr;go_wp2_with fail
      go_ret3
      exact ⟨hfin.out _ hg2.out, none, 0, e, p, [], hR'.out.trans hRb.out, fun h => absurd h he'.out, fun _ => rfl, rfl, OwTk.nil _ _⟩
    subst he;obtain ⟨hq, hms⟩ := hmq rfl;obtain ⟨rfl, htq, f, hf, hr⟩ := hrun.out rfl;obtain ⟨f', rfl⟩ : ∃ f', f = f' + 1 := ⟨f - 1, by omega⟩;have hr' := Hd hr;have hf' : Hid (S.length - q < f' + 1) := Hd hf;have c1 := hs.out.c1;clear hmq hrun hbad hr hf;obtain ⟨At, ct, rfl⟩ := OwS.form ho.out
    by_cases hlt : q < S.length
    · have k0 : decide ((q : Int) < (S.length : Int)) = true := by simp; omega
      have k1 : decide (q < S.length) = true := by simp; omega
      go_wp2_with fail;refine (rtoken_any wr b S q A c 0 hs.out hlt hS).mono ?_;rintro e w5 ⟨t, va, rfl, hg5, ho5, hl5, q', e', p', hs5, hfin5⟩;obtain ⟨A5, c5, rfl⟩ := ho5.form
      have hst5 : Hid ((e' = 0 -> p' = 0 /\ q < q' /\ q' <= S.length /\ runF f' (S.drop q') q' (ts ++ [t]) = R) /\ (e' ≠ 0 -> R = (e', p', []))) := Hd (by
        cases hT : token (S.drop q) with
        | bad cd o =>
          rw [hT] at hfin5;obtain ⟨rfl, hc, rfl⟩ := hfin5;exact ⟨fun h => absurd h hc, fun _ => by rw [<- hr'.out, run_bad1 hlt hT]⟩
        | ok t' n2 =>
          rw [hT] at hfin5;obtain ⟨rfl, rfl, rfl, rfl⟩ := hfin5;have hl := token_len hT (by intro e; have := congrArg List.length e; rw [List.length_drop] at this; simp at this; omega);rw [List.length_drop] at hl
          exact ⟨fun _ => ⟨rfl, by omega, by omega, by rw [<- hr'.out, run_ok1 hlt hT]⟩, fun h => absurd rfl h⟩)
      have hgA := Hd (hg.out.trans hg5);have hoA := Hd (ho.out.on hg5 hbB0.out);have hszA := Hd (Nat.le_trans hsz.out hg5.size);have hsA := Hd hs5;have hbL := below_alloc w5 (.cells #[.int .i64 (t.kind : Nat), .int .i64 (t.at_ : Nat), .string (strOf t.name), .string (strOf t.text), .slice A5 t.attrs.length c5] 87)
      have hlit : Sq (TkO B0) 5 (w5.alloc (.cells #[.int .i64 (t.kind : Nat), .int .i64 (t.at_ : Nat), .string (strOf t.name), .string (strOf t.text), .slice A5 t.attrs.length c5] 87)) (some ⟨w5.heap.size, 0, none⟩) 1 1 [t] :=
        sq_one w5 [.int .i64 (t.kind : Nat), .int .i64 (t.at_ : Nat), .string (strOf t.name), .string (strOf t.text), .slice A5 t.attrs.length c5] t 87 (0, 0) rfl
          ⟨A5, c5, rfl, OwS.low (OwS.below ho5 hbL AtEl.to) hsz.out⟩
      have hlit' := Hd hlit;have hsB := Hd (hsA.out.below hbL);have hgB := Hd (hgA.out.trans (grown_in (r := some b) hbL));have hoB := Hd (hoA.out.below hbL);have hszB := Hd (Nat.le_trans hszA.out hbL.size);have htl9 : Hid (ts.length <= 65536) := Hd (by omega);unfold tkV;clear hg5 ho5 hl5 hs5 hfin5 hlit hbL hs hg ho hsz hsA hgA hoA hszA c1 c2
      go_wp2_with (at_builtin; apply stop_here)
      refine Stop.go (append_tok _ rfl _ _ rfl B0 _ ts rfl hoB.out _ 1 1 [t] rfl hlit'.out (ts.length + 1) rfl (by have := htl9.out; omega) hszB.out ?_);intro A6 c6 wK hoK hgK hbK
      have hsK : Hid (Sr wK b S q' A c e' p') := Hd (by
        have h1 := hsB.out;have hrow : Below B0 _ wK := hbK;refine ⟨(hrow.block b hbB0.out).trans h1.blk, ?_, h1.ne⟩
        exact Bs.below (w := w) hBs'.out (hfin.out wK ⟨hrow.os.trans hgB.out.os, hrow.tape.trans hgB.out.tape, hrow.output.trans hgB.out.output, Nat.le_trans hgB.out.size hgK.size, fun j hj hne => (hrow.block j (by have := hBsz.out; omega)).trans (hgB.out.block j hj hne)⟩))
      have hgKK : Hid (w2.grownBy wK (some b)) := Hd ⟨hbK.os.trans hgB.out.os, hbK.tape.trans hgB.out.tape, hbK.output.trans hgB.out.output, Nat.le_trans hgB.out.size hgK.size, fun j hj hne => (hbK.block j (by have := hBsz.out; omega)).trans (hgB.out.block j hj hne)⟩;have hoK' := Hd hoK;have hszK := Hd (Nat.le_trans hszB.out hgK.size)
      have hmm : Hid ((if e' = 0 then S.length - q' + 1 else 0) < gk) := Hd (by
        split
        · rename_i h
          have := (hst5.out.1 h).2;omega
        · omega)
      clear hoK hgK hbK hsB hgB hoB hszB hlit';go_wp2_with fail
      go_roundg (if e' = 0 then S.length - q' + 1 else 0)
      case measure => exact hmm.out
      case rel =>
        refine ⟨q', e', p', ts ++ [t], fun h => ⟨(hst5.out.1 h).2.2.1, by rw [if_pos h]; omega⟩, by rw [List.length_append]; simp; omega, Hd (fun h => ?_), Hd hst5.out.2, hszK, hsK, hgKK, hoK'⟩;obtain ⟨g1, g2, g3, g4⟩ := hst5.out.1 h;exact ⟨g1, by rw [List.length_append]; simp; omega, f', by have := hf'.out; omega, g4⟩
    · have k0 : decide ((q : Int) < (S.length : Int)) = false := by simp; omega
      have k1 : decide (q < S.length) = false := by simp; omega
      have hRe : Hid (R = (0, 0, ts)) := Hd (by rw [<- hr'.out, run_end1 (by omega)]);go_wp2_with fail
      go_ret3
      exact ⟨hfin.out _ hg.out, At, ct, 0, 0, ts, hR'.out.trans hRe.out, fun _ => rfl, fun h => absurd rfl h, rfl, OwTk.low ho.out hwB0.out⟩
end
end Go.Proofs.YtokdnhdfmgfkeaaGreatDoor.Xl
end

section
namespace Go.Proofs.YtokdnhdfmgfkeaaGreatDoor.Xt
open Go.RowKit UtfW Xl Xo
section
variable (w : World) (A : Option Addr) (n c : Nat) (S : Tx)
set_option maxHeartbeats 8000000 in
set_option maxRecDepth 100000 in
theorem rparse_any (hBs : Bs w A n c S) (hn : n <= 1000000) : Calls Tryz.prog 26 #[.slice A n c] w fun e w' => RParP S w e w' := by
 have hl : S.length = n := hBs.len;have hba := below_alloc w (.cells #[.slice none 0 0, .int .i64 0, .string ⟨#[]⟩, .string ⟨#[]⟩, .slice none 0 0, .slice none 0 0, .slice none 0 0] 27);have hnb := heap_alloc_new w (.cells #[.slice none 0 0, .int .i64 0, .string ⟨#[]⟩, .string ⟨#[]⟩, .slice none 0 0, .slice none 0 0, .slice none 0 0] 27);obtain ⟨T, hT⟩ : ∃ T, w.heap.size = T := ⟨_, rfl⟩;obtain ⟨w1, hw1⟩ : ∃ w1, w.alloc (.cells #[.slice none 0 0, .int .i64 0, .string ⟨#[]⟩, .string ⟨#[]⟩, .slice none 0 0, .slice none 0 0, .slice none 0 0] 27) = w1 := ⟨_, rfl⟩;rw [hw1] at hba hnb;rw [hT] at hnb;have hc := Hd (rall_any w1 A n c S (hBs.below hba) hn);have hcm := Rd.max hBs;have hbaH := Hd hba;have hnbH := Hd hnb;obtain ⟨P, hP⟩ : ∃ P : Ending -> World -> Prop, (fun e w' => RParP S w e w') = P := ⟨_, rfl⟩;rw [hP]
 have hfin : Hid (∀ (cd : Int) (p : Nat) d vd w', Below w.heap.size w w' -> parseF S = (cd, p, d) -> DocI (fun k => k < w'.heap.size) w' vd d -> P (.returned (.tuple #[vd, .int .i64 cd, .int .i64 (p : Nat)])) w') := Hd fun cd p d vd w' h1 h2 h3 => by
  rw [<- hP];exact ⟨h1, vd, by rw [h2], by rw [h2]; exact h3⟩
 clear hBs hba hnb hP
 go_enter Tryz.func26, Tryz.ntmps26
 go_wp2_with fail;refine hc.out.mono ?_;rintro e w2 ⟨hb2, A2, c2, cd, p, ts, hall, hp0, hts, rfl, hO⟩;obtain ⟨lt, hlt⟩ : ∃ lt, ts.length = lt := ⟨_, rfl⟩;have hT2 := (hb2.block T (Array.getElem?_eq_some_iff.1 hnbH.out).1).trans hnbH.out;have hx2 := Hd (hbaH.out.trans (hb2.mono hbaH.out.size))
 by_cases hcd : cd = 0
 ·subst hcd;have hp9 := hp0 rfl;subst hp9;have hQ := toks_in hO;rw [hlt] at hQ;have hmany := all_many hall;have hsc := Hd (scan_any ts A2 lt c2 w2.heap.size n w2 (by omega) (tok_ok hall) (tok_text hall) (tok_attr hall) (Nat.le_refl _) (Sq.mono_ hQ fun vs t h => h.weak));have hgo := parseF_go hall;rw [hl] at hgo;obtain ⟨sc, hscF⟩ : ∃ sc, scanF n ts = sc := ⟨_, rfl⟩;obtain ⟨c9, a9⟩ := sc;rw [hscF] at hsc;obtain ⟨hq1, hq2⟩ := parse_scan hscF;simp only [hlt];have k0 : ((0 : Int) == 0) = true := rfl
  by_cases hc9 : c9 = 0
  ·subst hc9;have ha9 : a9 = 0 := by rw [<- hq2]; exact parse_zero hq1
   subst ha9;obtain ⟨R, hR⟩ : ∃ R, (kidsF (lt + 1) ts) = R := ⟨_, rfl⟩;have hdoc := parse_kids (f := lt + 1) (tok_ok hall) hq1 (by omega)
   have hres : Hid (parseF S = (0, 0, (parseT n ts).2.2)) := Hd (by
    rw [hgo]
    refine Prod.ext hq1 (Prod.ext hq2 rfl))
   have hdocH := Hd hdoc;have hkc := Hd (fun (w3 : World) (hb3 : Below w2.heap.size w2 w3) => kids_any ts A2 lt c2 ⟨w1.heap.size, w2.heap.size⟩ (by omega) (tok_ok hall) (tok_span hall) (lt + 1) (lt + 1) 0 w3 (Nat.le_refl _) (Nat.zero_le _) (by omega) hb3.size (Sq.kept_ hQ hb3 fun vs t ht => TkP.below ht hb3));have hT2H := Hd hT2;have hltH := Hd hlt;have h12H := Hd hb2.size;have hnkH := Hd hmany;clear hO hQ hgo hscF hq1 hq2 hall hts hp0 hT2 hb2 hdoc hR;go_wp2_with fail;refine hsc.out.mono ?_;rintro e w3 ⟨hb3, rfl⟩;have hT3 := Hd ((hb3.block T (Array.getElem?_eq_some_iff.1 hT2H.out).1).trans hT2H.out);have hx3 := Hd (hx2.out.trans (hb3.mono hx2.out.size));have hk3 := Hd (hkc.out w3 hb3);clear hb3 hkc;go_wp2_with fail;refine hk3.out.mono ?_;rintro e w4 ⟨hb4, A3, c3, ks, m9, hF, -, hm2, hl9, rfl, hO4⟩
   have hQ4 : Sq (NdE (fun k => w1.heap.size <= k /\ k < w4.heap.size)) 5 w4 A3 ks.length c3 ks := Sq.mono_ (OwS.sq' hO4.1 (by decide)) fun vs y hy => NdI.stay hy fun k hk => ⟨⟨by
    have h9 := hO4.2.1;have h8 := h12H.out;rcases hk with hk | hk
    ·exact hk.1
    ·exact Nat.le_trans (Nat.le_trans h8 h9) hk.1, hk.lt hO4.2.1 hO4.2.2⟩, rfl⟩
   obtain ⟨nk, hnk⟩ : ∃ nk, ks.length = nk := ⟨_, rfl⟩;rw [hnk] at hQ4 hl9;have hnk9 : nk <= 200000 := by have := hnkH.out; omega
   simp only [hnk]
   have hks : Hid ((kidsF (lt + 1) ts).1 = ks) := Hd (by
    rw [List.drop_zero] at hF
    rw [hF])
   have hT4 := Hd ((hb4.block T (Array.getElem?_eq_some_iff.1 hT3.out).1).trans hT3.out);have hx4 := Hd (hx3.out.trans (hb4.mono hx3.out.size));have hPd := PdS.start (Bk := ⟨w1.heap.size, w4.heap.size⟩) w4 (Nat.le_refl _);have hbd := below_alloc w4 (.cells #[.slice none 0 0, .int .i64 0, .string ⟨#[]⟩, .string ⟨#[]⟩, .slice none 0 0, .slice none 0 0, .slice none 0 0] 27);obtain ⟨D, hD⟩ : ∃ D, w4.heap.size = D := ⟨_, rfl⟩;clear hb4 hF hO4 hk3;have hQ4H := Hd hQ4
   go_upto_region 10 with fail
   change Code.wp _ _ _ _ (w4.alloc (.cells #[.slice none 0 0, .int .i64 0, .string ⟨#[]⟩, .string ⟨#[]⟩, .slice none 0 0, .slice none 0 0, .slice none 0 0] 27));have hx5 := Hd (hx4.out.trans (hbd.mono hx4.out.size))
   have hQ5 : Hid (∀ x, Below D (w4.alloc (.cells #[.slice none 0 0, .int .i64 0, .string ⟨#[]⟩, .string ⟨#[]⟩, .slice none 0 0, .slice none 0 0, .slice none 0 0] 27)) x -> Sq (NdE (fun k => w1.heap.size <= k /\ k < D)) 5 x A3 nk c3 ks) := Hd fun x hx => by
    rw [hD] at hbd;have h4 := hQ4H.out;rw [hD] at h4
    exact Sq.stay (Sq.kept_ h4 (hD.symm ▸ hbd) fun vs y hy => NdI.stay hy fun k hk => ⟨hk, hbd.block k hk.2⟩) (fun a e hn => by
     obtain ⟨b, off, e2, hlt9, _⟩ := h4.cell hn;rw [e] at e2;injection e2 with e2;subst e2
     exact hx.block b (by rw [<- hD]; exact hlt9)) (fun vs y hy => NdI.stay hy fun k hk => ⟨hk, hx.block k hk.2⟩)
   rw [hD] at hPd;have hTL : Hid (T < w1.heap.size) := Hd (Array.getElem?_eq_some_iff.1 hnbH.out).1;have hTD : T < D := by rw [<- hD]; exact (Array.getElem?_eq_some_iff.1 hT4.out).1
   have hT5 := Hd ((hbd.block T (by rw [hD]; exact hTD)).trans hT4.out);generalize w4.alloc (.cells #[.slice none 0 0, .int .i64 0, .string ⟨#[]⟩, .string ⟨#[]⟩, .slice none 0 0, .slice none 0 0, .slice none 0 0] 27) = w5 at hPd hQ5 hx5 hT5 ⊢;replace hPd := Hd hPd;clear hbd hQ4 hD
   go_loopw [11, 12] (fun v11 v12 x => ∃ i R, v12 = .int .i64 ((i : Nat) : Int) /\ v11 = .bool R /\ i <= nk /\ Hid (Below D w5 x /\ (foldS ks i).has = R /\ ∃ Ab Af nb cb nf cf r0 r1 r2 r3 r4, PdS ⟨w1.heap.size, D⟩ D x (foldS ks i) Ab Af nb cb nf cf r0 r1 r2 r3 r4)) (fun _ v12 _ => nk - (intOf v12).toNat)
   case atStart => exact ⟨0, false, rfl, rfl, Nat.zero_le _, Hd ⟨Below.refl _ _, rfl, _, _, _, _, _, _, _, _, _, _, _, hPd.out⟩⟩
   case round =>
    obtain ⟨i, R, rfl, rfl, hi, hR⟩ := hrel
    by_cases hlt : i < nk
    ·have i1 : decide ((i : Int) < (nk : Int)) = true := by simp; omega
     have q1 : (i : Int) < (nk : Int) := (by omega);obtain ⟨hbx, hRh, Ab, Af, nb, cb, nf, cf, r0, r1, r2, r3, r4, hPx⟩ := hR.out;have hQr := hQ5.out wr hbx;obtain ⟨b1, off1, x, vs1, rfl, hbl, hxi, _, hv1, hc1⟩ := hQr.at_ hlt;have hs1 := Hd (foldS_next hxi);have hop := foldS_opn ks i;have hle := foldS_le ks i;obtain ⟨kd, nm, tx, as_, kk⟩ := x;obtain ⟨Aa, ca, A2, c2', rfl, -⟩ := hv1.cells;have m0 := hc1 0 _ rfl;have m1 := hc1 1 _ rfl;have m2 := hc1 2 _ rfl;have m3 := hc1 3 _ rfl;have m4 := hc1 4 _ rfl;rw [Nat.add_zero] at m0;have nextI : (i : Int) + 1 = ((i + 1 : Nat) : Int) := (by omega);replace nextI := Hd nextI;clear hQr hc1 hR
     by_cases hk1 : kd = 1
     ·subst hk1;have hx' := Hd ((putTop_1 (x := .mk 1 nm tx as_ kk) hop rfl));have f0 : ∀ j, wr.frozen? ⟨D, j, none⟩ = false := fun j => frozen_of_row wr D j _ _ hPx.blk
      have d1 := cell_blk hPx.blk (i := 1) rfl;have d2 := cell_blk hPx.blk (i := 2) rfl;have d3 := cell_blk hPx.blk (i := 3) rfl;have d4 := cell_blk hPx.blk (i := 4) rfl;have d5 := cell_blk hPx.blk (i := 5) rfl;have hDF := blk_setCell (blk_setCell (blk_setCell (blk_setCell (blk_setCell hPx.blk (i := 1) (.int .i64 1)) (i := 2) (.string (strOf nm))) (i := 3) (.string (strOf tx))) (i := 4) (.slice Aa as_.length ca)) (i := 5) (.slice A2 kk.length c2');have hg9 := ((((grown_set wr ⟨D, 1, none⟩ (.int .i64 1)).trans (grown_set _ ⟨D, 2, none⟩ (.string (strOf nm)))).trans (grown_set _ ⟨D, 3, none⟩ (.string (strOf tx)))).trans (grown_set _ ⟨D, 4, none⟩ (.slice Aa as_.length ca))).trans (grown_set _ ⟨D, 5, none⟩ (.slice A2 kk.length c2'));have hP9 := Hd (hPx.put_root hDF (fun k hk => (set_other hk).trans ((set_other hk).trans ((set_other hk).trans ((set_other hk).trans (set_other (i := 1) (u := .int .i64 1) hk))))) hv1);have hb9 := Hd (hbx.grown hg9 (Nat.le_of_lt hPx.lt) (fun k hk => by injection hk with hk; rw [<- hk]; exact Nat.le_refl _));clear hbx hPx hDF hg9 hbl hv1 hxi;go_wp2_with fail;go_roundw
      case rel => exact ⟨i + 1, true, by rw [<- nextI.out], rfl, by omega, Hd ⟨hb9.out, by rw [hs1.out, hx'.out], Ab, Af, nb, cb, nf, cf, _, _, _, _, _, by rw [hs1.out, hx'.out]; exact hP9.out⟩⟩
      case measure => simp [intOf]; omega
     have e1 : (kd == 1) = false := by simpa using hk1
     by_cases hk2 : kd = 2
     ·subst hk2;have hx' := Hd ((putTop_2 (s := foldS ks i) (x := .mk 2 nm tx as_ kk) rfl));have hP9 := Hd hPx;have hb9 := Hd hbx;have hRh' := Hd hRh;clear hbx hPx hbl hv1 hxi hRh;go_wp2_with fail;go_roundw
      case rel => exact ⟨i + 1, R, by rw [<- nextI.out], rfl, by omega, Hd ⟨hb9.out, by rw [hs1.out, hx'.out, hRh'.out], Ab, Af, nb, cb, nf, cf, _, _, _, _, _, by rw [hs1.out, hx'.out]; exact hP9.out⟩⟩
      case measure => simp [intOf]; omega
     have e2 : (kd == 2) = false := (by simpa using hk2);have e3 : (kd != 2) = true := (by simpa using hk2);have hba := below_alloc wr (.cells #[.int .i64 kd, .string (strOf nm), .string (strOf tx), .slice Aa as_.length ca, .slice A2 kk.length c2'] 25);obtain ⟨wz, hwz⟩ : ∃ wz, (wr.alloc (.cells #[.int .i64 kd, .string (strOf nm), .string (strOf tx), .slice Aa as_.length ca, .slice A2 kk.length c2'] 25)).drew = wz := ⟨_, rfl⟩
     have hz : Sq (NdE (fun k => w1.heap.size <= k /\ k < D)) 5 wz (some ⟨wr.heap.size, 0, none⟩) 1 1 [.mk kd nm tx as_ kk] := by
      rw [<- hwz];exact sq_one wr.drew ([.int .i64 kd, .string (strOf nm), .string (strOf tx), .slice Aa as_.length ca, .slice A2 kk.length c2']) (.mk kd nm tx as_ kk) 25 (0, 0) rfl (NdI.later hv1 (fun k hk => Nat.lt_trans hk.2 hPx.lt) (hba.drew))
     have hbz : Below wr.heap.size wr wz := by rw [<- hwz]; exact hba.drew
     have hPz := hPx.below hbz;have hbz2 := Hd (hbx.trans (hbz.mono (Nat.le_of_lt hPx.lt)));have hlb := hPx.lb;have hlf := hPx.lf
     cases R with
     | true =>
      have hx' := Hd (putTop_aft (x := .mk kd nm tx as_ kk) hop hk1 hk2 hRh);have dD := cell_blk hPx.blk (i := 6) rfl;have hkeep := hPz.keep (v := .slice Af nf cf) (fun k hk => (OwS.lt hPz.aft k hk).1);have hown := hPz.aft;have hPzH := Hd hPz;have hRh' := Hd hRh;have hown := Hd hown;have hz := Hd hz;have hkeep := Hd hkeep;have hbn : nf + 1 <= 400000 := (by omega);have hLn := Hd hlf;have hDz : Hid (D + 1 <= wz.heap.size) := Hd hPz.lt;have hSz : Hid ((fun x => x.cell? ⟨D, 6, none⟩ = some (.slice Af nf cf) /\ x.cell? ⟨b1, off1 + i * 5, none⟩ = some (.int .i64 kd) /\ x.cell? ⟨b1, off1 + i * 5 + 1, none⟩ = some (.string (strOf nm)) /\ x.cell? ⟨b1, off1 + i * 5 + 2, none⟩ = some (.string (strOf tx)) /\ x.cell? ⟨b1, off1 + i * 5 + 3, none⟩ = some (.slice Aa as_.length ca) /\ x.cell? ⟨b1, off1 + i * 5 + 4, none⟩ = some (.slice A2 kk.length c2')) wz) := Hd ⟨cell_keep dD hbz, cell_keep m0 hbz, cell_keep m1 hbz, cell_keep m2 hbz, cell_keep m3 hbz, cell_keep m4 hbz⟩;clear hPx hPz hbx hbl hv1 hxi hba hbz hRh hop
      go_upto_region 16 with fail
      refine Pl.wp_region_plan 7 (.take 0 (.take 1 (.take 2 (.take 3 (.take 4 (.take 5 (.run 6 .done))))))) (fun x => x.cell? ⟨D, 6, none⟩ = some (.slice Af nf cf) /\ x.cell? ⟨b1, off1 + i * 5, none⟩ = some (.int .i64 kd) /\ x.cell? ⟨b1, off1 + i * 5 + 1, none⟩ = some (.string (strOf nm)) /\ x.cell? ⟨b1, off1 + i * 5 + 2, none⟩ = some (.string (strOf tx)) /\ x.cell? ⟨b1, off1 + i * 5 + 3, none⟩ = some (.slice Aa as_.length ca) /\ x.cell? ⟨b1, off1 + i * 5 + 4, none⟩ = some (.slice A2 kk.length c2')) (by kernel_rfl) (by kernel_rfl) (by exact ⟨dD, m0, m1, m2, m3, m4⟩) ?_;simp only [Pl.fill, Al_4, Al_5, Al_6, Al_7]
      iterate 6
       refine Pl.take_go ?_ (by rfl) (fun _ _ _ h => h) ?_ ?_
       rotate_left
       ·(intro x hSw; (try dsimp only at hSw); go_simp; try with_reducible rfl)
       try simp only [Act.put, Al_1, Al_2, Al_3]
      refine Pl.run_go (fun K hK => ?_);go_simp
      try rw [hwz]
      refine hK.out _ _ (Pl.more_go _ (fun _ h => h) (by exact hSz.out) ?_);clear hK K
      try simp only [Act.put, Al_1, Al_2, Al_3]
      refine Pl.done_go ?_;refine append_sq (El := NdE (fun k => w1.heap.size <= k /\ k < D)) (k := 5) _ 22 25 (.agg #[.int .i64 0, .string ⟨#[]⟩, .string ⟨#[]⟩, .slice none 0 0, .slice none 0 0]) 88 Tryz.underlying22 info_node rfl (by omega) rfl _ _ rfl (D + 1) (.slice Af nf cf) (foldS ks i).after rfl hown.out _ 1 1 _ rfl hz.out (fun vs x h => NdI.one h) hkeep.out (nf + 1) (by rw [hLn.out]) (by omega) (by omega) hDz.out ?_;intro A8 c8 x8 ho8 hg8 hb8 hv8;have hP9 := Hd (hPzH.out.put_aft ho8 hg8 hv8);have hown2 : (Value.slice Af nf cf).ownBlock ≠ some D := fun e => by have := (OwS.lt hown.out D e).1; omega
      have hD8 := (hg8.block D hPzH.out.lt (fun e => hown2 e.symm)).trans hPzH.out.blk;have f0 : ∀ j, x8.frozen? ⟨D, j, none⟩ = false := fun j => frozen_of_row x8 D j _ _ hD8
      have dD8 := cell_blk hD8 (i := 6) rfl;have hb9 := Hd ((hbz2.out.trans (hb8.mono (Nat.le_succ D))).grown (grown_set x8 ⟨D, 6, none⟩ (.slice A8 (nf + 1) c8)) (by have := hDz.out; have := hg8.size; omega) (fun k hk => by injection hk with hk; rw [<- hk]; exact Nat.le_refl _));clear ho8 hg8 hb8 hv8 hD8 hown2 hPzH hown hz hkeep hbz2;go_wp2_with fail;go_roundw
      case rel => exact ⟨i + 1, true, by rw [<- nextI.out], rfl, by omega, Hd ⟨hb9.out, by rw [hs1.out, hx'.out]; exact hRh'.out, Ab, A8, nb, cb, nf + 1, c8, _, _, _, _, _, by rw [hs1.out, hx'.out]; exact hP9.out⟩⟩
      case measure => simp [intOf]; omega
     | false =>
      have hx' := Hd (putTop_bef (x := .mk kd nm tx as_ kk) hop hk1 hk2 hRh);have dD := cell_blk hPx.blk (i := 0) rfl;have hkeep := hPz.keep (v := .slice Ab nb cb) (fun k hk => (OwS.lt hPz.bef k hk).1);have hown := hPz.bef;have hPzH := Hd hPz;have hRh' := Hd hRh;have hown := Hd hown;have hz := Hd hz;have hkeep := Hd hkeep;have hbn : nb + 1 <= 400000 := (by omega);have hLn := Hd hlb;have hDz : Hid (D + 1 <= wz.heap.size) := Hd hPz.lt;have hSz : Hid ((fun x => x.cell? ⟨D, 0, none⟩ = some (.slice Ab nb cb) /\ x.cell? ⟨b1, off1 + i * 5, none⟩ = some (.int .i64 kd) /\ x.cell? ⟨b1, off1 + i * 5 + 1, none⟩ = some (.string (strOf nm)) /\ x.cell? ⟨b1, off1 + i * 5 + 2, none⟩ = some (.string (strOf tx)) /\ x.cell? ⟨b1, off1 + i * 5 + 3, none⟩ = some (.slice Aa as_.length ca) /\ x.cell? ⟨b1, off1 + i * 5 + 4, none⟩ = some (.slice A2 kk.length c2')) wz) := Hd ⟨cell_keep dD hbz, cell_keep m0 hbz, cell_keep m1 hbz, cell_keep m2 hbz, cell_keep m3 hbz, cell_keep m4 hbz⟩;clear hPx hPz hbx hbl hv1 hxi hba hbz hRh hop
      go_upto_region 18 with fail
      refine Pl.wp_region_plan 7 (.take 0 (.take 1 (.take 2 (.take 3 (.take 4 (.take 5 (.run 6 .done))))))) (fun x => x.cell? ⟨D, 0, none⟩ = some (.slice Ab nb cb) /\ x.cell? ⟨b1, off1 + i * 5, none⟩ = some (.int .i64 kd) /\ x.cell? ⟨b1, off1 + i * 5 + 1, none⟩ = some (.string (strOf nm)) /\ x.cell? ⟨b1, off1 + i * 5 + 2, none⟩ = some (.string (strOf tx)) /\ x.cell? ⟨b1, off1 + i * 5 + 3, none⟩ = some (.slice Aa as_.length ca) /\ x.cell? ⟨b1, off1 + i * 5 + 4, none⟩ = some (.slice A2 kk.length c2')) (by kernel_rfl) (by kernel_rfl) (by exact ⟨dD, m0, m1, m2, m3, m4⟩) ?_;simp only [Pl.fill, Al_4, Al_5, Al_6, Al_7]
      iterate 6
       refine Pl.take_go ?_ (by rfl) (fun _ _ _ h => h) ?_ ?_
       rotate_left
       ·(intro x hSw; (try dsimp only at hSw); go_simp; try with_reducible rfl)
       try simp only [Act.put, Al_1, Al_2, Al_3]
      refine Pl.run_go (fun K hK => ?_);go_simp
      try rw [hwz]
      refine hK.out _ _ (Pl.more_go _ (fun _ h => h) (by exact hSz.out) ?_);clear hK K
      try simp only [Act.put, Al_1, Al_2, Al_3]
      refine Pl.done_go ?_;refine append_sq (El := NdE (fun k => w1.heap.size <= k /\ k < D)) (k := 5) _ 22 25 (.agg #[.int .i64 0, .string ⟨#[]⟩, .string ⟨#[]⟩, .slice none 0 0, .slice none 0 0]) 88 Tryz.underlying22 info_node rfl (by omega) rfl _ _ rfl (D + 1) (.slice Ab nb cb) (foldS ks i).before rfl hown.out _ 1 1 _ rfl hz.out (fun vs x h => NdI.one h) hkeep.out (nb + 1) (by rw [hLn.out]) (by omega) (by omega) hDz.out ?_;intro A8 c8 x8 ho8 hg8 hb8 hv8;have hP9 := Hd (hPzH.out.put_bef ho8 hg8 hv8);have hown2 : (Value.slice Ab nb cb).ownBlock ≠ some D := fun e => by have := (OwS.lt hown.out D e).1; omega
      have hD8 := (hg8.block D hPzH.out.lt (fun e => hown2 e.symm)).trans hPzH.out.blk;have f0 : ∀ j, x8.frozen? ⟨D, j, none⟩ = false := fun j => frozen_of_row x8 D j _ _ hD8
      have dD8 := cell_blk hD8 (i := 0) rfl;have hb9 := Hd ((hbz2.out.trans (hb8.mono (Nat.le_succ D))).grown (grown_set x8 ⟨D, 0, none⟩ (.slice A8 (nb + 1) c8)) (by have := hDz.out; have := hg8.size; omega) (fun k hk => by injection hk with hk; rw [<- hk]; exact Nat.le_refl _));clear ho8 hg8 hb8 hv8 hD8 hown2 hPzH hown hz hkeep hbz2;go_wp2_with fail;go_roundw
      case rel => exact ⟨i + 1, false, by rw [<- nextI.out], rfl, by omega, Hd ⟨hb9.out, by rw [hs1.out, hx'.out]; exact hRh'.out, A8, Af, nb + 1, c8, nf, cf, _, _, _, _, _, by rw [hs1.out, hx'.out]; exact hP9.out⟩⟩
      case measure => simp [intOf]; omega
    ·have i1 : decide ((i : Int) < (nk : Int)) = false := by simp; omega
     obtain ⟨hbx, hRh, Ab, Af, nb, cb, nf, cf, r0, r1, r2, r3, r4, hPx⟩ := hR.out;have hie : i = nk := by omega
     obtain ⟨rk, rn, rt, ra, rs, Ar, cr, Ak, ck, rfl, rfl, rfl, rfl, rfl⟩ : ∃ rk rn rt, ∃ ra : List At, ∃ rs : List Nd, ∃ Ar cr Ak ck, r0 = .int .i64 rk /\ r1 = .string (strOf rn) /\ r2 = .string (strOf rt) /\ r3 = .slice Ar ra.length cr /\ r4 = .slice Ak rs.length ck := by
      have hrt := hPx.root;generalize (foldS ks i).root = rt at hrt;obtain ⟨rk, rn, rt, ra, rs⟩ := rt;obtain ⟨Ar, cr, Ak, ck, e, -⟩ := hrt.cells;injection e with e0 e;injection e with e1 e;injection e with e2 e;injection e with e3 e;injection e with e4 e;exact ⟨rk, rn, rt, ra, rs, Ar, cr, Ak, ck, e0, e1, e2, e3, e4⟩
     have hTx := (hbx.block T hTD).trans hT5.out;have f0 : ∀ i, wr.frozen? ⟨T, i, none⟩ = false := fun i => frozen_of_row wr T i _ _ hTx
     have y0 := cell_blk hTx (i := 0) rfl;have y1 := cell_blk hTx (i := 1) rfl;have y2 := cell_blk hTx (i := 2) rfl;have y3 := cell_blk hTx (i := 3) rfl;have y4 := cell_blk hTx (i := 4) rfl;have y5 := cell_blk hTx (i := 5) rfl;have y6 := cell_blk hTx (i := 6) rfl;have d0 := cell_blk hPx.blk (i := 0) rfl;have d1 := cell_blk hPx.blk (i := 1) rfl;have d2 := cell_blk hPx.blk (i := 2) rfl;have d3 := cell_blk hPx.blk (i := 3) rfl;have d4 := cell_blk hPx.blk (i := 4) rfl;have d5 := cell_blk hPx.blk (i := 5) rfl;have d6 := cell_blk hPx.blk (i := 6) rfl;have hTF := Hd (blk_setCell (blk_setCell (blk_setCell (blk_setCell (blk_setCell (blk_setCell (blk_setCell hTx (i := 0) (.slice Ab nb cb)) (i := 1) (.int .i64 rk)) (i := 2) (.string (strOf rn))) (i := 3) (.string (strOf rt))) (i := 4) (.slice Ar ra.length cr)) (i := 5) (.slice Ak rs.length ck)) (i := 6) (.slice Af nf cf));have hg9 := (((((((grown_set wr ⟨T, 0, none⟩ (.slice Ab nb cb)).trans (grown_set _ ⟨T, 1, none⟩ (.int .i64 rk))).trans (grown_set _ ⟨T, 2, none⟩ (.string (strOf rn)))).trans (grown_set _ ⟨T, 3, none⟩ (.string (strOf rt)))).trans (grown_set _ ⟨T, 4, none⟩ (.slice Ar ra.length cr))).trans (grown_set _ ⟨T, 5, none⟩ (.slice Ak rs.length ck))).trans (grown_set _ ⟨T, 6, none⟩ (.slice Af nf cf)));have hdoc := hPx.doc (T := T) hTL.out hTD (fun k hk => (set_other hk).trans ((set_other hk).trans ((set_other hk).trans ((set_other hk).trans ((set_other hk).trans ((set_other hk).trans (set_other (i := 0) (u := .slice Ab nb cb) hk))))))) hg9.size;have hxx := hx5.out.trans (hbx.mono (by rw [hT]; exact Nat.le_of_lt hTD))
     have hfin' := Hd (hfin.out 0 0 _ _ _ (hxx.grown hg9 hxx.size (fun k hk => by injection hk with hk; rw [<- hk, <- hT]; exact Nat.le_refl _)) (by
      have e9 := hdocH.out;rw [hks.out] at e9
      rw [hres.out, e9, <- foldS_all, hnk, <- hie]) hdoc)
     clear hTx hbx hR hPx hg9 hdoc hxx;go_wp2_with fail;exact bodyPost_ret (res_doc3 (x := .int .i64 0) (y := .int .i64 0) rfl hTF.out rfl rfl rfl) rfl hfin'.out
  ·have hres : Hid (parseF S = (c9, a9, noDoc)) := Hd (by
    have h3 := parse_no (len := n) (ts := ts) (by rw [hq1]; exact hc9);rw [hgo]
    rw [<- hq1, <- hq2, <- h3])
   have hcd1 : (c9 == 0) = false := by simpa using hc9
   have hcd2 : (c9 != 0) = true := by simpa using hc9
   have hT2H := Hd hT2;clear hO hQ hmany hgo hscF hq1 hq2 hall hts hp0 hT2 hb2 hc9;go_wp2_with fail;refine hsc.out.mono ?_;rintro e w3 ⟨hb3, rfl⟩;have hT3 := (hb3.block T (Array.getElem?_eq_some_iff.1 hT2H.out).1).trans hT2H.out;have hx3 := Hd (hx2.out.trans (hb3.mono hx2.out.size));have hfin' : Hid (P (.returned (.tuple #[.agg #[.slice none 0 0, .int .i64 0, .string ⟨#[]⟩, .string ⟨#[]⟩, .slice none 0 0, .slice none 0 0, .slice none 0 0], .int .i64 c9, .int .i64 (a9 : Nat)])) w3) := Hd (hfin.out _ _ _ _ _ hx3.out hres.out (DocI.zero _ _));have hT3H := Hd hT3;obtain ⟨s0, s1, s2, s3, s4, s5, s6⟩ := doc_same hT3;have f0 : ∀ i, w3.frozen? ⟨T, i, none⟩ = false := fun i => frozen_of_row w3 T i _ _ hT3
   have y0 := cell_blk hT3 (i := 0) rfl;have y1 := cell_blk hT3 (i := 1) rfl;have y2 := cell_blk hT3 (i := 2) rfl;have y3 := cell_blk hT3 (i := 3) rfl;have y4 := cell_blk hT3 (i := 4) rfl;have y5 := cell_blk hT3 (i := 5) rfl;have y6 := cell_blk hT3 (i := 6) rfl;clear hT3 hb3;go_wp2_with fail;exact bodyPost_ret (res_doc3 (x := .int .i64 c9) (y := .int .i64 (a9 : Nat)) rfl hT3H.out rfl rfl rfl) rfl hfin'.out
 ·have hcd1 : (cd == 0) = false := by simpa using hcd
  have hcd2 : (cd != 0) = true := by simpa using hcd
  have hres := Hd (parseF_bad hall hcd);have hfin' : Hid (P (.returned (.tuple #[.agg #[.slice none 0 0, .int .i64 0, .string ⟨#[]⟩, .string ⟨#[]⟩, .slice none 0 0, .slice none 0 0, .slice none 0 0], .int .i64 cd, .int .i64 (p : Nat)])) w2) := Hd (hfin.out _ _ _ _ _ hx2.out hres.out (DocI.zero _ _));have hT2H := Hd hT2;obtain ⟨s0, s1, s2, s3, s4, s5, s6⟩ := doc_same hT2;have f0 : ∀ i, w2.frozen? ⟨T, i, none⟩ = false := fun i => frozen_of_row w2 T i _ _ hT2
  have y0 := cell_blk hT2 (i := 0) rfl;have y1 := cell_blk hT2 (i := 1) rfl;have y2 := cell_blk hT2 (i := 2) rfl;have y3 := cell_blk hT2 (i := 3) rfl;have y4 := cell_blk hT2 (i := 4) rfl;have y5 := cell_blk hT2 (i := 5) rfl;have y6 := cell_blk hT2 (i := 6) rfl;simp only [hlt];clear hT2 hb2 hall hp0 hts hO hcd;go_wp2_with fail;exact bodyPost_ret (res_doc3 (x := .int .i64 cd) (y := .int .i64 (p : Nat)) rfl hT2H.out rfl rfl rfl) rfl hfin'.out
end
end Go.Proofs.YtokdnhdfmgfkeaaGreatDoor.Xt
end

section
namespace Go.Proofs.YtokdnhdfmgfkeaaGreatDoor.Xt
open Xl UtfW
/-! ### The builder over them -/
end Go.Proofs.YtokdnhdfmgfkeaaGreatDoor.Xt
end

section
namespace Go.Proofs.YtokdnhdfmgfkeaaGreatDoor.Xt
open Go.RowKit UtfW Xl Er
theorem ParP.ok {S : Tx} {w w' : World} {e : Ending} {p : Nat} {d : Doc} (h : ParP S w e w') (hr : parseF S = (0, p, d)) : Below w.heap.size w w' /\ ∃ vd, e = .returned (.tuple #[vd, .nilIface]) /\ DocI (fun k => w.heap.size <= k /\ k < w'.heap.size) w' vd d := by
 obtain ⟨h1, vd, ev, rfl, h2⟩ := h;rw [hr] at h2;rcases h2 with ⟨_, rfl, h3⟩ | ⟨h3, _⟩
 ·exact ⟨h1, vd, rfl, h3⟩
 ·exact absurd rfl h3
theorem ParP.no {S : Tx} {w w' : World} {e : Ending} {cd : Int} {p : Nat} {d : Doc} (h : ParP S w e w') (hr : parseF S = (cd, p, d)) (hc : cd ≠ 0) : Below w.heap.size w w' /\ d = noDoc /\ ∃ v, e = .returned (.tuple #[zeroDoc, v]) /\ Er.Fe w' w'.heap.size cd (p : Nat) [xmlB] v := by
 obtain ⟨h1, vd, ev, rfl, h2⟩ := h;rw [hr] at h2;rcases h2 with ⟨h3, _⟩ | ⟨_, h3, rfl, h4⟩
 ·exact absurd h3 hc
 ·exact ⟨h1, h3, ev, rfl, h4⟩
theorem DocI.open_ {X : Nat -> Prop} {w : World} {v : Value} {d : Doc} (h : DocI X w v d) : ∃ A1 c1 Ar cr Ak ck A2 c2, v = .agg #[.slice A1 d.before.length c1, .int .i64 d.root.kind, .string (strOf d.root.name), .string (strOf d.root.text), .slice Ar d.root.attrs.length cr, .slice Ak d.root.kids.length ck, .slice A2 d.after.length c2] ∧
  NdI X w [.int .i64 d.root.kind, .string (strOf d.root.name), .string (strOf d.root.text), .slice Ar d.root.attrs.length cr, .slice Ak d.root.kids.length ck] d.root /\ Sq (NdE X) 5 w Ak d.root.kids.length ck d.root.kids /\ Sq (NdE X) 5 w A1 d.before.length c1 d.before /\ Sq (NdE X) 5 w A2 d.after.length c2 d.after := by
 obtain ⟨A1, c1, r0, r1, r2, r3, r4, A2, c2, rfl, h1, _, h2, h3, _⟩ := h;obtain ⟨bf, rt, af⟩ := d;obtain ⟨kd, nm, tx, as_, ks⟩ := rt;obtain ⟨Ar, cr, Ak, ck, e, g1, g2, _⟩ := h2.cells;injection e with e0 e;injection e with e1 e;injection e with e2 e;injection e with e3 e;injection e with e4 e;subst e0; subst e1; subst e2; subst e3; subst e4
 exact ⟨A1, c1, Ar, cr, Ak, ck, A2, c2, rfl, h2, g2, h1, h3⟩
def aw1 : Tx := [60, 97, 62, 120, 60, 33, 91, 67, 68, 65, 84, 65, 91, 121, 93, 93, 62, 60, 98, 47, 62, 60, 47, 97, 62]
def aw2 : Tx := [60, 97, 62, 60, 47, 98, 62]
def awD : Doc := ⟨[], .mk 1 [97] [] [] [textN [120, 121], .mk 1 [98] [] [] []], []⟩
theorem aw1_all : Xl.allF aw1 = (0, 0, [⟨1, 0, [97], [], []⟩, ⟨4, 3, [], [120], []⟩, ⟨5, 4, [], [121], []⟩, ⟨2, 17, [98], [], []⟩, ⟨3, 21, [97], [], []⟩]) := by decide +kernel
theorem aw2_all : Xl.allF aw2 = (0, 0, [⟨1, 0, [97], [], []⟩, ⟨3, 3, [98], [], []⟩]) := by decide +kernel
theorem aw1_eq : parseF aw1 = (0, 0, awD) := by
 unfold parseF;rw [aw1_all];rfl
theorem aw2_eq : parseF aw2 = (3, 3, noDoc) := by
 unfold parseF;rw [aw2_all];rfl
set_option maxHeartbeats 4000000 in
set_option maxRecDepth 100000 in
theorem awake10 (w : World) (hU : Un w) (hE : En w.heap.size w) :
  Calls Tryz.prog 24 #[] w fun e w' => e = .returned (.bool true) /\ Below w.heap.size w w' := by
 have kc := fun (w : World) (C : Array Value) (n c : Nat) => Lib.run_convert_bytes_const (P := Tryz.prog) w 41 5 C n c Tryz.underlying41 Tryz.underlying5
 go_enter Tryz.func24, Tryz.ntmps24
 go_wp2_with fail;refine (parse_any _ (hU.below (below_alloc _ _)) _ 25 25 aw1 (bs_lit _ _ _ _ _ _ rfl (by decide) rfl) (by decide)).mono ?_;intro e w1 h1;obtain ⟨hb1, vd, rfl, hd⟩ := h1.ok aw1_eq;obtain ⟨A1, c1, Ar, cr, Ak, ck, A2, c2, rfl, -, hk, -, -⟩ := hd.open_;have hx1 := (below_alloc w _).trans (hb1.mono (below_alloc w _).size);have hba := below_alloc w1 (.cells #[.slice A1 0 c1, .int .i64 1, .string (strOf [97]), .string (strOf []), .slice Ar 0 cr, .slice Ak 2 ck, .slice A2 0 c2] 27);have hnb := heap_alloc_new w1 (.cells #[.slice A1 0 c1, .int .i64 1, .string (strOf [97]), .string (strOf []), .slice Ar 0 cr, .slice Ak 2 ck, .slice A2 0 c2] 27);change Sq _ 5 w1 Ak 2 ck [textN [120, 121], .mk 1 [98] [] [] []] at hk
 have hk2 := Hd (Sq.stay (w' := w1.alloc (.cells #[.slice A1 0 c1, .int .i64 1, .string (strOf [97]), .string (strOf []), .slice Ar 0 cr, .slice Ak 2 ck, .slice A2 0 c2] 27)) hk (fun ad e hn => by
   obtain ⟨b, off, e2, hbl, _⟩ := hk.cell hn;rw [e] at e2;injection e2 with e2;rw [e2]
   exact hba.block b hbl) (fun vs x h => NdI.later h (fun k hk => hk.2) hba))
 replace hx1 := Hd (hx1.trans (hba.mono hx1.size));replace hnb := Hd hnb;clear hb1 h1 hd hk hba
 go_upto_region 2 with fail
 change Code.wp _ _ _ _ (w1.alloc (.cells #[.slice A1 0 c1, .int .i64 1, .string (strOf [97]), .string (strOf []), .slice Ar 0 cr, .slice Ak 2 ck, .slice A2 0 c2] 27));generalize w1.alloc (.cells #[.slice A1 0 c1, .int .i64 1, .string (strOf [97]), .string (strOf []), .slice Ar 0 cr, .slice Ak 2 ck, .slice A2 0 c2] 27) = w2 at hx1 hnb hk2 ⊢;generalize w1.heap.size = D at hnb ⊢;go_wp2_with fail;refine (parse_any _ ((hU.below hx1.out).below (below_alloc _ _)) _ 7 7 aw2 (bs_lit _ _ _ _ _ _ rfl (by decide) rfl) (by decide)).mono ?_;intro e w3 h3;obtain ⟨hb3, -, v, rfl, f3⟩ := h3.no aw2_eq (by decide);unfold zeroDoc;obtain ⟨T2, a2, rfl⟩ := f3.iface;have hb23 := (below_alloc w2 _).trans (hb3.mono (below_alloc w2 _).size);have hbz := below_alloc w3 (.cells #[.slice none 0 0, .int .i64 0, .string ⟨#[]⟩, .string ⟨#[]⟩, .slice none 0 0, .slice none 0 0, .slice none 0 0] 27);have hb24 := hb23.trans (hbz.mono hb23.size);have hx4 := Hd (hx1.out.trans (hb24.mono hx1.out.size));have f4 := Hd (Fe.later f3 hbz);have hD4 := (hb24.block D (Array.getElem?_eq_some_iff.1 hnb.out).1).trans hnb.out;obtain ⟨b5, off5, x5, vs5, rfl, _, hx5, _, hv5, hc5⟩ := (hk2.out.at_ (i := 0) (by decide));injection hx5 with hx5;subst hx5;obtain ⟨A5, c5, A6, c6, rfl, -⟩ := hv5.cells;have k5 := cell_keep (hc5 2 _ rfl) hb24;have z5 := cell_blk hD4 (i := 5) rfl;have str1 : ((strOf [120, 121]).toList == [120, 121]) = true := by rw [str_eqL]; decide
 replace hbz := Hd hbz;clear hb3 h3 f3 hb23 hb24 hv5 hc5 hnb hk2 hD4;go_wp2_with fail;refine (Code_any 3 3 _ _ w.heap.size (w3.alloc (.cells #[.slice none 0 0, .int .i64 0, .string ⟨#[]⟩, .string ⟨#[]⟩, .slice none 0 0, .slice none 0 0, .slice none 0 0] 27)) (hE.on hx4.out) f4.out).mono ?_;rintro e w5 ⟨rfl, hb5⟩;have f5 := Hd (Fe.later f4.out hb5);have hx5 := Hd (hx4.out.trans (hb5.mono hx4.out.size));clear hb5 f4;go_wp2_with fail;refine (At_any 3 3 _ _ w.heap.size w5 (hE.on hx5.out) f5.out).mono ?_;rintro e w6 ⟨rfl, hb6⟩;have hx6 := Hd (hx5.out.trans (hb6.mono hx5.out.size));clear hb6 f5;go_wp2_with fail;go_ret;exact ⟨rfl, hx6.out⟩
end Go.Proofs.YtokdnhdfmgfkeaaGreatDoor.Xt
end

section
namespace Go.Proofs.YtokdnhdfmgfkeaaGreatDoor.Xt
open Go.RowKit UtfW Xl Xo
section
variable {X Y : Nat -> Prop} (w : World)
set_option maxHeartbeats 2000000 in
theorem rnodes_any (A1 A2 : Option Addr) (n1 n2 c1 c2 : Nat) (l1 l2 : List Nd) (h1 : Sq (NdE X) 5 w A1 n1 c1 l1) (h2 : Sq (NdE Y) 5 w A2 n2 c2 l2) (hX1 : ∀ a, A1 = some a -> 0 < n1 -> X a.block) (hY1 : ∀ a, A2 = some a -> 0 < n2 -> Y a.block)
  (hX : ∀ j, X j -> j < w.heap.size) (hY : ∀ j, Y j -> j < w.heap.size) :
  Calls Tryz.prog 66 #[.slice A1 n1 c1, .slice A2 n2 c2] w fun e w' => (∃ B : Bool, e = .returned (.bool B) /\ (B = true ↔ l1 = l2)) /\ Below w.heap.size w w' := by
 have hl1 := h1.len;have hl2 := h2.len;subst hl1;subst hl2;have m1 : NdI X w [.int .i64 0, .string (strOf []), .string (strOf []), .slice none 0 0, .slice A1 l1.length c1] (.mk 0 [] [] [] l1) := NdI.make (as_ := []) (Sq.none_ w) (fun a e => by cases e) h1 hX1;have m2 : NdI Y w [.int .i64 0, .string (strOf []), .string (strOf []), .slice none 0 0, .slice A2 l2.length c2] (.mk 0 [] [] [] l2) := NdI.make (as_ := []) (Sq.none_ w) (fun a e => by cases e) h2 hY1;have hs := Hd (rsame_any _ X Y w _ _ _ _ (Nat.le_refl _) m1 m2 hX hY);clear h1 h2 m1 m2 hX hY hX1 hY1
 go_enter Tryz.func66, Tryz.ntmps66
 go_wp2_with fail;refine hs.out.mono ?_;rintro e w1 ⟨⟨B, rfl, hB⟩, hb⟩;have hb' := Hd hb;have hB' : Hid (B = true ↔ l1 = l2) := Hd ⟨fun h => by have := hB.1 h; injection this, fun h => hB.2 (by rw [h])⟩;clear hb hB;go_wp2_with fail;go_ret;exact ⟨⟨B, rfl, hB'.out⟩, hb'.out⟩
end
structure DocS (X : Nat -> Prop) (w : World) (A1 : Option Addr) (c1 : Nat) (kd : Int) (nm tx : Tx) (as_ : List At) (ks : List Nd) (Ar : Option Addr) (cr : Nat) (Ak : Option Addr) (ck : Nat) (A2 : Option Addr) (c2 : Nat) (bf af : List Nd) : Prop where
 bef : Sq (NdE X) 5 w A1 bf.length c1 bf
 befX : ∀ a, A1 = some a -> 0 < bf.length -> X a.block
 root : NdI X w [.int .i64 kd, .string (strOf nm), .string (strOf tx), .slice Ar as_.length cr, .slice Ak ks.length ck] (.mk kd nm tx as_ ks)
 aft : Sq (NdE X) 5 w A2 af.length c2 af
 aftX : ∀ a, A2 = some a -> 0 < af.length -> X a.block
theorem DocI.parts {X : Nat -> Prop} {w : World} {v : Value} {d : Doc} (h : DocI X w v d) : ∃ A1 c1 kd nm tx as_ ks Ar cr Ak ck A2 c2, v = .agg #[.slice A1 d.before.length c1, .int .i64 kd, .string (strOf nm), .string (strOf tx), .slice Ar as_.length cr, .slice Ak ks.length ck, .slice A2 d.after.length c2] /\ d.root = .mk kd nm tx as_ ks ∧
  DocS X w A1 c1 kd nm tx as_ ks Ar cr Ak ck A2 c2 d.before d.after := by
 obtain ⟨A1, c1, r0, r1, r2, r3, r4, A2, c2, rfl, h1, h1x, h2, h3, h3x⟩ := h;obtain ⟨bf, rt, af⟩ := d;obtain ⟨kd, nm, tx, as_, ks⟩ := rt;obtain ⟨Ar, cr, Ak, ck, e, g1, g2, _⟩ := h2.cells;injection e with e0 e;injection e with e1 e;injection e with e2 e;injection e with e3 e;injection e with e4 e;subst e0; subst e1; subst e2; subst e3; subst e4
 exact ⟨A1, c1, kd, nm, tx, as_, ks, Ar, cr, Ak, ck, A2, c2, rfl, rfl, h1, h1x, h2, h3, h3x⟩
theorem DocS.later {X : Nat -> Prop} {w w' : World} {A1 : Option Addr} {c1 : Nat} {kd : Int} {nm tx : Tx} {as_ : List At} {ks : List Nd} {Ar : Option Addr} {cr : Nat} {Ak : Option Addr} {ck : Nat} {A2 : Option Addr} {c2 : Nat} {bf af : List Nd} (h : DocS X w A1 c1 kd nm tx as_ ks Ar cr Ak ck A2 c2 bf af) (hX : ∀ j, X j -> j < w.heap.size) (hb : Below w.heap.size w w') :
  DocS X w' A1 c1 kd nm tx as_ ks Ar cr Ak ck A2 c2 bf af :=
 ⟨Sq.kept_ h.bef hb (fun _ _ hx => NdI.later hx hX hb), h.befX, NdI.later h.root hX hb, Sq.kept_ h.aft hb (fun _ _ hx => NdI.later hx hX hb), h.aftX⟩
set_option maxHeartbeats 8000000 in
set_option maxRecDepth 100000 in
theorem rdocs_any {X Y : Nat -> Prop} (w : World) (v u : Value) (d d' : Doc) (h1 : DocI X w v d) (h2 : DocI Y w u d') (hX : ∀ j, X j -> j < w.heap.size) (hY : ∀ j, Y j -> j < w.heap.size) :
  Calls Tryz.prog 28 #[v, u] w fun e w' => (∃ B : Bool, e = .returned (.bool B) /\ (B = true ↔ d = d')) /\ Below w.heap.size w w' := by
 obtain ⟨A1, c1, kd, nm, tx, as_, ks, Ar, cr, Ak, ck, A2, c2, rfl, hr, hS⟩ := h1.parts;obtain ⟨B1, d1, kd', nm', tx', as', ks', Br, dr, Bk, dk, B2, d2, rfl, hr', hS'⟩ := h2.parts;obtain ⟨bf, rt, af⟩ := d;obtain ⟨bf', rt', af'⟩ := d';simp only at hr hr' hS hS';subst hr;subst hr';clear h1 h2;obtain ⟨n1, hn1⟩ : ∃ n1, bf.length = n1 := ⟨_, rfl⟩;obtain ⟨n2, hn2⟩ : ∃ n2, af.length = n2 := ⟨_, rfl⟩;obtain ⟨n3, hn3⟩ : ∃ n3, bf'.length = n3 := ⟨_, rfl⟩;obtain ⟨n4, hn4⟩ : ∃ n4, af'.length = n4 := ⟨_, rfl⟩;obtain ⟨n5, hn5⟩ : ∃ n5, as_.length = n5 := ⟨_, rfl⟩;obtain ⟨n6, hn6⟩ : ∃ n6, ks.length = n6 := ⟨_, rfl⟩;obtain ⟨n7, hn7⟩ : ∃ n7, as'.length = n7 := ⟨_, rfl⟩;obtain ⟨n8, hn8⟩ : ∃ n8, ks'.length = n8 := ⟨_, rfl⟩;simp only [hn1, hn2, hn3, hn4, hn5, hn6, hn7, hn8];have hba := below_alloc w (.cells #[.slice A1 n1 c1, .int .i64 kd, .string (strOf nm), .string (strOf tx), .slice Ar n5 cr, .slice Ak n6 ck, .slice A2 n2 c2] 27);have hnb := heap_alloc_new w (.cells #[.slice A1 n1 c1, .int .i64 kd, .string (strOf nm), .string (strOf tx), .slice Ar n5 cr, .slice Ak n6 ck, .slice A2 n2 c2] 27);obtain ⟨T, hT⟩ : ∃ T, w.heap.size = T := ⟨_, rfl⟩;obtain ⟨w1, hw1⟩ : ∃ w1, w.alloc (.cells #[.slice A1 n1 c1, .int .i64 kd, .string (strOf nm), .string (strOf tx), .slice Ar n5 cr, .slice Ak n6 ck, .slice A2 n2 c2] 27) = w1 := ⟨_, rfl⟩;rw [hw1] at hba hnb;rw [hT] at hnb;have hbb := below_alloc w1 (.cells #[.slice B1 n3 d1, .int .i64 kd', .string (strOf nm'), .string (strOf tx'), .slice Br n7 dr, .slice Bk n8 dk, .slice B2 n4 d2] 27);have hnc := heap_alloc_new w1 (.cells #[.slice B1 n3 d1, .int .i64 kd', .string (strOf nm'), .string (strOf tx'), .slice Br n7 dr, .slice Bk n8 dk, .slice B2 n4 d2] 27);obtain ⟨U, hU⟩ : ∃ U, w1.heap.size = U := ⟨_, rfl⟩
 obtain ⟨w2, hw2⟩ : ∃ w2, w1.alloc (.cells #[.slice B1 n3 d1, .int .i64 kd', .string (strOf nm'), .string (strOf tx'), .slice Br n7 dr, .slice Bk n8 dk, .slice B2 n4 d2] 27) = w2 := ⟨_, rfl⟩;rw [hw2] at hbb hnc;rw [hU] at hnc;have hb02 := hba.trans (hbb.mono hba.size);have hnb2 := (hbb.block T (Array.getElem?_eq_some_iff.1 hnb).1).trans hnb;have hX2 : ∀ j, X j -> j < w2.heap.size := fun j hj => Nat.lt_of_lt_of_le (hX j hj) hb02.size
 have hY2 : ∀ j, Y j -> j < w2.heap.size := fun j hj => Nat.lt_of_lt_of_le (hY j hj) hb02.size
 have hS2 := hS.later hX hb02;have hS2' := hS'.later hY hb02;have cN := rnodes_any w2 A1 B1 _ _ c1 d1 bf bf' hS2.bef hS2'.bef hS2.befX hS2'.befX hX2 hY2;have cS := fun z (hz : Below w2.heap.size w2 z) => rsame_any _ X Y z _ _ _ _ (Nat.le_refl _) (hS2.later hX2 hz).root (hS2'.later hY2 hz).root (fun j hj => Nat.lt_of_lt_of_le (hX2 j hj) hz.size) (fun j hj => Nat.lt_of_lt_of_le (hY2 j hj) hz.size)
 have cM := fun z (hz : Below w2.heap.size w2 z) => rnodes_any z A2 B2 _ _ c2 d2 af af' (hS2.later hX2 hz).aft (hS2'.later hY2 hz).aft hS2.aftX hS2'.aftX (fun j hj => Nat.lt_of_lt_of_le (hX2 j hj) hz.size) (fun j hj => Nat.lt_of_lt_of_le (hY2 j hj) hz.size)
 rw [hn1, hn3] at cN;rw [hn5, hn6, hn7, hn8] at cS;rw [hn2, hn4] at cM;have x0 : w2.cell? ⟨T, 0, none⟩ = some (.slice A1 n1 c1) := cell_blk hnb2 rfl;have y0 : w2.cell? ⟨U, 0, none⟩ = some (.slice B1 n3 d1) := cell_blk hnc rfl;replace cN := Hd cN;replace cS := Hd cS;replace cM := Hd cM;replace hnb2 := Hd hnb2;replace hnc := Hd hnc;replace hb02 := Hd hb02;clear hS hS' hS2 hS2' hX2 hY2 hX hY hba hbb hnb hn1 hn2 hn3 hn4 hn5 hn6 hn7 hn8
 go_enter Tryz.func28, Tryz.ntmps28
 go_wp2_with fail;refine cN.out.mono ?_;rintro e w3 ⟨⟨b1, rfl, hB1⟩, hb3⟩;have hT3 := (hb3.block T (Array.getElem?_eq_some_iff.1 hnb2.out).1).trans hnb2.out;have hU3 := (hb3.block U (Array.getElem?_eq_some_iff.1 hnc.out).1).trans hnc.out;have hb03 := Hd (hb02.out.trans (hb3.mono hb02.out.size))
 cases b1 with
 | false =>
  have hno : Hid (Doc.mk bf (.mk kd nm tx as_ ks) af ≠ Doc.mk bf' (.mk kd' nm' tx' as' ks') af') := Hd fun e => by
   injection e with e1 _ _;exact absurd (hB1.2 e1) (by decide)
  clear hb3 hB1 hT3 hU3;go_wp2_with fail;go_ret;exact ⟨⟨false, rfl, by simpa using hno.out⟩, hb03.out⟩
 | true =>
  have e1 := Hd (hB1.1 rfl);have p1 := cell_blk hT3 (i := 1) rfl;have p2 := cell_blk hT3 (i := 2) rfl;have p3 := cell_blk hT3 (i := 3) rfl;have p4 := cell_blk hT3 (i := 4) rfl;have p5 := cell_blk hT3 (i := 5) rfl;have r1 := cell_blk hU3 (i := 1) rfl;have r2 := cell_blk hU3 (i := 2) rfl;have r3 := cell_blk hU3 (i := 3) rfl;have r4 := cell_blk hU3 (i := 4) rfl;have r5 := cell_blk hU3 (i := 5) rfl;have cS3 := Hd (cS.out w3 hb3);replace hb3 := Hd hb3;clear hB1 hT3 hU3;go_wp2_with fail;refine cS3.out.mono ?_;rintro e w4 ⟨⟨b2, rfl, hB2⟩, hb4⟩;have hb24 := hb3.out.trans (hb4.mono hb3.out.size);have hT4 := (hb24.block T (Array.getElem?_eq_some_iff.1 hnb2.out).1).trans hnb2.out;have hU4 := (hb24.block U (Array.getElem?_eq_some_iff.1 hnc.out).1).trans hnc.out;have hb04 := Hd (hb03.out.trans (hb4.mono hb03.out.size))
  cases b2 with
  | false =>
   have hno : Hid (Doc.mk bf (.mk kd nm tx as_ ks) af ≠ Doc.mk bf' (.mk kd' nm' tx' as' ks') af') := Hd fun e => by
    injection e with _ e1 _;exact absurd (hB2.2 e1) (by decide)
   clear hb4 hB2 hT4 hU4 hb24;go_wp2_with fail;go_ret;exact ⟨⟨false, rfl, by simpa using hno.out⟩, hb04.out⟩
  | true =>
   have e2 := Hd (hB2.1 rfl);have p6 := cell_blk hT4 (i := 6) rfl;have r6 := cell_blk hU4 (i := 6) rfl;have cM4 := Hd (cM.out w4 hb24);clear hb4 hB2 hT4 hU4 hb24;go_wp2_with fail;refine cM4.out.mono ?_;rintro e w5 ⟨⟨b3, rfl, hB3⟩, hb5⟩;have hb05 := Hd (hb04.out.trans (hb5.mono hb04.out.size))
   have hfin : Hid (b3 = true ↔ Doc.mk bf (.mk kd nm tx as_ ks) af = Doc.mk bf' (.mk kd' nm' tx' as' ks') af') := Hd ⟨fun h => by rw [e1.out, e2.out, hB3.1 h], fun h => by
    injection h with _ _ h
    exact hB3.2 h⟩
   clear hb5 hB3;go_wp2_with fail;go_ret;exact ⟨⟨b3, rfl, hfin.out⟩, hb05.out⟩
end Go.Proofs.YtokdnhdfmgfkeaaGreatDoor.Xt
end
