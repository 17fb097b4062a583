/- token of the tree's builder. Printed by xn_tok.py. -/
import Derived.Test.YtokdnhdfmgfkeaaGreatDoorWUtfMath
import Derived.Test.YtokdnhdfmgfkeaaGreatDoorWXlScan
import Derived.Test.YtokdnhdfmgfkeaaGreatDoorWErrWalk2
import Derived.Test.YtokdnhdfmgfkeaaGreatDoorWXoBack
import Derived.Test.YtokdnhdfmgfkeaaGreatDoorWXpRc
import Derived.Test.YtokdnhdfmgfkeaaGreatDoorWQxVal
import Derived.Laws.StructEq
import Derived.Test.YtokdnhdfmgfkeaaGreatDoorWXnSt1
import Derived.Test.YtokdnhdfmgfkeaaGreatDoorWXlUpto
set_option linter.unusedVariables false
set_option linter.unusedSimpArgs false
section
namespace Go.Proofs.YtokdnhdfmgfkeaaGreatDoor.Xl
open Go.RowKit UtfW
def xmlB : ByteArray := ⟨#[120, 109, 108]⟩
theorem all_long {S : Tx} (h : 65536 < S.length) : allF S = (8, 65536, []) := by
 unfold allF;rw [if_pos h]
theorem all_byte {S : Tx} (h : S.length <= 65536) {k : Int} (hk : badW S 0 = k) (h2 : 0 <= k) : allF S = (1, k.toNat, []) := by
 unfold allF;rw [if_neg (by omega), hk, if_pos h2]
theorem all_scan {S : Tx} (h : S.length <= 65536) (h2 : badW S 0 < 0) : allF S = scanF S := by
 unfold allF scanF;rw [if_neg (by omega), if_neg (by omega)]
 cases decl S with
 | bad c o => rfl
 | ok u n => rfl
section
variable (w : World) (hU : Un w) (A : Option Addr) (n c : Nat) (S : Tx) (hBs : Bs w A n c S) (hn : n <= 1000000)
include hU hBs hn
set_option maxHeartbeats 4000000 in
set_option maxRecDepth 100000 in
theorem all_any : Calls Tryz.prog 61 #[.slice A n c] w fun e w' => Below w.heap.size w w' /\ ∃ va ev, e = .returned (.tuple #[va, ev]) ∧
  (((allF S).1 = 0 /\ ev = .nilIface /\ OwTk w' w.heap.size va (allF S).2.2) \/ ((allF S).1 ≠ 0 /\ va = .slice none 0 0 /\ Er.Fe w' w'.heap.size (allF S).1 ((allF S).2.1 : Nat) [xmlB] ev)) := by
 obtain ⟨R, hR⟩ : ∃ R, allF S = R := ⟨_, rfl⟩;rw [hR];have hR' := Hd hR;have hBs' := Hd hBs;have hU' := Hd hU;have hl : S.length = n := hBs.len;subst hl;clear hR hBs hU
 go_enter Tryz.func61, Tryz.ntmps61
 go_wp2_with fail;refine (clone_any A S.length c S w hBs'.out (by omega)).mono ?_;rintro e w1 ⟨v, rfl, ho1, hb1⟩;obtain ⟨A2, c2, rfl⟩ := ownsRow_form ho1;have hbs1 : Bs w1 A2 S.length c2 S := OwB.bs ho1;have hbA := below_alloc w1 (.cells #[.slice A2 S.length c2, .int .i64 0, .slice none 0 0] 134);have hnA := heap_alloc_new w1 (.cells #[.slice A2 S.length c2, .int .i64 0, .slice none 0 0] 134)
 have hne : ∀ a, A2 = some a -> 0 < S.length -> a.block ≠ w1.heap.size := by
  intro a e h0;obtain ⟨b9, off, e9, hlt, _⟩ := Rd.cell hbs1 h0;rw [e] at e9;injection e9 with e9;rw [e9];exact Nat.ne_of_lt hlt
 have hs2 := Hd (show Xc (w1.alloc (.cells #[.slice A2 S.length c2, .int .i64 0, .slice none 0 0] 134)) w1.heap.size S 0 A2 c2 (.slice none 0 0) from
  ⟨⟨w, hU'.out, hb1.size, hb1.trans (hbA.mono hb1.size)⟩, hnA, Bs.below hbs1 hbA, hne⟩)
 have hb2 := Hd (hb1.trans (hbA.mono hb1.size));have hbw := Hd hb1.size;have hBs2 := Hd (Bs.below hBs'.out hb2.out);have hU2 := Hd (hU'.out.below hb2.out);clear ho1 hbs1 hbA hnA hne hb1
 go_upto_region 2 with fail
 generalize w1.alloc (.cells #[.slice A2 S.length c2, .int .i64 0, .slice none 0 0] 134) = w2 at hs2 hb2 hBs2 hU2 ⊢;generalize w1.heap.size = b at hs2 hbw ⊢;go_wp2_with fail;refine (utfBad_any A S.length c S (by omega) w2 hBs2.out hU2.out.ut).mono ?_;rintro e w3 ⟨rfl, hb3⟩;have hs3 := Hd (hs2.out.below hb3);have hb3' := Hd (hb2.out.trans (hb3.mono hb2.out.size));clear hb3 hs2 hb2 hBs2 hU2;obtain ⟨k, hk⟩ : ∃ k, badW S 0 = k := ⟨_, rfl⟩;rw [hk];have hk' := Hd hk;clear hk
 by_cases hlen : 65536 < S.length
 ·have i0 : decide ((65536 : Int) < (S.length : Int)) = true := by simp; omega
  have hlen' := Hd hlen;clear hlen;go_wp2_with fail;refine (Er.New_any 8 65536 (by decide) w3).mono ?_;rintro e wx ⟨v1, rfl, hbx, hf1⟩;have hf1' := Hd hf1;have hbx' := Hd (hb3'.out.trans (hbx.mono hb3'.out.size));obtain ⟨T1, ad1, rfl⟩ := hf1.iface;clear hf1 hbx;go_wp2_with fail;refine (Er.Wrap_any xmlB _ _ _ _ _ hf1'.out).mono ?_;rintro e wy ⟨v2, rfl, hby, hf2⟩;have hf2' := Hd hf2;have hby' := Hd (hbx'.out.trans (hby.mono hbx'.out.size));clear hf2 hby;go_wp2_with fail
  (try simp only [Exit.inBlock, Exit.then])
  go_ret2
  refine ⟨hby'.out, _, _, rfl, .inr ?_⟩;rw [<- hR'.out, all_long hlen'.out];exact ⟨by decide, rfl, hf2'.out⟩
 have i0 : decide ((65536 : Int) < (S.length : Int)) = false := by simp; omega
 have hlen' : Hid (S.length <= 65536) := Hd (by omega);clear hlen
 by_cases hk0 : 0 <= k
 ·have i1 : decide (0 <= k) = true := by simpa using hk0
  have hres := Hd (all_byte hlen'.out hk'.out hk0);have hkn : Hid (((k.toNat : Nat) : Int) = k) := Hd (by omega);clear hk0;go_wp2_with fail;refine (Er.New_any 1 k (by decide) w3).mono ?_;rintro e wx ⟨v1, rfl, hbx, hf1⟩;have hf1' := Hd hf1;have hbx' := Hd (hb3'.out.trans (hbx.mono hb3'.out.size));obtain ⟨T1, ad1, rfl⟩ := hf1.iface;clear hf1 hbx;go_wp2_with fail;refine (Er.Wrap_any xmlB _ _ _ _ _ hf1'.out).mono ?_;rintro e wy ⟨v2, rfl, hby, hf2⟩;have hf2' := Hd hf2;have hby' := Hd (hbx'.out.trans (hby.mono hbx'.out.size));clear hf2 hby;go_wp2_with fail
  (try simp only [Exit.inBlock, Exit.then])
  go_ret2
  refine ⟨hby'.out, _, _, rfl, .inr ?_⟩;rw [<- hR'.out, hres.out];refine ⟨by show (1 : Int) ≠ 0; decide, rfl, ?_⟩
  show Er.Fe _ _ 1 ((k.toNat : Nat) : Int) _ _
  rw [hkn.out];exact hf2'.out
 have i1 : decide (0 <= k) = false := by simpa using hk0
 have hres := Hd (all_scan hlen'.out (by rw [hk'.out]; omega));clear hk0;go_wp2_with fail;refine (scan_any w3 b S A2 c2 hs3.out hlen'.out).mono ?_;rintro e w4 ⟨rfl, hg4, hG⟩;have hb4 := Hd (hb3'.out.trans (below_row hg4 hbw.out hb3'.out.size))
 by_cases hc0 : (scanF S).1 = 0
 ·obtain ⟨va, q, hs4, ho4⟩ := hG hc0;have hs4' := Hd hs4;have ho4' := Hd (OwTk.low ho4 hb3'.out.size);have c2' := hs4.c2;have hc0' := Hd hc0;rw [hc0];clear hs4 ho4 hG hc0 hg4;go_wp2_with fail
  (try simp only [Exit.inBlock, Exit.then])
  go_ret2
  refine ⟨hb4.out, _, _, rfl, .inl ?_⟩;rw [<- hR'.out, hres.out];exact ⟨hc0'.out, rfl, ho4'.out⟩
 ·have i2 : ((scanF S).1 != 0) = true := by unfold bne; rw [beq_eq_false_iff_ne.2 hc0]; rfl
  have hcH := Hd hc0;obtain ⟨EC, hEC⟩ : ∃ EC, (scanF S).1 = EC := ⟨_, rfl⟩;obtain ⟨EO, hEO⟩ : ∃ EO, (scanF S).2.1 = EO := ⟨_, rfl⟩;rw [hEC] at i2 ⊢;rw [hEO];have hEC' := Hd hEC;have hEO' := Hd hEO;have i3 : (EC == 0) = false := by simpa using i2
  have hne : EC ≠ 0 := by simpa using i3
  have hneH := Hd hne;clear hG hc0 hg4 hEC hEO hne;go_wp2_with fail;refine (Er.New_any EC (EO : Nat) (hneH.out) w4).mono ?_;rintro e wx ⟨v1, rfl, hbx, hf1⟩;have hf1' := Hd hf1;have hbx' := Hd (hb4.out.trans (hbx.mono hb4.out.size));obtain ⟨T1, ad1, rfl⟩ := hf1.iface;clear hf1 hbx;go_wp2_with fail;refine (Er.Wrap_any xmlB _ _ _ _ _ hf1'.out).mono ?_;rintro e wy ⟨v2, rfl, hby, hf2⟩;have hf2' := Hd hf2;have hby' := Hd (hbx'.out.trans (hby.mono hbx'.out.size));clear hf2 hby;go_wp2_with fail
  (try simp only [Exit.inBlock, Exit.then])
  go_ret2
  refine ⟨hby'.out, _, _, rfl, .inr ?_⟩;rw [<- hR'.out, hres.out, hEC'.out, hEO'.out];exact ⟨hneH.out, rfl, hf2'.out⟩
end
end Go.Proofs.YtokdnhdfmgfkeaaGreatDoor.Xl
end

section
namespace Go.Proofs.YtokdnhdfmgfkeaaGreatDoor.Xl
open Go.RowKit UtfW Er
def AllP (S : Tx) (w : World) (e : Ending) (w' : World) : Prop := Below w.heap.size w w' /\ ∃ va ev, e = .returned (.tuple #[va, ev]) ∧
  (((allF S).1 = 0 /\ ev = .nilIface /\ OwTk w' w.heap.size va (allF S).2.2) \/ ((allF S).1 ≠ 0 /\ va = .slice none 0 0 /\ Er.Fe w' w'.heap.size (allF S).1 ((allF S).2.1 : Nat) [xmlB] ev))
theorem AllP.ok {S : Tx} {w w' : World} {e : Ending} {p : Nat} {ts : List Tok} (h : AllP S w e w') (hr : allF S = (0, p, ts)) : Below w.heap.size w w' /\ ∃ A c, e = .returned (.tuple #[.slice A ts.length c, .nilIface]) /\ OwTk w' w.heap.size (.slice A ts.length c) ts := by
 obtain ⟨h1, va, ev, rfl, h2⟩ := h;rw [hr] at h2;rcases h2 with ⟨_, rfl, h3⟩ | ⟨h3, _⟩
 ·obtain ⟨A, c, rfl⟩ := OwS.form h3;exact ⟨h1, A, c, rfl, h3⟩
 ·exact absurd rfl h3
theorem AllP.no {S : Tx} {w w' : World} {e : Ending} {cd : Int} {p : Nat} {ts : List Tok} (h : AllP S w e w') (hr : allF S = (cd, p, ts)) (hc : cd ≠ 0) : Below w.heap.size w w' /\ ∃ v, e = .returned (.tuple #[.slice none 0 0, v]) /\ Er.Fe w' w'.heap.size cd (p : Nat) [xmlB] v := by
 obtain ⟨h1, va, ev, rfl, h2⟩ := h;rw [hr] at h2;rcases h2 with ⟨h3, _⟩ | ⟨_, rfl, h4⟩
 ·exact absurd h3 hc
 ·exact ⟨h1, ev, rfl, h4⟩
theorem All_any (w : World) (hU : Un w) (A : Option Addr) (n c : Nat) (S : Tx) (hBs : Bs w A n c S) (hn : n <= 1000000) : Calls Tryz.prog 61 #[.slice A n c] w fun e w' => AllP S w e w' := all_any w hU A n c S hBs hn
theorem Fe.later {w w' : World} {code at_ : Int} {ws : List ByteArray} {e : Value} (h : Fe w w.heap.size code at_ ws e) (hb : Below w.heap.size w w') : Fe w' w'.heap.size code at_ ws e := (h.on hb).up hb.size
theorem tk_at {w : World} {B : Nat} {A : Option Addr} {n c : Nat} {ts : List Tok} (h : OwTk w B (.slice A n c) ts) {i : Nat} {t : Tok} (hi : ts[i]? = some t) : ∃ b off At ct, A = some ⟨b, off, none⟩ /\ i < n ∧
  w.cell? ⟨b, off + i * 5, none⟩ = some (.int .i64 (t.kind : Nat)) /\ w.cell? ⟨b, off + i * 5 + 1, none⟩ = some (.int .i64 (t.at_ : Nat)) /\ w.cell? ⟨b, off + i * 5 + 2, none⟩ = some (.string (strOf t.name)) ∧
  w.cell? ⟨b, off + i * 5 + 3, none⟩ = some (.string (strOf t.text)) /\ w.cell? ⟨b, off + i * 5 + 4, none⟩ = some (.slice At t.attrs.length ct) /\ OwS AtEl 2 w B 55 (.slice At t.attrs.length ct) t.attrs := by
 have hs := OwS.sq' h (by decide);have hlen := hs.len;have hlt := (List.getElem?_eq_some_iff.1 hi).1;obtain ⟨b, off, x, vs, e, _, hx, _, ⟨At, ct, rfl, ho⟩, hc⟩ := hs.at_ (i := i) (by omega);rw [hi] at hx;injection hx with hx;subst hx;exact ⟨b, off, At, ct, e, by omega, hc 0 _ rfl, hc 1 _ rfl, hc 2 _ rfl, hc 3 _ rfl, hc 4 _ rfl, ho⟩
end Go.Proofs.YtokdnhdfmgfkeaaGreatDoor.Xl
end

section
namespace Go.Proofs.YtokdnhdfmgfkeaaGreatDoor.Xl
open Go.RowKit UtfW Er
theorem add_str (w : World) (a b : Tx) (h : a.length + b.length <= 1000000) : (Op.stringOp .add (strOf a) (strOf b)).run Tryz.prog w = .ok (.string (strOf (a ++ b))) w := by
 rw [<- strOf_add];exact run_string_add_sum (P := Tryz.prog) w (strOf a) (strOf b) (by rw [strOf_size' a, strOf_size' b]; omega)
section
variable (w : World) (S : Tx) (single : Bool)
end
end Go.Proofs.YtokdnhdfmgfkeaaGreatDoor.Xl
end

section
namespace Go.Proofs.YtokdnhdfmgfkeaaGreatDoor.Xt
open Go.RowKit UtfW Xl
theorem below_drew_ (w : World) : Below w.heap.size w w.drew := Joins.below_draws w.heap.size w 1
section
variable {w w' : World} {b N : Nat} {P0 : Pp} {s : St} {ρ : Rol}
set_option maxHeartbeats 4000000 in
set_option maxRecDepth 100000 in
theorem chars_any {vs : List Value} {t : Tok} (h : BsA ρ P0 w b s) (ht : TkP P0 w vs t) (hx : s.text.length + t.text.length <= 1000000) (hn : s.nodes <= 1000000) :
  Calls Tryz.prog 99 #[.pointer (some ⟨b, 0, none⟩), .agg vs.toArray] w fun e w' => ∃ c, e = .returned (.int .i64 c) /\ Below P0 w w' /\ match charsT s t with
   | .error x => c = x /\ ∃ ρ', Kp ρ w ρ' w'
   | .ok s' => c = 0 /\ BsN ρ P0 w w' b s' := by
 obtain ⟨A, ca, rfl, _, _⟩ := ht;have hba := below_alloc w (.cells #[.int .i64 (t.kind : Nat), .int .i64 (t.at_ : Nat), .string (strOf t.name), .string (strOf t.text), .slice A t.attrs.length ca] 87);have hnb := heap_alloc_new w (.cells #[.int .i64 (t.kind : Nat), .int .i64 (t.at_ : Nat), .string (strOf t.name), .string (strOf t.text), .slice A t.attrs.length ca] 87);have hno := h.new;obtain ⟨T, hT⟩ : ∃ T, w.heap.size = T := ⟨_, rfl⟩;obtain ⟨w1, hw1⟩ : ∃ w1, w.alloc (.cells #[.int .i64 (t.kind : Nat), .int .i64 (t.at_ : Nat), .string (strOf t.name), .string (strOf t.text), .slice A t.attrs.length ca] 87) = w1 := ⟨_, rfl⟩;rw [hw1] at hba hnb;rw [hT] at hnb hno;have hB1 := TkB.mk hnb hno;have h1 := h.later hba;have hb1 := hba.mono h.p0;have hP1 := Hd h1.p0;have hnil : s.opn.length = 0 ↔ s.opn = [] := List.length_eq_zero_iff;obtain ⟨A3, c3, c7⟩ := h1.c7;obtain ⟨q, hq⟩ : ∃ q, charsT s t = q := ⟨_, rfl⟩;rw [hq];unfold charsT at hq;obtain ⟨S2, hS2⟩ : ∃ S, strOf t.text = S := ⟨_, rfl⟩;obtain ⟨kd, hkd⟩ : ∃ kd, t.kind = kd := ⟨_, rfl⟩;rw [hkd] at hq;have x0 : w1.cell? ⟨T, 0, none⟩ = some (.int .i64 (kd : Nat)) := by rw [<- hkd]; exact cell_blk hnb rfl
 have x3 : w1.cell? ⟨T, 3, none⟩ = some (.string S2) := by rw [<- hS2]; exact cell_blk hnb rfl
 clear hnb hno
 by_cases ho : s.opn = []
 ·rw [if_pos ho] at hq;rw [hnil.2 ho] at c7;have hfin := Hd (BsN.up h1.here hba);replace hb1 := Hd hb1;clear hnil ho h h1 hB1
  by_cases hk : kd = 5
  ·rw [if_pos (.inl hk)] at hq;subst hq;subst hk;have hkf := Hd (Kp.below (ρ := ρ) hba);clear x3 hba hkd hS2
   go_enter Tryz.func99, Tryz.ntmps99
   go_wp2_with fail;go_ret;exact ⟨_, rfl, hb1.out, rfl, _, hkf.out⟩
  ·have hk0 : ((kd : Int) == 5) = false := by simp; omega
   have htr := UtfW.trim_any t.text (by rw [strOf_size' t.text]; omega) w1;rw [hS2] at htr;obtain ⟨Z, hZ⟩ : ∃ Z, strOf (Ky.trim t.text) = Z := ⟨_, rfl⟩;rw [hZ] at htr
   by_cases hz : Ky.trim t.text = []
   ·rw [if_neg (fun e => e.elim hk (fun e => e hz))] at hq;subst hq;have e1 : Z.toList.isEmpty = true := by rw [<- hZ, strOf_empty, hz]; rfl
    replace htr := Hd htr;have hba' := Hd hba
    have hfin' : Hid (∀ z, Below w1.heap.size w1 z -> BsN ρ P0 w z b s) := Hd fun z hz => by
     obtain ⟨ρ', g1, g2⟩ := hfin.out;exact ⟨ρ', BsA.later g1 hz, g2.trans (Kp.below hz) hba'.out.size⟩
    clear hz hZ hk hkd hS2 hba hx
    go_enter Tryz.func99, Tryz.ntmps99
    go_wp2_with fail;refine htr.out.mono ?_;rintro e w2 ⟨rfl, hb2⟩;have hq1 := Hd (hfin'.out w2 hb2);have hq2 := Hd (hb1.out.trans (hb2.mono hP1.out));clear hb2;go_wp2_with fail;go_ret;exact ⟨_, rfl, hq2.out, rfl, hq1.out⟩
   ·rw [if_pos (.inr hz)] at hq;subst hq
    have e1 : Z.toList.isEmpty = false := by
     rw [<- hZ, strOf_empty]
     cases hy : Ky.trim t.text with
     | nil => exact absurd hy hz
     | cons c y => rfl
    replace htr := Hd htr;replace hba := Hd hba;clear hz hZ hk hkd hS2 hfin hx
    go_enter Tryz.func99, Tryz.ntmps99
    go_wp2_with fail;refine htr.out.mono ?_;rintro e w2 ⟨rfl, hb2⟩;have hq2 := Hd (hb1.out.trans (hb2.mono hP1.out));have hkf := Hd ((Kp.below (ρ := ρ) hba.out).trans (Kp.below hb2) hba.out.size);clear hb2;go_wp2_with fail;go_ret;exact ⟨_, rfl, hq2.out, rfl, _, hkf.out⟩
 ·rw [if_neg ho] at hq;obtain ⟨no, hno⟩ : ∃ no, s.opn.length = no := ⟨_, rfl⟩;rw [hno] at c7
  have hn0 : ((no : Int) == 0) = false := by
   have : no ≠ 0 := fun e => ho (hnil.1 (hno.trans e))
   simp;omega
  have c8 := h1.c8;obtain ⟨S1, hS1⟩ : ∃ S, strOf s.text = S := ⟨_, rfl⟩;rw [hS1] at c8;obtain ⟨S3, hS3⟩ : ∃ S, strOf (s.text ++ t.text) = S := ⟨_, rfl⟩
  have hadd : ∀ x, (Op.stringOp .add S1 S2).run Tryz.prog x = .ok (.string S3) x := fun x => by
   rw [<- hS1, <- hS2, <- hS3];exact add_str x _ _ hx
  have hset : Hid (∀ (ρ' : Rol) (z : World) (s' : St), BsA ρ' P0 z b s' -> s'.text = s.text -> BsA ρ' P0 (z.setCell ⟨b, 8, none⟩ (.string S3)) b { s' with text := s'.text ++ t.text }) := Hd fun ρ' z s' hz ht => by
   rw [<- hS3, <- ht];exact BsA.set8 hz (s'.text ++ t.text)
  clear hnil ho hno
  by_cases hs : s.text = []
  ·by_cases htt : t.text = []
   ·rw [if_neg (fun e => e.2 htt)] at hq;subst hq;have e1 : S1.toList.isEmpty = true := by rw [<- hS1, strOf_empty, hs]; rfl
    have e2 : S2.toList.isEmpty = true := by rw [<- hS2, strOf_empty, htt]; rfl
    clear hs htt;have f8 := h1.frozen 8;have hd := below_drew_ w1;have g1 := hset.out _ _ _ (BsA.later h1 hd) rfl;have g2 := BsA.kp_set (BsA.later h1 hd) 8 (.string S3);have hfin := Hd g1;have hkf := Hd (((Kp.below (ρ := ρ) hba).trans (Kp.below hd) hba.size).trans g2.2 (Nat.le_trans hba.size hd.size));have hbf := Hd ((hb1.trans (hd.mono h1.p0)).trans g2.1);clear g1 g2 hd h h1 hB1 hb1 hba hset hx hn hkd hS1 hS2 hS3
    go_enter Tryz.func99, Tryz.ntmps99
    go_wp2_with fail;refine Pl.wp_region_plan 6 (.take 0 (.take 1 (.take 2 (.take 3 (.take 4 (.take 5 .done)))))) (fun x => x.cell? ⟨b, 8, none⟩ = some (.string S1) /\ x.cell? ⟨T, 3, none⟩ = some (.string S2)) (by kernel_rfl) (by kernel_rfl) (by exact ⟨c8, x3⟩) ?_;simp only [Pl.fill, Al_4, Al_5, Al_6, Al_7]
    iterate 6
     refine Pl.take_go ?_ (by rfl) (fun _ _ _ h => h) ?_ ?_
     rotate_left
     ·(intro x hSw; (try dsimp only at hSw); go_simp; try with_reducible rfl)
     try simp only [Act.put, Al_1, Al_2, Al_3]
    refine Pl.done_go ?_;go_wp2_with fail;go_ret;exact ⟨_, rfl, hbf.out, rfl, _, hfin.out, hkf.out⟩
   ·rw [if_pos ⟨hs, htt⟩] at hq;have e1 : S1.toList.isEmpty = true := by rw [<- hS1, strOf_empty, hs]; rfl
    have e2 : S2.toList.isEmpty = false := by
     rw [<- hS2, strOf_empty]
     cases hy : t.text with
     | nil => exact absurd hy htt
     | cons c y => rfl
    have hc := count_any h1 1 hn (by omega)
    by_cases hm : 4096 < s.nodes + 1
    ·rw [if_pos hm] at hq;subst hq;have hd : decide (s.nodes + 1 <= 4096) = false := by simp; omega
     rw [hd] at hc;replace hc := Hd hc;replace hb1 := Hd hb1;replace hba := Hd hba;clear hd hm hs htt h h1 hB1 hset hx hn hkd hS1 hS2 hS3 hadd
     go_enter Tryz.func99, Tryz.ntmps99
     go_wp2_with fail;refine hc.out.mono ?_;rintro e w2 ⟨rfl, hb2, ρ2, _, hk2⟩;have hkf := Hd ((Kp.below (ρ := ρ) hba.out).trans hk2 hba.out.size);replace hb2 := Hd (hb1.out.trans hb2);clear hk2;go_wp2_with fail;go_ret;exact ⟨_, rfl, hb2.out, rfl, _, hkf.out⟩
    ·rw [if_neg hm] at hq;subst hq;have hd : decide (s.nodes + 1 <= 4096) = true := by simp; omega
     rw [hd] at hc;replace hc := Hd hc;replace hb1 := Hd hb1;replace hba := Hd hba;replace hB1 := Hd hB1;clear hd hm hs htt h h1 hx hn hkd hS3;replace hS1 := Hd hS1;replace hS2 := Hd hS2
     go_enter Tryz.func99, Tryz.ntmps99
     go_wp2_with fail;refine hc.out.mono ?_;rintro e w2 ⟨rfl, hb2, ρ2, h2, hk2⟩;have hB2 := hB1.out.kp hk2;have c8' := BsA.c8 h2;have c8 : w2.cell? ⟨b, 8, none⟩ = some (.string S1) := by rw [<- hS1.out]; exact c8'
     have x3 : w2.cell? ⟨T, 3, none⟩ = some (.string S2) := by rw [<- hS2.out]; exact cell_blk hB2.blk rfl
     have f8 := BsA.frozen h2 8;have hd := below_drew_ w2;have g1 := hset.out _ _ _ (BsA.later h2 hd) rfl;have g2 := BsA.kp_set (BsA.later h2 hd) 8 (.string S3);have hfin := Hd g1;have hkf := Hd ((((Kp.below (ρ := ρ) hba.out).trans hk2 hba.out.size).trans (Kp.below hd) (Nat.le_trans hba.out.size hb2.size)).trans g2.2 (Nat.le_trans (Nat.le_trans hba.out.size hb2.size) hd.size));have hbf := Hd (((hb1.out.trans hb2).trans (hd.mono (BsA.p0 h2))).trans g2.1);clear g1 g2 hd h2 hk2 hb2 hB2 c8' hS1 hS2 hc;go_wp2_with fail;refine Pl.wp_region_plan 6 (.take 0 (.take 1 (.take 2 (.take 3 (.take 4 (.take 5 .done)))))) (fun x => x.cell? ⟨b, 8, none⟩ = some (.string S1) /\ x.cell? ⟨T, 3, none⟩ = some (.string S2)) (by kernel_rfl) (by kernel_rfl) (by exact ⟨c8, x3⟩) ?_;simp only [Pl.fill, Al_4, Al_5, Al_6, Al_7]
     iterate 6
      refine Pl.take_go ?_ (by rfl) (fun _ _ _ h => h) ?_ ?_
      rotate_left
      ·(intro x hSw; (try dsimp only at hSw); go_simp; try with_reducible rfl)
      try simp only [Act.put, Al_1, Al_2, Al_3]
     refine Pl.done_go ?_;go_wp2_with fail;go_ret;exact ⟨_, rfl, hbf.out, rfl, _, hfin.out, hkf.out⟩
  ·rw [if_neg (fun e => hs e.1)] at hq;subst hq
   have e1 : S1.toList.isEmpty = false := by
    rw [<- hS1, strOf_empty]
    cases hy : s.text with
    | nil => exact absurd hy hs
    | cons c y => rfl
   clear hs;have f8 := h1.frozen 8;have hd := below_drew_ w1;have g1 := hset.out _ _ _ (BsA.later h1 hd) rfl;have g2 := BsA.kp_set (BsA.later h1 hd) 8 (.string S3);have hfin := Hd g1;have hkf := Hd (((Kp.below (ρ := ρ) hba).trans (Kp.below hd) hba.size).trans g2.2 (Nat.le_trans hba.size hd.size));have hbf := Hd ((hb1.trans (hd.mono h1.p0)).trans g2.1);clear g1 g2 hd h h1 hB1 hb1 hba hset hx hn hkd hS1 hS2 hS3
   go_enter Tryz.func99, Tryz.ntmps99
   go_wp2_with fail;refine Pl.wp_region_plan 6 (.take 0 (.take 1 (.take 2 (.take 3 (.take 4 (.take 5 .done)))))) (fun x => x.cell? ⟨b, 8, none⟩ = some (.string S1) /\ x.cell? ⟨T, 3, none⟩ = some (.string S2)) (by kernel_rfl) (by kernel_rfl) (by exact ⟨c8, x3⟩) ?_;simp only [Pl.fill, Al_4, Al_5, Al_6, Al_7]
   iterate 6
    refine Pl.take_go ?_ (by rfl) (fun _ _ _ h => h) ?_ ?_
    rotate_left
    ·(intro x hSw; (try dsimp only at hSw); go_simp; try with_reducible rfl)
    try simp only [Act.put, Al_1, Al_2, Al_3]
   refine Pl.done_go ?_;go_wp2_with fail;go_ret;exact ⟨_, rfl, hbf.out, rfl, _, hfin.out, hkf.out⟩
end
end Go.Proofs.YtokdnhdfmgfkeaaGreatDoor.Xt
end

section
namespace Go.Proofs.YtokdnhdfmgfkeaaGreatDoor.Xt
open Go.RowKit UtfW Xl
section
variable {E PT BT : TypeId} {ρ ρ' : Rol} {P0 : Pp} {w w' : World} {b : Nat} {s : St}
theorem Kp.grow {v v' : Value} {r : Ro} (hr : r ≠ .no) (hT : Turns ρ (upd ρ v' r) P0 r w w') (hv : ∀ k, v.ownBlock = some k -> ρ k = r) (hat : v'.ownBlock = v.ownBlock \/ v'.ownBlock = some w.heap.size) : Kp ρ w (upd ρ v' r) w' := fun k hk h0 =>
 ⟨hT.same k hk (.inl (by rw [h0]; exact hr.symm)), by
  unfold upd;rw [if_neg]
  ·exact h0
  ·intro e;rcases hat with h | h
   ·have := hv k (h ▸ e);rw [h0] at this;exact hr this.symm
   ·rw [h] at e;injection e with e
    omega⟩
theorem Kp.fresh (o : Obj) (r : Ro) : Kp ρ w (Xt.fresh ρ w.heap.size r) (w.alloc o) := fun k hk h0 =>
  ⟨(below_alloc w o).block k hk, by
    unfold Xt.fresh;rw [if_neg (by omega)]
    exact h0⟩
def ndB (E : TypeId) (nm : Tx) (Aa : Option Addr) (n ca : Nat) : Obj := .cells #[.int .i64 1, .string (strOf nm), .string ⟨#[]⟩, .slice Aa n ca, .slice none 0 0] E
theorem push_open (h : BsP E PT BT ρ P0 w b s) {nm : Tx} {as_ : List At} {Aa : Option Addr} {ca : Nat} (hA : Sq AtEl 2 w Aa as_.length ca as_) (hAP : ∀ a, Aa = some a -> 0 < as_.length -> (P0.lo <= a.block /\ a.block < P0.hi)) :
  ∃ A3 c3 xs, (∃ C, w.heap[b]? = some (.cells C BT) /\ C[7]? = some (.slice A3 s.opn.length c3)) /\ (∀ w5, Below w.heap.size w w5 -> w5.ownsRow P0 PT 1 (.slice A3 s.opn.length c3) s.opn.length xs) /\ (∀ j, (Value.slice A3 s.opn.length c3).ownBlock = some j -> j ≠ b /\ j < w.heap.size /\ P0 <= j) ∧
   ∀ w5, Below (w.alloc (ndB E nm Aa as_.length ca)).heap.size (w.alloc (ndB E nm Aa as_.length ca)) w5 -> ∀ A' c' w6, w6.ownsRow P0 PT 1 (.slice A' (s.opn.length + 1) c') (s.opn.length + 1) (xs ++ [.pointer (some ⟨w.heap.size, 0, none⟩)]) →
    w5.grownBy w6 (Value.slice A3 s.opn.length c3).ownBlock -> ((Value.slice A' (s.opn.length + 1) c').ownBlock = (Value.slice A3 s.opn.length c3).ownBlock \/ (Value.slice A' (s.opn.length + 1) c').ownBlock = some w5.heap.size) →
    BsW E PT BT ρ P0 w (w6.setCell ⟨b, 7, none⟩ (.slice A' (s.opn.length + 1) c')) b { s with opn := ⟨nm, as_, []⟩ :: s.opn } /\ Below P0 w (w6.setCell ⟨b, 7, none⟩ (.slice A' (s.opn.length + 1) c')) := by
 obtain ⟨v1, v2, v3, vr, nb, hR, r0, r1, r2, r3, r4, rfl, hB⟩ := h;obtain ⟨p1, p2⟩ := hR.opn id;obtain ⟨A3, c3, rfl⟩ := ownsRow_form p1;have hl := hR.len;rw [<- hl];have hltb := (Array.getElem?_eq_some_iff.1 hB).1;have hPb := (hR.dom b (by rw [hR.rb]; exact fun e => by cases e)).1;refine ⟨A3, c3, nb.map fun k => Value.pointer (some ⟨k, 0, none⟩), ⟨_, hB, rfl⟩, fun w5 hb => ownsRow_stay p1 (fun j hj => hb.block j (World.ownsRow.lt p1 j hj).2), fun j hj => ⟨fun e => ?_, (World.ownsRow.lt p1 j hj).2, (World.ownsRow.lt p1 j hj).1⟩, fun w5 hb5 A' c' w6 ho hg hat => ?_⟩
 ·have := p2 j hj;rw [e, hR.rb] at this
  cases this
 ·have hT1 := Turns.fresh hR.dom hR.p0 (ndB E nm Aa as_.length ca) (.nod s.opn.length) .no;have hR1 := hR.turn hT1 (fun e => by cases e) (.inr (.inr rfl));have hK1 := Kp.fresh (ρ := ρ) (w := w) (ndB E nm Aa as_.length ca) (.nod s.opn.length)
  have hF1 : FrM E (fresh ρ w.heap.size (.nod s.opn.length)) P0 (w.alloc (ndB E nm Aa as_.length ca)) s.opn.length w.heap.size ⟨nm, as_, []⟩ :=
   ⟨⟨Aa, ca, .slice none 0 0, heap_alloc_new w _, Sq.stay hA (fun a e hn => (below_alloc w _).block _ (Nat.lt_of_lt_of_le (hAP a e hn).2 hR.p0)) (fun _ _ h => h), hAP, ⟨OwS.nil _ _ _, fun k hk => by cases hk⟩⟩, by unfold fresh; rw [if_pos rfl]⟩
  have hT2 := Turns.below hR1.dom hb5 .no;have hR2 := hR1.turn hT2 (fun e => by cases e) (.inr (.inr rfl));have hF2 := hF1.turn hR1.dom hR1.p0 hT2 (fun e => by cases e) (fun e => by cases e) (fun e => by cases e);have hK2 := hK1.trans (Kp.below hb5) hT1.size;have p3 := (hR2.opn id).2;have hT3 := Turns.grow hR2.dom hR2.p0 (v' := .slice A' (nb.length + 1) c') (r := .opn) (fun e => by cases e) hg p3 hat (fun k hk => (World.ownsRow.lt ho k hk).2);have hR3 := (hR2.weak (H' := fun r => r = .opn) (fun _ h => h.elim)).turn hT3 (fun e => by cases e) (.inl rfl);have hF3 := hF2.turn hR2.dom hR2.p0 hT3 (fun e => by cases e) (fun e => by cases e) (fun e => by cases e);have hK3 := hK2.trans (Kp.grow (fun e => by cases e) hT3 p3 hat) (Nat.le_trans hT1.size hT2.size);have hT4 := Turns.on hR3.dom hR3.rb (fun e => by cases e) (grown_set w6 ⟨b, 7, none⟩ (.slice A' (nb.length + 1) c'));have hR4 := hR3.turn hT4 (fun e => by cases e) (.inr (.inl rfl));have hF4 := hF3.turn hR3.dom hR3.p0 hT4 (fun e => by cases e) (fun e => by cases e) (fun e => by cases e);have hK4 := hK3.trans (Kp.on hT4 (fun e => by cases e)) (Nat.le_trans (Nat.le_trans hT1.size hT2.size) hT3.size);have hrl : ∀ k, (Value.slice A' (nb.length + 1) c').ownBlock = some k -> upd (fresh ρ w.heap.size (.nod s.opn.length)) (.slice A' (nb.length + 1) c') .opn k = .opn := fun k hk => by unfold upd; rw [if_pos hk]
  have hlen : (nb ++ [w.heap.size]).length = nb.length + 1 := by simp
  have ho4 : (w6.setCell ⟨b, 7, none⟩ (.slice A' (nb.length + 1) c')).ownsRow P0 PT 1 (.slice A' (nb.length + 1) c') (nb ++ [w.heap.size]).length ((nb ++ [w.heap.size]).map fun k => Value.pointer (some ⟨k, 0, none⟩)) := by
   rw [hlen, List.map_append];exact ownsRow_stay ho (fun j hj => hT4.same j (World.ownsRow.lt ho j hj).2 (.inl (by rw [hrl j hj]; exact fun e => by cases e)))
  have hb1 := (hT1.same b hltb (.inl (by rw [hR.rb]; exact fun e => by cases e))).trans hB;have hb2 := (hT2.same b (Array.getElem?_eq_some_iff.1 hb1).1 (.inl (by rw [hR1.rb]; exact fun e => by cases e))).trans hb1;have hb3 := (hT3.same b (Array.getElem?_eq_some_iff.1 hb2).1 (.inl (by rw [hR2.rb]; exact fun e => by cases e))).trans hb2;have hfin := hR4.fillOpn ho4 hrl hF4;refine ⟨⟨_, ⟨v1, v2, _, _, nb ++ [w.heap.size], hfin, r0, r1, r2, r3, r4, rfl, ?_⟩, hK4⟩, ?_⟩
  ·exact blk_setCell hb3 (i := 7) _
  ·have hba : Below P0 w (w.alloc (ndB E nm Aa as_.length ca)) := (below_alloc w _).mono hR.p0;have hbb := hba.trans (hb5.mono hR1.p0);have hbc := hbb.grown hg hR2.p0 (fun k hk => (World.ownsRow.lt p1 k hk).1);exact hbc.grown (grown_set w6 ⟨b, 7, none⟩ _) hR3.p0 (fun k hk => by injection hk with hk; have : b = k := hk; omega)
end
end Go.Proofs.YtokdnhdfmgfkeaaGreatDoor.Xt
end

section
namespace Go.Proofs.YtokdnhdfmgfkeaaGreatDoor.Xt
open Go.RowKit UtfW Xl
theorem info_pnode : (Tryz.prog.info? 136).map (fun i => (i.zero, i.size, i.bytes)) = some (some (.pointer none), 1, 8) := by kernel_rfl
theorem rd_one_ (w : World) (v : Value) (E : TypeId) (fr : Nat × Nat) : Rd (w.alloc (.cells #[v] E fr)) (some ⟨w.heap.size, 0, none⟩) 1 1 [v] := by
 refine ⟨rfl, by omega, by omega, fun h => by simp at h, fun _ => ⟨_, _, rfl, by simp, fun j z hz => ?_⟩⟩;have hh : (w.alloc (.cells #[v] E fr)).heap[w.heap.size]? = some (.cells #[v] E fr) := heap_alloc_new w _;simp only [World.cell?, hh, Nat.zero_add]
 cases j with
 | zero => simpa using hz
 | succ j => simp at hz
section
variable {w w' : World} {b N : Nat} {P0 : Pp} {s : St} {ρ : Rol}
set_option maxHeartbeats 4000000 in
set_option maxRecDepth 100000 in
theorem start_any {vs : List Value} {t : Tok} (h : BsA ρ P0 w b s) (ht : TkP P0 w vs t) (hs : Sm s N) (hN : N + 1 <= 1000000) (hn : s.nodes <= 100000) (ha : t.attrs.length <= 400000) :
  Calls Tryz.prog 96 #[.pointer (some ⟨b, 0, none⟩), .agg vs.toArray] w fun e w' => ∃ c, e = .returned (.int .i64 c) /\ Below P0 w w' /\ match startT s t with
   | .error x => c = x /\ ∃ ρ', Kp ρ w ρ' w'
   | .ok s' => c = 0 /\ BsN ρ P0 w w' b s' := by
 have htB := fun z hz => TkP.below (w' := z) ht hz
 obtain ⟨A, ca, rfl, hSq, hAP⟩ := ht;have hba := below_alloc w (.cells #[.int .i64 (t.kind : Nat), .int .i64 (t.at_ : Nat), .string (strOf t.name), .string (strOf t.text), .slice A t.attrs.length ca] 87);have hnb := heap_alloc_new w (.cells #[.int .i64 (t.kind : Nat), .int .i64 (t.at_ : Nat), .string (strOf t.name), .string (strOf t.text), .slice A t.attrs.length ca] 87);have hno := h.new;obtain ⟨T, hT⟩ : ∃ T, w.heap.size = T := ⟨_, rfl⟩;obtain ⟨w1, hw1⟩ : ∃ w1, w.alloc (.cells #[.int .i64 (t.kind : Nat), .int .i64 (t.at_ : Nat), .string (strOf t.name), .string (strOf t.text), .slice A t.attrs.length ca] 87) = w1 := ⟨_, rfl⟩;rw [hw1] at hba hnb;rw [hT] at hnb hno;have hB1 := TkB.mk hnb hno;have h1 := h.later hba;have hb1 := hba.mono h.p0;obtain ⟨A3, c3, c7⟩ := h1.c7;obtain ⟨q, hq⟩ : ∃ q, startT s t = q := ⟨_, rfl⟩;rw [hq];unfold startT at hq;obtain ⟨no, hno2⟩ : ∃ no, s.opn.length = no := ⟨_, rfl⟩;rw [hno2] at c7 hq;obtain ⟨la, hla⟩ : ∃ la, t.attrs.length = la := ⟨_, rfl⟩;have x4 : w1.cell? ⟨T, 4, none⟩ = some (.slice A la ca) := by rw [<- hla]; exact cell_blk hnb rfl
 clear hnb hno
 by_cases h32 : 32 <= no
 ·rw [if_pos h32] at hq;subst hq;have d1 : decide ((no : Int) ≥ 32) = true := by simp; omega
  have d2 : decide ((32 : Int) <= (no : Int)) = true := by simp; omega
  have d3 : decide (32 <= no) = true := by simp; omega
  replace hb1 := Hd hb1;have hkf := Hd (Kp.below (ρ := ρ) hba);clear h32 hba h h1 hB1 hSq hAP hla hno2 htB
  go_enter Tryz.func96, Tryz.ntmps96
  go_wp2_with fail;go_ret;exact ⟨_, rfl, hb1.out, rfl, _, hkf.out⟩
 ·rw [if_neg h32] at hq;have d1 : decide ((no : Int) ≥ 32) = false := by simp; omega
  have d2 : decide ((32 : Int) <= (no : Int)) = false := by simp; omega
  have d3 : decide (32 <= no) = false := by simp; omega
  have hc := count_any h1 (1 + t.attrs.length) (by omega) (by omega);rw [hla] at hc hq ha;have e1 : (((1 + la : Nat)) : Int) = 1 + (la : Int) := by omega
  rw [e1] at hc;clear e1
  by_cases hm : 4096 < s.nodes + (1 + la)
  ·rw [if_pos hm] at hq;subst hq;have hd : decide (s.nodes + (1 + la) <= 4096) = false := by simp; omega
   rw [hd] at hc;replace hc := Hd hc;replace hb1 := Hd hb1;replace hba := Hd hba;clear hd hm h32 h h1 hB1 hSq hAP hla hno2 htB
   go_enter Tryz.func96, Tryz.ntmps96
   go_wp2_with fail;refine hc.out.mono ?_;rintro e w2 ⟨rfl, hb2, ρ2, _, hk2⟩;have hkf := Hd ((Kp.below (ρ := ρ) hba.out).trans hk2 hba.out.size);replace hb2 := Hd (hb1.out.trans hb2);clear hk2;go_wp2_with fail;go_ret;exact ⟨_, rfl, hb2.out, rfl, _, hkf.out⟩
  ·rw [if_neg hm] at hq;have hd : decide (s.nodes + (1 + la) <= 4096) = true := by simp; omega
   rw [hd] at hc;replace hc := Hd hc;replace hb1 := Hd hb1;replace hba := Hd hba;replace hB1 := Hd hB1;have hs2 : Sm { s with nodes := s.nodes + (1 + la) } N := ⟨hs.bef, hs.aft, hs.kid⟩;replace hla := Hd hla;have hno0 : no = 0 ↔ s.opn = [] := by rw [<- hno2]; exact List.length_eq_zero_iff
   clear hd h h1 hm;replace htB := Hd htB;replace hs := Hd hs
   by_cases hbf : s.opn = [] /\ s.has = true
   ·rw [if_pos hbf] at hq;subst hq;have hz := hno0.2 hbf.1;subst hz;clear hno0 d1 d2 d3;have d1 : decide ((((0 : Nat) : Int)) ≥ 32) = false := by decide
    go_enter Tryz.func96, Tryz.ntmps96
    go_wp2_with fail;refine hc.out.mono ?_;rintro e w2 ⟨rfl, hb2, ρ2, h2, hk2⟩;obtain ⟨A4, c4, c7'⟩ := BsA.c7 h2;have c10 := BsA.c10 h2;rw [show ({ s with nodes := s.nodes + (1 + la) } : St).opn.length = 0 from hno2] at c7';rw [show ({ s with nodes := s.nodes + (1 + la) } : St).has = true from hbf.2] at c10;have hkf := Hd ((Kp.below (ρ := ρ) hba.out).trans hk2 hba.out.size);replace hb2 := Hd (hb1.out.trans hb2);clear h2 hk2 hbf;go_wp2_with fail;go_ret;exact ⟨_, rfl, hb2.out, rfl, _, hkf.out⟩
   ·rw [if_neg hbf] at hq
    by_cases hz : no = 0
    ·have hhas : s.has = false := Classical.byContradiction fun e => hbf ⟨hno0.1 hz, by cases hx : s.has with | true => rfl | false => exact absurd hx e⟩
     subst hz;clear d1 d2 d3 hno0 h32;replace hno2 := Hd hno2;replace hhas := Hd hhas;replace hbf := Hd hbf;have d1 : decide ((((0 : Nat) : Int)) ≥ 32) = false := by decide
     go_enter Tryz.func96, Tryz.ntmps96
     go_wp2_with fail;refine hc.out.mono ?_;rintro e w2 ⟨rfl, hb2, ρ2, h2, hk2⟩;obtain ⟨A4, c4, c7'⟩ := BsA.c7 h2;have c10 := BsA.c10 h2;rw [show ({ s with nodes := s.nodes + (1 + la) } : St).has = false from hhas.out] at c10;rw [show ({ s with nodes := s.nodes + (1 + la) } : St).opn.length = 0 from hno2.out] at c7';have hB2 := Hd (hB1.out.kp hk2);have hf := Hd (flush_any h2 hs2 (by omega));obtain ⟨s2, hs2e⟩ : ∃ s2, flush { s with nodes := s.nodes + (1 + la) } = s2 := ⟨_, rfl⟩;have hnm := flush_opn { s with nodes := s.nodes + (1 + la) };rw [hs2e] at hf hnm hq
     have hn3 : s2.opn.length = 0 := by
      have := congrArg List.length hnm;rw [List.length_map, List.length_map] at this;exact this.trans hno2.out
     replace hk2 := Hd hk2;replace hb2 := Hd hb2;replace hq := Hd hq;replace hn3 := Hd hn3;clear h2 hnm hs2e hc;go_wp2_with fail;refine hf.out.mono ?_;rintro e w3 ⟨⟨v, rfl⟩, hb3, ρ3, h3, hk3⟩;have hB3 := hB2.out.kp hk3;have hb23 := hb1.out.trans (hb2.out.trans hb3);have hk23 := Hd (((Kp.below (ρ := ρ) hba.out).trans hk2.out hba.out.size).trans hk3 (Nat.le_trans hba.out.size hb2.out.size));obtain ⟨A9, c9, hv9, hSq3, -⟩ := htB.out w3 hb23;injection hv9 with _ hv9;injection hv9 with _ hv9;injection hv9 with _ hv9;injection hv9 with _ hv9;injection hv9 with hv9 _;injection hv9 with hv9 _ hv9c;subst hv9;subst hv9c;obtain ⟨A5, c5, xs, ⟨C, g1, g2⟩, hown, hne, hpush⟩ := push_open (nm := t.name) h3 hSq3 hAP;rw [hn3.out] at g2 hown hne hpush;have x2 : w3.cell? ⟨T, 2, none⟩ = some (.string (strOf t.name)) := cell_blk hB3.blk rfl;have x4' : w3.cell? ⟨T, 4, none⟩ = some (.slice A la ca) := by rw [<- hla.out]; exact cell_blk hB3.blk rfl
     have hbl := below_alloc w3 (ndB 25 t.name A t.attrs.length ca);rw [hla.out] at hbl hpush;have c73 := cell_blk (hbl.block b (Array.getElem?_eq_some_iff.1 g1).1 |>.trans g1) g2;have f7 := frozen_of_row _ b 7 _ _ ((hbl.block b (Array.getElem?_eq_some_iff.1 g1).1).trans g1);obtain ⟨K, hK⟩ : ∃ K, w3.heap.size = K := ⟨_, rfl⟩;have hP3 : P0 <= w3.heap.size := BsA.p0 h3;obtain ⟨w4, hw4⟩ : ∃ w4, w3.alloc (ndB 25 t.name A la ca) = w4 := ⟨_, rfl⟩;rw [hw4] at hbl hpush c73 f7;have hb4 := below_alloc w4 (.cells #[.pointer (some ⟨K, 0, none⟩)] 136);have hown5 := hown _ (hbl.trans (hb4.mono hbl.size));have hpush5 := hpush _ hb4;have hP5 : P0 <= (w4.alloc (.cells #[.pointer (some ⟨K, 0, none⟩)] 136)).heap.size := Nat.le_trans hP3 (Nat.le_trans hbl.size hb4.size);rw [hK] at hpush5;have hbB4 := (hbl.block b (Array.getElem?_eq_some_iff.1 g1).1).trans g1;have hbB5 := (hb4.block b (Array.getElem?_eq_some_iff.1 hbB4).1).trans hbB4;have hPb : P0 <= b := (BsA.lt h3).1;replace hpush5 := Hd hpush5;replace hown5 := Hd hown5;replace hb23 := Hd hb23;have hsz3 := Hd hb3.size;replace hne := Hd hne;replace g1 := Hd g1;replace g2 := Hd g2;clear hpush hown h3 hSq3 hf hB3 hb3 hk3;unfold ndB at hw4
     go_wp2_with (at_builtin; apply stop_here)
     refine Stop.go (wpList_append_rd _ rfl _ _ 83 rfl P0 136 (.pointer none) 8 Tryz.underlying83 info_pnode rfl (.slice A5 0 c5) 0 xs rfl hown5.out _ 1 1 [.pointer (some ⟨K, 0, none⟩)] rfl (rd_one_ w4 _ _ _) (fun u hu => by rw [List.mem_singleton.1 hu]; rfl) (by omega) (by omega) hP5 ?_);intro A6 c6 w6 ho6 hg6 hb6 hv6;obtain ⟨q1, q2⟩ := hpush5.out A6 c6 w6 ho6 hg6 hv6;have hbb6 := hg6.block b (Array.getElem?_eq_some_iff.1 hbB5).1 (fun e => (hne.out b e.symm).1 rfl) |>.trans hbB5
     have c76 : w6.cell? ⟨b, 7, none⟩ = some _ := cell_blk hbb6 g2.out;have f76 := frozen_of_row w6 b 7 _ _ hbb6;have hfin := Hd (BsN.then_ hk23.out (Nat.le_trans hba.out.size (Nat.le_trans hb2.out.size hsz3.out)) q1);have hbfin := Hd (hb23.out.trans q2);replace hq := hq.out;have hE : s2.opn = [] := List.eq_nil_of_length_eq_zero hn3.out;rw [hE] at hq
     have hq' : Except.ok { s2 with opn := [⟨t.name, t.attrs, []⟩], has := true } = q := by
      rw [<- hq];simp
     rw [hE] at hfin;obtain ⟨ρ7, h7, hk7⟩ := hfin.out;have f10 := BsA.frozen h7 10;have c107 := BsA.c10 h7;have h8 := Hd (BsA.set10 h7 true);have hk8 := BsA.kp_set h7 10 (.bool true);have hfb := Hd (hbfin.out.trans hk8.1);have hfk := Hd (hk7.trans hk8.2 hbfin.out.size);subst hq';clear hq h7 hk7 hk8 hfin hpush5 q1 q2 hg6 hb6 hv6 ho6 hE hbB5 hb4 hbl;go_wp2_with fail;go_ret;exact ⟨_, rfl, hfb.out, rfl, _, h8.out, hfk.out⟩
    ·have hz1 : ((no : Int) == 0) = false := by simp; omega
     go_enter Tryz.func96, Tryz.ntmps96
     go_wp2_with fail;refine hc.out.mono ?_;rintro e w2 ⟨rfl, hb2, ρ2, h2, hk2⟩;obtain ⟨A4, c4, c7'⟩ := BsA.c7 h2;rw [show ({ s with nodes := s.nodes + (1 + la) } : St).opn.length = no from hno2] at c7';have hB2 := Hd (hB1.out.kp hk2);have hf := Hd (flush_any h2 hs2 (by omega));obtain ⟨s2, hs2e⟩ : ∃ s2, flush { s with nodes := s.nodes + (1 + la) } = s2 := ⟨_, rfl⟩;have hnm := flush_opn { s with nodes := s.nodes + (1 + la) };rw [hs2e] at hf hnm hq
     have hn3 : s2.opn.length = no := by
      have := congrArg List.length hnm;rw [List.length_map, List.length_map] at this;exact this.trans hno2
     replace hk2 := Hd hk2;replace hb2 := Hd hb2;replace hq := Hd hq;replace hn3 := Hd hn3;clear h2 hnm hs2e hc;go_wp2_with fail;refine hf.out.mono ?_;rintro e w3 ⟨⟨v, rfl⟩, hb3, ρ3, h3, hk3⟩;have hB3 := hB2.out.kp hk3;have hb23 := hb1.out.trans (hb2.out.trans hb3);have hk23 := Hd (((Kp.below (ρ := ρ) hba.out).trans hk2.out hba.out.size).trans hk3 (Nat.le_trans hba.out.size hb2.out.size));obtain ⟨A9, c9, hv9, hSq3, -⟩ := htB.out w3 hb23;injection hv9 with _ hv9;injection hv9 with _ hv9;injection hv9 with _ hv9;injection hv9 with _ hv9;injection hv9 with hv9 _;injection hv9 with hv9 _ hv9c;subst hv9;subst hv9c;obtain ⟨A5, c5, xs, ⟨C, g1, g2⟩, hown, hne, hpush⟩ := push_open (nm := t.name) h3 hSq3 hAP;rw [hn3.out] at g2 hown hne hpush;have x2 : w3.cell? ⟨T, 2, none⟩ = some (.string (strOf t.name)) := cell_blk hB3.blk rfl;have x4' : w3.cell? ⟨T, 4, none⟩ = some (.slice A la ca) := by rw [<- hla.out]; exact cell_blk hB3.blk rfl
     have hbl := below_alloc w3 (ndB 25 t.name A t.attrs.length ca);rw [hla.out] at hbl hpush;have c73 := cell_blk (hbl.block b (Array.getElem?_eq_some_iff.1 g1).1 |>.trans g1) g2;have f7 := frozen_of_row _ b 7 _ _ ((hbl.block b (Array.getElem?_eq_some_iff.1 g1).1).trans g1);obtain ⟨K, hK⟩ : ∃ K, w3.heap.size = K := ⟨_, rfl⟩;have hP3 : P0 <= w3.heap.size := BsA.p0 h3;obtain ⟨w4, hw4⟩ : ∃ w4, w3.alloc (ndB 25 t.name A la ca) = w4 := ⟨_, rfl⟩;rw [hw4] at hbl hpush c73 f7;have hb4 := below_alloc w4 (.cells #[.pointer (some ⟨K, 0, none⟩)] 136);have hown5 := hown _ (hbl.trans (hb4.mono hbl.size));have hpush5 := hpush _ hb4;have hP5 : P0 <= (w4.alloc (.cells #[.pointer (some ⟨K, 0, none⟩)] 136)).heap.size := Nat.le_trans hP3 (Nat.le_trans hbl.size hb4.size);rw [hK] at hpush5;have hbB4 := (hbl.block b (Array.getElem?_eq_some_iff.1 g1).1).trans g1;have hbB5 := (hb4.block b (Array.getElem?_eq_some_iff.1 hbB4).1).trans hbB4;have hPb : P0 <= b := (BsA.lt h3).1;replace hpush5 := Hd hpush5;replace hown5 := Hd hown5;replace hb23 := Hd hb23;have hsz3 := Hd hb3.size;replace hne := Hd hne;replace g1 := Hd g1;replace g2 := Hd g2;clear hpush hown h3 hSq3 hf hB3 hb3 hk3;unfold ndB at hw4
     go_wp2_with (at_builtin; apply stop_here)
     refine Stop.go (wpList_append_rd _ rfl _ _ 83 rfl P0 136 (.pointer none) 8 Tryz.underlying83 info_pnode rfl (.slice A5 no c5) no xs rfl hown5.out _ 1 1 [.pointer (some ⟨K, 0, none⟩)] rfl (rd_one_ w4 _ _ _) (fun u hu => by rw [List.mem_singleton.1 hu]; rfl) (by omega) (by omega) hP5 ?_);intro A6 c6 w6 ho6 hg6 hb6 hv6;obtain ⟨q1, q2⟩ := hpush5.out A6 c6 w6 ho6 hg6 hv6;have hbb6 := hg6.block b (Array.getElem?_eq_some_iff.1 hbB5).1 (fun e => (hne.out b e.symm).1 rfl) |>.trans hbB5
     have c76 : w6.cell? ⟨b, 7, none⟩ = some _ := cell_blk hbb6 g2.out;have f76 := frozen_of_row w6 b 7 _ _ hbb6;have hfin := Hd (BsN.then_ hk23.out (Nat.le_trans hba.out.size (Nat.le_trans hb2.out.size hsz3.out)) q1);have hbfin := Hd (hb23.out.trans q2);replace hq := hq.out
     have hE : decide (s2.opn = []) = false := by
      rw [decide_eq_false_iff_not];intro e;have := hn3.out;rw [e] at this;exact hz this.symm
     rw [hE] at hq
     have hq' : Except.ok { s2 with opn := ⟨t.name, t.attrs, []⟩ :: s2.opn } = q := by
      rw [<- hq];simp
     subst hq';have d5 : (((no : Int) + 1) == 1) = false := by simp; omega
     have d6 : ((((no + 1 : Nat)) : Int) == 1) = false := by simp; omega
     clear hq hpush5 q1 q2 hg6 hb6 hv6 ho6 hE hbB5 hb4 hbl;go_wp2_with fail;go_ret;exact ⟨_, rfl, hbfin.out, rfl, hfin.out⟩
end
end Go.Proofs.YtokdnhdfmgfkeaaGreatDoor.Xt
end

section
namespace Go.Proofs.YtokdnhdfmgfkeaaGreatDoor.Xt
open Go.RowKit UtfW Xl
section
variable {w w' : World} {b N : Nat} {P0 : Pp} {s : St} {ρ : Rol}
theorem wrap_nat_ (n : Nat) (h : n <= 9223372036854775807) : IntKind.i64.wrap (n : Int) = (n : Int) := by
 have e : (n : Int) % 2 ^ 64 = n := Int.emod_eq_of_lt (by omega) (by omega);simp only [IntKind.wrap, IntKind.bits, IntKind.signed, e];rw [if_neg];simp;omega
theorem len0_of_sm {s : St} (h : Sm s N) {f : Fr} {F : List Fr} (ho : s.opn = f :: F) : Sm { s with opn := F } N := ⟨h.bef, h.aft, fun g hg => h.kid g (by rw [ho]; exact List.mem_cons_of_mem _ hg)⟩
theorem pop_open {f : Fr} {F : List Fr} (h : BsA ρ P0 w b s) (ho : s.opn = f :: F) (hs : Sm s N) (hN : N <= 1000000) :
  ∃ gO cO k Aa ca A2 c2, F.length + 1 <= maxLen /\ (∃ C, w.heap[b]? = some (.cells C 85) /\ C[7]? = some (.slice (some ⟨gO, 0, none⟩) (F.length + 1) cO)) /\ w.cell? ⟨gO, F.length, none⟩ = some (.pointer (some ⟨k, 0, none⟩)) /\ F.length + 1 <= cO /\ cO <= maxLen ∧
   w.heap[k]? = some (.cells #[.int .i64 1, .string (strOf f.name), .string ⟨#[]⟩, .slice Aa f.attrs.length ca, .slice A2 f.kids.length c2] 25) /\ k ≠ b ∧
   ∀ w2, Below w.heap.size w w2 -> ∃ ρ', Kp ρ w ρ' (w2.setCell ⟨b, 7, none⟩ (.slice (some ⟨gO, 0, none⟩) F.length cO)) /\ Below P0 w (w2.setCell ⟨b, 7, none⟩ (.slice (some ⟨gO, 0, none⟩) F.length cO)) ∧
    (w2.setCell ⟨b, 7, none⟩ (.slice (some ⟨gO, 0, none⟩) F.length cO)).heap[k]? = w.heap[k]? ∧
    Calls Tryz.prog 132 #[.pointer (some ⟨b, 0, none⟩), .agg #[.int .i64 1, .string (strOf f.name), .string ⟨#[]⟩, .slice Aa f.attrs.length ca, .slice A2 f.kids.length c2]] (w2.setCell ⟨b, 7, none⟩ (.slice (some ⟨gO, 0, none⟩) F.length cO)) fun e w' => (∃ v, e = .returned v) /\ Below P0 (w2.setCell ⟨b, 7, none⟩ (.slice (some ⟨gO, 0, none⟩) F.length cO)) w' /\ BsN ρ' P0 (w2.setCell ⟨b, 7, none⟩ (.slice (some ⟨gO, 0, none⟩) F.length cO)) w' b (put { s with opn := F } (.mk 1 f.name [] f.attrs f.kids)) := by
 obtain ⟨v1, v2, v3, vr, nb, hR, r0, r1, r2, r3, r4, rfl, hB⟩ := h;obtain ⟨nb0, k, rfl, hnl⟩ := hR.parted ho;obtain ⟨gO, cO, rfl, hmx, hgO, hctop⟩ := row_top (hR.opn id).1 hnl;obtain ⟨Aa, ca, A2, c2, A3, c3, g1, g2, g3, g4, ρ', g5, g6, g7⟩ := hR.pop ho;injection g2 with g2a _ g2c;subst g2a;subst g2c;rw [hnl] at g6
 have hcap : F.length + 1 <= cO /\ cO <= maxLen := by
  obtain ⟨q1, q2⟩ := (hR.opn id).1;have hl : (nb0 ++ [k]).length = F.length + 1 := by simp [hnl]
  rw [hl] at q2;rcases q2 with ⟨_, q2⟩ | ⟨g, cap, cur, hv, hB2, hc, hcap, hmax, hsz, ht⟩
  ·omega
  ·injection hv with _ _ hv;rw [hv];exact ⟨hcap, hmax⟩
 refine ⟨gO, cO, k, Aa, ca, A2, c2, hmx, ⟨_, hB, rfl⟩, hctop, hcap.1, hcap.2, g1, g4, fun w2 hb2 => ⟨ρ', ?_, ?_, ?_, ?_⟩⟩
 ·intro j hj h0;refine ⟨((grown_set w2 ⟨b, 7, none⟩ _).block j (Nat.lt_of_lt_of_le hj hb2.size) (fun e => ?_)).trans (hb2.block j hj), g7 j h0⟩;injection e with e;have e : j = b := e;rw [e, hR.rb] at h0;cases h0
 ·have hPb := (hR.dom b (by rw [hR.rb]; exact fun e => by cases e)).1;exact (hb2.mono hR.p0).grown (grown_set w2 ⟨b, 7, none⟩ _) (Nat.le_trans hR.p0 hb2.size) (fun j hj => by injection hj with hj; have : b = j := hj; omega)
 ·refine ((grown_set w2 ⟨b, 7, none⟩ _).block k (Nat.lt_of_lt_of_le (Array.getElem?_eq_some_iff.1 g1).1 hb2.size) (fun e => ?_)).trans (hb2.block k (Array.getElem?_eq_some_iff.1 g1).1);injection e with e;exact g4 e
 ·have hT1 := Turns.below g6.dom hb2 .no;have hR1 := g6.turn hT1 (fun e => by cases e) (.inr (.inr rfl));have hx1 := NdI.turn g5 g6.dom g6.p0 hT1 (fun e => by cases e);have hB1 := (hb2.block b (Array.getElem?_eq_some_iff.1 hB).1).trans hB;have hT2 := Turns.on hR1.dom hR1.rb (fun e => by cases e) (grown_set w2 ⟨b, 7, none⟩ (.slice (some ⟨gO, 0, none⟩) F.length cO));have hR2 := hR1.turn hT2 (fun e => by cases e) (.inr (.inl rfl));have hx2 := NdI.turn hx1 hR1.dom hR1.p0 hT2 (fun e => by cases e);exact put_any hR2 ⟨r0, r1, r2, r3, r4, rfl, blk_setCell hB1 (i := 7) _⟩ hx2 (len0_of_sm hs ho) hN
theorem endT_eq {s s1 : St} (h : flush s = s1) {f : Fr} {F : List Fr} (ho : s1.opn = f :: F) : endT s = put { s1 with opn := F } (.mk 1 f.name [] f.attrs f.kids) := by
 unfold endT;rw [h];simp only;rw [ho]
set_option maxHeartbeats 4000000 in
set_option maxRecDepth 100000 in
theorem end_any {f0 : Fr} {F0 : List Fr} (h : BsA ρ P0 w b s) (ho0 : s.opn = f0 :: F0) (hs : Sm s N) (hN : N + 1 <= 1000000) :
  Calls Tryz.prog 97 #[.pointer (some ⟨b, 0, none⟩)] w fun e w' => (∃ v, e = .returned v) /\ Below P0 w w' /\ BsN ρ P0 w w' b (endT s) := by
 have hf := Hd (flush_any h hs (by omega));have hnm := flush_opn s;have hsf := hs.flush;obtain ⟨s1, hs1⟩ : ∃ s1, flush s = s1 := ⟨_, rfl⟩;rw [hs1] at hf hnm hsf
 obtain ⟨f, F, ho⟩ : ∃ f F, s1.opn = f :: F := by
  cases hx : s1.opn with
  | nil => rw [hx, ho0] at hnm; cases hnm
  | cons f F => exact ⟨f, F, rfl⟩
 rw [endT_eq hs1 ho];replace ho := Hd ho;replace hsf := Hd hsf;clear h hs hs1 hnm ho0
 go_enter Tryz.func97, Tryz.ntmps97
 go_wp2_with fail;refine hf.out.mono ?_;rintro e w1 ⟨⟨v, rfl⟩, hb1, ρ1, h1, hk1⟩;obtain ⟨gO, cO, k, Aa, ca, A2, c2, hmx, ⟨C, g1, g2⟩, hctop, hcap, hcmx, hk, hkb, hpop⟩ := pop_open h1 ho.out hsf.out hN;obtain ⟨nF, hnF⟩ : ∃ nF, F.length = nF := ⟨_, rfl⟩;rw [hnF] at hmx g2 hctop hcap hpop;have hdd : Below w1.heap.size w1 w1.drew.drew := (below_drew_ w1).trans (below_drew_ w1.drew);have hp2 := hpop _ hdd;obtain ⟨ρ2, hk2, hb2, hkk, hput⟩ := hp2;have c7 : w1.cell? ⟨b, 7, none⟩ = some (.slice (some ⟨gO, 0, none⟩) (nF + 1) cO) := cell_blk g1 g2;have f7 := frozen_of_row w1 b 7 _ _ g1;have q0 : (0 : Int) < (nF : Int) + 1 := by omega
 have q2 : (nF : Int) < (nF : Int) + 1 := by omega
 have q3 : (0 : Int) <= (nF : Int) := by omega
 have q4 : nF < nF + 1 := by omega
 have hm2 : nF + 1 <= 9223372036854775807 := Nat.le_trans hmx (by decide);have hm3 : cO <= 9223372036854775807 := Nat.le_trans hcmx (by decide);have hfin : Hid (∀ w', Below P0 (w1.drew.drew.setCell ⟨b, 7, none⟩ (.slice (some ⟨gO, 0, none⟩) nF cO)) w' -> Below P0 w w') := Hd fun w' hz => (hb1.trans hb2).trans hz
 have hfk : Hid (∀ w' s', BsN ρ2 P0 (w1.drew.drew.setCell ⟨b, 7, none⟩ (.slice (some ⟨gO, 0, none⟩) nF cO)) w' b s' -> BsN ρ P0 w w' b s') := Hd fun w' s' hz => BsN.then_ (hk1.trans hk2 hb1.size) (Nat.le_trans hb1.size hb2.size) hz
 rw [hk] at hkk;rw [World.setCell_drew, World.setCell_drew] at hkk hput hfin hfk;replace hput := Hd hput;replace hkk := Hd hkk;clear hpop hk2 hb2 h1 hk1 hb1 hdd hf hk hcmx hmx;go_wp2_with fail
 refine Pl.wp_region_plan 10 (.take 0 (.take 1 (.take 2 (.take 3 (.take 4 (.take 5 (.take 6 (.take 7 (.take 8 (.take 9 .done))))))))))
  (fun x => x.cell? ⟨b, 7, none⟩ = some (.slice (some ⟨gO, 0, none⟩) (nF + 1) cO)) (by kernel_rfl) (by kernel_rfl) (by exact c7) ?_
 simp only [Pl.fill, Al_4, Al_5, Al_6, Al_7]
 iterate 10
  refine Pl.take_go ?_ (by rfl) (fun _ _ _ h => h) ?_ ?_
  rotate_left
  ·(intro x hSw; (try dsimp only at hSw); go_simp; try with_reducible rfl)
  try simp only [Act.put, Al_1, Al_2, Al_3]
 refine Pl.done_go ?_;have hctop' : w1.drew.cell? ⟨gO, nF, none⟩ = some (.pointer (some ⟨k, 0, none⟩)) := hctop;go_wp2_with fail;clear hctop hctop'
 refine Pl.wp_region_plan 12 (.take 0 (.take 1 (.take 2 (.take 3 (.take 4 (.take 5 (.take 6 (.take 7 (.take 8 (.take 9 (.take 10 (.take 11 .done))))))))))))
  (fun x => x.cell? ⟨b, 7, none⟩ = some (.slice (some ⟨gO, 0, none⟩) (nF + 1) cO)) (by kernel_rfl) (by kernel_rfl) (by exact c7) ?_
 simp only [Pl.fill, Al_4, Al_5, Al_6, Al_7]
 iterate 11
  refine Pl.take_go ?_ (by rfl) (fun _ _ _ h => h) ?_ ?_
  rotate_left
  ·(intro x hSw; (try dsimp only at hSw); go_simp; try with_reducible rfl)
  try simp only [Act.put, Al_1, Al_2, Al_3]
 have hwr : IntKind.i64.wrap (nF : Int) = (nF : Int) := wrap_nat_ nF (by omega);rw [hwr];clear hwr;refine Pl.take_go (.slice (some ⟨gO, 0, none⟩) nF cO) (by rfl) (fun _ _ _ h => h) ?_ ?_
 ·intro x hSw;have hq5 : (nF : Int) <= (cO : Int) := by omega
  (try dsimp only at hSw)
  go_simp
  try with_reducible rfl
 try simp only [Act.put, Al_1, Al_2, Al_3]
 refine Pl.done_go ?_;have y0 := cell_blk hkk.out (i := 0) rfl;have y1 := cell_blk hkk.out (i := 1) rfl;have y2 := cell_blk hkk.out (i := 2) rfl;have y3 := cell_blk hkk.out (i := 3) rfl;have y4 := cell_blk hkk.out (i := 4) rfl;go_wp2_with fail;refine hput.out.mono ?_;rintro e w5 ⟨⟨v5, rfl⟩, hb5, h5⟩;have r1 := Hd (hfin.out _ hb5);have r2 := Hd (hfk.out _ _ h5);clear hb5 h5 hput hfin hfk hkk y0 y1 y2 y3 y4;go_wp2_with fail
 go_end0
 exact ⟨⟨_, rfl⟩, r1.out, r2.out⟩
end
end Go.Proofs.YtokdnhdfmgfkeaaGreatDoor.Xt
end

section
namespace Go.Proofs.YtokdnhdfmgfkeaaGreatDoor.Xt
open Go.RowKit UtfW Xl
def StepP (ρ : Rol) (P0 : Pp) (w : World) (b : Nat) (q : Except Int St) (e : Ending) (w' : World) : Prop := ∃ c, e = .returned (.int .i64 c) /\ Below P0 w w' /\ match q with
 | .error x => c = x /\ ∃ ρ', Kp ρ w ρ' w'
 | .ok s' => c = 0 /\ BsN ρ P0 w w' b s'
theorem start_err {s : St} {t : Tok} {x : Int} (h : startT s t = .error x) : x ≠ 0 := by
 unfold startT at h
 split at h
 ·injection h with h; omega
 ·split at h
  ·injection h with h; omega
  ·split at h
   ·injection h with h; omega
   ·cases h
section
variable {w w' w0 : World} {b N : Nat} {P0 : Pp} {s : St} {ρ : Rol}
theorem StepP.up {q : Except Int St} {e : Ending} (h : StepP ρ P0 w b q e w') (hb : Below w0.heap.size w0 w) (hp : P0 <= w0.heap.size) : StepP ρ P0 w0 b q e w' := by
 obtain ⟨c, rfl, h1, h2⟩ := h;refine ⟨c, rfl, (hb.mono hp).trans h1, ?_⟩
 cases q with
 | error x =>
  obtain ⟨g1, ρ', g2⟩ := h2;exact ⟨g1, ρ', (Kp.below hb).trans g2 hb.size⟩
 | ok s' => exact ⟨h2.1, BsN.up h2.2 hb⟩
set_option maxHeartbeats 8000000 in
set_option maxRecDepth 100000 in
theorem token_any {vs : List Value} {t : Tok} (h : BsA ρ P0 w b s) (ht : TkP P0 w vs t) (hs : Sm s N) (hN : N + 2 <= 1000000) (hn : s.nodes <= 100000) (ha : t.kind = 1 \/ t.kind = 2 -> t.attrs.length <= 400000) (hx : s.text.length + t.text.length <= 1000000) :
    Calls Tryz.prog 62 #[.pointer (some ⟨b, 0, none⟩), .agg vs.toArray] w fun e w' => StepP ρ P0 w b (stepT s t) e w' := by
  have htB := fun z hz => TkP.below (w' := z) ht hz
  obtain ⟨A, ca, rfl, hSq, hAP⟩ := ht;have hba := below_alloc w (.cells #[.int .i64 (t.kind : Nat), .int .i64 (t.at_ : Nat), .string (strOf t.name), .string (strOf t.text), .slice A t.attrs.length ca] 87);have hnb := heap_alloc_new w (.cells #[.int .i64 (t.kind : Nat), .int .i64 (t.at_ : Nat), .string (strOf t.name), .string (strOf t.text), .slice A t.attrs.length ca] 87);have hno := h.new;obtain ⟨T, hT⟩ : ∃ T, w.heap.size = T := ⟨_, rfl⟩;obtain ⟨w1, hw1⟩ : ∃ w1, w.alloc (.cells #[.int .i64 (t.kind : Nat), .int .i64 (t.at_ : Nat), .string (strOf t.name), .string (strOf t.text), .slice A t.attrs.length ca] 87) = w1 := ⟨_, rfl⟩;rw [hw1] at hba hnb;rw [hT] at hnb hno;have h1 := h.later hba;have hP0 := h.p0;have ht1 := htB w1 (hba.mono hP0);have x0 : w1.cell? ⟨T, 0, none⟩ = some (.int .i64 (t.kind : Nat)) := cell_blk hnb rfl;have x1 : w1.cell? ⟨T, 1, none⟩ = some (.int .i64 (t.at_ : Nat)) := cell_blk hnb rfl;have x2 : w1.cell? ⟨T, 2, none⟩ = some (.string (strOf t.name)) := cell_blk hnb rfl;have x3 : w1.cell? ⟨T, 3, none⟩ = some (.string (strOf t.text)) := cell_blk hnb rfl;have x4 : w1.cell? ⟨T, 4, none⟩ = some (.slice A t.attrs.length ca) := cell_blk hnb rfl;have hup : Hid (∀ (q : Except Int St) (e : Ending) (w' : World), StepP ρ P0 w1 b q e w' -> StepP ρ P0 w b q e w') := Hd fun q e w' hz => StepP.up hz hba hP0
  obtain ⟨q, hq⟩ : ∃ q, stepT s t = q := ⟨_, rfl⟩;rw [hq];unfold stepT at hq;obtain ⟨kd, hkd⟩ : ∃ kd, t.kind = kd := ⟨_, rfl⟩;rw [hkd] at hq;have hbaH := Hd hba;clear hnb htB hSq hAP hba
  by_cases e1 : kd = 1
  · rw [if_pos e1] at hq
    have k1 : ((t.kind : Int) == 1) = true := by simp; omega
    have hc := Hd ((start_any h1 ht1 hs (by omega) hn (ha (by omega)) : Calls Tryz.prog 96 #[.pointer (some ⟨b, 0, none⟩), .agg #[.int .i64 (t.kind : Nat), .int .i64 (t.at_ : Nat), .string (strOf t.name), .string (strOf t.text), .slice A t.attrs.length ca]] w1 fun e w' => StepP ρ P0 w1 b (startT s t) e w'));rw [hq] at hc;clear hq hkd h h1 ht1 hno hs
    go_enter Tryz.func62, Tryz.ntmps62
    go_wp2_with fail;refine hc.out.mono ?_;rintro e w2 hz;have hr := hup.out _ _ _ hz;obtain ⟨c, rfl, -⟩ := hz;replace hr := Hd hr;go_wp2_with fail;go_ret;exact hr.out
  · rw [if_neg e1] at hq
    by_cases e2 : kd = 2
    · rw [if_pos e2] at hq
      have k1 : ((t.kind : Int) == 1) = false := by simp; omega
      have k2 : ((t.kind : Int) == 2) = true := by simp; omega
      cases hst : startT s t with
      | error x =>
        have hx0 := start_err hst;rw [hst] at hq;have hq : Except.error x = q := hq;have hc := (start_any h1 ht1 hs (by omega) hn (ha (by omega)) : Calls Tryz.prog 96 #[.pointer (some ⟨b, 0, none⟩), .agg #[.int .i64 (t.kind : Nat), .int .i64 (t.at_ : Nat), .string (strOf t.name), .string (strOf t.text), .slice A t.attrs.length ca]] w1 fun e w' => StepP ρ P0 w1 b (startT s t) e w');rw [hst] at hc;replace hc := Hd hc;have hx1 : (x != 0) = true := (by simpa using hx0);clear hkd h h1 ht1 hno hs hst
        go_enter Tryz.func62, Tryz.ntmps62
        go_wp2_with fail;refine hc.out.mono ?_;rintro e w2 hz;have hr := hup.out (.error x) _ _ hz;obtain ⟨c, rfl, _, hcx, -⟩ := hz;have hcx : c = x := hcx;subst hcx;subst hq;replace hr := Hd hr;go_wp2_with fail;go_ret;exact hr.out
      | ok s1 =>
        rw [hst] at hq;have hq : Except.ok (endT s1) = q := hq;have hc := (start_any h1 ht1 hs (by omega) hn (ha (by omega)) : Calls Tryz.prog 96 #[.pointer (some ⟨b, 0, none⟩), .agg #[.int .i64 (t.kind : Nat), .int .i64 (t.at_ : Nat), .string (strOf t.name), .string (strOf t.text), .slice A t.attrs.length ca]] w1 fun e w' => StepP ρ P0 w1 b (startT s t) e w');rw [hst] at hc
        have hs1 : Sm s1 (N + 1) /\ ∃ f F, s1.opn = f :: F := by
          unfold startT at hst
          split at hst
          · cases hst
          · split at hst
            · cases hst
            · split at hst
              · cases hst
              · injection hst with hst
                have hf : Sm (flush { s with nodes := s.nodes + (1 + t.attrs.length) }) (N + 1) := Sm.flush ⟨hs.bef, hs.aft, hs.kid⟩;subst hst;refine ⟨⟨hf.bef, hf.aft, fun g hg => ?_⟩, _, _, rfl⟩;rcases List.mem_cons.1 hg with rfl | hg
                · exact Nat.zero_le _
                · exact hf.kid g hg
        obtain ⟨hs1, f, F, ho1⟩ := hs1;replace hc := Hd hc;clear hkd h h1 ht1 hno hs hst
        go_enter Tryz.func62, Tryz.ntmps62
        go_wp2_with fail;refine hc.out.mono ?_;rintro e w2 ⟨c, rfl, hb2, hc0, ρ2, h2, hk2⟩;subst hc0;have hf := Hd (end_any h2 ho1 hs1 (by omega))
        have hup2 : Hid (∀ w3, Below P0 w2 w3 -> BsN ρ2 P0 w2 w3 b (endT s1) -> StepP ρ P0 w b q (.returned (.int .i64 0)) w3) := Hd fun w3 hz hy => by
          refine hup.out _ _ _ ?_;rw [<- hq];exact ⟨0, rfl, hb2.trans hz, rfl, BsN.then_ hk2 hb2.size hy⟩
        clear h2 hk2 hb2 hc;go_wp2_with fail;refine hf.out.mono ?_;rintro e w3 ⟨⟨v, rfl⟩, hb3, h3⟩;have hr := Hd (hup2.out w3 hb3 h3);clear hb3 h3 hf;go_wp2_with fail;go_ret;exact hr.out
    · rw [if_neg e2] at hq
      by_cases e3 : kd = 3
      · rw [if_pos e3] at hq
        have k1 : ((t.kind : Int) == 1) = false := by simp; omega
        have k2 : ((t.kind : Int) == 2) = false := by simp; omega
        have k3 : ((t.kind : Int) == 3) = true := by simp; omega
        cases ho : s.opn with
        | nil =>
          rw [ho] at hq;have hq : Except.error 3 = q := hq;obtain ⟨A3, c3, c7⟩ := h1.c7;rw [ho] at c7;have hr := Hd (hup.out (.error 3) (.returned (.int .i64 3)) w1.drew ⟨3, rfl, (below_drew_ w1).mono (BsA.p0 h1), rfl, _, Kp.below (ρ := ρ) (below_drew_ w1)⟩);rw [hq] at hr;clear hkd h h1 ht1 hno hs hq
          go_enter Tryz.func62, Tryz.ntmps62
          go_wp2_with fail;refine Pl.wp_region_plan 24 (.take 0 (.take 1 (.take 2 (.take 3 (.take 4 (.take 5 (.take 6 (.take 7 (.take 8 (.take 9 (.take 10 (.take 11 (.take 12 (.take 13 (.take 14 (.take 15 (.take 16 (.take 17 (.take 18 (.take 19 (.take 20 (.take 21 (.take 22 (.take 23 .done)))))))))))))))))))))))) (fun x => x.cell? ⟨b, 7, none⟩ = some (.slice A3 ([] : List Fr).length c3) /\ x.cell? ⟨T, 2, none⟩ = some (.string (strOf t.name))) (by kernel_rfl) (by kernel_rfl) (by exact ⟨c7, x2⟩) ?_;simp only [Pl.fill, Al_4, Al_5, Al_6, Al_7]
          iterate 24
            first
            | (refine Pl.take_go ?_ (by rfl) (fun _ _ _ h => h) ?_ ?_
               rotate_left
               · (intro x hSw; (try dsimp only at hSw); go_simp; try with_reducible rfl)
               (try simp only [Act.put, Al_1, Al_2, Al_3]))
            | (refine Pl.take_skip (by rfl) (fun _ _ _ h => h) ?_
               (try simp only [Act.put, Al_1, Al_2, Al_3]))
          refine Pl.done_go ?_;go_wp2_with fail;go_ret;exact hr.out
        | cons f F =>
          rw [ho] at hq;have hq : (if f.name = t.name then Except.ok (endT s) else Except.error 3) = q := hq;obtain ⟨gO, cO, k, Aa, ca', A2, c2, hmx, ⟨C, g1, g2⟩, hctop, hcap, hcmx, hk, hkb, -⟩ := pop_open h1 ho hs (by omega);obtain ⟨nF, hnF⟩ : ∃ nF, F.length = nF := ⟨_, rfl⟩;rw [hnF] at hmx g2 hctop hcap;have c7 : w1.cell? ⟨b, 7, none⟩ = some (.slice (some ⟨gO, 0, none⟩) (nF + 1) cO) := cell_blk g1 g2;have y1 : w1.cell? ⟨k, 1, none⟩ = some (.string (strOf f.name)) := cell_blk hk rfl;have q0 : (0 : Int) < (nF : Int) + 1 := (by omega);have q2 : (nF : Int) < (nF : Int) + 1 := (by omega);have q3 : (0 : Int) <= (nF : Int) := (by omega);have q4 : nF < nF + 1 := (by omega);have q5 : (((nF : Int) + 1) == 0) = false := by simp; omega
          have hm2 : nF + 1 <= 9223372036854775807 := Nat.le_trans hmx (by decide);obtain ⟨S1, hS1⟩ : ∃ S, strOf f.name = S := ⟨_, rfl⟩;obtain ⟨S2, hS2⟩ : ∃ S, strOf t.name = S := ⟨_, rfl⟩
          have hse : (S1.toList == S2.toList) = decide (f.name = t.name) := by
            rw [str_beq, decide_eq_decide, <- hS1, <- hS2]
            exact ⟨fun e => by
              have := congrArg (fun x : ByteArray => x.data.toList) e
              simpa [strOf] using this, fun e => by rw [e]⟩
          rw [hS1] at y1;rw [hS2] at x2
          by_cases hnm : f.name = t.name
          · rw [if_pos hnm] at hq
            have e9 : (S1.toList == S2.toList) = true := by rw [hse]; simpa using hnm
            have e10 : (S1.toList != S2.toList) = false := by rw [bne, e9]; rfl
            have h1d := BsA.later h1 (below_drew_ w1);have hend := Hd (end_any h1d ho hs (by omega))
            have hup2 : Hid (∀ w3, Below P0 w1.drew w3 -> BsN ρ P0 w1.drew w3 b (endT s) -> StepP ρ P0 w b q (.returned (.int .i64 0)) w3) := Hd fun w3 hz hy => by
              refine hup.out _ _ _ ?_;rw [<- hq];exact ⟨0, rfl, ((below_drew_ w1).mono (BsA.p0 h1)).trans hz, rfl, BsN.up hy (below_drew_ w1)⟩
            clear hkd h h1 ht1 hno hs hq hS1 hS2 hse hk hkb hcap hcmx hmx g1 g2 h1d hnm
            go_enter Tryz.func62, Tryz.ntmps62
            go_wp2_with fail;refine Pl.wp_region_plan 24 (.take 0 (.take 1 (.take 2 (.take 3 (.take 4 (.take 5 (.take 6 (.take 7 (.take 8 (.take 9 (.take 10 (.take 11 (.take 12 (.take 13 (.take 14 (.take 15 (.take 16 (.take 17 (.take 18 (.take 19 (.take 20 (.take 21 (.take 22 (.take 23 .done)))))))))))))))))))))))) (fun x => x.cell? ⟨b, 7, none⟩ = some (.slice (some ⟨gO, 0, none⟩) (nF + 1) cO) /\ x.cell? ⟨gO, nF, none⟩ = some (.pointer (some ⟨k, 0, none⟩)) /\ x.cell? ⟨k, 1, none⟩ = some (.string S1) /\ x.cell? ⟨T, 2, none⟩ = some (.string S2)) (by kernel_rfl) (by kernel_rfl) (by exact ⟨c7, hctop, y1, x2⟩) ?_;simp only [Pl.fill, Al_4, Al_5, Al_6, Al_7]
            iterate 17
              first
              | (refine Pl.take_go ?_ (by rfl) (fun _ _ _ h => h) ?_ ?_
                 rotate_left
                 · (intro x hSw; (try dsimp only at hSw); go_simp; try with_reducible rfl)
                 (try simp only [Act.put, Al_1, Al_2, Al_3]))
              | (refine Pl.take_skip (by rfl) (fun _ _ _ h => h) ?_
                 (try simp only [Act.put, Al_1, Al_2, Al_3]))
            have hwr : IntKind.i64.wrap (nF : Int) = (nF : Int) := wrap_nat_ nF (by omega);rw [hwr];clear hwr;refine Pl.take_go (.pointer (some ⟨gO, nF, none⟩)) (by rfl) (fun _ _ _ h => h) ?_ ?_
            · (intro x hSw; (try dsimp only at hSw); go_simp; try with_reducible rfl)
            (try simp only [Act.put, Al_1, Al_2, Al_3])
            iterate 6
              first
              | (refine Pl.take_go ?_ (by rfl) (fun _ _ _ h => h) ?_ ?_
                 rotate_left
                 · (intro x hSw; (try dsimp only at hSw); go_simp; try with_reducible rfl)
                 (try simp only [Act.put, Al_1, Al_2, Al_3]))
              | (refine Pl.take_skip (by rfl) (fun _ _ _ h => h) ?_
                 (try simp only [Act.put, Al_1, Al_2, Al_3]))
            refine Pl.done_go ?_;go_wp2_with fail;refine hend.out.mono ?_;rintro e w3 ⟨⟨v, rfl⟩, hb3, h3⟩;have hr := Hd (hup2.out w3 hb3 h3);clear hb3 h3 hend;go_wp2_with fail;go_ret;exact hr.out
          · rw [if_neg hnm] at hq
            have e9 : (S1.toList == S2.toList) = false := by rw [hse]; simpa using hnm
            have e10 : (S1.toList != S2.toList) = true := by rw [bne, e9]; rfl
            have hr := Hd (hup.out (.error 3) (.returned (.int .i64 3)) w1.drew ⟨3, rfl, (below_drew_ w1).mono (BsA.p0 h1), rfl, _, Kp.below (ρ := ρ) (below_drew_ w1)⟩);rw [hq] at hr;clear hkd h h1 ht1 hno hs hq hS1 hS2 hse hk hkb hcap hcmx hmx g1 g2 hnm
            go_enter Tryz.func62, Tryz.ntmps62
            go_wp2_with fail;refine Pl.wp_region_plan 24 (.take 0 (.take 1 (.take 2 (.take 3 (.take 4 (.take 5 (.take 6 (.take 7 (.take 8 (.take 9 (.take 10 (.take 11 (.take 12 (.take 13 (.take 14 (.take 15 (.take 16 (.take 17 (.take 18 (.take 19 (.take 20 (.take 21 (.take 22 (.take 23 .done)))))))))))))))))))))))) (fun x => x.cell? ⟨b, 7, none⟩ = some (.slice (some ⟨gO, 0, none⟩) (nF + 1) cO) /\ x.cell? ⟨gO, nF, none⟩ = some (.pointer (some ⟨k, 0, none⟩)) /\ x.cell? ⟨k, 1, none⟩ = some (.string S1) /\ x.cell? ⟨T, 2, none⟩ = some (.string S2)) (by kernel_rfl) (by kernel_rfl) (by exact ⟨c7, hctop, y1, x2⟩) ?_;simp only [Pl.fill, Al_4, Al_5, Al_6, Al_7]
            iterate 17
              first
              | (refine Pl.take_go ?_ (by rfl) (fun _ _ _ h => h) ?_ ?_
                 rotate_left
                 · (intro x hSw; (try dsimp only at hSw); go_simp; try with_reducible rfl)
                 (try simp only [Act.put, Al_1, Al_2, Al_3]))
              | (refine Pl.take_skip (by rfl) (fun _ _ _ h => h) ?_
                 (try simp only [Act.put, Al_1, Al_2, Al_3]))
            have hwr : IntKind.i64.wrap (nF : Int) = (nF : Int) := wrap_nat_ nF (by omega);rw [hwr];clear hwr;refine Pl.take_go (.pointer (some ⟨gO, nF, none⟩)) (by rfl) (fun _ _ _ h => h) ?_ ?_
            · (intro x hSw; (try dsimp only at hSw); go_simp; try with_reducible rfl)
            (try simp only [Act.put, Al_1, Al_2, Al_3])
            iterate 6
              first
              | (refine Pl.take_go ?_ (by rfl) (fun _ _ _ h => h) ?_ ?_
                 rotate_left
                 · (intro x hSw; (try dsimp only at hSw); go_simp; try with_reducible rfl)
                 (try simp only [Act.put, Al_1, Al_2, Al_3]))
              | (refine Pl.take_skip (by rfl) (fun _ _ _ h => h) ?_
                 (try simp only [Act.put, Al_1, Al_2, Al_3]))
            refine Pl.done_go ?_;go_wp2_with fail;go_ret;exact hr.out
      · rw [if_neg e3] at hq
        by_cases e6 : kd = 6
        · rw [if_pos e6] at hq
          have k1 : ((t.kind : Int) == 1) = false := by simp; omega
          have k2 : ((t.kind : Int) == 2) = false := by simp; omega
          have k3 : ((t.kind : Int) == 3) = false := by simp; omega
          have k6 : ((t.kind : Int) == 6) = true := by simp; omega
          have hc := Hd ((other_any h1 ht1 3 hs (by omega) (by omega) : Calls Tryz.prog 98 #[.pointer (some ⟨b, 0, none⟩), .agg #[.int .i64 (t.kind : Nat), .int .i64 (t.at_ : Nat), .string (strOf t.name), .string (strOf t.text), .slice A t.attrs.length ca], .int .i64 3] w1 fun e w' => StepP ρ P0 w1 b (otherT s t 3) e w'));rw [hq] at hc;clear hq hkd h h1 ht1 hno hs
          go_enter Tryz.func62, Tryz.ntmps62
          go_wp2_with fail;refine hc.out.mono ?_;rintro e w2 hz;have hr := hup.out _ _ _ hz;obtain ⟨c, rfl, -⟩ := hz;replace hr := Hd hr;go_wp2_with fail;go_ret;exact hr.out
        · rw [if_neg e6] at hq
          by_cases e7 : kd = 7
          · rw [if_pos e7] at hq
            have k1 : ((t.kind : Int) == 1) = false := by simp; omega
            have k2 : ((t.kind : Int) == 2) = false := by simp; omega
            have k3 : ((t.kind : Int) == 3) = false := by simp; omega
            have k6 : ((t.kind : Int) == 6) = false := by simp; omega
            have k7 : ((t.kind : Int) == 7) = true := by simp; omega
            have hc := Hd ((other_any h1 ht1 4 hs (by omega) (by omega) : Calls Tryz.prog 98 #[.pointer (some ⟨b, 0, none⟩), .agg #[.int .i64 (t.kind : Nat), .int .i64 (t.at_ : Nat), .string (strOf t.name), .string (strOf t.text), .slice A t.attrs.length ca], .int .i64 4] w1 fun e w' => StepP ρ P0 w1 b (otherT s t 4) e w'));rw [hq] at hc;clear hq hkd h h1 ht1 hno hs
            go_enter Tryz.func62, Tryz.ntmps62
            go_wp2_with fail;refine hc.out.mono ?_;rintro e w2 hz;have hr := hup.out _ _ _ hz;obtain ⟨c, rfl, -⟩ := hz;replace hr := Hd hr;go_wp2_with fail;go_ret;exact hr.out
          · rw [if_neg e7] at hq
            have k1 : ((t.kind : Int) == 1) = false := by simp; omega
            have k2 : ((t.kind : Int) == 2) = false := by simp; omega
            have k3 : ((t.kind : Int) == 3) = false := by simp; omega
            have k6 : ((t.kind : Int) == 6) = false := by simp; omega
            have k7 : ((t.kind : Int) == 7) = false := by simp; omega
            have hc := Hd ((chars_any h1 ht1 hx (by omega) : Calls Tryz.prog 99 #[.pointer (some ⟨b, 0, none⟩), .agg #[.int .i64 (t.kind : Nat), .int .i64 (t.at_ : Nat), .string (strOf t.name), .string (strOf t.text), .slice A t.attrs.length ca]] w1 fun e w' => StepP ρ P0 w1 b (charsT s t) e w'));rw [hq] at hc;clear hq hkd h h1 ht1 hno hs
            go_enter Tryz.func62, Tryz.ntmps62
            go_wp2_with fail;refine hc.out.mono ?_;rintro e w2 hz;have hr := hup.out _ _ _ hz;obtain ⟨c, rfl, -⟩ := hz;replace hr := Hd hr;go_wp2_with fail;go_ret;exact hr.out
end
end Go.Proofs.YtokdnhdfmgfkeaaGreatDoor.Xt
end
