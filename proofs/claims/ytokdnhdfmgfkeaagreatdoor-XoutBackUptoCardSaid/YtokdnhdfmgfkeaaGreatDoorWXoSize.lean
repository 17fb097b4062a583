/- How long what is parsed is when it is written; what is parsed may be written. No program stands here. -/
import Derived.Test.YtokdnhdfmgfkeaaGreatDoorWXpLib
import Derived.Test.YtokdnhdfmgfkeaaGreatDoorWUtfEnc2
import Derived.Test.YtokdnhdfmgfkeaaGreatDoorWQxVal
import Derived.Test.YtokdnhdfmgfkeaaGreatDoorWXlPlaces
import Derived.Test.YtokdnhdfmgfkeaaGreatDoorWXpRc
import Derived.Test.YtokdnhdfmgfkeaaGreatDoorWXoBack
set_option linter.unusedVariables false
set_option linter.unusedSimpArgs false
section
namespace Go.Proofs.YtokdnhdfmgfkeaaGreatDoor.Xt
open Xl
theorem flush_id {s : St} (h : s.text = []) : flush s = s := by
 unfold flush;rw [if_pos h]
def St.setN (s : St) (n : Nat) : St := { s with nodes := n }
theorem flush_setN (s : St) (n : Nat) : flush (s.setN n) = (flush s).setN n := by
 unfold flush St.setN;simp only
 split
 ·rfl
 ·unfold put
  cases h : s.opn with
  | nil =>
   simp only
   split
   ·rfl
   ·split <;> rfl
  | cons f F => rfl
theorem flush_nodes' (s : St) (n : Nat) : flush { s with nodes := n } = (flush s).setN n := flush_setN s n
theorem end_of {s : St} {f : Fr} {F : List Fr} (h : (flush s).opn = f :: F) : endT s = put { flush s with opn := F } (.mk 1 f.name [] f.attrs f.kids) := by
 unfold endT;simp only;rw [h]
theorem put_setN (s : St) (n : Nd) (m : Nat) : put (s.setN m) n = (put s n).setN m := by
 unfold put St.setN
 cases h : s.opn with
 | nil =>
  simp only
  split
  ·rfl
  ·split <;> rfl
 | cons f F => rfl
end Go.Proofs.YtokdnhdfmgfkeaaGreatDoor.Xt
end

section
namespace Go.Proofs.YtokdnhdfmgfkeaaGreatDoor.Xt
open Xl UtfW
def lastK (p : Int) : List Nd -> Int
 | [] => p
 | x :: l => lastK x.kind l
def okKind (k : Int) : Bool := decide (1 <= k) && decide (k <= 4)
mutual
def soundN : Nd -> Bool
 | .mk k nm tx as_ ks => !(decide (k = 1) && (!nameR nm || decide (tx ≠ [])) || decide (k = 2) && decide (tx = []) || !okKind k) && !(decide (k ≠ 1) && (decide (ks ≠ [] \/ as_ ≠ []))) && soundL 0 ks
def soundL (p : Int) : List Nd -> Bool
 | [] => true
 | x :: l => soundN x && !(decide (x.kind = 2) && decide (p = 2)) && soundL x.kind l
end
theorem lastK_snoc (x : Nd) : ∀ (l : List Nd) (p : Int), lastK p (l ++ [x]) = x.kind
 | [], p => rfl
 | y :: l, p => lastK_snoc x l y.kind
theorem soundL_snoc (x : Nd) : ∀ (l : List Nd) (p : Int), soundL p (l ++ [x]) = (soundL p l && (soundN x && !(decide (x.kind = 2) && decide (lastK p l = 2))))
 | [], p => by simp [soundL, lastK]; rfl
 | y :: l, p => by
  simp only [List.cons_append, soundL, lastK];rw [soundL_snoc x l y.kind];simp only [Bool.and_assoc];rfl
theorem countL_snoc (l : List Nd) (x : Nd) : countL (l ++ [x]) = countL l + countN x := by
 rw [countL_append]; simp [countL]
theorem depthL_snoc (l : List Nd) (x : Nd) : depthL (l ++ [x]) = max (depthL l) (depthN x) := by
 rw [depthL_append]; simp [depthL]
def frOk : List Fr -> Prop
 | [] => True
 | f :: F => nameR f.name = true /\ soundL 0 f.kids = true /\ depthL f.kids + (F.length + 1) <= 32 /\ frOk F
def frT : List Fr -> Nat
 | [] => 0
 | f :: F => 1 + f.attrs.length + countL f.kids + frT F
def cR (n : Nd) : Nat := if n.kind = 1 then countN n else 0
def total (s : St) : Nat := frT s.opn + cR s.root + s.before.length + s.after.length + (if s.text = [] then 0 else 1)
def misc (l : List Nd) : Prop := ∀ n ∈ l, n.kind = 3 \/ n.kind = 4
structure Inv (s : St) : Prop where
 fr : frOk s.opn
 top : ∀ f F, s.opn = f :: F -> lastK 0 f.kids ≠ 2
 bef : misc s.before
 aft : misc s.after
 tot : total s <= s.nodes
 max : s.nodes <= 4096
 len : s.opn.length <= 32
 out : s.opn = [] -> s.text = []
 root : s.has = true -> s.opn = [] -> s.root.kind = 1 /\ soundN s.root = true /\ depthN s.root <= 32
 no : s.has = false -> cR s.root = 0 /\ s.opn = []
 opn : s.opn ≠ [] -> cR s.root = 0
structure Inv' (s : St) : Prop where
 fr : frOk s.opn
 bef : misc s.before
 aft : misc s.after
 tot : total s <= s.nodes
 max : s.nodes <= 4096
 len : s.opn.length <= 32
 txt : s.text = []
 root : s.has = true -> s.opn = [] -> s.root.kind = 1 /\ soundN s.root = true /\ depthN s.root <= 32
 no : s.has = false -> cR s.root = 0 /\ s.opn = []
 opn : s.opn ≠ [] -> cR s.root = 0
theorem inv_start : Inv .start :=
 ⟨trivial, fun f F h => (by cases h), fun n h => (by cases h), fun n h => (by cases h), by simp [total, St.start, frT, cR, zero, Nd.kind], by simp [St.start], by simp [St.start], fun _ => rfl, fun h => (by cases h), fun _ => ⟨by simp [cR, St.start, zero, Nd.kind], rfl⟩, fun h => absurd rfl h⟩
theorem text_sound {s : Tx} (h : s ≠ []) : soundN (textN s) = true := by
 unfold textN soundN;simp [soundL, okKind, h]
theorem Inv.flush {s : St} (h : Inv s) : Inv' (flush s) := by
 unfold Xt.flush
 by_cases ht : s.text = []
 ·rw [if_pos ht];exact ⟨h.fr, h.bef, h.aft, h.tot, h.max, h.len, ht, h.root, h.no, h.opn⟩
 ·rw [if_neg ht]
  cases ho : s.opn with
  | nil => exact absurd (h.out ho) ht
  | cons f F =>
   have hf := h.fr;have htot := h.tot;have hlen := h.len;have hopn := h.opn (by rw [ho]; simp);have hlast := h.top f F ho;unfold total at htot;rw [ho] at hf htot hlen;obtain ⟨h1, h2, h3, h4⟩ := hf;rw [if_neg ht] at htot;simp only [frT] at htot;unfold put;rw [ho];simp only;refine ⟨⟨h1, ?_, ?_, h4⟩, h.bef, h.aft, ?_, h.max, hlen, rfl, fun _ e => (by cases e), fun e => ⟨hopn, ?_⟩, fun _ => hopn⟩
   ·show soundL 0 (f.kids ++ [textN s.text]) = true
    rw [soundL_snoc, h2, text_sound ht];simp [hlast]
   ·show depthL (f.kids ++ [textN s.text]) + _ <= 32
    rw [depthL_snoc];have : depthN (textN s.text) = 0 := by unfold textN depthN; rw [if_neg (by decide)]
    omega
   ·unfold total;simp only [frT, if_true]
    have : countL (f.kids ++ [textN s.text]) = countL f.kids + 1 := by
     rw [countL_snoc];unfold textN countN;simp [countL]
    rw [this];omega
   ·have := (h.no e).2;rw [ho] at this
    cases this
theorem el_sound {f : Fr} (h1 : nameR f.name = true) (h2 : soundL 0 f.kids = true) : soundN (.mk 1 f.name [] f.attrs f.kids) = true := by
 unfold soundN;simp [okKind, h1, h2]
theorem Inv'.shut {s : St} {f : Fr} {F : List Fr} (h : Inv' s) (ho : s.opn = f :: F) (hh : s.has = true) : Inv (put { s with opn := F } (.mk 1 f.name [] f.attrs f.kids)) := by
 have hf := h.fr;have htot := h.tot;have hlen := h.len;have hopn := h.opn (by rw [ho]; simp);unfold total at htot;rw [ho] at hf htot hlen;rw [if_pos h.txt] at htot;simp only [frT] at htot;obtain ⟨h1, h2, h3, h4⟩ := hf;have hs := el_sound h1 h2;have hd : depthN (.mk 1 f.name [] f.attrs f.kids) = depthL f.kids + 1 := by unfold depthN; rw [if_pos rfl]
 have hc : countN (.mk 1 f.name [] f.attrs f.kids) = 1 + f.attrs.length + countL f.kids := by unfold countN; rfl
 unfold put
 cases F with
 | nil =>
  simp only;rw [if_pos (show (Nd.mk 1 f.name [] f.attrs f.kids).kind = 1 from rfl)];refine ⟨trivial, fun _ _ e => (by cases e), h.bef, h.aft, ?_, h.max, by simp, fun _ => h.txt, fun _ _ => ⟨rfl, hs, ?_⟩, fun e => (by cases e), fun e => absurd rfl e⟩
  ·unfold total;simp only [frT];rw [if_pos h.txt];have : cR (.mk 1 f.name [] f.attrs f.kids) = 1 + f.attrs.length + countL f.kids := by unfold cR; rw [if_pos (show (Nd.mk 1 f.name [] f.attrs f.kids).kind = 1 from rfl), hc]
   rw [this];simp only [frT] at htot;omega
  ·rw [hd];simp at h3;omega
 | cons g G =>
  simp only;obtain ⟨g1, g2, g3, g4⟩ := h4;simp only [List.length_cons] at h3 hlen;refine ⟨⟨g1, ?_, ?_, g4⟩, fun f' F' e => ?_, h.bef, h.aft, ?_, h.max, by simp only [List.length_cons]; omega, fun e => (by cases e), fun _ e => (by cases e), fun e => ?_, fun _ => hopn⟩
  ·show soundL 0 (g.kids ++ [_]) = true
   rw [soundL_snoc, g2, hs];simp [Nd.kind]
  ·show depthL (g.kids ++ [_]) + _ <= 32
   rw [depthL_snoc, hd];omega
  ·injection e with e _;rw [<- e]
   show lastK 0 (g.kids ++ [_]) ≠ 2
   rw [lastK_snoc]
   show (1 : Int) ≠ 2
   decide
  ·unfold total;simp only [frT];rw [if_pos h.txt];have : countL (g.kids ++ [.mk 1 f.name [] f.attrs f.kids]) = countL g.kids + (1 + f.attrs.length + countL f.kids) := by rw [countL_snoc, hc]
   rw [this];simp only [frT] at htot;omega
  ·rw [hh] at e
   cases e
theorem Inv.endT {s : St} {f : Fr} {F : List Fr} (h : Inv s) (ho : s.opn = f :: F) (hh : s.has = true) : Inv (endT s) := by
 have h' := h.flush;have hn := flush_opn s;rw [ho] at hn
 cases hf : (Xt.flush s).opn with
 | nil => rw [hf] at hn; cases hn
 | cons g G =>
  rw [end_of hf];exact h'.shut hf ((flush_has s).trans hh)
theorem flush_total (s : St) (h : Inv s) : total (Xt.flush s) <= total s := by
 unfold Xt.flush
 by_cases ht : s.text = []
 ·rw [if_pos ht]; exact Nat.le_refl _
 ·rw [if_neg ht]
  cases ho : s.opn with
  | nil => exact absurd (h.out ho) ht
  | cons f F =>
   unfold put;rw [ho];simp only;unfold total;rw [ho];simp only [frT, if_true]
   have : countL (f.kids ++ [textN s.text]) = countL f.kids + 1 := by
    rw [countL_snoc];unfold textN countN;simp [countL]
   rw [this, if_neg ht];omega
def TokN (t : Tok) : Prop := t.kind = 1 \/ t.kind = 2 -> nameR t.name = true
theorem Inv.startT {s s' : St} {t : Tok} (h : Inv s) (hn : nameR t.name = true) (hs : startT s t = .ok s') : Inv s' /\ s'.has = true /\ ∃ f F, s'.opn = f :: F := by
 unfold Xt.startT at hs
 split at hs
 ·cases hs
 ·rename_i h1
  split at hs
  ·cases hs
  ·rename_i h2
   split at hs
   ·cases hs
   ·rename_i h3
    have h' := h.flush;have ht := flush_total s h;rw [flush_nodes'] at hs;injection hs with hs;subst hs
    have hno : (Xt.flush s).opn.length = s.opn.length := by
     have := congrArg List.length (flush_opn s)
     simpa using this
    have hhas := flush_has s;have hnil : (Xt.flush s).opn = [] ↔ s.opn = [] := nil_of_names (flush_opn s);have htot := h.tot
    have hc : cR (Xt.flush s).root = 0 := by
     by_cases ho : s.opn = []
     ·have : s.has = false := by
       cases hb : s.has with
       | false => rfl
       | true => exact absurd ⟨ho, hb⟩ h3
      exact (h'.no (hhas.trans this)).1
     ·exact h'.opn (fun e => ho (hnil.1 e))
    refine ⟨⟨⟨hn, by simp [soundL], ?_, h'.fr⟩, fun f F e => ?_, h'.bef, h'.aft, ?_, by show s.nodes + _ <= 4096; omega, by show ((Xt.flush s).opn.length + 1) <= 32; omega, fun e => (by cases e), fun _ e => (by cases e), fun e => ?_, fun _ => hc⟩, ?_, _, _, rfl⟩
    ·show depthL [] + ((Xt.flush s).opn.length + 1) <= 32
     simp [depthL];omega
    ·injection e with e _;rw [<- e]
     show (0 : Int) ≠ 2
     decide
    ·unfold total at ht ⊢;simp only [frT]
     show 1 + t.attrs.length + countL [] + frT (Xt.flush s).opn + cR (Xt.flush s).root + (Xt.flush s).before.length + (Xt.flush s).after.length + (if (Xt.flush s).text = [] then 0 else 1) <= s.nodes + (1 + t.attrs.length)
     have : countL [] = 0 := rfl;unfold total at htot;omega
    ·have e' : ((Xt.flush s).has || decide ((Xt.flush s).opn = [])) = false := e;rw [Bool.or_eq_false_iff] at e';have := (h'.no e'.1).2;exact absurd this (of_decide_eq_false e'.2)
    ·show ((Xt.flush s).has || decide ((Xt.flush s).opn = [])) = true
     cases hb : s.has with
     | true => rw [hhas, hb]; rfl
     | false =>
      have := (h.no hb).2;rw [decide_eq_true (hnil.2 this), Bool.or_true]
theorem Inv.otherT {s s' : St} {t : Tok} {k : Int} (h : Inv s) (hk : k = 3 \/ k = 4) (hs : otherT s t k = .ok s') : Inv s' := by
 unfold Xt.otherT at hs
 split at hs
 ·cases hs
 ·rename_i h1
  have h' := h.flush;have ht := flush_total s h;have htot := h.tot;rw [flush_nodes', put_setN] at hs;injection hs with hs;subst hs;have hkk : (Nd.mk k t.name t.text [] []).kind = k := rfl;have hc1 : countN (.mk k t.name t.text [] []) = 1 := by unfold countN; simp [countL]
  unfold put
  cases ho : (Xt.flush s).opn with
  | nil =>
   simp only;rw [if_neg (by rw [hkk]; omega)];have hm : misc [Nd.mk k t.name t.text [] []] := fun n hn => by rw [List.mem_singleton.1 hn]; exact hk
   unfold total at ht htot;rw [ho] at ht
   cases hb : (Xt.flush s).has with
   | true =>
    rw [if_pos rfl];refine ⟨trivial, fun f F e => (by cases e), h'.bef, fun n hn => ?_, ?_, by show s.nodes + 1 <= 4096; omega, Nat.zero_le _, fun _ => h'.txt, fun _ _ => h'.root hb ho, fun e1 => (by cases e1), fun e1 => absurd rfl e1⟩
    ·rcases List.mem_append.1 hn with hn | hn
     ·exact h'.aft n hn
     ·exact hm n hn
    ·unfold total
     show frT [] + cR (Xt.flush s).root + (Xt.flush s).before.length + ((Xt.flush s).after ++ [_]).length + (if (Xt.flush s).text = [] then 0 else 1) <= s.nodes + 1
     rw [List.length_append, List.length_singleton];omega
   | false =>
    rw [if_neg (by decide)];refine ⟨trivial, fun f F e => (by cases e), fun n hn => ?_, h'.aft, ?_, by show s.nodes + 1 <= 4096; omega, Nat.zero_le _, fun _ => h'.txt, fun e1 _ => (by cases e1), fun _ => ⟨(h'.no hb).1, rfl⟩, fun e1 => absurd rfl e1⟩
    ·rcases List.mem_append.1 hn with hn | hn
     ·exact h'.bef n hn
     ·exact hm n hn
    ·unfold total
     show frT [] + cR (Xt.flush s).root + ((Xt.flush s).before ++ [_]).length + (Xt.flush s).after.length + (if (Xt.flush s).text = [] then 0 else 1) <= s.nodes + 1
     rw [List.length_append, List.length_singleton];omega
  | cons f F =>
   simp only;have hf := h'.fr;have hlen := h'.len;rw [ho] at hf hlen;obtain ⟨f1, f2, f3, f4⟩ := hf;have hopn := h'.opn (by rw [ho]; simp)
   have hso : soundN (.mk k t.name t.text [] []) = true := by
    unfold soundN;rcases hk with rfl | rfl <;> simp [soundL, okKind]
   unfold total at ht htot;rw [ho] at ht;simp only [frT] at ht;refine ⟨⟨f1, ?_, ?_, f4⟩, fun f' F' e => ?_, h'.bef, h'.aft, ?_, by show s.nodes + 1 <= 4096; omega, hlen, fun e => (by cases e), fun _ e => (by cases e), fun e => ⟨hopn, ?_⟩, fun _ => hopn⟩
   ·show soundL 0 (f.kids ++ [_]) = true
    rw [soundL_snoc, f2, hso, hkk, decide_eq_false (by omega)];rfl
   ·show depthL (f.kids ++ [_]) + _ <= 32
    rw [depthL_snoc];have : depthN (.mk k t.name t.text [] []) = 0 := by unfold depthN; rw [if_neg (by omega)]
    omega
   ·have e2 : ({ f with kids := f.kids ++ [Nd.mk k t.name t.text [] []] } : Fr) :: F = f' :: F' := e;injection e2 with e2 _;rw [<- e2]
    show lastK 0 (f.kids ++ [_]) ≠ 2
    rw [lastK_snoc, hkk];omega
   ·unfold total
    show frT ({ f with kids := f.kids ++ [Nd.mk k t.name t.text [] []] } :: F) + cR (Xt.flush s).root + (Xt.flush s).before.length + (Xt.flush s).after.length + (if (Xt.flush s).text = [] then 0 else 1) <= s.nodes + 1
    simp only [frT];have : countL (f.kids ++ [.mk k t.name t.text [] []]) = countL f.kids + 1 := (by rw [countL_snoc, hc1]);rw [this];omega
   ·have := (h'.no e).2;rw [ho] at this
    cases this
theorem Inv.charsT {s s' : St} {t : Tok} (h : Inv s) (hs : charsT s t = .ok s') : Inv s' := by
 unfold Xt.charsT at hs
 split at hs
 ·split at hs
  ·cases hs
  ·injection hs with hs;rw [<- hs];exact h
 ·rename_i h0
  have htot := h.tot;unfold total at htot
  split at hs
  ·rename_i h1
   split at hs
   ·cases hs
   ·rename_i h2
    injection hs with hs;subst hs;refine ⟨h.fr, h.top, h.bef, h.aft, ?_, by show s.nodes + 1 <= 4096; omega, h.len, fun e => absurd e h0, h.root, h.no, h.opn⟩;unfold total
    show frT s.opn + cR s.root + s.before.length + s.after.length + (if s.text ++ t.text = [] then 0 else 1) <= s.nodes + 1
    rw [if_pos h1.1] at htot
    split <;> omega
  ·rename_i h1
   injection hs with hs;subst hs;refine ⟨h.fr, h.top, h.bef, h.aft, ?_, h.max, h.len, fun e => absurd e h0, h.root, h.no, h.opn⟩;unfold total
   show frT s.opn + cR s.root + s.before.length + s.after.length + (if s.text ++ t.text = [] then 0 else 1) <= s.nodes
   by_cases ht : s.text = []
   ·have ht2 : t.text = [] := Classical.byContradiction fun e => h1 ⟨ht, e⟩
    rw [ht, ht2];rw [if_pos ht] at htot
    simpa using htot
   ·rw [if_neg ht] at htot
    split <;> omega
theorem Inv.stepT {s s' : St} {t : Tok} (h : Inv s) (hn : TokN t) (hs : stepT s t = .ok s') : Inv s' := by
 unfold Xt.stepT at hs
 split at hs
 ·rename_i k1
  exact (h.startT (hn (.inl k1)) hs).1
 ·split at hs
  ·rename_i k2
   cases hst : Xt.startT s t with
   | error e => rw [hst] at hs; cases hs
   | ok s2 =>
    rw [hst] at hs;injection hs with hs;obtain ⟨g1, g2, f, F, g3⟩ := h.startT (hn (.inr k2)) hst;rw [<- hs];exact g1.endT g3 g2
  ·split at hs
   ·split at hs
    ·cases hs
    ·rename_i f F ho
     split at hs
     ·injection hs with hs;rw [<- hs];refine h.endT ho ?_
      cases hb : s.has with
      | true => rfl
      | false => have := (h.no hb).2; rw [ho] at this; cases this
     ·cases hs
   ·split at hs
    ·exact h.otherT (.inl rfl) hs
    ·split at hs
     ·exact h.otherT (.inr rfl) hs
     ·exact h.charsT hs
theorem step_no0 {s : St} {t : Tok} {e : Int} (h : stepT s t = .error e) : e ≠ 0 := by
 have st : ∀ {e}, Xt.startT s t = .error e -> e ≠ 0 := by
  intro e h;unfold Xt.startT at h
  repeat' split at h
  all_goals first | (injection h with h; subst h; decide) | cases h
 unfold Xt.stepT at h
 split at h
 ·exact st h
 ·split at h
  ·cases hst : Xt.startT s t with
   | error e2 => rw [hst] at h; injection h with h; subst h; exact st hst
   | ok s2 => rw [hst] at h; cases h
  ·split at h
   ·repeat' split at h
    all_goals first | (injection h with h; subst h; decide) | cases h
   ·unfold Xt.otherT Xt.charsT at h
    repeat' split at h
    all_goals first | (injection h with h; subst h; decide) | cases h
end Go.Proofs.YtokdnhdfmgfkeaaGreatDoor.Xt
end

section
namespace Go.Proofs.YtokdnhdfmgfkeaaGreatDoor.Xl
open Go.RowKit UtfW
theorem valF_out : ∀ {f : Nat} {q : UInt8} {r out v : Tx} {n : Nat}, valF f q r out = .ok v n -> v.length <= out.length + 4 * n
 | 0, q, r, out, v, n, h => by cases h
 | f + 1, q, [], out, v, n, h => by cases h
 | f + 1, q, c :: t, out, v, n, h => by
  rw [valF] at h
  split at h
  ·injection h with h1 h2; subst h1; omega
  ·split at h
   ·cases h
   ·split at h
    ·cases hr : refR t with
     | bad e o => rw [hr] at h; cases h
     | ok u m =>
      rw [hr] at h;obtain ⟨p, hp, rfl⟩ := shift_ok h;have g1 := (refR_len hr).1;have g2 := valF_out hp;have g3 := refR_v hr;rw [List.length_append] at g2;omega
    ·split at h
     ·obtain ⟨p, hp, rfl⟩ := shift_ok h;have g1 := (line_len (c := c) t).1;have g2 := valF_out hp;simp at g2;omega
     ·obtain ⟨p, hp, rfl⟩ := shift_ok h;have g2 := valF_out hp;simp at g2;omega
theorem value_out {r v : Tx} {n : Nat} (h : value r = .ok v n) : v.length <= 4 * n := by
 cases r with
 | nil => cases h
 | cons q t =>
  rw [value] at h
  split at h
  ·obtain ⟨p, hp, rfl⟩ := shift_ok h;have := valF_out hp;simp at this;omega
  ·cases h
theorem textF_out : ∀ {f : Nat} {r out v : Tx} {n : Nat}, textF f r out = .ok v n -> v.length <= out.length + 4 * n
 | 0, r, out, v, n, h => by cases h
 | f + 1, [], out, v, n, h => by injection h with h1 h2; subst h1; omega
 | f + 1, c :: t, out, v, n, h => by
  rw [textF] at h
  split at h
  ·injection h with h1 h2; subst h1; omega
  ·split at h
   ·cases hr : refR t with
    | bad e o => rw [hr] at h; cases h
    | ok u m =>
     rw [hr] at h;obtain ⟨p, hp, rfl⟩ := shift_ok h;have g1 := (refR_len hr).1;have g2 := textF_out hp;have g3 := refR_v hr;rw [List.length_append] at g2;omega
   ·split at h
    ·obtain ⟨p, hp, rfl⟩ := shift_ok h;have g1 := (line_len (c := c) t).1;have g2 := textF_out hp;simp at g2;omega
    ·split at h
     ·cases h
     ·obtain ⟨p, hp, rfl⟩ := shift_ok h;have g2 := textF_out hp;simp at g2;omega
def AtSz (M : Nat) (a : At) : Prop := a.1.length <= M /\ a.2.length <= M
theorem attr_out {there : List At} {r : Tx} {a : At} {n M : Nat} (h : attr there r = .ok a n) (hM : 4 * r.length <= M) : AtSz M a := by
 have hl := attr_len h;unfold attr at h
 cases hn : name r with
 | bad c o => rw [hn] at h; cases h
 | ok nm n1 =>
  rw [hn] at h;simp only at h;obtain ⟨g1, g2, g3, _⟩ := name_len hn
  split at h
  ·cases h
  ·split at h
   ·cases h
   ·rename_i u m he
    split at h
    ·cases h
    ·rename_i v n2 hv
     injection h with h1 h2;have g5 := value_out hv;subst h1;have g6 : nm.length <= r.length := by rw [g3, List.length_take]; omega
     exact ⟨by show nm.length <= M; omega, by show v.length <= M; omega⟩
theorem tagF_out {M : Nat} : ∀ {f : Nat} {r : Tx} {ats : List At} {v : Bool × List At} {n : Nat}, tagF f r ats = .ok v n -> 4 * r.length <= M -> (∀ a ∈ ats, AtSz M a) -> ∀ a ∈ v.2, AtSz M a
 | 0, r, ats, v, n, h, hM, ho => by cases h
 | f + 1, r, ats, v, n, h, hM, ho => by
  have hb := blanks_le r
  cases hd : r.drop (blanks r) with
  | nil => rw [tagF_nil f ats hd] at h; cases h
  | cons c t =>
   have hl : (c :: t).length = r.length - blanks r := by rw [<- hd, List.length_drop]
   rw [tagF_cons f ats hd] at h
   by_cases h1 : c = 62
   ·rw [if_pos h1] at h;injection h with h1 h2;subst h1;exact ho
   ·rw [if_neg h1] at h
    by_cases h2 : c = 47
    ·rw [if_pos h2] at h
     cases he : eat [47, 62] (c :: t) with
     | bad e o => rw [he] at h; cases h
     | ok u m =>
      rw [he] at h;injection h with h1 h2;subst h1;exact ho
    ·rw [if_neg h2] at h
     by_cases h3 : blanks r = 0
     ·rw [if_pos h3] at h; cases h
     ·rw [if_neg h3] at h
      cases ha : attr ats (c :: t) with
      | bad e o => rw [ha] at h; cases h
      | ok a m =>
       rw [ha] at h;obtain ⟨p, hp, rfl⟩ := shift_ok h;refine tagF_out hp (by rw [List.length_drop]; omega) fun x hx => ?_
       rcases List.mem_append.1 hx with hx | hx
       ·exact ho x hx
       ·rw [List.mem_singleton.1 hx];exact attr_out ha (by omega)
structure TokSz (M : Nat) (t : Tok) : Prop where
 name : t.name.length <= M
 text : t.text.length <= M
 attrs : ∀ a ∈ t.attrs, AtSz M a
theorem name_out {r x : Tx} {n : Nat} (h : name r = .ok x n) : x.length <= r.length := by
 obtain ⟨_, _, g3, _⟩ := name_len h;rw [g3, List.length_take];omega
theorem upto_out {t r x : Tx} {n : Nat} (h : upto t r = .ok x n) : (Utf.lines x).length <= r.length := by
 obtain ⟨g1, g2, _⟩ := upto_len h;have := Utf.lines_len x;omega
section
variable {r : Tx} {t : Tok} {n M : Nat}
theorem tag_out (h : tag r = .ok t n) (hM : 4 * r.length <= M) : TokSz M t := by
 unfold tag at h
 split at h
 ·cases h
 ·rename_i nm m hn
  have g := name_out hn;rw [List.length_drop] at g
  split at h
  ·cases h
  ·rename_i e ats p ht
   injection h with h1 h2;subst h1;exact ⟨by simp only; omega, by simp, tagF_out ht (by rw [List.length_drop]; omega) (fun a ha => by cases ha)⟩
theorem instr_out (h : instr r = .ok t n) (hM : 4 * r.length <= M) : TokSz M t := by
 unfold instr at h
 split at h
 ·cases h
 ·rename_i nm m hn
  have g := name_out hn;rw [List.length_drop] at g
  split at h
  ·cases h
  ·split at h
   ·split at h
    ·cases h
    ·injection h with h1 h2;subst h1;exact ⟨by simp only; omega, by simp, fun a ha => by cases ha⟩
   ·split at h
    ·cases h
    ·rename_i x p hu
     injection h with h1 h2;subst h1;have g2 := upto_out hu;rw [List.length_drop] at g2;exact ⟨by simp only; omega, by simp only; omega, fun a ha => by cases ha⟩
theorem comment_out (h : comment r = .ok t n) (hM : 4 * r.length <= M) : TokSz M t := by
 unfold comment at h
 split at h
 ·cases h
 ·rename_i x m hu
  have g2 := upto_out hu;rw [List.length_drop] at g2
  split at h
  ·cases h
  ·split at h
   ·injection h with h1 h2;subst h1;exact ⟨by simp, by simp only; omega, fun a ha => by cases ha⟩
   ·cases h
theorem cdata_out (h : cdata r = .ok t n) (hM : 4 * r.length <= M) : TokSz M t := by
 unfold cdata at h
 split at h
 ·cases h
 ·rename_i x m hu
  have g2 := upto_out hu;rw [List.length_drop] at g2;injection h with h1 h2;subst h1;exact ⟨by simp, by simp only; omega, fun a ha => by cases ha⟩
theorem endT_out (h : endT r = .ok t n) (hM : 4 * r.length <= M) : TokSz M t := by
 unfold endT at h
 split at h
 ·cases h
 ·rename_i nm m hn
  have g := name_out hn;rw [List.length_drop] at g
  split at h
  ·cases h
  ·injection h with h1 h2;subst h1;exact ⟨by simp only; omega, by simp, fun a ha => by cases ha⟩
theorem token_out (h : token r = .ok t n) (hM : 4 * r.length <= M) : TokSz M t := by
 unfold token at h
 split at h
 ·unfold chars at h
  split at h
  ·cases h
  ·rename_i x m ht
   injection h with h1 h2;subst h1;have g1 := textF_len ht;have g2 := textF_out ht;simp at g2;exact ⟨by simp, by simp only; omega, fun a ha => by cases ha⟩
 ·split at h
  ·unfold mark at h
   split at h
   ·exact comment_out h hM
   ·split at h
    ·exact cdata_out h hM
    ·split at h <;> cases h
  ·split at h
   ·exact instr_out h hM
   ·split at h
    ·exact endT_out h hM
    ·exact tag_out h hM
end
theorem runF_out {M : Nat} : ∀ (f : Nat) {r : Tx} {k : Nat} {ts us : List Tok} {c : Int} {p : Nat}, runF f r k ts = (c, p, us) -> 4 * r.length <= M -> (∀ t ∈ ts, TokSz M t) -> ∀ t ∈ us, TokSz M t
 | 0, r, k, ts, us, c, p, h, hM, ho => by
  injection h with _ h;injection h with _ h;subst h;exact ho
 | f + 1, r, k, ts, us, c, p, h, hM, ho => by
  rw [runF] at h
  split at h
  ·injection h with _ h;injection h with _ h;subst h;exact ho
  ·cases ht : token r with
   | bad c o =>
    rw [ht] at h;injection h with _ h;injection h with _ h;subst h;exact fun t h => by cases h
   | ok t n =>
    rw [ht] at h;refine runF_out f h (by rw [List.length_drop]; omega) fun x hx => ?_
    rcases List.mem_append.1 hx with hx | hx
    ·exact ho x hx
    ·rw [List.mem_singleton.1 hx];have g := token_out ht hM;exact ⟨g.name, g.text, g.attrs⟩
theorem allF_out {S : Tx} {ts : List Tok} {c : Int} {p : Nat} (h : allF S = (c, p, ts)) : ∀ t ∈ ts, TokSz (4 * S.length) t := by
 have none_ : ∀ {c : Int} {p : Nat} {c' : Int} {p' : Nat}, (c', p', ([] : List Tok)) = (c, p, ts) -> ∀ t ∈ ts, TokSz (4 * S.length) t := fun h => by
  injection h with _ h;injection h with _ h;subst h;exact fun t h => by cases h
 unfold allF at h
 split at h
 ·exact none_ h
 ·split at h
  ·exact none_ h
  ·split at h
   ·exact none_ h
   ·exact runF_out _ h (by rw [List.length_drop]; omega) (fun t h => by cases h)
end Go.Proofs.YtokdnhdfmgfkeaaGreatDoor.Xl
end

section
namespace Go.Proofs.YtokdnhdfmgfkeaaGreatDoor.Xo
open Go.RowKit UtfW Qx Xl Xt
/-! ### Tokens -/
theorem attrsOk_snoc (a : At) : ∀ (l : List At) (seen : List Tx), attrsOk seen (l ++ [a]) = (attrsOk seen l && (nameR a.1 && good a.2 && decide (a.1 ∉ seen ++ l.map (·.1))))
 | [], seen => by simp [attrsOk]
 | b :: l, seen => by
  rw [List.cons_append, attrsOk, attrsOk, attrsOk_snoc a l];simp only [List.map_cons, List.append_assoc, List.singleton_append, Bool.and_assoc]
theorem find_take {a b : UInt8} : ∀ {r : Tx} {n : Nat}, find [a, b] r = some n -> find [a, b] (r.take n) = none /\ (a = b -> (r.take n).getLast? ≠ some a)
 | [], n, h => by rw [find] at h; simp at h
 | c :: r, n, h => by
  rw [find] at h
  split at h
  ·injection h with h;subst h;rw [List.take_zero];exact ⟨by rw [find]; simp, fun _ => by simp⟩
  ·rename_i hp
   cases hr : find [a, b] r with
   | none => rw [hr] at h; cases h
   | some m =>
    rw [hr] at h;injection h with h;subst h;obtain ⟨g1, g2⟩ := find_take hr;rw [List.take_succ_cons];constructor
    ·rw [find, if_neg, g1]
     ·rfl
     ·intro hq;apply hp
      cases r with
      | nil => simp [List.isPrefixOf] at hq
      | cons d r =>
       cases m with
       | zero => simp [List.isPrefixOf] at hq
       | succ m => simpa [List.isPrefixOf] using hq
    ·intro e
     cases hm : r.take m with
     | nil =>
      intro hl;simp at hl;apply hp;obtain ⟨k1, x, k2⟩ := find_len hr;rw [hm] at k2;rw [k2, <- hl, <- e];simp [List.isPrefixOf, hl]
     | cons d l =>
      rw [List.getLast?_cons_cons, <- hm];exact g2 e
theorem lines_hd : ∀ {t : Tx} {b : UInt8}, (Utf.lines t).head? = some b -> b ≠ 10 -> t.head? = some b
 | [], b, h, hb => by rw [Utf.lines] at h; cases h
 | c :: t, b, h, hb => by
  rw [Utf.lines] at h
  split at h
  ·split at h
   ·rename_i h10
    have := lines_hd h hb;rw [h10] at this;injection this with this;exact absurd this.symm hb
   ·simp at h;exact absurd h.symm hb
  ·simpa using h
theorem find_lines {a b : UInt8} (ha : a ≠ 10) (hb : b ≠ 10) : ∀ {x : Tx}, find [a, b] x = none -> find [a, b] (Utf.lines x) = none
 | [], _ => by rw [Utf.lines, find]; simp
 | c :: t, h => by
  rw [find] at h
  split at h
  ·cases h
  ·rename_i hp
   have ht : find [a, b] t = none := by
    cases ht : find [a, b] t with
    | none => rfl
    | some m => rw [ht] at h; cases h
   have i1 := find_lines ha hb ht;rw [Utf.lines]
   split
   ·split
    ·exact i1
    ·rw [find, if_neg, i1]
     ·rfl
     ·intro hq;simp [List.isPrefixOf] at hq;exact ha hq.1
   ·rw [find, if_neg, i1]
    ·rfl
    ·intro hq;apply hp
     cases hl : Utf.lines t with
     | nil => rw [hl] at hq; simp [List.isPrefixOf] at hq
     | cons d l =>
      rw [hl] at hq;simp [List.isPrefixOf] at hq;have h1 := lines_hd (t := t) (b := b) (by rw [hl, hq.2]; rfl) hb
      cases t with
      | nil => cases h1
      | cons e t =>
       simp at h1;simp [List.isPrefixOf, hq.1, h1]
theorem lines_nil : ∀ {t : Tx}, Utf.lines t = [] -> t = []
 | [], _ => rfl
 | c :: t, h => by
  rw [Utf.lines] at h
  split at h
  ·split at h
   ·rename_i h10
    rw [lines_nil h] at h10;cases h10
   ·cases h
  ·cases h
theorem last_lines {a : UInt8} (ha : a ≠ 10) : ∀ {x : Tx}, (Utf.lines x).getLast? = some a -> x.getLast? = some a
 | [], h => by rw [Utf.lines] at h; cases h
 | c :: t, h => by
  have cons_last : ∀ {d : UInt8} {l : Tx}, l.getLast? = some a -> (d :: l).getLast? = some a := fun {d l} hl => by
   cases l with
   | nil => cases hl
   | cons e l => rw [List.getLast?_cons_cons]; exact hl
  have one : ∀ {d : UInt8} {l : Tx}, (d :: l).getLast? = some a -> (l = [] /\ d = a) \/ l.getLast? = some a := fun {d l} hl => by
   cases l with
   | nil => simp at hl; exact .inl ⟨rfl, hl⟩
   | cons e l => rw [List.getLast?_cons_cons] at hl; exact .inr hl
  rw [Utf.lines] at h
  split at h
  ·split at h
   ·exact cons_last (last_lines ha h)
   ·rcases one h with ⟨_, h⟩ | h
    ·exact absurd h.symm ha
    ·exact cons_last (last_lines ha h)
  ·rcases one h with ⟨h1, h⟩ | h
   ·rw [lines_nil h1, h];rfl
   ·exact cons_last (last_lines ha h)
theorem no13 (x : Tx) : 13 ∉ Utf.lines x := fun h => Utf.lines_no13 x 13 h rfl
structure TokF (t : Xl.Tok) : Prop where
 tag : t.kind = 1 \/ t.kind = 2 -> attrsOk [] t.attrs = true
 text : V t.text
 co : t.kind = 6 -> t.name = [] /\ plainT t.text = true /\ find [45, 45] t.text = none /\ t.text.getLast? ≠ some 45
 pi : t.kind = 7 -> nameR t.name = true /\ t.name.map low ≠ xml3 /\ plainT t.text = true /\ find [63, 62] t.text = none /\ headOk t.text = true
theorem plain_lines {x : Tx} (h : V x) : plainT (Utf.lines x) = true := by
 unfold plainT;rw [V_good (V.lines _ (Nat.le_refl _) h), Bool.true_and, decide_eq_true_eq];exact no13 x
theorem attr_ok {there : List At} {r : Tx} {a : At} {n : Nat} (hv : V r) (h : attr there r = .ok a n) : nameR a.1 = true /\ good a.2 = true /\ a.1 ∉ there.map (·.1) := by
 obtain ⟨⟨g1, g2⟩, _⟩ := attr_V hv h;refine ⟨g1, V_good g2, ?_⟩;unfold attr at h
 split at h
 ·cases h
 ·split at h
  ·cases h
  ·rename_i hn
   split at h
   ·cases h
   ·split at h
    ·cases h
    ·injection h with h _;rw [<- h];exact hn
theorem tagF_ok : ∀ {f : Nat} {r : Tx} {ats : List At} {v : Bool × List At} {n : Nat}, V r -> tagF f r ats = .ok v n -> attrsOk [] ats = true -> attrsOk [] v.2 = true
 | 0, r, ats, v, n, _, h, _ => by cases h
 | f + 1, r, ats, v, n, hv, h, ha => by
  have hb := blanks_V hv
  cases hd : r.drop (blanks r) with
  | nil => rw [tagF_nil f ats hd] at h; cases h
  | cons c t =>
   rw [hd] at hb;rw [tagF_cons f ats hd] at h
   split at h
   ·injection h with h _;rw [<- h];exact ha
   ·split at h
    ·split at h
     ·cases h
     ·injection h with h _;rw [<- h];exact ha
    ·split at h
     ·cases h
     ·cases hat : attr ats (c :: t) with
      | bad e o => rw [hat] at h; cases h
      | ok a m =>
       rw [hat] at h;obtain ⟨p, hp, _⟩ := shift_ok h;obtain ⟨g1, g2, g3⟩ := attr_ok hb hat;obtain ⟨_, g4⟩ := attr_V hb hat;refine tagF_ok g4 hp ?_;rw [attrsOk_snoc, ha, g1, g2, List.nil_append]
       simpa using g3
theorem headOk_lines {x : Tx} (h : headOk x = true) : headOk (Utf.lines x) = true := by
 cases x with
 | nil => rw [Utf.lines]; rfl
 | cons c t =>
  have h2 : Qx.blank c = false := by simpa [headOk] using h
  have h3 : c ≠ 13 := fun e => by rw [e] at h2; exact absurd h2 (by decide)
  rw [Utf.lines, if_neg h3];exact h
theorem blanks_head (r : Tx) : headOk (r.drop (blanks r)) = true := by
 unfold blanks
 induction r with
 | nil => rfl
 | cons c r ih =>
  rw [List.takeWhile_cons]
  split
  ·rw [List.length_cons, List.drop_succ_cons];exact ih
  ·rename_i hb
   show headOk (c :: r) = true
   simp [headOk, hb]
theorem headOk_take {r : Tx} (h : headOk r = true) (n : Nat) : headOk (r.take n) = true := by
 cases r with
 | nil => rw [List.take_nil]; rfl
 | cons c r =>
  cases n with
  | zero => rfl
  | succ n => rw [List.take_succ_cons]; exact h
theorem tag_F {r : Tx} {t : Xl.Tok} {n : Nat} (hv : V (r.drop 1)) (h : tag r = .ok t n) : TokF t := by
 have hV := (tag_V hv h).1.text;unfold tag at h
 split at h
 ·cases h
 ·rename_i nm m hn
  obtain ⟨g1, g2, g3⟩ := name_V hv hn;rw [List.drop_drop] at g3
  split at h
  ·cases h
  ·rename_i e ats p ht
   injection h with h1 h2;subst h1;exact ⟨fun _ => tagF_ok g3 ht rfl, hV, fun e2 => (by cases e <;> simp at e2), fun e2 => (by cases e <;> simp at e2)⟩
theorem instr_F {r : Tx} {t : Xl.Tok} {n : Nat} (hv : V (r.drop 2)) (h : instr r = .ok t n) : TokF t := by
 have hV := (instr_V hv h).1.text;unfold instr at h
 split at h
 ·cases h
 ·rename_i nm m hn
  obtain ⟨g1, g2, g3⟩ := name_V hv hn;rw [List.drop_drop] at g3
  split at h
  ·cases h
  ·rename_i hx
   split at h
   ·split at h
    ·cases h
    ·injection h with h1 h2;subst h1;exact ⟨fun e => (by rcases e with e | e <;> cases e), hV, fun e => (by cases e), fun _ => ⟨g1, hx, (by decide +kernel : plainT [] = true), (by decide : find [63, 62] [] = none), rfl⟩⟩
   ·have g4 := blanks_V g3;have g5 := blanks_head (r.drop (2 + m));rw [List.drop_drop] at g4 g5
    split at h
    ·cases h
    ·rename_i x p hu
     obtain ⟨g6, _⟩ := upto_V g4 hu (by decide);injection h with h1 h2;subst h1;unfold upto at hu
     split at hu
     ·cases hu
     ·rename_i k hk
      injection hu with hu _;refine ⟨fun e => (by rcases e with e | e <;> cases e), hV, fun e => (by cases e), fun _ => ⟨g1, hx, plain_lines g6, find_lines (by decide) (by decide) ?_, headOk_lines ?_⟩⟩
      ·rw [<- hu]; exact (find_take hk).1
      ·rw [<- hu]; exact headOk_take g5 _
theorem comment_F {r : Tx} {t : Xl.Tok} {n : Nat} (hv : V (r.drop 4)) (h : comment r = .ok t n) : TokF t := by
 have hV := (comment_V hv h).1.text;unfold comment at h
 split at h
 ·cases h
 ·rename_i x m hu
  obtain ⟨g5, g6⟩ := upto_V hv hu (by decide)
  split at h
  ·cases h
  ·split at h
   ·injection h with h1 h2;subst h1;unfold upto at hu
    split at hu
    ·cases hu
    ·rename_i k hk
     injection hu with hu _;obtain ⟨k1, k2⟩ := find_take hk;rw [hu] at k1 k2;exact ⟨fun e => (by rcases e with e | e <;> cases e), hV, fun _ => ⟨rfl, plain_lines g5, find_lines (by decide) (by decide) k1, fun e => k2 rfl (last_lines (by decide) e)⟩, fun e => (by cases e)⟩
   ·cases h
theorem token_F {r : Tx} {t : Xl.Tok} {n : Nat} (hv : V r) (h : Xl.token r = .ok t n) : TokF t := by
 have hV := (token_V hv h).1.text
 have other : ∀ k, t.kind = k -> k ≠ 1 -> k ≠ 2 -> k ≠ 6 -> k ≠ 7 -> TokF t := fun k e h1 h2 h6 h7 => by
  subst e;exact ⟨fun q => (q.elim (fun q => absurd q h1) fun q => absurd q h2), hV, fun q => absurd q h6, fun q => absurd q h7⟩
 unfold Xl.token at h
 split at h
 ·exact other 4 (chars_V hv h).2.2 (by decide) (by decide) (by decide) (by decide)
 ·rename_i h1
  split at h
  ·unfold Xl.mark at h
   split at h
   ·rename_i hp
    exact comment_F (V.past hv hp (by decide)) h
   ·split at h
    ·unfold cdata at h
     split at h
     ·cases h
     ·injection h with h _;exact other 5 (by rw [<- h]) (by decide) (by decide) (by decide) (by decide)
    ·split at h <;> cases h
  ·split at h
   ·rename_i hp
    exact instr_F (V.past hv hp (by decide)) h
   ·split at h
    ·unfold Xl.endT at h
     split at h
     ·cases h
     ·split at h
      ·cases h
      ·injection h with h _;exact other 3 (by rw [<- h]) (by decide) (by decide) (by decide) (by decide)
    ·obtain ⟨s, rfl⟩ := head_60 h1;exact tag_F (r := 60 :: s) (hv.tail (by decide)) h
/-! ### The builder -/
mutual
def okN : Nd -> Bool
 | .mk k nm tx as_ ks =>
  if k = 1 then attrsOk [] as_ && okL ks
  else as_.isEmpty && ks.isEmpty && (if k = 2 then decide (nm = []) && good tx
   else if k = 3 then decide (nm = []) && plainT tx && (find [45, 45] tx).isNone && decide (tx.getLast? ≠ some 45)
   else if k = 4 then nameR nm && decide (nm.map low ≠ xml3) && plainT tx && (find [63, 62] tx).isNone && headOk tx
   else true)
def okL : List Nd -> Bool
 | [] => true
 | x :: xs => okN x && okL xs
end
structure Ok2 (s : St) : Prop where
 bef : okL s.before = true
 aft : okL s.after = true
 root : okN s.root = true
 fr : ∀ f ∈ s.opn, attrsOk [] f.attrs = true /\ okL f.kids = true
 text : V s.text
theorem Ok2.nodes {s : St} (h : Ok2 s) (n : Nat) : Ok2 { s with nodes := n } := ⟨h.bef, h.aft, h.root, h.fr, h.text⟩
end Go.Proofs.YtokdnhdfmgfkeaaGreatDoor.Xo
end

section
namespace Go.Proofs.YtokdnhdfmgfkeaaGreatDoor.Xo
open Go.RowKit UtfW Qx Xl Xt
theorem esc1_len (v : Bool) (c : UInt8) : (esc1 v c).length <= 6 := by
 rcases esc1_cases v c with ⟨e, _⟩ | ⟨e, he, _, _, _, hl⟩
 ·rw [e]; simp
 ·rw [he]; simp; exact hl
theorem esc_len (v : Bool) : ∀ s : Tx, (esc v s).length <= 6 * s.length
 | [] => by simp [esc]
 | c :: s => by
  have h1 := esc1_len v c;have h2 := esc_len v s;rw [esc, List.length_append, List.length_cons];omega
theorem refV_one : ∀ c : Fin 256, refV [UInt8.ofNat c.val] = none := by decide +kernel
theorem refR_le {t v : Tx} {n : Nat} (h : refR t = .ok v n) : v.length <= n := by
 have h4 := refR_v h;unfold refR at h
 cases hf : find [59] t with
 | none => rw [hf] at h; cases h
 | some m =>
  rw [hf] at h;simp only at h;obtain ⟨g1, _⟩ := find_len hf;simp at g1
  split at h
  ·cases h
  ·rename_i x hx
   injection h with h1 h2
   have hm : 2 <= m := by
    refine Classical.byContradiction fun hne => ?_
    have hl : (t.take m).length = m := by rw [List.length_take]; omega
    match hz : t.take m with
    | [] =>
     rw [hz] at hx;have h0 : refV [] = none := (by decide);rw [h0] at hx;cases hx
    | [c] =>
     rw [hz] at hx;have := refV_one ⟨c.toNat, c.toNat_lt⟩;simp only [UInt8.ofNat_toNat] at this;rw [this] at hx;cases hx
    | a :: b :: l =>
     rw [hz] at hl;simp at hl;omega
   omega
theorem valF_le : ∀ {f : Nat} {q : UInt8} {r out v : Tx} {n : Nat}, valF f q r out = .ok v n -> v.length + 1 <= out.length + n
 | 0, q, r, out, v, n, h => by cases h
 | f + 1, q, [], out, v, n, h => by cases h
 | f + 1, q, c :: t, out, v, n, h => by
  rw [valF] at h
  split at h
  ·injection h with h1 h2; subst h1; omega
  ·split at h
   ·cases h
   ·split at h
    ·cases hr : refR t with
     | bad e o => rw [hr] at h; cases h
     | ok u m =>
      rw [hr] at h;obtain ⟨p, hp, rfl⟩ := shift_ok h;have g1 := refR_le hr;have g2 := valF_le hp;rw [List.length_append] at g2;omega
    ·split at h
     ·obtain ⟨p, hp, rfl⟩ := shift_ok h;have g1 := (line_len (c := c) t).1;have g2 := valF_le hp;simp at g2;omega
     ·obtain ⟨p, hp, rfl⟩ := shift_ok h;have g2 := valF_le hp;simp at g2;omega
theorem value_le {r v : Tx} {n : Nat} (h : value r = .ok v n) : v.length + 2 <= n := by
 cases r with
 | nil => cases h
 | cons q t =>
  rw [value] at h
  split at h
  ·obtain ⟨p, hp, rfl⟩ := shift_ok h;have := valF_le hp;simp at this;omega
  ·cases h
theorem textF_le : ∀ {f : Nat} {r out v : Tx} {n : Nat}, textF f r out = .ok v n -> v.length <= out.length + n
 | 0, r, out, v, n, h => by cases h
 | f + 1, [], out, v, n, h => by injection h with h1 h2; subst h1; omega
 | f + 1, c :: t, out, v, n, h => by
  rw [textF] at h
  split at h
  ·injection h with h1 h2; subst h1; omega
  ·split at h
   ·cases hr : refR t with
    | bad e o => rw [hr] at h; cases h
    | ok u m =>
     rw [hr] at h;obtain ⟨p, hp, rfl⟩ := shift_ok h;have g1 := refR_le hr;have g2 := textF_le hp;rw [List.length_append] at g2;omega
   ·split at h
    ·obtain ⟨p, hp, rfl⟩ := shift_ok h;have g1 := (line_len (c := c) t).1;have g2 := textF_le hp;simp at g2;omega
    ·split at h
     ·cases h
     ·obtain ⟨p, hp, rfl⟩ := shift_ok h;have g2 := textF_le hp;simp at g2;omega
theorem attr_le {there : List At} {r : Tx} {a : At} {n : Nat} (h : attr there r = .ok a n) : a.1.length + 3 + a.2.length <= n := by
 unfold attr at h
 cases hn : name r with
 | bad c o => rw [hn] at h; cases h
 | ok nm n1 =>
  rw [hn] at h;simp only at h;obtain ⟨g1, g2, g3, _⟩ := name_len hn
  split at h
  ·cases h
  ·split at h
   ·cases h
   ·rename_i u m he
    split at h
    ·cases h
    ·rename_i v n2 hv
     injection h with h1 h2;have g5 := value_le hv;have g7 := (eat_len he).1;simp at g7;subst h1;have g6 : nm.length <= n1 := by rw [g3, List.length_take]; omega
     simp only;omega
theorem writeA_append : ∀ a b : List At, writeA (a ++ b) = writeA a ++ writeA b
 | [], b => rfl
 | x :: a, b => by rw [List.cons_append, writeA, writeA, writeA_append a b]; simp
theorem writeA_one (a : At) : (writeA [a]).length <= 4 + a.1.length + 6 * a.2.length := by
 have := esc_len true a.2;rw [writeA, writeA];simp;omega
theorem tagF_le : ∀ {f : Nat} {r : Tx} {ats : List At} {v : Bool × List At} {n : Nat}, tagF f r ats = .ok v n -> (writeA v.2).length + (if v.1 then 2 else 1) <= (writeA ats).length + 6 * n
 | 0, r, ats, v, n, h => by cases h
 | f + 1, r, ats, v, n, h => by
  cases hd : r.drop (blanks r) with
  | nil => rw [tagF_nil f ats hd] at h; cases h
  | cons c t =>
   rw [tagF_cons f ats hd] at h
   by_cases h1 : c = 62
   ·rw [if_pos h1] at h;injection h with h1 h2;subst h1;simp only [Bool.false_eq_true, if_false];omega
   ·rw [if_neg h1] at h
    by_cases h2 : c = 47
    ·rw [if_pos h2] at h
     cases he : eat [47, 62] (c :: t) with
     | bad e o => rw [he] at h; cases h
     | ok u m =>
      rw [he] at h;injection h with h1 h2;have g7 := (eat_len he).1;simp at g7;subst h1;simp only [if_true];omega
    ·rw [if_neg h2] at h
     by_cases h3 : blanks r = 0
     ·rw [if_pos h3] at h; cases h
     ·rw [if_neg h3] at h
      cases ha : attr ats (c :: t) with
      | bad e o => rw [ha] at h; cases h
      | ok a m =>
       rw [ha] at h;obtain ⟨p, hp, rfl⟩ := shift_ok h;have g1 := tagF_le hp;have g2 := attr_le ha;have g3 := writeA_one a;rw [writeA_append, List.length_append] at g1;omega
def cost (t : Xl.Tok) : Nat :=
 if t.kind = 1 then t.name.length + (writeA t.attrs).length + 2
 else if t.kind = 2 then t.name.length + (writeA t.attrs).length + 3
 else if t.kind = 3 then t.name.length + 3
 else if t.kind = 6 then t.text.length + 7
 else if t.kind = 7 then t.name.length + t.text.length + 5
 else (esc false t.text).length
def costs : List Xl.Tok -> Nat
 | [] => 0
 | t :: l => cost t + costs l
theorem costs_snoc (t : Xl.Tok) : ∀ l, costs (l ++ [t]) = costs l + cost t
 | [] => by simp [costs]
 | x :: l => by rw [List.cons_append, costs, costs, costs_snoc t l]; omega
theorem name_le {r x : Tx} {n : Nat} (h : name r = .ok x n) : x.length = n := by
 obtain ⟨_, g2, g3, _⟩ := name_len h;rw [g3, List.length_take];omega
theorem token_cost {r : Tx} {t : Xl.Tok} {n : Nat} (h : Xl.token r = .ok t n) : cost t <= 6 * n := by
 unfold Xl.token at h
 split at h
 ·unfold chars at h
  split at h
  ·cases h
  ·rename_i x m ht
   injection h with h1 h2;subst h1;have g1 := textF_le ht;have g2 := esc_len false x;simp at g1
   show (esc false x).length <= _
   omega
 ·split at h
  ·unfold Xl.mark at h
   split at h
   ·unfold comment at h
    split at h
    ·cases h
    ·rename_i x m hu
     obtain ⟨_, g2, _⟩ := upto_len hu;have g3 := Utf.lines_len x;simp at g2
     split at h
     ·cases h
     ·split at h
      ·injection h with h1 h2;subst h1
       show (Utf.lines x).length + 7 <= _
       omega
      ·cases h
   ·split at h
    ·unfold cdata at h
     split at h
     ·cases h
     ·rename_i x m hu
      obtain ⟨_, g2, _⟩ := upto_len hu;have g3 := Utf.lines_len x;have g4 := esc_len false (Utf.lines x);injection h with h1 h2;subst h1
      show (esc false (Utf.lines x)).length <= _
      omega
    ·split at h <;> cases h
  ·split at h
   ·unfold instr at h
    split at h
    ·cases h
    ·rename_i nm m hn
     have g1 := name_le hn
     split at h
     ·cases h
     ·split at h
      ·split at h
       ·cases h
       ·rename_i u p he
        injection h with h1 h2;have g7 := (eat_len he).1;simp at g7;subst h1
        show nm.length + 0 + 5 <= _
        omega
      ·split at h
       ·cases h
       ·rename_i x p hu
        obtain ⟨_, g2, _⟩ := upto_len hu;have g3 := Utf.lines_len x;simp at g2;injection h with h1 h2;subst h1
        show nm.length + (Utf.lines x).length + 5 <= _
        omega
   ·split at h
    ·unfold Xl.endT at h
     split at h
     ·cases h
     ·rename_i nm m hn
      have g1 := name_le hn
      split at h
      ·cases h
      ·rename_i u p he
       injection h with h1 h2;subst h1
       show nm.length + 3 <= _
       omega
    ·unfold tag at h
     split at h
     ·cases h
     ·rename_i nm m hn
      have g1 := name_le hn
      split at h
      ·cases h
      ·rename_i e ats p ht
       have g2 := tagF_le ht;injection h with h1 h2;subst h1
       cases e with
       | true =>
        show nm.length + (writeA ats).length + 3 <= _
        simp only [if_true] at g2;have : writeA [] = [] := rfl;rw [this] at g2;simp at g2;omega
       | false =>
        show nm.length + (writeA ats).length + 2 <= _
        simp only [Bool.false_eq_true, if_false] at g2;have : writeA [] = [] := rfl;rw [this] at g2;simp at g2;omega
theorem runF_cost : ∀ (f : Nat) {r : Tx} {k p : Nat} {ts us : List Xl.Tok}, Xl.runF f r k ts = (0, p, us) -> costs us <= costs ts + 6 * r.length
 | 0, r, k, p, ts, us, h => by
  injection h with _ h;injection h with _ h;subst h;omega
 | f + 1, r, k, p, ts, us, h => by
  rw [Xl.runF] at h
  split at h
  ·injection h with _ h;injection h with _ h;subst h;omega
  ·rename_i hne
   cases ht : Xl.token r with
   | bad c o =>
    rw [ht] at h;injection h with h1 h;injection h with h2 h;subst h;simp [costs]
   | ok t n =>
    rw [ht] at h;have g1 := token_cost ht;obtain ⟨_, g2⟩ := Xl.token_len ht hne;have g3 := runF_cost f h;rw [costs_snoc, List.length_drop] at g3;have g4 : cost { t with at_ := k } = cost t := rfl;omega
/-! ### The builder -/
def phiF : List Fr -> Nat
 | [] => 0
 | f :: F => f.name.length + (writeA f.attrs).length + 2 + (writeL f.kids).length + phiF F
def phi (s : St) : Nat := (writeL s.before).length + (writeL s.after).length + (writeN s.root).length + phiF s.opn + (esc false s.text).length
theorem writeL_snoc (x : Nd) : ∀ l : List Nd, writeL (l ++ [x]) = writeL l ++ writeN x
 | [] => by rw [List.nil_append, writeL, writeL, writeL]; simp
 | y :: l => by rw [List.cons_append, writeL, writeL, writeL_snoc x l, List.append_assoc]
theorem phi_put (s : St) (n : Nd) : phi (put s n) <= phi s + (writeN n).length := by
 unfold put
 split
 ·rename_i f F ho
  unfold phi;simp only;rw [ho, phiF, phiF];simp only;rw [writeL_snoc, List.length_append];omega
 ·split
  ·unfold phi;simp only;omega
  ·split
   ·unfold phi;simp only;rw [writeL_snoc, List.length_append];omega
   ·unfold phi;simp only;rw [writeL_snoc, List.length_append];omega
theorem phi_text (s : St) : phi { s with text := [] } + (esc false s.text).length = phi s := by
 unfold phi;simp only;have : esc false [] = [] := rfl;rw [this];simp
theorem phi_flush (s : St) : phi (flush s) <= phi s := by
 unfold flush
 split
 ·exact Nat.le_refl _
 ·have h1 := phi_put s (textN s.text);have h2 := phi_text (put s (textN s.text));rw [put_text] at h2
  have h3 : writeN (textN s.text) = esc false s.text := by
   unfold textN;rw [writeN, if_neg (by decide), if_pos rfl]
  rw [h3] at h1;exact Nat.le_of_add_le_add_right (b := (esc false s.text).length) (Nat.le_trans (Nat.le_of_eq h2) h1)
theorem phi_start {s s' : St} {t : Xl.Tok} (h : startT s t = .ok s') : phi s' <= phi s + (t.name.length + (writeA t.attrs).length + 2) /\ ∃ F, s'.opn = ⟨t.name, t.attrs, []⟩ :: F /\ s'.text = [] := by
 unfold startT at h
 split at h
 ·cases h
 ·split at h
  ·cases h
  ·split at h
   ·cases h
   ·injection h with h;subst h;have h1 : phi (flush { s with nodes := s.nodes + (1 + t.attrs.length) }) <= phi s := phi_flush { s with nodes := s.nodes + (1 + t.attrs.length) };refine ⟨?_, _, rfl, flush_text _⟩;unfold phi at h1 ⊢;simp only at h1 ⊢;rw [phiF];simp only;have : writeL [] = [] := (by rw [writeL]);rw [this, List.length_nil];omega
theorem phi_end {s : St} {f : Fr} {F : List Fr} (h : (flush s).opn = f :: F) : phi (Xt.endT s) <= phi s + (f.name.length + 3) /\ (f.kids = [] -> phi (Xt.endT s) <= phi s + 1) := by
 have h1 := phi_flush s;have h2 := phi_put ⟨(flush s).before, (flush s).root, (flush s).has, (flush s).after, F, (flush s).text, (flush s).nodes⟩ (.mk 1 f.name [] f.attrs f.kids)
 have h3 : phi ⟨(flush s).before, (flush s).root, (flush s).has, (flush s).after, F, (flush s).text, (flush s).nodes⟩ + (f.name.length + (writeA f.attrs).length + 2 + (writeL f.kids).length) = phi (flush s) := by
  unfold phi;simp only;rw [h, phiF];omega
 have h4 : Xt.endT s = put ⟨(flush s).before, (flush s).root, (flush s).has, (flush s).after, F, (flush s).text, (flush s).nodes⟩ (.mk 1 f.name [] f.attrs f.kids) := end_of h;rw [h4];rw [writeN, if_pos rfl] at h2;constructor
 ·by_cases he : f.kids.isEmpty = true
  ·rw [if_pos he] at h2;simp at h2;omega
  ·rw [if_neg he] at h2;simp at h2;omega
 ·intro hk;rw [hk] at h2 h3;have e0 : writeL [] = [] := by rw [writeL]
  rw [e0] at h3;simp at h2 h3;rw [hk];omega
theorem phi_step {s s' : St} {t : Xl.Tok} (hk : 1 <= t.kind /\ t.kind <= 7) (h : Xt.stepT s t = .ok s') : phi s' <= phi s + cost t := by
 unfold Xt.stepT at h;unfold cost
 split at h
 ·rename_i k1
  rw [if_pos k1];exact (phi_start h).1
 ·rename_i k1
  rw [if_neg k1]
  split at h
  ·rename_i k2
   rw [if_pos k2]
   cases h1 : startT s t with
   | error e => rw [h1] at h; cases h
   | ok s1 =>
    rw [h1] at h;injection h with h;subst h;obtain ⟨g1, F, g2, g3⟩ := phi_start h1;have g4 := (phi_end (s := s1) (f := ⟨t.name, t.attrs, []⟩) (F := F) (by rw [flush_id g3]; exact g2)).2 rfl;omega
  ·rename_i k2
   rw [if_neg k2]
   split at h
   ·rename_i k3
    rw [if_pos k3]
    split at h
    ·cases h
    ·rename_i f F ho
     split at h
     ·rename_i hn
      injection h with h;subst h;have hm := flush_opn s;rw [ho, List.map_cons] at hm
      cases hf : (flush s).opn with
      | nil => rw [hf] at hm; cases hm
      | cons g G =>
       rw [hf, List.map_cons] at hm;injection hm with hm _;have := (phi_end hf).1;rw [hm, hn] at this;exact this
     ·cases h
   ·rename_i k3
    rw [if_neg k3]
    have other : ∀ k : Int, otherT s t k = .ok s' -> phi s' <= phi s + (writeN (.mk k t.name t.text [] [])).length := fun k h => by
     unfold otherT at h
     split at h
     ·cases h
     ·injection h with h;subst h;have h1 : phi (flush { s with nodes := s.nodes + 1 }) <= phi s := phi_flush { s with nodes := s.nodes + 1 };exact Nat.le_trans (phi_put (flush { s with nodes := s.nodes + 1 }) (.mk k t.name t.text [] [])) (Nat.add_le_add_right h1 _)
    split at h
    ·rename_i k6
     rw [if_pos k6];have := other 3 h;rw [writeN] at this;simp at this;omega
    ·rename_i k6
     rw [if_neg k6]
     split at h
     ·rename_i k7
      rw [if_pos k7];have := other 4 h;rw [writeN] at this;simp at this
      split at this <;> simp at this <;> omega
     ·rename_i k7
      rw [if_neg k7];unfold charsT at h;have he := congrArg List.length (esc_append false s.text t.text);rw [List.length_append] at he
      have hph : ∀ n : Nat, phi { s with nodes := n, text := s.text ++ t.text } <= phi s + (esc false t.text).length := fun n => by
       unfold phi;simp only;omega
      split at h
      ·split at h
       ·cases h
       ·injection h with h;subst h;omega
      ·split at h
       ·split at h
        ·cases h
        ·injection h with h;subst h;exact hph _
       ·injection h with h;subst h;exact hph _
theorem phi_0 : phi .start = 0 := by
 unfold phi St.start zero;simp only;rw [writeL, writeN, phiF];simp [esc]
/-! ### Altogether -/
def TokP (t : Xl.Tok) : Prop := (1 <= t.kind /\ t.kind <= 7) /\ TokF t /\ TokN t
theorem runF_P : ∀ (f : Nat) {r : Tx} {k p : Nat} {ts us : List Xl.Tok}, V r -> (∀ t ∈ ts, TokP t) -> Xl.runF f r k ts = (0, p, us) -> ∀ t ∈ us, TokP t
 | 0, r, k, p, ts, us, _, ho, h => by
  injection h with _ h;injection h with _ h;rw [<- h];exact ho
 | f + 1, r, k, p, ts, us, hv, ho, h => by
  rw [Xl.runF] at h
  split at h
  ·injection h with _ h;injection h with _ h;rw [<- h];exact ho
  ·cases ht : Xl.token r with
   | bad c o =>
    rw [ht] at h;injection h with h1 h;injection h with h2 h;rw [<- h];exact fun t ht => (by cases ht)
   | ok t n =>
    rw [ht] at h;have g0 := token_F hv ht;obtain ⟨g1, g2, _⟩ := token_V hv ht;refine runF_P f g2 (fun x hx => ?_) h;rcases List.mem_append.1 hx with hx | hx
    ·exact ho x hx
    ·rw [List.mem_singleton.1 hx];refine ⟨g1.kind, ⟨g0.tag, g0.text, g0.co, g0.pi⟩, fun e => ?_⟩;have := g1.name
     show nameR t.name = true
     rw [this];have e : t.kind = 1 \/ t.kind = 2 := e;rcases e with e | e <;> rw [e] <;> rfl
theorem all_P {S : Tx} {ts : List Xl.Tok} {p : Nat} (h : Xl.allF S = (0, p, ts)) : (∀ t ∈ ts, TokP t) /\ costs ts <= 6 * S.length := by
 unfold Xl.allF at h
 split at h
 ·injection h with h _;exact absurd h (by decide)
 ·split at h
  ·injection h with h _;exact absurd h (by decide)
  ·rename_i hb
   have hV := V_of_bad (l := S) (by omega)
   cases hd : decl S with
   | bad c o =>
    rw [hd] at h;injection h with h1 h;injection h with h2 h;rw [<- h];exact ⟨fun t ht => (by cases ht), (by simp [costs])⟩
   | ok u n =>
    rw [hd] at h;refine ⟨runF_P _ (decl_V hV hd) (fun t ht => (by cases ht)) h, ?_⟩;have := runF_cost _ h;rw [List.length_drop] at this;simp [costs] at this;omega
end Go.Proofs.YtokdnhdfmgfkeaaGreatDoor.Xo
end
