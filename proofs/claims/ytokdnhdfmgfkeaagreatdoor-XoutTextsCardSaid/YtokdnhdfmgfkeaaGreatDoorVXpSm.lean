/- Documents that may be: nothing of them is too great. No program stands here. -/
import Derived.Test.YtokdnhdfmgfkeaaGreatDoorVXtForest
import Derived.Test.YtokdnhdfmgfkeaaGreatDoorVUtfEnc2
import Derived.Test.YtokdnhdfmgfkeaaGreatDoorVQxVal
import Derived.Test.YtokdnhdfmgfkeaaGreatDoorVXlPlaces
import Derived.Test.YtokdnhdfmgfkeaaGreatDoorVXpDoc
import Derived.Test.YtokdnhdfmgfkeaaGreatDoorVXlRname
import Derived.Test.YtokdnhdfmgfkeaaGreatDoorVXnTok
import Derived.Test.YtokdnhdfmgfkeaaGreatDoorVXlValues
import Derived.Test.YtokdnhdfmgfkeaaGreatDoorVUtfEnc
import Derived.Deep.MidRow
import Derived.Test.YtokdnhdfmgfkeaaGreatDoorVErrWalk2
section
namespace Go.Proofs.YtokdnhdfmgfkeaaGreatDoor.Xt
open Xl UtfW

def lastK (p : Int) : List Nd → Int
 | [] => p
 | x :: l => lastK x.kind l
def okKind (k : Int) : Bool := decide (1 ≤ k) && decide (k ≤ 4)
mutual
def soundN : Nd → Bool
 | .mk k nm tx as_ ks => !(decide (k = 1) && (!nameR nm || decide (tx ≠ [])) || decide (k = 2) && decide (tx = []) || !okKind k) && !(decide (k ≠ 1) && (decide (ks ≠ [] ∨ as_ ≠ []))) && soundL 0 ks
def soundL (p : Int) : List Nd → Bool
 | [] => true
 | x :: l => soundN x && !(decide (x.kind = 2) && decide (p = 2)) && soundL x.kind l
end
theorem lastK_snoc (x : Nd) : ∀ (l : List Nd) (p : Int), lastK p (l ++ [x]) = x.kind
 | [], p => rfl
 | y :: l, p => lastK_snoc x l y.kind
theorem soundL_snoc (x : Nd) : ∀ (l : List Nd) (p : Int), soundL p (l ++ [x]) = (soundL p l && (soundN x && !(decide (x.kind = 2) && decide (lastK p l = 2))))
 | [], p => by simp [soundL, lastK]; rfl
 | y :: l, p => by
  simp only [List.cons_append, soundL, lastK]
  rw [soundL_snoc x l y.kind]
  simp only [Bool.and_assoc]
  rfl
theorem countL_snoc (l : List Nd) (x : Nd) : countL (l ++ [x]) = countL l + countN x := by
 rw [countL_append]; simp [countL]
theorem depthL_snoc (l : List Nd) (x : Nd) : depthL (l ++ [x]) = max (depthL l) (depthN x) := by
 rw [depthL_append]; simp [depthL]

def frOk : List Fr → Prop
 | [] => True
 | f :: F => nameR f.name = true ∧ soundL 0 f.kids = true ∧ depthL f.kids + (F.length + 1) ≤ 32 ∧ frOk F
def frT : List Fr → Nat
 | [] => 0
 | f :: F => 1 + f.attrs.length + countL f.kids + frT F
def cR (n : Nd) : Nat := if n.kind = 1 then countN n else 0
def total (s : St) : Nat := frT s.opn + cR s.root + s.before.length + s.after.length + (if s.text = [] then 0 else 1)
def misc (l : List Nd) : Prop := ∀ n ∈ l, n.kind = 3 ∨ n.kind = 4
structure Inv (s : St) : Prop where
 fr : frOk s.opn
 top : ∀ f F, s.opn = f :: F → lastK 0 f.kids ≠ 2
 bef : misc s.before
 aft : misc s.after
 tot : total s ≤ s.nodes
 max : s.nodes ≤ 4096
 len : s.opn.length ≤ 32
 out : s.opn = [] → s.text = []
 root : s.has = true → s.opn = [] → s.root.kind = 1 ∧ soundN s.root = true ∧ depthN s.root ≤ 32
 no : s.has = false → cR s.root = 0 ∧ s.opn = []
 opn : s.opn ≠ [] → cR s.root = 0
structure Inv' (s : St) : Prop where
 fr : frOk s.opn
 bef : misc s.before
 aft : misc s.after
 tot : total s ≤ s.nodes
 max : s.nodes ≤ 4096
 len : s.opn.length ≤ 32
 txt : s.text = []
 root : s.has = true → s.opn = [] → s.root.kind = 1 ∧ soundN s.root = true ∧ depthN s.root ≤ 32
 no : s.has = false → cR s.root = 0 ∧ s.opn = []
 opn : s.opn ≠ [] → cR s.root = 0
theorem inv_start : Inv .start :=
 ⟨trivial, fun f F h => (by cases h), fun n h => (by cases h), fun n h => (by cases h), by simp [total, St.start, frT, cR, zero, Nd.kind], by simp [St.start], by simp [St.start], fun _ => rfl, fun h => (by cases h), fun _ => ⟨by simp [cR, St.start, zero, Nd.kind], rfl⟩, fun h => absurd rfl h⟩
theorem text_sound {s : Tx} (h : s ≠ []) : soundN (textN s) = true := by
 unfold textN soundN
 simp [soundL, okKind, h]
theorem Inv.flush {s : St} (h : Inv s) : Inv' (flush s) := by
 unfold Xt.flush
 by_cases ht : s.text = []
 ·rw [if_pos ht]
  exact ⟨h.fr, h.bef, h.aft, h.tot, h.max, h.len, ht, h.root, h.no, h.opn⟩
 ·rw [if_neg ht]
  cases ho : s.opn with
  | nil => exact absurd (h.out ho) ht
  | cons f F =>
   have hf := h.fr
   have htot := h.tot
   have hlen := h.len
   have hopn := h.opn (by rw [ho]; simp)
   have hlast := h.top f F ho
   unfold total at htot
   rw [ho] at hf htot hlen
   obtain ⟨h1, h2, h3, h4⟩ := hf
   rw [if_neg ht] at htot
   simp only [frT] at htot
   unfold put
   rw [ho]
   simp only
   refine ⟨⟨h1, ?_, ?_, h4⟩, h.bef, h.aft, ?_, h.max, hlen, rfl, fun _ e => (by cases e), fun e => ⟨hopn, ?_⟩, fun _ => hopn⟩
   ·show soundL 0 (f.kids ++ [textN s.text]) = true
    rw [soundL_snoc, h2, text_sound ht]
    simp [hlast]
   ·show depthL (f.kids ++ [textN s.text]) + _ ≤ 32
    rw [depthL_snoc]
    have : depthN (textN s.text) = 0 := by unfold textN depthN; rw [if_neg (by decide)]
    omega
   ·unfold total
    simp only [frT, if_true]
    have : countL (f.kids ++ [textN s.text]) = countL f.kids + 1 := by
     rw [countL_snoc]
     unfold textN countN
     simp [countL]
    rw [this]
    omega
   ·have := (h.no e).2
    rw [ho] at this
    cases this
theorem el_sound {f : Fr} (h1 : nameR f.name = true) (h2 : soundL 0 f.kids = true) : soundN (.mk 1 f.name [] f.attrs f.kids) = true := by
 unfold soundN
 simp [okKind, h1, h2]
theorem Inv'.shut {s : St} {f : Fr} {F : List Fr} (h : Inv' s) (ho : s.opn = f :: F) (hh : s.has = true) : Inv (put { s with opn := F } (.mk 1 f.name [] f.attrs f.kids)) := by
 have hf := h.fr
 have htot := h.tot
 have hlen := h.len
 have hopn := h.opn (by rw [ho]; simp)
 unfold total at htot
 rw [ho] at hf htot hlen
 rw [if_pos h.txt] at htot
 simp only [frT] at htot
 obtain ⟨h1, h2, h3, h4⟩ := hf
 have hs := el_sound h1 h2
 have hd : depthN (.mk 1 f.name [] f.attrs f.kids) = depthL f.kids + 1 := by unfold depthN; rw [if_pos rfl]
 have hc : countN (.mk 1 f.name [] f.attrs f.kids) = 1 + f.attrs.length + countL f.kids := by unfold countN; rfl
 unfold put
 cases F with
 | nil =>
  simp only
  rw [if_pos (show (Nd.mk 1 f.name [] f.attrs f.kids).kind = 1 from rfl)]
  refine ⟨trivial, fun _ _ e => (by cases e), h.bef, h.aft, ?_, h.max, by simp, fun _ => h.txt, fun _ _ => ⟨rfl, hs, ?_⟩, fun e => (by cases e), fun e => absurd rfl e⟩
  ·unfold total
   simp only [frT]
   rw [if_pos h.txt]
   have : cR (.mk 1 f.name [] f.attrs f.kids) = 1 + f.attrs.length + countL f.kids := by unfold cR; rw [if_pos (show (Nd.mk 1 f.name [] f.attrs f.kids).kind = 1 from rfl), hc]
   rw [this]
   simp only [frT] at htot
   omega
  ·rw [hd]
   simp at h3
   omega
 | cons g G =>
  simp only
  obtain ⟨g1, g2, g3, g4⟩ := h4
  simp only [List.length_cons] at h3 hlen
  refine ⟨⟨g1, ?_, ?_, g4⟩, fun f' F' e => ?_, h.bef, h.aft, ?_, h.max, by simp only [List.length_cons]; omega, fun e => (by cases e), fun _ e => (by cases e), fun e => ?_, fun _ => hopn⟩
  ·show soundL 0 (g.kids ++ [_]) = true
   rw [soundL_snoc, g2, hs]
   simp [Nd.kind]
  ·show depthL (g.kids ++ [_]) + _ ≤ 32
   rw [depthL_snoc, hd]
   omega
  ·injection e with e _
   rw [← e]
   show lastK 0 (g.kids ++ [_]) ≠ 2
   rw [lastK_snoc]
   show (1 : Int) ≠ 2
   decide
  ·unfold total
   simp only [frT]
   rw [if_pos h.txt]
   have : countL (g.kids ++ [.mk 1 f.name [] f.attrs f.kids]) = countL g.kids + (1 + f.attrs.length + countL f.kids) := by rw [countL_snoc, hc]
   rw [this]
   simp only [frT] at htot
   omega
  ·rw [hh] at e
   cases e
theorem Inv.endT {s : St} {f : Fr} {F : List Fr} (h : Inv s) (ho : s.opn = f :: F) (hh : s.has = true) : Inv (endT s) := by
 have h' := h.flush
 have hn := flush_opn s
 rw [ho] at hn
 cases hf : (Xt.flush s).opn with
 | nil => rw [hf] at hn; cases hn
 | cons g G =>
  rw [end_of hf]
  exact h'.shut hf ((flush_has s).trans hh)
theorem flush_total (s : St) (h : Inv s) : total (Xt.flush s) ≤ total s := by
 unfold Xt.flush
 by_cases ht : s.text = []
 ·rw [if_pos ht]; exact Nat.le_refl _
 ·rw [if_neg ht]
  cases ho : s.opn with
  | nil => exact absurd (h.out ho) ht
  | cons f F =>
   unfold put
   rw [ho]
   simp only
   unfold total
   rw [ho]
   simp only [frT, if_true]
   have : countL (f.kids ++ [textN s.text]) = countL f.kids + 1 := by
    rw [countL_snoc]
    unfold textN countN
    simp [countL]
   rw [this, if_neg ht]
   omega
def TokN (t : Tok) : Prop := t.kind = 1 ∨ t.kind = 2 → nameR t.name = true
theorem Inv.startT {s s' : St} {t : Tok} (h : Inv s) (hn : nameR t.name = true) (hs : startT s t = .ok s') : Inv s' ∧ s'.has = true ∧ ∃ f F, s'.opn = f :: F := by
 unfold Xt.startT at hs
 split at hs
 ·cases hs
 ·rename_i h1
  split at hs
  ·cases hs
  ·rename_i h2
   split at hs
   ·cases hs
   ·rename_i h3
    have h' := h.flush
    have ht := flush_total s h
    rw [flush_nodes'] at hs
    injection hs with hs
    subst hs
    have hno : (Xt.flush s).opn.length = s.opn.length := by
     have := congrArg List.length (flush_opn s)
     simpa using this
    have hhas := flush_has s
    have hnil : (Xt.flush s).opn = [] ↔ s.opn = [] := nil_of_names (flush_opn s)
    have htot := h.tot
    have hc : cR (Xt.flush s).root = 0 := by
     by_cases ho : s.opn = []
     ·have : s.has = false := by
       cases hb : s.has with
       | false => rfl
       | true => exact absurd ⟨ho, hb⟩ h3
      exact (h'.no (hhas.trans this)).1
     ·exact h'.opn (fun e => ho (hnil.1 e))
    refine ⟨⟨⟨hn, by simp [soundL], ?_, h'.fr⟩, fun f F e => ?_, h'.bef, h'.aft, ?_, by show s.nodes + _ ≤ 4096; omega, by show ((Xt.flush s).opn.length + 1) ≤ 32; omega, fun e => (by cases e), fun _ e => (by cases e), fun e => ?_, fun _ => hc⟩, ?_, _, _, rfl⟩
    ·show depthL [] + ((Xt.flush s).opn.length + 1) ≤ 32
     simp [depthL]
     omega
    ·injection e with e _
     rw [← e]
     show (0 : Int) ≠ 2
     decide
    ·unfold total at ht ⊢
     simp only [frT]
     show 1 + t.attrs.length + countL [] + frT (Xt.flush s).opn + cR (Xt.flush s).root + (Xt.flush s).before.length + (Xt.flush s).after.length + (if (Xt.flush s).text = [] then 0 else 1) ≤ s.nodes + (1 + t.attrs.length)
     have : countL [] = 0 := rfl
     unfold total at htot
     omega
    ·have e' : ((Xt.flush s).has || decide ((Xt.flush s).opn = [])) = false := e
     rw [Bool.or_eq_false_iff] at e'
     have := (h'.no e'.1).2
     exact absurd this (of_decide_eq_false e'.2)
    ·show ((Xt.flush s).has || decide ((Xt.flush s).opn = [])) = true
     cases hb : s.has with
     | true => rw [hhas, hb]; rfl
     | false =>
      have := (h.no hb).2
      rw [decide_eq_true (hnil.2 this), Bool.or_true]
theorem Inv.otherT {s s' : St} {t : Tok} {k : Int} (h : Inv s) (hk : k = 3 ∨ k = 4) (hs : otherT s t k = .ok s') : Inv s' := by
 unfold Xt.otherT at hs
 split at hs
 ·cases hs
 ·rename_i h1
  have h' := h.flush
  have ht := flush_total s h
  have htot := h.tot
  rw [flush_nodes', put_setN] at hs
  injection hs with hs
  subst hs
  have hkk : (Nd.mk k t.name t.text [] []).kind = k := rfl
  have hc1 : countN (.mk k t.name t.text [] []) = 1 := by unfold countN; simp [countL]
  unfold put
  cases ho : (Xt.flush s).opn with
  | nil =>
   simp only
   rw [if_neg (by rw [hkk]; omega)]
   have hm : misc [Nd.mk k t.name t.text [] []] := fun n hn => by rw [List.mem_singleton.1 hn]; exact hk
   unfold total at ht htot
   rw [ho] at ht
   cases hb : (Xt.flush s).has with
   | true =>
    rw [if_pos rfl]
    refine ⟨trivial, fun f F e => (by cases e), h'.bef, fun n hn => ?_, ?_, by show s.nodes + 1 ≤ 4096; omega, Nat.zero_le _, fun _ => h'.txt, fun _ _ => h'.root hb ho, fun e1 => (by cases e1), fun e1 => absurd rfl e1⟩
    ·rcases List.mem_append.1 hn with hn | hn
     ·exact h'.aft n hn
     ·exact hm n hn
    ·unfold total
     show frT [] + cR (Xt.flush s).root + (Xt.flush s).before.length + ((Xt.flush s).after ++ [_]).length + (if (Xt.flush s).text = [] then 0 else 1) ≤ s.nodes + 1
     rw [List.length_append, List.length_singleton]
     omega
   | false =>
    rw [if_neg (by decide)]
    refine ⟨trivial, fun f F e => (by cases e), fun n hn => ?_, h'.aft, ?_, by show s.nodes + 1 ≤ 4096; omega, Nat.zero_le _, fun _ => h'.txt, fun e1 _ => (by cases e1), fun _ => ⟨(h'.no hb).1, rfl⟩, fun e1 => absurd rfl e1⟩
    ·rcases List.mem_append.1 hn with hn | hn
     ·exact h'.bef n hn
     ·exact hm n hn
    ·unfold total
     show frT [] + cR (Xt.flush s).root + ((Xt.flush s).before ++ [_]).length + (Xt.flush s).after.length + (if (Xt.flush s).text = [] then 0 else 1) ≤ s.nodes + 1
     rw [List.length_append, List.length_singleton]
     omega
  | cons f F =>
   simp only
   have hf := h'.fr
   have hlen := h'.len
   rw [ho] at hf hlen
   obtain ⟨f1, f2, f3, f4⟩ := hf
   have hopn := h'.opn (by rw [ho]; simp)
   have hso : soundN (.mk k t.name t.text [] []) = true := by
    unfold soundN
    rcases hk with rfl | rfl <;> simp [soundL, okKind]
   unfold total at ht htot
   rw [ho] at ht
   simp only [frT] at ht
   refine ⟨⟨f1, ?_, ?_, f4⟩, fun f' F' e => ?_, h'.bef, h'.aft, ?_, by show s.nodes + 1 ≤ 4096; omega, hlen, fun e => (by cases e), fun _ e => (by cases e), fun e => ⟨hopn, ?_⟩, fun _ => hopn⟩
   ·show soundL 0 (f.kids ++ [_]) = true
    rw [soundL_snoc, f2, hso, hkk, decide_eq_false (by omega)]
    rfl
   ·show depthL (f.kids ++ [_]) + _ ≤ 32
    rw [depthL_snoc]
    have : depthN (.mk k t.name t.text [] []) = 0 := by unfold depthN; rw [if_neg (by omega)]
    omega
   ·have e2 : ({ f with kids := f.kids ++ [Nd.mk k t.name t.text [] []] } : Fr) :: F = f' :: F' := e
    injection e2 with e2 _
    rw [← e2]
    show lastK 0 (f.kids ++ [_]) ≠ 2
    rw [lastK_snoc, hkk]
    omega
   ·unfold total
    show frT ({ f with kids := f.kids ++ [Nd.mk k t.name t.text [] []] } :: F) + cR (Xt.flush s).root + (Xt.flush s).before.length + (Xt.flush s).after.length + (if (Xt.flush s).text = [] then 0 else 1) ≤ s.nodes + 1
    simp only [frT]
    have : countL (f.kids ++ [.mk k t.name t.text [] []]) = countL f.kids + 1 := by rw [countL_snoc, hc1]
    rw [this]
    omega
   ·have := (h'.no e).2
    rw [ho] at this
    cases this
theorem Inv.charsT {s s' : St} {t : Tok} (h : Inv s) (hs : charsT s t = .ok s') : Inv s' := by
 unfold Xt.charsT at hs
 split at hs
 ·split at hs
  ·cases hs
  ·injection hs with hs
   rw [← hs]
   exact h
 ·rename_i h0
  have htot := h.tot
  unfold total at htot
  split at hs
  ·rename_i h1
   split at hs
   ·cases hs
   ·rename_i h2
    injection hs with hs
    subst hs
    refine ⟨h.fr, h.top, h.bef, h.aft, ?_, by show s.nodes + 1 ≤ 4096; omega, h.len, fun e => absurd e h0, h.root, h.no, h.opn⟩
    unfold total
    show frT s.opn + cR s.root + s.before.length + s.after.length + (if s.text ++ t.text = [] then 0 else 1) ≤ s.nodes + 1
    rw [if_pos h1.1] at htot
    split <;> omega
  ·rename_i h1
   injection hs with hs
   subst hs
   refine ⟨h.fr, h.top, h.bef, h.aft, ?_, h.max, h.len, fun e => absurd e h0, h.root, h.no, h.opn⟩
   unfold total
   show frT s.opn + cR s.root + s.before.length + s.after.length + (if s.text ++ t.text = [] then 0 else 1) ≤ s.nodes
   by_cases ht : s.text = []
   ·have ht2 : t.text = [] := Classical.byContradiction fun e => h1 ⟨ht, e⟩
    rw [ht, ht2]
    rw [if_pos ht] at htot
    simpa using htot
   ·rw [if_neg ht] at htot
    split <;> omega
theorem Inv.stepT {s s' : St} {t : Tok} (h : Inv s) (hn : TokN t) (hs : stepT s t = .ok s') : Inv s' := by
 unfold Xt.stepT at hs
 split at hs
 ·rename_i k1
  exact (h.startT (hn (.inl k1)) hs).1
 ·split at hs
  ·rename_i k2
   cases hst : Xt.startT s t with
   | error e => rw [hst] at hs; cases hs
   | ok s2 =>
    rw [hst] at hs
    injection hs with hs
    obtain ⟨g1, g2, f, F, g3⟩ := h.startT (hn (.inr k2)) hst
    rw [← hs]
    exact g1.endT g3 g2
  ·split at hs
   ·split at hs
    ·cases hs
    ·rename_i f F ho
     split at hs
     ·injection hs with hs
      rw [← hs]
      refine h.endT ho ?_
      cases hb : s.has with
      | true => rfl
      | false => have := (h.no hb).2; rw [ho] at this; cases this
     ·cases hs
   ·split at hs
    ·exact h.otherT (.inl rfl) hs
    ·split at hs
     ·exact h.otherT (.inr rfl) hs
     ·exact h.charsT hs
theorem step_no0 {s : St} {t : Tok} {e : Int} (h : stepT s t = .error e) : e ≠ 0 := by
 have st : ∀ {e}, Xt.startT s t = .error e → e ≠ 0 := by
  intro e h
  unfold Xt.startT at h
  repeat' split at h
  all_goals first | (injection h with h; subst h; decide) | cases h
 unfold Xt.stepT at h
 split at h
 ·exact st h
 ·split at h
  ·cases hst : Xt.startT s t with
   | error e2 => rw [hst] at h; injection h with h; subst h; exact st hst
   | ok s2 => rw [hst] at h; cases h
  ·split at h
   ·repeat' split at h
    all_goals first | (injection h with h; subst h; decide) | cases h
   ·unfold Xt.otherT Xt.charsT at h
    repeat' split at h
    all_goals first | (injection h with h; subst h; decide) | cases h
end Go.Proofs.YtokdnhdfmgfkeaaGreatDoor.Xt
end

section
namespace Go.Proofs.YtokdnhdfmgfkeaaGreatDoor.Xl
open Go.RowKit UtfW

theorem valF_out : ∀ {f : Nat} {q : UInt8} {r out v : Tx} {n : Nat}, valF f q r out = .ok v n → v.length ≤ out.length + 4 * n
 | 0, q, r, out, v, n, h => by cases h
 | f + 1, q, [], out, v, n, h => by cases h
 | f + 1, q, c :: t, out, v, n, h => by
  rw [valF] at h
  split at h
  ·injection h with h1 h2; subst h1; omega
  ·split at h
   ·cases h
   ·split at h
    ·cases hr : refR t with
     | bad e o => rw [hr] at h; cases h
     | ok u m =>
      rw [hr] at h
      obtain ⟨p, hp, rfl⟩ := shift_ok h
      have g1 := (refR_len hr).1
      have g2 := valF_out hp
      have g3 := refR_v hr
      rw [List.length_append] at g2
      omega
    ·split at h
     ·obtain ⟨p, hp, rfl⟩ := shift_ok h
      have g1 := (line_len (c := c) t).1
      have g2 := valF_out hp
      simp at g2
      omega
     ·obtain ⟨p, hp, rfl⟩ := shift_ok h
      have g2 := valF_out hp
      simp at g2
      omega
theorem value_out {r v : Tx} {n : Nat} (h : value r = .ok v n) : v.length ≤ 4 * n := by
 cases r with
 | nil => cases h
 | cons q t =>
  rw [value] at h
  split at h
  ·obtain ⟨p, hp, rfl⟩ := shift_ok h
   have := valF_out hp
   simp at this
   omega
  ·cases h
theorem textF_out : ∀ {f : Nat} {r out v : Tx} {n : Nat}, textF f r out = .ok v n → v.length ≤ out.length + 4 * n
 | 0, r, out, v, n, h => by cases h
 | f + 1, [], out, v, n, h => by injection h with h1 h2; subst h1; omega
 | f + 1, c :: t, out, v, n, h => by
  rw [textF] at h
  split at h
  ·injection h with h1 h2; subst h1; omega
  ·split at h
   ·cases hr : refR t with
    | bad e o => rw [hr] at h; cases h
    | ok u m =>
     rw [hr] at h
     obtain ⟨p, hp, rfl⟩ := shift_ok h
     have g1 := (refR_len hr).1
     have g2 := textF_out hp
     have g3 := refR_v hr
     rw [List.length_append] at g2
     omega
   ·split at h
    ·obtain ⟨p, hp, rfl⟩ := shift_ok h
     have g1 := (line_len (c := c) t).1
     have g2 := textF_out hp
     simp at g2
     omega
    ·split at h
     ·cases h
     ·obtain ⟨p, hp, rfl⟩ := shift_ok h
      have g2 := textF_out hp
      simp at g2
      omega
def AtSz (M : Nat) (a : At) : Prop := a.1.length ≤ M ∧ a.2.length ≤ M
theorem attr_out {there : List At} {r : Tx} {a : At} {n M : Nat} (h : attr there r = .ok a n) (hM : 4 * r.length ≤ M) : AtSz M a := by
 have hl := attr_len h
 unfold attr at h
 cases hn : name r with
 | bad c o => rw [hn] at h; cases h
 | ok nm n1 =>
  rw [hn] at h
  simp only at h
  obtain ⟨g1, g2, g3, _⟩ := name_len hn
  split at h
  ·cases h
  ·split at h
   ·cases h
   ·rename_i u m he
    split at h
    ·cases h
    ·rename_i v n2 hv
     injection h with h1 h2
     have g5 := value_out hv
     subst h1
     have g6 : nm.length ≤ r.length := by rw [g3, List.length_take]; omega
     exact ⟨by show nm.length ≤ M; omega, by show v.length ≤ M; omega⟩
theorem tagF_out {M : Nat} : ∀ {f : Nat} {r : Tx} {ats : List At} {v : Bool × List At} {n : Nat}, tagF f r ats = .ok v n → 4 * r.length ≤ M → (∀ a ∈ ats, AtSz M a) → ∀ a ∈ v.2, AtSz M a
 | 0, r, ats, v, n, h, hM, ho => by cases h
 | f + 1, r, ats, v, n, h, hM, ho => by
  have hb := blanks_le r
  cases hd : r.drop (blanks r) with
  | nil => rw [tagF_nil f ats hd] at h; cases h
  | cons c t =>
   have hl : (c :: t).length = r.length - blanks r := by rw [← hd, List.length_drop]
   rw [tagF_cons f ats hd] at h
   by_cases h1 : c = 62
   ·rw [if_pos h1] at h
    injection h with h1 h2
    subst h1
    exact ho
   ·rw [if_neg h1] at h
    by_cases h2 : c = 47
    ·rw [if_pos h2] at h
     cases he : eat [47, 62] (c :: t) with
     | bad e o => rw [he] at h; cases h
     | ok u m =>
      rw [he] at h
      injection h with h1 h2
      subst h1
      exact ho
    ·rw [if_neg h2] at h
     by_cases h3 : blanks r = 0
     ·rw [if_pos h3] at h; cases h
     ·rw [if_neg h3] at h
      cases ha : attr ats (c :: t) with
      | bad e o => rw [ha] at h; cases h
      | ok a m =>
       rw [ha] at h
       obtain ⟨p, hp, rfl⟩ := shift_ok h
       refine tagF_out hp (by rw [List.length_drop]; omega) fun x hx => ?_
       rcases List.mem_append.1 hx with hx | hx
       ·exact ho x hx
       ·rw [List.mem_singleton.1 hx]
        exact attr_out ha (by omega)
structure TokSz (M : Nat) (t : Tok) : Prop where
 name : t.name.length ≤ M
 text : t.text.length ≤ M
 attrs : ∀ a ∈ t.attrs, AtSz M a
theorem name_out {r x : Tx} {n : Nat} (h : name r = .ok x n) : x.length ≤ r.length := by
 obtain ⟨_, _, g3, _⟩ := name_len h
 rw [g3, List.length_take]
 omega
theorem upto_out {t r x : Tx} {n : Nat} (h : upto t r = .ok x n) : (Utf.lines x).length ≤ r.length := by
 obtain ⟨g1, g2, _⟩ := upto_len h
 have := Utf.lines_len x
 omega
section
variable {r : Tx} {t : Tok} {n M : Nat}
theorem tag_out (h : tag r = .ok t n) (hM : 4 * r.length ≤ M) : TokSz M t := by
 unfold tag at h
 split at h
 ·cases h
 ·rename_i nm m hn
  have g := name_out hn
  rw [List.length_drop] at g
  split at h
  ·cases h
  ·rename_i e ats p ht
   injection h with h1 h2
   subst h1
   exact ⟨by simp only; omega, by simp, tagF_out ht (by rw [List.length_drop]; omega) (fun a ha => by cases ha)⟩
theorem instr_out (h : instr r = .ok t n) (hM : 4 * r.length ≤ M) : TokSz M t := by
 unfold instr at h
 split at h
 ·cases h
 ·rename_i nm m hn
  have g := name_out hn
  rw [List.length_drop] at g
  split at h
  ·cases h
  ·split at h
   ·split at h
    ·cases h
    ·injection h with h1 h2
     subst h1
     exact ⟨by simp only; omega, by simp, fun a ha => by cases ha⟩
   ·split at h
    ·cases h
    ·rename_i x p hu
     injection h with h1 h2
     subst h1
     have g2 := upto_out hu
     rw [List.length_drop] at g2
     exact ⟨by simp only; omega, by simp only; omega, fun a ha => by cases ha⟩
theorem comment_out (h : comment r = .ok t n) (hM : 4 * r.length ≤ M) : TokSz M t := by
 unfold comment at h
 split at h
 ·cases h
 ·rename_i x m hu
  have g2 := upto_out hu
  rw [List.length_drop] at g2
  split at h
  ·cases h
  ·split at h
   ·injection h with h1 h2
    subst h1
    exact ⟨by simp, by simp only; omega, fun a ha => by cases ha⟩
   ·cases h
theorem cdata_out (h : cdata r = .ok t n) (hM : 4 * r.length ≤ M) : TokSz M t := by
 unfold cdata at h
 split at h
 ·cases h
 ·rename_i x m hu
  have g2 := upto_out hu
  rw [List.length_drop] at g2
  injection h with h1 h2
  subst h1
  exact ⟨by simp, by simp only; omega, fun a ha => by cases ha⟩
theorem endT_out (h : endT r = .ok t n) (hM : 4 * r.length ≤ M) : TokSz M t := by
 unfold endT at h
 split at h
 ·cases h
 ·rename_i nm m hn
  have g := name_out hn
  rw [List.length_drop] at g
  split at h
  ·cases h
  ·injection h with h1 h2
   subst h1
   exact ⟨by simp only; omega, by simp, fun a ha => by cases ha⟩
theorem token_out (h : token r = .ok t n) (hM : 4 * r.length ≤ M) : TokSz M t := by
 unfold token at h
 split at h
 ·unfold chars at h
  split at h
  ·cases h
  ·rename_i x m ht
   injection h with h1 h2
   subst h1
   have g1 := textF_len ht
   have g2 := textF_out ht
   simp at g2
   exact ⟨by simp, by simp only; omega, fun a ha => by cases ha⟩
 ·split at h
  ·unfold mark at h
   split at h
   ·exact comment_out h hM
   ·split at h
    ·exact cdata_out h hM
    ·split at h <;> cases h
  ·split at h
   ·exact instr_out h hM
   ·split at h
    ·exact endT_out h hM
    ·exact tag_out h hM
end
theorem runF_out {M : Nat} : ∀ (f : Nat) {r : Tx} {k : Nat} {ts us : List Tok} {c : Int} {p : Nat}, runF f r k ts = (c, p, us) → 4 * r.length ≤ M → (∀ t ∈ ts, TokSz M t) → ∀ t ∈ us, TokSz M t
 | 0, r, k, ts, us, c, p, h, hM, ho => by
  injection h with _ h
  injection h with _ h
  subst h
  exact ho
 | f + 1, r, k, ts, us, c, p, h, hM, ho => by
  rw [runF] at h
  split at h
  ·injection h with _ h
   injection h with _ h
   subst h
   exact ho
  ·cases ht : token r with
   | bad c o =>
    rw [ht] at h
    injection h with _ h
    injection h with _ h
    subst h
    exact fun t h => by cases h
   | ok t n =>
    rw [ht] at h
    refine runF_out f h (by rw [List.length_drop]; omega) fun x hx => ?_
    rcases List.mem_append.1 hx with hx | hx
    ·exact ho x hx
    ·rw [List.mem_singleton.1 hx]
     have g := token_out ht hM
     exact ⟨g.name, g.text, g.attrs⟩
theorem allF_out {S : Tx} {ts : List Tok} {c : Int} {p : Nat} (h : allF S = (c, p, ts)) : ∀ t ∈ ts, TokSz (4 * S.length) t := by
 have none_ : ∀ {c : Int} {p : Nat} {c' : Int} {p' : Nat}, (c', p', ([] : List Tok)) = (c, p, ts) → ∀ t ∈ ts, TokSz (4 * S.length) t := fun h => by
  injection h with _ h
  injection h with _ h
  subst h
  exact fun t h => by cases h
 unfold allF at h
 split at h
 ·exact none_ h
 ·split at h
  ·exact none_ h
  ·split at h
   ·exact none_ h
   ·exact runF_out _ h (by rw [List.length_drop]; omega) (fun t h => by cases h)
end Go.Proofs.YtokdnhdfmgfkeaaGreatDoor.Xl
end

section
namespace Go.Proofs.YtokdnhdfmgfkeaaGreatDoor.Xo
open Go.RowKit UtfW Qx Xl Xt

/-! ### Tokens -/
theorem attrsOk_snoc (a : At) : ∀ (l : List At) (seen : List Tx), attrsOk seen (l ++ [a]) = (attrsOk seen l && (nameR a.1 && good a.2 && decide (a.1 ∉ seen ++ l.map (·.1))))
 | [], seen => by simp [attrsOk]
 | b :: l, seen => by
  rw [List.cons_append, attrsOk, attrsOk, attrsOk_snoc a l]
  simp only [List.map_cons, List.append_assoc, List.singleton_append, Bool.and_assoc]
theorem find_take {a b : UInt8} : ∀ {r : Tx} {n : Nat}, find [a, b] r = some n → find [a, b] (r.take n) = none ∧ (a = b → (r.take n).getLast? ≠ some a)
 | [], n, h => by rw [find] at h; simp at h
 | c :: r, n, h => by
  rw [find] at h
  split at h
  ·injection h with h
   subst h
   rw [List.take_zero]
   exact ⟨by rw [find]; simp, fun _ => by simp⟩
  ·rename_i hp
   cases hr : find [a, b] r with
   | none => rw [hr] at h; cases h
   | some m =>
    rw [hr] at h
    injection h with h
    subst h
    obtain ⟨g1, g2⟩ := find_take hr
    rw [List.take_succ_cons]
    constructor
    ·rw [find, if_neg, g1]
     ·rfl
     ·intro hq
      apply hp
      cases r with
      | nil => simp [List.isPrefixOf] at hq
      | cons d r =>
       cases m with
       | zero => simp [List.isPrefixOf] at hq
       | succ m => simpa [List.isPrefixOf] using hq
    ·intro e
     cases hm : r.take m with
     | nil =>
      intro hl
      simp at hl
      apply hp
      obtain ⟨k1, x, k2⟩ := find_len hr
      rw [hm] at k2
      rw [k2, ← hl, ← e]
      simp [List.isPrefixOf, hl]
     | cons d l =>
      rw [List.getLast?_cons_cons, ← hm]
      exact g2 e
theorem lines_hd : ∀ {t : Tx} {b : UInt8}, (Utf.lines t).head? = some b → b ≠ 10 → t.head? = some b
 | [], b, h, hb => by rw [Utf.lines] at h; cases h
 | c :: t, b, h, hb => by
  rw [Utf.lines] at h
  split at h
  ·split at h
   ·rename_i h10
    have := lines_hd h hb
    rw [h10] at this
    injection this with this
    exact absurd this.symm hb
   ·simp at h
    exact absurd h.symm hb
  ·simpa using h
theorem find_lines {a b : UInt8} (ha : a ≠ 10) (hb : b ≠ 10) : ∀ {x : Tx}, find [a, b] x = none → find [a, b] (Utf.lines x) = none
 | [], _ => by rw [Utf.lines, find]; simp
 | c :: t, h => by
  rw [find] at h
  split at h
  ·cases h
  ·rename_i hp
   have ht : find [a, b] t = none := by
    cases ht : find [a, b] t with
    | none => rfl
    | some m => rw [ht] at h; cases h
   have i1 := find_lines ha hb ht
   rw [Utf.lines]
   split
   ·split
    ·exact i1
    ·rw [find, if_neg, i1]
     ·rfl
     ·intro hq
      simp [List.isPrefixOf] at hq
      exact ha hq.1
   ·rw [find, if_neg, i1]
    ·rfl
    ·intro hq
     apply hp
     cases hl : Utf.lines t with
     | nil => rw [hl] at hq; simp [List.isPrefixOf] at hq
     | cons d l =>
      rw [hl] at hq
      simp [List.isPrefixOf] at hq
      have h1 := lines_hd (t := t) (b := b) (by rw [hl, hq.2]; rfl) hb
      cases t with
      | nil => cases h1
      | cons e t =>
       simp at h1
       simp [List.isPrefixOf, hq.1, h1]
theorem lines_nil : ∀ {t : Tx}, Utf.lines t = [] → t = []
 | [], _ => rfl
 | c :: t, h => by
  rw [Utf.lines] at h
  split at h
  ·split at h
   ·rename_i h10
    rw [lines_nil h] at h10
    cases h10
   ·cases h
  ·cases h
theorem last_lines {a : UInt8} (ha : a ≠ 10) : ∀ {x : Tx}, (Utf.lines x).getLast? = some a → x.getLast? = some a
 | [], h => by rw [Utf.lines] at h; cases h
 | c :: t, h => by
  have cons_last : ∀ {d : UInt8} {l : Tx}, l.getLast? = some a → (d :: l).getLast? = some a := fun {d l} hl => by
   cases l with
   | nil => cases hl
   | cons e l => rw [List.getLast?_cons_cons]; exact hl
  have one : ∀ {d : UInt8} {l : Tx}, (d :: l).getLast? = some a → (l = [] ∧ d = a) ∨ l.getLast? = some a := fun {d l} hl => by
   cases l with
   | nil => simp at hl; exact .inl ⟨rfl, hl⟩
   | cons e l => rw [List.getLast?_cons_cons] at hl; exact .inr hl
  rw [Utf.lines] at h
  split at h
  ·split at h
   ·exact cons_last (last_lines ha h)
   ·rcases one h with ⟨_, h⟩ | h
    ·exact absurd h.symm ha
    ·exact cons_last (last_lines ha h)
  ·rcases one h with ⟨h1, h⟩ | h
   ·rw [lines_nil h1, h]
    rfl
   ·exact cons_last (last_lines ha h)
theorem no13 (x : Tx) : 13 ∉ Utf.lines x := fun h => Utf.lines_no13 x 13 h rfl
structure TokF (t : Xl.Tok) : Prop where
 tag : t.kind = 1 ∨ t.kind = 2 → attrsOk [] t.attrs = true
 text : V t.text
 co : t.kind = 6 → t.name = [] ∧ plainT t.text = true ∧ find [45, 45] t.text = none ∧ t.text.getLast? ≠ some 45
 pi : t.kind = 7 → nameR t.name = true ∧ t.name.map low ≠ xml3 ∧ plainT t.text = true ∧ find [63, 62] t.text = none ∧ headOk t.text = true
theorem plain_lines {x : Tx} (h : V x) : plainT (Utf.lines x) = true := by
 unfold plainT
 rw [V_good (V.lines _ (Nat.le_refl _) h), Bool.true_and, decide_eq_true_eq]
 exact no13 x
theorem attr_ok {there : List At} {r : Tx} {a : At} {n : Nat} (hv : V r) (h : attr there r = .ok a n) : nameR a.1 = true ∧ good a.2 = true ∧ a.1 ∉ there.map (·.1) := by
 obtain ⟨⟨g1, g2⟩, _⟩ := attr_V hv h
 refine ⟨g1, V_good g2, ?_⟩
 unfold attr at h
 split at h
 ·cases h
 ·split at h
  ·cases h
  ·rename_i hn
   split at h
   ·cases h
   ·split at h
    ·cases h
    ·injection h with h _
     rw [← h]
     exact hn
theorem tagF_ok : ∀ {f : Nat} {r : Tx} {ats : List At} {v : Bool × List At} {n : Nat}, V r → tagF f r ats = .ok v n → attrsOk [] ats = true → attrsOk [] v.2 = true
 | 0, r, ats, v, n, _, h, _ => by cases h
 | f + 1, r, ats, v, n, hv, h, ha => by
  have hb := blanks_V hv
  cases hd : r.drop (blanks r) with
  | nil => rw [tagF_nil f ats hd] at h; cases h
  | cons c t =>
   rw [hd] at hb
   rw [tagF_cons f ats hd] at h
   split at h
   ·injection h with h _
    rw [← h]
    exact ha
   ·split at h
    ·split at h
     ·cases h
     ·injection h with h _
      rw [← h]
      exact ha
    ·split at h
     ·cases h
     ·cases hat : attr ats (c :: t) with
      | bad e o => rw [hat] at h; cases h
      | ok a m =>
       rw [hat] at h
       obtain ⟨p, hp, _⟩ := shift_ok h
       obtain ⟨g1, g2, g3⟩ := attr_ok hb hat
       obtain ⟨_, g4⟩ := attr_V hb hat
       refine tagF_ok g4 hp ?_
       rw [attrsOk_snoc, ha, g1, g2, List.nil_append]
       simpa using g3
theorem headOk_lines {x : Tx} (h : headOk x = true) : headOk (Utf.lines x) = true := by
 cases x with
 | nil => rw [Utf.lines]; rfl
 | cons c t =>
  have h2 : Qx.blank c = false := by simpa [headOk] using h
  have h3 : c ≠ 13 := fun e => by rw [e] at h2; exact absurd h2 (by decide)
  rw [Utf.lines, if_neg h3]
  exact h
theorem blanks_head (r : Tx) : headOk (r.drop (blanks r)) = true := by
 unfold blanks
 induction r with
 | nil => rfl
 | cons c r ih =>
  rw [List.takeWhile_cons]
  split
  ·rw [List.length_cons, List.drop_succ_cons]
   exact ih
  ·rename_i hb
   show headOk (c :: r) = true
   simp [headOk, hb]
theorem headOk_take {r : Tx} (h : headOk r = true) (n : Nat) : headOk (r.take n) = true := by
 cases r with
 | nil => rw [List.take_nil]; rfl
 | cons c r =>
  cases n with
  | zero => rfl
  | succ n => rw [List.take_succ_cons]; exact h
theorem tag_F {r : Tx} {t : Xl.Tok} {n : Nat} (hv : V (r.drop 1)) (h : tag r = .ok t n) : TokF t := by
 have hV := (tag_V hv h).1.text
 unfold tag at h
 split at h
 ·cases h
 ·rename_i nm m hn
  obtain ⟨g1, g2, g3⟩ := name_V hv hn
  rw [List.drop_drop] at g3
  split at h
  ·cases h
  ·rename_i e ats p ht
   injection h with h1 h2
   subst h1
   exact ⟨fun _ => tagF_ok g3 ht rfl, hV, fun e2 => (by cases e <;> simp at e2), fun e2 => (by cases e <;> simp at e2)⟩
theorem instr_F {r : Tx} {t : Xl.Tok} {n : Nat} (hv : V (r.drop 2)) (h : instr r = .ok t n) : TokF t := by
 have hV := (instr_V hv h).1.text
 unfold instr at h
 split at h
 ·cases h
 ·rename_i nm m hn
  obtain ⟨g1, g2, g3⟩ := name_V hv hn
  rw [List.drop_drop] at g3
  split at h
  ·cases h
  ·rename_i hx
   split at h
   ·split at h
    ·cases h
    ·injection h with h1 h2
     subst h1
     exact ⟨fun e => (by rcases e with e | e <;> cases e), hV, fun e => (by cases e), fun _ => ⟨g1, hx, (by decide +kernel : plainT [] = true), (by decide : find [63, 62] [] = none), rfl⟩⟩
   ·have g4 := blanks_V g3
    have g5 := blanks_head (r.drop (2 + m))
    rw [List.drop_drop] at g4 g5
    split at h
    ·cases h
    ·rename_i x p hu
     obtain ⟨g6, _⟩ := upto_V g4 hu (by decide)
     injection h with h1 h2
     subst h1
     unfold upto at hu
     split at hu
     ·cases hu
     ·rename_i k hk
      injection hu with hu _
      refine ⟨fun e => (by rcases e with e | e <;> cases e), hV, fun e => (by cases e), fun _ => ⟨g1, hx, plain_lines g6, find_lines (by decide) (by decide) ?_, headOk_lines ?_⟩⟩
      ·rw [← hu]; exact (find_take hk).1
      ·rw [← hu]; exact headOk_take g5 _
theorem comment_F {r : Tx} {t : Xl.Tok} {n : Nat} (hv : V (r.drop 4)) (h : comment r = .ok t n) : TokF t := by
 have hV := (comment_V hv h).1.text
 unfold comment at h
 split at h
 ·cases h
 ·rename_i x m hu
  obtain ⟨g5, g6⟩ := upto_V hv hu (by decide)
  split at h
  ·cases h
  ·split at h
   ·injection h with h1 h2
    subst h1
    unfold upto at hu
    split at hu
    ·cases hu
    ·rename_i k hk
     injection hu with hu _
     obtain ⟨k1, k2⟩ := find_take hk
     rw [hu] at k1 k2
     exact ⟨fun e => (by rcases e with e | e <;> cases e), hV, fun _ => ⟨rfl, plain_lines g5, find_lines (by decide) (by decide) k1, fun e => k2 rfl (last_lines (by decide) e)⟩, fun e => (by cases e)⟩
   ·cases h
theorem token_F {r : Tx} {t : Xl.Tok} {n : Nat} (hv : V r) (h : Xl.token r = .ok t n) : TokF t := by
 have hV := (token_V hv h).1.text
 have other : ∀ k, t.kind = k → k ≠ 1 → k ≠ 2 → k ≠ 6 → k ≠ 7 → TokF t := fun k e h1 h2 h6 h7 => by
  subst e
  exact ⟨fun q => (q.elim (fun q => absurd q h1) fun q => absurd q h2), hV, fun q => absurd q h6, fun q => absurd q h7⟩
 unfold Xl.token at h
 split at h
 ·exact other 4 (chars_V hv h).2.2 (by decide) (by decide) (by decide) (by decide)
 ·rename_i h1
  split at h
  ·unfold Xl.mark at h
   split at h
   ·rename_i hp
    exact comment_F (V.past hv hp (by decide)) h
   ·split at h
    ·unfold cdata at h
     split at h
     ·cases h
     ·injection h with h _
      exact other 5 (by rw [← h]) (by decide) (by decide) (by decide) (by decide)
    ·split at h <;> cases h
  ·split at h
   ·rename_i hp
    exact instr_F (V.past hv hp (by decide)) h
   ·split at h
    ·unfold Xl.endT at h
     split at h
     ·cases h
     ·split at h
      ·cases h
      ·injection h with h _
       exact other 3 (by rw [← h]) (by decide) (by decide) (by decide) (by decide)
    ·obtain ⟨s, rfl⟩ := head_60 h1
     exact tag_F (r := 60 :: s) (hv.tail (by decide)) h

/-! ### The builder -/
mutual
def okN : Nd → Bool
 | .mk k nm tx as_ ks =>
  if k = 1 then attrsOk [] as_ && okL ks
  else as_.isEmpty && ks.isEmpty && (if k = 2 then decide (nm = []) && good tx
   else if k = 3 then decide (nm = []) && plainT tx && (find [45, 45] tx).isNone && decide (tx.getLast? ≠ some 45)
   else if k = 4 then nameR nm && decide (nm.map low ≠ xml3) && plainT tx && (find [63, 62] tx).isNone && headOk tx
   else true)
def okL : List Nd → Bool
 | [] => true
 | x :: xs => okN x && okL xs
end
structure Ok2 (s : St) : Prop where
 bef : okL s.before = true
 aft : okL s.after = true
 root : okN s.root = true
 fr : ∀ f ∈ s.opn, attrsOk [] f.attrs = true ∧ okL f.kids = true
 text : V s.text
theorem Ok2.nodes {s : St} (h : Ok2 s) (n : Nat) : Ok2 { s with nodes := n } := ⟨h.bef, h.aft, h.root, h.fr, h.text⟩
end Go.Proofs.YtokdnhdfmgfkeaaGreatDoor.Xo
end

section
namespace Go.Proofs.YtokdnhdfmgfkeaaGreatDoor.Xo
open Go.RowKit UtfW Qx Xl Xt

theorem esc1_len (v : Bool) (c : UInt8) : (esc1 v c).length ≤ 6 := by
 rcases esc1_cases v c with ⟨e, _⟩ | ⟨e, he, _, _, _, hl⟩
 ·rw [e]; simp
 ·rw [he]; simp; exact hl
theorem esc_len (v : Bool) : ∀ s : Tx, (esc v s).length ≤ 6 * s.length
 | [] => by simp [esc]
 | c :: s => by
  have h1 := esc1_len v c
  have h2 := esc_len v s
  rw [esc, List.length_append, List.length_cons]
  omega
theorem refV_one : ∀ c : Fin 256, refV [UInt8.ofNat c.val] = none := by decide +kernel
theorem refR_le {t v : Tx} {n : Nat} (h : refR t = .ok v n) : v.length ≤ n := by
 have h4 := refR_v h
 unfold refR at h
 cases hf : find [59] t with
 | none => rw [hf] at h; cases h
 | some m =>
  rw [hf] at h
  simp only at h
  obtain ⟨g1, _⟩ := find_len hf
  simp at g1
  split at h
  ·cases h
  ·rename_i x hx
   injection h with h1 h2
   have hm : 2 ≤ m := by
    refine Classical.byContradiction fun hne => ?_
    have hl : (t.take m).length = m := by rw [List.length_take]; omega
    match hz : t.take m with
    | [] =>
     rw [hz] at hx
     have h0 : refV [] = none := by decide
     rw [h0] at hx
     cases hx
    | [c] =>
     rw [hz] at hx
     have := refV_one ⟨c.toNat, c.toNat_lt⟩
     simp only [UInt8.ofNat_toNat] at this
     rw [this] at hx
     cases hx
    | a :: b :: l =>
     rw [hz] at hl
     simp at hl
     omega
   omega
theorem valF_le : ∀ {f : Nat} {q : UInt8} {r out v : Tx} {n : Nat}, valF f q r out = .ok v n → v.length + 1 ≤ out.length + n
 | 0, q, r, out, v, n, h => by cases h
 | f + 1, q, [], out, v, n, h => by cases h
 | f + 1, q, c :: t, out, v, n, h => by
  rw [valF] at h
  split at h
  ·injection h with h1 h2; subst h1; omega
  ·split at h
   ·cases h
   ·split at h
    ·cases hr : refR t with
     | bad e o => rw [hr] at h; cases h
     | ok u m =>
      rw [hr] at h
      obtain ⟨p, hp, rfl⟩ := shift_ok h
      have g1 := refR_le hr
      have g2 := valF_le hp
      rw [List.length_append] at g2
      omega
    ·split at h
     ·obtain ⟨p, hp, rfl⟩ := shift_ok h
      have g1 := (line_len (c := c) t).1
      have g2 := valF_le hp
      simp at g2
      omega
     ·obtain ⟨p, hp, rfl⟩ := shift_ok h
      have g2 := valF_le hp
      simp at g2
      omega
theorem value_le {r v : Tx} {n : Nat} (h : value r = .ok v n) : v.length + 2 ≤ n := by
 cases r with
 | nil => cases h
 | cons q t =>
  rw [value] at h
  split at h
  ·obtain ⟨p, hp, rfl⟩ := shift_ok h
   have := valF_le hp
   simp at this
   omega
  ·cases h
theorem textF_le : ∀ {f : Nat} {r out v : Tx} {n : Nat}, textF f r out = .ok v n → v.length ≤ out.length + n
 | 0, r, out, v, n, h => by cases h
 | f + 1, [], out, v, n, h => by injection h with h1 h2; subst h1; omega
 | f + 1, c :: t, out, v, n, h => by
  rw [textF] at h
  split at h
  ·injection h with h1 h2; subst h1; omega
  ·split at h
   ·cases hr : refR t with
    | bad e o => rw [hr] at h; cases h
    | ok u m =>
     rw [hr] at h
     obtain ⟨p, hp, rfl⟩ := shift_ok h
     have g1 := refR_le hr
     have g2 := textF_le hp
     rw [List.length_append] at g2
     omega
   ·split at h
    ·obtain ⟨p, hp, rfl⟩ := shift_ok h
     have g1 := (line_len (c := c) t).1
     have g2 := textF_le hp
     simp at g2
     omega
    ·split at h
     ·cases h
     ·obtain ⟨p, hp, rfl⟩ := shift_ok h
      have g2 := textF_le hp
      simp at g2
      omega
theorem attr_le {there : List At} {r : Tx} {a : At} {n : Nat} (h : attr there r = .ok a n) : a.1.length + 3 + a.2.length ≤ n := by
 unfold attr at h
 cases hn : name r with
 | bad c o => rw [hn] at h; cases h
 | ok nm n1 =>
  rw [hn] at h
  simp only at h
  obtain ⟨g1, g2, g3, _⟩ := name_len hn
  split at h
  ·cases h
  ·split at h
   ·cases h
   ·rename_i u m he
    split at h
    ·cases h
    ·rename_i v n2 hv
     injection h with h1 h2
     have g5 := value_le hv
     have g7 := (eat_len he).1
     simp at g7
     subst h1
     have g6 : nm.length ≤ n1 := by rw [g3, List.length_take]; omega
     simp only
     omega
theorem writeA_append : ∀ a b : List At, writeA (a ++ b) = writeA a ++ writeA b
 | [], b => rfl
 | x :: a, b => by rw [List.cons_append, writeA, writeA, writeA_append a b]; simp
theorem writeA_one (a : At) : (writeA [a]).length ≤ 4 + a.1.length + 6 * a.2.length := by
 have := esc_len true a.2
 rw [writeA, writeA]
 simp
 omega
theorem tagF_le : ∀ {f : Nat} {r : Tx} {ats : List At} {v : Bool × List At} {n : Nat}, tagF f r ats = .ok v n → (writeA v.2).length + (if v.1 then 2 else 1) ≤ (writeA ats).length + 6 * n
 | 0, r, ats, v, n, h => by cases h
 | f + 1, r, ats, v, n, h => by
  cases hd : r.drop (blanks r) with
  | nil => rw [tagF_nil f ats hd] at h; cases h
  | cons c t =>
   rw [tagF_cons f ats hd] at h
   by_cases h1 : c = 62
   ·rw [if_pos h1] at h
    injection h with h1 h2
    subst h1
    simp only [Bool.false_eq_true, if_false]
    omega
   ·rw [if_neg h1] at h
    by_cases h2 : c = 47
    ·rw [if_pos h2] at h
     cases he : eat [47, 62] (c :: t) with
     | bad e o => rw [he] at h; cases h
     | ok u m =>
      rw [he] at h
      injection h with h1 h2
      have g7 := (eat_len he).1
      simp at g7
      subst h1
      simp only [if_true]
      omega
    ·rw [if_neg h2] at h
     by_cases h3 : blanks r = 0
     ·rw [if_pos h3] at h; cases h
     ·rw [if_neg h3] at h
      cases ha : attr ats (c :: t) with
      | bad e o => rw [ha] at h; cases h
      | ok a m =>
       rw [ha] at h
       obtain ⟨p, hp, rfl⟩ := shift_ok h
       have g1 := tagF_le hp
       have g2 := attr_le ha
       have g3 := writeA_one a
       rw [writeA_append, List.length_append] at g1
       omega
def cost (t : Xl.Tok) : Nat :=
 if t.kind = 1 then t.name.length + (writeA t.attrs).length + 2
 else if t.kind = 2 then t.name.length + (writeA t.attrs).length + 3
 else if t.kind = 3 then t.name.length + 3
 else if t.kind = 6 then t.text.length + 7
 else if t.kind = 7 then t.name.length + t.text.length + 5
 else (esc false t.text).length
def costs : List Xl.Tok → Nat
 | [] => 0
 | t :: l => cost t + costs l
theorem costs_snoc (t : Xl.Tok) : ∀ l, costs (l ++ [t]) = costs l + cost t
 | [] => by simp [costs]
 | x :: l => by rw [List.cons_append, costs, costs, costs_snoc t l]; omega
theorem name_le {r x : Tx} {n : Nat} (h : name r = .ok x n) : x.length = n := by
 obtain ⟨_, g2, g3, _⟩ := name_len h
 rw [g3, List.length_take]
 omega
theorem token_cost {r : Tx} {t : Xl.Tok} {n : Nat} (h : Xl.token r = .ok t n) : cost t ≤ 6 * n := by
 unfold Xl.token at h
 split at h
 ·unfold chars at h
  split at h
  ·cases h
  ·rename_i x m ht
   injection h with h1 h2
   subst h1
   have g1 := textF_le ht
   have g2 := esc_len false x
   simp at g1
   show (esc false x).length ≤ _
   omega
 ·split at h
  ·unfold Xl.mark at h
   split at h
   ·unfold comment at h
    split at h
    ·cases h
    ·rename_i x m hu
     obtain ⟨_, g2, _⟩ := upto_len hu
     have g3 := Utf.lines_len x
     simp at g2
     split at h
     ·cases h
     ·split at h
      ·injection h with h1 h2
       subst h1
       show (Utf.lines x).length + 7 ≤ _
       omega
      ·cases h
   ·split at h
    ·unfold cdata at h
     split at h
     ·cases h
     ·rename_i x m hu
      obtain ⟨_, g2, _⟩ := upto_len hu
      have g3 := Utf.lines_len x
      have g4 := esc_len false (Utf.lines x)
      injection h with h1 h2
      subst h1
      show (esc false (Utf.lines x)).length ≤ _
      omega
    ·split at h <;> cases h
  ·split at h
   ·unfold instr at h
    split at h
    ·cases h
    ·rename_i nm m hn
     have g1 := name_le hn
     split at h
     ·cases h
     ·split at h
      ·split at h
       ·cases h
       ·rename_i u p he
        injection h with h1 h2
        have g7 := (eat_len he).1
        simp at g7
        subst h1
        show nm.length + 0 + 5 ≤ _
        omega
      ·split at h
       ·cases h
       ·rename_i x p hu
        obtain ⟨_, g2, _⟩ := upto_len hu
        have g3 := Utf.lines_len x
        simp at g2
        injection h with h1 h2
        subst h1
        show nm.length + (Utf.lines x).length + 5 ≤ _
        omega
   ·split at h
    ·unfold Xl.endT at h
     split at h
     ·cases h
     ·rename_i nm m hn
      have g1 := name_le hn
      split at h
      ·cases h
      ·rename_i u p he
       injection h with h1 h2
       subst h1
       show nm.length + 3 ≤ _
       omega
    ·unfold tag at h
     split at h
     ·cases h
     ·rename_i nm m hn
      have g1 := name_le hn
      split at h
      ·cases h
      ·rename_i e ats p ht
       have g2 := tagF_le ht
       injection h with h1 h2
       subst h1
       cases e with
       | true =>
        show nm.length + (writeA ats).length + 3 ≤ _
        simp only [if_true] at g2
        have : writeA [] = [] := rfl
        rw [this] at g2
        simp at g2
        omega
       | false =>
        show nm.length + (writeA ats).length + 2 ≤ _
        simp only [Bool.false_eq_true, if_false] at g2
        have : writeA [] = [] := rfl
        rw [this] at g2
        simp at g2
        omega
theorem runF_cost : ∀ (f : Nat) {r : Tx} {k p : Nat} {ts us : List Xl.Tok}, Xl.runF f r k ts = (0, p, us) → costs us ≤ costs ts + 6 * r.length
 | 0, r, k, p, ts, us, h => by
  injection h with _ h
  injection h with _ h
  subst h
  omega
 | f + 1, r, k, p, ts, us, h => by
  rw [Xl.runF] at h
  split at h
  ·injection h with _ h
   injection h with _ h
   subst h
   omega
  ·rename_i hne
   cases ht : Xl.token r with
   | bad c o =>
    rw [ht] at h
    injection h with h1 h
    injection h with h2 h
    subst h
    simp [costs]
   | ok t n =>
    rw [ht] at h
    have g1 := token_cost ht
    obtain ⟨_, g2⟩ := Xl.token_len ht hne
    have g3 := runF_cost f h
    rw [costs_snoc, List.length_drop] at g3
    have g4 : cost { t with at_ := k } = cost t := rfl
    omega

/-! ### The builder -/
def phiF : List Fr → Nat
 | [] => 0
 | f :: F => f.name.length + (writeA f.attrs).length + 2 + (writeL f.kids).length + phiF F
def phi (s : St) : Nat := (writeL s.before).length + (writeL s.after).length + (writeN s.root).length + phiF s.opn + (esc false s.text).length
theorem writeL_snoc (x : Nd) : ∀ l : List Nd, writeL (l ++ [x]) = writeL l ++ writeN x
 | [] => by rw [List.nil_append, writeL, writeL, writeL]; simp
 | y :: l => by rw [List.cons_append, writeL, writeL, writeL_snoc x l, List.append_assoc]
theorem phi_put (s : St) (n : Nd) : phi (put s n) ≤ phi s + (writeN n).length := by
 unfold put
 split
 ·rename_i f F ho
  unfold phi
  simp only
  rw [ho, phiF, phiF]
  simp only
  rw [writeL_snoc, List.length_append]
  omega
 ·split
  ·unfold phi
   simp only
   omega
  ·split
   ·unfold phi
    simp only
    rw [writeL_snoc, List.length_append]
    omega
   ·unfold phi
    simp only
    rw [writeL_snoc, List.length_append]
    omega
theorem phi_text (s : St) : phi { s with text := [] } + (esc false s.text).length = phi s := by
 unfold phi
 simp only
 have : esc false [] = [] := rfl
 rw [this]
 simp
theorem phi_flush (s : St) : phi (flush s) ≤ phi s := by
 unfold flush
 split
 ·exact Nat.le_refl _
 ·have h1 := phi_put s (textN s.text)
  have h2 := phi_text (put s (textN s.text))
  rw [put_text] at h2
  have h3 : writeN (textN s.text) = esc false s.text := by
   unfold textN
   rw [writeN, if_neg (by decide), if_pos rfl]
  rw [h3] at h1
  exact Nat.le_of_add_le_add_right (b := (esc false s.text).length) (Nat.le_trans (Nat.le_of_eq h2) h1)
theorem phi_start {s s' : St} {t : Xl.Tok} (h : startT s t = .ok s') : phi s' ≤ phi s + (t.name.length + (writeA t.attrs).length + 2) ∧ ∃ F, s'.opn = ⟨t.name, t.attrs, []⟩ :: F ∧ s'.text = [] := by
 unfold startT at h
 split at h
 ·cases h
 ·split at h
  ·cases h
  ·split at h
   ·cases h
   ·injection h with h
    subst h
    have h1 : phi (flush { s with nodes := s.nodes + (1 + t.attrs.length) }) ≤ phi s := phi_flush { s with nodes := s.nodes + (1 + t.attrs.length) }
    refine ⟨?_, _, rfl, flush_text _⟩
    unfold phi at h1 ⊢
    simp only at h1 ⊢
    rw [phiF]
    simp only
    have : writeL [] = [] := by rw [writeL]
    rw [this, List.length_nil]
    omega
theorem phi_end {s : St} {f : Fr} {F : List Fr} (h : (flush s).opn = f :: F) : phi (Xt.endT s) ≤ phi s + (f.name.length + 3) ∧ (f.kids = [] → phi (Xt.endT s) ≤ phi s + 1) := by
 have h1 := phi_flush s
 have h2 := phi_put ⟨(flush s).before, (flush s).root, (flush s).has, (flush s).after, F, (flush s).text, (flush s).nodes⟩ (.mk 1 f.name [] f.attrs f.kids)
 have h3 : phi ⟨(flush s).before, (flush s).root, (flush s).has, (flush s).after, F, (flush s).text, (flush s).nodes⟩ + (f.name.length + (writeA f.attrs).length + 2 + (writeL f.kids).length) = phi (flush s) := by
  unfold phi
  simp only
  rw [h, phiF]
  omega
 have h4 : Xt.endT s = put ⟨(flush s).before, (flush s).root, (flush s).has, (flush s).after, F, (flush s).text, (flush s).nodes⟩ (.mk 1 f.name [] f.attrs f.kids) := end_of h
 rw [h4]
 rw [writeN, if_pos rfl] at h2
 constructor
 ·by_cases he : f.kids.isEmpty = true
  ·rw [if_pos he] at h2
   simp at h2
   omega
  ·rw [if_neg he] at h2
   simp at h2
   omega
 ·intro hk
  rw [hk] at h2 h3
  have e0 : writeL [] = [] := by rw [writeL]
  rw [e0] at h3
  simp at h2 h3
  rw [hk]
  omega
theorem phi_step {s s' : St} {t : Xl.Tok} (hk : 1 ≤ t.kind ∧ t.kind ≤ 7) (h : Xt.stepT s t = .ok s') : phi s' ≤ phi s + cost t := by
 unfold Xt.stepT at h
 unfold cost
 split at h
 ·rename_i k1
  rw [if_pos k1]
  exact (phi_start h).1
 ·rename_i k1
  rw [if_neg k1]
  split at h
  ·rename_i k2
   rw [if_pos k2]
   cases h1 : startT s t with
   | error e => rw [h1] at h; cases h
   | ok s1 =>
    rw [h1] at h
    injection h with h
    subst h
    obtain ⟨g1, F, g2, g3⟩ := phi_start h1
    have g4 := (phi_end (s := s1) (f := ⟨t.name, t.attrs, []⟩) (F := F) (by rw [flush_id g3]; exact g2)).2 rfl
    omega
  ·rename_i k2
   rw [if_neg k2]
   split at h
   ·rename_i k3
    rw [if_pos k3]
    split at h
    ·cases h
    ·rename_i f F ho
     split at h
     ·rename_i hn
      injection h with h
      subst h
      have hm := flush_opn s
      rw [ho, List.map_cons] at hm
      cases hf : (flush s).opn with
      | nil => rw [hf] at hm; cases hm
      | cons g G =>
       rw [hf, List.map_cons] at hm
       injection hm with hm _
       have := (phi_end hf).1
       rw [hm, hn] at this
       exact this
     ·cases h
   ·rename_i k3
    rw [if_neg k3]
    have other : ∀ k : Int, otherT s t k = .ok s' → phi s' ≤ phi s + (writeN (.mk k t.name t.text [] [])).length := fun k h => by
     unfold otherT at h
     split at h
     ·cases h
     ·injection h with h
      subst h
      have h1 : phi (flush { s with nodes := s.nodes + 1 }) ≤ phi s := phi_flush { s with nodes := s.nodes + 1 }
      exact Nat.le_trans (phi_put (flush { s with nodes := s.nodes + 1 }) (.mk k t.name t.text [] [])) (Nat.add_le_add_right h1 _)
    split at h
    ·rename_i k6
     rw [if_pos k6]
     have := other 3 h
     rw [writeN] at this
     simp at this
     omega
    ·rename_i k6
     rw [if_neg k6]
     split at h
     ·rename_i k7
      rw [if_pos k7]
      have := other 4 h
      rw [writeN] at this
      simp at this
      split at this <;> simp at this <;> omega
     ·rename_i k7
      rw [if_neg k7]
      unfold charsT at h
      have he := congrArg List.length (esc_append false s.text t.text)
      rw [List.length_append] at he
      have hph : ∀ n : Nat, phi { s with nodes := n, text := s.text ++ t.text } ≤ phi s + (esc false t.text).length := fun n => by
       unfold phi
       simp only
       omega
      split at h
      ·split at h
       ·cases h
       ·injection h with h
        subst h
        omega
      ·split at h
       ·split at h
        ·cases h
        ·injection h with h
         subst h
         exact hph _
       ·injection h with h
        subst h
        exact hph _
theorem phi_0 : phi .start = 0 := by
 unfold phi St.start zero
 simp only
 rw [writeL, writeN, phiF]
 simp [esc]

/-! ### Altogether -/
def TokP (t : Xl.Tok) : Prop := (1 ≤ t.kind ∧ t.kind ≤ 7) ∧ TokF t ∧ TokN t
theorem runF_P : ∀ (f : Nat) {r : Tx} {k p : Nat} {ts us : List Xl.Tok}, V r → (∀ t ∈ ts, TokP t) → Xl.runF f r k ts = (0, p, us) → ∀ t ∈ us, TokP t
 | 0, r, k, p, ts, us, _, ho, h => by
  injection h with _ h
  injection h with _ h
  rw [← h]
  exact ho
 | f + 1, r, k, p, ts, us, hv, ho, h => by
  rw [Xl.runF] at h
  split at h
  ·injection h with _ h
   injection h with _ h
   rw [← h]
   exact ho
  ·cases ht : Xl.token r with
   | bad c o =>
    rw [ht] at h
    injection h with h1 h
    injection h with h2 h
    rw [← h]
    exact fun t ht => (by cases ht)
   | ok t n =>
    rw [ht] at h
    have g0 := token_F hv ht
    obtain ⟨g1, g2, _⟩ := token_V hv ht
    refine runF_P f g2 (fun x hx => ?_) h
    rcases List.mem_append.1 hx with hx | hx
    ·exact ho x hx
    ·rw [List.mem_singleton.1 hx]
     refine ⟨g1.kind, ⟨g0.tag, g0.text, g0.co, g0.pi⟩, fun e => ?_⟩
     have := g1.name
     show nameR t.name = true
     rw [this]
     have e : t.kind = 1 ∨ t.kind = 2 := e
     rcases e with e | e <;> rw [e] <;> rfl
theorem all_P {S : Tx} {ts : List Xl.Tok} {p : Nat} (h : Xl.allF S = (0, p, ts)) : (∀ t ∈ ts, TokP t) ∧ costs ts ≤ 6 * S.length := by
 unfold Xl.allF at h
 split at h
 ·injection h with h _
  exact absurd h (by decide)
 ·split at h
  ·injection h with h _
   exact absurd h (by decide)
  ·rename_i hb
   have hV := V_of_bad (l := S) (by omega)
   cases hd : decl S with
   | bad c o =>
    rw [hd] at h
    injection h with h1 h
    injection h with h2 h
    rw [← h]
    exact ⟨fun t ht => (by cases ht), (by simp [costs])⟩
   | ok u n =>
    rw [hd] at h
    refine ⟨runF_P _ (decl_V hV hd) (fun t ht => (by cases ht)) h, ?_⟩
    have := runF_cost _ h
    rw [List.length_drop] at this
    simp [costs] at this
    omega
end Go.Proofs.YtokdnhdfmgfkeaaGreatDoor.Xo
end

section
namespace Go.Proofs.YtokdnhdfmgfkeaaGreatDoor.Xt
open Go.RowKit UtfW Xl Xo

theorem Sm.endT {s : St} {N : Nat} (h : Sm s N) : Sm (Xt.endT s) (N + 2) := by
 have h1 := h.flush
 unfold Xt.endT
 simp only
 split
 ·rename_i f F ho
  have h2 : Sm { Xt.flush s with opn := F } (N + 1) := ⟨h1.bef, h1.aft, fun g hg => h1.kid g (by rw [ho]; exact List.mem_cons_of_mem _ hg)⟩
  exact h2.put _
 ·exact h1.mono (by omega)
theorem Sm.startT {s s' : St} {t : Xl.Tok} {N : Nat} (h : Sm s N) (hs : startT s t = .ok s') : Sm s' (N + 1) := by
 unfold Xt.startT at hs
 split at hs
 ·cases hs
 ·split at hs
  ·cases hs
  ·split at hs
   ·cases hs
   ·injection hs with hs
    have hf : Sm (Xt.flush { s with nodes := s.nodes + (1 + t.attrs.length) }) (N + 1) := Sm.flush ⟨h.bef, h.aft, h.kid⟩
    subst hs
    refine ⟨hf.bef, hf.aft, fun g hg => ?_⟩
    rcases List.mem_cons.1 hg with rfl | hg
    ·exact Nat.zero_le _
    ·exact hf.kid g hg
theorem Sm.stepT {s s' : St} {t : Xl.Tok} {N : Nat} (h : Sm s N) (hs : Xt.stepT s t = .ok s') : Sm s' (N + 3) := by
 unfold Xt.stepT at hs
 split at hs
 ·exact (h.startT hs).mono (by omega)
 ·split at hs
  ·cases h1 : Xt.startT s t with
   | error e => rw [h1] at hs; cases hs
   | ok s1 =>
    rw [h1] at hs
    injection hs with hs
    rw [← hs]
    exact (h.startT h1).endT
  ·split at hs
   ·split at hs
    ·cases hs
    ·split at hs
     ·injection hs with hs
      rw [← hs]
      exact h.endT.mono (by omega)
     ·cases hs
   ·have other : ∀ k : Int, otherT s t k = .ok s' → Sm s' (N + 3) := fun k hs => by
     unfold otherT at hs
     split at hs
     ·cases hs
     ·injection hs with hs
      have hf : Sm (Xt.flush { s with nodes := s.nodes + 1 }) (N + 1) := Sm.flush ⟨h.bef, h.aft, h.kid⟩
      rw [← hs]
      exact (hf.put _).mono (by omega)
    split at hs
    ·exact other 3 hs
    ·split at hs
     ·exact other 4 hs
     ·unfold charsT at hs
      split at hs
      ·split at hs
       ·cases hs
       ·injection hs with hs
        rw [← hs]
        exact h.mono (by omega)
      ·split at hs
       ·split at hs
        ·cases hs
        ·injection hs with hs
         rw [← hs]
         exact ⟨Nat.le_add_right_of_le h.bef, Nat.le_add_right_of_le h.aft, fun f hf => Nat.le_add_right_of_le (h.kid f hf)⟩
       ·injection hs with hs
        rw [← hs]
        exact ⟨Nat.le_add_right_of_le h.bef, Nat.le_add_right_of_le h.aft, fun f hf => Nat.le_add_right_of_le (h.kid f hf)⟩
theorem Sm.start_ : Sm .start 0 := ⟨Nat.le_refl _, Nat.le_refl _, fun f hf => by cases hf⟩
theorem esc_ge (v : Bool) : ∀ s : Tx, s.length ≤ (esc v s).length
 | [] => Nat.le_refl _
 | c :: s => by
  have h1 := esc_ge v s
  rw [esc, List.length_append, List.length_cons]
  have h2 : 1 ≤ (esc1 v c).length := by
   rcases esc1_cases v c with ⟨e, _⟩ | ⟨e, he, _⟩
   ·rw [e]; simp
   ·rw [he]; simp
  omega
theorem text_phi (s : St) : s.text.length ≤ phi s := by
 have := esc_ge false s.text
 unfold phi
 omega
theorem runF_many : ∀ (f : Nat) {r : Tx} {k p : Nat} {ts us : List Xl.Tok}, Xl.runF f r k ts = (0, p, us) → us.length ≤ ts.length + r.length
 | 0, r, k, p, ts, us, h => by
  injection h with _ h
  injection h with _ h
  rw [← h]
  omega
 | f + 1, r, k, p, ts, us, h => by
  rw [Xl.runF] at h
  split at h
  ·injection h with _ h
   injection h with _ h
   rw [← h]
   omega
  ·rename_i hne
   cases ht : Xl.token r with
   | bad c o =>
    rw [ht] at h
    injection h with h1 h
    injection h with h2 h
    rw [← h]
    simp
   | ok t n =>
    rw [ht] at h
    obtain ⟨g1, g2⟩ := Xl.token_len ht hne
    have g3 := runF_many f h
    rw [List.length_append, List.length_drop] at g3
    simp at g3
    omega
theorem all_many {S : Tx} {ts : List Xl.Tok} {p : Nat} (h : Xl.allF S = (0, p, ts)) : ts.length ≤ S.length ∧ S.length ≤ 65536 := by
 unfold Xl.allF at h
 split at h
 ·injection h with h _
  exact absurd h (by decide)
 ·split at h
  ·injection h with h _
   exact absurd h (by decide)
  ·cases hd : decl S with
   | bad c o =>
    rw [hd] at h
    injection h with h1 h
    injection h with h2 h
    rw [← h]
    exact ⟨Nat.zero_le _, by omega⟩
   | ok u n =>
    rw [hd] at h
    have := runF_many _ h
    rw [List.length_drop] at this
    simp at this
    omega

/-! ### Parse -/
def parseF (S : Tx) : Int × Nat × Doc := if (Xl.allF S).1 ≠ 0 then ((Xl.allF S).1, (Xl.allF S).2.1, noDoc) else parseT S.length (Xl.allF S).2.2
theorem runT_snoc : ∀ {a : List Xl.Tok} {s0 s : St} (t : Xl.Tok) (l : List Xl.Tok), Xt.runT a s0 = .ok s → Xt.runT (a ++ t :: l) s0 = match Xt.stepT s t with
  | .error e => .error (e, t.at_)
  | .ok s' => Xt.runT l s'
 | [], s0, s, t, l, h => by
  injection h with h
  subst h
  rw [List.nil_append, Xt.runT]
  cases Xt.stepT s0 t <;> rfl
 | x :: a, s0, s, t, l, h => by
  rw [Xt.runT] at h
  rw [List.cons_append, Xt.runT]
  cases hx : Xt.stepT s0 x with
  | error e => rw [hx] at h; cases h
  | ok s1 =>
   rw [hx] at h
   exact runT_snoc t l h
theorem runT_take {ts : List Xl.Tok} {i : Nat} {t : Xl.Tok} {s s' : St} (hi : ts[i]? = some t) (h : Xt.runT (ts.take i) .start = .ok s) (hs : Xt.stepT s t = .ok s') : Xt.runT (ts.take (i + 1)) .start = .ok s' := by
 rw [take_snoc hi, runT_snoc t [] h, hs]
 rfl
theorem runT_bad {ts : List Xl.Tok} {i : Nat} {t : Xl.Tok} {s : St} {e : Int} (hi : ts[i]? = some t) (h : Xt.runT (ts.take i) .start = .ok s) (hs : Xt.stepT s t = .error e) : Xt.runT ts .start = .error (e, t.at_) := by
 have hl : ts = ts.take i ++ t :: ts.drop (i + 1) := by
  have hlt := (List.getElem?_eq_some_iff.1 hi).1
  have he : ts[i] = t := (List.getElem?_eq_some_iff.1 hi).2
  rw [← he, List.getElem_cons_drop, List.take_append_drop]
 rw [hl, runT_snoc t _ h, hs]
structure Run (S : Tx) (ts : List Xl.Tok) (i : Nat) (s : St) : Prop where
 run : Xt.runT (ts.take i) .start = .ok s
 inv : Inv s
 sm : Sm s (3 * i)
 phi : phi s ≤ costs (ts.take i)
theorem run_0 (S : Tx) (ts : List Xl.Tok) : Run S ts 0 .start := ⟨rfl, inv_start, Sm.start_, by rw [phi_0]; exact Nat.zero_le _⟩
theorem costs_take : ∀ (ts : List Xl.Tok) (i : Nat), costs (ts.take i) ≤ costs ts
 | [], i => by simp
 | t :: l, 0 => by simp [costs]
 | t :: l, i + 1 => by
  rw [List.take_succ_cons, costs, costs]
  have := costs_take l i
  omega
theorem Run.next {S : Tx} {ts : List Xl.Tok} {i : Nat} {s s' : St} {t : Xl.Tok} (h : Run S ts i s) (hi : ts[i]? = some t) (hP : TokP t) (hs : Xt.stepT s t = .ok s') : Run S ts (i + 1) s' := by
 refine ⟨runT_take hi h.run hs, h.inv.stepT hP.2.2 hs, h.sm.stepT hs, ?_⟩
 have := phi_step hP.1 hs
 have h2 := h.phi
 rw [take_snoc hi, costs_snoc]
 omega
end Go.Proofs.YtokdnhdfmgfkeaaGreatDoor.Xt
end

section
namespace Go.Proofs.YtokdnhdfmgfkeaaGreatDoor.Xl
open Go.RowKit UtfW Er

end Go.Proofs.YtokdnhdfmgfkeaaGreatDoor.Xl
end

section
namespace Go.Proofs.YtokdnhdfmgfkeaaGreatDoor.Xl
open Go.RowKit UtfW Er

theorem cell_keep {w x : World} {b i : Nat} {v : Value} (h : w.cell? ⟨b, i, none⟩ = some v) (hb : Below w.heap.size w x) : x.cell? ⟨b, i, none⟩ = some v := by
 have hlt : b < w.heap.size := by
  refine Nat.lt_of_not_le fun hn => ?_
  simp [World.cell?, Array.getElem?_eq_none hn] at h
 have e := hb.block b hlt
 simp only [World.cell?] at h ⊢
 rw [e]
 exact h
section
variable (w : World) (S : Tx) (n : Int)
end
end Go.Proofs.YtokdnhdfmgfkeaaGreatDoor.Xl
end

section
namespace Go.Proofs.YtokdnhdfmgfkeaaGreatDoor.Xt
open Go.RowKit UtfW Xl Xo

def DocI (X : Nat → Prop) (w : World) (v : Value) (d : Doc) : Prop := ∃ A1 c1 r0 r1 r2 r3 r4 A2 c2, v = .agg #[.slice A1 d.before.length c1, r0, r1, r2, r3, r4, .slice A2 d.after.length c2] ∧
 Sq (NdE X) 5 w A1 d.before.length c1 d.before ∧ (∀ a, A1 = some a → 0 < d.before.length → X a.block) ∧ NdI X w [r0, r1, r2, r3, r4] d.root ∧ Sq (NdE X) 5 w A2 d.after.length c2 d.after ∧ ∀ a, A2 = some a → 0 < d.after.length → X a.block
def zeroDoc : Value := .agg #[.slice none 0 0, .int .i64 0, .string ⟨#[]⟩, .string ⟨#[]⟩, .slice none 0 0, .slice none 0 0, .slice none 0 0]
theorem DocI.zero (X : Nat → Prop) (w : World) : DocI X w zeroDoc noDoc :=
 ⟨none, 0, _, _, _, _, _, none, 0, rfl, Sq.none_ w, fun a e => (by cases e), zero_nd X w, Sq.none_ w, fun a e => (by cases e)⟩
def ParP (S : Tx) (w : World) (e : Ending) (w' : World) : Prop := Below w.heap.size w w' ∧ ∃ vd ev, e = .returned (.tuple #[vd, ev]) ∧
 (((parseF S).1 = 0 ∧ ev = .nilIface ∧ DocI (fun k => w.heap.size ≤ k ∧ k < w'.heap.size) w' vd (parseF S).2.2) ∨ ((parseF S).1 ≠ 0 ∧ (parseF S).2.2 = noDoc ∧ vd = zeroDoc ∧ Er.Fe w' w'.heap.size (parseF S).1 ((parseF S).2.1 : Nat) [xmlB] ev))
theorem setCell_same {w : World} {b i : Nat} {cs : Array Value} {E : TypeId} {fr : Nat × Nat} {v : Value} (h : w.heap[b]? = some (.cells cs E fr)) (hi : cs[i]? = some v) : w.setCell ⟨b, i, none⟩ v = w := by
 have hh : (w.setCell ⟨b, i, none⟩ v).heap = w.heap := by
  unfold World.setCell
  simp only
  apply Array.ext_getElem?
  intro j
  rw [Array.getElem?_modify]
  by_cases hj : b = j
  ·subst hj
   rw [if_pos rfl, h]
   simp only [Option.map_some, Option.some.injEq, Obj.cells.injEq, and_true]
   apply Array.ext_getElem?
   intro k
   rw [if_neg (by simp), Array.getElem?_setIfInBounds]
   by_cases hk : i = k
   ·subst hk
    have := (Array.getElem?_eq_some_iff.1 hi).1
    rw [if_pos rfl, if_pos this, hi]
   ·rw [if_neg hk]
  ·rw [if_neg hj]
 obtain ⟨a1, a2, a3, a4⟩ := w
 unfold World.setCell at hh ⊢
 simp only at hh
 rw [hh]
theorem doc_same {w : World} {D : Nat} (h : w.heap[D]? = some (.cells #[.slice none 0 0, .int .i64 0, .string ⟨#[]⟩, .string ⟨#[]⟩, .slice none 0 0, .slice none 0 0, .slice none 0 0] 27)) :
  w.setCell ⟨D, 0, none⟩ (.slice none 0 0) = w ∧ w.setCell ⟨D, 1, none⟩ (.int .i64 0) = w ∧ w.setCell ⟨D, 2, none⟩ (.string ⟨#[]⟩) = w ∧ w.setCell ⟨D, 3, none⟩ (.string ⟨#[]⟩) = w ∧ w.setCell ⟨D, 4, none⟩ (.slice none 0 0) = w ∧ w.setCell ⟨D, 5, none⟩ (.slice none 0 0) = w ∧ w.setCell ⟨D, 6, none⟩ (.slice none 0 0) = w :=
 ⟨setCell_same h rfl, setCell_same h rfl, setCell_same h rfl, setCell_same h rfl, setCell_same h rfl, setCell_same h rfl, setCell_same h rfl⟩
theorem res_doc {fn : Func} {p u : Tmp} (hf : fn.results = #[.cell p 27, .tmp u]) {tmps : Array Value} {w : World} {D : Nat} {a0 a1 a2 a3 a4 a5 a6 ok : Value}
  (h : w.heap[D]? = some (.cells #[a0, a1, a2, a3, a4, a5, a6] 27)) (hp : tmps.getD p undef = .pointer (some ⟨D, 0, none⟩)) (hu : tmps.getD u undef = ok) :
  (results fn tmps).run Tryz.prog w = .ok (.tuple #[.agg #[a0, a1, a2, a3, a4, a5, a6], ok]) w := by
 rw [results_cell_tmp hf, hp, hu]
 simp [asAddr, Result.andThen, run_loadVar_row w D _ _ _ _ _ h Tryz.underlying27 rfl (by kernel_rfl)]
theorem bs_start (w : World) (lo : Nat) : BsA (fun k => if k = w.heap.size then .bld else .no) ⟨lo, w.heap.size⟩ (w.alloc (.cells #[.slice none 0 0, .int .i64 0, .string ⟨#[]⟩, .string ⟨#[]⟩, .slice none 0 0, .slice none 0 0, .slice none 0 0, .slice none 0 0, .string ⟨#[]⟩, .int .i64 0, .bool false] 85)) w.heap.size .start := by
 have hb := below_alloc w (.cells #[.slice none 0 0, .int .i64 0, .string ⟨#[]⟩, .string ⟨#[]⟩, .slice none 0 0, .slice none 0 0, .slice none 0 0, .slice none 0 0, .string ⟨#[]⟩, .int .i64 0, .bool false] 85)
 refine ⟨.slice none 0 0, .slice none 0 0, .slice none 0 0, [.int .i64 0, .string ⟨#[]⟩, .string ⟨#[]⟩, .slice none 0 0, .slice none 0 0], [], ⟨fun k hk => ?_, hb.size, by simp, fun _ => ⟨OwS.nil _ _ _, fun k hk => (by cases hk)⟩, zero_nd _ _, fun _ => ⟨OwS.nil _ _ _, fun k hk => (by cases hk)⟩, fun _ => ⟨World.ownsRow_nil _ _ _ _, fun k hk => (by cases hk)⟩, rfl, fun i k f _ _ h => (by simp at h)⟩, _, _, _, _, _, rfl, heap_alloc_new w _⟩
 by_cases e : k = w.heap.size
 ·subst e
  exact ⟨Nat.le_refl _, by simp⟩
 ·simp [e] at hk
theorem Sq.stay2 {α : Type} {El El' : World → List Value → α → Prop} {k : Nat} {w w' : World} {A : Option Addr} {n c : Nat} {l : List α} (h : Sq El k w A n c l) (hX : ∀ a, A = some a → 0 < n → w'.heap[a.block]? = w.heap[a.block]?) (hE : ∀ vs x, El w vs x → El' w' vs x) : Sq El' k w' A n c l :=
 ⟨h.len, h.le, h.max, h.nil, fun hn => by
  obtain ⟨b, off, e, hlt, hc⟩ := h.cell hn
  have hs : w'.heap[b]? = w.heap[b]? := hX ⟨b, off, none⟩ e hn
  refine ⟨b, off, e, ?_, fun i x hi => ?_⟩
  ·rw [Array.getElem?_eq_getElem hlt] at hs
   exact (Array.getElem?_eq_some_iff.1 hs).1
  ·obtain ⟨vs, h1, h2, h3⟩ := hc i x hi
   exact ⟨vs, h1, hE _ _ h2, fun j v hj => (cell_same hs).trans (h3 j v hj)⟩⟩
theorem doc_fin {ρ : Rol} {P0 : Pp} {w : World} {b : Nat} {s : St} (h : BsA ρ P0 w b s) {lo0 D : Nat} (hD : D < P0.lo) (hlo : lo0 ≤ P0.lo) (hlh : P0.lo ≤ P0.hi) :
  ∃ A1 n1 c1 kd nm tx Ar na cr Ak nk ck A2 n2 c2 C, w.heap[b]? = some (.cells C 85) ∧ C[0]? = some (.slice A1 n1 c1) ∧ C[1]? = some (.int .i64 kd) ∧ C[2]? = some (.string nm) ∧ C[3]? = some (.string tx) ∧ C[4]? = some (.slice Ar na cr) ∧ C[5]? = some (.slice Ak nk ck) ∧ C[6]? = some (.slice A2 n2 c2) ∧
   ∀ w', w.grownBy w' (some D) → DocI (fun k => lo0 ≤ k ∧ k < w'.heap.size) w' (.agg #[.slice A1 n1 c1, .int .i64 kd, .string nm, .string tx, .slice Ar na cr, .slice Ak nk ck, .slice A2 n2 c2]) ⟨s.before, s.root, s.after⟩ := by
 obtain ⟨v1, v2, v3, vr, nb, hR, r0, r1, r2, r3, r4, rfl, hB⟩ := h
 obtain ⟨A1, c1, rfl⟩ := OwS.form (hR.bef id).ow
 obtain ⟨A2, c2, rfl⟩ := OwS.form (hR.aft id).ow
 have hroot : ∃ kd nm tx Ar na cr Ak nk ck, [r0, r1, r2, r3, r4] = [.int .i64 kd, .string nm, .string tx, .slice Ar na cr, .slice Ak nk ck] := by
  have h0 := hR.root
  generalize s.root = R at h0
  obtain ⟨kd, nm, tx, as_, ks⟩ := R
  obtain ⟨Ar, cr, Ak, ck, e, _⟩ := h0.cells
  exact ⟨_, _, _, _, _, _, _, _, _, e⟩
 obtain ⟨kd, nm, tx, Ar, na, cr, Ak, nk, ck, e⟩ := hroot
 have hrt := hR.root
 rw [e] at hrt
 injection e with e0 e
 injection e with e1 e
 injection e with e2 e
 injection e with e3 e
 injection e with e4 e
 subst e0; subst e1; subst e2; subst e3; subst e4
 refine ⟨A1, _, c1, kd, nm, tx, Ar, na, cr, Ak, nk, ck, A2, _, c2, _, hB, rfl, rfl, rfl, rfl, rfl, rfl, rfl, fun w' hg => ?_⟩
 have hst : ∀ vs x, NdI (Fin_ ρ P0) w vs x → NdI (fun k => lo0 ≤ k ∧ k < w'.heap.size) w' vs x := fun vs x hx => hx.stay fun k hk => by
  have hl := fin_mem hR.dom hR.p0 hk
  have hge : P0.lo ≤ k := by
   rcases hk with hk | hk
   ·exact hk.1
   ·exact Nat.le_trans hlh (hR.dom k (by rw [hk]; exact fun e => by cases e)).1
  exact ⟨⟨Nat.le_trans hlo hge, Nat.lt_of_lt_of_le hl hg.size⟩, hg.block k hl (fun e => by injection e with e; omega)⟩
 have hrow : ∀ {A : Option Addr} {m c : Nat} {l : List Nd} {r : Ro}, OwN 25 ρ P0 w r (.slice A m c) l → l.length = m → Sq (NdE (fun k => lo0 ≤ k ∧ k < w'.heap.size)) 5 w' A m c l ∧ ∀ a, A = some a → 0 < m → lo0 ≤ a.block ∧ a.block < w'.heap.size := fun {A m c l r} ho hl => by
  have hin : ∀ a, A = some a → P0.hi ≤ a.block ∧ a.block < w.heap.size := fun a e => OwS.lt ho.ow a.block (by rw [e]; rfl)
  exact ⟨Sq.stay2 (OwS.sq' ho.ow (by decide)) (fun a e hn => hg.block _ (hin a e).2 (fun e2 => by injection e2 with e2; have := (hin a e).1; omega)) hst, fun a e hn => ⟨Nat.le_trans hlo (Nat.le_trans hlh (hin a e).1), Nat.lt_of_lt_of_le (hin a e).2 hg.size⟩⟩
 obtain ⟨g1, g2⟩ := hrow (hR.bef id) rfl
 obtain ⟨g3, g4⟩ := hrow (hR.aft id) rfl
 exact ⟨A1, c1, _, _, _, _, _, A2, c2, rfl, g1, g2, hst _ _ hrt, g3, g4⟩
abbrev tokW (w : World) (k a n t v : Value) : World := w.alloc (.cells #[k, a, n, t, v] 87)
theorem tokW_below (w : World) (k a n t v : Value) : Below w.heap.size w (tokW w k a n t v) := below_alloc w _
theorem tokW_blk (w : World) (k a : Int) (n t : ByteArray) (v : Value) : (tokW w (.int .i64 k) (.int .i64 a) (.string n) (.string t) v).heap[w.heap.size]? = some (.cells #[.int .i64 k, .int .i64 a, .string n, .string t, v] 87) := heap_alloc_new w _
end Go.Proofs.YtokdnhdfmgfkeaaGreatDoor.Xt
end

section
namespace Go.Proofs.YtokdnhdfmgfkeaaGreatDoor.Xp
open Go.RowKit UtfW Xl Xo Xt

theorem doc_parts {X : Nat → Prop} {w : World} {v : Value} {d : Doc} (h : DocI X w v d) : ∃ A1 n1 c1 kd nm tx Ar n5 cr Ak n6 ck A2 n2 c2, v = .agg #[.slice A1 n1 c1, .int .i64 kd, .string (strOf nm), .string (strOf tx), .slice Ar n5 cr, .slice Ak n6 ck, .slice A2 n2 c2] ∧
  Sq (NdE X) 5 w A1 n1 c1 d.before ∧ (∀ a, A1 = some a → 0 < n1 → X a.block) ∧ NdI X w [.int .i64 kd, .string (strOf nm), .string (strOf tx), .slice Ar n5 cr, .slice Ak n6 ck] d.root ∧ Sq (NdE X) 5 w A2 n2 c2 d.after ∧ (∀ a, A2 = some a → 0 < n2 → X a.block) ∧ kd = d.root.kind := by
 obtain ⟨A1, c1, r0, r1, r2, r3, r4, A2, c2, rfl, h1, h2, h3, h4, h5⟩ := h
 obtain ⟨bf, rt, af⟩ := d
 obtain ⟨kd, nm, tx, as_, ks⟩ := rt
 obtain ⟨Ar, cr, Ak, ck, e, -⟩ := NdI.cells h3
 injection e with e0 e
 injection e with e1 e
 injection e with e2 e
 injection e with e3 e
 injection e with e4 e
 subst e0 e1 e2 e3 e4
 exact ⟨A1, _, c1, kd, nm, tx, Ar, _, cr, Ak, _, ck, A2, _, c2, rfl, h1, h2, h3, h4, h5, rfl⟩
theorem DocI.keep {X : Nat → Prop} {w w' : World} {v : Value} {d : Doc} (h : DocI X w v d) (hs : ∀ k, X k → w'.heap[k]? = w.heap[k]?) : DocI X w' v d := by
 obtain ⟨A1, c1, r0, r1, r2, r3, r4, A2, c2, rfl, h1, h2, h3, h4, h5⟩ := h
 exact ⟨A1, c1, r0, r1, r2, r3, r4, A2, c2, rfl, Sq.stay h1 (fun a e hn => hs _ (h2 a e hn)) (fun vs y hy => NdI.stay hy fun k hk => ⟨hk, hs k hk⟩), h2, NdI.stay h3 (fun k hk => ⟨hk, hs k hk⟩), Sq.stay h4 (fun a e hn => hs _ (h5 a e hn)) (fun vs y hy => NdI.stay hy fun k hk => ⟨hk, hs k hk⟩), h5⟩
set_option maxHeartbeats 4000000 in
set_option maxRecDepth 100000 in
theorem written_any (X : Nat → Prop) (w : World) (v : Value) (d : Doc) (hd : DocI X w v d) (hX : ∀ j, X j → j < w.heap.size) (hlen : (writeD d).length ≤ 100000000000000) :
  Calls Tryz.prog 40 #[v] w fun e w' => e = .returned (.string (strOf (writeD d))) ∧ Below w.heap.size w w' := by
 obtain ⟨A1, n1, c1, kd, nm, tx, Ar, n5, cr, Ak, n6, ck, A2, n2, c2, rfl, h1, h2, h3, h4, h5, -⟩ := doc_parts hd
 have hba := below_alloc w (.cells #[.slice A1 n1 c1, .int .i64 kd, .string (strOf nm), .string (strOf tx), .slice Ar n5 cr, .slice Ak n6 ck, .slice A2 n2 c2] 27)
 have hnb := heap_alloc_new w (.cells #[.slice A1 n1 c1, .int .i64 kd, .string (strOf nm), .string (strOf tx), .slice Ar n5 cr, .slice Ak n6 ck, .slice A2 n2 c2] 27)
 obtain ⟨T, hT⟩ : ∃ T, w.heap.size = T := ⟨_, rfl⟩
 obtain ⟨w1, hw1⟩ : ∃ w1, w.alloc (.cells #[.slice A1 n1 c1, .int .i64 kd, .string (strOf nm), .string (strOf tx), .slice Ar n5 cr, .slice Ak n6 ck, .slice A2 n2 c2] 27) = w1 := ⟨_, rfl⟩
 rw [hw1] at hba hnb
 rw [hT] at hnb
 have y0 := Xp.cell_blk hnb (i := 0) rfl
 have y1 := Xp.cell_blk hnb (i := 1) rfl
 have y2 := Xp.cell_blk hnb (i := 2) rfl
 have y3 := Xp.cell_blk hnb (i := 3) rfl
 have y4 := Xp.cell_blk hnb (i := 4) rfl
 have y5 := Xp.cell_blk hnb (i := 5) rfl
 have y6 := Xp.cell_blk hnb (i := 6) rfl
 have hlow : ∀ x, Below w1.heap.size w1 x → Below w.heap.size w x := fun x hx => hba.trans (hx.mono hba.size)
 have hk : ∀ x, Below w1.heap.size w1 x → ∀ k, X k → x.heap[k]? = w.heap[k]? := fun x hx k hk => (hlow x hx).block k (hX k hk)
 obtain ⟨Z1, hZ1⟩ : ∃ Z, writeL d.before = Z := ⟨_, rfl⟩
 obtain ⟨Z2, hZ2⟩ : ∃ Z, writeN d.root = Z := ⟨_, rfl⟩
 obtain ⟨Z3, hZ3⟩ : ∃ Z, writeL d.after = Z := ⟨_, rfl⟩
 have hl9 : Z1.length + Z2.length + Z3.length ≤ 100000000000000 := by
  unfold writeD at hlen
  rw [hZ1, hZ2, hZ3] at hlen
  simp only [List.length_append] at hlen
  omega
 have hcb := Lib.hid (fun (x : World) (hx : Below w1.heap.size w1 x) => Nodes_any X x A1 n1 c1 d.before (Sq.stay h1 (fun a e hn => hk x hx _ (h2 a e hn)) fun vs y hy => NdI.stay hy fun k h => ⟨h, hk x hx k h⟩) h2 (fun j hj => Nat.lt_of_lt_of_le (hX j hj) (hlow x hx).size) (by rw [hZ1]; omega))
 have hcr := Lib.hid (fun (x : World) (hx : Below w1.heap.size w1 x) => Node_any X x _ d.root (NdI.stay h3 fun k h => ⟨h, hk x hx k h⟩) (fun j hj => Nat.lt_of_lt_of_le (hX j hj) (hlow x hx).size) (by rw [hZ2]; omega))
 have hca := Lib.hid (fun (x : World) (hx : Below w1.heap.size w1 x) => Nodes_any X x A2 n2 c2 d.after (Sq.stay h4 (fun a e hn => hk x hx _ (h5 a e hn)) fun vs y hy => NdI.stay hy fun k h => ⟨h, hk x hx k h⟩) h5 (fun j hj => Nat.lt_of_lt_of_le (hX j hj) (hlow x hx).size) (by rw [hZ3]; omega))
 rw [hZ1] at hcb
 rw [hZ2] at hcr
 rw [hZ3] at hca
 have hres : Hid (strOf (writeD d) = strOf Z1 ++ strOf Z2 ++ strOf Z3) := Lib.hid (by
  unfold writeD
  rw [hZ1, hZ2, hZ3, strOf_add, strOf_add])
 have hz1 : ¬ 9223372036854775807 < (strOf Z1).size + (strOf Z2).size := by rw [strOf_size', strOf_size']; omega
 have hz2 : ¬ 9223372036854775807 < (strOf Z1 ++ strOf Z2).size + (strOf Z3).size := by rw [strOf_add, strOf_size', strOf_size', List.length_append]; omega
 have hz3 : ¬ 9223372036854775807 < (strOf Z1).size + (strOf Z2).size + (strOf Z3).size := by rw [strOf_size', strOf_size', strOf_size']; omega
 have hdr : Below w1.heap.size w1 w1.drew := Joins.below_draws w1.heap.size w1 1
 have hbaH := Lib.hid hba
 clear hZ1 hZ2 hZ3 hlen hl9 h1 h2 h3 h4 h5 hk hlow hd hX hnb hba
 go_enter Tryz.func40, Tryz.ntmps40
 go_upto_region 1 with fail
 refine Pl.wp_region_plan 10 (.take 0 (.take 1 (.take 3 (.take 4 (.take 7 (.take 8 (.run 2 (.run 5 (.take 6 (.run 9 .done)))))))))) (fun x => Below w1.heap.size w1 x) (by kernel_rfl) (by kernel_rfl) (by exact hdr) ?_
 simp only [Pl.fill, List.getElem?_cons_zero, List.getElem?_cons_succ, List.drop_succ_cons, List.drop_zero]
 iterate 6
  refine Pl.take_go ?_ (by rfl) (fun _ _ _ h => h) ?_ ?_
  rotate_left
  ·(intro x hSw; have q0 := cell_keep y0 (hSw); have q1 := cell_keep y1 (hSw); have q2 := cell_keep y2 (hSw); have q3 := cell_keep y3 (hSw); have q4 := cell_keep y4 (hSw); have q5 := cell_keep y5 (hSw); have q6 := cell_keep y6 (hSw); go_simp; try with_reducible rfl)
  (try simp only [Act.put, List.setIfInBounds_toArray, List.set_cons_zero, List.set_cons_succ])
 refine Pl.run_go (fun K hK => ?_)
 go_simp
 refine (hcb.out w1.drew (hdr)).mono ?_
 rintro e wa ⟨rfl, hbwa⟩
 have hqwa : Hid (Below w1.heap.size w1 wa) := Lib.hid (Below.trans (hdr) (hbwa.mono (Below.size (hdr))))
 dsimp only
 refine hK.out _ _ (Pl.more_go (fun x => Below wa.heap.size wa x) (fun x hx => hqwa.out.trans (hx.mono hqwa.out.size)) (Below.refl _ _) ?_)
 clear hK K
 try simp only [Act.put, List.setIfInBounds_toArray, List.set_cons_zero, List.set_cons_succ]
 refine Pl.run_go (fun K hK => ?_)
 go_simp
 refine (hcr.out wa (hqwa.out)).mono ?_
 rintro e wb ⟨rfl, hbwb⟩
 have hqwb : Hid (Below w1.heap.size w1 wb) := Lib.hid (Below.trans (hqwa.out) (hbwb.mono (Below.size (hqwa.out))))
 dsimp only
 refine hK.out _ _ (Pl.more_go (fun x => Below wb.heap.size wb x) (fun x hx => hbwb.trans (hx.mono hbwb.size)) (Below.refl _ _) ?_)
 clear hK K
 try simp only [Act.put, List.setIfInBounds_toArray, List.set_cons_zero, List.set_cons_succ]
 iterate 1
  refine Pl.take_go ?_ (by rfl) (fun _ _ _ h => h) ?_ ?_
  rotate_left
  ·(intro x hSw; have q0 := cell_keep y0 (hqwb.out.trans (hSw.mono hqwb.out.size)); have q1 := cell_keep y1 (hqwb.out.trans (hSw.mono hqwb.out.size)); have q2 := cell_keep y2 (hqwb.out.trans (hSw.mono hqwb.out.size)); have q3 := cell_keep y3 (hqwb.out.trans (hSw.mono hqwb.out.size)); have q4 := cell_keep y4 (hqwb.out.trans (hSw.mono hqwb.out.size)); have q5 := cell_keep y5 (hqwb.out.trans (hSw.mono hqwb.out.size)); have q6 := cell_keep y6 (hqwb.out.trans (hSw.mono hqwb.out.size)); go_simp; try with_reducible rfl)
  (try simp only [Act.put, List.setIfInBounds_toArray, List.set_cons_zero, List.set_cons_succ])
 refine Pl.run_go (fun K hK => ?_)
 go_simp
 refine (hca.out wb (hqwb.out)).mono ?_
 rintro e wc ⟨rfl, hbwc⟩
 have hqwc : Hid (Below w1.heap.size w1 wc) := Lib.hid (Below.trans (hqwb.out) (hbwc.mono (Below.size (hqwb.out))))
 dsimp only
 refine hK.out _ _ (Pl.more_go (fun x => Below wc.heap.size wc x) (fun x hx => hbwc.trans (hx.mono hbwc.size)) (Below.refl _ _) ?_)
 clear hK K
 try simp only [Act.put, List.setIfInBounds_toArray, List.set_cons_zero, List.set_cons_succ]
 refine Pl.done_go ?_
 have hfin := Lib.hid (hbaH.out.trans (hqwc.out.mono hbaH.out.size))
 clear hcb hcr hca y0 y1 y2 y3 y4 y5 y6 hbwa hbwb hbwc hdr
 go_wp2_with fail
 go_ret
 exact ⟨by rw [hres.out]; rfl, hfin.out⟩
end Go.Proofs.YtokdnhdfmgfkeaaGreatDoor.Xp
end

section
namespace Go.Proofs.YtokdnhdfmgfkeaaGreatDoor.Xt
open Go.RowKit UtfW Xl Xo

section
variable (w : World) (hU : Un w) (A : Option Addr) (n c : Nat) (S : Tx) (hBs : Bs w A n c S) (hn : n ≤ 1000000)
include hU hBs hn
set_option maxHeartbeats 8000000 in
set_option maxRecDepth 100000 in
theorem parse_any : Calls Tryz.prog 25 #[.slice A n c] w fun e w' => ParP S w e w' := by
 have hl : S.length = n := hBs.len
 have hba := below_alloc w (.cells #[.slice none 0 0, .int .i64 0, .string ⟨#[]⟩, .string ⟨#[]⟩, .slice none 0 0, .slice none 0 0, .slice none 0 0] 27)
 have hD := heap_alloc_new w (.cells #[.slice none 0 0, .int .i64 0, .string ⟨#[]⟩, .string ⟨#[]⟩, .slice none 0 0, .slice none 0 0, .slice none 0 0] 27)
 obtain ⟨D, hDe⟩ : ∃ D, w.heap.size = D := ⟨_, rfl⟩
 obtain ⟨w1, hw1⟩ : ∃ w1, w.alloc (.cells #[.slice none 0 0, .int .i64 0, .string ⟨#[]⟩, .string ⟨#[]⟩, .slice none 0 0, .slice none 0 0, .slice none 0 0] 27) = w1 := ⟨_, rfl⟩
 rw [hw1] at hba hD
 rw [hDe] at hD
 have hc := Lib.hid (All_any w1 (hU.below hba) A n c S (Bs.below hBs hba) hn)
 obtain ⟨R, hR⟩ : ∃ R, parseF S = R := ⟨_, rfl⟩
 have hPar : ∀ (e : Ending) (w' : World), (Below w.heap.size w w' ∧ ∃ vd ev, e = .returned (.tuple #[vd, ev]) ∧ ((R.1 = 0 ∧ ev = .nilIface ∧ DocI (fun k => w.heap.size ≤ k ∧ k < w'.heap.size) w' vd R.2.2) ∨ (R.1 ≠ 0 ∧ R.2.2 = noDoc ∧ vd = zeroDoc ∧ Er.Fe w' w'.heap.size R.1 (R.2.1 : Nat) [xmlB] ev))) → ParP S w e w' := fun e w' h => by
  unfold ParP
  rw [hR]
  exact h
 replace hPar := Lib.hid hPar
 have hDl : D < w1.heap.size := (Array.getElem?_eq_some_iff.1 hD).1
 unfold parseF at hR
 obtain ⟨cd, p, ts, hall⟩ : ∃ cd p ts, Xl.allF S = (cd, p, ts) := ⟨_, _, _, rfl⟩
 rw [hall] at hR
 simp only at hR
 have hbaH := Lib.hid hba
 clear hU hBs
 by_cases hcd : cd = 0
 ·subst hcd
  rw [if_neg (by simp)] at hR
  subst hl
  have hO := fun w2 e h => AllP.ok (w := w1) (w' := w2) (e := e) h hall
  obtain ⟨hP, hcost⟩ := all_P hall
  obtain ⟨hmany, hS65⟩ := all_many hall
  have hout := Lib.hid (allF_out hall)
  obtain ⟨m, hm⟩ : ∃ m, ts.length = m := ⟨_, rfl⟩
  rw [hm] at hmany hO
  replace hO := Lib.hid hO
  replace hP := Lib.hid hP
  replace hcost := Lib.hid hcost
  replace hR := Lib.hid hR
  replace hm := Lib.hid hm
  have hDlo := Lib.hid hDl
  obtain ⟨L, hL⟩ : ∃ L, w1.heap.size = L := ⟨_, rfl⟩
  clear hba hall
  go_enter Tryz.func25, Tryz.ntmps25
  go_wp2_with fail
  refine hc.out.mono ?_
  rintro e w2 hAP
  obtain ⟨hb2, A2, c2, rfl, hTk⟩ := hO.out w2 e hAP
  have hD2 := Lib.hid ((hb2.block D hDl).trans hD)
  have hbs := bs_start w2 w1.heap.size
  have hb3 := below_alloc w2 (.cells #[.slice none 0 0, .int .i64 0, .string ⟨#[]⟩, .string ⟨#[]⟩, .slice none 0 0, .slice none 0 0, .slice none 0 0, .slice none 0 0, .string ⟨#[]⟩, .int .i64 0, .bool false] 85)
  have hL2 := Lib.hid hb2.size
  have hbA := Lib.hid (hbaH.out.trans (hb2.mono hbaH.out.size))
  have hDB := Lib.hid (Nat.lt_of_lt_of_le hDl hb2.size)
  replace hTk := Lib.hid hTk
  obtain ⟨ρ0, hρ0⟩ : ∃ ρ0 : Rol, (fun k => if k = w2.heap.size then Ro.bld else .no) = ρ0 := ⟨_, rfl⟩
  rw [hρ0] at hbs
  obtain ⟨B, hB⟩ : ∃ B, w2.heap.size = B := ⟨_, rfl⟩
  obtain ⟨w3, hw3⟩ : ∃ w3, w2.alloc (.cells #[.slice none 0 0, .int .i64 0, .string ⟨#[]⟩, .string ⟨#[]⟩, .slice none 0 0, .slice none 0 0, .slice none 0 0, .slice none 0 0, .string ⟨#[]⟩, .int .i64 0, .bool false] 85) = w3 := ⟨_, rfl⟩
  rw [hw3] at hbs hb3
  rw [hB] at hbs
  obtain ⟨P0, hP0⟩ : ∃ P0 : Pp, Pp.mk w1.heap.size B = P0 := ⟨_, rfl⟩
  rw [hP0] at hbs
  have hPlo : Hid (P0.lo = w1.heap.size) := Lib.hid (by rw [← hP0])
  have hPhi : Hid (P0.hi = w2.heap.size) := Lib.hid (by rw [← hP0, hB])
  replace hbs := Lib.hid hbs
  replace hb3 := Lib.hid hb3
  have hm63 : m ≤ 100000 := by omega
  clear hρ0 hP0 hb2 hAP hD
  go_wp2_with fail
  go_loopw [23] (fun v23 wr => ∃ (i : Nat) (ρr : Rol) (sr : St), i ≤ m ∧ v23 = .int .i64 (i : Nat) ∧ Hid (BsA ρr P0 wr B sr) ∧ Hid (Run S ts i sr) ∧ Hid (Below w2.heap.size w2 wr)) (fun v23 _ => m - (intOf v23).toNat)
  case atStart => exact ⟨0, ρ0, .start, Nat.zero_le _, rfl, hbs, Lib.hid (run_0 S ts), hb3⟩
  case round =>
   obtain ⟨i, ρr, sr, hi, rfl, hBs, hRun, hbr⟩ := hrel
   by_cases hlt : i < m
   ·have i1 : decide ((i : Int) < (m : Int)) = true := by simp; omega
    have q1 : (i : Int) < (m : Int) := by omega
    obtain ⟨t, ht⟩ : ∃ t, ts[i]? = some t := ⟨ts[i]'(by rw [hm.out]; exact hlt), List.getElem?_eq_getElem (by rw [hm.out]; exact hlt)⟩
    obtain ⟨b9, off, At_, ct, rfl, _, m0, m1, m2, m3, m4, hAt⟩ := tk_at hTk.out ht
    have m0 := cell_keep m0 hbr.out
    have m1 := cell_keep m1 hbr.out
    have m2 := cell_keep m2 hbr.out
    have m3 := cell_keep m3 hbr.out
    have m4 := cell_keep m4 hbr.out
    have htm := List.mem_of_getElem? ht
    have htP := hP.out t htm
    have htS := hout.out t htm
    have hbt := tokW_below wr (.int .i64 (t.kind : Nat)) (.int .i64 (t.at_ : Nat)) (.string (strOf t.name)) (.string (strOf t.text)) (.slice At_ t.attrs.length ct)
    have hblk := tokW_blk wr (t.kind : Nat) (t.at_ : Nat) (strOf t.name) (strOf t.text) (.slice At_ t.attrs.length ct)
    have ht5 : TkP P0 (tokW wr (.int .i64 (t.kind : Nat)) (.int .i64 (t.at_ : Nat)) (.string (strOf t.name)) (.string (strOf t.text)) (.slice At_ t.attrs.length ct)) [.int .i64 (t.kind : Nat), .int .i64 (t.at_ : Nat), .string (strOf t.name), .string (strOf t.text), .slice At_ t.attrs.length ct] t :=
     ⟨At_, ct, rfl, ((OwS.sq' hAt (by decide)).below AtEl.to hbr.out).below AtEl.to hbt, fun a e _ => by
      have := OwS.lt hAt a.block (by rw [e]; rfl)
      rw [hPlo.out, hPhi.out]
      exact this⟩
    have h5 := BsA.later hBs.out hbt
    have hnew := BsA.new hBs.out
    have hinv := hRun.out.inv
    have hcst := hRun.out.phi
    have htx := text_phi sr
    have hct := costs_take ts i
    have hcs := hcost.out
    have hattr : t.kind = 1 ∨ t.kind = 2 → t.attrs.length ≤ 400000 := fun hk => by
     have g1 := writeA_len t.attrs
     have g2 : cost t ≤ costs ts := by
      have := costs_take ts (i + 1)
      rw [take_snoc ht, costs_snoc] at this
      omega
     have g3 : (writeA t.attrs).length ≤ cost t := by
      unfold cost
      rcases hk with hk | hk
      ·rw [if_pos hk]; omega
      ·rw [if_neg (by omega), if_pos hk]; omega
     omega
    have htt := htS.text
    have hstep := token_any h5 ht5 hRun.out.sm (by omega) (by have := hinv.max; omega) hattr (by omega)
    cases hst : stepT sr t with
    | error x =>
     rw [hst] at hstep
     have hx0 := step_no0 hst
     have hx1 : (x != 0) = true := by simpa using hx0
     have hres : Hid (parseT S.length ts = (x, t.at_, noDoc)) := Lib.hid (by
      unfold parseT
      rw [runT_bad ht hRun.out.run hst])
     replace hstep := Lib.hid hstep
     replace hbt := Lib.hid hbt
     replace hblk := Lib.hid hblk
     replace hnew := Lib.hid hnew
     clear h5 ht5 hinv hcst htx hct hcs hattr htt hst htP htS htm hAt
     go_wp2_with fail
     refine hstep.out.mono ?_
     rintro e w6 ⟨c6, rfl, hb6, hc6, ρ6, hk6⟩
     subst hc6
     have hsame := (hk6 wr.heap.size (Array.getElem?_eq_some_iff.1 hblk.out).1 hnew.out).1
     have x1 : w6.cell? ⟨wr.heap.size, 1, none⟩ = some (.int .i64 (t.at_ : Nat)) := cell_blk (hsame.trans hblk.out) rfl
     have hw26 := Lib.hid ((hbr.out.trans (hbt.out.mono hbr.out.size)).trans (by rw [← hPhi.out]; exact hb6))
     clear hsame hk6 hb6 hstep m0 m1 m2 m3 m4
     go_wp2_with fail
     refine (Er.New_any _ (t.at_ : Nat) hx0 w6).mono ?_
     rintro e w7 ⟨v7, rfl, hb7, hF7⟩
     have hw27 := Lib.hid (hw26.out.trans (hb7.mono hw26.out.size))
     clear hb7
     go_wp2_with fail
     refine (Er.Wrap_any xmlB _ _ _ _ w7 hF7).mono ?_
     rintro e w8 ⟨v8, rfl, hb8, hF8⟩
     have hw28 := hw27.out.trans (hb8.mono hw27.out.size)
     have hD8 := (hw28.block D hDB.out).trans hD2.out
     obtain ⟨s0, s1, s2, s3, s4, s5, s6⟩ := doc_same hD8
     have f0 := frozen_of_row w8 D 0 _ _ hD8
     have z0 := cell_blk hD8 (i := 0) rfl
     have f1 := frozen_of_row w8 D 1 _ _ hD8
     have z1 := cell_blk hD8 (i := 1) rfl
     have f2 := frozen_of_row w8 D 2 _ _ hD8
     have z2 := cell_blk hD8 (i := 2) rfl
     have f3 := frozen_of_row w8 D 3 _ _ hD8
     have z3 := cell_blk hD8 (i := 3) rfl
     have f4 := frozen_of_row w8 D 4 _ _ hD8
     have z4 := cell_blk hD8 (i := 4) rfl
     have f5 := frozen_of_row w8 D 5 _ _ hD8
     have z5 := cell_blk hD8 (i := 5) rfl
     have f6 := frozen_of_row w8 D 6 _ _ hD8
     have z6 := cell_blk hD8 (i := 6) rfl
     have hfin : Hid (ParP S w (.returned (.tuple #[zeroDoc, v8])) w8) := Lib.hid (hPar.out _ _ ⟨hbA.out.trans (hw28.mono hbA.out.size), _, _, rfl, .inr (by rw [← hR.out, hres.out]; exact ⟨hx0, rfl, rfl, hF8⟩)⟩)
     replace hD8 := Lib.hid hD8
     clear hw28 hb8 hF8 hF7
     go_wp2_with fail
     (try simp only [Exit.inBlock, Exit.then])
     exact bodyPost_ret (res_doc (ok := v8) rfl hD8.out rfl rfl) rfl hfin.out
    | ok s' =>
     rw [hst] at hstep
     have hnext := Lib.hid (hRun.out.next ht htP hst)
     replace hstep := Lib.hid hstep
     replace hbt := Lib.hid hbt
     clear h5 ht5 hinv hcst htx hct hcs hattr htt hst htP htS htm hAt hblk hnew
     go_wp2_with fail
     refine hstep.out.mono ?_
     rintro e w6 ⟨c6, rfl, hb6, hc6, ρ6, h6, hk6⟩
     subst hc6
     have hw26 := Lib.hid ((hbr.out.trans (hbt.out.mono hbr.out.size)).trans (by rw [← hPhi.out]; exact hb6))
     replace h6 := Lib.hid h6
     clear hk6 hb6 hstep m0 m1 m2 m3 m4
     go_wp2_with fail
     go_roundw
     case rel => exact ⟨i + 1, ρ6, s', by omega, by go_num, h6, hnext, hw26⟩
     case measure => simp [intOf]; omega
   ·have hie : i = m := by omega
    subst hie
    have i1 : decide ((i : Int) < (i : Int)) = false := by simp
    have hrun : Hid (runT ts .start = .ok sr) := Lib.hid (by
     have := hRun.out.run
     rw [← hm.out, List.take_length] at this
     exact this)
    obtain ⟨A7, c7, k7⟩ := BsA.c7 hBs.out
    have k10 := BsA.c10 hBs.out
    by_cases hbad : sr.opn ≠ [] ∨ sr.has = false
    ·have hres : Hid (parseT S.length ts = (6, S.length, noDoc)) := Lib.hid (by
      unfold parseT
      rw [hrun.out]
      simp only
      rw [if_pos hbad])
     have hw2r := hbr
     have key : ∀ (X : Bool), True := fun _ => trivial
     by_cases ho : sr.opn = []
     ·have hhas : sr.has = false := hbad.resolve_left (fun e => e ho)
      rw [ho] at k7
      rw [hhas] at k10
      have d1 : decide ((((([] : List Fr).length : Nat)) : Int) > 0) = false := by decide
      clear hbad ho hhas key
      go_wp2_with fail
      refine (Er.New_any 6 (S.length : Nat) (by decide) wr).mono ?_
      rintro e w7 ⟨v7, rfl, hb7, hF7⟩
      have hw27 := Lib.hid (hbr.out.trans (hb7.mono hbr.out.size))
      clear hb7
      go_wp2_with fail
      refine (Er.Wrap_any xmlB _ _ _ _ w7 hF7).mono ?_
      rintro e w8 ⟨v8, rfl, hb8, hF8⟩
      have hw28 := hw27.out.trans (hb8.mono hw27.out.size)
      have hD8 := (hw28.block D hDB.out).trans hD2.out
      obtain ⟨s0, s1, s2, s3, s4, s5, s6⟩ := doc_same hD8
      have f0 := frozen_of_row w8 D 0 _ _ hD8
      have z0 := cell_blk hD8 (i := 0) rfl
      have f1 := frozen_of_row w8 D 1 _ _ hD8
      have z1 := cell_blk hD8 (i := 1) rfl
      have f2 := frozen_of_row w8 D 2 _ _ hD8
      have z2 := cell_blk hD8 (i := 2) rfl
      have f3 := frozen_of_row w8 D 3 _ _ hD8
      have z3 := cell_blk hD8 (i := 3) rfl
      have f4 := frozen_of_row w8 D 4 _ _ hD8
      have z4 := cell_blk hD8 (i := 4) rfl
      have f5 := frozen_of_row w8 D 5 _ _ hD8
      have z5 := cell_blk hD8 (i := 5) rfl
      have f6 := frozen_of_row w8 D 6 _ _ hD8
      have z6 := cell_blk hD8 (i := 6) rfl
      have hfin : Hid (ParP S w (.returned (.tuple #[zeroDoc, v8])) w8) := Lib.hid (hPar.out _ _ ⟨hbA.out.trans (hw28.mono hbA.out.size), _, _, rfl, .inr (by rw [← hR.out, hres.out]; exact ⟨(by decide : (6 : Int) ≠ 0), rfl, rfl, hF8⟩)⟩)
      replace hD8 := Lib.hid hD8
      clear hw28 hb8 hF8 hF7
      go_wp2_with fail
      (try simp only [Exit.inBlock, Exit.then])
      exact bodyPost_ret (res_doc (ok := v8) rfl hD8.out rfl rfl) rfl hfin.out
     ·obtain ⟨no, hno⟩ : ∃ no, sr.opn.length = no := ⟨_, rfl⟩
      rw [hno] at k7
      have hn0 : 0 < no := by
       rcases Nat.eq_zero_or_pos no with h0 | h0
       ·rw [h0] at hno
        exact absurd (List.eq_nil_of_length_eq_zero hno) ho
       ·exact h0
      have d1 : decide ((no : Int) > 0) = true := by simp; omega
      have d2 : decide ((0 : Int) < (no : Int)) = true := by simp; omega
      have d3 : decide (0 < no) = true := by simp; omega
      clear hbad ho hn0 hno key
      go_wp2_with fail
      refine (Er.New_any 6 (S.length : Nat) (by decide) wr).mono ?_
      rintro e w7 ⟨v7, rfl, hb7, hF7⟩
      have hw27 := Lib.hid (hbr.out.trans (hb7.mono hbr.out.size))
      clear hb7
      go_wp2_with fail
      refine (Er.Wrap_any xmlB _ _ _ _ w7 hF7).mono ?_
      rintro e w8 ⟨v8, rfl, hb8, hF8⟩
      have hw28 := hw27.out.trans (hb8.mono hw27.out.size)
      have hD8 := (hw28.block D hDB.out).trans hD2.out
      obtain ⟨s0, s1, s2, s3, s4, s5, s6⟩ := doc_same hD8
      have f0 := frozen_of_row w8 D 0 _ _ hD8
      have z0 := cell_blk hD8 (i := 0) rfl
      have f1 := frozen_of_row w8 D 1 _ _ hD8
      have z1 := cell_blk hD8 (i := 1) rfl
      have f2 := frozen_of_row w8 D 2 _ _ hD8
      have z2 := cell_blk hD8 (i := 2) rfl
      have f3 := frozen_of_row w8 D 3 _ _ hD8
      have z3 := cell_blk hD8 (i := 3) rfl
      have f4 := frozen_of_row w8 D 4 _ _ hD8
      have z4 := cell_blk hD8 (i := 4) rfl
      have f5 := frozen_of_row w8 D 5 _ _ hD8
      have z5 := cell_blk hD8 (i := 5) rfl
      have f6 := frozen_of_row w8 D 6 _ _ hD8
      have z6 := cell_blk hD8 (i := 6) rfl
      have hfin : Hid (ParP S w (.returned (.tuple #[zeroDoc, v8])) w8) := Lib.hid (hPar.out _ _ ⟨hbA.out.trans (hw28.mono hbA.out.size), _, _, rfl, .inr (by rw [← hR.out, hres.out]; exact ⟨(by decide : (6 : Int) ≠ 0), rfl, rfl, hF8⟩)⟩)
      replace hD8 := Lib.hid hD8
      clear hw28 hb8 hF8 hF7
      go_wp2_with fail
      (try simp only [Exit.inBlock, Exit.then])
      exact bodyPost_ret (res_doc (ok := v8) rfl hD8.out rfl rfl) rfl hfin.out
    ·have ho : sr.opn = [] := Classical.byContradiction fun e => hbad (.inl e)
     have hhas : sr.has = true := by
      cases hx : sr.has with
      | true => rfl
      | false => exact absurd (.inr hx) hbad
     have hres : Hid (parseT S.length ts = (0, 0, ⟨sr.before, sr.root, sr.after⟩)) := Lib.hid (by
      unfold parseT
      rw [hrun.out]
      simp only
      rw [if_neg hbad])
     rw [ho] at k7
     rw [hhas] at k10
     have d1 : decide ((((([] : List Fr).length : Nat)) : Int) > 0) = false := by decide
     obtain ⟨A1, n1, c1, kd, nm, tx, Ar, na, cr, Ak, nk, ck, A9, n9, c9, C, hC, y0, y1, y2, y3, y4, y5, y6, hdoc⟩ := doc_fin (lo0 := w.heap.size) (D := D) hBs.out (by rw [hPlo.out]; exact hDlo.out) (by rw [hPlo.out]; exact hbaH.out.size) (by rw [hPlo.out, hPhi.out]; exact hL2.out)
     have y0 := cell_blk hC y0
     have y1 := cell_blk hC y1
     have y2 := cell_blk hC y2
     have y3 := cell_blk hC y3
     have y4 := cell_blk hC y4
     have y5 := cell_blk hC y5
     have y6 := cell_blk hC y6
     have hDr := (hbr.out.block D hDB.out).trans hD2.out
     have f0 := frozen_of_row wr D 0 _ _ hDr
     have z0 := cell_blk hDr (i := 0) rfl
     have f1 := frozen_of_row wr D 1 _ _ hDr
     have z1 := cell_blk hDr (i := 1) rfl
     have f2 := frozen_of_row wr D 2 _ _ hDr
     have z2 := cell_blk hDr (i := 2) rfl
     have f3 := frozen_of_row wr D 3 _ _ hDr
     have z3 := cell_blk hDr (i := 3) rfl
     have f4 := frozen_of_row wr D 4 _ _ hDr
     have z4 := cell_blk hDr (i := 4) rfl
     have f5 := frozen_of_row wr D 5 _ _ hDr
     have z5 := cell_blk hDr (i := 5) rfl
     have f6 := frozen_of_row wr D 6 _ _ hDr
     have z6 := cell_blk hDr (i := 6) rfl
     have hBD : B ≠ D := by rw [← hB]; have := hDB.out; omega
     replace hdoc := Lib.hid hdoc
     replace hDr := Lib.hid hDr
     clear hC hbad ho hhas
     go_wp2_with fail
     (try simp only [Exit.inBlock, Exit.then])
     have hDf := blk_setCell (blk_setCell (blk_setCell (blk_setCell (blk_setCell (blk_setCell (blk_setCell hDr.out (i := 0) (.slice A1 n1 c1)) (i := 1) (.int .i64 kd)) (i := 2) (.string nm)) (i := 3) (.string tx)) (i := 4) (.slice Ar na cr)) (i := 5) (.slice Ak nk ck)) (i := 6) (.slice A9 n9 c9)
     refine bodyPost_ret (res_doc (ok := .nilIface) rfl hDf rfl rfl) rfl ?_
     have hgr := ((((((grown_set wr ⟨D, 0, none⟩ (.slice A1 n1 c1)).trans (grown_set _ ⟨D, 1, none⟩ (.int .i64 kd))).trans (grown_set _ ⟨D, 2, none⟩ (.string nm))).trans (grown_set _ ⟨D, 3, none⟩ (.string tx))).trans (grown_set _ ⟨D, 4, none⟩ (.slice Ar na cr))).trans (grown_set _ ⟨D, 5, none⟩ (.slice Ak nk ck))).trans (grown_set _ ⟨D, 6, none⟩ (.slice A9 n9 c9))
     have hfd := hdoc.out _ hgr
     have hbw := hbA.out.trans (hbr.out.mono hbA.out.size)
     refine hPar.out _ _ ⟨hbw.grown hgr hbw.size (fun k hk => by injection hk with hk; have hk : D = k := hk; omega), _, _, rfl, .inl ?_⟩
     rw [← hR.out, hres.out]
     exact ⟨rfl, rfl, hfd⟩
 ·rw [if_pos hcd] at hR
  have hN := fun w2 e h => AllP.no (w := w1) (w' := w2) (e := e) h hall hcd
  replace hN := Lib.hid hN
  replace hR := Lib.hid hR
  replace hall := Lib.hid hall
  clear hba
  go_enter Tryz.func25, Tryz.ntmps25
  go_wp2_with fail
  refine hc.out.mono ?_
  rintro e w2 hAP
  obtain ⟨hb2, v, rfl, hFe⟩ := hN.out w2 e hAP
  obtain ⟨TI, ad, rfl⟩ := hFe.iface
  have hD2 := (hb2.block D hDl).trans hD
  obtain ⟨s0, s1, s2, s3, s4, s5, s6⟩ := doc_same hD2
  have f0 := frozen_of_row w2 D 0 _ _ hD2
  have z0 := cell_blk hD2 (i := 0) rfl
  have f1 := frozen_of_row w2 D 1 _ _ hD2
  have z1 := cell_blk hD2 (i := 1) rfl
  have f2 := frozen_of_row w2 D 2 _ _ hD2
  have z2 := cell_blk hD2 (i := 2) rfl
  have f3 := frozen_of_row w2 D 3 _ _ hD2
  have z3 := cell_blk hD2 (i := 3) rfl
  have f4 := frozen_of_row w2 D 4 _ _ hD2
  have z4 := cell_blk hD2 (i := 4) rfl
  have f5 := frozen_of_row w2 D 5 _ _ hD2
  have z5 := cell_blk hD2 (i := 5) rfl
  have f6 := frozen_of_row w2 D 6 _ _ hD2
  have z6 := cell_blk hD2 (i := 6) rfl
  have hfin : Hid (ParP S w (.returned (.tuple #[zeroDoc, .iface TI (.pointer (some ad))])) w2) := Lib.hid (hPar.out _ _ ⟨hbaH.out.trans (hb2.mono hbaH.out.size), _, _, rfl, .inr (by rw [← hR.out]; exact ⟨hcd, rfl, rfl, hFe⟩)⟩)
  replace hD2 := Lib.hid hD2
  clear hb2 hFe hAP hD
  go_wp2_with fail
  exact bodyPost_ret (res_doc (ok := .iface TI (.pointer (some ad))) rfl hD2.out rfl rfl) rfl hfin.out
end
end Go.Proofs.YtokdnhdfmgfkeaaGreatDoor.Xt
end

section
namespace Go.Proofs.YtokdnhdfmgfkeaaGreatDoor.Xt
open Go.RowKit UtfW Xl

mutual
theorem depth_count : ∀ n : Nd, depthN n ≤ countN n
 | .mk k nm tx as_ ks => by
  have := depth_countL ks
  rw [depthN, countN]
  split <;> omega
theorem depth_countL : ∀ l : List Nd, depthL l ≤ countL l
 | [] => Nat.le_refl _
 | x :: xs => by
  have h1 := depth_count x
  have h2 := depth_countL xs
  rw [depthL, countL]
  omega
end
theorem countL_take : ∀ (l : List Nd) (i : Nat), countL (l.take i) ≤ countL l
 | [], i => by simp
 | x :: l, 0 => by simp [countL]
 | x :: l, i + 1 => by
  have := countL_take l i
  rw [List.take_succ_cons, countL, countL]
  omega
theorem count_kid {ks : List Nd} {i : Nat} {x : Nd} (h : ks[i]? = some x) : countL (ks.take i) + countN x ≤ countL ks := by
 have := countL_take ks (i + 1)
 rw [take_snoc h, countL_append] at this
 simp [countL] at this
 omega
theorem len_count : ∀ l : List Nd, l.length ≤ countL l
 | [] => Nat.le_refl _
 | x :: l => by
  obtain ⟨k, nm, tx, as_, ks⟩ := x
  have := len_count l
  rw [countL, countN, List.length_cons]
  omega
set_option maxHeartbeats 4000000 in
set_option maxRecDepth 100000 in
theorem depth_any : ∀ (k : Nat) (X : Nat → Prop) (w : World) (vs : List Value) (n : Nd), SizeOf.sizeOf n ≤ k → NdI X w vs n → (∀ j, X j → j < w.heap.size) → countN n ≤ 1000000 →
  Calls Tryz.prog 33 #[.agg vs.toArray] w fun e w' => e = .returned (.int .i64 (depthN n : Nat)) ∧ Below w.heap.size w w' := by
 intro k
 induction k with
 | zero =>
  intro X w vs n hk
  obtain ⟨kd, nm, tx, as_, ks⟩ := n
  simp at hk
 | succ k ih =>
  intro X w vs n hk hn hX hc
  obtain ⟨kd, nm, tx, as_, ks⟩ := n
  obtain ⟨A, ca, A2, c2, rfl, hA, hK, -, -⟩ := hn.cells
  have hcl : countL ks + as_.length + 1 ≤ 1000000 := by rw [countN] at hc; omega
  have hlen := len_count ks
  have hba := below_alloc w (.cells #[.int .i64 kd, .string (strOf nm), .string (strOf tx), .slice A as_.length ca, .slice A2 ks.length c2] 25)
  have hnb := heap_alloc_new w (.cells #[.int .i64 kd, .string (strOf nm), .string (strOf tx), .slice A as_.length ca, .slice A2 ks.length c2] 25)
  have ih := Lib.hid ih
  obtain ⟨T, hT⟩ : ∃ T, w.heap.size = T := ⟨_, rfl⟩
  obtain ⟨w1, hw1⟩ : ∃ w1, w.alloc (.cells #[.int .i64 kd, .string (strOf nm), .string (strOf tx), .slice A as_.length ca, .slice A2 ks.length c2] 25) = w1 := ⟨_, rfl⟩
  rw [hw1] at hba hnb
  rw [hT] at hnb
  have x0 : w1.cell? ⟨T, 0, none⟩ = some (.int .i64 kd) := cell_blk hnb rfl
  have x3 : w1.cell? ⟨T, 3, none⟩ = some (.slice A as_.length ca) := cell_blk hnb rfl
  have x4 : w1.cell? ⟨T, 4, none⟩ = some (.slice A2 ks.length c2) := cell_blk hnb rfl
  have hkid : Hid (∀ i x, ks[i]? = some x → SizeOf.sizeOf x ≤ k) := Lib.hid fun i x hx => by
   have := kid_lt (k := kd) (nm := nm) (tx := tx) (as_ := as_) hx
   omega
  obtain ⟨m, hm⟩ : ∃ m, ks.length = m := ⟨_, rfl⟩
  rw [hm] at x4 hK hlen
  obtain ⟨la, hla⟩ : ∃ la, as_.length = la := ⟨_, rfl⟩
  rw [hla] at x3 hcl
  have hnbH := Lib.hid hnb
  have hXH := Lib.hid hX
  replace hK := Lib.hid hK
  have hTl : Hid (T < w1.heap.size) := Lib.hid (Array.getElem?_eq_some_iff.1 hnb).1
  replace hba := Lib.hid hba
  replace hm := Lib.hid hm
  replace hla := Lib.hid hla
  clear hnb hX hA hn hk hc
  by_cases hk1 : kd = 1
  ·subst hk1
   go_enter Tryz.func33, Tryz.ntmps33
   go_wp2_with fail
   go_loopw [3, 12] (fun va vi wr => ∃ i a : Nat, i ≤ m ∧ vi = .int .i64 (i : Nat) ∧ va = .int .i64 (a : Nat) ∧ a ≤ 1000000 ∧ Hid (a = depthL (ks.take i)) ∧ Hid (Below w.heap.size w wr)) (fun _ vi _ => m - (intOf vi).toNat)
   case atStart => exact ⟨0, 0, Nat.zero_le _, rfl, rfl, Nat.zero_le _, Lib.hid (by simp [depthL]), hba⟩
   case round =>
    obtain ⟨i, a, hi, rfl, rfl, ha9, ha, hb⟩ := hrel
    by_cases hlt : i < m
    ·have i1 : decide ((i : Int) < (m : Int)) = true := by simp; omega
     have q1 : (i : Int) < (m : Int) := by omega
     have hKr : Sq (NdE X) 5 wr A2 m c2 ks := Sq.stay hK.out (fun ad e hn => by
      obtain ⟨b, off, e2, hbl, _⟩ := hK.out.cell hn
      rw [e] at e2
      injection e2 with e2
      rw [e2]
      exact hb.out.block b hbl) (fun vs x h => NdI.later h hXH.out hb.out)
     obtain ⟨b1, off1, x, vs1, rfl, _, hx1, _, hv1, hc1⟩ := hKr.at_ hlt
     have hszx := hkid.out i x hx1
     have hcx := count_kid hx1
     have hX1 : ∀ j, X j → j < wr.heap.size := fun j hj => Nat.lt_of_lt_of_le (hXH.out j hj) hb.out.size
     obtain ⟨kx, nx_, tx_, ax, kx_⟩ := x
     obtain ⟨Ax, cax, A2x, c2x, rfl, -⟩ := hv1.cells
     have m0 := hc1 0 _ rfl
     have m1 := hc1 1 _ rfl
     have m2 := hc1 2 _ rfl
     have m3 := hc1 3 _ rfl
     have m4 := hc1 4 _ rfl
     rw [Nat.add_zero] at m0
     have hbt := below_alloc wr (.cells #[.int .i64 kx, .string (strOf nx_), .string (strOf tx_), .slice Ax ax.length cax, .slice A2x kx_.length c2x] 25)
     have hrec := Lib.hid (ih.out X (wr.alloc (.cells #[.int .i64 kx, .string (strOf nx_), .string (strOf tx_), .slice Ax ax.length cax, .slice A2x kx_.length c2x] 25)) _ _ hszx (NdI.later hv1 hX1 hbt) (fun j hj => Nat.lt_of_lt_of_le (hX1 j hj) hbt.size) (by omega))
     have hdc := depth_count (.mk kx nx_ tx_ ax kx_)
     have hnext : Hid (max a (depthN (.mk kx nx_ tx_ ax kx_)) = depthL (ks.take (i + 1))) := Lib.hid (by
      rw [take_snoc hx1, depthL_append, ha.out]
      simp [depthL])
     have hbb := Lib.hid (hb.out.trans (hbt.mono hb.out.size))
     obtain ⟨dx, hdx⟩ : ∃ dx, depthN (.mk kx nx_ tx_ ax kx_) = dx := ⟨_, rfl⟩
     rw [hdx] at hrec hnext hdc
     have hdx9 : dx ≤ 1000000 := by omega
     have haf := ha.out
     have hsum : max a dx ≤ 1000000 := by omega
     clear haf hdx hdc hcx hszx hKr hv1 hx1 hc1 hX1 hbt
     go_wp2_with fail
     refine hrec.out.mono ?_
     rintro e w5 ⟨rfl, hb5⟩
     have hw5 := Lib.hid (hbb.out.trans (hb5.mono hbb.out.size))
     clear hb5 m0 m1 m2 m3 m4
     go_wp2_with fail
     go_roundw
     case rel => exact ⟨i + 1, max a dx, by omega, by go_num, by (simp; omega), hsum, hnext, hw5⟩
     case measure => simp [intOf]; omega
    ·have hie : i = m := by omega
     subst hie
     have i1 : decide ((i : Int) < (i : Int)) = false := by simp
     have hfin : Hid (depthN (.mk 1 nm tx as_ ks) = a + 1) := Lib.hid (by
      rw [depthN, if_pos rfl, ha.out, ← hm.out, List.take_length])
     go_wp2_with fail
     go_ret
     exact ⟨by rw [hfin.out]; rfl, hb.out⟩
  ·have k1 : (kd != 1) = true := by simpa using hk1
   have hz : Hid (depthN (.mk kd nm tx as_ ks) = 0) := Lib.hid (by rw [depthN, if_neg hk1])
   go_enter Tryz.func33, Tryz.ntmps33
   go_wp2_with fail
   go_ret
   exact ⟨by rw [hz.out]; rfl, hba.out⟩
set_option maxHeartbeats 4000000 in
set_option maxRecDepth 100000 in
theorem countN_any : ∀ (k : Nat) (X : Nat → Prop) (w : World) (vs : List Value) (n : Nd), SizeOf.sizeOf n ≤ k → NdI X w vs n → (∀ j, X j → j < w.heap.size) → countN n ≤ 1000000 →
  Calls Tryz.prog 34 #[.agg vs.toArray] w fun e w' => e = .returned (.int .i64 (countN n : Nat)) ∧ Below w.heap.size w w' := by
 intro k
 induction k with
 | zero =>
  intro X w vs n hk
  obtain ⟨kd, nm, tx, as_, ks⟩ := n
  simp at hk
 | succ k ih =>
  intro X w vs n hk hn hX hc
  obtain ⟨kd, nm, tx, as_, ks⟩ := n
  obtain ⟨A, ca, A2, c2, rfl, hA, hK, -, -⟩ := hn.cells
  have hcl : countL ks + as_.length + 1 ≤ 1000000 := by rw [countN] at hc; omega
  have hlen := len_count ks
  have hba := below_alloc w (.cells #[.int .i64 kd, .string (strOf nm), .string (strOf tx), .slice A as_.length ca, .slice A2 ks.length c2] 25)
  have hnb := heap_alloc_new w (.cells #[.int .i64 kd, .string (strOf nm), .string (strOf tx), .slice A as_.length ca, .slice A2 ks.length c2] 25)
  have ih := Lib.hid ih
  obtain ⟨T, hT⟩ : ∃ T, w.heap.size = T := ⟨_, rfl⟩
  obtain ⟨w1, hw1⟩ : ∃ w1, w.alloc (.cells #[.int .i64 kd, .string (strOf nm), .string (strOf tx), .slice A as_.length ca, .slice A2 ks.length c2] 25) = w1 := ⟨_, rfl⟩
  rw [hw1] at hba hnb
  rw [hT] at hnb
  have x0 : w1.cell? ⟨T, 0, none⟩ = some (.int .i64 kd) := cell_blk hnb rfl
  have x3 : w1.cell? ⟨T, 3, none⟩ = some (.slice A as_.length ca) := cell_blk hnb rfl
  have x4 : w1.cell? ⟨T, 4, none⟩ = some (.slice A2 ks.length c2) := cell_blk hnb rfl
  have hkid : Hid (∀ i x, ks[i]? = some x → SizeOf.sizeOf x ≤ k) := Lib.hid fun i x hx => by
   have := kid_lt (k := kd) (nm := nm) (tx := tx) (as_ := as_) hx
   omega
  obtain ⟨m, hm⟩ : ∃ m, ks.length = m := ⟨_, rfl⟩
  rw [hm] at x4 hK hlen
  obtain ⟨la, hla⟩ : ∃ la, as_.length = la := ⟨_, rfl⟩
  rw [hla] at x3 hcl
  have hnbH := Lib.hid hnb
  have hXH := Lib.hid hX
  replace hK := Lib.hid hK
  have hTl : Hid (T < w1.heap.size) := Lib.hid (Array.getElem?_eq_some_iff.1 hnb).1
  replace hba := Lib.hid hba
  replace hm := Lib.hid hm
  replace hla := Lib.hid hla
  clear hnb hX hA hn hk hc
  go_enter Tryz.func34, Tryz.ntmps34
  go_wp2_with fail
  go_loopw [3, 13] (fun va vi wr => ∃ i a : Nat, i ≤ m ∧ vi = .int .i64 (i : Nat) ∧ va = .int .i64 (a : Nat) ∧ a ≤ 1000000 ∧ Hid (a = 1 + la + countL (ks.take i)) ∧ Hid (Below w.heap.size w wr)) (fun _ vi _ => m - (intOf vi).toNat)
  case atStart => exact ⟨0, 1 + la, Nat.zero_le _, rfl, (by go_num), by omega, Lib.hid (by simp [countL]), hba⟩
  case round =>
   obtain ⟨i, a, hi, rfl, rfl, ha9, ha, hb⟩ := hrel
   by_cases hlt : i < m
   ·have i1 : decide ((i : Int) < (m : Int)) = true := by simp; omega
    have q1 : (i : Int) < (m : Int) := by omega
    have hKr : Sq (NdE X) 5 wr A2 m c2 ks := Sq.stay hK.out (fun ad e hn => by
     obtain ⟨b, off, e2, hbl, _⟩ := hK.out.cell hn
     rw [e] at e2
     injection e2 with e2
     rw [e2]
     exact hb.out.block b hbl) (fun vs x h => NdI.later h hXH.out hb.out)
    obtain ⟨b1, off1, x, vs1, rfl, _, hx1, _, hv1, hc1⟩ := hKr.at_ hlt
    have hszx := hkid.out i x hx1
    have hcx := count_kid hx1
    have hX1 : ∀ j, X j → j < wr.heap.size := fun j hj => Nat.lt_of_lt_of_le (hXH.out j hj) hb.out.size
    obtain ⟨kx, nx_, tx_, ax, kx_⟩ := x
    obtain ⟨Ax, cax, A2x, c2x, rfl, -⟩ := hv1.cells
    have m0 := hc1 0 _ rfl
    have m1 := hc1 1 _ rfl
    have m2 := hc1 2 _ rfl
    have m3 := hc1 3 _ rfl
    have m4 := hc1 4 _ rfl
    rw [Nat.add_zero] at m0
    have hbt := below_alloc wr (.cells #[.int .i64 kx, .string (strOf nx_), .string (strOf tx_), .slice Ax ax.length cax, .slice A2x kx_.length c2x] 25)
    have hrec := Lib.hid (ih.out X (wr.alloc (.cells #[.int .i64 kx, .string (strOf nx_), .string (strOf tx_), .slice Ax ax.length cax, .slice A2x kx_.length c2x] 25)) _ _ hszx (NdI.later hv1 hX1 hbt) (fun j hj => Nat.lt_of_lt_of_le (hX1 j hj) hbt.size) (by omega))
    have hdc := depth_count (.mk kx nx_ tx_ ax kx_)
    have hnext : Hid (a + countN (.mk kx nx_ tx_ ax kx_) = 1 + la + countL (ks.take (i + 1))) := Lib.hid (by
     rw [take_snoc hx1, countL_append, ha.out]
     simp [countL]; omega)
    have hbb := Lib.hid (hb.out.trans (hbt.mono hb.out.size))
    obtain ⟨dx, hdx⟩ : ∃ dx, countN (.mk kx nx_ tx_ ax kx_) = dx := ⟨_, rfl⟩
    rw [hdx] at hrec hnext
    have hdx9 : dx ≤ 1000000 := by rw [← hdx]; omega
    have haf := ha.out
    have hsum : a + dx ≤ 1000000 := by rw [← hdx, haf]; omega
    clear haf hdx hdc hcx hszx hKr hv1 hx1 hc1 hX1 hbt
    go_wp2_with fail
    refine hrec.out.mono ?_
    rintro e w5 ⟨rfl, hb5⟩
    have hw5 := Lib.hid (hbb.out.trans (hb5.mono hbb.out.size))
    clear hb5 m0 m1 m2 m3 m4
    go_wp2_with fail
    go_roundw
    case rel => exact ⟨i + 1, a + dx, by omega, by go_num, by go_num, hsum, hnext, hw5⟩
    case measure => simp [intOf]; omega
   ·have hie : i = m := by omega
    subst hie
    have i1 : decide ((i : Int) < (i : Int)) = false := by simp
    have hfin : Hid (countN (.mk kd nm tx as_ ks) = a) := Lib.hid (by
     rw [countN, ha.out, ← hm.out, List.take_length, ← hla.out])
    go_wp2_with fail
    go_ret
    exact ⟨by rw [hfin.out]; rfl, hb.out⟩
end Go.Proofs.YtokdnhdfmgfkeaaGreatDoor.Xt
end

section
namespace Go.Proofs.YtokdnhdfmgfkeaaGreatDoor.Xp
open Go.RowKit UtfW Xl Xo Xt

structure DocB (d : Doc) : Prop where
 cnt : countN d.root ≤ 1000000
 bl : d.before.length ≤ 1000000
 al : d.after.length ≤ 1000000
 wr : (writeD d).length ≤ 100000000000000
 rs : smN d.root
 bs : smL d.before
 as_ : smL d.after
set_option maxHeartbeats 8000000 in
set_option maxRecDepth 100000 in
theorem May_any (X : Nat → Prop) (w : World) (hU : Un w) (v : Value) (d : Doc) (hd : DocI X w v d) (hX : ∀ j, X j → j < w.heap.size) (hB : DocB d) :
  Calls Tryz.prog 14 #[v] w fun e w' => e = .returned (.bool (mayD d)) ∧ Below w.heap.size w w' := by
 obtain ⟨A1, n1, c1, kd, nm, tx, Ar, n5, cr, Ak, n6, ck, A2, n2, c2, hv, h1, h2, h3, h4, h5, hkd⟩ := doc_parts hd
 subst hv
 have hl1 := h1.len
 have hl2 := h4.len
 have hba := below_alloc w (.cells #[.slice A1 n1 c1, .int .i64 kd, .string (strOf nm), .string (strOf tx), .slice Ar n5 cr, .slice Ak n6 ck, .slice A2 n2 c2] 27)
 have hnb := heap_alloc_new w (.cells #[.slice A1 n1 c1, .int .i64 kd, .string (strOf nm), .string (strOf tx), .slice Ar n5 cr, .slice Ak n6 ck, .slice A2 n2 c2] 27)
 obtain ⟨T, hT⟩ : ∃ T, w.heap.size = T := ⟨_, rfl⟩
 obtain ⟨w1, hw1⟩ : ∃ w1, w.alloc (.cells #[.slice A1 n1 c1, .int .i64 kd, .string (strOf nm), .string (strOf tx), .slice Ar n5 cr, .slice Ak n6 ck, .slice A2 n2 c2] 27) = w1 := ⟨_, rfl⟩
 rw [hw1] at hba hnb
 rw [hT] at hnb
 have hTb : Hid (∀ x, Below w1.heap.size w1 x → x.heap[T]? = some (.cells #[.slice A1 n1 c1, .int .i64 kd, .string (strOf nm), .string (strOf tx), .slice Ar n5 cr, .slice Ak n6 ck, .slice A2 n2 c2] 27)) := Lib.hid fun x hx => (hx.block T (Array.getElem?_eq_some_iff.1 hnb).1).trans hnb
 have hqw1 : Hid (Below w1.heap.size w1 w1) := Lib.hid (Below.refl _ _)
 have hlow : ∀ x, Below w1.heap.size w1 x → Below w.heap.size w x := fun x hx => hba.trans (hx.mono hba.size)
 have hXx : ∀ x, Below w1.heap.size w1 x → ∀ j, X j → j < x.heap.size := fun x hx j hj => Nat.lt_of_lt_of_le (hX j hj) (hlow x hx).size
 have hrx : ∀ x, Below w1.heap.size w1 x → NdI X x [.int .i64 kd, .string (strOf nm), .string (strOf tx), .slice Ar n5 cr, .slice Ak n6 ck] d.root := fun x hx => NdI.later h3 hX (hlow x hx)
 have hcF := Lib.hid (fun (x : World) (hx : Below w1.heap.size w1 x) => Fair_any _ X d.root (Nat.le_refl _) hB.rs _ x (hU.below (hlow x hx)) (hrx x hx) (hXx x hx))
 have hcB := Lib.hid (fun (x : World) (hx : Below w1.heap.size w1 x) => misc_any X x (hU.below (hlow x hx)) A1 n1 c1 d.before (sq_keep h1 (hlow x hx) (fun vs y h => NdI.later h hX (hlow x hx))) (hXx x hx) hB.bs)
 have hcA := Lib.hid (fun (x : World) (hx : Below w1.heap.size w1 x) => misc_any X x (hU.below (hlow x hx)) A2 n2 c2 d.after (sq_keep h4 (hlow x hx) (fun vs y h => NdI.later h hX (hlow x hx))) (hXx x hx) hB.as_)
 have hcC := Lib.hid (fun (x : World) (hx : Below w1.heap.size w1 x) => countN_any _ X x _ d.root (Nat.le_refl _) (hrx x hx) (hXx x hx) hB.cnt)
 have hcD := Lib.hid (fun (x : World) (hx : Below w1.heap.size w1 x) => depth_any _ X x _ d.root (Nat.le_refl _) (hrx x hx) (hXx x hx) hB.cnt)
 have hcW := Lib.hid (fun (x : World) (hx : Below w1.heap.size w1 x) => written_any X x _ d (Xp.DocI.keep hd (fun k hk => (hlow x hx).block k (hX k hk))) (hXx x hx) hB.wr)
 have y0 := Xp.cell_blk hnb (i := 0) rfl
 have y1 := Xp.cell_blk hnb (i := 1) rfl
 have y2 := Xp.cell_blk hnb (i := 2) rfl
 have y3 := Xp.cell_blk hnb (i := 3) rfl
 have y4 := Xp.cell_blk hnb (i := 4) rfl
 have y5 := Xp.cell_blk hnb (i := 5) rfl
 have y6 := Xp.cell_blk hnb (i := 6) rfl
 have hbaH := Lib.hid hba
 have b1 := hB.cnt
 have b2 := hB.bl
 have b3 := hB.al
 have b4 := hB.wr
 obtain ⟨R, hRe⟩ : ∃ R, mayD d = R := ⟨_, rfl⟩
 unfold mayD at hRe
 unfold mayD
 rw [hRe]
 obtain ⟨FR, hFR⟩ : ∃ b, fairN d.root = b := ⟨_, rfl⟩
 obtain ⟨MB, hMB⟩ : ∃ b, miscOk d.before = b := ⟨_, rfl⟩
 obtain ⟨MA, hMA⟩ : ∃ b, miscOk d.after = b := ⟨_, rfl⟩
 obtain ⟨CN, hCN⟩ : ∃ b, countN d.root = b := ⟨_, rfl⟩
 obtain ⟨DN, hDN⟩ : ∃ b, depthN d.root = b := ⟨_, rfl⟩
 obtain ⟨ST, hST⟩ : ∃ b, strOf (writeD d) = b := ⟨_, rfl⟩
 have hsz : ST.size = (writeD d).length := by rw [← hST]; exact strOf_size' _
 rw [hl1, hl2] at hRe
 rw [hl1] at b2
 rw [hl2] at b3
 rw [hFR, hMB, hMA, hCN, hDN, ← hsz, ← hkd] at hRe
 rw [hFR] at hcF
 rw [hMB] at hcB
 rw [hMA] at hcA
 rw [hCN] at hcC b1
 rw [hDN] at hcD
 rw [hST] at hcW
 have hR := Lib.hid hRe
 rw [← hsz] at b4
 obtain ⟨zs, hzs⟩ : ∃ z, ST.size = z := ⟨_, rfl⟩
 rw [hzs] at b4
 have hzs' := Lib.hid hzs
 have hd1 : DN ≤ 1000000 := by
  have := depth_count d.root
  rw [hCN, hDN] at this
  omega
 clear hd hX hB h1 h2 h3 h4 h5 hkd hl1 hl2 hba hnb hlow hXx hrx hRe hU hFR hMB hMA hCN hDN hST hsz hzs
 by_cases k1 : kd = 1
 case' neg =>
  have k0 : (kd != 1) = true := by simpa using k1
  have hR := Lib.hid (show false = R by rw [← hR.out]; simp [k1])
  clear k1
  go_enter Tryz.func14, Tryz.ntmps14
  have hRf : Hid (R = false) := Lib.hid hR.out.symm
  clear hR hcF hcB hcA hcC hcD hcW
  go_wp2_with fail
  go_ret
  exact ⟨by rw [hRf.out]; rfl, hbaH.out⟩
 have k0 : (kd != 1) = false := by rw [k1]; rfl
 subst k1
 go_enter Tryz.func14, Tryz.ntmps14
 go_wp2_with fail
 refine (hcF.out w1 hqw1.out).mono ?_
 rintro e w2 ⟨rfl, hbw2⟩
 have hqw2 := Lib.hid (hqw1.out.trans (hbw2.mono hqw1.out.size))
 clear hbw2 y0 y1 y2 y3 y4 y5 y6
 have hTb9 := hTb.out w2 hqw2.out
 have y0 := Xp.cell_blk hTb9 (i := 0) rfl
 have y1 := Xp.cell_blk hTb9 (i := 1) rfl
 have y2 := Xp.cell_blk hTb9 (i := 2) rfl
 have y3 := Xp.cell_blk hTb9 (i := 3) rfl
 have y4 := Xp.cell_blk hTb9 (i := 4) rfl
 have y5 := Xp.cell_blk hTb9 (i := 5) rfl
 have y6 := Xp.cell_blk hTb9 (i := 6) rfl
 clear hTb9
 cases FR with
 | false =>
  have hRf : Hid (R = false) := Lib.hid (by have h9 := hR.out; first | exact h9.symm | (rw [← h9]; simp))
  have hfin := Lib.hid (hbaH.out.trans (hqw2.out.mono hbaH.out.size))
  clear hR
  go_wp2_with fail
  (try simp only [Exit.inBlock, Exit.then])
  go_ret
  exact ⟨by rw [hRf.out]; rfl, hfin.out⟩
 | true =>
  go_wp2_with fail
  refine (hcB.out w2 hqw2.out).mono ?_
  rintro e w3 ⟨rfl, hbw3⟩
  have hqw3 := Lib.hid (hqw2.out.trans (hbw3.mono hqw2.out.size))
  clear hbw3 y0 y1 y2 y3 y4 y5 y6
  have hTb9 := hTb.out w3 hqw3.out
  have y0 := Xp.cell_blk hTb9 (i := 0) rfl
  have y1 := Xp.cell_blk hTb9 (i := 1) rfl
  have y2 := Xp.cell_blk hTb9 (i := 2) rfl
  have y3 := Xp.cell_blk hTb9 (i := 3) rfl
  have y4 := Xp.cell_blk hTb9 (i := 4) rfl
  have y5 := Xp.cell_blk hTb9 (i := 5) rfl
  have y6 := Xp.cell_blk hTb9 (i := 6) rfl
  clear hTb9
  cases MB with
  | false =>
   have hRf : Hid (R = false) := Lib.hid (by have h9 := hR.out; first | exact h9.symm | (rw [← h9]; simp))
   have hfin := Lib.hid (hbaH.out.trans (hqw3.out.mono hbaH.out.size))
   clear hR
   go_wp2_with fail
   (try simp only [Exit.inBlock, Exit.then])
   go_ret
   exact ⟨by rw [hRf.out]; rfl, hfin.out⟩
  | true =>
   go_wp2_with fail
   refine (hcA.out w3 hqw3.out).mono ?_
   rintro e w4 ⟨rfl, hbw4⟩
   have hqw4 := Lib.hid (hqw3.out.trans (hbw4.mono hqw3.out.size))
   clear hbw4 y0 y1 y2 y3 y4 y5 y6
   have hTb9 := hTb.out w4 hqw4.out
   have y0 := Xp.cell_blk hTb9 (i := 0) rfl
   have y1 := Xp.cell_blk hTb9 (i := 1) rfl
   have y2 := Xp.cell_blk hTb9 (i := 2) rfl
   have y3 := Xp.cell_blk hTb9 (i := 3) rfl
   have y4 := Xp.cell_blk hTb9 (i := 4) rfl
   have y5 := Xp.cell_blk hTb9 (i := 5) rfl
   have y6 := Xp.cell_blk hTb9 (i := 6) rfl
   clear hTb9
   cases MA with
   | false =>
    have hRf : Hid (R = false) := Lib.hid (by have h9 := hR.out; first | exact h9.symm | (rw [← h9]; simp))
    have hfin := Lib.hid (hbaH.out.trans (hqw4.out.mono hbaH.out.size))
    clear hR
    go_wp2_with fail
    (try simp only [Exit.inBlock, Exit.then])
    go_ret
    exact ⟨by rw [hRf.out]; rfl, hfin.out⟩
   | true =>
    have hdr : Below w4.heap.size w4 w4.drew := Joins.below_draws w4.heap.size w4 1
    go_upto_region 3 with fail
    refine Pl.wp_region_plan 10 (.take 0 (.take 1 (.take 3 (.take 4 (.take 5 (.take 7 (.take 8 (.take 9 (.run 2 (.take 6 .done)))))))))) (fun x => Below w4.heap.size w4 x) (by kernel_rfl) (by kernel_rfl) (by exact hdr) ?_
    simp only [Pl.fill, List.getElem?_cons_zero, List.getElem?_cons_succ, List.drop_succ_cons, List.drop_zero]
    iterate 8
     refine Pl.take_go ?_ (by rfl) (fun _ _ _ h => h) ?_ ?_
     rotate_left
     ·(intro x hSw; have q0 := cell_keep y0 (hSw); have q1 := cell_keep y1 (hSw); have q2 := cell_keep y2 (hSw); have q3 := cell_keep y3 (hSw); have q4 := cell_keep y4 (hSw); have q5 := cell_keep y5 (hSw); have q6 := cell_keep y6 (hSw); go_simp; try with_reducible rfl)
     (try simp only [Act.put, List.setIfInBounds_toArray, List.set_cons_zero, List.set_cons_succ])
    refine Pl.run_go (fun K hK => ?_)
    go_simp
    refine (hcC.out w4.drew (hqw4.out.trans (hdr.mono hqw4.out.size))).mono ?_
    rintro e w5 ⟨rfl, hbw5⟩
    have hdw5 : Hid (Below w4.heap.size w4 w5) := Lib.hid (hdr.trans (hbw5.mono hdr.size))
    have hqw5 := Lib.hid (hqw4.out.trans (hdw5.out.mono hqw4.out.size))
    dsimp only
    refine hK.out _ _ (Pl.more_go (fun x => Below w5.heap.size w5 x) (fun x hx => hdw5.out.trans (hx.mono hdw5.out.size)) (Below.refl _ _) ?_)
    clear hK K
    try simp only [Act.put, List.setIfInBounds_toArray, List.set_cons_zero, List.set_cons_succ]
    iterate 1
     refine Pl.take_go ?_ (by rfl) (fun _ _ _ h => h) ?_ ?_
     rotate_left
     ·(intro x hSw; have q0 := cell_keep y0 (hdw5.out.trans (hSw.mono hdw5.out.size)); have q1 := cell_keep y1 (hdw5.out.trans (hSw.mono hdw5.out.size)); have q2 := cell_keep y2 (hdw5.out.trans (hSw.mono hdw5.out.size)); have q3 := cell_keep y3 (hdw5.out.trans (hSw.mono hdw5.out.size)); have q4 := cell_keep y4 (hdw5.out.trans (hSw.mono hdw5.out.size)); have q5 := cell_keep y5 (hdw5.out.trans (hSw.mono hdw5.out.size)); have q6 := cell_keep y6 (hdw5.out.trans (hSw.mono hdw5.out.size)); go_simp; try with_reducible rfl)
     (try simp only [Act.put, List.setIfInBounds_toArray, List.set_cons_zero, List.set_cons_succ])
    refine Pl.done_go ?_
    clear hbw5 hdw5 hdr hcC y0 y1 y2 y3 y4 y5 y6
    have hTb9 := hTb.out w5 hqw5.out
    have y0 := Xp.cell_blk hTb9 (i := 0) rfl
    have y1 := Xp.cell_blk hTb9 (i := 1) rfl
    have y2 := Xp.cell_blk hTb9 (i := 2) rfl
    have y3 := Xp.cell_blk hTb9 (i := 3) rfl
    have y4 := Xp.cell_blk hTb9 (i := 4) rfl
    have y5 := Xp.cell_blk hTb9 (i := 5) rfl
    have y6 := Xp.cell_blk hTb9 (i := 6) rfl
    clear hTb9
    go_wp2_with fail
    refine (hcD.out w5 hqw5.out).mono ?_
    rintro e w6 ⟨rfl, hbw6⟩
    have hqw6 := Lib.hid (hqw5.out.trans (hbw6.mono hqw5.out.size))
    clear hbw6 y0 y1 y2 y3 y4 y5 y6
    have hTb9 := hTb.out w6 hqw6.out
    have y0 := Xp.cell_blk hTb9 (i := 0) rfl
    have y1 := Xp.cell_blk hTb9 (i := 1) rfl
    have y2 := Xp.cell_blk hTb9 (i := 2) rfl
    have y3 := Xp.cell_blk hTb9 (i := 3) rfl
    have y4 := Xp.cell_blk hTb9 (i := 4) rfl
    have y5 := Xp.cell_blk hTb9 (i := 5) rfl
    have y6 := Xp.cell_blk hTb9 (i := 6) rfl
    clear hTb9
    by_cases j1 : DN ≤ 32
    case' neg =>
     have t1 : decide ((DN : Int) ≤ 32) = false := by simp; omega
     have hR := Lib.hid (show false = R by rw [← hR.out]; simp [j1])
     have hRf : Hid (R = false) := Lib.hid (by have h9 := hR.out; first | exact h9.symm | (rw [← h9]; simp))
     have hfin := Lib.hid (hbaH.out.trans (hqw6.out.mono hbaH.out.size))
     clear hR
     go_wp2_with fail
     (try simp only [Exit.inBlock, Exit.then])
     go_ret
     exact ⟨by rw [hRf.out]; rfl, hfin.out⟩
    have t1 : decide ((DN : Int) ≤ 32) = true := by simp; omega
    by_cases j2 : CN + n1 + n2 ≤ 4096
    case' neg =>
     have t2 : decide ((CN : Int) + (n1 : Int) + (n2 : Int) ≤ 4096) = false := by simp; omega
     have hR := Lib.hid (show false = R by rw [← hR.out]; simp [j2])
     have hRf : Hid (R = false) := Lib.hid (by have h9 := hR.out; first | exact h9.symm | (rw [← h9]; simp))
     have hfin := Lib.hid (hbaH.out.trans (hqw6.out.mono hbaH.out.size))
     clear hR
     go_wp2_with fail
     (try simp only [Exit.inBlock, Exit.then])
     go_ret
     exact ⟨by rw [hRf.out]; rfl, hfin.out⟩
    have t2 : decide ((CN : Int) + (n1 : Int) + (n2 : Int) ≤ 4096) = true := by simp; omega
    have hR := Lib.hid (show (decide (zs ≤ 65536)) = R by rw [← hR.out, hzs'.out]; simp [j1, j2])
    clear j1 j2
    go_wp2_with fail
    refine (hcW.out w6 hqw6.out).mono ?_
    rintro e w7 ⟨rfl, hbw7⟩
    have hqw7 := Lib.hid (hqw6.out.trans (hbw7.mono hqw6.out.size))
    clear hbw7 y0 y1 y2 y3 y4 y5 y6
    have hTb9 := hTb.out w7 hqw7.out
    have y0 := Xp.cell_blk hTb9 (i := 0) rfl
    have y1 := Xp.cell_blk hTb9 (i := 1) rfl
    have y2 := Xp.cell_blk hTb9 (i := 2) rfl
    have y3 := Xp.cell_blk hTb9 (i := 3) rfl
    have y4 := Xp.cell_blk hTb9 (i := 4) rfl
    have y5 := Xp.cell_blk hTb9 (i := 5) rfl
    have y6 := Xp.cell_blk hTb9 (i := 6) rfl
    clear hTb9
    have hfin := Lib.hid (hbaH.out.trans (hqw7.out.mono hbaH.out.size))
    have hzs := hzs'.out
    by_cases j3 : zs ≤ 65536
    ·have t3 : decide ((zs : Int) ≤ 65536) = true := by simp; omega
     have hRf : Hid (R = true) := Lib.hid (by rw [← hR.out]; simp [j3])
     clear hR j3
     go_wp2_with fail
     go_ret
     exact ⟨by rw [hRf.out]; rfl, hfin.out⟩
    ·have t3 : decide ((zs : Int) ≤ 65536) = false := by simp; omega
     have hRf : Hid (R = false) := Lib.hid (by rw [← hR.out]; simp [j3])
     clear hR j3
     go_wp2_with fail
     go_ret
     exact ⟨by rw [hRf.out]; rfl, hfin.out⟩
end Go.Proofs.YtokdnhdfmgfkeaaGreatDoor.Xp
end

section
namespace Go.Proofs.YtokdnhdfmgfkeaaGreatDoor.Xp
open Go.RowKit UtfW Xl Xo Xt

def writeB : ByteArray := ⟨#[119, 114, 105, 116, 101]⟩
def DocP (d : Doc) (w : World) (e : Ending) (w' : World) : Prop := Below w.heap.size w w' ∧ ((mayD d = true ∧ e = .returned (.tuple #[.string (strOf (writeD d)), .nilIface])) ∨ (mayD d = false ∧ ∃ v, e = .returned (.tuple #[.string ⟨#[]⟩, v]) ∧ Er.Fe w' w'.heap.size 80 0 [writeB] v))
set_option maxHeartbeats 8000000 in
set_option maxRecDepth 100000 in
theorem Doc_any (X : Nat → Prop) (w : World) (hU : Un w) (v : Value) (d : Doc) (hd : DocI X w v d) (hX : ∀ j, X j → j < w.heap.size) (hB : DocB d) :
  Calls Tryz.prog 13 #[v] w (DocP d w) := by
 obtain ⟨A1, n1, c1, kd, nm, tx, Ar, n5, cr, Ak, n6, ck, A2, n2, c2, hv, -⟩ := doc_parts hd
 subst hv
 have hba := below_alloc w (.cells #[.slice A1 n1 c1, .int .i64 kd, .string (strOf nm), .string (strOf tx), .slice Ar n5 cr, .slice Ak n6 ck, .slice A2 n2 c2] 27)
 have hnb := heap_alloc_new w (.cells #[.slice A1 n1 c1, .int .i64 kd, .string (strOf nm), .string (strOf tx), .slice Ar n5 cr, .slice Ak n6 ck, .slice A2 n2 c2] 27)
 obtain ⟨T, hT⟩ : ∃ T, w.heap.size = T := ⟨_, rfl⟩
 obtain ⟨w1, hw1⟩ : ∃ w1, w.alloc (.cells #[.slice A1 n1 c1, .int .i64 kd, .string (strOf nm), .string (strOf tx), .slice Ar n5 cr, .slice Ak n6 ck, .slice A2 n2 c2] 27) = w1 := ⟨_, rfl⟩
 rw [hw1] at hba hnb
 rw [hT] at hnb
 have hTb : Hid (∀ x, Below w1.heap.size w1 x → x.heap[T]? = some (.cells #[.slice A1 n1 c1, .int .i64 kd, .string (strOf nm), .string (strOf tx), .slice Ar n5 cr, .slice Ak n6 ck, .slice A2 n2 c2] 27)) := Lib.hid fun x hx => (hx.block T (Array.getElem?_eq_some_iff.1 hnb).1).trans hnb
 have hlow : ∀ x, Below w1.heap.size w1 x → Below w.heap.size w x := fun x hx => hba.trans (hx.mono hba.size)
 have hXx : ∀ x, Below w1.heap.size w1 x → ∀ j, X j → j < x.heap.size := fun x hx j hj => Nat.lt_of_lt_of_le (hX j hj) (hlow x hx).size
 have hdx : ∀ x, Below w1.heap.size w1 x → DocI X x (.agg #[.slice A1 n1 c1, .int .i64 kd, .string (strOf nm), .string (strOf tx), .slice Ar n5 cr, .slice Ak n6 ck, .slice A2 n2 c2]) d := fun x hx => Xp.DocI.keep hd (fun k hk => (hlow x hx).block k (hX k hk))
 have hcM := Lib.hid (May_any X w1 (hU.below hba) _ d (hdx w1 (Below.refl _ _)) (hXx w1 (Below.refl _ _)) hB)
 have hcW := Lib.hid (fun (x : World) (hx : Below w1.heap.size w1 x) => written_any X x _ d (hdx x hx) (hXx x hx) hB.wr)
 have y0 := Xp.cell_blk hnb (i := 0) rfl
 have y1 := Xp.cell_blk hnb (i := 1) rfl
 have y2 := Xp.cell_blk hnb (i := 2) rfl
 have y3 := Xp.cell_blk hnb (i := 3) rfl
 have y4 := Xp.cell_blk hnb (i := 4) rfl
 have y5 := Xp.cell_blk hnb (i := 5) rfl
 have y6 := Xp.cell_blk hnb (i := 6) rfl
 have hbaH := Lib.hid hba
 obtain ⟨P, hP⟩ : ∃ P : Ending → World → Prop, (DocP d w) = P := ⟨_, rfl⟩
 rw [hP]
 obtain ⟨M, hM⟩ : ∃ b, mayD d = b := ⟨_, rfl⟩
 obtain ⟨ST, hST⟩ : ∃ b, strOf (writeD d) = b := ⟨_, rfl⟩
 rw [hM] at hcM
 rw [hST] at hcW
 have hok : Hid (M = true → ∀ w', Below w.heap.size w w' → P (.returned (.tuple #[.string ST, .nilIface])) w') := Lib.hid fun e w' hw => by
  rw [← hP]
  exact ⟨hw, .inl ⟨hM.trans e, by rw [hST]⟩⟩
 have hno : Hid (M = false → ∀ w' v, Below w.heap.size w w' → Er.Fe w' w'.heap.size 80 0 [writeB] v → P (.returned (.tuple #[.string ⟨#[]⟩, v])) w') := Lib.hid fun e w' v hw hf => by
  rw [← hP]
  exact ⟨hw, .inr ⟨hM.trans e, v, rfl, hf⟩⟩
 clear hd hX hB hba hnb hlow hXx hdx hU hP hM hST
 go_enter Tryz.func13, Tryz.ntmps13
 go_wp2_with fail
 refine hcM.out.mono ?_
 rintro e w2 ⟨rfl, hb2⟩
 have hq2 := Lib.hid hb2
 have hTb9 := hTb.out w2 hb2
 clear hb2 y0 y1 y2 y3 y4 y5 y6
 have y0 := Xp.cell_blk hTb9 (i := 0) rfl
 have y1 := Xp.cell_blk hTb9 (i := 1) rfl
 have y2 := Xp.cell_blk hTb9 (i := 2) rfl
 have y3 := Xp.cell_blk hTb9 (i := 3) rfl
 have y4 := Xp.cell_blk hTb9 (i := 4) rfl
 have y5 := Xp.cell_blk hTb9 (i := 5) rfl
 have y6 := Xp.cell_blk hTb9 (i := 6) rfl
 clear hTb9
 cases M with
 | false =>
  clear y0 y1 y2 y3 y4 y5 y6
  go_wp2_with fail
  refine (Er.New_any 80 0 (by decide) w2).mono ?_
  rintro e w7 ⟨v7, rfl, hb7, hF7⟩
  have hq7 := Lib.hid (hq2.out.trans (hb7.mono hq2.out.size))
  clear hb7
  go_wp2_with fail
  refine (Er.Wrap_any writeB _ _ _ _ w7 hF7).mono ?_
  rintro e w8 ⟨v8, rfl, hb8, hF8⟩
  have hq8 := hq7.out.trans (hb8.mono hq7.out.size)
  have hfin : Hid (P (.returned (.tuple #[.string ⟨#[]⟩, v8])) w8) := Lib.hid (hno.out (by simp) w8 v8 (hbaH.out.trans (hq8.mono hbaH.out.size)) hF8)
  clear hq8 hb8 hF8 hF7
  go_wp2_with fail
  exact hfin.out
 | true =>
  go_wp2_with fail
  refine (hcW.out w2 hq2.out).mono ?_
  rintro e w3 ⟨rfl, hb3⟩
  have hfin : Hid (P (.returned (.tuple #[.string ST, .nilIface])) w3) := Lib.hid (hok.out (by simp) w3 (hbaH.out.trans ((hq2.out.trans (hb3.mono hq2.out.size)).mono hbaH.out.size)))
  clear hb3
  go_wp2_with fail
  exact hfin.out
end Go.Proofs.YtokdnhdfmgfkeaaGreatDoor.Xp
end

section
namespace Go.Proofs.YtokdnhdfmgfkeaaGreatDoor.Xp
open Go.RowKit UtfW Xl Xo Xt

theorem writeA_mem : ∀ {l : List At} {a : At}, a ∈ l → a.1.length ≤ (writeA l).length ∧ a.2.length ≤ (writeA l).length
 | [], a, h => by cases h
 | x :: l, a, h => by
  rw [writeA]
  simp only [List.length_append, List.length_cons]
  rcases List.mem_cons.1 h with rfl | h
  ·have := Xp.esc_ge true a.2
   omega
  ·have := writeA_mem h
   omega
theorem writeA_ge : ∀ l : List At, l.length ≤ (writeA l).length
 | [] => Nat.le_refl _
 | x :: l => by
  have := writeA_ge l
  rw [writeA, List.length_cons]
  simp only [List.length_append, List.length_cons]
  omega
theorem fairL_mem : ∀ {l : List Nd} {was : Int} {i : Nat} {x : Nd}, fairL was l = true → l[i]? = some x → fairN x = true
 | [], was, i, x, _, h => by simp at h
 | y :: l, was, 0, x, hf, h => by
  rw [fairL, Bool.and_eq_true, Bool.and_eq_true] at hf
  injection h with h
  rw [← h]
  exact hf.1.1
 | y :: l, was, i + 1, x, hf, h => by
  rw [fairL, Bool.and_eq_true] at hf
  exact fairL_mem hf.2 h
theorem writeL_mem : ∀ {l : List Nd} {i : Nat} {x : Nd}, l[i]? = some x → (writeN x).length ≤ (writeL l).length
 | [], i, x, h => by simp at h
 | y :: l, 0, x, h => by
  injection h with h
  rw [← h, writeL, List.length_append]
  omega
 | y :: l, i + 1, x, h => by
  have := writeL_mem (l := l) (i := i) h
  rw [writeL, List.length_append]
  omega
theorem fair_sm : ∀ (k : Nat) (n : Nd), SizeOf.sizeOf n ≤ k → fairN n = true → (writeN n).length ≤ 1000000 → smN n := by
 intro k
 induction k with
 | zero =>
  intro n hk
  obtain ⟨kd, nm, tx, as_, ks⟩ := n
  simp at hk
 | succ k ih =>
  intro n hk hf hw
  obtain ⟨kd, nm, tx, as_, ks⟩ := n
  rw [fairN] at hf
  rw [writeN] at hw
  rw [smN]
  by_cases h1 : kd = 1
  ·rw [if_pos h1] at hf hw
   simp only [Bool.and_eq_true, decide_eq_true_eq] at hf
   obtain ⟨⟨⟨h2, h3⟩, h4⟩, h5⟩ := hf
   subst h3
   simp only [List.length_append, List.length_cons] at hw
   refine ⟨by omega, by simp, ⟨by have := writeA_ge as_; omega, fun a ha => by have := writeA_mem ha; omega⟩, smL_of fun i x hx => ih x (by have := kid_lt (k := kd) (nm := nm) (tx := []) (as_ := as_) hx; omega) (fairL_mem h5 hx) ?_⟩
   have h6 := writeL_mem hx
   have h7 : ks.isEmpty = false := by
    cases ks with
    | nil => simp at hx
    | cons a b => rfl
   rw [h7] at hw
   simp only [Bool.false_eq_true, if_false, List.length_append, List.length_cons, List.length_nil] at hw
   omega
  rw [if_neg h1] at hf hw
  by_cases h2 : kd = 2
  ·rw [if_pos h2] at hf hw
   simp only [Bool.and_eq_true, decide_eq_true_eq, List.isEmpty_iff] at hf
   obtain ⟨⟨⟨⟨rfl, rfl⟩, rfl⟩, _⟩, _⟩ := hf
   have := Xp.esc_ge false tx
   exact ⟨by simp, by omega, ⟨by simp, fun a ha => by cases ha⟩, by rw [smL]; trivial⟩
  rw [if_neg h2] at hf hw
  by_cases h3 : kd = 3
  ·rw [if_pos h3] at hf hw
   simp only [Bool.and_eq_true, decide_eq_true_eq, List.isEmpty_iff] at hf
   obtain ⟨⟨⟨⟨⟨rfl, rfl⟩, rfl⟩, _⟩, _⟩, _⟩ := hf
   simp only [List.length_append] at hw
   exact ⟨by simp, by omega, ⟨by simp, fun a ha => by cases ha⟩, by rw [smL]; trivial⟩
  rw [if_neg h3] at hf hw
  by_cases h4 : kd = 4
  ·rw [if_pos h4] at hf hw
   simp only [Bool.and_eq_true, decide_eq_true_eq, List.isEmpty_iff] at hf
   obtain ⟨⟨⟨⟨⟨⟨rfl, rfl⟩, _⟩, _⟩, _⟩, _⟩, _⟩ := hf
   simp only [List.length_append, List.length_cons, List.length_nil] at hw
   refine ⟨by omega, ?_, ⟨by simp, fun a ha => by cases ha⟩, by rw [smL]; trivial⟩
   by_cases ht : tx = []
   ·rw [ht]; simp
   ·rw [if_neg ht, List.length_cons] at hw
    omega
  ·rw [if_neg h4] at hf
   cases hf
theorem miscOk_mem : ∀ {l : List Nd} {i : Nat} {x : Nd}, miscOk l = true → l[i]? = some x → fairN x = true
 | [], i, x, _, h => by simp at h
 | y :: l, 0, x, hf, h => by
  rw [miscOk, Bool.and_eq_true, Bool.and_eq_true] at hf
  injection h with h
  rw [← h]
  exact hf.1.2
 | y :: l, i + 1, x, hf, h => by
  rw [miscOk, Bool.and_eq_true] at hf
  exact miscOk_mem hf.2 h
theorem may_docB {d : Doc} (h : mayD d = true) : DocB d ∧ (writeD d).length ≤ 65536 := by
 unfold mayD at h
 simp only [Bool.and_eq_true, decide_eq_true_eq] at h
 obtain ⟨⟨⟨⟨⟨⟨h1, h2⟩, h3⟩, h4⟩, h5⟩, h6⟩, h7⟩ := h
 have h8 := h7
 unfold writeD at h8
 simp only [List.length_append] at h8
 refine ⟨⟨by omega, by omega, by omega, by omega, fair_sm _ _ (Nat.le_refl _) h2 (by omega), smL_of fun i x hx => fair_sm _ _ (Nat.le_refl _) (miscOk_mem h3 hx) ?_, smL_of fun i x hx => fair_sm _ _ (Nat.le_refl _) (miscOk_mem h4 hx) ?_⟩, h7⟩
 ·have := writeL_mem hx
  omega
 ·have := writeL_mem hx
  omega
theorem may_back {d : Doc} (h : mayD d = true) : parseF (writeD d) = (0, 0, d) := by
 obtain ⟨ts, h1, h2⟩ := back h
 unfold parseF
 rw [h1]
 simp [h2]
end Go.Proofs.YtokdnhdfmgfkeaaGreatDoor.Xp
end
