/- How long what is parsed is when it is written; what is parsed may be written. No program stands here. -/
import Derived.Test.YtokdnhdfmgfkeaaGreatDoorUXlScan
import Derived.Test.YtokdnhdfmgfkeaaGreatDoorUErrWalk2
import Derived.Test.YtokdnhdfmgfkeaaGreatDoorUXoBack
import Derived.Test.YtokdnhdfmgfkeaaGreatDoorUXpRc
import Derived.Test.YtokdnhdfmgfkeaaGreatDoorUStrLaws
import Derived.Laws.StructEq
import Derived.Test.YtokdnhdfmgfkeaaGreatDoorUXnSt1
import Derived.Test.YtokdnhdfmgfkeaaGreatDoorUXpLib
import Derived.Test.YtokdnhdfmgfkeaaGreatDoorUXlPlaces
set_option linter.unusedVariables false
set_option linter.unusedSimpArgs false
section
namespace Go.Proofs.YtokdnhdfmgfkeaaGreatDoor.Xl
open Go.RowKit UtfW

def xmlB : ByteArray := ⟨#[120, 109, 108]⟩
section
variable (w : World) (hU : Un w) (A : Option Addr) (n c : Nat) (S : Tx) (hBs : Bs w A n c S) (hn : n ≤ 1000000)
include hU hBs hn
end
end Go.Proofs.YtokdnhdfmgfkeaaGreatDoor.Xl
end

section
namespace Go.Proofs.YtokdnhdfmgfkeaaGreatDoor.Xl
open Go.RowKit UtfW Er

def AllP (S : Tx) (w : World) (e : Ending) (w' : World) : Prop := Below w.heap.size w w' ∧ ∃ va ev, e = .returned (.tuple #[va, ev]) ∧
    (((allF S).1 = 0 ∧ ev = .nilIface ∧ OwTk w' w.heap.size va (allF S).2.2) ∨ ((allF S).1 ≠ 0 ∧ va = .slice none 0 0 ∧ Er.Fe w' w'.heap.size (allF S).1 ((allF S).2.1 : Nat) [xmlB] ev))
theorem AllP.ok {S : Tx} {w w' : World} {e : Ending} {p : Nat} {ts : List Tok} (h : AllP S w e w') (hr : allF S = (0, p, ts)) : Below w.heap.size w w' ∧ ∃ A c, e = .returned (.tuple #[.slice A ts.length c, .nilIface]) ∧ OwTk w' w.heap.size (.slice A ts.length c) ts := by
  obtain ⟨h1, va, ev, rfl, h2⟩ := h
  rw [hr] at h2
  rcases h2 with ⟨_, rfl, h3⟩ | ⟨h3, _⟩
  · obtain ⟨A, c, rfl⟩ := OwS.form h3
    exact ⟨h1, A, c, rfl, h3⟩
  · exact absurd rfl h3
theorem AllP.no {S : Tx} {w w' : World} {e : Ending} {cd : Int} {p : Nat} {ts : List Tok} (h : AllP S w e w') (hr : allF S = (cd, p, ts)) (hc : cd ≠ 0) : Below w.heap.size w w' ∧ ∃ v, e = .returned (.tuple #[.slice none 0 0, v]) ∧ Er.Fe w' w'.heap.size cd (p : Nat) [xmlB] v := by
  obtain ⟨h1, va, ev, rfl, h2⟩ := h
  rw [hr] at h2
  rcases h2 with ⟨h3, _⟩ | ⟨_, rfl, h4⟩
  · exact absurd h3 hc
  · exact ⟨h1, ev, rfl, h4⟩
theorem Fe.later {w w' : World} {code at_ : Int} {ws : List ByteArray} {e : Value} (h : Fe w w.heap.size code at_ ws e) (hb : Below w.heap.size w w') : Fe w' w'.heap.size code at_ ws e := (h.on hb).up hb.size

end Go.Proofs.YtokdnhdfmgfkeaaGreatDoor.Xl
end

section
namespace Go.Proofs.YtokdnhdfmgfkeaaGreatDoor.Xl
open Go.RowKit UtfW Er

section
variable (w : World) (S : Tx) (single : Bool)
end
end Go.Proofs.YtokdnhdfmgfkeaaGreatDoor.Xl
end

section
namespace Go.Proofs.YtokdnhdfmgfkeaaGreatDoor.Xt
open Go.RowKit UtfW Xl

section
variable {w w' : World} {b N : Nat} {P0 : Pp} {s : St} {ρ : Rol}
end
end Go.Proofs.YtokdnhdfmgfkeaaGreatDoor.Xt
end

section
namespace Go.Proofs.YtokdnhdfmgfkeaaGreatDoor.Xt
open Go.RowKit UtfW Xl

section
variable {E PT BT : TypeId} {ρ ρ' : Rol} {P0 : Pp} {w w' : World} {b : Nat} {s : St}
end
end Go.Proofs.YtokdnhdfmgfkeaaGreatDoor.Xt
end

section
namespace Go.Proofs.YtokdnhdfmgfkeaaGreatDoor.Xt
open Go.RowKit UtfW Xl

section
variable {w w' : World} {b N : Nat} {P0 : Pp} {s : St} {ρ : Rol}
end
end Go.Proofs.YtokdnhdfmgfkeaaGreatDoor.Xt
end

section
namespace Go.Proofs.YtokdnhdfmgfkeaaGreatDoor.Xt
open Go.RowKit UtfW Xl

section
variable {w w' : World} {b N : Nat} {P0 : Pp} {s : St} {ρ : Rol}
end
end Go.Proofs.YtokdnhdfmgfkeaaGreatDoor.Xt
end

section
namespace Go.Proofs.YtokdnhdfmgfkeaaGreatDoor.Xt
open Go.RowKit UtfW Xl

section
variable {w w' w0 : World} {b N : Nat} {P0 : Pp} {s : St} {ρ : Rol}
end
end Go.Proofs.YtokdnhdfmgfkeaaGreatDoor.Xt
end

section
namespace Go.Proofs.YtokdnhdfmgfkeaaGreatDoor.Xt
open Xl

def Ok (l : List Tok) : Prop := ∀ t ∈ l, (1 ≤ t.kind ∧ t.kind ≤ 7) ∧ (t.kind = 6 → t.name = [])
theorem Ok.tail {t : Tok} {l : List Tok} (h : Ok (t :: l)) : Ok l := fun x hx => h x (List.mem_cons_of_mem _ hx)

theorem flush_id {s : St} (h : s.text = []) : flush s = s := by
  unfold flush
  rw [if_pos h]
def St.setN (s : St) (n : Nat) : St := { s with nodes := n }
theorem flush_setN (s : St) (n : Nat) : flush (s.setN n) = (flush s).setN n := by
  unfold flush St.setN
  simp only
  split
  · rfl
  · unfold put
    cases h : s.opn with
    | nil =>
      simp only
      split
      · rfl
      · split <;> rfl
    | cons f F => rfl
theorem flush_nodes' (s : St) (n : Nat) : flush { s with nodes := n } = (flush s).setN n := flush_setN s n
theorem end_of {s : St} {f : Fr} {F : List Fr} (h : (flush s).opn = f :: F) : endT s = put { flush s with opn := F } (.mk 1 f.name [] f.attrs f.kids) := by
  unfold endT
  simp only
  rw [h]
theorem put_setN (s : St) (n : Nd) (m : Nat) : put (s.setN m) n = (put s n).setN m := by
  unfold put St.setN
  cases h : s.opn with
  | nil =>
    simp only
    split
    · rfl
    · split <;> rfl
  | cons f F => rfl
end Go.Proofs.YtokdnhdfmgfkeaaGreatDoor.Xt
end

section
namespace Go.Proofs.YtokdnhdfmgfkeaaGreatDoor.Xt
open Xl UtfW

def lastK (p : Int) : List Nd → Int
  | [] => p
  | x :: l => lastK x.kind l
def okKind (k : Int) : Bool := decide (1 ≤ k) && decide (k ≤ 4)
mutual
def soundN : Nd → Bool
  | .mk k nm tx as_ ks => !(decide (k = 1) && (!nameR nm || decide (tx ≠ [])) || decide (k = 2) && decide (tx = []) || !okKind k) && !(decide (k ≠ 1) && (decide (ks ≠ [] ∨ as_ ≠ []))) && soundL 0 ks
def soundL (p : Int) : List Nd → Bool
  | [] => true
  | x :: l => soundN x && !(decide (x.kind = 2) && decide (p = 2)) && soundL x.kind l
end
theorem lastK_snoc (x : Nd) : ∀ (l : List Nd) (p : Int), lastK p (l ++ [x]) = x.kind
  | [], p => rfl
  | y :: l, p => lastK_snoc x l y.kind
theorem soundL_snoc (x : Nd) : ∀ (l : List Nd) (p : Int), soundL p (l ++ [x]) = (soundL p l && (soundN x && !(decide (x.kind = 2) && decide (lastK p l = 2))))
  | [], p => by simp [soundL, lastK]; rfl
  | y :: l, p => by
    simp only [List.cons_append, soundL, lastK]
    rw [soundL_snoc x l y.kind]
    simp only [Bool.and_assoc]
    rfl
theorem countL_snoc (l : List Nd) (x : Nd) : countL (l ++ [x]) = countL l + countN x := by
  rw [countL_append]; simp [countL]
theorem depthL_snoc (l : List Nd) (x : Nd) : depthL (l ++ [x]) = max (depthL l) (depthN x) := by
  rw [depthL_append]; simp [depthL]

def frOk : List Fr → Prop
  | [] => True
  | f :: F => nameR f.name = true ∧ soundL 0 f.kids = true ∧ depthL f.kids + (F.length + 1) ≤ 32 ∧ frOk F
def frT : List Fr → Nat
  | [] => 0
  | f :: F => 1 + f.attrs.length + countL f.kids + frT F
def cR (n : Nd) : Nat := if n.kind = 1 then countN n else 0
def total (s : St) : Nat := frT s.opn + cR s.root + s.before.length + s.after.length + (if s.text = [] then 0 else 1)
def misc (l : List Nd) : Prop := ∀ n ∈ l, n.kind = 3 ∨ n.kind = 4
structure Inv (s : St) : Prop where
  fr : frOk s.opn
  top : ∀ f F, s.opn = f :: F → lastK 0 f.kids ≠ 2
  bef : misc s.before
  aft : misc s.after
  tot : total s ≤ s.nodes
  max : s.nodes ≤ 4096
  len : s.opn.length ≤ 32
  out : s.opn = [] → s.text = []
  root : s.has = true → s.opn = [] → s.root.kind = 1 ∧ soundN s.root = true ∧ depthN s.root ≤ 32
  no : s.has = false → cR s.root = 0 ∧ s.opn = []
  opn : s.opn ≠ [] → cR s.root = 0
structure Inv' (s : St) : Prop where
  fr : frOk s.opn
  bef : misc s.before
  aft : misc s.after
  tot : total s ≤ s.nodes
  max : s.nodes ≤ 4096
  len : s.opn.length ≤ 32
  txt : s.text = []
  root : s.has = true → s.opn = [] → s.root.kind = 1 ∧ soundN s.root = true ∧ depthN s.root ≤ 32
  no : s.has = false → cR s.root = 0 ∧ s.opn = []
  opn : s.opn ≠ [] → cR s.root = 0
theorem text_sound {s : Tx} (h : s ≠ []) : soundN (textN s) = true := by
  unfold textN soundN
  simp [soundL, okKind, h]
theorem Inv.flush {s : St} (h : Inv s) : Inv' (flush s) := by
  unfold Xt.flush
  by_cases ht : s.text = []
  · rw [if_pos ht]
    exact ⟨h.fr, h.bef, h.aft, h.tot, h.max, h.len, ht, h.root, h.no, h.opn⟩
  · rw [if_neg ht]
    cases ho : s.opn with
    | nil => exact absurd (h.out ho) ht
    | cons f F =>
      have hf := h.fr
      have htot := h.tot
      have hlen := h.len
      have hopn := h.opn (by rw [ho]; simp)
      have hlast := h.top f F ho
      unfold total at htot
      rw [ho] at hf htot hlen
      obtain ⟨h1, h2, h3, h4⟩ := hf
      rw [if_neg ht] at htot
      simp only [frT] at htot
      unfold put
      rw [ho]
      simp only
      refine ⟨⟨h1, ?_, ?_, h4⟩, h.bef, h.aft, ?_, h.max, hlen, rfl, fun _ e => (by cases e), fun e => ⟨hopn, ?_⟩, fun _ => hopn⟩
      · show soundL 0 (f.kids ++ [textN s.text]) = true
        rw [soundL_snoc, h2, text_sound ht]
        simp [hlast]
      · show depthL (f.kids ++ [textN s.text]) + _ ≤ 32
        rw [depthL_snoc]
        have : depthN (textN s.text) = 0 := by unfold textN depthN; rw [if_neg (by decide)]
        omega
      · unfold total
        simp only [frT, if_true]
        have : countL (f.kids ++ [textN s.text]) = countL f.kids + 1 := by
          rw [countL_snoc]
          unfold textN countN
          simp [countL]
        rw [this]
        omega
      · have := (h.no e).2
        rw [ho] at this
        cases this
theorem el_sound {f : Fr} (h1 : nameR f.name = true) (h2 : soundL 0 f.kids = true) : soundN (.mk 1 f.name [] f.attrs f.kids) = true := by
  unfold soundN
  simp [okKind, h1, h2]
theorem Inv'.shut {s : St} {f : Fr} {F : List Fr} (h : Inv' s) (ho : s.opn = f :: F) (hh : s.has = true) : Inv (put { s with opn := F } (.mk 1 f.name [] f.attrs f.kids)) := by
  have hf := h.fr
  have htot := h.tot
  have hlen := h.len
  have hopn := h.opn (by rw [ho]; simp)
  unfold total at htot
  rw [ho] at hf htot hlen
  rw [if_pos h.txt] at htot
  simp only [frT] at htot
  obtain ⟨h1, h2, h3, h4⟩ := hf
  have hs := el_sound h1 h2
  have hd : depthN (.mk 1 f.name [] f.attrs f.kids) = depthL f.kids + 1 := by unfold depthN; rw [if_pos rfl]
  have hc : countN (.mk 1 f.name [] f.attrs f.kids) = 1 + f.attrs.length + countL f.kids := by unfold countN; rfl
  unfold put
  cases F with
  | nil =>
    simp only
    rw [if_pos (show (Nd.mk 1 f.name [] f.attrs f.kids).kind = 1 from rfl)]
    refine ⟨trivial, fun _ _ e => (by cases e), h.bef, h.aft, ?_, h.max, by simp, fun _ => h.txt, fun _ _ => ⟨rfl, hs, ?_⟩, fun e => (by cases e), fun e => absurd rfl e⟩
    · unfold total
      simp only [frT]
      rw [if_pos h.txt]
      have : cR (.mk 1 f.name [] f.attrs f.kids) = 1 + f.attrs.length + countL f.kids := by unfold cR; rw [if_pos (show (Nd.mk 1 f.name [] f.attrs f.kids).kind = 1 from rfl), hc]
      rw [this]
      simp only [frT] at htot
      omega
    · rw [hd]
      simp at h3
      omega
  | cons g G =>
    simp only
    obtain ⟨g1, g2, g3, g4⟩ := h4
    simp only [List.length_cons] at h3 hlen
    refine ⟨⟨g1, ?_, ?_, g4⟩, fun f' F' e => ?_, h.bef, h.aft, ?_, h.max, by simp only [List.length_cons]; omega, fun e => (by cases e), fun _ e => (by cases e), fun e => ?_, fun _ => hopn⟩
    · show soundL 0 (g.kids ++ [_]) = true
      rw [soundL_snoc, g2, hs]
      simp [Nd.kind]
    · show depthL (g.kids ++ [_]) + _ ≤ 32
      rw [depthL_snoc, hd]
      omega
    · injection e with e _
      rw [← e]
      show lastK 0 (g.kids ++ [_]) ≠ 2
      rw [lastK_snoc]
      show (1 : Int) ≠ 2
      decide
    · unfold total
      simp only [frT]
      rw [if_pos h.txt]
      have : countL (g.kids ++ [.mk 1 f.name [] f.attrs f.kids]) = countL g.kids + (1 + f.attrs.length + countL f.kids) := by rw [countL_snoc, hc]
      rw [this]
      simp only [frT] at htot
      omega
    · rw [hh] at e
      cases e
theorem Inv.endT {s : St} {f : Fr} {F : List Fr} (h : Inv s) (ho : s.opn = f :: F) (hh : s.has = true) : Inv (endT s) := by
  have h' := h.flush
  have hn := flush_opn s
  rw [ho] at hn
  cases hf : (Xt.flush s).opn with
  | nil => rw [hf] at hn; cases hn
  | cons g G =>
    rw [end_of hf]
    exact h'.shut hf ((flush_has s).trans hh)
theorem flush_total (s : St) (h : Inv s) : total (Xt.flush s) ≤ total s := by
  unfold Xt.flush
  by_cases ht : s.text = []
  · rw [if_pos ht]; exact Nat.le_refl _
  · rw [if_neg ht]
    cases ho : s.opn with
    | nil => exact absurd (h.out ho) ht
    | cons f F =>
      unfold put
      rw [ho]
      simp only
      unfold total
      rw [ho]
      simp only [frT, if_true]
      have : countL (f.kids ++ [textN s.text]) = countL f.kids + 1 := by
        rw [countL_snoc]
        unfold textN countN
        simp [countL]
      rw [this, if_neg ht]
      omega
def TokN (t : Tok) : Prop := t.kind = 1 ∨ t.kind = 2 → nameR t.name = true
theorem Inv.startT {s s' : St} {t : Tok} (h : Inv s) (hn : nameR t.name = true) (hs : startT s t = .ok s') : Inv s' ∧ s'.has = true ∧ ∃ f F, s'.opn = f :: F := by
  unfold Xt.startT at hs
  split at hs
  · cases hs
  · rename_i h1
    split at hs
    · cases hs
    · rename_i h2
      split at hs
      · cases hs
      · rename_i h3
        have h' := h.flush
        have ht := flush_total s h
        rw [flush_nodes'] at hs
        injection hs with hs
        subst hs
        have hno : (Xt.flush s).opn.length = s.opn.length := by
          have := congrArg List.length (flush_opn s)
          simpa using this
        have hhas := flush_has s
        have hnil : (Xt.flush s).opn = [] ↔ s.opn = [] := nil_of_names (flush_opn s)
        have htot := h.tot
        have hc : cR (Xt.flush s).root = 0 := by
          by_cases ho : s.opn = []
          · have : s.has = false := by
              cases hb : s.has with
              | false => rfl
              | true => exact absurd ⟨ho, hb⟩ h3
            exact (h'.no (hhas.trans this)).1
          · exact h'.opn (fun e => ho (hnil.1 e))
        refine ⟨⟨⟨hn, by simp [soundL], ?_, h'.fr⟩, fun f F e => ?_, h'.bef, h'.aft, ?_, by show s.nodes + _ ≤ 4096; omega, by show ((Xt.flush s).opn.length + 1) ≤ 32; omega, fun e => (by cases e), fun _ e => (by cases e), fun e => ?_, fun _ => hc⟩, ?_, _, _, rfl⟩
        · show depthL [] + ((Xt.flush s).opn.length + 1) ≤ 32
          simp [depthL]
          omega
        · injection e with e _
          rw [← e]
          show (0 : Int) ≠ 2
          decide
        · unfold total at ht ⊢
          simp only [frT]
          show 1 + t.attrs.length + countL [] + frT (Xt.flush s).opn + cR (Xt.flush s).root + (Xt.flush s).before.length + (Xt.flush s).after.length + (if (Xt.flush s).text = [] then 0 else 1) ≤ s.nodes + (1 + t.attrs.length)
          have : countL [] = 0 := rfl
          unfold total at htot
          omega
        · have e' : ((Xt.flush s).has || decide ((Xt.flush s).opn = [])) = false := e
          rw [Bool.or_eq_false_iff] at e'
          have := (h'.no e'.1).2
          exact absurd this (of_decide_eq_false e'.2)
        · show ((Xt.flush s).has || decide ((Xt.flush s).opn = [])) = true
          cases hb : s.has with
          | true => rw [hhas, hb]; rfl
          | false =>
            have := (h.no hb).2
            rw [decide_eq_true (hnil.2 this), Bool.or_true]
theorem Inv.otherT {s s' : St} {t : Tok} {k : Int} (h : Inv s) (hk : k = 3 ∨ k = 4) (hs : otherT s t k = .ok s') : Inv s' := by
  unfold Xt.otherT at hs
  split at hs
  · cases hs
  · rename_i h1
    have h' := h.flush
    have ht := flush_total s h
    have htot := h.tot
    rw [flush_nodes', put_setN] at hs
    injection hs with hs
    subst hs
    have hkk : (Nd.mk k t.name t.text [] []).kind = k := rfl
    have hc1 : countN (.mk k t.name t.text [] []) = 1 := by unfold countN; simp [countL]
    unfold put
    cases ho : (Xt.flush s).opn with
    | nil =>
      simp only
      rw [if_neg (by rw [hkk]; omega)]
      have hm : misc [Nd.mk k t.name t.text [] []] := fun n hn => by rw [List.mem_singleton.1 hn]; exact hk
      unfold total at ht htot
      rw [ho] at ht
      cases hb : (Xt.flush s).has with
      | true =>
        rw [if_pos rfl]
        refine ⟨trivial, fun f F e => (by cases e), h'.bef, fun n hn => ?_, ?_, by show s.nodes + 1 ≤ 4096; omega, Nat.zero_le _, fun _ => h'.txt, fun _ _ => h'.root hb ho, fun e1 => (by cases e1), fun e1 => absurd rfl e1⟩
        · rcases List.mem_append.1 hn with hn | hn
          · exact h'.aft n hn
          · exact hm n hn
        · unfold total
          show frT [] + cR (Xt.flush s).root + (Xt.flush s).before.length + ((Xt.flush s).after ++ [_]).length + (if (Xt.flush s).text = [] then 0 else 1) ≤ s.nodes + 1
          rw [List.length_append, List.length_singleton]
          omega
      | false =>
        rw [if_neg (by decide)]
        refine ⟨trivial, fun f F e => (by cases e), fun n hn => ?_, h'.aft, ?_, by show s.nodes + 1 ≤ 4096; omega, Nat.zero_le _, fun _ => h'.txt, fun e1 _ => (by cases e1), fun _ => ⟨(h'.no hb).1, rfl⟩, fun e1 => absurd rfl e1⟩
        · rcases List.mem_append.1 hn with hn | hn
          · exact h'.bef n hn
          · exact hm n hn
        · unfold total
          show frT [] + cR (Xt.flush s).root + ((Xt.flush s).before ++ [_]).length + (Xt.flush s).after.length + (if (Xt.flush s).text = [] then 0 else 1) ≤ s.nodes + 1
          rw [List.length_append, List.length_singleton]
          omega
    | cons f F =>
      simp only
      have hf := h'.fr
      have hlen := h'.len
      rw [ho] at hf hlen
      obtain ⟨f1, f2, f3, f4⟩ := hf
      have hopn := h'.opn (by rw [ho]; simp)
      have hso : soundN (.mk k t.name t.text [] []) = true := by
        unfold soundN
        rcases hk with rfl | rfl <;> simp [soundL, okKind]
      unfold total at ht htot
      rw [ho] at ht
      simp only [frT] at ht
      refine ⟨⟨f1, ?_, ?_, f4⟩, fun f' F' e => ?_, h'.bef, h'.aft, ?_, by show s.nodes + 1 ≤ 4096; omega, hlen, fun e => (by cases e), fun _ e => (by cases e), fun e => ⟨hopn, ?_⟩, fun _ => hopn⟩
      · show soundL 0 (f.kids ++ [_]) = true
        rw [soundL_snoc, f2, hso, hkk, decide_eq_false (by omega)]
        rfl
      · show depthL (f.kids ++ [_]) + _ ≤ 32
        rw [depthL_snoc]
        have : depthN (.mk k t.name t.text [] []) = 0 := by unfold depthN; rw [if_neg (by omega)]
        omega
      · have e2 : ({ f with kids := f.kids ++ [Nd.mk k t.name t.text [] []] } : Fr) :: F = f' :: F' := e
        injection e2 with e2 _
        rw [← e2]
        show lastK 0 (f.kids ++ [_]) ≠ 2
        rw [lastK_snoc, hkk]
        omega
      · unfold total
        show frT ({ f with kids := f.kids ++ [Nd.mk k t.name t.text [] []] } :: F) + cR (Xt.flush s).root + (Xt.flush s).before.length + (Xt.flush s).after.length + (if (Xt.flush s).text = [] then 0 else 1) ≤ s.nodes + 1
        simp only [frT]
        have : countL (f.kids ++ [.mk k t.name t.text [] []]) = countL f.kids + 1 := by rw [countL_snoc, hc1]
        rw [this]
        omega
      · have := (h'.no e).2
        rw [ho] at this
        cases this
theorem Inv.charsT {s s' : St} {t : Tok} (h : Inv s) (hs : charsT s t = .ok s') : Inv s' := by
  unfold Xt.charsT at hs
  split at hs
  · split at hs
    · cases hs
    · injection hs with hs
      rw [← hs]
      exact h
  · rename_i h0
    have htot := h.tot
    unfold total at htot
    split at hs
    · rename_i h1
      split at hs
      · cases hs
      · rename_i h2
        injection hs with hs
        subst hs
        refine ⟨h.fr, h.top, h.bef, h.aft, ?_, by show s.nodes + 1 ≤ 4096; omega, h.len, fun e => absurd e h0, h.root, h.no, h.opn⟩
        unfold total
        show frT s.opn + cR s.root + s.before.length + s.after.length + (if s.text ++ t.text = [] then 0 else 1) ≤ s.nodes + 1
        rw [if_pos h1.1] at htot
        split <;> omega
    · rename_i h1
      injection hs with hs
      subst hs
      refine ⟨h.fr, h.top, h.bef, h.aft, ?_, h.max, h.len, fun e => absurd e h0, h.root, h.no, h.opn⟩
      unfold total
      show frT s.opn + cR s.root + s.before.length + s.after.length + (if s.text ++ t.text = [] then 0 else 1) ≤ s.nodes
      by_cases ht : s.text = []
      · have ht2 : t.text = [] := Classical.byContradiction fun e => h1 ⟨ht, e⟩
        rw [ht, ht2]
        rw [if_pos ht] at htot
        simpa using htot
      · rw [if_neg ht] at htot
        split <;> omega
theorem Inv.stepT {s s' : St} {t : Tok} (h : Inv s) (hn : TokN t) (hs : stepT s t = .ok s') : Inv s' := by
  unfold Xt.stepT at hs
  split at hs
  · rename_i k1
    exact (h.startT (hn (.inl k1)) hs).1
  · split at hs
    · rename_i k2
      cases hst : Xt.startT s t with
      | error e => rw [hst] at hs; cases hs
      | ok s2 =>
        rw [hst] at hs
        injection hs with hs
        obtain ⟨g1, g2, f, F, g3⟩ := h.startT (hn (.inr k2)) hst
        rw [← hs]
        exact g1.endT g3 g2
    · split at hs
      · split at hs
        · cases hs
        · rename_i f F ho
          split at hs
          · injection hs with hs
            rw [← hs]
            refine h.endT ho ?_
            cases hb : s.has with
            | true => rfl
            | false => have := (h.no hb).2; rw [ho] at this; cases this
          · cases hs
      · split at hs
        · exact h.otherT (.inl rfl) hs
        · split at hs
          · exact h.otherT (.inr rfl) hs
          · exact h.charsT hs
end Go.Proofs.YtokdnhdfmgfkeaaGreatDoor.Xt
end

section
namespace Go.Proofs.YtokdnhdfmgfkeaaGreatDoor.Xl
open Go.RowKit UtfW

section
variable {r : Tx} {t : Tok} {n M : Nat}
end
end Go.Proofs.YtokdnhdfmgfkeaaGreatDoor.Xl
end

section
namespace Go.Proofs.YtokdnhdfmgfkeaaGreatDoor.Xo
open Go.RowKit UtfW Qx Xl Xt

/-! ### Tokens -/
structure TokF (t : Xl.Tok) : Prop where
  tag : t.kind = 1 ∨ t.kind = 2 → attrsOk [] t.attrs = true
  text : V t.text
  co : t.kind = 6 → t.name = [] ∧ plainT t.text = true ∧ find [45, 45] t.text = none ∧ t.text.getLast? ≠ some 45
  pi : t.kind = 7 → nameR t.name = true ∧ t.name.map low ≠ xml3 ∧ plainT t.text = true ∧ find [63, 62] t.text = none ∧ headOk t.text = true
/-! ### The builder -/
mutual
def okN : Nd → Bool
  | .mk k nm tx as_ ks =>
    if k = 1 then attrsOk [] as_ && okL ks
    else as_.isEmpty && ks.isEmpty && (if k = 2 then decide (nm = []) && good tx
      else if k = 3 then decide (nm = []) && plainT tx && (find [45, 45] tx).isNone && decide (tx.getLast? ≠ some 45)
      else if k = 4 then nameR nm && decide (nm.map low ≠ xml3) && plainT tx && (find [63, 62] tx).isNone && headOk tx
      else true)
def okL : List Nd → Bool
  | [] => true
  | x :: xs => okN x && okL xs
end
theorem okL_snoc (x : Nd) : ∀ l : List Nd, okL (l ++ [x]) = (okL l && okN x)
  | [] => by simp [okL]
  | y :: l => by rw [List.cons_append, okL, okL, okL_snoc x l, Bool.and_assoc]
structure Ok2 (s : St) : Prop where
  bef : okL s.before = true
  aft : okL s.after = true
  root : okN s.root = true
  fr : ∀ f ∈ s.opn, attrsOk [] f.attrs = true ∧ okL f.kids = true
  text : V s.text
theorem Ok2.put {s : St} {n : Nd} (h : Ok2 s) (hn : okN n = true) : Ok2 (Xt.put s n) := by
  unfold Xt.put
  split
  · rename_i f F ho
    refine ⟨h.bef, h.aft, h.root, fun g hg => ?_, h.text⟩
    rcases List.mem_cons.1 hg with rfl | hg
    · have := h.fr f (by rw [ho]; exact List.mem_cons_self ..)
      exact ⟨this.1, by simp only; rw [okL_snoc, this.2, hn]; rfl⟩
    · exact h.fr g (by rw [ho]; exact List.mem_cons_of_mem _ hg)
  · split
    · exact ⟨h.bef, h.aft, hn, h.fr, h.text⟩
    · split
      · exact ⟨h.bef, by simp only; rw [okL_snoc, h.aft, hn]; rfl, h.root, h.fr, h.text⟩
      · exact ⟨by simp only; rw [okL_snoc, h.bef, hn]; rfl, h.aft, h.root, h.fr, h.text⟩
theorem Ok2.flush {s : St} (h : Ok2 s) : Ok2 (Xt.flush s) := by
  unfold Xt.flush
  split
  · exact h
  · have := h.put (n := textN s.text) (by unfold textN; rw [okN]; simp [V_good h.text])
    exact ⟨this.bef, this.aft, this.root, this.fr, V.nil⟩
theorem Ok2.nodes {s : St} (h : Ok2 s) (n : Nat) : Ok2 { s with nodes := n } := ⟨h.bef, h.aft, h.root, h.fr, h.text⟩
theorem Ok2.startT {s s' : St} {t : Xl.Tok} (h : Ok2 s) (ha : attrsOk [] t.attrs = true) (hs : startT s t = .ok s') : Ok2 s' := by
  unfold Xt.startT at hs
  split at hs
  · cases hs
  · split at hs
    · cases hs
    · split at hs
      · cases hs
      · injection hs with hs
        subst hs
        have h2 := (h.nodes (s.nodes + (1 + t.attrs.length))).flush
        refine ⟨h2.bef, h2.aft, h2.root, fun g hg => ?_, h2.text⟩
        rcases List.mem_cons.1 hg with rfl | hg
        · exact ⟨ha, rfl⟩
        · exact h2.fr g hg
theorem Ok2.endT {s : St} (h : Ok2 s) : Ok2 (Xt.endT s) := by
  unfold Xt.endT
  have h2 := h.flush
  simp only
  split
  · rename_i f F ho
    have hf := h2.fr f (by rw [ho]; exact List.mem_cons_self ..)
    have h3 : Ok2 { Xt.flush s with opn := F } := ⟨h2.bef, h2.aft, h2.root, fun g hg => h2.fr g (by rw [ho]; exact List.mem_cons_of_mem _ hg), h2.text⟩
    exact h3.put (by rw [okN, if_pos rfl, hf.1, hf.2]; rfl)
  · exact h2
theorem Ok2.stepT {s s' : St} {t : Xl.Tok} (h : Ok2 s) (hk : 1 ≤ t.kind ∧ t.kind ≤ 7) (hF : TokF t) (hs : Xt.stepT s t = .ok s') : Ok2 s' := by
  unfold Xt.stepT at hs
  split at hs
  · rename_i k1
    exact h.startT (hF.tag (.inl k1)) hs
  · split at hs
    · rename_i k2
      cases h1 : Xt.startT s t with
      | error e => rw [h1] at hs; cases hs
      | ok s1 =>
        rw [h1] at hs
        injection hs with hs
        subst hs
        exact (h.startT (hF.tag (.inr k2)) h1).endT
    · split at hs
      · split at hs
        · cases hs
        · split at hs
          · injection hs with hs
            subst hs
            exact h.endT
          · cases hs
      · have other : ∀ k : Int, okN (.mk k t.name t.text [] []) = true → otherT s t k = .ok s' → Ok2 s' := fun k hn hs => by
          unfold otherT at hs
          split at hs
          · cases hs
          · injection hs with hs
            subst hs
            exact ((h.nodes (s.nodes + 1)).flush).put hn
        split at hs
        · rename_i k6
          obtain ⟨e1, e2, e3, e4⟩ := hF.co k6
          exact other 3 (by rw [okN]; simp [e1, e2, e3, e4]) hs
        · split at hs
          · rename_i k7
            obtain ⟨e1, e2, e3, e4, e5⟩ := hF.pi k7
            exact other 4 (by rw [okN]; simp [e1, e2, e3, e4, e5]) hs
          · unfold charsT at hs
            have hV := h.text.append hF.text
            split at hs
            · split at hs
              · cases hs
              · injection hs with hs
                subst hs
                exact h
            · split at hs
              · split at hs
                · cases hs
                · injection hs with hs
                  subst hs
                  exact ⟨h.bef, h.aft, h.root, h.fr, hV⟩
              · injection hs with hs
                subst hs
                exact ⟨h.bef, h.aft, h.root, h.fr, hV⟩
end Go.Proofs.YtokdnhdfmgfkeaaGreatDoor.Xo
end

section
namespace Go.Proofs.YtokdnhdfmgfkeaaGreatDoor.Xo
open Go.RowKit UtfW Qx Xl Xt

def cost (t : Xl.Tok) : Nat :=
  if t.kind = 1 then t.name.length + (writeA t.attrs).length + 2
  else if t.kind = 2 then t.name.length + (writeA t.attrs).length + 3
  else if t.kind = 3 then t.name.length + 3
  else if t.kind = 6 then t.text.length + 7
  else if t.kind = 7 then t.name.length + t.text.length + 5
  else (esc false t.text).length
def costs : List Xl.Tok → Nat
  | [] => 0
  | t :: l => cost t + costs l
theorem costs_snoc (t : Xl.Tok) : ∀ l, costs (l ++ [t]) = costs l + cost t
  | [] => by simp [costs]
  | x :: l => by rw [List.cons_append, costs, costs, costs_snoc t l]; omega
/-! ### The builder -/
def phiF : List Fr → Nat
  | [] => 0
  | f :: F => f.name.length + (writeA f.attrs).length + 2 + (writeL f.kids).length + phiF F
def phi (s : St) : Nat := (writeL s.before).length + (writeL s.after).length + (writeN s.root).length + phiF s.opn + (esc false s.text).length
theorem writeL_snoc (x : Nd) : ∀ l : List Nd, writeL (l ++ [x]) = writeL l ++ writeN x
  | [] => by rw [List.nil_append, writeL, writeL, writeL]; simp
  | y :: l => by rw [List.cons_append, writeL, writeL, writeL_snoc x l, List.append_assoc]
theorem phi_put (s : St) (n : Nd) : phi (put s n) ≤ phi s + (writeN n).length := by
  unfold put
  split
  · rename_i f F ho
    unfold phi
    simp only
    rw [ho, phiF, phiF]
    simp only
    rw [writeL_snoc, List.length_append]
    omega
  · split
    · unfold phi
      simp only
      omega
    · split
      · unfold phi
        simp only
        rw [writeL_snoc, List.length_append]
        omega
      · unfold phi
        simp only
        rw [writeL_snoc, List.length_append]
        omega
theorem phi_text (s : St) : phi { s with text := [] } + (esc false s.text).length = phi s := by
  unfold phi
  simp only
  have : esc false [] = [] := rfl
  rw [this]
  simp
theorem phi_flush (s : St) : phi (flush s) ≤ phi s := by
  unfold flush
  split
  · exact Nat.le_refl _
  · have h1 := phi_put s (textN s.text)
    have h2 := phi_text (put s (textN s.text))
    rw [put_text] at h2
    have h3 : writeN (textN s.text) = esc false s.text := by
      unfold textN
      rw [writeN, if_neg (by decide), if_pos rfl]
    rw [h3] at h1
    exact Nat.le_of_add_le_add_right (b := (esc false s.text).length) (Nat.le_trans (Nat.le_of_eq h2) h1)
theorem phi_start {s s' : St} {t : Xl.Tok} (h : startT s t = .ok s') : phi s' ≤ phi s + (t.name.length + (writeA t.attrs).length + 2) ∧ ∃ F, s'.opn = ⟨t.name, t.attrs, []⟩ :: F ∧ s'.text = [] := by
  unfold startT at h
  split at h
  · cases h
  · split at h
    · cases h
    · split at h
      · cases h
      · injection h with h
        subst h
        have h1 : phi (flush { s with nodes := s.nodes + (1 + t.attrs.length) }) ≤ phi s := phi_flush { s with nodes := s.nodes + (1 + t.attrs.length) }
        refine ⟨?_, _, rfl, flush_text _⟩
        unfold phi at h1 ⊢
        simp only at h1 ⊢
        rw [phiF]
        simp only
        have : writeL [] = [] := by rw [writeL]
        rw [this, List.length_nil]
        omega
theorem phi_end {s : St} {f : Fr} {F : List Fr} (h : (flush s).opn = f :: F) : phi (Xt.endT s) ≤ phi s + (f.name.length + 3) ∧ (f.kids = [] → phi (Xt.endT s) ≤ phi s + 1) := by
  have h1 := phi_flush s
  have h2 := phi_put ⟨(flush s).before, (flush s).root, (flush s).has, (flush s).after, F, (flush s).text, (flush s).nodes⟩ (.mk 1 f.name [] f.attrs f.kids)
  have h3 : phi ⟨(flush s).before, (flush s).root, (flush s).has, (flush s).after, F, (flush s).text, (flush s).nodes⟩ + (f.name.length + (writeA f.attrs).length + 2 + (writeL f.kids).length) = phi (flush s) := by
    unfold phi
    simp only
    rw [h, phiF]
    omega
  have h4 : Xt.endT s = put ⟨(flush s).before, (flush s).root, (flush s).has, (flush s).after, F, (flush s).text, (flush s).nodes⟩ (.mk 1 f.name [] f.attrs f.kids) := end_of h
  rw [h4]
  rw [writeN, if_pos rfl] at h2
  constructor
  · by_cases he : f.kids.isEmpty = true
    · rw [if_pos he] at h2
      simp at h2
      omega
    · rw [if_neg he] at h2
      simp at h2
      omega
  · intro hk
    rw [hk] at h2 h3
    have e0 : writeL [] = [] := by rw [writeL]
    rw [e0] at h3
    simp at h2 h3
    rw [hk]
    omega
theorem phi_step {s s' : St} {t : Xl.Tok} (hk : 1 ≤ t.kind ∧ t.kind ≤ 7) (h : Xt.stepT s t = .ok s') : phi s' ≤ phi s + cost t := by
  unfold Xt.stepT at h
  unfold cost
  split at h
  · rename_i k1
    rw [if_pos k1]
    exact (phi_start h).1
  · rename_i k1
    rw [if_neg k1]
    split at h
    · rename_i k2
      rw [if_pos k2]
      cases h1 : startT s t with
      | error e => rw [h1] at h; cases h
      | ok s1 =>
        rw [h1] at h
        injection h with h
        subst h
        obtain ⟨g1, F, g2, g3⟩ := phi_start h1
        have g4 := (phi_end (s := s1) (f := ⟨t.name, t.attrs, []⟩) (F := F) (by rw [flush_id g3]; exact g2)).2 rfl
        omega
    · rename_i k2
      rw [if_neg k2]
      split at h
      · rename_i k3
        rw [if_pos k3]
        split at h
        · cases h
        · rename_i f F ho
          split at h
          · rename_i hn
            injection h with h
            subst h
            have hm := flush_opn s
            rw [ho, List.map_cons] at hm
            cases hf : (flush s).opn with
            | nil => rw [hf] at hm; cases hm
            | cons g G =>
              rw [hf, List.map_cons] at hm
              injection hm with hm _
              have := (phi_end hf).1
              rw [hm, hn] at this
              exact this
          · cases h
      · rename_i k3
        rw [if_neg k3]
        have other : ∀ k : Int, otherT s t k = .ok s' → phi s' ≤ phi s + (writeN (.mk k t.name t.text [] [])).length := fun k h => by
          unfold otherT at h
          split at h
          · cases h
          · injection h with h
            subst h
            have h1 : phi (flush { s with nodes := s.nodes + 1 }) ≤ phi s := phi_flush { s with nodes := s.nodes + 1 }
            exact Nat.le_trans (phi_put (flush { s with nodes := s.nodes + 1 }) (.mk k t.name t.text [] [])) (Nat.add_le_add_right h1 _)
        split at h
        · rename_i k6
          rw [if_pos k6]
          have := other 3 h
          rw [writeN] at this
          simp at this
          omega
        · rename_i k6
          rw [if_neg k6]
          split at h
          · rename_i k7
            rw [if_pos k7]
            have := other 4 h
            rw [writeN] at this
            simp at this
            split at this <;> simp at this <;> omega
          · rename_i k7
            rw [if_neg k7]
            unfold charsT at h
            have he := congrArg List.length (esc_append false s.text t.text)
            rw [List.length_append] at he
            have hph : ∀ n : Nat, phi { s with nodes := n, text := s.text ++ t.text } ≤ phi s + (esc false t.text).length := fun n => by
              unfold phi
              simp only
              omega
            split at h
            · split at h
              · cases h
              · injection h with h
                subst h
                omega
            · split at h
              · split at h
                · cases h
                · injection h with h
                  subst h
                  exact hph _
              · injection h with h
                subst h
                exact hph _
/-! ### Altogether -/
def TokP (t : Xl.Tok) : Prop := (1 ≤ t.kind ∧ t.kind ≤ 7) ∧ TokF t ∧ TokN t
end Go.Proofs.YtokdnhdfmgfkeaaGreatDoor.Xo
end
