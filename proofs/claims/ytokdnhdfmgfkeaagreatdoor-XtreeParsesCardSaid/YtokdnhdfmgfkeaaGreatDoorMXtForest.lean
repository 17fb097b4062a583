/- The builder's tree is the document's forest. No program stands here. -/
import Derived.Test.YtokdnhdfmgfkeaaGreatDoorMXlValues
import Derived.Test.YtokdnhdfmgfkeaaGreatDoorMXnP
section
namespace Go.Proofs.YtokdnhdfmgfkeaaGreatDoor.Xo
open Go.RowKit UtfW Qx Xl Xt
def esc1 (value : Bool) (c : UInt8) : Tx :=
 if c = 38 then [38, 97, 109, 112, 59]
 else if c = 60 then [38, 108, 116, 59]
 else if c = 13 then [38, 35, 49, 51, 59]
 else if c = 62 /\ value = false then [38, 103, 116, 59]
 else if c = 34 /\ value = true then [38, 113, 117, 111, 116, 59]
 else if c = 9 /\ value = true then [38, 35, 57, 59]
 else if c = 10 /\ value = true then [38, 35, 49, 48, 59]
 else [c]
def esc (value : Bool) : Tx -> Tx
 | [] => []
 | c :: s => esc1 value c ++ esc value s
def writeA : List At -> Tx
 | [] => []
 | a :: l => (32 :: a.1 ++ [61, 34] ++ esc true a.2 ++ [34]) ++ writeA l
mutual
def writeN : Nd -> Tx
 | .mk k nm tx as_ ks =>
  if k = 1 then 60 :: nm ++ writeA as_ ++ (if ks.isEmpty then [47, 62] else [62] ++ writeL ks ++ ([60, 47] ++ nm ++ [62]))
  else if k = 2 then esc false tx
  else if k = 3 then [60, 33, 45, 45] ++ tx ++ [45, 45, 62]
  else if k = 4 then [60, 63] ++ nm ++ (if tx = [] then [] else 32 :: tx) ++ [63, 62]
  else []
def writeL : List Nd -> Tx
 | [] => []
 | x :: xs => writeN x ++ writeL xs
end
/-! ### Which may be -/
def good (s : Tx) : Bool := decide (badW s 0 < 0)
def plainT (s : Tx) : Bool := good s && decide (13 ∉ s)
def attrsOk : List Tx -> List At -> Bool
 | _, [] => true
 | seen, a :: l => nameR a.1 && good a.2 && decide (a.1 ∉ seen) && attrsOk (seen ++ [a.1]) l
def headOk (s : Tx) : Bool := match s with
 | [] => true
 | c :: _ => !Qx.blank c
def xml3 : Tx := [120, 109, 108]
/-! ### What is good is valid -/
theorem V_good {s : Tx} (h : V s) : good s = true := by
 unfold good;rw [decide_eq_true_eq];obtain ⟨rs, hr, rfl⟩ := h;have h1 := runesW_E (E rs) rs 0 hr (by rw [List.drop_zero]);have h2 := bad_of_runes (E rs) (E rs).length 0 rs (by omega) h1;rw [h2]
 decide
end Go.Proofs.YtokdnhdfmgfkeaaGreatDoor.Xo
end

section
namespace Go.Proofs.YtokdnhdfmgfkeaaGreatDoor.Xl
open Go.RowKit UtfW Qx
/-! ### Names -/
/-! ### Values, characters -/
/-! ### Tags -/
/-! ### All tokens -/
/-! ### What is wrong has a code -/
end Go.Proofs.YtokdnhdfmgfkeaaGreatDoor.Xl
end

section
namespace Go.Proofs.YtokdnhdfmgfkeaaGreatDoor.Xo
open Go.RowKit UtfW Qx Xl Xt
/-! ### Names -/
/-! ### Characters -/
theorem esc1_cases (value : Bool) (c : UInt8) :
  (esc1 value c = [c] /\ c ≠ 38 /\ c ≠ 60 /\ c ≠ 13 /\ (value = false -> c ≠ 62) /\ (value = true -> c ≠ 34 /\ c ≠ 9 /\ c ≠ 10)) ∨
  ∃ e, esc1 value c = 38 :: e /\ (∀ y, refR (e ++ y) = .ok [c] (e.length + 1)) /\ 62 ∉ e /\ (∀ b ∈ e, b.toNat < 128 /\ Utf.Char (b.toNat : Nat) = true) /\ e.length <= 5 := by
 have key : ∀ (x : Tx) (v : Nat) (c : UInt8), 59 ∉ x -> refV x = some v -> encB (v : Nat) = [c] -> ∀ y, refR (x ++ [59] ++ y) = .ok [c] ((x ++ [59]).length + 1) := fun x v c h1 h2 h3 y => by
  rw [List.append_assoc, List.singleton_append, refR_of h1 y, h2];simp only;rw [h3, List.length_append];rfl
 unfold esc1
 by_cases h1 : c = 38
 ·rw [if_pos h1, h1];exact .inr ⟨_, rfl, key [97, 109, 112] 38 38 (by decide) (by decide) (encB_byte (c := 38) (by decide)), by decide, by decide, by decide⟩
 rw [if_neg h1]
 by_cases h2 : c = 60
 ·rw [if_pos h2, h2];exact .inr ⟨_, rfl, key [108, 116] 60 60 (by decide) (by decide) (encB_byte (c := 60) (by decide)), by decide, by decide, by decide⟩
 rw [if_neg h2]
 by_cases h3 : c = 13
 ·rw [if_pos h3, h3];exact .inr ⟨_, rfl, key [35, 49, 51] 13 13 (by decide) (by decide +kernel) (encB_byte (c := 13) (by decide)), by decide, by decide, by decide⟩
 rw [if_neg h3]
 by_cases h4 : c = 62 /\ value = false
 ·rw [if_pos h4, h4.1];exact .inr ⟨_, rfl, key [103, 116] 62 62 (by decide) (by decide) (encB_byte (c := 62) (by decide)), by decide, by decide, by decide⟩
 rw [if_neg h4]
 by_cases h5 : c = 34 /\ value = true
 ·rw [if_pos h5, h5.1];exact .inr ⟨_, rfl, key [113, 117, 111, 116] 34 34 (by decide) (by decide) (encB_byte (c := 34) (by decide)), by decide, by decide, by decide⟩
 rw [if_neg h5]
 by_cases h6 : c = 9 /\ value = true
 ·rw [if_pos h6, h6.1];exact .inr ⟨_, rfl, key [35, 57] 9 9 (by decide) (by decide +kernel) (encB_byte (c := 9) (by decide)), by decide, by decide, by decide⟩
 rw [if_neg h6]
 by_cases h7 : c = 10 /\ value = true
 ·rw [if_pos h7, h7.1];exact .inr ⟨_, rfl, key [35, 49, 48] 10 10 (by decide) (by decide +kernel) (encB_byte (c := 10) (by decide)), by decide, by decide, by decide⟩
 rw [if_neg h7];exact .inl ⟨rfl, h1, h2, h3, fun hv e => h4 ⟨e, hv⟩, fun hv => ⟨fun e => h5 ⟨e, hv⟩, fun e => h6 ⟨e, hv⟩, fun e => h7 ⟨e, hv⟩⟩⟩
/-! ### Attributes -/
theorem writeA_len : ∀ l : List At, l.length <= (writeA l).length
 | [] => by simp
 | a :: l => by
  have := writeA_len l;rw [writeA];simp;omega
end Go.Proofs.YtokdnhdfmgfkeaaGreatDoor.Xo
end

section
namespace Go.Proofs.YtokdnhdfmgfkeaaGreatDoor.Xo
open Go.RowKit UtfW Qx Xl Xt
/-! ### Trees as tokens -/
end Go.Proofs.YtokdnhdfmgfkeaaGreatDoor.Xo
end

section
namespace Go.Proofs.YtokdnhdfmgfkeaaGreatDoor.Xo
open Go.RowKit UtfW Qx Xl Xt
/-! ### What is written is valid -/
theorem esc_append (value : Bool) : ∀ a b : Tx, esc value (a ++ b) = esc value a ++ esc value b
 | [], b => rfl
 | c :: a, b => by rw [List.cons_append, esc, esc, esc_append value a b, List.append_assoc]
/-! ### No declaration -/
/-! ### The builder -/
section
variable {B A : List Nd} {R : Nd} {nm : Tx} {as_ : List At} {kk : List Nd} {F : List Fr} {p : Tx} {N : Nat}
def fl (kk : List Nd) (p : Tx) : List Nd := if p = [] then kk else kk ++ [textN p]
end
end Go.Proofs.YtokdnhdfmgfkeaaGreatDoor.Xo
end

section
namespace Go.Proofs.YtokdnhdfmgfkeaaGreatDoor.Xt
open Xl
def isCh (t : Tok) : Bool := t.kind == 4 || t.kind == 5
def span_ : List Tok -> Tx × List Tok
 | [] => ([], [])
 | t :: r => if isCh t = true then (t.text ++ (span_ r).1, (span_ r).2) else ([], t :: r)
def kidsF : Nat -> List Tok -> List Nd × List Tok
 | 0, l => ([], l)
 | _ + 1, [] => ([], [])
 | f + 1, t :: r =>
  if t.kind = 3 then ([], t :: r)
  else if t.kind = 1 then (.mk 1 t.name [] t.attrs (kidsF f r).1 :: (kidsF f ((kidsF f r).2.drop 1)).1, (kidsF f ((kidsF f r).2.drop 1)).2)
  else if t.kind = 2 then (.mk 1 t.name [] t.attrs [] :: (kidsF f r).1, (kidsF f r).2)
  else if t.kind = 6 then (.mk 3 [] t.text [] [] :: (kidsF f r).1, (kidsF f r).2)
  else if t.kind = 7 then (.mk 4 t.name t.text [] [] :: (kidsF f r).1, (kidsF f r).2)
  else (if (span_ (t :: r)).1 = [] then (kidsF f (span_ (t :: r)).2).1 else textN (span_ (t :: r)).1 :: (kidsF f (span_ (t :: r)).2).1, (kidsF f (span_ (t :: r)).2).2)
def Ok (l : List Tok) : Prop := ∀ t ∈ l, (1 <= t.kind /\ t.kind <= 7) /\ (t.kind = 6 -> t.name = [])
theorem Ok.tail {t : Tok} {l : List Tok} (h : Ok (t :: l)) : Ok l := fun x hx => h x (List.mem_cons_of_mem _ hx)
theorem span_len : ∀ l, (span_ l).2.length <= l.length
 | [] => Nat.le_refl _
 | t :: r => by
  rw [span_]
  split
  ·have := span_len r;simp;omega
  ·exact Nat.le_refl _
theorem span_sub : ∀ l, ∀ t ∈ (span_ l).2, t ∈ l
 | [], t, h => h
 | x :: r, t, h => by
  rw [span_] at h
  split at h
  ·exact List.mem_cons_of_mem _ (span_sub r t h)
  ·exact h
theorem span_head : ∀ l t, (span_ l).2.head? = some t -> isCh t = false
 | [], t, h => by cases h
 | x :: r, t, h => by
  rw [span_] at h
  split at h
  ·exact span_head r t h
  ·rename_i hc
   injection h with h;subst h
   simpa using hc
theorem kids_len : ∀ f l, (kidsF f l).2.length <= l.length
 | 0, l => Nat.le_refl _
 | f + 1, [] => Nat.le_refl _
 | f + 1, t :: r => by
  rw [kidsF];have h1 := kids_len f r;have h2 := kids_len f ((kidsF f r).2.drop 1);have h3 := kids_len f (span_ (t :: r)).2;have h4 := span_len (t :: r);rw [List.length_drop] at h2;simp only [List.length_cons] at h4 ⊢
  split
  ·simp
  ·split
   ·simp only; omega
   ·split
    ·simp only; omega
    ·split
     ·simp only; omega
     ·split
      ·simp only; omega
      ·simp only; omega
theorem kids_sub : ∀ f l, ∀ t ∈ (kidsF f l).2, t ∈ l
 | 0, l, t, h => h
 | f + 1, [], t, h => h
 | f + 1, x :: r, t, h => by
  rw [kidsF] at h
  split at h
  ·exact h
  ·split at h
   ·exact List.mem_cons_of_mem _ (kids_sub f r t (List.mem_of_mem_drop (kids_sub f _ t h)))
   ·split at h
    ·exact List.mem_cons_of_mem _ (kids_sub f r t h)
    ·split at h
     ·exact List.mem_cons_of_mem _ (kids_sub f r t h)
     ·split at h
      ·exact List.mem_cons_of_mem _ (kids_sub f r t h)
      ·exact span_sub _ t (kids_sub f _ t h)
theorem flush_id {s : St} (h : s.text = []) : flush s = s := by
 unfold flush;rw [if_pos h]
theorem flush_flush (s : St) : flush (flush s) = flush s := flush_id (flush_text s)
def St.setN (s : St) (n : Nat) : St := { s with nodes := n }
theorem flush_setN (s : St) (n : Nat) : flush (s.setN n) = (flush s).setN n := by
 unfold flush St.setN;simp only
 split
 ·rfl
 ·unfold put
  cases h : s.opn with
  | nil =>
   simp only
   split
   ·rfl
   ·split <;> rfl
  | cons f F => rfl
theorem flush_nodes' (s : St) (n : Nat) : flush { s with nodes := n } = (flush s).setN n := flush_setN s n
theorem step_flush {s : St} {t : Tok} (h : isCh t = false) (hk : 1 <= t.kind /\ t.kind <= 7) : stepT (flush s) t = stepT s t := by
 have hk4 : t.kind ≠ 4 /\ t.kind ≠ 5 := by
  unfold isCh at h;simp at h;exact h
 have hl : (flush s).opn.length = s.opn.length := by
  have := congrArg List.length (flush_opn s)
  simpa using this
 have hn := nil_of_names (flush_opn s);have kk : ∀ n, flush ((flush s).setN n) = flush (s.setN n) := fun n => by rw [flush_setN, flush_setN, flush_flush]
 have st : startT (flush s) t = startT s t := by
  have k := kk (s.nodes + (1 + t.attrs.length));unfold St.setN at k;simp only [flush_has] at k;unfold startT;simp only [hl, flush_nodes, flush_has, hn];rw [k]
 have en : endT (flush s) = endT s := by
  unfold endT;rw [flush_flush]
 have ot : ∀ k, otherT (flush s) t k = otherT s t k := fun k => by
  have k0 := kk (s.nodes + 1);unfold St.setN at k0;unfold otherT;simp only [flush_nodes];rw [k0]
 unfold stepT;rw [st, en, ot, ot]
 by_cases k1 : t.kind = 1
 ·rw [if_pos k1, if_pos k1]
 ·rw [if_neg k1, if_neg k1]
  by_cases k2 : t.kind = 2
  ·rw [if_pos k2, if_pos k2]
  ·rw [if_neg k2, if_neg k2]
   by_cases k3 : t.kind = 3
   ·rw [if_pos k3, if_pos k3];have hm := flush_opn s
    cases ho : s.opn with
    | nil => rw [hn.2 ho]
    | cons f F =>
     cases hf : (flush s).opn with
     | nil => rw [hn.1 hf] at ho; cases ho
     | cons g G =>
      rw [ho, hf, List.map_cons, List.map_cons] at hm;injection hm with hm _;simp only;rw [hm]
   ·rw [if_neg k3, if_neg k3]
    by_cases k6 : t.kind = 6
    ·rw [if_pos k6, if_pos k6]
    ·rw [if_neg k6, if_neg k6]
     by_cases k7 : t.kind = 7
     ·rw [if_pos k7, if_pos k7]
     ·omega
theorem run_span : ∀ (l : List Tok) {s sf : St}, Ok l -> s.opn ≠ [] -> runT l s = .ok sf -> ∃ n, runT (span_ l).2 { s with text := s.text ++ (span_ l).1, nodes := n } = .ok sf
 | [], s, sf, _, _, h => ⟨s.nodes, by
  rw [span_, List.append_nil]
  exact h⟩
 | t :: r, s, sf, hk, ho, h => by
  rw [span_]
  split
  ·rename_i hc
   rw [runT] at h
   have hst : ∃ n, stepT s t = .ok { s with text := s.text ++ t.text, nodes := n } \/ ∃ e, stepT s t = .error e := by
    have k4 : t.kind = 4 \/ t.kind = 5 := by
     unfold isCh at hc
     simpa using hc
    unfold stepT;rw [if_neg (by omega), if_neg (by omega), if_neg (by omega), if_neg (by omega), if_neg (by omega)];unfold charsT;rw [if_neg ho]
    split
    ·split
     ·exact ⟨0, .inr ⟨_, rfl⟩⟩
     ·exact ⟨_, .inl rfl⟩
    ·exact ⟨s.nodes, .inl rfl⟩
   obtain ⟨n, hst | ⟨e, hst⟩⟩ := hst
   ·rw [hst] at h;obtain ⟨m, hm⟩ := run_span r hk.tail (s := { s with text := s.text ++ t.text, nodes := n }) ho h;refine ⟨m, ?_⟩;rw [<- hm];simp only [List.append_assoc]
   ·rw [hst] at h;cases h
  ·refine ⟨s.nodes, ?_⟩;rw [List.append_nil];exact h
theorem run_span0 : ∀ (l : List Tok) {s sf : St}, s.opn = [] -> runT l s = .ok sf -> runT (span_ l).2 s = .ok sf
 | [], s, sf, _, h => h
 | t :: r, s, sf, ho, h => by
  rw [span_]
  split
  ·rename_i hc
   rw [runT] at h
   have k4 : t.kind = 4 \/ t.kind = 5 := by
    unfold isCh at hc
    simpa using hc
   have hst : stepT s t = .ok s \/ ∃ e, stepT s t = .error e := by
    unfold stepT;rw [if_neg (by omega), if_neg (by omega), if_neg (by omega), if_neg (by omega), if_neg (by omega)];unfold charsT;rw [if_pos ho]
    split
    ·exact .inr ⟨_, rfl⟩
    ·exact .inl rfl
   rcases hst with hst | ⟨e, hst⟩
   ·rw [hst] at h;exact run_span0 r ho h
   ·rw [hst] at h;cases h
  ·exact h
theorem start_ok {s s2 : St} {t : Tok} (h : startT s t = .ok s2) (ht : s.text = []) : s2 = { s with opn := ⟨t.name, t.attrs, []⟩ :: s.opn, has := s.has || decide (s.opn = []), nodes := s.nodes + (1 + t.attrs.length) } := by
 unfold startT at h
 split at h
 ·cases h
 ·split at h
  ·cases h
  ·split at h
   ·cases h
   ·injection h with h;rw [<- h]
    have : flush { s with nodes := s.nodes + (1 + t.attrs.length) } = { s with nodes := s.nodes + (1 + t.attrs.length) } := by
     unfold flush;rw [if_pos ht]
    rw [this]
theorem end_of {s : St} {f : Fr} {F : List Fr} (h : (flush s).opn = f :: F) : endT s = put { flush s with opn := F } (.mk 1 f.name [] f.attrs f.kids) := by
 unfold endT;simp only;rw [h]
theorem step_one {s s' : St} {t : Tok} {top : Fr} {F : List Fr} (ho : s.opn = top :: F) (ht : s.text = []) (h : stepT s t = .ok s') (k : Int) (hk : t.kind = 6 /\ k = 3 \/ t.kind = 7 /\ k = 4) :
  s' = { s with opn := { top with kids := top.kids ++ [.mk k t.name t.text [] []] } :: F, nodes := s'.nodes } /\ s'.text = [] := by
 have hs : otherT s t k = .ok s' := by
  unfold stepT at h;rw [if_neg (by omega), if_neg (by omega), if_neg (by omega)] at h;rcases hk with ⟨h6, rfl⟩ | ⟨h7, rfl⟩
  ·rw [if_pos h6] at h;exact h
  ·rw [if_neg (by omega), if_pos h7] at h;exact h
 unfold otherT at hs
 split at hs
 ·cases hs
 ·injection hs with hs;rw [flush_nodes', flush_id ht] at hs;unfold St.setN at hs;unfold put at hs;rw [ho] at hs;simp only at hs;rw [<- hs];exact ⟨rfl, ht⟩
theorem nested : ∀ (f : Nat) {l : List Tok} {s sf : St} {top : Fr} {F : List Fr}, l.length < f -> Ok l -> s.opn = top :: F -> s.text = [] -> runT l s = .ok sf -> sf.opn = [] →
  ∃ t r s1 n, (kidsF f l).2 = t :: r /\ t.kind = 3 /\ runT (t :: r) s1 = .ok sf /\ flush s1 = { s with opn := { top with kids := top.kids ++ (kidsF f l).1 } :: F, nodes := n }
 | 0, l, s, sf, top, F, hf, _, _, _, _, _ => absurd hf (by omega)
 | f + 1, [], s, sf, top, F, _, _, ho, _, h, h0 => by
  injection h with h;subst h;rw [ho] at h0;cases h0
 | f + 1, t :: r, s, sf, top, F, hf, hk, ho, ht, h, h0 => by
  have hkt := hk t (List.mem_cons_self ..);have hfr : r.length < f := by simp at hf; omega
  rw [kidsF]
  by_cases k3 : t.kind = 3
  ·rw [if_pos k3];refine ⟨t, r, s, s.nodes, rfl, k3, h, ?_⟩;rw [flush_id ht, List.append_nil, <- ho]
  ·rw [if_neg k3];rw [runT] at h
   by_cases k1 : t.kind = 1
   ·rw [if_pos k1]
    cases hs : stepT s t with
    | error e => rw [hs] at h; cases h
    | ok s2 =>
     rw [hs] at h
     have hst : startT s t = .ok s2 := by
      unfold stepT at hs;rw [if_pos k1] at hs;exact hs
     have e2 := start_ok hst ht;have ho2 : s2.opn = ⟨t.name, t.attrs, []⟩ :: top :: F := (by rw [e2, ho]);have ht2 : s2.text = [] := by rw [e2]; exact ht
     obtain ⟨t1, r1, s1, n1, g1, g2, g3, g4⟩ := nested f hfr hk.tail ho2 ht2 h h0;have hl1 := kids_len f r;rw [g1] at hl1;simp at hl1;rw [g1, List.drop_succ_cons, List.drop_zero];rw [runT] at g3
     cases hs1 : stepT s1 t1 with
     | error e => rw [hs1] at g3; cases g3
     | ok s3 =>
      rw [hs1] at g3
      have h3 : s3 = endT s1 := by
       unfold stepT at hs1;rw [if_neg (by omega), if_neg (by omega), if_pos g2] at hs1
       split at hs1
       ·cases hs1
       ·split at hs1
        ·injection hs1 with hs1;exact hs1.symm
        ·cases hs1
      rw [end_of (by rw [g4])] at h3;rw [g4] at h3;unfold put at h3;simp only [List.nil_append] at h3;have ho3 : s3.opn = { top with kids := top.kids ++ [.mk 1 t.name [] t.attrs (kidsF f r).1] } :: F := (by rw [h3]);have ht3 : s3.text = [] := by rw [h3]; exact ht2
      have hk1 : Ok r1 := fun x hx => hk.tail x (kids_sub f r x (by rw [g1]; exact List.mem_cons_of_mem _ hx))
      obtain ⟨t4, r4, s4, n4, q1, q2, q3, q4⟩ := nested f (l := r1) (by omega) hk1 ho3 ht3 g3 h0;refine ⟨t4, r4, s4, n4, q1, q2, q3, ?_⟩;rw [q4, h3, e2, ho];simp
   ·rw [if_neg k1]
    by_cases k2 : t.kind = 2
    ·rw [if_pos k2]
     cases hs : stepT s t with
     | error e => rw [hs] at h; cases h
     | ok s2 =>
      rw [hs] at h
      cases hst : startT s t with
      | error e =>
       unfold stepT at hs;rw [if_neg k1, if_pos k2, hst] at hs;cases hs
      | ok s1 =>
       unfold stepT at hs;rw [if_neg k1, if_pos k2, hst] at hs;injection hs with hs;have e1 := start_ok hst ht;have ht1 : s1.text = [] := by rw [e1]; exact ht
       have he : (flush s1).opn = ⟨t.name, t.attrs, []⟩ :: top :: F := (by rw [flush_id ht1, e1, ho]);rw [end_of he, flush_id ht1] at hs;unfold put at hs;simp only at hs;have ho2 : s2.opn = { top with kids := top.kids ++ [.mk 1 t.name [] t.attrs []] } :: F := (by rw [<- hs]);have ht2 : s2.text = [] := by rw [<- hs]; exact ht1
       obtain ⟨t4, r4, s4, n4, q1, q2, q3, q4⟩ := nested f hfr hk.tail ho2 ht2 h h0;refine ⟨t4, r4, s4, n4, q1, q2, q3, ?_⟩;rw [q4, <- hs, e1, ho];simp
    ·rw [if_neg k2]
     have one : ∀ k, (t.kind = 6 /\ k = 3 \/ t.kind = 7 /\ k = 4) -> ∃ t4 r4 s4 n4, (kidsF f r).2 = t4 :: r4 /\ t4.kind = 3 /\ runT (t4 :: r4) s4 = .ok sf /\ flush s4 = { s with opn := { top with kids := top.kids ++ (.mk k t.name t.text [] [] :: (kidsF f r).1) } :: F, nodes := n4 } := by
      intro k hkk
      cases hs : stepT s t with
      | error e => rw [hs] at h; cases h
      | ok s2 =>
       rw [hs] at h;obtain ⟨e2, ht2⟩ := step_one ho ht hs k hkk;have ho2 : s2.opn = { top with kids := top.kids ++ [.mk k t.name t.text [] []] } :: F := (by rw [e2]);obtain ⟨t4, r4, s4, n4, q1, q2, q3, q4⟩ := nested f hfr hk.tail ho2 ht2 h h0;refine ⟨t4, r4, s4, n4, q1, q2, q3, ?_⟩;rw [q4, e2];simp
     by_cases k6 : t.kind = 6
     ·rw [if_pos k6];have := one 3 (.inl ⟨k6, rfl⟩);rw [hkt.2 k6] at this;exact this
     ·rw [if_neg k6]
      by_cases k7 : t.kind = 7
      ·rw [if_pos k7];exact one 4 (.inr ⟨k7, rfl⟩)
      ·rw [if_neg k7]
       have hsp : (span_ (t :: r)).2 = (span_ r).2 := by
        rw [span_, if_pos];unfold isCh;have := hkt.1;simp;omega
       have hl2 := span_len r;obtain ⟨m, hm⟩ := run_span (t :: r) (sf := sf) hk (by rw [ho]; simp) (by rw [runT]; exact h);rw [ht, List.nil_append] at hm;have hk2 : Ok (span_ (t :: r)).2 := fun x hx => hk x (span_sub _ x hx)
       obtain ⟨w, hw⟩ : ∃ w, (span_ (t :: r)).1 = w := ⟨_, rfl⟩;rw [hw] at hm ⊢
       have hfl : flush { s with text := w, nodes := m } = { s with opn := { top with kids := top.kids ++ (if w = [] then [] else [textN w]) } :: F, text := [], nodes := m } := by
        unfold flush;simp only
        split
        ·rename_i hw0
         rw [hw0, ho];simp
        ·unfold put;rw [ho]
       have hrun : runT (span_ (t :: r)).2 (flush { s with text := w, nodes := m }) = .ok sf := by
        have hh := span_head (t :: r)
        cases hsl : (span_ (t :: r)).2 with
        | nil =>
         rw [hsl] at hm;injection hm with hm;rw [<- hm] at h0;rw [ho] at h0;cases h0
        | cons x y =>
         rw [hsl] at hm hh;have hx := hh x rfl;rw [runT] at hm ⊢;rw [step_flush hx (hk2 x (by rw [hsl]; exact List.mem_cons_self ..)).1];exact hm
       rw [hfl] at hrun;obtain ⟨t4, r4, s4, n4, q1, q2, q3, q4⟩ := nested f (l := (span_ (t :: r)).2) (by rw [hsp]; omega) hk2 (s := { s with opn := { top with kids := top.kids ++ (if w = [] then [] else [textN w]) } :: F, text := [], nodes := m }) rfl rfl hrun h0;refine ⟨t4, r4, s4, n4, q1, q2, q3, ?_⟩;rw [q4];simp only [ht]
       split
       ·simp
       ·simp
def putTop (s : St) (n : Nd) : St := if n.kind = 2 then s else put s n
theorem putTop_opn {s : St} (h : s.opn = []) (n : Nd) : (putTop s n).opn = [] := by
 unfold putTop
 split
 ·exact h
 ·exact (nil_of_names (put_opn s n)).2 h
theorem put_setN (s : St) (n : Nd) (m : Nat) : put (s.setN m) n = (put s n).setN m := by
 unfold put St.setN
 cases h : s.opn with
 | nil =>
  simp only
  split
  ·rfl
  ·split <;> rfl
 | cons f F => rfl
theorem putTop_setN (s : St) (n : Nd) (m : Nat) : putTop (s.setN m) n = (putTop s n).setN m := by
 unfold putTop
 split
 ·rfl
 ·exact put_setN s n m
theorem fold_setN : ∀ (l : List Nd) (s : St) (m : Nat), l.foldl putTop (s.setN m) = (l.foldl putTop s).setN m
 | [], s, m => rfl
 | n :: l, s, m => by
  rw [List.foldl_cons, List.foldl_cons, putTop_setN, fold_setN l]
theorem putTop_elem {s : St} (h : s.opn = []) (nm : Tx) (as_ : List At) (ks : List Nd) : putTop s (.mk 1 nm [] as_ ks) = { s with root := .mk 1 nm [] as_ ks, has := true } := by
 unfold putTop;rw [if_neg (by simp [Nd.kind])];unfold put;rw [h];simp [Nd.kind]
theorem setN_setN (s : St) (a b : Nat) : (s.setN a).setN b = s.setN b := rfl
theorem outer : ∀ (f : Nat) {l : List Tok} {s sf : St}, l.length < f -> Ok l -> s.opn = [] -> s.text = [] -> runT l s = .ok sf -> sf.opn = [] →
  (kidsF f l).2 = [] /\ ∃ n, sf = ((kidsF f l).1.foldl putTop s).setN n
 | 0, l, s, sf, hf, _, _, _, _, _ => absurd hf (by omega)
 | f + 1, [], s, sf, _, _, _, _, h, _ => by
  injection h with h;subst h;exact ⟨rfl, s.nodes, rfl⟩
 | f + 1, t :: r, s, sf, hf, hk, ho, ht, h, h0 => by
  have hkt := hk t (List.mem_cons_self ..);have hfr : r.length < f := by simp at hf; omega
  rw [runT] at h;rw [kidsF]
  by_cases k3 : t.kind = 3
  ·exfalso;unfold stepT at h;rw [if_neg (by omega), if_neg (by omega), if_pos k3, ho] at h;cases h
  ·rw [if_neg k3]
   by_cases k1 : t.kind = 1
   ·rw [if_pos k1]
    cases hs : stepT s t with
    | error e => rw [hs] at h; cases h
    | ok s2 =>
     rw [hs] at h
     have hst : startT s t = .ok s2 := by
      unfold stepT at hs;rw [if_pos k1] at hs;exact hs
     have e2 := start_ok hst ht;have ho2 : s2.opn = ⟨t.name, t.attrs, []⟩ :: [] := (by rw [e2, ho]);have ht2 : s2.text = [] := by rw [e2]; exact ht
     obtain ⟨t1, r1, s1, n1, g1, g2, g3, g4⟩ := nested f hfr hk.tail ho2 ht2 h h0;have hl1 := kids_len f r;rw [g1] at hl1;simp at hl1;rw [g1, List.drop_succ_cons, List.drop_zero];rw [runT] at g3
     cases hs1 : stepT s1 t1 with
     | error e => rw [hs1] at g3; cases g3
     | ok s3 =>
      rw [hs1] at g3
      have h3 : s3 = endT s1 := by
       unfold stepT at hs1;rw [if_neg (by omega), if_neg (by omega), if_pos g2] at hs1
       split at hs1
       ·cases hs1
       ·split at hs1
        ·injection hs1 with hs1;exact hs1.symm
        ·cases hs1
      rw [end_of (by rw [g4])] at h3;rw [g4] at h3;unfold put at h3;simp only [List.nil_append, Nd.kind, if_true] at h3;have ho3 : s3.opn = [] := (by rw [h3]);have ht3 : s3.text = [] := by rw [h3]; exact ht2
      have hk1 : Ok r1 := fun x hx => hk.tail x (kids_sub f r x (by rw [g1]; exact List.mem_cons_of_mem _ hx))
      obtain ⟨q1, n4, q4⟩ := outer f (l := r1) (by omega) hk1 ho3 ht3 g3 h0;refine ⟨q1, n4, ?_⟩
      have e3 : s3 = (putTop s (.mk 1 t.name [] t.attrs (kidsF f r).1)).setN n1 := by
       rw [h3, putTop_elem ho, e2];unfold St.setN;rw [ho]
      rw [q4, e3, fold_setN, setN_setN, List.foldl_cons]
   ·rw [if_neg k1]
    by_cases k2 : t.kind = 2
    ·rw [if_pos k2]
     cases hs : stepT s t with
     | error e => rw [hs] at h; cases h
     | ok s2 =>
      rw [hs] at h
      cases hst : startT s t with
      | error e =>
       unfold stepT at hs;rw [if_neg k1, if_pos k2, hst] at hs;cases hs
      | ok s1 =>
       unfold stepT at hs;rw [if_neg k1, if_pos k2, hst] at hs;injection hs with hs;have e1 := start_ok hst ht;have ht1 : s1.text = [] := by rw [e1]; exact ht
       have he : (flush s1).opn = ⟨t.name, t.attrs, []⟩ :: [] := (by rw [flush_id ht1, e1, ho]);rw [end_of he, flush_id ht1] at hs;unfold put at hs;simp only [Nd.kind, if_true] at hs;have ho2 : s2.opn = [] := (by rw [<- hs]);have ht2 : s2.text = [] := by rw [<- hs]; exact ht1
       obtain ⟨q1, n4, q4⟩ := outer f hfr hk.tail ho2 ht2 h h0;refine ⟨q1, n4, ?_⟩
       have e3 : s2 = (putTop s (.mk 1 t.name [] t.attrs [])).setN s2.nodes := by
        rw [<- hs, putTop_elem ho, e1];unfold St.setN;rw [ho]
       rw [q4, e3, fold_setN, setN_setN, List.foldl_cons]
    ·rw [if_neg k2]
     have one : ∀ k, (t.kind = 6 /\ k = 3 \/ t.kind = 7 /\ k = 4) -> (kidsF f r).2 = [] /\ ∃ n, sf = ((.mk k t.name t.text [] [] :: (kidsF f r).1).foldl putTop s).setN n := by
      intro k hkk
      cases hs : stepT s t with
      | error e => rw [hs] at h; cases h
      | ok s2 =>
       rw [hs] at h
       have hot : otherT s t k = .ok s2 := by
        unfold stepT at hs;rw [if_neg (by omega), if_neg (by omega), if_neg (by omega)] at hs;rcases hkk with ⟨h6, rfl⟩ | ⟨h7, rfl⟩
        ·rw [if_pos h6] at hs;exact hs
        ·rw [if_neg (by omega), if_pos h7] at hs;exact hs
       unfold otherT at hot
       split at hot
       ·cases hot
       ·injection hot with hot;rw [flush_nodes', flush_id ht, put_setN] at hot
        have hpt : putTop s (.mk k t.name t.text [] []) = put s (.mk k t.name t.text [] []) := by
         unfold putTop;rw [if_neg (by simp [Nd.kind]; omega)]
        have ho2 : s2.opn = [] := by
         rw [<- hot];exact (nil_of_names (put_opn s _)).2 ho
        have ht2 : s2.text = [] := by
         rw [<- hot];exact (put_text s _).trans ht
        obtain ⟨q1, n4, q4⟩ := outer f hfr hk.tail ho2 ht2 h h0;refine ⟨q1, n4, ?_⟩;rw [q4, <- hot, fold_setN, setN_setN, List.foldl_cons, hpt]
     by_cases k6 : t.kind = 6
     ·rw [if_pos k6];have := one 3 (.inl ⟨k6, rfl⟩);rw [hkt.2 k6] at this;exact this
     ·rw [if_neg k6]
      by_cases k7 : t.kind = 7
      ·rw [if_pos k7];exact one 4 (.inr ⟨k7, rfl⟩)
      ·rw [if_neg k7]
       have hsp : (span_ (t :: r)).2 = (span_ r).2 := by
        rw [span_, if_pos];unfold isCh;have := hkt.1;simp;omega
       have hl2 := span_len r;have hm := run_span0 (t :: r) (sf := sf) ho (by rw [runT]; exact h);have hk2 : Ok (span_ (t :: r)).2 := fun x hx => hk x (span_sub _ x hx)
       obtain ⟨q1, n4, q4⟩ := outer f (l := (span_ (t :: r)).2) (by rw [hsp]; omega) hk2 ho ht hm h0;refine ⟨q1, n4, ?_⟩;rw [q4];simp only
       split
       ·rfl
       ·rw [List.foldl_cons];rfl
end Go.Proofs.YtokdnhdfmgfkeaaGreatDoor.Xt
end
