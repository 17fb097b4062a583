/- Rows of tokens (three cells each) that read as lists. -/
import Derived.Test.YthiikldjngamaaaDoorWords
import Derived.Test.YthiikldjngamaaaDoorQxLex
import Derived.ArgAppend
namespace Go.Proofs.YthiikldjngamaaaDoor.Qx
open Go.RowKit

/-- A span's two cells. -/
def tokC (p : Tok) : List Value := [.int .i64 p.1, .int .i64 p.2.1, .string (strOf p.2.2)]

/-- Spans as cells. -/
def tf (l : List Tok) : List Value := l.flatMap tokC

theorem tf_nil : tf [] = [] := rfl
theorem tf_cons (p : Tok) (l : List Tok) : tf (p :: l) = .int .i64 p.1 :: .int .i64 p.2.1 :: .string (strOf p.2.2) :: tf l := rfl
theorem tf_append (a b : List Tok) : tf (a ++ b) = tf a ++ tf b := by simp [tf]
theorem tf_length (l : List Tok) : (tf l).length = l.length * 3 := by
  induction l with
  | nil => rfl
  | cons p l ih => rw [tf_cons]; simp [ih]; omega
theorem tf_one (l : List Tok) : ∀ u ∈ tf l, u.oneCell' = true := by
  intro u hu
  simp only [tf, List.mem_flatMap, tokC] at hu
  obtain ⟨p, _, h⟩ := hu
  simp at h
  rcases h with rfl | rfl | rfl <;> rfl
theorem tf_get : ∀ {l : List Tok} {k : Nat} {p : Tok}, l[k]? = some p → (tf l)[k * 3]? = some (.int .i64 p.1) ∧ (tf l)[k * 3 + 1]? = some (.int .i64 p.2.1) ∧ (tf l)[k * 3 + 2]? = some (.string (strOf p.2.2))
  | [], _, _, h => by simp at h
  | q :: l, 0, p, h => by
    simp at h
    subst h
    exact ⟨rfl, rfl, rfl⟩
  | q :: l, k + 1, p, h => by
    simp at h
    have := tf_get h
    rw [tf_cons, show (k + 1) * 3 = k * 3 + 1 + 1 + 1 by omega]
    exact this

/-- A slice of spans that reads as a list. -/
structure Rt (w : World) (A : Option Addr) (n c : Nat) (l : List Tok) : Prop where
  len : l.length = n
  le : n ≤ c
  max : c ≤ 9223372036854775807
  nil : A = none → n = 0 ∧ c = 0
  cell : 0 < n → ∃ b off, A = some ⟨b, off, none⟩ ∧ b < w.heap.size ∧ ∀ j u, (tf l)[j]? = some u → w.cell? ⟨b, off + j, none⟩ = some u

theorem Rt.none_ (w : World) : Rt w none 0 0 [] := ⟨rfl, by omega, by omega, fun _ => ⟨rfl, rfl⟩, fun h => absurd h (by omega)⟩

section
variable {w w' : World} {A : Option Addr} {n c : Nat} {l : List Tok}
theorem Rt.below (h : Rt w A n c l) (hb : Below w.heap.size w w') : Rt w' A n c l :=
  ⟨h.len, h.le, h.max, h.nil, fun hn => by
    obtain ⟨b, off, e, hb', hc⟩ := h.cell hn
    exact ⟨b, off, e, by have := hb.size; omega, fun j u hu => (hb.cell hb').trans (hc j u hu)⟩⟩

theorem Rt.at_ {k : Nat} (h : Rt w A n c l) (hk : k < n) :
    ∃ b off, ∃ p : Tok, A = some ⟨b, off, none⟩ ∧ b < w.heap.size ∧ l[k]? = some p ∧ w.cell? ⟨b, off + k * 3, none⟩ = some (.int .i64 p.1) ∧ w.cell? ⟨b, off + k * 3 + 1, none⟩ = some (.int .i64 p.2.1) ∧ w.cell? ⟨b, off + k * 3 + 2, none⟩ = some (.string (strOf p.2.2)) := by
  obtain ⟨b, off, e, hb, hc⟩ := h.cell (by omega)
  have hl : k < l.length := by have := h.len; omega
  have hg : l[k]? = some l[k] := List.getElem?_eq_getElem hl
  have := tf_get hg
  exact ⟨b, off, l[k], e, hb, hg, hc _ _ this.1, by rw [Nat.add_assoc]; exact hc _ _ this.2.1, by rw [Nat.add_assoc]; exact hc _ _ this.2.2⟩
end

/-- A row of spans of the call's own. -/
def OwT (w : World) (B E : Nat) (v : Value) (l : List Tok) : Prop := w.ownsRow B E 3 v l.length (tf l)

theorem OwT.nil (w : World) (B E : Nat) : OwT w B E (.slice none 0 0) [] := World.ownsRow_nil w B E 3

theorem OwT.len {w : World} {B E : Nat} {A : Option Addr} {n c : Nat} {l : List Tok} (h : OwT w B E (.slice A n c) l) : l.length = n := by
  rcases h.2 with ⟨hv, h0⟩ | ⟨g, cap, cur, hv, _⟩
  · injection hv with _ h2 _; omega
  · injection hv with _ h2 _; exact h2.symm

theorem OwT.rt {w : World} {B E : Nat} {A : Option Addr} {n c : Nat} {l : List Tok} (h : OwT w B E (.slice A n c) l) : Rt w A n c l := by
  have hl := h.len
  obtain ⟨hl2, h⟩ := h
  rcases h with ⟨hv, h0⟩ | ⟨g, cap, cur, hv, hB, hh, hnc, hm, hs, ht⟩
  · injection hv with h1 h2 h3
    subst h1; subst h2; subst h3
    have : l = [] := List.eq_nil_of_length_eq_zero hl
    subst this
    exact Rt.none_ w
  · injection hv with h1 h2 h3
    subst h1; subst h2; subst h3
    have hg : g < w.heap.size := by
      rcases Nat.lt_or_ge g w.heap.size with hlt | hge
      · exact hlt
      · rw [Array.getElem?_eq_none hge] at hh; cases hh
    refine ⟨hl, hnc, by unfold maxLen at hm; omega, fun h => by simp at h, fun _ => ⟨g, 0, rfl, hg, fun j u hu => ?_⟩⟩
    rw [← ht] at hu
    rw [List.getElem?_take] at hu
    split at hu
    · simp only [World.cell?, hh, Nat.zero_add]
      simpa using hu
    · cases hu

theorem OwT.form {w : World} {B E : Nat} {v : Value} {l : List Tok} (h : OwT w B E v l) : ∃ A c, v = .slice A l.length c := by
  rcases h.2 with ⟨rfl, h0⟩ | ⟨g, cap, cur, rfl, _⟩
  · exact ⟨none, 0, by rw [h0]⟩
  · exact ⟨_, _, rfl⟩

theorem OwT.below {w w' : World} {B E : Nat} {v : Value} {l : List Tok} (h : OwT w B E v l) (hb : Below w.heap.size w w') : OwT w' B E v l := by
  obtain ⟨h1, h2⟩ := h
  rcases h2 with h2 | ⟨g, cap, cur, hv, hB, hh, hr⟩
  · exact ⟨h1, .inl h2⟩
  · refine ⟨h1, .inr ⟨g, cap, cur, hv, hB, ?_, hr⟩⟩
    have hg : g < w.heap.size := by
      rcases Nat.lt_or_ge g w.heap.size with hlt | hge
      · exact hlt
      · rw [Array.getElem?_eq_none hge] at hh; cases hh
    rw [hb.block g hg]
    exact hh

theorem OwT.mono {w : World} {B B' E : Nat} {v : Value} {l : List Tok} (h : OwT w B E v l) (hb : B' ≤ B) : OwT w B' E v l :=
  ⟨h.1, h.2.imp id fun ⟨g, cap, cur, h1, h2, h3⟩ => ⟨g, cap, cur, h1, Nat.le_trans hb h2, h3⟩⟩

section
variable {P : Program} {ops : Array Oper} {rest : List Oper} {o : Oper} {a : Act} {Q : Exit → Act → World → Prop}
/-- 'append(x, y...)' at spans, x a row of the call's own. -/
theorem append_toks (w : World) (t e : TypeId) (z : Value) (ht : P.underlying t = some (.slice e))
    (hinfo : (P.info? e).map (fun i => (i.zero, i.size, i.bytes)) = some (some z, 3, 32)) (hzs : z.cells.size = 3)
    (hgd : o.guard = none) (s x : Operand)
    (ho : o.op = .call { callee := .builtin .append, args := #[s, x], argTypes := #[t, t] })
    (B : Nat) (v : Value) (la : List Tok) (hs : a.eval s = v) (hown : OwT w B e v la)
    (A : Option Addr) (m c : Nat) (lb : List Tok) (hx : a.eval x = .slice A m c) (hr : Rt w A m c lb)
    (N : Nat) (hN : la.length + m = N) (hsz : N ≤ 1000000) (hB : B ≤ w.heap.size)
    (h : ∀ A' c' w', OwT w' B e (.slice A' N c') (la ++ lb) → Below B w w' → wpList P ops Q rest (a.put o.dst (.slice A' N c')) w') :
    wpList P ops Q (o :: rest) a w := by
  have hl := hr.len
  obtain ⟨i, hi, hz, hsz', hby⟩ := info_parts hinfo
  rcases A with _ | ad
  · obtain ⟨rfl, rfl⟩ := hr.nil rfl
    have hn : lb = [] := List.eq_nil_of_length_eq_zero hr.len
    subst hn
    refine wpList_append_own_none hgd s x t ho B e i 3 ht hi v la.length (tf la) hs hown hx ?_
    obtain ⟨A', c', rfl⟩ := hown.form
    have h0 : la.length = N := by omega
    rw [h0] at hown ⊢
    refine h A' c' w ?_ (Below.refl _ _)
    rw [List.append_nil]
    exact hown
  · refine wpList_append_own_at w hgd s x t ho B e i z 3 32 ht hi hz hsz' hby hzs (by omega) v la.length (tf la) hs hown ad m c (tf lb) hx (by rw [tf_length, hl]) ?_ (tf_one lb) (by unfold maxLen; omega) (by omega) hB ?_
    · intro j u hu
      have hm : 0 < m := by
        have h1 := (List.getElem?_eq_some_iff.1 hu).1
        rw [tf_length] at h1
        omega
      obtain ⟨b, off, he, _, hc⟩ := hr.cell hm
      injection he with he
      subst he
      have := hc j u hu
      unfold Addr.add
      split
      · rename_i h0; subst h0; simpa using this
      · exact this
    · intro v' w' hown' hg _ _
      have hown2 : OwT w' B e v' (la ++ lb) := by
        unfold OwT
        rw [tf_append, List.length_append, hl]
        exact hown'
      obtain ⟨A', c', rfl⟩ := hown2.form
      have h0 : (la ++ lb).length = N := by rw [List.length_append]; omega
      rw [h0] at hown2 ⊢
      exact h A' c' w' hown2 ((Below.refl B w).grown hg hB (fun k hk => (World.ownsRow.lt hown k hk).1))
end

/-- A literal of spans. -/
theorem rt_lit (w : World) (C : Array Value) (E : TypeId) (fr : Nat × Nat) (l : List Tok) (n : Nat) (hn : l.length = n) (hn2 : n ≤ 9223372036854775807) (hC : C.toList = tf l) :
    Rt (w.alloc (.cells C E fr)) (some ⟨w.heap.size, 0, none⟩) n n l := by
  refine ⟨hn, Nat.le_refl _, hn2, fun h => by simp at h, fun _ => ⟨_, _, rfl, by simp, fun j u hu => ?_⟩⟩
  have hh : (w.alloc (.cells C E fr)).heap[w.heap.size]? = some (.cells C E fr) := heap_alloc_new w _
  rw [← hC, Array.getElem?_toList] at hu
  simp only [World.cell?, hh, Nat.zero_add]
  simpa using hu

end Go.Proofs.YthiikldjngamaaaDoor.Qx
