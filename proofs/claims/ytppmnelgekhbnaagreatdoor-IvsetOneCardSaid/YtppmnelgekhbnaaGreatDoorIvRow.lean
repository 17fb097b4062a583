/- Rows of spans (two cells each) that read as lists. -/
import Derived.Test.YtppmnelgekhbnaaGreatDoorWords
import Derived.Test.YtppmnelgekhbnaaGreatDoorIvMath
import Derived.ArgAppend
namespace Go.Proofs.YtppmnelgekhbnaaGreatDoor
open Go.RowKit

/-- A span's two cells. -/
def spanC (p : Iv.Span) : List Value := [.int .i64 p.1, .int .i64 p.2]

/-- Spans as cells. -/
def flat (l : List Iv.Span) : List Value := l.flatMap spanC

theorem flat_nil : flat [] = [] := rfl
theorem flat_cons (p : Iv.Span) (l : List Iv.Span) : flat (p :: l) = .int .i64 p.1 :: .int .i64 p.2 :: flat l := rfl
theorem flat_append (a b : List Iv.Span) : flat (a ++ b) = flat a ++ flat b := by simp [flat]
theorem flat_length (l : List Iv.Span) : (flat l).length = l.length * 2 := by
  induction l with
  | nil => rfl
  | cons p l ih => rw [flat_cons]; simp [ih]; omega
theorem flat_one (l : List Iv.Span) : ∀ u ∈ flat l, u.oneCell' = true := by
  intro u hu
  simp only [flat, List.mem_flatMap, spanC] at hu
  obtain ⟨p, _, h⟩ := hu
  simp at h
  rcases h with rfl | rfl <;> rfl
theorem flat_get : ∀ {l : List Iv.Span} {k : Nat} {p : Iv.Span}, l[k]? = some p → (flat l)[k * 2]? = some (.int .i64 p.1) ∧ (flat l)[k * 2 + 1]? = some (.int .i64 p.2)
  | [], _, _, h => by simp at h
  | q :: l, 0, p, h => by
    simp at h
    subst h
    exact ⟨rfl, rfl⟩
  | q :: l, k + 1, p, h => by
    simp at h
    have := flat_get h
    rw [flat_cons, show (k + 1) * 2 = k * 2 + 1 + 1 by omega]
    exact this

/-- A slice of spans that reads as a list. -/
structure Rp (w : World) (A : Option Addr) (n c : Nat) (l : List Iv.Span) : Prop where
  len : l.length = n
  le : n ≤ c
  max : c ≤ 9223372036854775807
  nil : A = none → n = 0 ∧ c = 0
  cell : 0 < n → ∃ b off, A = some ⟨b, off, none⟩ ∧ b < w.heap.size ∧ ∀ j u, (flat l)[j]? = some u → w.cell? ⟨b, off + j, none⟩ = some u

theorem Rp.none_ (w : World) : Rp w none 0 0 [] := ⟨rfl, by omega, by omega, fun _ => ⟨rfl, rfl⟩, fun h => absurd h (by omega)⟩

section
variable {w w' : World} {A : Option Addr} {n c : Nat} {l : List Iv.Span}
theorem Rp.below (h : Rp w A n c l) (hb : Below w.heap.size w w') : Rp w' A n c l :=
  ⟨h.len, h.le, h.max, h.nil, fun hn => by
    obtain ⟨b, off, e, hb', hc⟩ := h.cell hn
    exact ⟨b, off, e, by have := hb.size; omega, fun j u hu => (hb.cell hb').trans (hc j u hu)⟩⟩

theorem Rp.at_ {k : Nat} (h : Rp w A n c l) (hk : k < n) :
    ∃ b off, ∃ p : Iv.Span, A = some ⟨b, off, none⟩ ∧ b < w.heap.size ∧ l[k]? = some p ∧ w.cell? ⟨b, off + k * 2, none⟩ = some (.int .i64 p.1) ∧ w.cell? ⟨b, off + k * 2 + 1, none⟩ = some (.int .i64 p.2) := by
  obtain ⟨b, off, e, hb, hc⟩ := h.cell (by omega)
  have hl : k < l.length := by have := h.len; omega
  have hg : l[k]? = some l[k] := List.getElem?_eq_getElem hl
  have := flat_get hg
  exact ⟨b, off, l[k], e, hb, hg, hc _ _ this.1, by rw [Nat.add_assoc]; exact hc _ _ this.2⟩
end

/-- A row of spans of the call's own. -/
def OwP (w : World) (B E : Nat) (v : Value) (l : List Iv.Span) : Prop := w.ownsRow B E 2 v l.length (flat l)

theorem OwP.nil (w : World) (B E : Nat) : OwP w B E (.slice none 0 0) [] := World.ownsRow_nil w B E 2

theorem OwP.len {w : World} {B E : Nat} {A : Option Addr} {n c : Nat} {l : List Iv.Span} (h : OwP w B E (.slice A n c) l) : l.length = n := by
  rcases h.2 with ⟨hv, h0⟩ | ⟨g, cap, cur, hv, _⟩
  · injection hv with _ h2 _; omega
  · injection hv with _ h2 _; exact h2.symm

theorem OwP.rp {w : World} {B E : Nat} {A : Option Addr} {n c : Nat} {l : List Iv.Span} (h : OwP w B E (.slice A n c) l) : Rp w A n c l := by
  have hl := h.len
  obtain ⟨hl2, h⟩ := h
  rcases h with ⟨hv, h0⟩ | ⟨g, cap, cur, hv, hB, hh, hnc, hm, hs, ht⟩
  · injection hv with h1 h2 h3
    subst h1; subst h2; subst h3
    have : l = [] := List.eq_nil_of_length_eq_zero hl
    subst this
    exact Rp.none_ w
  · injection hv with h1 h2 h3
    subst h1; subst h2; subst h3
    have hg : g < w.heap.size := by
      rcases Nat.lt_or_ge g w.heap.size with hlt | hge
      · exact hlt
      · rw [Array.getElem?_eq_none hge] at hh; cases hh
    refine ⟨hl, hnc, by unfold maxLen at hm; omega, fun h => by simp at h, fun _ => ⟨g, 0, rfl, hg, fun j u hu => ?_⟩⟩
    rw [← ht] at hu
    rw [List.getElem?_take] at hu
    split at hu
    · simp only [World.cell?, hh, Nat.zero_add]
      simpa using hu
    · cases hu

theorem OwP.form {w : World} {B E : Nat} {v : Value} {l : List Iv.Span} (h : OwP w B E v l) : ∃ A c, v = .slice A l.length c := by
  rcases h.2 with ⟨rfl, h0⟩ | ⟨g, cap, cur, rfl, _⟩
  · exact ⟨none, 0, by rw [h0]⟩
  · exact ⟨_, _, rfl⟩

theorem OwP.below {w w' : World} {B E : Nat} {v : Value} {l : List Iv.Span} (h : OwP w B E v l) (hb : Below w.heap.size w w') : OwP w' B E v l := by
  obtain ⟨h1, h2⟩ := h
  rcases h2 with h2 | ⟨g, cap, cur, hv, hB, hh, hr⟩
  · exact ⟨h1, .inl h2⟩
  · refine ⟨h1, .inr ⟨g, cap, cur, hv, hB, ?_, hr⟩⟩
    have hg : g < w.heap.size := by
      rcases Nat.lt_or_ge g w.heap.size with hlt | hge
      · exact hlt
      · rw [Array.getElem?_eq_none hge] at hh; cases hh
    rw [hb.block g hg]
    exact hh

theorem OwP.mono {w : World} {B B' E : Nat} {v : Value} {l : List Iv.Span} (h : OwP w B E v l) (hb : B' ≤ B) : OwP w B' E v l :=
  ⟨h.1, h.2.imp id fun ⟨g, cap, cur, h1, h2, h3⟩ => ⟨g, cap, cur, h1, Nat.le_trans hb h2, h3⟩⟩

section
variable {P : Program} {ops : Array Oper} {rest : List Oper} {o : Oper} {a : Act} {Q : Exit → Act → World → Prop}
/-- 'append(x, y...)' at spans, x a row of the call's own. -/
theorem append_spans (w : World) (t e : TypeId) (z : Value) (ht : P.underlying t = some (.slice e))
    (hinfo : (P.info? e).map (fun i => (i.zero, i.size, i.bytes)) = some (some z, 2, 16)) (hzs : z.cells.size = 2)
    (hgd : o.guard = none) (s x : Operand)
    (ho : o.op = .call { callee := .builtin .append, args := #[s, x], argTypes := #[t, t] })
    (B : Nat) (v : Value) (la : List Iv.Span) (hs : a.eval s = v) (hown : OwP w B e v la)
    (A : Option Addr) (m c : Nat) (lb : List Iv.Span) (hx : a.eval x = .slice A m c) (hr : Rp w A m c lb)
    (N : Nat) (hN : la.length + m = N) (hsz : N ≤ 8796093022208) (hB : B ≤ w.heap.size)
    (h : ∀ A' c' w', OwP w' B e (.slice A' N c') (la ++ lb) → Below B w w' → wpList P ops Q rest (a.put o.dst (.slice A' N c')) w') :
    wpList P ops Q (o :: rest) a w := by
  have hl := hr.len
  obtain ⟨i, hi, hz, hsz', hby⟩ := info_parts hinfo
  rcases A with _ | ad
  · obtain ⟨rfl, rfl⟩ := hr.nil rfl
    have hn : lb = [] := List.eq_nil_of_length_eq_zero hr.len
    subst hn
    refine wpList_append_own_none hgd s x t ho B e i 2 ht hi v la.length (flat la) hs hown hx ?_
    obtain ⟨A', c', rfl⟩ := hown.form
    have h0 : la.length = N := by omega
    rw [h0] at hown ⊢
    refine h A' c' w ?_ (Below.refl _ _)
    rw [List.append_nil]
    exact hown
  · refine wpList_append_own_at w hgd s x t ho B e i z 2 16 ht hi hz hsz' hby hzs (by omega) v la.length (flat la) hs hown ad m c (flat lb) hx (by rw [flat_length, hl]) ?_ (flat_one lb) (by unfold maxLen; omega) (by omega) hB ?_
    · intro j u hu
      have hm : 0 < m := by
        have h1 := (List.getElem?_eq_some_iff.1 hu).1
        rw [flat_length] at h1
        omega
      obtain ⟨b, off, he, _, hc⟩ := hr.cell hm
      injection he with he
      subst he
      have := hc j u hu
      unfold Addr.add
      split
      · rename_i h0; subst h0; simpa using this
      · exact this
    · intro v' w' hown' hg _ _
      have hown2 : OwP w' B e v' (la ++ lb) := by
        unfold OwP
        rw [flat_append, List.length_append, hl]
        exact hown'
      obtain ⟨A', c', rfl⟩ := hown2.form
      have h0 : (la ++ lb).length = N := by rw [List.length_append]; omega
      rw [h0] at hown2 ⊢
      exact h A' c' w' hown2 ((Below.refl B w).grown hg hB (fun k hk => (World.ownsRow.lt hown k hk).1))
end

/-- A literal of spans. -/
theorem rp_lit (w : World) (C : Array Value) (E : TypeId) (fr : Nat × Nat) (l : List Iv.Span) (n : Nat) (hn : l.length = n) (hn2 : n ≤ 9223372036854775807) (hC : C.toList = flat l) :
    Rp (w.alloc (.cells C E fr)) (some ⟨w.heap.size, 0, none⟩) n n l := by
  refine ⟨hn, Nat.le_refl _, hn2, fun h => by simp at h, fun _ => ⟨_, _, rfl, by simp, fun j u hu => ?_⟩⟩
  have hh : (w.alloc (.cells C E fr)).heap[w.heap.size]? = some (.cells C E fr) := heap_alloc_new w _
  rw [← hC, Array.getElem?_toList] at hu
  simp only [World.cell?, hh, Nat.zero_add]
  simpa using hu

theorem flat_set1 : ∀ (l : List Iv.Span) (k : Nat) (p : Iv.Span) (z : Int), l[k]? = some p → flat (l.set k (p.1, z)) = (flat l).set (k * 2 + 1) (.int .i64 z)
  | [], _, _, _, h => by simp at h
  | q :: l, 0, p, z, h => by
    simp at h
    subst h
    rfl
  | q :: l, k + 1, p, z, h => by
    simp at h
    have := flat_set1 l k p z h
    rw [List.set_cons_succ, flat_cons, flat_cons, this, show (k + 1) * 2 + 1 = (k * 2 + 1) + 1 + 1 by omega]
    rfl

theorem OwP.lt {w : World} {B E : Nat} {v : Value} {l : List Iv.Span} (h : OwP w B E v l) : ∀ k, v.ownBlock = some k → B ≤ k ∧ k < w.heap.size := World.ownsRow.lt h

/-- A span of a row of the call's own: read, and its end written. -/
theorem OwP.at_ {w : World} {B E : Nat} {A : Option Addr} {n c k : Nat} {l : List Iv.Span} (h : OwP w B E (.slice A n c) l) (hk : k < n) :
    ∃ g, ∃ p : Iv.Span, A = some ⟨g, 0, none⟩ ∧ B ≤ g ∧ g < w.heap.size ∧ l[k]? = some p ∧ w.cell? ⟨g, k * 2, none⟩ = some (.int .i64 p.1) ∧ w.cell? ⟨g, k * 2 + 1, none⟩ = some (.int .i64 p.2) ∧ w.frozen? ⟨g, k * 2 + 1, none⟩ = false ∧
      ∀ z : Int, OwP (w.setCell ⟨g, k * 2 + 1, none⟩ (.int .i64 z)) B E (.slice A n c) (l.set k (p.1, z)) ∧ Below B w (w.setCell ⟨g, k * 2 + 1, none⟩ (.int .i64 z)) := by
  have hl := h.len
  subst hl
  have hlt := h.lt
  rcases h.2 with ⟨hv, h0⟩ | ⟨g, cap, cur, hv, hB, hh, _⟩
  · omega
  · injection hv with h1 _ h3
    subst h1; subst h3
    have hg := hlt g rfl
    have hx : l[k]? = some l[k] := List.getElem?_eq_getElem hk
    obtain ⟨f0, f1⟩ := flat_get hx
    have hf := flat_length l
    refine ⟨g, l[k], rfl, hB, hg.2, hx, ?_, ?_, World.ownsRow.frozenAt h _, fun z => ⟨?_, ?_⟩⟩
    · rw [World.ownsRow.cellAt h _ (by omega)]; exact f0
    · rw [World.ownsRow.cellAt h _ (by omega)]; exact f1
    · have := (World.ownsRow.stored h (k * 2 + 1) (.int .i64 z)).1
      unfold OwP
      rw [List.length_set, flat_set1 l k _ z hx]
      exact this
    · exact (Below.refl B w).setCell (p := ⟨g, k * 2 + 1, none⟩) hB _

/-- The two cells of a span in a block of its own. -/
theorem box2 (w : World) (x y : Int) (E : TypeId) : (w.alloc (.cells #[.int .i64 x, .int .i64 y] E)).cell? ⟨w.heap.size, 0, none⟩ = some (.int .i64 x) ∧ (w.alloc (.cells #[.int .i64 x, .int .i64 y] E)).cell? ⟨w.heap.size, 1, none⟩ = some (.int .i64 y) := by
  have hh : (w.alloc (.cells #[.int .i64 x, .int .i64 y] E)).heap[w.heap.size]? = some (.cells #[.int .i64 x, .int .i64 y] E) := heap_alloc_new w _
  simp only [World.cell?, hh]
  exact ⟨rfl, rfl⟩

/-- The end of a span of a row of the call's own is written. -/
theorem OwP.stored {w : World} {B E g n c k : Nat} {l : List Iv.Span} {p : Iv.Span} (h : OwP w B E (.slice (some ⟨g, 0, none⟩) n c) l) (hx : l[k]? = some p) (z : Int) :
    OwP (w.setCell ⟨g, k * 2 + 1, none⟩ (.int .i64 z)) B E (.slice (some ⟨g, 0, none⟩) n c) (l.set k (p.1, z)) := by
  have hl := h.len
  subst hl
  have := (World.ownsRow.stored h (k * 2 + 1) (.int .i64 z)).1
  unfold OwP
  rw [List.length_set, flat_set1 l k _ z hx]
  exact this
end Go.Proofs.YtppmnelgekhbnaaGreatDoor
