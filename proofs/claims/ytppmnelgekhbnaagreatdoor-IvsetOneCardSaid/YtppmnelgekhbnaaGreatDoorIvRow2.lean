/- More on rows of spans. -/
import Derived.Test.YtppmnelgekhbnaaGreatDoorIvPut
namespace Go.Proofs.YtppmnelgekhbnaaGreatDoor
open Go.RowKit

theorem rp_lit' (w : World) (C : Array Value) (E : TypeId) (fr : Nat × Nat) (l : List Iv.Span) (n g : Nat) (hg : w.heap.size = g) (hn : l.length = n) (hn2 : n ≤ 9223372036854775807) (hC : C.toList = flat l) :
    Rp (w.alloc (.cells C E fr)) (some ⟨g, 0, none⟩) n n l := by
  subst hg
  exact rp_lit w C E fr l n hn hn2 hC

section
variable {P : Program} {ops : Array Oper} {rest : List Oper} {o : Oper} {a : Act} {Q : Exit → Act → World → Prop}
/-- 'append(x, y...)' at spans, x a row of the call's own; all other blocks stay. -/
theorem append_spansG (w : World) (t e : TypeId) (z : Value) (ht : P.underlying t = some (.slice e))
    (hinfo : (P.info? e).map (fun i => (i.zero, i.size, i.bytes)) = some (some z, 2, 16)) (hzs : z.cells.size = 2)
    (hgd : o.guard = none) (s x : Operand)
    (ho : o.op = .call { callee := .builtin .append, args := #[s, x], argTypes := #[t, t] })
    (B : Nat) (v : Value) (la : List Iv.Span) (hs : a.eval s = v) (hown : OwP w B e v la)
    (b : Nat) (m c : Nat) (lb : List Iv.Span) (hx : a.eval x = .slice (some ⟨b, 0, none⟩) m c) (hr : Rp w (some ⟨b, 0, none⟩) m c lb)
    (N : Nat) (hN : la.length + m = N) (hsz : N ≤ 8796093022208) (hB : B ≤ w.heap.size)
    (h : ∀ A' c' w', OwP w' B e (.slice A' N c') (la ++ lb) → Below B w w' → w.grownBy w' v.ownBlock → wpList P ops Q rest (a.put o.dst (.slice A' N c')) w') :
    wpList P ops Q (o :: rest) a w := by
  have hl := hr.len
  obtain ⟨i, hi, hz, hsz', hby⟩ := info_parts hinfo
  refine wpList_append_own_at w hgd s x t ho B e i z 2 16 ht hi hz hsz' hby hzs (by omega) v la.length (flat la) hs hown ⟨b, 0, none⟩ m c (flat lb) hx (by rw [flat_length, hl]) ?_ (flat_one lb) (by unfold maxLen; omega) (by omega) hB ?_
  · intro j u hu
    have hm : 0 < m := by
      have h1 := (List.getElem?_eq_some_iff.1 hu).1
      rw [flat_length] at h1
      omega
    obtain ⟨b, off, he, _, hc⟩ := hr.cell hm
    injection he with he
    injection he with he1 he2
    subst he1 he2
    have := hc j u hu
    unfold Addr.add
    split
    · rename_i h0; subst h0; simpa using this
    · exact this
  · intro v' w' hown' hg _ _
    have hown2 : OwP w' B e v' (la ++ lb) := by
      unfold OwP
      rw [flat_append, List.length_append, hl]
      exact hown'
    obtain ⟨A', c', rfl⟩ := hown2.form
    have h0 : (la ++ lb).length = N := by rw [List.length_append]; omega
    rw [h0] at hown2 ⊢
    exact h A' c' w' hown2 ((Below.refl B w).grown hg hB (fun k hk => (World.ownsRow.lt hown k hk).1)) hg
end

theorem cell_grownBy {w w' : World} {row : Option Nat} (h : w.grownBy w' row) {b i : Nat} (hb : b < w.heap.size) (hne : row ≠ some b) : w'.cell? ⟨b, i, none⟩ = w.cell? ⟨b, i, none⟩ := by
  obtain ⟨_, _, _, _, h5⟩ := h
  unfold World.cell?
  rw [h5 b hb (fun e => hne e.symm)]
end Go.Proofs.YtppmnelgekhbnaaGreatDoor
