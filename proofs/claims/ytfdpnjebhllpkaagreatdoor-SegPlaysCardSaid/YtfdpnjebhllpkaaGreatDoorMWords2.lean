/- More laws of appends: onto a full slice of bytes; rows of ints. -/
import Derived.Test.YtfdpnjebhllpkaaGreatDoorMWords
import Derived.ArgAppend
namespace Go.Proofs.YtfdpnjebhllpkaaGreatDoor
open Go.RowKit

section
variable {P : Program} {ops : Array Oper} {rest : List Oper} {o : Oper} {a : Act} {Q : Exit → Act → World → Prop}

/-- 'append(x, y...)' at bytes, x any slice that has no room. -/
theorem append_bytes_full (w : World) (t e : TypeId) (ht : P.underlying t = some (.slice e))
    (hinfo : (P.info? e).map (fun i => (i.zero, i.size, i.bytes)) = some (some (.int .u8 0), 1, 1))
    (hgd : o.guard = none) (s x : Operand)
    (ho : o.op = .call { callee := .builtin .append, args := #[s, x], argTypes := #[t, t] })
    (A : Option Addr) (n c : Nat) (la : List UInt8) (hs : a.eval s = .slice A n c) (hA : Bs w A n c la)
    (A2 : Option Addr) (m c2 : Nat) (lb : List UInt8) (hx : a.eval x = .slice A2 m c2) (hr : Bs w A2 m c2 lb) (hm : 0 < m) (hfull : c < n + m)
    (N : Nat) (hN : n + m = N) (hsz : N ≤ 140737488355328)
    (h : ∀ A' c' w', OwB w' w.heap.size e (.slice A' N c') (la ++ lb) → Below w.heap.size w w' → wpList P ops Q rest (a.put o.dst (.slice A' N c')) w') :
    wpList P ops Q (o :: rest) a w := by
  obtain ⟨i, hi, hz, hsz', hby⟩ := info_parts hinfo
  have hla := hA.len
  have hlb := hr.len
  obtain ⟨b2, off2, rfl, _, hc2⟩ := Rd.cell hr hm
  have addr : ∀ (b off j : Nat), (⟨b, off, none⟩ : Addr).add j = ⟨b, off + j, none⟩ := fun b off j => by
    unfold Addr.add
    split
    · rename_i h0; subst h0; rfl
    · rfl
  refine wpList_append_grows w hgd s x t ho e i (.int .u8 0) 1 1 ht hi hz hsz' hby rfl (by omega) A n c (bv la) hs (Rd.nil hA) (by simp [hla]) ?_ ⟨b2, off2, none⟩ m c2 (bv lb) hx (by simp [hlb]) ?_ (bv_oneCell lb) hfull (by unfold maxLen; omega) (by omega) ?_
  · intro b hb j u hu
    have hn : 0 < n := by
      have := (List.getElem?_eq_some_iff.1 hu).1
      simp [hla] at this
      omega
    obtain ⟨b1, off1, e1, _, hc1⟩ := Rd.cell hA hn
    rw [hb] at e1
    injection e1 with e1
    subst e1
    rw [addr]
    exact hc1 j u hu
  · intro j u hu
    rw [addr]
    exact hc2 j u hu
  · intro v' w' h1 h2
    obtain ⟨A', c', rfl⟩ := ownsRow_form h1
    rw [hN] at h1 ⊢
    refine h A' c' w' ?_ ⟨h2.1, h2.2, h2.3, h2.4, fun k hk => h2.5 k hk (by simp)⟩
    unfold OwB
    rw [bv_append, List.length_append, show la.length + lb.length = N from by omega]
    exact h1
end

/-- A row of ints of the call's own. -/
def OwZ (w : World) (B E : Nat) (v : Value) (zs : List Int) : Prop := w.ownsRow B E 1 v zs.length (zs.map (Value.int .i64))

theorem OwZ.nil (w : World) (B E : Nat) : OwZ w B E (.slice none 0 0) [] := World.ownsRow_nil w B E 1

theorem OwZ.below {w w' : World} {B E : Nat} {v : Value} {zs : List Int} (h1 : OwZ w B E v zs) (hb : Below w.heap.size w w') : OwZ w' B E v zs :=
  World.ownsRow.kept (row := none) h1 ⟨hb.os, hb.tape, hb.output, hb.size, fun k hk _ => hb.block k hk⟩ (by
    rcases h1.2 with ⟨rfl, _⟩ | ⟨g, cap, cur, rfl, _⟩
    · exact .inl rfl
    · right; simp [Value.ownBlock])

theorem OwZ.rd {w : World} {B E : Nat} {A : Option Addr} {n c : Nat} {zs : List Int} (h : OwZ w B E (.slice A n c) zs) : Rd w A n c (zs.map (Value.int .i64)) := by
  have hn : n = zs.length := by
    rcases h.2 with ⟨hv, h0⟩ | ⟨g, cap, cur, hv, _⟩
    · injection hv with _ h2 _; omega
    · injection hv
  subst hn
  exact rd_of_own h

theorem owz_lit (w : World) (B : Nat) (hB : B ≤ w.heap.size) (C : Array Value) (E : TypeId) (zs : List Int) (n : Nat) (hn : zs.length = n) (hn2 : n ≤ 9223372036854775807) (hC : C.toList = zs.map (Value.int .i64)) :
    OwZ (w.alloc (.cells C E)) B E (.slice (some ⟨w.heap.size, 0, none⟩) n n) zs := by
  subst hn
  have hs : C.size = zs.length := by
    have := congrArg List.length hC
    simpa using this
  refine ⟨by simp, .inr ⟨_, _, C, rfl, hB, heap_alloc_new w _, Nat.le_refl _, by unfold maxLen; omega, by omega, ?_⟩⟩
  rw [hC, List.take_of_length_le (by simp)]

section
variable {P : Program} {ops : Array Oper} {rest : List Oper} {o : Oper} {a : Act} {Q : Exit → Act → World → Prop}
/-- 'append(x, y...)' at ints, x a row of the call's own. -/
theorem append_ints (w : World) (t e : TypeId) (ht : P.underlying t = some (.slice e))
    (hinfo : (P.info? e).map (fun i => (i.zero, i.size, i.bytes)) = some (some (.int .i64 0), 1, 8))
    (hgd : o.guard = none) (s x : Operand)
    (ho : o.op = .call { callee := .builtin .append, args := #[s, x], argTypes := #[t, t] })
    (B : Nat) (v : Value) (la : List Int) (hs : a.eval s = v) (hown : OwZ w B e v la)
    (A : Option Addr) (m c : Nat) (lb : List Int) (hx : a.eval x = .slice A m c) (hr : Rd w A m c (lb.map (Value.int .i64)))
    (N : Nat) (hN : la.length + m = N) (hsz : N ≤ 17592186044416) (hB : B ≤ w.heap.size)
    (h : ∀ A' c' w', OwZ w' B e (.slice A' N c') (la ++ lb) → w.grownBy w' v.ownBlock → Below B w w' → wpList P ops Q rest (a.put o.dst (.slice A' N c')) w') :
    wpList P ops Q (o :: rest) a w := by
  have hl := hr.len
  rw [List.length_map] at hl
  refine wpList_append_rd w hgd s x t ho B e (.int .i64 0) 8 ht hinfo rfl v la.length (la.map (Value.int .i64)) hs hown A m c (lb.map (Value.int .i64)) hx hr (fun u hu => ?_) (by omega) (by omega) hB ?_
  · obtain ⟨z, _, rfl⟩ := List.mem_map.1 hu
    rfl
  intro A' c' w' h1 h2 h3 _
  rw [hN] at h1 ⊢
  refine h A' c' w' ?_ h2 h3
  unfold OwZ
  rw [List.map_append, List.length_append, show la.length + lb.length = N from by omega]
  exact h1
end
end Go.Proofs.YtfdpnjebhllpkaaGreatDoor
