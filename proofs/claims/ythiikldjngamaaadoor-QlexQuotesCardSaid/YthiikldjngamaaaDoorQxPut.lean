/- A token is put behind the others. -/
import Derived.Test.YthiikldjngamaaaDoorQxScan
import Derived.Deep.AppendLies
import Derived.OwnWalk
import Derived.Deep.DeepCutAuto
namespace Go.Proofs.YthiikldjngamaaaDoor.Qx
open Go.RowKit UtfW

/-- 'append(x, y)' at tokens, as a step of a region that draws. -/
theorem step_append_tok {P : Program} {ops : Array Oper} {o : Oper} {a : Act} {K : Act → World → Prop} {Q : Exit → Act → World → Prop} {E0 : Prop} (w : World) (t e : TypeId) (z : Value) (ht : P.underlying t = some (.slice e))
    (hinfo : (P.info? e).map (fun i => (i.zero, i.size, i.bytes)) = some (some z, 3, 32)) (hzs : z.cells.size = 3)
    (hgd : o.guard = none) (s x : Operand)
    (ho : o.op = .call { callee := .builtin .append, args := #[s, x], argTypes := #[t, t] })
    (B : Nat) (v : Value) (la : List Tok) (hs : a.eval s = v) (hown : OwT w B e v la)
    (b c : Nat) (p : Tok) (hx : a.eval x = .slice (some ⟨b, 0, none⟩) 1 c) (hr : ∀ j u, (tf [p])[j]? = some u → w.cell? ⟨b, j, none⟩ = some u)
    (N : Nat) (hN : la.length + 1 = N) (hsz : N ≤ 1000000) (hB : B ≤ w.heap.size)
    (h : ∀ A' c' w', OwT w' B e (.slice A' N c') (la ++ [p]) → Below B w w' → K (a.put o.dst (.slice A' N c')) w') :
    if Region.wanted o (yielded ops a.tmps) = true then Oper.wp P o a w K Q else E0 := by
  obtain ⟨i, hi, hz, hsz', hby⟩ := info_parts hinfo
  refine step_append_lies w hgd s x t ho B e i z 3 32 ht hi hz hsz' hby hzs (by omega) v la.length (tf la) hs hown ⟨b, 0, none⟩ 1 c (tf [p]) hx rfl ?_ (tf_one [p]) (by omega) (by unfold maxLen; omega) (by omega) hB _ rfl ?_
  · intro j u hu
    have := hr j u hu
    unfold Addr.add
    split
    · rename_i h0; subst h0; exact this
    · show w.cell? ⟨b, 0 + j, none⟩ = some u
      rw [Nat.zero_add]
      exact this
  · intro g cap w' h1 hg _ _
    rw [hN] at h1 ⊢
    refine h _ _ w' ?_ ((Below.refl B w).grown hg hB (fun k hk => (World.ownsRow.lt hown k hk).1))
    unfold OwT
    rw [tf_append, List.length_append, show la.length + [p].length = N from hN]
    exact h1

theorem info_tok : (Tryd.prog.info? 31).map (fun i => (i.zero, i.size, i.bytes)) = some (some (.agg #[.int .i64 0, .int .i64 0, .string ⟨#[]⟩]), 3, 32) := by kernel_rfl

theorem tok_cells (W : World) (p : Tok) (E : TypeId) {g : Nat} (hh : W.heap[g]? = some (.cells #[.int .i64 p.1, .int .i64 p.2.1, .string (strOf p.2.2)] E)) : ∀ j u, (tf [p])[j]? = some u → W.cell? ⟨g, j, none⟩ = some u := by
  intro j u hu
  simp only [World.cell?, hh]
  rw [show tf [p] = [.int .i64 p.1, .int .i64 p.2.1, .string (strOf p.2.2)] from rfl] at hu
  rw [← Array.getElem?_toList]
  exact hu
theorem heap_new (w : World) (o : Obj) {V : Nat} (h : w.heap.size = V) : (w.alloc o).heap[V]? = some o := by
  subst h
  exact heap_alloc_new w o
theorem bD {B : Nat} {a w : World} (h : Below B a w) : Below B a w.drew := h.trans (Joins.below_draws _ w 1)
theorem bN {B : Nat} {a w : World} (h : Below B a w) (k : Nat) : Below B a (w.drewN k) := h.trans (Joins.below_draws _ w k)
theorem bA {a w : World} (h : Below a.heap.size a w) (o : Obj) : Below a.heap.size a (w.alloc o) := h.alloc h.size o
theorem size_drewN (w : World) (k : Nat) : (w.drewN k).heap.size = w.heap.size := by simp

theorem Sc.set2 {w w1 : World} {b : Nat} {S : List UInt8} {k : Nat} {ts ts' : List Tok} {A A' : Option Addr} {n n' c c' : Nat} (h : Sc w b S k ts A n c) (hb : Below (b + 1) w w1) (hr : OwT w1 (b + 1) 31 (.slice A' n' c') ts') :
    Sc (w1.setCell ⟨b, 2, none⟩ (.slice A' n' c')) b S k ts' A' n' c' := by
  have hb2 : Below b w (w1.setCell ⟨b, 2, none⟩ (.slice A' n' c')) := (hb.mono (Nat.le_succ b)).setCell (p := ⟨b, 2, none⟩) (Nat.le_refl _) _
  exact ⟨h.us.on hb2, setCell_blk ((hb.block b (Nat.lt_succ_self b)).trans h.blk) _, ownsRow_setCell_below hr (by simp only; omega) _⟩

theorem blk_cell {w : World} {b : Nat} {S : Value} {k m : Value} {E : TypeId} (h : w.heap[b]? = some (.cells #[S, k, m] E)) (i : Nat) : w.cell? ⟨b, i, none⟩ = (#[S, k, m] : Array Value)[i]? := by
  simp [World.cell?, h]
theorem put_after {w W w' : World} {b : Nat} {S : List UInt8} {k : Nat} {ts ts' : List Tok} {A A' : Option Addr} {n n' c c' : Nat} (h : Sc w b S k ts A n c) (h2 : Below (b + 1) W w') (hw : Below w.heap.size w W) (h1 : OwT w' (b + 1) 31 (.slice A' n' c') ts') :
    Sc (w'.setCell ⟨b, 2, none⟩ (.slice A' n' c')) b S k ts' A' n' c' ∧ w'.heap[b]? = some (.cells #[.string (strOf S), .int .i64 (k : Nat), .slice A n c] 43) ∧ Below b w w' :=
  ⟨(h.below hw).set2 h2 h1, (h2.block b (Nat.lt_succ_self b)).trans (h.below hw).blk, (hw.mono (Nat.le_of_lt h.lt)).trans (h2.mono (Nat.le_succ b))⟩
theorem bb {w W w' : World} {b : Nat} (h : Below (b + 1) W w') (hw : Below w.heap.size w W) (hb : b < w.heap.size) : Below b w w' := (hw.mono (Nat.le_of_lt hb)).trans (h.mono (Nat.le_succ b))

set_option maxRecDepth 100000 in
theorem put_any (w : World) (b : Nat) (S : List UInt8) (k : Nat) (ts : List Tok) (A : Option Addr) (n c : Nat) (hk : k ≤ S.length) (hS : S.length ≤ 1000) (hn : n ≤ 1000) (h : Sc w b S k ts A n c) (kd : Int) (m : Nat) (hm : m ≤ 2000) (tx : List UInt8) :
    Calls Tryd.prog 33 #[.pointer (some ⟨b, 0, none⟩), .int .i64 kd, .int .i64 (m : Nat), .string (strOf tx)] w fun e w' => e = .returned (.tuple #[]) ∧ (∃ A' c', Sc w' b S (k + m) (ts ++ [(kd, (k : Int), tx)]) A' (n + 1) c') ∧ Below b w w' := by
  have hlt := h.lt
  have hlen := h.row.len
  have g1 : ∀ q, (w.drewN q).cell? ⟨b, 1, none⟩ = some (.int .i64 (k : Nat)) := fun q => (h.below (Joins.below_draws _ w q)).c1
  have g2 : ∀ q, (w.drewN q).cell? ⟨b, 2, none⟩ = some (.slice A n c) := fun q => (h.below (Joins.below_draws _ w q)).c2
  have ba : ∀ q o, Below w.heap.size w ((w.drewN q).alloc o) := fun q o => (Joins.below_draws _ w q).alloc (Nat.le_refl _) o
  have g3 : ∀ q o, ((w.drewN q).alloc o).cell? ⟨b, 2, none⟩ = some (.slice A n c) := fun q o => (h.below (ba q o)).c2
  have g4 : ∀ o, (w.alloc o).cell? ⟨b, 2, none⟩ = some (.slice A n c) := fun o => (h.below (below_alloc w o)).c2
  have c1 := h.c1
  have c2 := h.c2
  have h' := Lib.hid h
  have hlen' := Lib.hid hlen
  clear h hlen
  obtain ⟨V, hV⟩ : ∃ V, w.heap.size = V := ⟨_, rfl⟩
  go_enter Tryd.func33, Tryd.ntmps33
  go_upto_region 0 with fail
  have HV := Lib.hid hV
  go_region_law (refine step_append_tok _ 23 31 _ Tryd.underlying23 info_tok rfl rfl _ _ rfl (b + 1) _ ts rfl (h'.out.row.below (by repeat (first | exact Below.refl _ _ | refine bA ?_ _ | refine bD ?_ | refine bN ?_ _))) _ _ (kd, (k : Int), tx) rfl (tok_cells _ (kd, (k : Int), tx) _ (by first | exact heap_new _ _ HV.out | exact heap_new _ _ ((size_drewN _ _).trans HV.out))) (n + 1) (by rw [hlen'.out]) (by omega) (by simp; omega) ?_; intro A' c' w' h1 h2; obtain ⟨h3, h4, hb2⟩ := put_after h'.out h2 (by repeat (first | exact Below.refl _ _ | refine bA ?_ _ | refine bD ?_ | refine bN ?_ _)) h1; have c2' := blk_cell h4 2; have f2' := frozen_of_row w' b 2 _ _ h4)
  all_goals have hs2 := Lib.hid h3
  all_goals have hb3 := Lib.hid (hb2.setCell (p := ⟨b, 2, none⟩) (Nat.le_refl _) (.slice A' (n + 1) c'))
  all_goals have d1 := h3.c1
  all_goals have e1 := h3.frozen 1
  all_goals clear h3 h4 c2' f2' h1 h2 hb2 g1 g2 g3 g4 ba c1 c2
  all_goals go_wp2_with fail
  all_goals go_end0
  all_goals have h5 := hs2.out.set1 (k + m)
  all_goals exact ⟨rfl, ⟨A', c', h5.1⟩, hb3.out.trans h5.2⟩
end Go.Proofs.YthiikldjngamaaaDoor.Qx
