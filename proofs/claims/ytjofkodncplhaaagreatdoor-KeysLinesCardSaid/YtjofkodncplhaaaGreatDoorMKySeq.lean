/- A range over an iterator that writes to a box of its own (strings.Lines): the law of the kit, its contract widened by that. No program stands here. -/
import Derived.RangeFuncNested
import Derived.RangeFuncBound
import Derived.RangeFuncCalls
import Derived.RangeFuncLeaves
namespace Go.Proofs.YtjofkodncplhaaaGreatDoor.Ky
open Go.RowKit

/-- An iterator over xs that may write to the box Bb ahead of each round. -/
def SeqBox {α : Type} (F : Fence) (n : Nat) (P : Program) (g : Nat) (lb : Array Value) (encs : α → Array Value) (Bb : Nat) (Kp : World → World → Prop) (S Sp : List α → Prop) (N : Nat) (w : World) : Prop :=
  ∀ (l : Nat) (J Jx : List α → World → Prop) (W : World), Below w.heap.size w W → AbidesFrom W.heap.size J → AbidesFrom W.heap.size Jx →
    (∀ pre v W1, J pre W1 → J pre (W1.setCell ⟨Bb, 0, none⟩ v)) →
    (∀ pre x W1, J pre W1 → pre.length < N → YieldAt F (n - 1) P l (encs x) W1 fun e W' =>
      (e = .returned (.bool true) ∧ J (pre ++ [x]) W' ∧ Kp W1 W') ∨ (e = .returned (.bool false) ∧ Jx (pre ++ [x]) W')) →
    J [] W →
    CallsIn F n P g (#[.func (.yield l) #[] #[]] ++ lb) W fun e W' => (∃ v, e = .returned v) ∧ ((∃ xs, S xs ∧ J xs W') ∨ (∃ pre, Sp pre ∧ Jx pre W'))

/-- How a round's body is left: it goes on, or the function returns. -/
def boxPost {α : Type} (Kp : World → World → Prop) (I Ix : List α → World → Prop) (xs : List α) (W : World) : Exit → Act → World → Prop
  | .normal, _, W' => KeepsOthers W W' ∧ Kp W W' ∧ I xs W'
  | .ret, _, W' => KeepsOthers W W' ∧ Ix xs W'
  | .exit _, _, _ => False
  | .goto _, _, _ => False
  | .panic _, _, _ => False
  | .outgrown, _, _ => False

variable {F : Fence} {n : Nat} {P : Program}

theorem wpIn_rangeFunc_box {α : Type} {g : Operand} {ps : Array Tmp} {assign body : Code} {Q : Exit → Act → World → Prop} {a : Act} {w : World}
    (hro : F.round = none) (h1 : 1 ≤ n) {gf : Nat} {lb : Array Value} (hg : a.eval g = .func (.func gf) #[] lb) (hFg : F.fn gf) (eg : ∀ args w, (callFunc gf args).run P w = .ok (.enter gf args) w)
    {encs : α → Array Value} {Bb : Nat} {Kp : World → World → Prop} {S Sp : List α → Prop} {N : Nat} (hseq : SeqBox F (n - 1) P gf lb encs Bb Kp S Sp N w) (hBb : Bb < w.heap.size)
    (hKt : ∀ {A B C : World}, Kp A B → Kp B C → Kp A C) (hKb : ∀ (W : World) (l : Nat) (o o' : Obj), w.heap.size ≤ l → W.heap[l]? = some o → Kp W (W.putObj l o')) (hps : ∀ x, (encs x).size = ps.size)
    (I Ix : List α → World → Prop) (hI : OwnFrom w.heap.size I) (hIx : OwnFrom w.heap.size Ix) (hIb : ∀ pre v W, I pre W → I pre (W.setCell ⟨Bb, 0, none⟩ v)) (h0 : I [] w) (a₁ : α → Act)
    (hassign : ∀ (l : Nat) (x : α) (W : World) (K : Act → World → Prop), K (a₁ x) W →
      assign.wpIn (F.inRound l) (n - 1 - 1) P (Exit.then K (fun _ _ _ => False)) { tmps := (ps.zip (encs x)).foldl (fun t (p, v) => t.setIfInBounds p v) a.tmps, defers := [] } W)
    (hbody : ∀ (l : Nat) (pre : List α) (x : α) (W : World), I pre W → pre.length < N → body.wpIn (F.inRound l) (n - 1 - 1) P (boxPost Kp I Ix (pre ++ [x]) W) (a₁ x) W)
    (hdone : ∀ (D : Nat) (xs : List α) (W : World), w.heap.size ≤ D → S xs → I xs W → W.heap[D]? = some (.deferred (some [])) → Q .normal { a with defers := { target := .collected D, args := #[] } :: a.defers } W)
    (hstop : ∀ (D : Nat) (pre : List α) (W : World), w.heap.size ≤ D → Sp pre → Ix pre W → W.heap[D]? = some (.deferred (some [])) → Code.ret.wpIn F n P Q { a with defers := { target := .collected D, args := #[] } :: a.defers } W) :
    (Code.rangeFunc g ps assign body).wpIn F n P Q a w := by
  refine wpIn_rangeFunc fun fn hfn => ?_
  rw [hro]
  obtain ⟨d0, hd0⟩ : ∃ d0, w.heap.size = d0 := ⟨_, rfl⟩
  obtain ⟨rec, hrec⟩ : ∃ rec : LoopState → Option Code → Loop, rec = fun st pe => { state := st, pending := pe, fn, tmps := a.tmps, params := ps, assign, body, defers := d0 } := ⟨_, rfl⟩
  obtain ⟨W1, hW1⟩ : ∃ W1, (w.alloc (.deferred (some []))).alloc (.loop (rec .ready none)) = W1 := ⟨_, rfl⟩
  have hL1 : W1.heap[d0 + 1]? = some (.loop (rec .ready none)) := by
    have := World.alloc_heap_new (w.alloc (.deferred (some []))) (.loop (rec .ready none))
    rwa [World.size_alloc, hd0, hW1] at this
  have hK1 : W1.heap[d0]? = some (.deferred (some [])) := by
    rw [← hW1, ← hd0]
    exact (Below.heap_alloc _ _ _ (by simp)).trans (World.alloc_heap_new w _)
  have hI1 : I [] W1 := by rw [← hW1]; exact hI.alloc _ (hI.alloc _ h0)
  have hb1 : Below w.heap.size w W1 := by
    rw [← hW1]
    exact ((Below.refl _ w).alloc (Nat.le_refl _) _).alloc (by simp) _
  have hs1 : W1.heap.size = d0 + 2 := by rw [← hW1, World.size_alloc, World.size_alloc, hd0]
  refine ⟨d0 + 1, [{ target := .collected d0, args := #[] }], W1, { target := .fn (.func gf) lb, args := #[.func (.yield (d0 + 1)) #[] #[]] }, W1, gf, #[.func (.yield (d0 + 1)) #[] #[]] ++ lb, W1, ?_, ?_, ?_, ?_, fun _ => h1, ?_⟩
  · rw [← hW1, hrec, ← hd0]
    exact run_enterLoop_outer _ _ _ _ _
  · simp only [resolve, hg]
    simp [go_sem]
  · intro f' hf'
    simp [Target.leads] at hf'
    subst hf'
    exact hFg
  · simp [invoke, go_sem, eg]
  have hnw : ∀ {A : World} {row : Option Nat}, (∀ r, row = some r → W1.heap.size ≤ r ∧ ∃ o : Obj, A.heap[r]? = some o ∧ o.isWalk = true) → (∀ r, row = some r → w.heap.size ≤ r ∧ ∃ o : Obj, A.heap[r]? = some o ∧ o.isCells = false) := fun hr r e => by
    obtain ⟨hB, o, ho, hw⟩ := hr r e
    exact ⟨by omega, o, ho, Obj.not_cells_of_walk hw⟩
  refine (hseq (d0 + 1)
    (fun pre W => I pre W ∧ W.heap[d0 + 1]? = some (.loop (rec .ready none)) ∧ W.heap[d0]? = some (.deferred (some [])))
    (fun pre W => Ix pre W ∧ W.heap[d0 + 1]? = some (.loop (rec .done (some .ret))) ∧ W.heap[d0]? = some (.deferred (some [])))
    W1 hb1 ?_ ?_ ?_ ?_ ⟨hI1, hL1, hK1⟩).mono ?_
  · rintro s A B row ⟨h2, h3, h4⟩ hg' hr
    exact ⟨hI s A B row h2 hg' (hnw hr), (grownBy_keeps hg' (fun r e => (hr r e).2) h3 rfl).trans h3, (grownBy_keeps hg' (fun r e => (hr r e).2) h4 rfl).trans h4⟩
  · rintro s A B row ⟨h2, h3, h4⟩ hg' hr
    exact ⟨hIx s A B row h2 hg' (hnw hr), (grownBy_keeps hg' (fun r e => (hr r e).2) h3 rfl).trans h3, (grownBy_keeps hg' (fun r e => (hr r e).2) h4 rfl).trans h4⟩
  · rintro pre v W ⟨h2, h3, h4⟩
    exact ⟨hIb pre v W h2, (Below.heap_setCell W ⟨Bb, 0, none⟩ v (d0 + 1) (by simp; omega)).trans h3, (Below.heap_setCell W ⟨Bb, 0, none⟩ v d0 (by simp; omega)).trans h4⟩
  · rintro pre x W ⟨hi, hl, hk⟩ hlen
    have hlt : d0 + 1 < W.heap.size := (Array.getElem?_eq_some_iff.1 hl).1
    have hy := run_yield (P := P) (args := encs x) hl (by rw [hrec]; exact hps x)
    rw [hrec] at hy
    refine ⟨fn, _, assign, body, hy, roundIn_of_wpIn hfn (hassign _ x W _ ⟨_, run_beginRound hl (by rw [hrec]), ?_⟩)⟩
    obtain ⟨Wb, hWb⟩ : ∃ Wb, W.putObj (d0 + 1) (.loop { rec .ready none with state := .busy }) = Wb := ⟨_, rfl⟩
    have hl2 : Wb.heap[d0 + 1]? = some (.loop { rec .ready none with state := .busy }) := by rw [← hWb]; exact World.putObj_heap_same hlt
    have hk2 : Wb.heap[d0]? = some (.deferred (some [])) := by rw [← hWb]; exact (World.putObj_heap_other (by omega)).trans hk
    have hw2 : Kp W Wb := by rw [← hWb]; exact hKb _ _ _ _ (by omega) hl
    have hi2 : I pre Wb := by rw [← hWb]; exact hI.putObj _ hi (by omega) hl rfl
    rw [hWb]
    refine wpIn_mono (hbody _ pre x _ hi2 hlen) ?_
    have fin : ∀ (jump : Option Code) (W3 : World), KeepsOthers Wb W3 →
        (Instr.endRound (d0 + 1) jump).run P W3 = .ok (.bool jump.isNone) (W3.putObj (d0 + 1) (.loop (rec (if jump.isNone then .ready else .done) jump))) ∧
        W3.heap[d0 + 1]? = some (.loop { rec .ready none with state := .busy }) ∧
        (W3.putObj (d0 + 1) (.loop (rec (if jump.isNone then .ready else .done) jump))).heap[d0 + 1]? = some (.loop (rec (if jump.isNone then .ready else .done) jump)) ∧
        (W3.putObj (d0 + 1) (.loop (rec (if jump.isNone then .ready else .done) jump))).heap[d0]? = some (.deferred (some [])) := fun jump W3 hk3 => by
      have hl3 := hk3.same _ _ hl2 rfl
      have h5 := run_endRound (P := P) jump hl3
      refine ⟨?_, hl3, World.putObj_heap_same (Array.getElem?_eq_some_iff.1 hl3).1, (World.putObj_heap_other (by omega)).trans (hk3.same _ _ hk2 rfl)⟩
      rw [hrec] at h5 ⊢
      exact h5
    rintro e a3 W3 hp
    cases e with
    | normal =>
      obtain ⟨hk3, hkp3, hi3⟩ := hp
      obtain ⟨hr, hl3, hl4, hk4⟩ := fin none W3 hk3
      exact ⟨_, _, hr, .inl ⟨rfl, ⟨hI.putObj _ hi3 (by omega) hl3 rfl, hl4, hk4⟩, hKt (hKt hw2 hkp3) (hKb _ _ _ _ (by omega) hl3)⟩⟩
    | ret =>
      obtain ⟨hk3, hi3⟩ := hp
      obtain ⟨hr, hl3, hl4, hk4⟩ := fin (some .ret) W3 hk3
      exact ⟨_, _, hr, .inr ⟨rfl, hIx.putObj _ hi3 (by omega) hl3 rfl, hl4, hk4⟩⟩
    | exit id => exact hp.elim
    | goto t => exact hp.elim
    | panic ch => exact hp.elim
    | outgrown => exact hp.elim
  · rintro e W2 ⟨⟨v, rfl⟩, (⟨xs, hS, hi, hl, hk⟩ | ⟨pre, hSp, hi, hl, hk⟩)⟩
    · have h5 := run_endLoop (P := P) hl (by rw [hrec]; simp)
      rw [hrec] at h5
      exact ⟨none, _, h5, hdone _ xs _ (Nat.le_of_eq hd0) hS (hI.putObj _ hi (by omega) hl rfl) ((World.putObj_heap_other (by omega)).trans hk)⟩
    · have h5 := run_endLoop (P := P) hl (by rw [hrec]; simp)
      rw [hrec] at h5
      exact ⟨some .ret, _, h5, hstop _ pre _ (Nat.le_of_eq hd0) hSp (hIx.putObj _ hi (by omega) hl rfl) ((World.putObj_heap_other (by omega)).trans hk)⟩
end Go.Proofs.YtjofkodncplhaaaGreatDoor.Ky
