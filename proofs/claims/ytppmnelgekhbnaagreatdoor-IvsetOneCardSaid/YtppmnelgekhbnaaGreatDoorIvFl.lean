/- The document's flags. -/
import Derived.Test.YtppmnelgekhbnaaGreatDoorIvWalk2
import Derived.Laws.ResultCell
import Derived.Laws.Rows
import Derived.Deep.Heap
import Derived.Lib.SmallJoins
namespace Go.Proofs.YtppmnelgekhbnaaGreatDoor.IvW
open Go.RowKit Iv

/-- 201 flags as cells. -/
def fl (m : Nat → Bool) : Array Value := ((List.range 201).map fun i => Value.bool (m i)).toArray
theorem fl_size (m : Nat → Bool) : (fl m).size = 201 := by simp [fl]
theorem fl_get (m : Nat → Bool) {i : Nat} (h : i < 201) : (fl m)[i]? = some (.bool (m i)) := by
  simp [fl, h]
theorem fl_set (m : Nat → Bool) (i : Nat) (b : Bool) : (fl m).setIfInBounds i (.bool b) = fl (fun x => if x = i then b else m x) := by
  apply Array.ext
  · simp [fl]
  · intro j h1 h2
    simp only [fl, Array.size_setIfInBounds, List.size_toArray, List.length_map, List.length_range] at h1
    by_cases hj : i = j
    · subst hj
      simp [fl]
    · rw [Array.getElem_setIfInBounds_ne (by simpa [fl] using h1) hj]
      have hj' : ¬ j = i := fun h => hj h.symm
      simp [fl, hj']
theorem fl_zero : Tryz.zeroCells43 = fl (fun _ => false) := by kernel_rfl

/-- A block of flags. -/
def Fb (w : World) (b : Nat) (m : Nat → Bool) : Prop := w.heap[b]? = some (.cells (fl m) 43)
theorem Fb.lt {w : World} {b : Nat} {m : Nat → Bool} (h : Fb w b m) : b < w.heap.size := (Array.getElem?_eq_some_iff.1 h).1
theorem Fb.below {w w' : World} {b : Nat} {m : Nat → Bool} (h : Fb w b m) (hb : Below w.heap.size w w') : Fb w' b m := (hb.block b h.lt).trans h
theorem fb_new (w : World) (m : Nat → Bool) : Fb (w.alloc (.cells (fl m) 43)) w.heap.size m := heap_alloc_new w _
theorem Fb.cell {w : World} {b : Nat} {m : Nat → Bool} (h : Fb w b m) {i : Nat} (hi : i < 201) : w.cell? ⟨b, i, none⟩ = some (.bool (m i)) := by
  unfold Fb at h
  simp [World.cell?, h, fl_get m hi]
theorem Fb.frozen {w : World} {b : Nat} {m : Nat → Bool} (h : Fb w b m) (i : Nat) : w.frozen? ⟨b, i, none⟩ = false := frozen_of_row w b i _ _ h
theorem Fb.set {w : World} {b : Nat} {m : Nat → Bool} (h : Fb w b m) (i : Nat) (v : Bool) : Fb (w.setCell ⟨b, i, none⟩ (.bool v)) b (fun x => if x = i then v else m x) := by
  unfold Fb at h ⊢
  rw [← fl_set]
  simp [World.setCell, Array.getElem?_modify, h]
theorem Fb.other {w : World} {b b' i : Nat} {m : Nat → Bool} (h : Fb w b m) (hne : b' ≠ b) (v : Value) : Fb (w.setCell ⟨b', i, none⟩ v) b m := by
  unfold Fb at h ⊢
  rw [Deep.blk_setCell_other _ _ _ _ (by simp only; omega)]
  exact h
theorem below_set {w0 w : World} {B b i : Nat} (h : Below B w0 w) (hb : B ≤ b) (v : Value) : Below B w0 (w.setCell ⟨b, i, none⟩ v) := h.setCell (p := ⟨b, i, none⟩) hb v

theorem info_set (m : Nat → Bool) : (Tryz.prog.info? 43).map (·.size) = some (fl m).size := by
  rw [fl_size]
  kernel_rfl
theorem fl_one (m : Nat → Bool) : (fl m).all (·.oneCell') = true := by
  rw [Array.all_eq_true_iff_forall_mem]
  intro v hv
  simp only [fl, List.mem_toArray, List.mem_map] at hv
  obtain ⟨i, _, rfl⟩ := hv
  rfl
theorem fb_row {w : World} {b : Nat} {m : Nat → Bool} (h : Fb w b m) (m' : Nat → Bool) : Fb (w.setRow b (fl m')) b m' := setRow_heap w b _ _ _ _ h
theorem below_row {w0 w : World} {B b : Nat} {m : Nat → Bool} (h : Below B w0 w) (_hf : Fb w b m) (hb : B ≤ b) (cs : Array Value) : Below B w0 (w.setRow b cs) :=
  ⟨h.os, h.tape, h.output, by rw [setRow_size]; exact h.size, fun k hk => by
    rw [setRow_other _ _ _ _ (by omega)]
    exact h.block k hk⟩
theorem res_fl {fn : Func} {p u : Tmp} (hf : fn.results = #[.cell p 43, .tmp u]) {tmps : Array Value} {w : World} {b : Nat} {m : Nat → Bool} {ok : Value}
    (h : Fb w b m) (hp : tmps.getD p undef = .pointer (some ⟨b, 0, none⟩)) (hu : tmps.getD u undef = ok) :
    (results fn tmps).run Tryz.prog w = .ok (.tuple #[.agg (fl m), ok]) w := by
  rw [results_cell_tmp hf, hp, hu]
  simp [asAddr, Result.andThen, run_loadVar_row w b _ _ _ _ _ h Tryz.underlying43 rfl (info_set m)]

theorem st_fl {w : World} {b : Nat} {m0 : Nat → Bool} (h : Fb w b m0) (m : Nat → Bool) : (storeCells ⟨b, 0, none⟩ (fl m).toList).run Tryz.prog w = .ok () (w.setRow b (fl m)) := by
  have := run_storeCells_from (P := Tryz.prog) b _ (fl m).toList 0 (fl m0) w h (by simp [fl_size]) (fun v hv => (Array.all_eq_true_iff_forall_mem.1 (fl_one m)) v (by simpa using hv))
  simpa using this

theorem ok_get : ∀ {l : List Span} {b : Int} {k : Nat} {p : Span}, okB b l = true → l[k]? = some p → b ≤ p.1 ∧ p.1 ≤ p.2 ∧ p.2 ≤ 200
  | [], _, _, _, _, h => by simp at h
  | (f, t) :: r, b, 0, p, h, hp => by
    rw [okB_iff] at h
    obtain ⟨h1, h2, h3, _⟩ := h
    simp at hp
    subst hp
    exact ⟨h1, h2, h3⟩
  | (f, t) :: r, b, k + 1, p, h, hp => by
    have hok := (okB_iff _ _).1 h
    obtain ⟨h1, h2, h3, h4⟩ := hok
    have := ok_get ((okB_iff _ _).2 h4) (by simpa using hp)
    omega

end Go.Proofs.YtppmnelgekhbnaaGreatDoor.IvW
