/- A manifest in a result's cell: written anew, and handed back. -/
import Derived.Test.YtpolobklcgfciaaDoorManEnc
import Derived.Laws.ResultCell
import Derived.Laws.Rows
import Derived.Deep.Heap
namespace Go.Proofs.YtpolobklcgfciaaDoor.Ma
open Go.RowKit Go.Shelf

/-- A manifest's block. -/
def Mb (w : World) (b : Nat) (g la : Int) (A : Option Addr) (n c : Nat) : Prop :=
  w.heap[b]? = some (.cells #[.int .i64 g, .int .i64 la, .slice A n c] 24)

theorem Mb.lt {w : World} {b : Nat} {g la : Int} {A : Option Addr} {n c : Nat} (h : Mb w b g la A n c) : b < w.heap.size := (Array.getElem?_eq_some_iff.1 h).1

theorem Mb.below {w w' : World} {b : Nat} {g la : Int} {A : Option Addr} {n c : Nat} (h : Mb w b g la A n c) (hb : Below w.heap.size w w') : Mb w' b g la A n c :=
  (hb.block b h.lt).trans h

theorem mb_new (w : World) (g la : Int) (A : Option Addr) (n c : Nat) : Mb (w.alloc (.cells #[.int .i64 g, .int .i64 la, .slice A n c] 24)) w.heap.size g la A n c :=
  heap_alloc_new w _

theorem Mb.mf {w : World} {b : Nat} {g la : Int} {A : Option Addr} {n c : Nat} (h : Mb w b g la A n c) : Mf w b g la A n c := by
  have hl := h.lt
  unfold Mb at h
  refine ⟨?_, ?_, ?_, hl⟩ <;> simp [World.cell?, h]

theorem Mb.frozen {w : World} {b : Nat} {g la : Int} {A : Option Addr} {n c : Nat} (h : Mb w b g la A n c) (i : Nat) : w.frozen? ⟨b, i, none⟩ = false := frozen_of_row w b i _ _ h

theorem setCell_mb {w : World} {b i : Nat} {cs : Array Value} {E : TypeId} (h : w.heap[b]? = some (.cells cs E)) (v : Value) : (w.setCell ⟨b, i, none⟩ v).heap[b]? = some (.cells (cs.setIfInBounds i v) E) := by
  simp [World.setCell, Array.getElem?_modify, h]

/-- The three stores, one behind the other. -/
theorem mb_set {w : World} {b : Nat} {g la : Int} {A : Option Addr} {n c : Nat} (h : Mb w b g la A n c) (g' la' : Int) (A' : Option Addr) (n' c' : Nat) :
    Mb (((w.setCell ⟨b, 0, none⟩ (.int .i64 g')).setCell ⟨b, 1, none⟩ (.int .i64 la')).setCell ⟨b, 2, none⟩ (.slice A' n' c')) b g' la' A' n' c' := by
  have h1 := setCell_mb h (i := 0) (.int .i64 g')
  have h2 := setCell_mb h1 (i := 1) (.int .i64 la')
  exact setCell_mb h2 (i := 2) (.slice A' n' c')

theorem below_set {w0 w : World} {B b i : Nat} (h : Below B w0 w) (hb : B ≤ b) (v : Value) : Below B w0 (w.setCell ⟨b, i, none⟩ v) :=
  ⟨h.os, h.tape, h.output, by rw [Deep.nblk_setCell]; exact h.size, fun k hk => by
    rw [Deep.blk_setCell_other _ _ _ _ (by simp only; omega)]
    exact h.block k hk⟩

theorem rd_set {w : World} {A : Option Addr} {n c b i : Nat} {xs : List Value} (h : Rd w A n c xs) (hne : ∀ a, A = some a → 0 < n → a.block ≠ b) (v : Value) : Rd (w.setCell ⟨b, i, none⟩ v) A n c xs :=
  { len := h.len, le := h.le, max := h.max, nil := h.nil, cell := fun hn => by
      obtain ⟨b', off, e, hb, hc⟩ := h.cell hn
      refine ⟨b', off, e, by rw [Deep.nblk_setCell]; exact hb, fun j u hu => ?_⟩
      have := hc j u hu
      have hk := Deep.blk_setCell_other w ⟨b, i, none⟩ v b' (by have := hne _ e hn; simpa using this)
      unfold World.cell? at this ⊢
      rw [hk]
      exact this }

theorem load_mb {w : World} {b : Nat} {g la : Int} {A : Option Addr} {n c : Nat} (h : Mb w b g la A n c) : (loadVar 24 ⟨b, 0, none⟩).run Tryd.prog w = .ok (.agg #[.int .i64 g, .int .i64 la, .slice A n c]) w :=
  run_loadVar_row w b _ _ _ _ _ h Tryd.underlying24 rfl (by kernel_rfl)

theorem res_mb {fn : Func} {p u : Tmp} (hf : fn.results = #[.cell p 24, .tmp u]) {tmps : Array Value} {w : World} {b : Nat} {g la : Int} {A : Option Addr} {n c : Nat} {ok : Value}
    (h : Mb w b g la A n c) (hp : tmps.getD p undef = .pointer (some ⟨b, 0, none⟩)) (hu : tmps.getD u undef = ok) :
    (results fn tmps).run Tryd.prog w = .ok (.tuple #[.agg #[.int .i64 g, .int .i64 la, .slice A n c], ok]) w := by
  rw [results_cell_tmp hf, hp, hu]
  simp [asAddr, Result.andThen, load_mb h]
end Go.Proofs.YtpolobklcgfciaaDoor.Ma
