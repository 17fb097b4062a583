/- ivset.Has. -/
import Derived.Test.YtppmnelgekhbnaaGreatDoorIvCount
import Derived.Shelf.SlicesQ.IndexFunc
import Derived.Ground.SlgfProg
import Derived.Lib.SliceRun
import Derived.Shelf.Lay
namespace Go.Proofs.YtppmnelgekhbnaaGreatDoor
open Go.Shelf Go.RowKit Go.Lib
shelf_lay_g SlLaysH0.n8 Slgf 8 at Tryz 24 as Tryz.laysHas
end Go.Proofs.YtppmnelgekhbnaaGreatDoor
namespace Go.Proofs.YtppmnelgekhbnaaGreatDoor.IvW
open Go.RowKit Iv

/-- Whether a version is in a set. -/
def has? (l : List Span) (v : Int) : Bool := okB 1 l && mem l v

theorem clos_has (v : Int) (B : Nat) (w : World) (hB : B < w.heap.size) (hcell : w.cell? ⟨B, 0, none⟩ = some (.int .i64 v)) :
    PredBelow Tryz.prog 25 #[.pointer (some ⟨B, 0, none⟩)] (fun x => .agg (spanC x).toArray) (fun x : Span => decide (x.1 ≤ v) && decide (v ≤ x.2)) w := fun W x hb => by
  have hc : W.cell? ⟨B, 0, none⟩ = some (.int .i64 v) := (hb.cell (p := ⟨B, 0, none⟩) hB).trans hcell
  have hBW : B < W.heap.size := Nat.lt_of_lt_of_le hB hb.size
  have hne : B ≠ W.heap.size := by omega
  obtain ⟨f, t⟩ := x
  show Calls Tryz.prog 25 #[.agg #[.int .i64 f, .int .i64 t], .pointer (some ⟨B, 0, none⟩)] W _
  by_cases h1 : f ≤ v
  · have t1 : decide (f ≤ v) = true := by simpa using h1
    by_cases h2 : v ≤ t
    · have t2 : decide (v ≤ t) = true := by simpa using h2
      go_enter Tryz.func25, Tryz.ntmps25
      go_wp2
      go_ret
      exact ⟨by simp [t1, t2], hb.alloc hb.size _⟩
    · have t2 : decide (v ≤ t) = false := by simpa using h2
      go_enter Tryz.func25, Tryz.ntmps25
      go_wp2
      go_ret
      exact ⟨by simp [t2], hb.alloc hb.size _⟩
  · have t1 : decide (f ≤ v) = false := by simpa using h1
    go_enter Tryz.func25, Tryz.ntmps25
    go_wp2
    go_ret
    exact ⟨by simp [t1], hb.alloc hb.size _⟩

set_option maxHeartbeats 1000000 in
set_option maxRecDepth 100000 in
/-- No element: false. -/
theorem contains0 (A : Option Addr) (c : Nat) (fn : FuncId) (lb : Array Value) (w : World) : Calls Tryz.prog 24 #[.slice A 0 c, .func (.func fn) #[] lb] w fun e w' => e = .returned (.bool false) ∧ Below w.heap.size w w' := by
  have c1 : ∀ w, Calls Tryz.prog 34 #[.slice A 0 c, .func (.func fn) #[] lb] w fun e w' => e = .returned (.int .i64 (-1)) ∧ w' = w := fun w => by
    go_enter Tryz.func34, Tryz.ntmps34
    go_wp2_with fail
    go_loop [8] (fun i => i = .int .i64 0) (fun _ => 0)
    case atStart => rfl
    case round =>
      obtain rfl := hrel
      go_wp2_with fail
      go_ret
      exact ⟨rfl, rfl⟩
  go_enter Tryz.func24, Tryz.ntmps24
  go_wp2_with fail
  refine (c1 _).mono ?_
  rintro e w1 ⟨rfl, rfl⟩
  go_wp2_with fail
  go_ret
  exact ⟨rfl, Below.refl _ _⟩

theorem contains_any (v : Int) (B : Nat) (A : Option Addr) (n c : Nat) (l : List Span) (w : World) (hR : Rp w A n c l) (hB : B < w.heap.size) (hcell : w.cell? ⟨B, 0, none⟩ = some (.int .i64 v)) :
    Calls Tryz.prog 24 #[.slice A n c, .func (.func 25) #[] #[.pointer (some ⟨B, 0, none⟩)]] w fun e w' => e = .returned (.bool (mem l v)) ∧ Below w.heap.size w w' := by
  have hlen := hR.len
  have hle := hR.le
  have hm := hR.max
  by_cases h0 : n = 0
  · subst h0
    have : l = [] := List.eq_nil_of_length_eq_zero hlen
    subst this
    exact contains0 A c _ _ w
  · obtain ⟨b, off, rfl, hb, hc⟩ := hR.cell (by omega)
    have eg : ∀ args w, (callFunc 25 args).run Tryz.prog w = .ok (.enter 25 args) w := enters_of Tryz.func25 (by kernel_rfl) rfl
    have hcon := AnyQ.slices_ContainsFunc Tryz.laysHas 2 Tryz.isAgg41 Tryz.sizeOf41 spanC (fun _ => rfl) (fun x : Span => decide (x.1 ≤ v) && decide (v ≤ x.2)) 25 #[.pointer (some ⟨B, 0, none⟩)] eg b off n c l w
      (clos_has v B w hB hcell) (by omega) (by omega) hb (fun j hj i u hi => by
        have hj' : l[j]? = some l[j] := List.getElem?_eq_getElem hj
        have h1 := flat_get hj'
        rw [getElem!_pos l j hj] at hi
        generalize l[j] = y at hi h1
        match i, hi with
        | 0, hi => simp [spanC] at hi; rw [← hi]; exact hc _ _ h1.1
        | 1, hi => simp [spanC] at hi; rw [← hi, Nat.add_assoc]; exact hc _ _ h1.2
        | i + 2, hi => simp [spanC] at hi)
    change Calls Tryz.prog 24 _ _ _ at hcon
    rw [List.take_of_length_le (by omega)] at hcon
    exact hcon

set_option maxHeartbeats 1000000 in
set_option maxRecDepth 100000 in
theorem has_any (A : Option Addr) (n c : Nat) (l : List Span) (v : Int) (w : World) (hR : Rp w A n c l) :
    Calls Tryz.prog 9 #[.slice A n c, .int .i64 v] w fun e w' => e = .returned (.bool (has? l v)) ∧ Below w.heap.size w w' := by
  have hb0 := below_alloc w (.cells #[.int .i64 v] 3)
  have k0 : (w.alloc (.cells #[.int .i64 v] 3)).cell? ⟨w.heap.size, 0, none⟩ = some (.int .i64 v) := by
    have hh : (w.alloc (.cells #[.int .i64 v] 3)).heap[w.heap.size]? = some (.cells #[.int .i64 v] 3) := heap_alloc_new w _
    simp only [World.cell?, hh]
    rfl
  have hs : w.heap.size < (w.alloc (.cells #[.int .i64 v] 3)).heap.size := by simp
  obtain ⟨w0, hw0⟩ : ∃ w0, w.alloc (.cells #[.int .i64 v] 3) = w0 := ⟨_, rfl⟩
  rw [hw0] at hb0 k0 hs
  have hR0 := Lib.hid (hR.below hb0)
  have c1 := may_any A n c l w0 hR0.out
  have hx0 := Lib.hid hb0
  obtain ⟨R, hR'⟩ : ∃ R, has? l v = R := ⟨_, rfl⟩
  rw [hR']
  unfold has? at hR'
  clear hb0 hR
  cases ha : okB 1 l
  · rw [ha] at c1 hR'
    simp only [Bool.false_and] at hR'
    subst hR'
    go_enter Tryz.func9, Tryz.ntmps9
    go_wp2_with (go_at_call 7; refine c1.mono ?_; rintro e w1 ⟨rfl, hb1⟩)
    go_ret
    exact ⟨rfl, hx0.out.trans (hb1.mono hx0.out.size)⟩
  · rw [ha] at c1 hR'
    simp only [Bool.true_and] at hR'
    go_enter Tryz.func9, Tryz.ntmps9
    go_wp2_with fail
    refine c1.mono ?_
    rintro e w1 ⟨rfl, hb1⟩
    have c2 := contains_any v w.heap.size A n c l w1 (hR0.out.below hb1) (by have := hb1.size; omega) ((hb1.cell (p := ⟨w.heap.size, 0, none⟩) hs).trans k0)
    rw [hR'] at c2
    have hx1 := Lib.hid (hx0.out.trans (hb1.mono hx0.out.size))
    clear hR' k0 hb1 c1 ha hw0
    go_wp2_with fail
    refine c2.mono ?_
    rintro e w2 ⟨rfl, hb2⟩
    have hx2 := Lib.hid (hx1.out.trans (hb2.mono hx1.out.size))
    clear hb2 c2
    go_wp2_with fail
    go_ret
    exact ⟨rfl, hx2.out⟩
end Go.Proofs.YtppmnelgekhbnaaGreatDoor.IvW
