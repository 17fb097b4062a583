/- slices.Insert at functions: one ahead of four that have no room left. -/
import Derived.Test.YtfdpnjebhllpkaaGreatDoorMMnDel
import Derived.Test.YtfdpnjebhllpkaaGreatDoorMDkClos4
import Derived.Shelf.Spec.SlicesInsert
import Derived.Lib.AppendZerosOnto
namespace Go.Proofs.YtfdpnjebhllpkaaGreatDoor.Mn
open Go.RowKit Go.Shelf Dk

theorem infoF : (Tryz.prog.info? 142).map (fun i => (i.zero, i.size, i.bytes)) = some (some .nilFunc, 1, 8) := by kernel_rfl

theorem below_cells' {B b : Nat} {a : World} (hb : B ≤ b) : ∀ (vs : List Value) (o : Nat) (w : World), Below B a w → B ≤ w.heap.size → Below B a (w.setCells b o vs)
  | [], _, _, h, _ => h
  | v :: vs, o, w, h, hs => below_cells' hb vs (o + 1) _ (h.trans (below_row (grown_set w ⟨b, o, none⟩ v) hb hs)) (Nat.le_trans hs (grown_set w ⟨b, o, none⟩ v).size)
theorem setCells_blk' {g : Nat} {E : TypeId} : ∀ (vs : List Value) (o : Nat) (w : World), (∃ cs, w.heap[g]? = some (Obj.cells cs E)) → ∃ cs, (w.setCells g o vs).heap[g]? = some (Obj.cells cs E)
  | [], _, _, h => h
  | v :: vs, o, w, ⟨cs, h⟩ => setCells_blk' vs (o + 1) _ ⟨cs.setIfInBounds o v, by simp [World.setCell, Array.getElem?_modify, h]⟩

set_option maxHeartbeats 2000000 in
set_option maxRecDepth 100000 in
theorem insert_any (b vb : Nat) (cs : List Value) (v : Value) (hl : cs.length = 4) (w : World) (hcs : ∀ (j : Nat) u, cs[j]? = some u → w.cell? ⟨b, j, none⟩ = some u) (hv : w.cell? ⟨vb, 0, none⟩ = some v) (h1c : ∀ u ∈ cs, u.oneCell' = true) (h1v : v.oneCell' = true) :
    Calls Tryz.prog 100 #[.slice (some ⟨b, 0, none⟩) 4 4, .int .i64 0, .slice (some ⟨vb, 0, none⟩) 1 1] w fun e w' =>
      ∃ c, e = .returned (.slice (some ⟨w.heap.size, 0, none⟩) 5 c) ∧ 5 ≤ c ∧ c ≤ 9223372036854775807 ∧ Below w.heap.size w w' ∧ (∃ cur, w'.heap[w.heap.size]? = some (Obj.cells cur 142)) ∧ ∀ (j : Nat) u, (v :: cs)[j]? = some u → w'.cell? ⟨w.heap.size, j, none⟩ = some u := by
  have u0 := run_underlying Tryz.underlying144
  obtain ⟨i0, hi0, hz0, hzs, hzb⟩ := info_parts infoF
  have hsz : (Tryz.prog.info? 142).map (·.size) = some 1 := by rw [hi0]; simp [hzs]
  have hbw : b < w.heap.size := block_lt_of_cell (hcs 0 _ (List.getElem?_eq_getElem (by omega)))
  have hvw : vb < w.heap.size := block_lt_of_cell hv
  have hold : (Builtin.firstCells i0.size 0 (.slice (some ⟨b, 0, none⟩) 0 4)).run Tryz.prog w.drew = .ok ([] : List Value).toArray w.drew := by
    rw [hzs]
    exact run_firstCells_some w.drew 1 0 ⟨b, 0, none⟩ 0 4 [] rfl (fun j v hj => by simp at hj)
  obtain ⟨G, hG⟩ : ∃ G, grownCap w 5 4 142 = G := ⟨_, rfl⟩
  have hGn : 5 ≤ G := by rw [← hG]; exact grownCap_ge w _ _ _
  have hG63 : G ≤ 9223372036854775807 := by
    have := grownCap_le_maxLen w 5 4 142 (by unfold maxLen; omega)
    rw [hG] at this
    unfold maxLen at this
    omega
  obtain ⟨ROW, hROW⟩ : ∃ ROW : Array Value, ([] : List Value).toArray ++ Builtin.zeroCells Value.nilFunc.cells 5 ++ Builtin.zeroCells Value.nilFunc.cells (G - 5) = ROW := ⟨_, rfl⟩
  have hrz : ∀ ty, (Builtin.append_ #[144, 3] ty #[.slice (some ⟨b, 0, none⟩) 0 4, .int .i64 5]).run Tryz.prog w =
      .ok (.slice (some ⟨w.heap.size, 0, none⟩) 5 G) (w.drew.alloc (.cells ROW 142)) := fun ty => by
    have h := Lib.run_append_grow_zeros w 144 3 ty 142 i0 _ .i64 .i64 Tryz.underlying144 Tryz.underlying3 hi0 hz0 (some ⟨b, 0, none⟩) 0 4 [] hold 5 (by omega) (by omega) (by omega) (by omega) (by rw [hzb]; omega) (by rw [hzb]; exact growslice_fits (by omega) (by omega))
    rw [Nat.zero_add, hG, hROW] at h
    exact h
  have hRl : 5 ≤ ROW.size := by
    rw [← hROW]
    simp [Builtin.zeroCells, Value.cells]
  obtain ⟨W1, hW1⟩ : ∃ W1, W1 = w.drew.alloc (.cells ROW 142) := ⟨_, rfl⟩
  rw [← hW1] at hrz
  have hN : ∀ j, j < 5 → (W1.cell? ⟨w.heap.size, j, none⟩).isSome = true := fun j hj => by
    rw [hW1, World.cell?_alloc_at (w := w.drew) ROW _ w.heap.size j rfl, Array.getElem?_eq_getElem (by omega)]; rfl
  have hNf : ∀ j, W1.frozen? ⟨w.heap.size, j, none⟩ = false := fun j => by rw [hW1]; exact World.frozen?_alloc_at (w := w.drew) ROW _ w.heap.size j rfl
  have hOb : ∀ j u, w.cell? ⟨b, j, none⟩ = some u → W1.cell? ⟨b, j, none⟩ = some u := fun j u h => by rw [hW1, World.cell?_alloc_past (w := w.drew) _ b j hbw]; exact h
  have hOv : ∀ j u, w.cell? ⟨vb, j, none⟩ = some u → W1.cell? ⟨vb, j, none⟩ = some u := fun j u h => by rw [hW1, World.cell?_alloc_past (w := w.drew) _ vb j hvw]; exact h
  have hcpA : ∀ (W : World), (∀ x, W.cell? x = W1.cell? x) → (∀ x, W.frozen? x = W1.frozen? x) → ∀ ty dc, (Builtin.copy_ #[144, 144] ty #[.slice (some ⟨w.heap.size, 0, none⟩) 5 dc, .slice (some ⟨vb, 0, none⟩) 1 1]).run Tryz.prog W = .ok (goInt [v].length) (W.setCells w.heap.size 0 [v]) := fun W hWc hWf ty dc =>
    run_copy_cells W _ _ ty 142 w.heap.size 0 5 dc ⟨vb, 0, none⟩ 1 1 [v] Tryz.underlying144 hsz rfl
      (fun j u hj => by
        obtain rfl : j = 0 := by have := (List.getElem?_eq_some_iff.1 hj).1; simp at this; omega
        simp at hj
        subst hj
        rw [Addr.add_lit, hWc]
        exact hOv _ _ hv)
      (fun j hj => by rw [hWc]; exact hN _ (by simp at hj; omega)) (fun j hj => by rw [hWf]; exact hNf _) (fun u hu => by rw [List.mem_singleton.1 hu]; exact h1v)
  have hbN : b ≠ w.heap.size := by omega
  have hcpB : ∀ (W : World), (∀ x, W.cell? x = (W1.setCells w.heap.size 0 [v]).cell? x) → (∀ x, W.frozen? x = (W1.setCells w.heap.size 0 [v]).frozen? x) → ∀ ty dc sc, (Builtin.copy_ #[144, 144] ty #[.slice (some ⟨w.heap.size, 1, none⟩) 4 dc, .slice (some ⟨b, 0, none⟩) 4 sc]).run Tryz.prog W = .ok (goInt cs.length) (W.setCells w.heap.size 1 cs) := fun W hWc hWf ty dc sc =>
    run_copy_cells W _ _ ty 142 w.heap.size 1 4 dc ⟨b, 0, none⟩ 4 sc cs Tryz.underlying144 hsz (by rw [hl]; rfl)
      (fun j u hj => by
        rw [Addr.add_lit, hWc, World.cell?_setCells_out _ _ _ _ _ (fun h _ => absurd h hbN), Nat.zero_add]
        exact hOb _ u (hcs j u hj))
      (fun j hj => by rw [hWc]; exact isSome_setCells _ _ _ _ (fun t ht => hN _ (by simp at ht; omega)) _ (hN _ (by omega)))
      (fun j hj => by rw [hWf, World.frozen?_setCells]; exact hNf _) h1c
  have hfin : Hid (Below w.heap.size w (((w.alloc (.cells ROW 142)).drew.setCells w.heap.size 0 [v]).drew.setCells w.heap.size 1 cs) ∧ (∃ cur, (((w.alloc (.cells ROW 142)).drew.setCells w.heap.size 0 [v]).drew.setCells w.heap.size 1 cs).heap[w.heap.size]? = some (Obj.cells cur 142)) ∧
      ∀ (j : Nat) u, (v :: cs)[j]? = some u → (((w.alloc (.cells ROW 142)).drew.setCells w.heap.size 0 [v]).drew.setCells w.heap.size 1 cs).cell? ⟨w.heap.size, j, none⟩ = some u) := Lib.hid (by
    have hbs : ∀ W : World, Below w.heap.size w W → w.heap.size ≤ W.heap.size → ∀ o vs, Below w.heap.size w (W.setCells w.heap.size o vs) := fun W h1 h2 o vs => below_cells' (Nat.le_refl _) vs o W h1 h2
    have b1 := bD (below_alloc w (.cells ROW 142))
    have b2 := hbs _ b1 b1.size 0 [v]
    have b3 := hbs _ (bD b2) (bD b2).size 1 cs
    refine ⟨b3, ?_, fun j u hj => ?_⟩
    · exact setCells_blk' cs 1 _ (setCells_blk' [v] 0 _ ⟨ROW, heap_alloc_new w _⟩)
    · have hW : ∀ x, ((w.alloc (.cells ROW 142)).drew.setCells w.heap.size 0 [v]).drew.cell? x = (W1.setCells w.heap.size 0 [v]).cell? x := fun x => by rw [hW1]; rfl
      have hin0 : (W1.setCells w.heap.size 0 [v]).cell? ⟨w.heap.size, 0, none⟩ = some v := by
        have := World.cell?_setCells_in w.heap.size [v] 0 W1 (fun t ht => hN _ (by simp at ht; omega)) 0 (by simp)
        simpa using this
      cases j with
      | zero =>
        simp at hj
        subst hj
        rw [World.cell?_setCells_out _ _ _ _ _ (fun _ _ => .inl (by show 0 < 1; omega)), hW]
        exact hin0
      | succ j =>
        simp only [List.getElem?_cons_succ] at hj
        have hjl := (List.getElem?_eq_some_iff.1 hj).1
        have := World.cell?_setCells_in w.heap.size cs 1 (((w.alloc (.cells ROW 142)).drew.setCells w.heap.size 0 [v]).drew) (fun t ht => by rw [hW]; exact isSome_setCells _ _ _ _ (fun t ht => hN _ (by simp at ht; omega)) _ (hN _ (by omega))) j hjl
        rw [Nat.add_comm j 1, this, ← hj, List.getElem?_eq_getElem hjl])
  subst hW1
  have hE1 : ∀ x, ((w.alloc (.cells ROW 142)).drew).cell? x = (w.drew.alloc (.cells ROW 142)).cell? x := fun x => rfl
  have hE2 : ∀ x, ((w.alloc (.cells ROW 142)).drew).frozen? x = (w.drew.alloc (.cells ROW 142)).frozen? x := fun x => rfl
  have hF1 : ∀ x, (((w.alloc (.cells ROW 142)).drew.setCells w.heap.size 0 [v]).drew).cell? x = ((w.drew.alloc (.cells ROW 142)).setCells w.heap.size 0 [v]).cell? x := fun x => rfl
  have hF2 : ∀ x, (((w.alloc (.cells ROW 142)).drew.setCells w.heap.size 0 [v]).drew).frozen? x = ((w.drew.alloc (.cells ROW 142)).setCells w.heap.size 0 [v]).frozen? x := fun x => rfl
  have hGi : ¬ (G = 0) := by omega
  have hGim : ¬ (G = 1) := by omega
  have hw1 : IntKind.i64.wrap 1 = 1 := by decide
  have mixed : Tryz.prog.follows .mixedOrders = true := by kernel_rfl
  clear hold hROW hG hRl hcs hv h1c h1v
  go_enter Tryz.func100, Tryz.ntmps100
  go_wp2_with (first
    | (at_builtin; refine Lib.wpList_append_run _ rfl _ _ _ _ rfl _ _ rfl rfl _ _ (hrz _) ?_)
    | (at_builtin; refine wpList_copy_runI _ rfl _ _ 144 144 rfl _ _ rfl rfl (hcpA _ hE1 hE2 _ _) ?_)
    | (at_builtin; refine wpList_copy_runI _ rfl _ _ 144 144 rfl _ _ rfl rfl (hcpB _ (fun _ => rfl) (fun _ => rfl) _ _ _) ?_))
  go_region_law_o (refine step_copy_runI rfl _ _ 144 144 rfl (.slice (some ⟨w.heap.size, 1, none⟩) 4 (G - 1)) (.slice (some ⟨b, 0, none⟩) 4 4) (by simp [Act.eval, Act.put]) (by simp [Act.eval, Act.put]) (hcpB _ hF1 hF2 3 (G - 1) 4) ?_)
  go_wp2
  go_ret
  exact ⟨G, rfl, hGn, hG63, hfin.out.1, hfin.out.2.1, hfin.out.2.2⟩
end Go.Proofs.YtfdpnjebhllpkaaGreatDoor.Mn
