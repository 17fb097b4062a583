/- slices.SortFunc at spans. -/
import Derived.Test.YtppmnelgekhbnaaGreatDoorIvSortLaw
import Derived.Shelf.SlSortCmp.WholeK
import Derived.Shelf.SlSortCmp.NoneTotal
import Derived.Ground.SlsfProg
import Derived.Shelf.Lay
import Derived.Deep.Heap
namespace Go.Proofs.YtppmnelgekhbnaaGreatDoor
open Go.Shelf Go.RowKit Go.Lib
shelf_lay_g SlLaysF0.n6 Slsf 6 at Tryz 36 as Tryz.laysSort
end Go.Proofs.YtppmnelgekhbnaaGreatDoor
namespace Go.Proofs.YtppmnelgekhbnaaGreatDoor.IvW
open Go.RowKit Iv Go.Shelf

/-- A span whose beginning is small. -/
structure Bp where
  p : Span
  h : 0 ≤ p.1 ∧ p.1 ≤ 200
instance : Inhabited Bp := ⟨⟨(0, 0), by decide⟩⟩
def bcmp (x y : Bp) : Int := x.p.1 - y.p.1
def benc (x : Bp) : List Value := spanC x.p
theorem ex_bp : ∀ (l : List Span), (∀ p ∈ l, 0 ≤ p.1 ∧ p.1 ≤ 200) → ∃ d : List Bp, d.map Bp.p = l
  | [], _ => ⟨[], rfl⟩
  | p :: l, h => by
    obtain ⟨d, hd⟩ := ex_bp l (fun q hq => h q (by simp [hq]))
    exact ⟨⟨p, h p (by simp)⟩ :: d, by simp [hd]⟩

theorem lt_bcmp (x y : Bp) : ltOf bcmp x y = decide (x.p.1 < y.p.1) := by
  unfold ltOf bcmp
  rw [Bool.eq_iff_iff]
  simp
  omega

theorem swo_bcmp : Sort.SWO (ltOf bcmp) where
  irrefl x := by rw [lt_bcmp]; simp
  trans x y z h1 h2 := by rw [lt_bcmp] at *; simp at *; omega
  ntrans x y z h1 h2 := by rw [lt_bcmp] at *; simp at *; omega

set_option maxHeartbeats 1000000 in
theorem clos_cmp (f1 t1 f2 t2 : Int) (a1 : 0 ≤ f1) (a2 : f1 ≤ 200) (a3 : 0 ≤ f2) (a4 : f2 ≤ 200) (W : World) : Calls Tryz.prog 37 #[.agg #[.int .i64 f1, .int .i64 t1], .agg #[.int .i64 f2, .int .i64 t2]] W fun e w' => e = .returned (.int .i64 (f1 - f2)) ∧ ∃ q os', w' = Sort.grow (W.drewN q) os' := by
  go_enter Tryz.func37, Tryz.ntmps37
  go_wp2
  go_ret
  exact ⟨rfl, 0, _, by rw [Sort.alloc_eq_grow, Sort.alloc_eq_grow, Sort.grow_grow]; rfl⟩

theorem cmp_lays (blk off size : Nat) (w : World) : CmpLays Tryz.prog 37 #[] benc 2 bcmp blk off size w :=
  fun _ _ _ _ x y => by
    obtain ⟨⟨f1, t1⟩, h1, h2⟩ := x
    obtain ⟨⟨f2, t2⟩, h3, h4⟩ := y
    exact clos_cmp f1 t1 f2 t2 h1 h2 h3 h4 _

theorem flatK_flat (d : List Bp) : Sort.flatK benc 2 d.toArray = (flat (d.map Bp.p)).toArray := by
  have hs : (flat (d.map Bp.p)).length = d.length * 2 := by rw [flat_length, List.length_map]
  refine Sort.ext_get! (by simp [hs]) fun t ht => ?_
  have ht' : t < d.length * 2 := by simpa using ht
  rw [Sort.get_flatK _ _ _ t (by simpa using ht')]
  have hj : t / 2 < d.length := by omega
  have e1 : (d.map Bp.p)[t / 2]? = some d[t / 2].p := by rw [List.getElem?_map, List.getElem?_eq_getElem hj]; rfl
  obtain ⟨g0, g1⟩ := flat_get e1
  have e2 : d.toArray[t / 2]! = d[t / 2] := by rw [getElem!_pos d.toArray (t / 2) (by simpa using hj)]; simp
  rw [e2]
  have e3 : ∀ u, (flat (d.map Bp.p))[t]? = some u → (flat (d.map Bp.p)).toArray[t]! = u := fun u hu => by
    have hlt : t < (flat (d.map Bp.p)).toArray.size := by simpa [hs] using ht'
    rw [getElem!_pos _ t hlt]
    have := (List.getElem?_eq_some_iff.1 hu).2
    simpa using this
  rcases Nat.mod_two_eq_zero_or_one t with h | h
  · have e : t = t / 2 * 2 := by omega
    rw [h, e3 _ (by rw [← e] at g0; exact g0)]
    rfl
  · have e : t = t / 2 * 2 + 1 := by omega
    rw [h, e3 _ (by rw [← e] at g1; exact g1)]
    rfl

theorem below_sortWorld (w : World) (blk off n B : Nat) (d : Array Bp) (os : Array Obj) (hB : B ≤ blk) (hbw : B ≤ w.heap.size) : Below B w (sortWorldK benc 2 w blk off n d os) := by
  refine ⟨rfl, rfl, rfl, ?_, fun k hk => ?_⟩
  · have := size_sortWorldK_c benc 2 w blk off n d os
    exact this
  · unfold sortWorldK Sort.grow Sort.putRowK Sort.putRow Sort.mapBlock Sort.ahead
    simp only
    rw [Array.getElem?_append_left (by simp; omega), Array.getElem?_modify, if_neg (by omega)]

set_option maxHeartbeats 1000000 in
theorem sort_any (A : Option Addr) (n c : Nat) (l : List Span) (B : Nat) (w : World) (hO : OwP w B 41 (.slice A n c) l) (hB : B ≤ w.heap.size) (hl : ∀ p ∈ l, 0 ≤ p.1 ∧ p.1 ≤ 200) (hn : n ≤ 1000000) :
    Calls Tryz.prog 36 #[.slice A n c, .func (.func 37) #[] #[]] w fun e w' => e = .returned (.tuple #[]) ∧ ∃ l', l'.Perm l ∧ l'.Pairwise (fun p q => p.1 ≤ q.1) ∧ Rp w' A n c l' ∧ Below B w w' := by
  have hlen := hO.len
  by_cases h0 : n = 0
  · subst h0
    have : l = [] := List.eq_nil_of_length_eq_zero hlen
    subst this
    have hc := AnyF.slices_SortFunc_none { Tryz.laysSort with } A c (.func (.func 37) #[] #[]) w
    change Calls Tryz.prog 36 _ _ _ at hc
    refine hc.mono ?_
    rintro e w' ⟨rfl, rfl⟩
    exact ⟨rfl, [], List.Perm.refl _, List.Pairwise.nil, hO.rp, Below.refl _ _⟩
  · have hO2 := hO
    rcases hO.2 with ⟨hv, hl0⟩ | ⟨g, cap, cur, hv, hBg, hh, hnc, hmx, hcs, ht⟩
    · omega
    injection hv with h1 h2 h3
    subst h1 h3
    obtain ⟨d, hd⟩ : ∃ d : List Bp, d.map Bp.p = l := ex_bp l hl
    have hdl : d.length = n := by rw [← hlen, ← hd, List.length_map]
    have hH : Sort.HoldsK benc 2 w g 0 d.toArray := by
      unfold Sort.HoldsK
      rw [flatK_flat, hd]
      intro j hj
      have hj' : j < (flat l).length := by simpa using hj
      have hfl := flat_length l
      have hO3 : w.ownsRow B 41 2 (.slice (some ⟨g, 0, none⟩) l.length c) l.length (flat l) := by
        have h3 := hO2
        rw [← hlen] at h3
        exact h3
      refine ⟨?_, World.ownsRow.frozenAt hO3 _⟩
      rw [Nat.zero_add]
      rw [World.ownsRow.cellAt hO3 _ (by omega), List.getElem?_eq_getElem hj', getElem!_pos _ j hj]
      simp
    have hg : g < w.heap.size := by
      rcases Nat.lt_or_ge g w.heap.size with hlt | hge
      · exact hlt
      · rw [Array.getElem?_eq_none hge] at hh; cases hh
    have eg : ∀ args w, (callFunc 37 args).run Tryz.prog w = .ok (.enter 37 args) w := enters_of Tryz.func37 (by kernel_rfl) rfl
    have hcon := AnyQ.slices_SortFunc Tryz.laysSort 2 Tryz.isAgg41 Tryz.sizeOf41 benc (fun _ => rfl) (fun x v hv => by simp [benc, spanC] at hv; rcases hv with rfl | rfl <;> rfl) bcmp swo_bcmp 37 #[] g 0 c d.toArray w eg (cmp_lays g 0 _ w) hH hg (by simp; omega)
    change Calls Tryz.prog 36 _ _ _ at hcon
    rw [show d.toArray.size = n by simpa using hdl] at hcon
    refine hcon.mono ?_
    rintro e w' ⟨rfl, d', q, os, hp, hs, rfl⟩
    obtain ⟨p1, _, p3⟩ := hp
    have hd'n : d'.size = n := by rw [p1]; simpa using hdl
    have hH' := holdsK_sortWorldK_c benc 2 w g 0 d.toArray d' q os hH hg p1
    refine ⟨rfl, d'.toList.map Bp.p, ?_, ?_, ?_, below_sortWorld w g 0 q B d' os hBg hB⟩
    · rw [← hd]
      have e1 : (d'.extract 0 n).toList = d'.toList := by rw [← hd'n]; simp
      have e2 : (d.toArray.extract 0 n).toList = d := by simp; exact List.take_of_length_le (by omega)
      rw [e1, e2] at p3
      exact p3.map _
    · rw [List.pairwise_map, List.pairwise_iff_getElem]
      intro i j hi hj hij
      have hi' : i < d'.size := by simpa using hi
      have hj' : j < d'.size := by simpa using hj
      have := hs i j (by omega) hij (by omega)
      rw [lt_bcmp, getElem!_pos d' j hj', getElem!_pos d' i hi'] at this
      simp at this
      simpa using this
    · refine { len := by simpa using hd'n, le := (by omega), max := (by unfold maxLen at hmx; omega), nil := (fun h => by cases h), cell := fun _ => ⟨g, 0, rfl, ?_, fun j u hu => ?_⟩ }
      · have := size_sortWorldK_c benc 2 w g 0 q d' os
        omega
      · unfold Sort.HoldsK at hH'
        have e : d' = d'.toList.toArray := by simp
        rw [e, flatK_flat] at hH'
        have hj : j < (flat (d'.toList.map Bp.p)).length := (List.getElem?_eq_some_iff.1 hu).1
        have := (hH' j (by simpa using hj)).1
        rw [getElem!_pos _ j (by simpa using hj)] at this
        rw [← e] at this
        rw [this]
        have h2 := (List.getElem?_eq_some_iff.1 hu).2
        simpa using h2
end Go.Proofs.YtppmnelgekhbnaaGreatDoor.IvW
