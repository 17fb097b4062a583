/- A file's cells in the document's row are stored to. -/
import Derived.Test.YtjhiihmibleecaaGreatDoorDkRe
import Derived.Laws.OwnMore
namespace Go.Proofs.YtjhiihmibleecaaGreatDoor
open Go.RowKit

theorem flatten_set {k : Nat} {u : Value} {j : Nat} (hj : j < k) : ∀ {L : List (List Value)} {i : Nat} {vs : List Value}, (∀ v ∈ L, v.length = k) → L[i]? = some vs → L.flatten.set (i * k + j) u = (L.set i (vs.set j u)).flatten
  | [], i, vs, _, h => by simp at h
  | a :: L, 0, vs, hL, h => by
    simp at h
    subst h
    have := hL a (List.mem_cons_self ..)
    rw [List.flatten_cons, Nat.zero_mul, Nat.zero_add, List.set_append_left _ _ (by omega)]
    rfl
  | a :: L, i + 1, vs, hL, h => by
    simp at h
    have ha := hL a (List.mem_cons_self ..)
    have hm : (i + 1) * k + j = a.length + (i * k + j) := by rw [Nat.succ_mul]; omega
    rw [List.flatten_cons, hm, List.set_append_right _ _ (by omega), Nat.add_sub_cancel_left, flatten_set hj (fun v hv => hL v (List.mem_cons_of_mem _ hv)) h]
    rfl

theorem OwS.store {α : Type} {El : World → List Value → α → Prop} {k : Nat} {w : World} {B E g c : Nat} {l : List α} (h : OwS El k w B E (.slice (some ⟨g, 0, none⟩) l.length c) l) {i j : Nat} {x x' : α} (hi : l[i]? = some x) (hj : j < k) (u : Value)
    (h1 : ∀ vs, El w vs x → vs.length = k → El (w.setCell ⟨g, i * k + j, none⟩ u) (vs.set j u) x') (h2 : ∀ vs y, El w vs y → El (w.setCell ⟨g, i * k + j, none⟩ u) vs y) :
    OwS El k (w.setCell ⟨g, i * k + j, none⟩ u) B E (.slice (some ⟨g, 0, none⟩) l.length c) (l.set i x') := by
  obtain ⟨xs, ho, L, rfl, hl, hk, he⟩ := h
  have hil : i < l.length := (List.getElem?_eq_some_iff.1 hi).1
  have hLi : L[i]? = some L[i] := List.getElem?_eq_getElem (by omega)
  refine ⟨_, by rw [List.length_set]; exact (ho.stored (i * k + j) u).1, L.set i (L[i].set j u), flatten_set hj hk hLi, by rw [List.length_set, List.length_set, hl], fun v hv => ?_, fun i' vs y hvs hy => ?_⟩
  · rcases List.mem_or_eq_of_mem_set hv with h | h
    · exact hk v h
    · rw [h, List.length_set]; exact hk _ (List.getElem_mem _)
  · by_cases e : i' = i
    · subst e
      rw [List.getElem?_set_self (by omega)] at hvs
      rw [List.getElem?_set_self hil] at hy
      injection hvs with hvs
      injection hy with hy
      subst hvs; subst hy
      exact h1 _ (he _ _ _ hLi hi) (hk _ (List.getElem_mem _))
    · rw [List.getElem?_set_ne (by omega)] at hvs hy
      exact h2 _ _ (he _ _ _ hvs hy)
end Go.Proofs.YtjhiihmibleecaaGreatDoor

namespace Go.Proofs.YtjhiihmibleecaaGreatDoor.Dk
open Go.RowKit

theorem upd_at {nm : Name} {f : Fl} {g : Fl → Fl} : ∀ {l : Fs} {i : Nat}, Up l → l[i]? = some (nm, f) → upd nm g l = l.set i (nm, g f)
  | [], i, _, h => by simp at h
  | p :: r, 0, hU, h => by
    simp at h
    subst h
    unfold upd
    rw [List.map_cons, List.set_cons_zero]
    simp only [if_pos]
    congr 1
    conv => rhs; rw [← List.map_id r]
    apply List.map_congr_left
    intro q hq
    have := before_ne (hU.head hq)
    rw [if_neg fun e => this e.symm]
    rfl
  | p :: r, i + 1, hU, h => by
    simp at h
    have := before_ne (hU.head (List.mem_of_getElem? h))
    have e : upd nm g (p :: r) = (if p.1 = nm then (p.1, g p.2) else p) :: upd nm g r := rfl
    rw [e, if_neg this, upd_at hU.tail h, List.set_cons_succ]

section
variable {w : World} {B rb : Nat} {lv tv : Value} {d : D}
/-- Where a file's cells lie. -/
theorem Ra.at_ (h : Ra w B rb lv tv d) {i : Nat} {nm : Name} {f : Fl} (hi : d.fs[i]? = some (nm, f)) :
    ∃ g c s v, lv = .slice (some ⟨g, 0, none⟩) d.fs.length c ∧ d.fs.length ≤ c ∧ c ≤ 9223372036854775807 ∧ B ≤ g ∧ g < w.heap.size ∧ (∃ cs, w.heap[g]? = some (.cells cs 52)) ∧ w.cell? ⟨g, i * 3, none⟩ = some (.string s) ∧ w.cell? ⟨g, i * 3 + 1, none⟩ = some v ∧ w.cell? ⟨g, i * 3 + 2, none⟩ = some (.int .i64 (f.safe : Nat)) ∧
      nm = s.data.toList ∧ OwB w B 5 v f.data := by
  have hil : i < d.fs.length := (List.getElem?_eq_some_iff.1 hi).1
  have hrow := h.row
  obtain ⟨xs, ho, hr⟩ := h.row
  obtain ⟨A, c, e, hq⟩ := h.sq
  subst e
  have hl : (d.fs.map toIn).length = d.fs.length := List.length_map _
  rw [hl] at ho
  rcases ho.2 with ⟨e, h0⟩ | ⟨g, cap, cur, e, hB, hh, _⟩
  · omega
  · injection e with e1 e2 e3
    subst e1; subst e3
    obtain ⟨b, off, x, vs, e, hb, hx, hvs, hel, hcs⟩ := hq.at_ hil
    injection e with e
    injection e with e1 e2 _
    subst e1; subst e2
    rw [List.getElem?_map, hi] at hx
    injection hx with hx
    subst hx
    obtain ⟨s, v, rfl, h1, h2⟩ := hel
    refine ⟨g, _, s, v, rfl, hq.le, hq.max, hB, hb, ⟨cur, hh⟩, ?_, ?_, ?_, h1, h2⟩
    · have := hcs 0 _ rfl; simpa using this
    · have := hcs 1 _ rfl; simpa using this
    · have := hcs 2 _ rfl; simpa [toIn] using this

/-- A block of one file's cells, none of the row's, is stored to. -/
theorem Ra.fset {fb j : Nat} (h : Ra w B rb lv tv d) {cs : Array Value} (hh : w.heap[fb]? = some (.cells cs 52)) (hne : lv.ownBlock ≠ some fb) (u : Value) : Ra (w.setCell ⟨fb, j, none⟩ u) B rb lv tv d := by
  have hg := grown_set w ⟨fb, j, none⟩ u
  have hne2 : some rb ≠ some fb := by
    intro e
    injection e with e
    have h2 := h.blk
    rw [e, hh] at h2
    injection h2 with h2
    injection h2 with _ h2 _
    exact absurd h2 (by decide)
  have hn8 : NoE 5 w (some fb) := NoE.of hh (by intro cs fr e; injection e with _ e2 _; exact absurd e2 (by decide))
  have hnT : NoE 86 w (some fb) := NoE.of hh (by intro cs fr e; injection e with _ e2 _; exact absurd e2 (by decide))
  exact ⟨h.base, (hg.block rb h.lt hne2).trans h.blk, h.row.kept hg (.inr hne) (FoEl.kept hg hn8), row_kept h.tr hg hnT⟩
theorem Rm.fset {fb j : Nat} {cs : Array Value} (hh : w.heap[fb]? = some (.cells cs 52)) (u : Value) : Rm w (w.setCell ⟨fb, j, none⟩ u) :=
  Rm.grown (grown_set w ⟨fb, j, none⟩ u) fun o ho => .inr ⟨cs, (0, 0), by rw [hh] at ho; injection ho with ho; exact ho.symm⟩
theorem upd_upd {nm : Name} {g1 g2 : Fl → Fl} (l : Fs) : upd nm g2 (upd nm g1 l) = upd nm (fun f => g2 (g1 f)) l := by
  unfold upd
  rw [List.map_map]
  apply List.map_congr_left
  intro p _
  simp only [Function.comp]
  by_cases e : p.1 = nm
  · simp [e]
  · simp [e]
theorem upd_id {nm : Name} {g : Fl → Fl} (hg : ∀ f, g f = f) (l : Fs) : upd nm g l = l := by
  unfold upd
  conv => rhs; rw [← List.map_id l]
  apply List.map_congr_left
  intro p _
  split
  · rw [hg]; rfl
  · rfl
theorem Ra.rs_set {g c : Nat} (h : Ra w B rb (.slice (some ⟨g, 0, none⟩) d.fs.length c) tv d) (hU : Up d.fs) {i j : Nat} {nm : Name} {f : Fl} (hi : d.fs[i]? = some (nm, f)) (hj : j < 3) (u : Value) {gf : Fl → Fl}
    (h1 : ∀ vs, FoEl B w vs (toIn (nm, f)) → FoEl B (w.setCell ⟨g, i * 3 + j, none⟩ u) (vs.set j u) (toIn (nm, gf f))) :
    Rw B rb (.slice (some ⟨g, 0, none⟩) d.fs.length c) tv { d with fs := upd nm gf d.fs } w (w.setCell ⟨g, i * 3 + j, none⟩ u) := by
  obtain ⟨g', c', _, _, e, _, _, hB, hlt, ⟨cs, hh⟩, _⟩ := h.at_ hi
  injection e with e1 e2 e3
  injection e1 with e1
  injection e1 with e1 _ _
  subst e1; subst e3
  have hg := grown_set w ⟨g, i * 3 + j, none⟩ u
  have hne : some rb ≠ some g := by
    intro e
    injection e with e
    have h2 := h.blk
    rw [e, hh] at h2
    injection h2 with h2
    injection h2 with _ h2 _
    exact absurd h2 (by decide)
  have hn8 : NoE 5 w (some g) := NoE.of hh (by intro cs fr e; injection e with _ e2 _; exact absurd e2 (by decide))
  have hnT : NoE 86 w (some g) := NoE.of hh (by intro cs fr e; injection e with _ e2 _; exact absurd e2 (by decide))
  have hl : (d.fs.map toIn).length = d.fs.length := List.length_map _
  have hrow := h.row
  rw [← hl] at hrow
  have hst := hrow.store (i := i) (j := j) (x := toIn (nm, f)) (x' := toIn (nm, gf f)) (by rw [List.getElem?_map, hi]; rfl) hj u (fun vs h2 _ => h1 vs h2) (FoEl.kept hg hn8)
  rw [hl] at hst
  refine ⟨below_row hg hB (by omega), Rm.grown hg fun o ho => .inr ⟨cs, (0, 0), by rw [hh] at ho; injection ho with ho; exact ho.symm⟩, h.base, (hg.block rb h.lt hne).trans h.blk, ?_, row_kept h.tr hg hnT⟩
  show OwG _ B B _ ((upd nm gf d.fs).map toIn)
  rw [upd_at hU hi, List.map_set]
  exact hst

theorem Ra.rs_data {g c : Nat} (h : Ra w B rb (.slice (some ⟨g, 0, none⟩) d.fs.length c) tv d) (hU : Up d.fs) {i : Nat} {nm : Name} {f : Fl} (hi : d.fs[i]? = some (nm, f)) {v2 : Value} {new : List UInt8} (ho : OwB w B 5 v2 new) {gf : Fl → Fl} (hgf : gf f = ⟨new, f.safe⟩) :
    Rw B rb (.slice (some ⟨g, 0, none⟩) d.fs.length c) tv { d with fs := upd nm gf d.fs } w (w.setCell ⟨g, i * 3 + 1, none⟩ v2) := by
  refine h.rs_set hU hi (by omega) v2 ?_
  rintro vs ⟨s, v, rfl, h1, h2⟩
  obtain ⟨g', c', _, _, e, _, _, hB, hlt, ⟨cs, hh⟩, _⟩ := h.at_ hi
  injection e with e1 e2 e3
  injection e1 with e1
  injection e1 with e1 _ _
  subst e1
  have hn8 : NoE 5 w (some g) := NoE.of hh (by intro cs fr e; injection e with _ e2 _; exact absurd e2 (by decide))
  rw [hgf]
  exact ⟨s, v2, rfl, h1, row_kept ho (grown_set w ⟨g, i * 3 + 1, none⟩ v2) hn8⟩
theorem Ra.rs_safe {g c : Nat} (h : Ra w B rb (.slice (some ⟨g, 0, none⟩) d.fs.length c) tv d) (hU : Up d.fs) {i : Nat} {nm : Name} {f : Fl} (hi : d.fs[i]? = some (nm, f)) (m : Nat) {gf : Fl → Fl} (hgf : gf f = ⟨f.data, m⟩) :
    Rw B rb (.slice (some ⟨g, 0, none⟩) d.fs.length c) tv { d with fs := upd nm gf d.fs } w (w.setCell ⟨g, i * 3 + 2, none⟩ (.int .i64 (m : Nat))) := by
  refine h.rs_set hU hi (by omega) _ ?_
  rintro vs ⟨s, v, rfl, h1, h2⟩
  obtain ⟨g', c', _, _, e, _, _, hB, hlt, ⟨cs, hh⟩, _⟩ := h.at_ hi
  injection e with e1 e2 e3
  injection e1 with e1
  injection e1 with e1 _ _
  subst e1
  have hn8 : NoE 5 w (some g) := NoE.of hh (by intro cs fr e; injection e with _ e2 _; exact absurd e2 (by decide))
  rw [hgf]
  exact ⟨s, v, rfl, h1, row_kept h2 (grown_set w ⟨g, i * 3 + 2, none⟩ _) hn8⟩
end
end Go.Proofs.YtjhiihmibleecaaGreatDoor.Dk
