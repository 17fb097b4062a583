/- What the code's segments and disks, and what the document's, leave alone. -/
import Derived.Test.YtfdpnjebhllpkaaGreatDoorMSgFail
import Derived.Test.YtfdpnjebhllpkaaGreatDoorMSgRow
namespace Go.Proofs.YtfdpnjebhllpkaaGreatDoor.Sg
open Go.RowKit Dk

/-- Nothing but the code's disks, files, maps and segments has turned. -/
def Kc (w w' : World) : Prop := ∀ (k : Nat) (cs : Array Value) (E : TypeId) (fr : Nat × Nat), w.heap[k]? = some (Obj.cells cs E fr) → E ≠ 132 → E ≠ 113 → E ≠ 118 → w'.heap[k]? = some (Obj.cells cs E fr)
/-- Nothing but the document's disks, rows of files and segments has turned. -/
def Kr (w w' : World) : Prop := ∀ (k : Nat) (o : Obj), w.heap[k]? = some o → (∀ cs fr, o ≠ .cells cs 66 fr) → (∀ cs fr, o ≠ .cells cs 84 fr) → (∀ cs fr, o ≠ .cells cs 70 fr) → w'.heap[k]? = some o

section
variable {w w1 w2 w' : World}
theorem Kc.refl (w : World) : Kc w w := fun _ _ _ _ h _ _ _ => h
theorem Kc.trans (h : Kc w w1) (h2 : Kc w1 w2) : Kc w w2 := fun k cs E fr hk h3 h4 h5 => h2 k cs E fr (h k cs E fr hk h3 h4 h5) h3 h4 h5
theorem Kc.fm (h : Fm w w') : Kc w w' := fun k cs E fr hk h3 h4 _ => h k cs E fr hk h3 h4
theorem Kc.below (h : Below w.heap.size w w') : Kc w w' := Kc.fm (Fm.below h)
theorem Kc.seg {sb i : Nat} {cs : Array Value} (hh : w.heap[sb]? = some (.cells cs 118)) (u : Value) : Kc w (w.setCell ⟨sb, i, none⟩ u) := fun k cs' E fr hk _ _ h5 => by
  refine ((grown_set w ⟨sb, i, none⟩ u).block k (Array.getElem?_eq_some_iff.1 hk).1 ?_).trans hk
  intro e
  injection e with e
  simp only at e
  subst e
  rw [hh] at hk
  injection hk with hk
  injection hk with _ e2 _
  exact h5 e2.symm
theorem Kr.refl (w : World) : Kr w w := fun _ _ h _ _ _ => h
theorem Kr.trans (h : Kr w w1) (h2 : Kr w1 w2) : Kr w w2 := fun k o hk h3 h4 h5 => h2 k o (h k o hk h3 h4 h5) h3 h4 h5
theorem Kr.rm (h : Rm w w') : Kr w w' := fun k o hk h3 h4 _ => h k o hk h3 h4
theorem Kr.below (h : Below w.heap.size w w') : Kr w w' := Kr.rm (Rm.below h)
theorem Kr.seg {sb i : Nat} {cs : Array Value} (hh : w.heap[sb]? = some (.cells cs 70)) (u : Value) : Kr w (w.setCell ⟨sb, i, none⟩ u) := fun k o hk _ _ h5 => by
  refine ((grown_set w ⟨sb, i, none⟩ u).block k (Array.getElem?_eq_some_iff.1 hk).1 ?_).trans hk
  intro e
  injection e with e
  simp only at e
  subst e
  rw [hh] at hk
  injection hk with hk
  exact h5 _ _ hk.symm

theorem Kc.row (h : Kc w w') {B E s n : Nat} {v : Value} {xs : List Value} (ho : w.ownsRow B E s v n xs) (h3 : E ≠ 132) (h4 : E ≠ 113) (h5 : E ≠ 118) : w'.ownsRow B E s v n xs := by
  obtain ⟨h1, h2⟩ := ho
  refine ⟨h1, h2.imp id ?_⟩
  rintro ⟨g, cap, cur, hv, hB, hh, hr⟩
  exact ⟨g, cap, cur, hv, hB, h g _ _ _ hh h3 h4 h5, hr⟩
theorem Kr.row (h : Kr w w') {B E s n : Nat} {v : Value} {xs : List Value} (ho : w.ownsRow B E s v n xs) (h3 : E ≠ 66) (h4 : E ≠ 84) (h5 : E ≠ 70) : w'.ownsRow B E s v n xs := by
  obtain ⟨h1, h2⟩ := ho
  refine ⟨h1, h2.imp id ?_⟩
  rintro ⟨g, cap, cur, hv, hB, hh, hr⟩
  refine ⟨g, cap, cur, hv, hB, h g _ hh (fun cs fr e => ?_) (fun cs fr e => ?_) (fun cs fr e => ?_), hr⟩
  · injection e with _ e _; exact h3 e
  · injection e with _ e _; exact h4 e
  · injection e with _ e _; exact h5 e

theorem ErrB.kc {code at_ : Int} {t : ByteArray} {e : Value} (h : ErrB w code at_ t e) (hk : Kc w w') : ErrB w' code at_ t e := by
  obtain ⟨b, b2, rfl, h1, h2⟩ := h
  exact ⟨b, b2, rfl, hk _ _ _ _ h1 (by decide) (by decide) (by decide), hk _ _ _ _ h2 (by decide) (by decide) (by decide)⟩
theorem ErrB.kr {code at_ : Int} {t : ByteArray} {e : Value} (h : ErrB w code at_ t e) (hk : Kr w w') : ErrB w' code at_ t e := by
  obtain ⟨b, b2, rfl, h1, h2⟩ := h
  refine ⟨b, b2, rfl, hk _ _ h1 (fun cs fr e => ?_) (fun cs fr e => ?_) (fun cs fr e => ?_), hk _ _ h2 (fun cs fr e => ?_) (fun cs fr e => ?_) (fun cs fr e => ?_)⟩ <;>
    (injection e with _ e _; exact absurd e (by decide))

/-- The program's disk stays as it is. -/
theorem Da.kr {B a mb : Nat} {L : Al Nat} {F : Nat → Fl} {tv : Value} {d : D} (h : Da w B a mb L F tv d) (hr : Kr w w') : Da w' B a mb L F tv d := by
  obtain ⟨es, cl, hmb⟩ := h.mblk
  have hm : w'.heap[mb]? = some (.map es cl) := hr mb _ hmb (fun cs fr e => by cases e) (fun cs fr e => by cases e) (fun cs fr e => by cases e)
  refine ⟨h.base, hr a _ h.blk (fun cs fr e => ?_) (fun cs fr e => ?_) (fun cs fr e => ?_), ?_, h.fs, h.up, fun p hp => ?_, h.nd, hr.row h.tr (by decide) (by decide) (by decide)⟩
  · injection e with _ e _; exact absurd e (by decide)
  · injection e with _ e _; exact absurd e (by decide)
  · injection e with _ e _; exact absurd e (by decide)
  · obtain ⟨es', cl', h1, h2⟩ := h.own
    rw [hmb] at h1
    injection h1 with h1
    injection h1 with e1 e2
    subst e1; subst e2
    exact ⟨_, _, hm, h2⟩
  · obtain ⟨h1, v, h2, h3⟩ := h.files p hp
    refine ⟨h1, v, hr p.2 _ h2 (fun cs fr e => ?_) (fun cs fr e => ?_) (fun cs fr e => ?_), hr.row h3 (by decide) (by decide) (by decide)⟩
    · injection e with _ e _; exact absurd e (by decide)
    · injection e with _ e _; exact absurd e (by decide)
    · injection e with _ e _; exact absurd e (by decide)
/-- The document's disk stays as it is. -/
theorem Ra.kc {B rb : Nat} {lv tv : Value} {d : D} (h : Ra w B rb lv tv d) (hf : Kc w w') : Ra w' B rb lv tv d := by
  refine ⟨h.base, hf rb _ _ _ h.blk (by decide) (by decide) (by decide), ?_, hf.row h.tr (by decide) (by decide) (by decide)⟩
  obtain ⟨xs, h3, h4⟩ := h.row
  refine ⟨xs, hf.row h3 (by decide) (by decide) (by decide), h4.mono ?_⟩
  rintro vs x ⟨s, v, rfl, k1, k2⟩
  exact ⟨s, v, rfl, k1, hf.row k2 (by decide) (by decide) (by decide)⟩
theorem OwR.kc {B : Nat} {v : Value} {l : List (List UInt8)} (h : OwR w B v l) (hf : Kc w w') : OwR w' B v l := by
  obtain ⟨xs, h3, h4⟩ := h
  refine ⟨xs, hf.row h3 (by decide) (by decide) (by decide), h4.mono ?_⟩
  rintro vs x ⟨v, rfl, k2⟩
  exact ⟨v, rfl, hf.row k2 (by decide) (by decide) (by decide)⟩
theorem OwR.kr {B : Nat} {v : Value} {l : List (List UInt8)} (h : OwR w B v l) (hf : Kr w w') : OwR w' B v l := by
  obtain ⟨xs, h3, h4⟩ := h
  refine ⟨xs, hf.row h3 (by decide) (by decide) (by decide), h4.mono ?_⟩
  rintro vs x ⟨v, rfl, k2⟩
  exact ⟨v, rfl, hf.row k2 (by decide) (by decide) (by decide)⟩
/-- A segment's cell is stored to: the disk stays as it is. -/
theorem Da.seg {B a mb sb i : Nat} {L : Al Nat} {F : Nat → Fl} {tv : Value} {d : D} {cs : Array Value} (h : Da w B a mb L F tv d) (hh : w.heap[sb]? = some (.cells cs 118)) (u : Value) : Da (w.setCell ⟨sb, i, none⟩ u) B a mb L F tv d := by
  refine h.kept (grown_set w ⟨sb, i, none⟩ u) (fun e => ?_) (fun e => ?_) (fun p hp e => ?_) (NoE.of hh (by intro cs fr e; injection e with _ e2 _; exact absurd e2 (by decide))) (NoE.of hh (by intro cs fr e; injection e with _ e2 _; exact absurd e2 (by decide)))
  · injection e with e
    simp only at e
    subst e
    have := h.blk
    rw [hh] at this
    injection this with this
    injection this with _ e2 _
    exact absurd e2 (by decide)
  · injection e with e
    simp only at e
    subst e
    obtain ⟨es, cl, hm⟩ := h.mblk
    rw [hh] at hm
    cases hm
  · injection e with e
    simp only at e
    subst e
    obtain ⟨_, v, h2, _⟩ := h.files p hp
    rw [hh] at h2
    injection h2 with h2
    injection h2 with _ e2 _
    exact absurd e2 (by decide)
end
end Go.Proofs.YtfdpnjebhllpkaaGreatDoor.Sg
