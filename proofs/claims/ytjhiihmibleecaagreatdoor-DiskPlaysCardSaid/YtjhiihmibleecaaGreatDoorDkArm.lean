/- Arm. -/
import Derived.Test.YtjhiihmibleecaaGreatDoorDkNew
import Derived.Test.YtjhiihmibleecaaGreatDoorRowS
namespace Go.Proofs.YtjhiihmibleecaaGreatDoor.Dk
open Go.RowKit

/-- A trouble's cells. -/
def TrEl (_ : World) (vs : List Value) (t : Tr) : Prop := vs = trC t
/-- A file that came in: its cells. -/
def FeEl (w : World) (vs : List Value) (f : In) : Prop := ∃ s A n c, vs = [.string s, .slice A n c, .int .i64 f.safe] ∧ f.nm = s.data.toList ∧ Bs w A n c f.data
theorem TrEl.one : ∀ (w : World) (vs : List Value) (t : Tr), TrEl w vs t → ∀ u ∈ vs, u.oneCell' = true := by
  rintro w vs t rfl u hu
  simp [trC] at hu
  rcases hu with rfl | rfl | rfl <;> rfl
theorem FeEl.one : ∀ (w : World) (vs : List Value) (t : In), FeEl w vs t → ∀ u ∈ vs, u.oneCell' = true := by
  rintro w vs t ⟨s, A, n, c, rfl, _, _⟩ u hu
  simp at hu
  rcases hu with rfl | rfl | rfl <;> rfl
theorem FeEl.below {w w' : World} (hb : Below w.heap.size w w') : ∀ vs x, FeEl w vs x → FeEl w' vs x := by
  rintro vs x ⟨s, A, n, c, rfl, h1, h2⟩
  exact ⟨s, A, n, c, rfl, h1, h2.below hb⟩

theorem reads_trf {w : World} {xs : List Value} {l : List Tr} (h : Reads TrEl 3 w xs l) : xs = trf l := by
  obtain ⟨L, rfl, h1, _, h3⟩ := h
  have : L = l.map trC := by
    apply List.ext_getElem?
    intro i
    rw [List.getElem?_map]
    cases hi : L[i]? with
    | none =>
      have := List.getElem?_eq_none_iff.1 hi
      rw [List.getElem?_eq_none (by omega)]
      rfl
    | some vs =>
      have hlt : i < l.length := by have := (List.getElem?_eq_some_iff.1 hi).1; omega
      have := h3 i vs l[i] hi (List.getElem?_eq_getElem hlt)
      rw [List.getElem?_eq_getElem hlt, this]
      rfl
  rw [this]
  rfl

/-- The disk is now so (its troubles may be others too). -/
def Sd (B a mb : Nat) (dd : D) (w w' : World) : Prop := Below B w w' ∧ Fm w w' ∧ ∃ L F tv, Da w' B a mb L F tv dd
theorem St.sd {B a mb : Nat} {tv : Value} {dd : D} {w w' : World} (h : St B a mb tv dd w w') : Sd B a mb dd w w' := ⟨h.1, h.2.1, h.2.2.choose, h.2.2.choose_spec.choose, tv, h.2.2.choose_spec.choose_spec⟩
theorem Sd.on {B a mb : Nat} {dd : D} {w0 w w' : World} (h : Sd B a mb dd w w') (hb : Below B w0 w) (hf : Fm w0 w) : Sd B a mb dd w0 w' := ⟨hb.trans h.1, hf.trans h.2.1, h.2.2⟩

set_option maxHeartbeats 1000000 in
set_option maxRecDepth 100000 in
theorem cloneT_any (A : Option Addr) (n c : Nat) (l : List Tr) (w : World) (h : Sq TrEl 3 w A n c l) (hn : n ≤ 1000000) :
    Calls Tryz.prog 59 #[.slice A n c] w fun e w' => ∃ v, e = .returned v ∧ w'.ownsRow w.heap.size 86 3 v l.length (trf l) ∧ Below w.heap.size w w' := by
  have hnil : ∀ (w : World) (a : Option Addr) (n c n' c' : Nat), (binOp .eql 37 (.slice a n c) (.slice none n' c')).run Tryz.prog w = .ok (.bool a.isNone) w := fun w a n c n' c' => Lib.run_eql_slice_nil w _ _ a n c n' c' Tryz.underlying37
  have hl := h.len
  rcases A with _ | ad
  · obtain ⟨rfl, rfl⟩ := h.nil rfl
    have : l = [] := List.eq_nil_of_length_eq_zero hl
    subst this
    clear h hl
    go_enter Tryz.func59, Tryz.ntmps59
    go_wp2_with fail
    go_ret
    exact ⟨_, rfl, World.ownsRow_nil _ _ _ _, Below.refl _ _⟩
  · have hq := Lib.hid h
    have hl' := Lib.hid hl
    clear h hl
    go_enter Tryz.func59, Tryz.ntmps59
    go_wp2_with (at_builtin; apply stop_here)
    refine Stop.go (append_sq (El := TrEl) (k := 3) _ 37 86 (.agg #[.int .i64 0, .int .i64 0, .int .i64 0]) 24 Tryz.underlying37 (by kernel_rfl) rfl (by omega) rfl _ _ rfl w.heap.size _ [] rfl ?h1 _ _ _ l rfl ?h2 (TrEl.one _) (fun _ _ _ _ h => h) n ?h3 (by omega) (by omega) ?h4 ?_)
    case h1 => exact ⟨[], World.ownsRow_made w #[] 0 (Nat.le_refl _) (Nat.zero_le _) (by simp), Reads.nil _⟩
    case h2 => exact hq.out.below (fun _ _ h => h) (below_alloc _ _)
    case h3 => simp
    case h4 => simp
    intro A' c' w2 ho hg hb _
    have ho' := Lib.hid ho
    have hb' := Lib.hid ((below_alloc w (.cells #[] 86)).trans hb)
    clear ho hg hb hnil
    go_wp2_with fail
    go_ret
    obtain ⟨xs, h1, h2⟩ := ho'.out
    rw [List.nil_append] at h1 h2
    rw [reads_trf h2] at h1
    exact ⟨_, rfl, h1, hb'.out⟩

set_option maxHeartbeats 1000000 in
set_option maxRecDepth 100000 in
theorem Arm_any (w : World) (B a mb : Nat) (L : Al Nat) (F : Nat → Fl) (tv : Value) (d : D) (h : Da w B a mb L F tv d) (A : Option Addr) (n c : Nat) (l : List Tr) (hq : Sq TrEl 3 w A n c l) (hn : n ≤ 1000000) :
    Calls Tryz.prog 35 #[.pointer (some ⟨a, 0, none⟩), .slice A n c] w fun e w' => e = .returned (.tuple #[]) ∧ Sd B a mb (arm d l) w w' := by
  have hcl := cloneT_any A n c l w hq hn
  have h' := Lib.hid h
  clear h hq
  go_enter Tryz.func35, Tryz.ntmps35
  go_wp2_with fail
  refine hcl.mono ?_
  rintro e w2 ⟨v, rfl, ho, hb⟩
  have hB : B ≤ w.heap.size := by have := h'.out.alt; have := h'.out.base; omega
  have hD := h'.out.below hb
  have hD1 := hD.setA (grown_set w2 ⟨a, 2, none⟩ v) (tr' := l) (ops' := d.ops) (down' := d.down) (setCell_blk hD.blk v) (row_kept (ownsRow_base ho hB) (grown_set w2 ⟨a, 2, none⟩ v) hD.noT)
  obtain ⟨hD2, _⟩ := hD1.setOps 0
  have g1 := grown_set w2 ⟨a, 2, none⟩ v
  have g2 := grown_set (w2.setCell ⟨a, 2, none⟩ v) ⟨a, 3, none⟩ (.int .i64 ((0 : Nat) : Int))
  have hbl : Below B w2 ((w2.setCell ⟨a, 2, none⟩ v).setCell ⟨a, 3, none⟩ (.int .i64 ((0 : Nat) : Int))) := (below_row g1 hD.base.1 (by have := hD.alt; have := hD.base; omega)).trans (below_row g2 hD1.base.1 (by have := hD1.alt; have := hD1.base; omega))
  have hfm : Fm w2 ((w2.setCell ⟨a, 2, none⟩ v).setCell ⟨a, 3, none⟩ (.int .i64 ((0 : Nat) : Int))) :=
    (Fm.grown g1 (fun cs E fr he => by rw [hD.blk] at he; injection he with he; injection he with _ he _; exact .inr he.symm)).trans (Fm.grown g2 (fun cs E fr he => by rw [hD1.blk] at he; injection he with he; injection he with _ he _; exact .inr he.symm))
  have hfin : Hid (Sd B a mb (arm d l) w ((w2.setCell ⟨a, 2, none⟩ v).setCell ⟨a, 3, none⟩ (.int .i64 ((0 : Nat) : Int)))) := Lib.hid ⟨(hb.mono hB).trans hbl, (Fm.below hb).trans hfm, _, _, _, hD2⟩
  have f1 : w2.frozen? ⟨a, 2, none⟩ = false := frozen_of_row w2 a 2 _ _ hD.blk
  have f2 : (w2.setCell ⟨a, 2, none⟩ v).frozen? ⟨a, 3, none⟩ = false := frozen_of_row _ a 3 _ _ hD1.blk
  have c1 : w2.cell? ⟨a, 2, none⟩ = some tv := by simp [World.cell?, hD.blk]
  have c2 : (w2.setCell ⟨a, 2, none⟩ v).cell? ⟨a, 3, none⟩ = some (.int .i64 (d.ops : Nat)) := by simp [World.cell?, hD1.blk]
  obtain ⟨A2, c2', rfl⟩ : ∃ A c, v = .slice A l.length c := by
    obtain ⟨A2, c2', e, _⟩ := row3_at ho
    exact ⟨A2, c2', e⟩
  clear hD hD1 hD2 g1 g2 hbl hfm ho hb hcl
  go_wp2_with fail
  go_end0
  exact ⟨rfl, hfin.out⟩
end Go.Proofs.YtjhiihmibleecaaGreatDoor.Dk
