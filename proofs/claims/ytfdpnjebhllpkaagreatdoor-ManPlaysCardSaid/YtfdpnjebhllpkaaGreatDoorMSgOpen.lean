/- Opening a segment, the last one (printed by wip/gen/sg_open.py). -/
import Derived.Test.YtfdpnjebhllpkaaGreatDoorMMnLive
import Derived.Test.YtfdpnjebhllpkaaGreatDoorMSgGd
import Derived.Test.YtfdpnjebhllpkaaGreatDoorMSgScan2
import Derived.Test.YtfdpnjebhllpkaaGreatDoorMDkMeth4
section
namespace Go.Proofs.YtfdpnjebhllpkaaGreatDoor.Sg
open Go.RowKit Ma Dk

section
variable {B a mb : Nat} {d d1 d2 : D} {w w1 w2 : World}
theorem Sd.refl' {L : Al Nat} {F : Nat → Fl} {tv : Value} (h : Da w B a mb L F tv d) : Sd B a mb d w w := ⟨Below.refl _ _, Fm.refl _, L, F, tv, h⟩
theorem Sd.le (h : Sd B a mb d w w1) : B ≤ w1.heap.size := by
  obtain ⟨_, _, _, _, _, hD⟩ := h
  have := hD.alt
  have := hD.base
  omega
theorem Sd.then_ (h : Sd B a mb d1 w w1) (h2 : Sd B a mb d2 w1 w2) : Sd B a mb d2 w w2 := h2.on h.1 h.2.1
theorem Sd.bel (h : Sd B a mb d w w1) (hb : Below w1.heap.size w1 w2) : Sd B a mb d w w2 := by
  have hle := Sd.le h
  obtain ⟨h1, h2, L, F, tv, hD⟩ := h
  exact ⟨h1.trans (hb.mono hle), h2.trans (Fm.below hb), L, F, tv, hD.below hb⟩
end

def OpS (B a mb : Nat) (X : Int × D) (w : World) (e : Ending) (w' : World) : Prop := e = .returned (.int .i64 X.1) ∧ Sd B a mb X.2 w w'
theorem OpS.of {B a mb : Nat} {tv : Value} {X : Int × D} {w w' : World} {e : Ending} (h : OpP B a mb tv X w e w') : OpS B a mb X w e w' := ⟨h.1, h.2.sd⟩

section
variable {B a mb : Nat} {d : D} {w0 w : World} {N U : Nat}
theorem Bd.fl (h : Bd d N U) (hU : U ≤ 1000000) : ∀ p ∈ d.fs, p.2.data.length ≤ 1000000 := fun p hp => by
  have := len_le_used hp
  have := h.used
  omega
theorem create_op (h : Sd B a mb d w0 w) (hG : Bd d N U) (hN : N ≤ 900) (s : ByteArray) (hs : s.size ≤ 1000) :
    Calls Tryz.prog 70 #[.pointer (some ⟨a, 0, none⟩), .string s] w (OpS B a mb (op d 1 s.data.toList [] 0 []) w) := by
  obtain ⟨_, _, L, F, tv, hD⟩ := h
  exact (Create_any w B a mb L F tv d hD (by have := hG.ops; omega) (by have := hG.tr; omega) (by have := hG.inv.most; omega) s (by omega)).mono fun _ _ h => OpS.of h
theorem append_op (h : Sd B a mb d w0 w) (hG : Bd d N U) (hN : N ≤ 900) (hU : U ≤ 1000000) (s : ByteArray) (hs : s.size ≤ 1000) (A : Option Addr) (n c : Nat) (l : List UInt8) (hB : Bs w A n c l) (hn : n ≤ 1000000) :
    Calls Tryz.prog 71 #[.pointer (some ⟨a, 0, none⟩), .string s, .slice A n c] w (OpS B a mb (op d 2 s.data.toList [] 0 l) w) := by
  obtain ⟨_, _, L, F, tv, hD⟩ := h
  exact (Append_any w B a mb L F tv d hD (by have := hG.ops; omega) (by have := hG.tr; omega) s (by omega) A n c l hB hn (by have := hG.used; omega) hG.room).mono fun _ _ h => OpS.of h
theorem cut_op (h : Sd B a mb d w0 w) (hG : Bd d N U) (hN : N ≤ 900) (hU : U ≤ 1000000) (s : ByteArray) (hs : s.size ≤ 1000) (z : Int) :
    Calls Tryz.prog 81 #[.pointer (some ⟨a, 0, none⟩), .string s, .int .i64 z] w (OpS B a mb (op d 3 s.data.toList [] z []) w) := by
  obtain ⟨_, _, L, F, tv, hD⟩ := h
  exact (Cut_any w B a mb L F tv d hD (by have := hG.ops; omega) (by have := hG.tr; omega) (fun p hp => by have := hG.fl hU p hp; omega) s (by omega) z).mono fun _ _ h => OpS.of h
theorem sync_op (h : Sd B a mb d w0 w) (hG : Bd d N U) (hN : N ≤ 900) (s : ByteArray) (hs : s.size ≤ 1000) :
    Calls Tryz.prog 72 #[.pointer (some ⟨a, 0, none⟩), .string s] w (OpS B a mb (op d 4 s.data.toList [] 0 []) w) := by
  obtain ⟨_, _, L, F, tv, hD⟩ := h
  exact (Sync_any w B a mb L F tv d hD (by have := hG.ops; omega) (by have := hG.tr; omega) s (by omega)).mono fun _ _ h => OpS.of h
theorem delete_op (h : Sd B a mb d w0 w) (hG : Bd d N U) (hN : N ≤ 900) (s : ByteArray) (hs : s.size ≤ 1000) :
    Calls Tryz.prog 73 #[.pointer (some ⟨a, 0, none⟩), .string s] w (OpS B a mb (op d 6 s.data.toList [] 0 []) w) := by
  obtain ⟨_, _, L, F, tv, hD⟩ := h
  exact (Delete_any w B a mb L F tv d hD (by have := hG.ops; omega) (by have := hG.tr; omega) s (by omega)).mono fun _ _ h => OpS.of h
end

/-- A segment in memory. -/
def SegB (a : Nat) (n : Int) (s : S) : Obj := .cells #[.pointer (some ⟨a, 0, none⟩), .int .i64 n, .int .i64 (s.size : Nat), .bool s.sick] 118
/-- What makes, or opens, a segment answers: the segment, or an error of a code. -/
structure CrP (B a mb : Nat) (n : Int) (X : Int × D) (size : Nat) (w : World) (p er : Value) (w' : World) : Prop where
  st : Sd B a mb X.2 w w'
  res : (X.1 = 0 ∧ er = .nilIface ∧ ∃ sb, p = .pointer (some ⟨sb, 0, none⟩) ∧ w.heap.size ≤ sb ∧ w'.heap[sb]? = some (SegB a n ⟨size, false⟩)) ∨
    (X.1 ≠ 0 ∧ p = .pointer none ∧ ErrB w' X.1 n segT er)

theorem seg_nm {n : Int} (h : okN n = true) : ∃ s : ByteArray, strOf (nameOf seg4 n) = s ∧ s.data.toList = nameOf seg4 n ∧ s.size ≤ 12 := by
  refine ⟨_, rfl, rfl, ?_⟩
  rw [strOf_size']
  unfold nameOf
  rw [h, if_pos rfl, List.length_append, Nu.eight_len]
  decide

set_option maxHeartbeats 1000000 in
set_option maxRecDepth 100000 in
theorem Create_any (w : World) (B a mb N U : Nat) (d : D) (h : Sd B a mb d w w) (hG : Bd d N U) (hN : N ≤ 800) (hU : U ≤ 900000) (n : Int) (hok : okN n = true) (hE : Te B w) :
    Calls Tryz.prog 25 #[.pointer (some ⟨a, 0, none⟩), .int .i64 n] w fun e w' => ∃ p er, e = .returned (.tuple #[p, er]) ∧ CrP B a mb n (create d (nameOf seg4 n) (head n)) 12 w p er w' := by
  obtain ⟨s, hs1, hs2, hs3⟩ := seg_nm hok
  obtain ⟨X, hX⟩ : ∃ X, create d (nameOf seg4 n) (head n) = X := ⟨_, rfl⟩
  rw [hX]
  rw [← hs2] at hX
  unfold create at hX
  have hl12 := head_len hok
  have hm := segmay_any n w
  rw [hok] at hm
  have hnm := segName_any n w hE.tens
  rw [show strOf (nameOf [115, 101, 103, 46] n) = s from hs1] at hnm
  have hX' := Lib.hid hX
  have hl12' := Lib.hid hl12
  clear hX hs1 hs2 hok hl12
  go_enter Tryz.func25, Tryz.ntmps25
  go_wp2_with fail
  refine hm.mono ?_
  rintro e w1 ⟨rfl, rfl⟩
  clear hm
  go_wp2_with fail
  refine hnm.mono ?_
  rintro e w2 ⟨rfl, hb2⟩
  have hS2 := Lib.hid (Sd.bel h hb2)
  clear hb2 hnm
  go_wp2_with fail
  refine (create_op hS2.out hG (by omega) s (by omega)).mono ?_
  rintro e w3 ⟨rfl, hst3⟩
  have hS3 := Lib.hid (Sd.then_ hS2.out hst3)
  have hG3 := hG.op0 1 s.data.toList [] 0
  clear hst3 hS2
  obtain ⟨Y, hY⟩ : ∃ Y, op d 1 s.data.toList [] 0 [] = Y := ⟨_, rfl⟩
  rw [hY] at hX' hS3 hG3 ⊢
  obtain ⟨c1, d1⟩ := Y
  simp only at hS3 hG3 hX' ⊢
  clear hY
  by_cases hc1 : c1 = 0
  · subst hc1
    have hX2 := hX'.out
    rw [if_neg (by simp)] at hX2
    have hX3 := Lib.hid hX2
    clear hX2 hX'
    go_wp2_with fail
    refine (Head_any n w3).mono ?_
    rw [hl12'.out]
    rintro e w4 ⟨Ah, ch, rfl, ho4, hb4⟩
    have hbs4 := Lib.hid ho4.bs
    have hS4 := Lib.hid (Sd.bel hS3.out hb4)
    clear ho4 hb4 hS3
    go_wp2_with fail
    refine (append_op hS4.out hG3 (by omega) (by omega) s (by omega) Ah 12 ch (head n) hbs4.out (by omega)).mono ?_
    rintro e w5 ⟨rfl, hst5⟩
    have hS5 := Lib.hid (Sd.then_ hS4.out hst5)
    have hG5 := hG3.op 2 s.data.toList [] 0 (head n)
    rw [hl12'.out] at hG5
    clear hst5 hS4 hbs4
    unfold appB at hX3
    obtain ⟨Y, hY⟩ : ∃ Y, op d1 2 s.data.toList [] 0 (head n) = Y := ⟨_, rfl⟩
    rw [hY] at hX3 hS5 hG5 ⊢
    obtain ⟨c2, d2⟩ := Y
    simp only at hS5 hG5 hX3 ⊢
    clear hY
    by_cases hc2 : c2 = 0
    · subst hc2
      rw [if_pos rfl] at hX3
      go_wp2_with fail
      refine (sync_op hS5.out hG5 (by omega) s (by omega)).mono ?_
      rintro e w6 ⟨rfl, hst6⟩
      have hS6 := Lib.hid (Sd.then_ hS5.out hst6)
      have hG6 := hG5.op0 4 s.data.toList [] 0
      clear hst6 hS5
      obtain ⟨Y, hY⟩ : ∃ Y, op d2 4 s.data.toList [] 0 [] = Y := ⟨_, rfl⟩
      rw [hY] at hX3 hS6 hG6 ⊢
      obtain ⟨c3, d3⟩ := Y
      simp only at hS6 hG6 hX3 ⊢
      clear hY
      unfold createC at hX3
      simp only at hX3
      by_cases hc3 : c3 = 0
      · subst hc3
        rw [if_neg (by simp)] at hX3
        have hX4 := hX3.out
        subst hX4
        go_wp2_with fail
        go_ret2
        have hle := Sd.le hS6.out
        have hba := below_alloc w6 (SegB a n ⟨12, false⟩)
        have hh := h.1.size
        exact ⟨_, _, rfl, Sd.bel hS6.out hba, .inl ⟨rfl, rfl, w6.heap.size, rfl, by have := hS6.out.1.size; omega, heap_alloc_new w6 _⟩⟩
      · have hX4 := hX3.out
        rw [if_pos hc3] at hX4
        subst hX4
        have hne : (c3 != 0) = true := by simpa using hc3
        have hne2 : (c3 == 0) = false := by simpa using hc3
        go_wp2_with fail
        refine (delete_op hS6.out hG6 (by omega) s (by omega)).mono ?_
        rintro e w8 ⟨rfl, hst8⟩
        have hS8 := Lib.hid (Sd.then_ hS6.out hst8)
        clear hst8
        go_wp2_with fail
        refine (fail_any c3 n hc3 w8).mono ?_
        rintro e w9 ⟨v, rfl, hb9, hf9⟩
        have hS9 := Lib.hid (Sd.bel hS8.out hb9)
        have hf9' := Lib.hid hf9
        clear hb9 hf9
        go_wp2_with fail
        go_ret2
        exact ⟨_, _, rfl, hS9.out, .inr ⟨hc3, rfl, hf9'.out⟩⟩
    · rw [if_neg hc2] at hX3
      unfold createC at hX3
      simp only at hX3
      have hX4 := hX3.out
      rw [if_pos hc2] at hX4
      subst hX4
      have hne : (c2 != 0) = true := by simpa using hc2
      have hne2 : (c2 == 0) = false := by simpa using hc2
      go_wp2_with fail
      refine (delete_op hS5.out hG5 (by omega) s (by omega)).mono ?_
      rintro e w8 ⟨rfl, hst8⟩
      have hS8 := Lib.hid (Sd.then_ hS5.out hst8)
      clear hst8
      go_wp2_with fail
      refine (fail_any c2 n hc2 w8).mono ?_
      rintro e w9 ⟨v, rfl, hb9, hf9⟩
      have hS9 := Lib.hid (Sd.bel hS8.out hb9)
      have hf9' := Lib.hid hf9
      clear hb9 hf9
      go_wp2_with fail
      go_ret2
      exact ⟨_, _, rfl, hS9.out, .inr ⟨hc2, rfl, hf9'.out⟩⟩
  · have hX2 := hX'.out
    rw [if_pos hc1] at hX2
    subst hX2
    have hne : (c1 != 0) = true := by simpa using hc1
    go_wp2_with fail
    refine (fail_any c1 n hc1 w3).mono ?_
    rintro e w4 ⟨v, rfl, hb4, hf4⟩
    have hS4 := Lib.hid (Sd.bel hS3.out hb4)
    have hf4' := Lib.hid hf4
    clear hb4 hf4
    go_wp2_with fail
    go_ret2
    exact ⟨_, _, rfl, hS4.out, .inr ⟨hc1, rfl, hf4'.out⟩⟩
end Go.Proofs.YtfdpnjebhllpkaaGreatDoor.Sg
end

section
namespace Go.Proofs.YtfdpnjebhllpkaaGreatDoor.Sg
open Go.RowKit Dk

/-- Nothing but the code's disks, files, maps and segments has turned. -/
def Kc (w w' : World) : Prop := ∀ (k : Nat) (cs : Array Value) (E : TypeId) (fr : Nat × Nat), w.heap[k]? = some (Obj.cells cs E fr) → E ≠ 132 → E ≠ 113 → E ≠ 118 → w'.heap[k]? = some (Obj.cells cs E fr)
/-- Nothing but the document's disks, rows of files and segments has turned. -/
def Kr (w w' : World) : Prop := ∀ (k : Nat) (o : Obj), w.heap[k]? = some o → (∀ cs fr, o ≠ .cells cs 66 fr) → (∀ cs fr, o ≠ .cells cs 84 fr) → (∀ cs fr, o ≠ .cells cs 70 fr) → w'.heap[k]? = some o

section
variable {w w1 w2 w' : World}
theorem Kc.refl (w : World) : Kc w w := fun _ _ _ _ h _ _ _ => h
theorem Kc.trans (h : Kc w w1) (h2 : Kc w1 w2) : Kc w w2 := fun k cs E fr hk h3 h4 h5 => h2 k cs E fr (h k cs E fr hk h3 h4 h5) h3 h4 h5
theorem Kc.fm (h : Fm w w') : Kc w w' := fun k cs E fr hk h3 h4 _ => h k cs E fr hk h3 h4
theorem Kc.below (h : Below w.heap.size w w') : Kc w w' := Kc.fm (Fm.below h)
theorem Kc.seg {sb i : Nat} {cs : Array Value} (hh : w.heap[sb]? = some (.cells cs 118)) (u : Value) : Kc w (w.setCell ⟨sb, i, none⟩ u) := fun k cs' E fr hk _ _ h5 => by
  refine ((grown_set w ⟨sb, i, none⟩ u).block k (Array.getElem?_eq_some_iff.1 hk).1 ?_).trans hk
  intro e
  injection e with e
  simp only at e
  subst e
  rw [hh] at hk
  injection hk with hk
  injection hk with _ e2 _
  exact h5 e2.symm
theorem Kr.refl (w : World) : Kr w w := fun _ _ h _ _ _ => h
theorem Kr.trans (h : Kr w w1) (h2 : Kr w1 w2) : Kr w w2 := fun k o hk h3 h4 h5 => h2 k o (h k o hk h3 h4 h5) h3 h4 h5
theorem Kr.rm (h : Rm w w') : Kr w w' := fun k o hk h3 h4 _ => h k o hk h3 h4
theorem Kr.below (h : Below w.heap.size w w') : Kr w w' := Kr.rm (Rm.below h)
theorem Kr.seg {sb i : Nat} {cs : Array Value} (hh : w.heap[sb]? = some (.cells cs 70)) (u : Value) : Kr w (w.setCell ⟨sb, i, none⟩ u) := fun k o hk _ _ h5 => by
  refine ((grown_set w ⟨sb, i, none⟩ u).block k (Array.getElem?_eq_some_iff.1 hk).1 ?_).trans hk
  intro e
  injection e with e
  simp only at e
  subst e
  rw [hh] at hk
  injection hk with hk
  exact h5 _ _ hk.symm

theorem Kc.row (h : Kc w w') {B E s n : Nat} {v : Value} {xs : List Value} (ho : w.ownsRow B E s v n xs) (h3 : E ≠ 132) (h4 : E ≠ 113) (h5 : E ≠ 118) : w'.ownsRow B E s v n xs := by
  obtain ⟨h1, h2⟩ := ho
  refine ⟨h1, h2.imp id ?_⟩
  rintro ⟨g, cap, cur, hv, hB, hh, hr⟩
  exact ⟨g, cap, cur, hv, hB, h g _ _ _ hh h3 h4 h5, hr⟩
theorem Kr.row (h : Kr w w') {B E s n : Nat} {v : Value} {xs : List Value} (ho : w.ownsRow B E s v n xs) (h3 : E ≠ 66) (h4 : E ≠ 84) (h5 : E ≠ 70) : w'.ownsRow B E s v n xs := by
  obtain ⟨h1, h2⟩ := ho
  refine ⟨h1, h2.imp id ?_⟩
  rintro ⟨g, cap, cur, hv, hB, hh, hr⟩
  refine ⟨g, cap, cur, hv, hB, h g _ hh (fun cs fr e => ?_) (fun cs fr e => ?_) (fun cs fr e => ?_), hr⟩
  · injection e with _ e _; exact h3 e
  · injection e with _ e _; exact h4 e
  · injection e with _ e _; exact h5 e

theorem ErrB.kc {code at_ : Int} {t : ByteArray} {e : Value} (h : ErrB w code at_ t e) (hk : Kc w w') : ErrB w' code at_ t e := by
  obtain ⟨b, b2, rfl, h1, h2⟩ := h
  exact ⟨b, b2, rfl, hk _ _ _ _ h1 (by decide) (by decide) (by decide), hk _ _ _ _ h2 (by decide) (by decide) (by decide)⟩
theorem ErrB.kr {code at_ : Int} {t : ByteArray} {e : Value} (h : ErrB w code at_ t e) (hk : Kr w w') : ErrB w' code at_ t e := by
  obtain ⟨b, b2, rfl, h1, h2⟩ := h
  refine ⟨b, b2, rfl, hk _ _ h1 (fun cs fr e => ?_) (fun cs fr e => ?_) (fun cs fr e => ?_), hk _ _ h2 (fun cs fr e => ?_) (fun cs fr e => ?_) (fun cs fr e => ?_)⟩ <;>
    (injection e with _ e _; exact absurd e (by decide))

/-- The program's disk stays as it is. -/
theorem Da.kr {B a mb : Nat} {L : Al Nat} {F : Nat → Fl} {tv : Value} {d : D} (h : Da w B a mb L F tv d) (hr : Kr w w') : Da w' B a mb L F tv d := by
  obtain ⟨es, cl, hmb⟩ := h.mblk
  have hm : w'.heap[mb]? = some (.map es cl) := hr mb _ hmb (fun cs fr e => by cases e) (fun cs fr e => by cases e) (fun cs fr e => by cases e)
  refine ⟨h.base, hr a _ h.blk (fun cs fr e => ?_) (fun cs fr e => ?_) (fun cs fr e => ?_), ?_, h.fs, h.up, fun p hp => ?_, h.nd, hr.row h.tr (by decide) (by decide) (by decide)⟩
  · injection e with _ e _; exact absurd e (by decide)
  · injection e with _ e _; exact absurd e (by decide)
  · injection e with _ e _; exact absurd e (by decide)
  · obtain ⟨es', cl', h1, h2⟩ := h.own
    rw [hmb] at h1
    injection h1 with h1
    injection h1 with e1 e2
    subst e1; subst e2
    exact ⟨_, _, hm, h2⟩
  · obtain ⟨h1, v, h2, h3⟩ := h.files p hp
    refine ⟨h1, v, hr p.2 _ h2 (fun cs fr e => ?_) (fun cs fr e => ?_) (fun cs fr e => ?_), hr.row h3 (by decide) (by decide) (by decide)⟩
    · injection e with _ e _; exact absurd e (by decide)
    · injection e with _ e _; exact absurd e (by decide)
    · injection e with _ e _; exact absurd e (by decide)
/-- The document's disk stays as it is. -/
theorem Ra.kc {B rb : Nat} {lv tv : Value} {d : D} (h : Ra w B rb lv tv d) (hf : Kc w w') : Ra w' B rb lv tv d := by
  refine ⟨h.base, hf rb _ _ _ h.blk (by decide) (by decide) (by decide), ?_, hf.row h.tr (by decide) (by decide) (by decide)⟩
  obtain ⟨xs, h3, h4⟩ := h.row
  refine ⟨xs, hf.row h3 (by decide) (by decide) (by decide), h4.mono ?_⟩
  rintro vs x ⟨s, v, rfl, k1, k2⟩
  exact ⟨s, v, rfl, k1, hf.row k2 (by decide) (by decide) (by decide)⟩
theorem OwR.kc {B : Nat} {v : Value} {l : List (List UInt8)} (h : OwR w B v l) (hf : Kc w w') : OwR w' B v l := by
  obtain ⟨xs, h3, h4⟩ := h
  refine ⟨xs, hf.row h3 (by decide) (by decide) (by decide), h4.mono ?_⟩
  rintro vs x ⟨v, rfl, k2⟩
  exact ⟨v, rfl, hf.row k2 (by decide) (by decide) (by decide)⟩
theorem OwR.kr {B : Nat} {v : Value} {l : List (List UInt8)} (h : OwR w B v l) (hf : Kr w w') : OwR w' B v l := by
  obtain ⟨xs, h3, h4⟩ := h
  refine ⟨xs, hf.row h3 (by decide) (by decide) (by decide), h4.mono ?_⟩
  rintro vs x ⟨v, rfl, k2⟩
  exact ⟨v, rfl, hf.row k2 (by decide) (by decide) (by decide)⟩
/-- A segment's cell is stored to: the disk stays as it is. -/
theorem Da.seg {B a mb sb i : Nat} {L : Al Nat} {F : Nat → Fl} {tv : Value} {d : D} {cs : Array Value} (h : Da w B a mb L F tv d) (hh : w.heap[sb]? = some (.cells cs 118)) (u : Value) : Da (w.setCell ⟨sb, i, none⟩ u) B a mb L F tv d := by
  refine h.kept (grown_set w ⟨sb, i, none⟩ u) (fun e => ?_) (fun e => ?_) (fun p hp e => ?_) (NoE.of hh (by intro cs fr e; injection e with _ e2 _; exact absurd e2 (by decide))) (NoE.of hh (by intro cs fr e; injection e with _ e2 _; exact absurd e2 (by decide)))
  · injection e with e
    simp only at e
    subst e
    have := h.blk
    rw [hh] at this
    injection this with this
    injection this with _ e2 _
    exact absurd e2 (by decide)
  · injection e with e
    simp only at e
    subst e
    obtain ⟨es, cl, hm⟩ := h.mblk
    rw [hh] at hm
    cases hm
  · injection e with e
    simp only at e
    subst e
    obtain ⟨_, v, h2, _⟩ := h.files p hp
    rw [hh] at h2
    injection h2 with h2
    injection h2 with _ e2 _
    exact absurd e2 (by decide)
end
end Go.Proofs.YtfdpnjebhllpkaaGreatDoor.Sg
end

section
namespace Go.Proofs.YtfdpnjebhllpkaaGreatDoor.Sg
open Go.RowKit Ma Dk

/-- What Open answers: a segment or an error, and the records. -/
def OpenP (B a mb : Nat) (n : Int) (X : (Int × List (List UInt8) × Nat) × D) (w : World) (e : Ending) (w' : World) : Prop :=
  ∃ p v er, e = .returned (.tuple #[p, v, er]) ∧ CrP B a mb n (X.1.1, X.2) X.1.2.2 w p er w' ∧ ∃ A c, v = .slice A X.1.2.1.length c ∧ OwR w' w.heap.size (.slice A X.1.2.1.length c) X.1.2.1

theorem read_op {B a mb N U : Nat} {d : D} {w0 w : World} (h : Sd B a mb d w0 w) (hG : Bd d N U) (hU : U ≤ 1000000) (s : ByteArray) (hs : s.size ≤ 1000) :
    Calls Tryz.prog 80 #[.pointer (some ⟨a, 0, none⟩), .string s] w (ReadP B d s.data.toList w) := by
  obtain ⟨_, _, L, F, tv, hD⟩ := h
  exact Read_any w B a mb L F tv d hD s (by omega) (hG.fl hU)

set_option maxHeartbeats 2000000 in
set_option maxRecDepth 100000 in
theorem Open_any (w : World) (B a mb N U : Nat) (d : D) (h : Sd B a mb d w w) (hG : Bd d N U) (hN : N ≤ 800) (hU : U ≤ 900000) (n : Int) (hok : okN n = true) (hE : Te B w) :
    Calls Tryz.prog 31 #[.pointer (some ⟨a, 0, none⟩), .int .i64 n, .bool true] w (OpenP B a mb n (open_ d (nameOf seg4 n) (head n)) w) := by
  obtain ⟨s, hs1, hs2, hs3⟩ := seg_nm hok
  obtain ⟨X, hX⟩ : ∃ X, open_ d (nameOf seg4 n) (head n) = X := ⟨_, rfl⟩
  rw [hX]
  rw [← hs2] at hX
  unfold open_ at hX
  have hnm := segName_any n w hE.tens
  rw [show strOf (nameOf [115, 101, 103, 46] n) = s from hs1] at hnm
  have hsc : ∀ b, scanN n b = scan (head n) b := fun b => by unfold scanN; rw [if_pos hok]
  have hsc' := Lib.hid hsc
  have hX' := Lib.hid hX
  clear hX hs1 hs2 hok hsc
  go_enter Tryz.func31, Tryz.ntmps31
  go_wp2_with fail
  refine hnm.mono ?_
  rintro e w2 ⟨rfl, hb2⟩
  have hS2 := Lib.hid (Sd.bel h hb2)
  clear hb2 hnm
  go_wp2_with fail
  refine (read_op hS2.out hG (by omega) s (by omega)).mono ?_
  rintro e w3 ⟨hb3, v3, l3, rfl, ho3, hl3⟩
  have hS3 := Lib.hid (Sd.bel hS2.out hb3)
  obtain ⟨A3, c3, rfl, hbs3⟩ := OwB.slice ho3
  have hbs3' := Lib.hid hbs3
  clear hb3 hS2 ho3 hbs3
  cases hf : Dk.get d.fs s.data.toList with
  | none =>
    rw [hf] at hX'
    have hX4 := hX'.out
    simp only at hX4
    subst hX4
    clear hl3 hf hX'
    have hne42 : (42 : Int) ≠ 0 := by decide
    go_wp2_with fail
    refine (fail_any 42 n hne42 w3).mono ?_
    rintro e w9 ⟨v, rfl, hb9, hf9⟩
    have hS9 := Lib.hid (Sd.bel hS3.out hb9)
    have hf9' := Lib.hid hf9
    clear hb9 hf9
    go_wp2_with fail
    go_ret3
    exact ⟨_, _, _, rfl, ⟨hS9.out, .inr ⟨hne42, rfl, hf9'.out⟩⟩, none, 0, rfl, OwS.nil _ _ _⟩
  | some f =>
    rw [hf] at hX' hl3
    simp only [Option.map_some, Option.getD_some] at hl3
    subst hl3
    have hlu : f.data.length ≤ 1000000 := by have := len_le_used_ hf; have := hG.used; omega
    clear hf
    go_wp2_with fail
    refine (Scan_any n A3 _ c3 f.data w3 hbs3'.out (by omega)).mono ?_
    rintro e w4 ⟨A4, c4, he4, ho4, hb4⟩
    have hS4 := Lib.hid (Sd.bel hS3.out hb4)
    have hwle := hS3.out.1.size
    have hO4 := Lib.hid (OwR.base ho4 hwle)
    have hgl := scan_good (head n) f.data
    rw [hsc'.out] at he4 hO4
    obtain ⟨R, hR⟩ : ∃ R, scan (head n) f.data = R := ⟨_, rfl⟩
    have hX2 := hX'.out
    rw [hR] at hX2 he4 hO4 hgl
    obtain ⟨ls, g, st⟩ := R
    simp only at he4 hO4 hgl
    subst he4
    have hX3 := Lib.hid hX2
    clear hb4 ho4 hR hX2 hX' hS3 hbs3' hsc'
    unfold openS at hX3
    by_cases hs4 : st = 4
    · subst hs4
      rw [if_pos (.inl rfl)] at hX3
      have hX4 := hX3.out
      subst hX4
      have hne50 : (50 : Int) ≠ 0 := by decide
      go_wp2_with fail
      refine (fail_any 50 n hne50 w4).mono ?_
      rintro e w9 ⟨v, rfl, hb9, hf9⟩
      have hS9 := Lib.hid (Sd.bel hS4.out hb9)
      have hf9' := Lib.hid hf9
      clear hb9 hf9
      go_wp2_with fail
      go_ret3
      exact ⟨_, _, _, rfl, ⟨hS9.out, .inr ⟨hne50, rfl, hf9'.out⟩⟩, none, 0, rfl, OwS.nil _ _ _⟩
    · by_cases hs3' : st = 3
      · subst hs3'
        by_cases hg0 : g = 0
        · rw [if_pos (.inr ⟨rfl, hg0⟩)] at hX3
          have hX4 := hX3.out
          subst hX4
          subst hg0
          have hne50 : (50 : Int) ≠ 0 := by decide
          go_wp2_with fail
          refine (fail_any 50 n hne50 w4).mono ?_
          rintro e w9 ⟨v, rfl, hb9, hf9⟩
          have hS9 := Lib.hid (Sd.bel hS4.out hb9)
          have hf9' := Lib.hid hf9
          clear hb9 hf9
          go_wp2_with fail
          go_ret3
          exact ⟨_, _, _, rfl, ⟨hS9.out, .inr ⟨hne50, rfl, hf9'.out⟩⟩, none, 0, rfl, OwS.nil _ _ _⟩
        · rw [if_neg (by rintro (h9 | ⟨_, h9⟩); exact absurd (show (3 : Nat) = 4 from h9) (by decide); exact hg0 h9)] at hX3
          have i0 : ((g : Int) == 0) = false := by rw [beq_eq_false_iff_ne]; omega
          have i1 : (g == 0) = false := by rw [beq_eq_false_iff_ne]; omega
          unfold openA at hX3
          rw [if_pos rfl] at hX3
          clear hg0 hs4
          go_wp2_with fail
          refine (cut_op hS4.out hG (by omega) (by omega) s (by omega) (g : Int)).mono ?_
          rintro e w5 ⟨rfl, hst5⟩
          have hS5 := Lib.hid (Sd.then_ hS4.out hst5)
          have hO5 := Lib.hid (OwR.fm hO4.out hst5.2.1)
          have hG5 := hG.op0 3 s.data.toList [] (g : Int)
          clear hst5 hS4 hO4
          obtain ⟨Y, hY⟩ : ∃ Y, op d 3 s.data.toList [] (g : Int) [] = Y := ⟨_, rfl⟩
          rw [hY] at hX3 hS5 hG5 ⊢
          obtain ⟨c5, d5⟩ := Y
          simp only at hS5 hG5 ⊢
          clear hY
          by_cases hc5 : c5 = 0
          · subst hc5
            go_wp2_with fail
            refine (sync_op hS5.out hG5 (by omega) s (by omega)).mono ?_
            rintro e w7 ⟨rfl, hst7⟩
            have hS7 := Lib.hid (Sd.then_ hS5.out hst7)
            have hO7 := Lib.hid (OwR.fm hO5.out hst7.2.1)
            clear hst7
            unfold openB at hX3
            rw [if_pos rfl] at hX3
            obtain ⟨Y, hY⟩ : ∃ Y, op d5 4 s.data.toList [] 0 [] = Y := ⟨_, rfl⟩
            try simp only at hX3
            rw [hY] at hX3 hS7 ⊢
            obtain ⟨c7, d7⟩ := Y
            simp only at hS7 hX3 ⊢
            clear hY
            unfold openC at hX3
            simp only at hX3
            by_cases hc7 : c7 = 0
            · subst hc7
              rw [if_neg (by simp)] at hX3
              have hX4 := hX3.out
              subst hX4
              go_wp2_with fail
              go_ret3
              have hba := below_alloc w7 (SegB a n ⟨g, false⟩)
              have hh := hS7.out.1.size
              exact ⟨_, _, _, rfl, ⟨Sd.bel hS7.out hba, .inl ⟨rfl, rfl, w7.heap.size, rfl, hh, heap_alloc_new w7 _⟩⟩, A4, c4, rfl, OwR.below hO7.out hba⟩
            · rw [if_pos hc7] at hX3
              have hX4 := hX3.out
              subst hX4
              have hne : (c7 != 0) = true := by simpa using hc7
              go_wp2_with fail
              refine (fail_any c7 n hc7 w7).mono ?_
              rintro e w9 ⟨v, rfl, hb9, hf9⟩
              have hS9 := Lib.hid (Sd.bel hS7.out hb9)
              have hf9' := Lib.hid hf9
              clear hb9 hf9
              go_wp2_with fail
              go_ret3
              exact ⟨_, _, _, rfl, ⟨hS9.out, .inr ⟨hc7, rfl, hf9'.out⟩⟩, none, 0, rfl, OwS.nil _ _ _⟩
          · unfold openB at hX3
            rw [if_neg hc5] at hX3
            unfold openC at hX3
            rw [if_pos hc5] at hX3
            have hX4 := hX3.out
            subst hX4
            have hne : (c5 != 0) = true := by simpa using hc5
            have hne2 : (c5 == 0) = false := by simpa using hc5
            go_wp2_with fail
            refine (fail_any c5 n hc5 w5).mono ?_
            rintro e w9 ⟨v, rfl, hb9, hf9⟩
            have hS9 := Lib.hid (Sd.bel hS5.out hb9)
            have hf9' := Lib.hid hf9
            clear hb9 hf9
            go_wp2_with fail
            go_ret3
            exact ⟨_, _, _, rfl, ⟨hS9.out, .inr ⟨hc5, rfl, hf9'.out⟩⟩, none, 0, rfl, OwS.nil _ _ _⟩
      · rw [if_neg (by rintro (h9 | ⟨h9, _⟩); exact hs4 h9; exact hs3' h9)] at hX3
        have i0 : ((st : Int) == 4) = false := by rw [beq_eq_false_iff_ne]; omega
        have i1 : ((st : Int) == 3) = false := by rw [beq_eq_false_iff_ne]; omega
        have i2 : (st == 4) = false := by rw [beq_eq_false_iff_ne]; exact hs4
        have i3 : (st == 3) = false := by rw [beq_eq_false_iff_ne]; exact hs3'
        unfold openA at hX3
        rw [if_neg (by exact hs3')] at hX3
        clear hs4 hs3'
        go_wp2_with fail
        refine (sync_op hS4.out hG (by omega) s (by omega)).mono ?_
        rintro e w7 ⟨rfl, hst7⟩
        have hS7 := Lib.hid (Sd.then_ hS4.out hst7)
        have hO7 := Lib.hid (OwR.fm hO4.out hst7.2.1)
        clear hst7
        unfold openB at hX3
        rw [if_pos rfl] at hX3
        obtain ⟨Y, hY⟩ : ∃ Y, op d 4 s.data.toList [] 0 [] = Y := ⟨_, rfl⟩
        try simp only at hX3
        rw [hY] at hX3 hS7 ⊢
        obtain ⟨c7, d7⟩ := Y
        simp only at hS7 hX3 ⊢
        clear hY
        unfold openC at hX3
        simp only at hX3
        by_cases hc7 : c7 = 0
        · subst hc7
          rw [if_neg (by simp)] at hX3
          have hX4 := hX3.out
          subst hX4
          go_wp2_with fail
          go_ret3
          have hba := below_alloc w7 (SegB a n ⟨g, false⟩)
          have hh := hS7.out.1.size
          exact ⟨_, _, _, rfl, ⟨Sd.bel hS7.out hba, .inl ⟨rfl, rfl, w7.heap.size, rfl, hh, heap_alloc_new w7 _⟩⟩, A4, c4, rfl, OwR.below hO7.out hba⟩
        · rw [if_pos hc7] at hX3
          have hX4 := hX3.out
          subst hX4
          have hne : (c7 != 0) = true := by simpa using hc7
          go_wp2_with fail
          refine (fail_any c7 n hc7 w7).mono ?_
          rintro e w9 ⟨v, rfl, hb9, hf9⟩
          have hS9 := Lib.hid (Sd.bel hS7.out hb9)
          have hf9' := Lib.hid hf9
          clear hb9 hf9
          go_wp2_with fail
          go_ret3
          exact ⟨_, _, _, rfl, ⟨hS9.out, .inr ⟨hc7, rfl, hf9'.out⟩⟩, none, 0, rfl, OwS.nil _ _ _⟩
end Go.Proofs.YtfdpnjebhllpkaaGreatDoor.Sg
end
