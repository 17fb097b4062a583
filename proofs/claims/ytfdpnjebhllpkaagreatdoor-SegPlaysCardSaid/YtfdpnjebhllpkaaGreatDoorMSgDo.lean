/- What segments do to a disk: its operations, with bounds; seg.Create. -/
import Derived.Test.YtfdpnjebhllpkaaGreatDoorMSgFail
import Derived.Test.YtfdpnjebhllpkaaGreatDoorMSgGd
import Derived.Test.YtfdpnjebhllpkaaGreatDoorMSgScan2
import Derived.Test.YtfdpnjebhllpkaaGreatDoorMDkMeth4
namespace Go.Proofs.YtfdpnjebhllpkaaGreatDoor.Sg
open Go.RowKit Ma Dk

section
variable {B a mb : Nat} {d d1 d2 : D} {w w1 w2 : World}
theorem Sd.refl' {L : Al Nat} {F : Nat → Fl} {tv : Value} (h : Da w B a mb L F tv d) : Sd B a mb d w w := ⟨Below.refl _ _, Fm.refl _, L, F, tv, h⟩
theorem Sd.le (h : Sd B a mb d w w1) : B ≤ w1.heap.size := by
  obtain ⟨_, _, _, _, _, hD⟩ := h
  have := hD.alt
  have := hD.base
  omega
theorem Sd.then_ (h : Sd B a mb d1 w w1) (h2 : Sd B a mb d2 w1 w2) : Sd B a mb d2 w w2 := h2.on h.1 h.2.1
theorem Sd.bel (h : Sd B a mb d w w1) (hb : Below w1.heap.size w1 w2) : Sd B a mb d w w2 := by
  have hle := Sd.le h
  obtain ⟨h1, h2, L, F, tv, hD⟩ := h
  exact ⟨h1.trans (hb.mono hle), h2.trans (Fm.below hb), L, F, tv, hD.below hb⟩
end

def OpS (B a mb : Nat) (X : Int × D) (w : World) (e : Ending) (w' : World) : Prop := e = .returned (.int .i64 X.1) ∧ Sd B a mb X.2 w w'
theorem OpS.of {B a mb : Nat} {tv : Value} {X : Int × D} {w w' : World} {e : Ending} (h : OpP B a mb tv X w e w') : OpS B a mb X w e w' := ⟨h.1, h.2.sd⟩

section
variable {B a mb : Nat} {d : D} {w0 w : World} {N U : Nat}
theorem Bd.fl (h : Bd d N U) (hU : U ≤ 1000000) : ∀ p ∈ d.fs, p.2.data.length ≤ 1000000 := fun p hp => by
  have := len_le_used hp
  have := h.used
  omega
theorem create_op (h : Sd B a mb d w0 w) (hG : Bd d N U) (hN : N ≤ 900) (s : ByteArray) (hs : s.size ≤ 1000) :
    Calls Tryz.prog 70 #[.pointer (some ⟨a, 0, none⟩), .string s] w (OpS B a mb (op d 1 s.data.toList [] 0 []) w) := by
  obtain ⟨_, _, L, F, tv, hD⟩ := h
  exact (Create_any w B a mb L F tv d hD (by have := hG.ops; omega) (by have := hG.tr; omega) (by have := hG.inv.most; omega) s (by omega)).mono fun _ _ h => OpS.of h
theorem append_op (h : Sd B a mb d w0 w) (hG : Bd d N U) (hN : N ≤ 900) (hU : U ≤ 1000000) (s : ByteArray) (hs : s.size ≤ 1000) (A : Option Addr) (n c : Nat) (l : List UInt8) (hB : Bs w A n c l) (hn : n ≤ 1000000) :
    Calls Tryz.prog 71 #[.pointer (some ⟨a, 0, none⟩), .string s, .slice A n c] w (OpS B a mb (op d 2 s.data.toList [] 0 l) w) := by
  obtain ⟨_, _, L, F, tv, hD⟩ := h
  exact (Append_any w B a mb L F tv d hD (by have := hG.ops; omega) (by have := hG.tr; omega) s (by omega) A n c l hB hn (by have := hG.used; omega) hG.room).mono fun _ _ h => OpS.of h
theorem cut_op (h : Sd B a mb d w0 w) (hG : Bd d N U) (hN : N ≤ 900) (hU : U ≤ 1000000) (s : ByteArray) (hs : s.size ≤ 1000) (z : Int) :
    Calls Tryz.prog 81 #[.pointer (some ⟨a, 0, none⟩), .string s, .int .i64 z] w (OpS B a mb (op d 3 s.data.toList [] z []) w) := by
  obtain ⟨_, _, L, F, tv, hD⟩ := h
  exact (Cut_any w B a mb L F tv d hD (by have := hG.ops; omega) (by have := hG.tr; omega) (fun p hp => by have := hG.fl hU p hp; omega) s (by omega) z).mono fun _ _ h => OpS.of h
theorem sync_op (h : Sd B a mb d w0 w) (hG : Bd d N U) (hN : N ≤ 900) (s : ByteArray) (hs : s.size ≤ 1000) :
    Calls Tryz.prog 72 #[.pointer (some ⟨a, 0, none⟩), .string s] w (OpS B a mb (op d 4 s.data.toList [] 0 []) w) := by
  obtain ⟨_, _, L, F, tv, hD⟩ := h
  exact (Sync_any w B a mb L F tv d hD (by have := hG.ops; omega) (by have := hG.tr; omega) s (by omega)).mono fun _ _ h => OpS.of h
theorem delete_op (h : Sd B a mb d w0 w) (hG : Bd d N U) (hN : N ≤ 900) (s : ByteArray) (hs : s.size ≤ 1000) :
    Calls Tryz.prog 73 #[.pointer (some ⟨a, 0, none⟩), .string s] w (OpS B a mb (op d 6 s.data.toList [] 0 []) w) := by
  obtain ⟨_, _, L, F, tv, hD⟩ := h
  exact (Delete_any w B a mb L F tv d hD (by have := hG.ops; omega) (by have := hG.tr; omega) s (by omega)).mono fun _ _ h => OpS.of h
end

/-- A segment in memory. -/
def SegB (a : Nat) (n : Int) (s : S) : Obj := .cells #[.pointer (some ⟨a, 0, none⟩), .int .i64 n, .int .i64 (s.size : Nat), .bool s.sick] 118
/-- What makes, or opens, a segment answers: the segment, or an error of a code. -/
structure CrP (B a mb : Nat) (n : Int) (X : Int × D) (size : Nat) (w : World) (p er : Value) (w' : World) : Prop where
  st : Sd B a mb X.2 w w'
  res : (X.1 = 0 ∧ er = .nilIface ∧ ∃ sb, p = .pointer (some ⟨sb, 0, none⟩) ∧ w.heap.size ≤ sb ∧ w'.heap[sb]? = some (SegB a n ⟨size, false⟩)) ∨
    (X.1 ≠ 0 ∧ p = .pointer none ∧ ErrB w' X.1 n segT er)

theorem seg_nm {n : Int} (h : okN n = true) : ∃ s : ByteArray, strOf (nameOf seg4 n) = s ∧ s.data.toList = nameOf seg4 n ∧ s.size ≤ 12 := by
  refine ⟨_, rfl, rfl, ?_⟩
  rw [strOf_size']
  unfold nameOf
  rw [h, if_pos rfl, List.length_append, Nu.eight_len]
  decide

set_option maxHeartbeats 1000000 in
set_option maxRecDepth 100000 in
theorem Create_any (w : World) (B a mb N U : Nat) (d : D) (h : Sd B a mb d w w) (hG : Bd d N U) (hN : N ≤ 800) (hU : U ≤ 900000) (n : Int) (hok : okN n = true) (hE : Te B w) :
    Calls Tryz.prog 25 #[.pointer (some ⟨a, 0, none⟩), .int .i64 n] w fun e w' => ∃ p er, e = .returned (.tuple #[p, er]) ∧ CrP B a mb n (create d (nameOf seg4 n) (head n)) 12 w p er w' := by
  obtain ⟨s, hs1, hs2, hs3⟩ := seg_nm hok
  obtain ⟨X, hX⟩ : ∃ X, create d (nameOf seg4 n) (head n) = X := ⟨_, rfl⟩
  rw [hX]
  rw [← hs2] at hX
  unfold create at hX
  have hl12 := head_len hok
  have hm := segmay_any n w
  rw [hok] at hm
  have hnm := segName_any n w hE.tens
  rw [show strOf (nameOf [115, 101, 103, 46] n) = s from hs1] at hnm
  have hX' := Lib.hid hX
  have hl12' := Lib.hid hl12
  clear hX hs1 hs2 hok hl12
  go_enter Tryz.func25, Tryz.ntmps25
  go_wp2_with fail
  refine hm.mono ?_
  rintro e w1 ⟨rfl, rfl⟩
  clear hm
  go_wp2_with fail
  refine hnm.mono ?_
  rintro e w2 ⟨rfl, hb2⟩
  have hS2 := Lib.hid (Sd.bel h hb2)
  clear hb2 hnm
  go_wp2_with fail
  refine (create_op hS2.out hG (by omega) s (by omega)).mono ?_
  rintro e w3 ⟨rfl, hst3⟩
  have hS3 := Lib.hid (Sd.then_ hS2.out hst3)
  have hG3 := hG.op0 1 s.data.toList [] 0
  clear hst3 hS2
  obtain ⟨Y, hY⟩ : ∃ Y, op d 1 s.data.toList [] 0 [] = Y := ⟨_, rfl⟩
  rw [hY] at hX' hS3 hG3 ⊢
  obtain ⟨c1, d1⟩ := Y
  simp only at hS3 hG3 hX' ⊢
  clear hY
  by_cases hc1 : c1 = 0
  · subst hc1
    have hX2 := hX'.out
    rw [if_neg (by simp)] at hX2
    have hX3 := Lib.hid hX2
    clear hX2 hX'
    go_wp2_with fail
    refine (Head_any n w3).mono ?_
    rw [hl12'.out]
    rintro e w4 ⟨Ah, ch, rfl, ho4, hb4⟩
    have hbs4 := Lib.hid ho4.bs
    have hS4 := Lib.hid (Sd.bel hS3.out hb4)
    clear ho4 hb4 hS3
    go_wp2_with fail
    refine (append_op hS4.out hG3 (by omega) (by omega) s (by omega) Ah 12 ch (head n) hbs4.out (by omega)).mono ?_
    rintro e w5 ⟨rfl, hst5⟩
    have hS5 := Lib.hid (Sd.then_ hS4.out hst5)
    have hG5 := hG3.op 2 s.data.toList [] 0 (head n)
    rw [hl12'.out] at hG5
    clear hst5 hS4 hbs4
    unfold appB at hX3
    obtain ⟨Y, hY⟩ : ∃ Y, op d1 2 s.data.toList [] 0 (head n) = Y := ⟨_, rfl⟩
    rw [hY] at hX3 hS5 hG5 ⊢
    obtain ⟨c2, d2⟩ := Y
    simp only at hS5 hG5 hX3 ⊢
    clear hY
    by_cases hc2 : c2 = 0
    · subst hc2
      rw [if_pos rfl] at hX3
      go_wp2_with fail
      refine (sync_op hS5.out hG5 (by omega) s (by omega)).mono ?_
      rintro e w6 ⟨rfl, hst6⟩
      have hS6 := Lib.hid (Sd.then_ hS5.out hst6)
      have hG6 := hG5.op0 4 s.data.toList [] 0
      clear hst6 hS5
      obtain ⟨Y, hY⟩ : ∃ Y, op d2 4 s.data.toList [] 0 [] = Y := ⟨_, rfl⟩
      rw [hY] at hX3 hS6 hG6 ⊢
      obtain ⟨c3, d3⟩ := Y
      simp only at hS6 hG6 hX3 ⊢
      clear hY
      unfold createC at hX3
      simp only at hX3
      by_cases hc3 : c3 = 0
      · subst hc3
        rw [if_neg (by simp)] at hX3
        have hX4 := hX3.out
        subst hX4
        go_wp2_with fail
        go_ret2
        have hle := Sd.le hS6.out
        have hba := below_alloc w6 (SegB a n ⟨12, false⟩)
        have hh := h.1.size
        exact ⟨_, _, rfl, Sd.bel hS6.out hba, .inl ⟨rfl, rfl, w6.heap.size, rfl, by have := hS6.out.1.size; omega, heap_alloc_new w6 _⟩⟩
      · have hX4 := hX3.out
        rw [if_pos hc3] at hX4
        subst hX4
        have hne : (c3 != 0) = true := by simpa using hc3
        have hne2 : (c3 == 0) = false := by simpa using hc3
        go_wp2_with fail
        refine (delete_op hS6.out hG6 (by omega) s (by omega)).mono ?_
        rintro e w8 ⟨rfl, hst8⟩
        have hS8 := Lib.hid (Sd.then_ hS6.out hst8)
        clear hst8
        go_wp2_with fail
        refine (fail_any c3 n hc3 w8).mono ?_
        rintro e w9 ⟨v, rfl, hb9, hf9⟩
        have hS9 := Lib.hid (Sd.bel hS8.out hb9)
        have hf9' := Lib.hid hf9
        clear hb9 hf9
        go_wp2_with fail
        go_ret2
        exact ⟨_, _, rfl, hS9.out, .inr ⟨hc3, rfl, hf9'.out⟩⟩
    · rw [if_neg hc2] at hX3
      unfold createC at hX3
      simp only at hX3
      have hX4 := hX3.out
      rw [if_pos hc2] at hX4
      subst hX4
      have hne : (c2 != 0) = true := by simpa using hc2
      have hne2 : (c2 == 0) = false := by simpa using hc2
      go_wp2_with fail
      refine (delete_op hS5.out hG5 (by omega) s (by omega)).mono ?_
      rintro e w8 ⟨rfl, hst8⟩
      have hS8 := Lib.hid (Sd.then_ hS5.out hst8)
      clear hst8
      go_wp2_with fail
      refine (fail_any c2 n hc2 w8).mono ?_
      rintro e w9 ⟨v, rfl, hb9, hf9⟩
      have hS9 := Lib.hid (Sd.bel hS8.out hb9)
      have hf9' := Lib.hid hf9
      clear hb9 hf9
      go_wp2_with fail
      go_ret2
      exact ⟨_, _, rfl, hS9.out, .inr ⟨hc2, rfl, hf9'.out⟩⟩
  · have hX2 := hX'.out
    rw [if_pos hc1] at hX2
    subst hX2
    have hne : (c1 != 0) = true := by simpa using hc1
    go_wp2_with fail
    refine (fail_any c1 n hc1 w3).mono ?_
    rintro e w4 ⟨v, rfl, hb4, hf4⟩
    have hS4 := Lib.hid (Sd.bel hS3.out hb4)
    have hf4' := Lib.hid hf4
    clear hb4 hf4
    go_wp2_with fail
    go_ret2
    exact ⟨_, _, rfl, hS4.out, .inr ⟨hc1, rfl, hf4'.out⟩⟩
end Go.Proofs.YtfdpnjebhllpkaaGreatDoor.Sg
