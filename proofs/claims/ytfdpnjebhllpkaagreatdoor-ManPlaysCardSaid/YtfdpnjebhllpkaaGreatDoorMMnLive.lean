/- Errors of manifests; slices.Contains at numbers; man.live. -/
import Derived.Test.YtfdpnjebhllpkaaGreatDoorMErrWalk2
import Derived.Test.YtfdpnjebhllpkaaGreatDoorMMnNeed
import Derived.Test.YtfdpnjebhllpkaaGreatDoorMManMay2
import Derived.Shelf.Lay
import Derived.Ground.NamesProg
import Derived.Shelf.Slices.Turned
section
namespace Go.Proofs.YtfdpnjebhllpkaaGreatDoor.Sg
open Go.RowKit Ma

/-- What the list gives, from block B on: the table of tens. -/
structure Te (B : Nat) (w : World) : Prop where
  le : B ≤ w.heap.size
  tab : Lib.TabBelow Tryz.prog B w "internal/strconv.uint64pow10" .u64 Lib.pow10Tab
theorem Te.on {B : Nat} {w w' : World} (h : Te B w) (hb : Below B w w') : Te B w' := ⟨Nat.le_trans h.le hb.size, h.tab.on hb⟩
theorem Te.sz {B : Nat} {w w' : World} (h : Te B w) (hb : Below w.heap.size w w') : Te B w' := h.on (hb.mono h.le)
theorem Te.tens {B : Nat} {w : World} (h : Te B w) : Nu.Tens w := fun w'' hb => h.tab w'' (hb.mono h.le)
theorem Te.of {B : Nat} {w : World} (h : Er.En B w) : Te B w := ⟨h.le, h.tab⟩
/-- The two errors of strconv, from block B on. -/
structure Eb (B : Nat) (w : World) : Prop where
  ev : Ev w
  syn : 1 < B
  rng : 2 < B
theorem Eb.on {B : Nat} {w w' : World} (h : Eb B w) (hb : Below B w w') : Eb B w' :=
  ⟨⟨by obtain ⟨tp, p, h1⟩ := h.ev.syn; exact ⟨tp, p, by rw [hb.cell h.syn]; exact h1⟩, by obtain ⟨tp, p, h1⟩ := h.ev.rng; exact ⟨tp, p, by rw [hb.cell h.rng]; exact h1⟩⟩, h.syn, h.rng⟩

/-- "segment" -/
def segT : ByteArray := ⟨#[115, 101, 103, 109, 101, 110, 116]⟩

/-- An error of a code and a place, wrapped once: its two blocks, whole. -/
def ErrB (w : World) (code at_ : Int) (t : ByteArray) (e : Value) : Prop :=
  ∃ b b2, e = .iface 206 (.pointer (some ⟨b2, 0, none⟩)) ∧ w.heap[b2]? = some (.cells #[.string t, .iface 124 (.pointer (some ⟨b, 0, none⟩))] 208) ∧
    w.heap[b]? = some (.cells #[.int .i64 code, .int .i64 at_] 128)
theorem ErrB.fe {w : World} {code at_ : Int} {t : ByteArray} {e : Value} (h : ErrB w code at_ t e) : Er.Fe w w.heap.size code at_ [t] e := by
  obtain ⟨b, b2, rfl, h1, h2⟩ := h
  have l1 := (Array.getElem?_eq_some_iff.1 h1).1
  have l2 := (Array.getElem?_eq_some_iff.1 h2).1
  exact ⟨b, l2, ⟨b2, _, rfl, l1, by simp [World.cell?, h1], by simp [World.cell?, h1], rfl, l2⟩, by simp [World.cell?, h2], by simp [World.cell?, h2]⟩
theorem ErrB.below {w w' : World} {code at_ : Int} {t : ByteArray} {e : Value} (h : ErrB w code at_ t e) (hb : Below w.heap.size w w') : ErrB w' code at_ t e := by
  obtain ⟨b, b2, rfl, h1, h2⟩ := h
  exact ⟨b, b2, rfl, (hb.block b2 (Array.getElem?_eq_some_iff.1 h1).1).trans h1, (hb.block b (Array.getElem?_eq_some_iff.1 h2).1).trans h2⟩

theorem NewT (code at_ : Int) (hc : code ≠ 0) (w : World) :
    Calls Tryz.prog 125 #[.int .i64 code, .int .i64 at_] w fun e w' => e = .returned (.iface 124 (.pointer (some ⟨w.heap.size, 0, none⟩))) ∧ w' = w.alloc (.cells #[.int .i64 code, .int .i64 at_] 128) := by
  have hc' : (code == 0) = false := by simpa using hc
  go_enter Tryz.func125, Tryz.ntmps125
  go_wp2
  go_ret
  exact ⟨rfl, rfl⟩
theorem WrapT (s : ByteArray) (T : TypeId) (ad : Addr) (w : World) :
    Calls Tryz.prog 124 #[.string s, .iface T (.pointer (some ad))] w fun e w' => e = .returned (.iface 206 (.pointer (some ⟨w.heap.size, 0, none⟩))) ∧ w' = w.alloc (.cells #[.string s, .iface T (.pointer (some ad))] 208) := by
  go_enter Tryz.func124, Tryz.ntmps124
  go_wp2
  go_ret
  exact ⟨rfl, rfl⟩
theorem errB_new (w : World) (code n : Int) (t : ByteArray) : ErrB ((w.alloc (.cells #[.int .i64 code, .int .i64 n] 128)).alloc (.cells #[.string t, .iface 124 (.pointer (some ⟨w.heap.size, 0, none⟩))] 208)) code n t
    (.iface 206 (.pointer (some ⟨w.heap.size + 1, 0, none⟩))) := by
  refine ⟨w.heap.size, w.heap.size + 1, rfl, ?_, ?_⟩
  · have := heap_alloc_new (w.alloc (.cells #[.int .i64 code, .int .i64 n] 128)) (.cells #[.string t, .iface 124 (.pointer (some ⟨w.heap.size, 0, none⟩))] 208)
    simpa using this
  · have h1 := heap_alloc_new w (.cells #[.int .i64 code, .int .i64 n] 128)
    exact ((below_alloc (w.alloc (.cells #[.int .i64 code, .int .i64 n] 128)) _).block w.heap.size (by simp)).trans h1

theorem fail_any (code n : Int) (hc : code ≠ 0) (w : World) :
    Calls Tryz.prog 69 #[.int .i64 code, .int .i64 n] w fun e w' => ∃ v, e = .returned v ∧ Below w.heap.size w w' ∧ ErrB w' code n segT v := by
  go_enter Tryz.func69, Tryz.ntmps69
  go_wp2_with fail
  refine (NewT code n hc w).mono ?_
  rintro e w1 ⟨rfl, rfl⟩
  go_wp2_with fail
  refine (WrapT segT _ _ _).mono ?_
  rintro e w2 ⟨rfl, rfl⟩
  have hb := Lib.hid ((below_alloc w (.cells #[.int .i64 code, .int .i64 n] 128)).trans ((below_alloc (w.alloc (.cells #[.int .i64 code, .int .i64 n] 128)) (.cells #[.string segT, .iface 124 (.pointer (some ⟨w.heap.size, 0, none⟩))] 208)).mono (by simp)))
  have he := Lib.hid (errB_new w code n segT)
  go_wp2_with fail
  go_ret
  exact ⟨_, rfl, hb.out, by simpa using he.out⟩
end Go.Proofs.YtfdpnjebhllpkaaGreatDoor.Sg
end

section
namespace Go.Proofs
open Go.Shelf Go.RowKit
shelf_lay Lays.n107 Nm 107 at Tryz as Tryz.laysCi
end Go.Proofs
namespace Go.Proofs.YtfdpnjebhllpkaaGreatDoor.Mn
open Go.RowKit Dk Ma Sg

/-- "manifest" -/
def manT : ByteArray := ⟨#[109, 97, 110, 105, 102, 101, 115, 116]⟩

theorem mfail_any (code n : Int) (hc : code ≠ 0) (w : World) :
    Calls Tryz.prog 93 #[.int .i64 code, .int .i64 n] w fun e w' => ∃ v, e = .returned v ∧ Below w.heap.size w w' ∧ ErrB w' code n manT v := by
  go_enter Tryz.func93, Tryz.ntmps93
  go_wp2_with fail
  refine (NewT code n hc w).mono ?_
  rintro e w1 ⟨rfl, rfl⟩
  go_wp2_with fail
  refine (WrapT manT _ _ _).mono ?_
  rintro e w2 ⟨rfl, rfl⟩
  have hb := Lib.hid ((below_alloc w (.cells #[.int .i64 code, .int .i64 n] 128)).trans ((below_alloc (w.alloc (.cells #[.int .i64 code, .int .i64 n] 128)) (.cells #[.string manT, .iface 124 (.pointer (some ⟨w.heap.size, 0, none⟩))] 208)).mono (by simp)))
  have he := Lib.hid (errB_new w code n manT)
  go_wp2_with fail
  go_ret
  exact ⟨_, rfl, hb.out, by simpa using he.out⟩

theorem containsI_any (A : Option Addr) (n c : Nat) (ss : List Int) (x : Int) (w : World) (hI : Is w A n c ss) :
    Calls Tryz.prog 156 #[.slice A n c, .int .i64 x] w fun e w' => e = .returned (.bool (ss.contains x)) ∧ w' = w := by
  have hl := hI.len
  have hle := Rd.le hI
  have hm := Rd.max hI
  rcases Nat.eq_zero_or_pos n with h0 | h0
  · subst h0
    obtain rfl : ss = [] := List.length_eq_zero_iff.1 hl
    exact Any.slices_Contains_int_empty Tryz.laysCi A c x w
  · obtain ⟨b, off, rfl, _, hc⟩ := Rd.cell hI h0
    have := Any.slices_Contains_int Tryz.laysCi b off n c ss x w (by omega) (by omega) (by
      intro j hj
      rw [hc j (.int .i64 (ss[j])) (by rw [List.getElem?_map, List.getElem?_eq_getElem hj]; rfl)]
      simp [List.getD, List.getElem?_eq_getElem hj])
    rw [List.take_of_length_le (by omega)] at this
    exact this

set_option maxHeartbeats 1000000 in
set_option maxRecDepth 100000 in
/-- man.live. -/
theorem live_any (g la : Int) (A : Option Addr) (n c : Nat) (ss : List Int) (s : ByteArray) (hs : s.size ≤ 1000) (w : World) (hT : Nu.Tens w) (hE : Ev w) (hI : Is w A n c ss) :
    Calls Tryz.prog 92 #[.string s, .agg #[.int .i64 g, .int .i64 la, .slice A n c]] w fun e w' => e = .returned (.bool (live g ss s.data.toList)) ∧ Below w.heap.size w w' := by
  have hn := segNum_any s hs
  have hg := fun w hT hE => manGen_any s hs w hT hE
  rw [seg_eq] at hn
  simp only [gen_eq] at hg
  obtain ⟨R, hR⟩ : ∃ R, live g ss s.data.toList = R := ⟨_, rfl⟩
  rw [hR]
  unfold live at hR
  obtain ⟨X1, hX1⟩ : ∃ X, numR s.data.toList = X := ⟨_, rfl⟩
  obtain ⟨X2, hX2⟩ : ∃ X, genR s.data.toList = X := ⟨_, rfl⟩
  rw [hX1] at hn hR
  simp only [hX2] at hg hR
  obtain ⟨n1, b1⟩ := X1
  obtain ⟨n2, b2⟩ := X2
  simp only at hR
  have hR' := Lib.hid hR
  have hn' := Lib.hid hn
  have hg' := Lib.hid hg
  have hI' := Lib.hid hI
  have hT' := Lib.hid hT
  have hE' := Lib.hid hE
  clear hX1 hX2 hR hn hg hI hT hE
  obtain ⟨S, hS⟩ : ∃ S, strOf (nameOf [109, 97, 110, 46] g) = S := ⟨_, rfl⟩
  have hN := manName_any g
  rw [hS] at hN
  have hN' := Lib.hid hN
  have hS' := Lib.hid hS
  clear hN hS
  go_enter Tryz.func92, Tryz.ntmps92
  go_wp2_with fail
  refine (hn'.out _ (hT'.out.below (below_alloc _ _)) (hE'.out.below (below_alloc _ _))).mono ?_
  rintro e w2 ⟨rfl, hb2⟩
  have hba := below_alloc w (.cells #[.int .i64 g, .int .i64 la, .slice A n c] 75)
  have hx2 := Lib.hid (hba.trans (hb2.mono (by simp)))
  have hm2 := Lib.hid ((mf_new w g la A n c 75).below hb2)
  unfold genV
  clear hb2 hba
  go_wp2_with fail
  refine (hg'.out w2 (hT'.out.below hx2.out) (hE'.out.below hx2.out)).mono ?_
  rintro e w3 ⟨rfl, hb3⟩
  have hx3 := Lib.hid (hx2.out.trans (hb3.mono hx2.out.size))
  obtain ⟨k0, k1, k2, _⟩ := hm2.out.below hb3
  unfold genV
  clear hb3 hm2
  cases b1 with
  | true =>
    go_wp2_with fail
    refine (containsI_any A n c ss n1 w3 (hI'.out.below hx3.out)).mono ?_
    rintro e w4 ⟨rfl, rfl⟩
    have hR2 : ss.contains n1 = R := by
      have h := hR'.out
      first | (rw [if_pos rfl] at h; exact h) | (rw [if_pos trivial] at h; exact h)
    rw [hR2]
    cases R with
    | true =>
      go_wp2_with fail
      go_ret
      exact ⟨rfl, hx3.out⟩
    | false =>
      go_wp2_with fail
      go_ret
      exact ⟨rfl, hx3.out⟩
  | false =>
    cases b2 with
    | false =>
      have hR2 := hR'.out
      rw [if_neg (by simp), if_neg (by simp)] at hR2
      subst hR2
      go_wp2_with fail
      go_ret
      exact ⟨rfl, hx3.out⟩
    | true =>
      have hR2 := hR'.out
      first | rw [if_neg (by simp), if_pos rfl] at hR2 | rw [if_neg (by simp), if_pos trivial] at hR2
      have heq : (s.toList == S.toList) = R := by
        rw [← hR2, ← hS'.out, str_beq]
        rw [Bool.eq_iff_iff, decide_eq_true_eq, decide_eq_true_eq]
        refine ⟨fun h => by rw [h]; rfl, fun h => ?_⟩
        rw [show ([109, 97, 110, 46] : List UInt8) = man4 from rfl, ← h]
        rfl
      have heq' := Lib.hid heq
      clear hR2 heq
      go_wp2_with fail
      refine (hN'.out w3 (hT'.out.below hx3.out)).mono ?_
      rintro e w4 ⟨rfl, hb4⟩
      have hx4 := Lib.hid (hx3.out.trans (hb4.mono hx3.out.size))
      have heq2 := heq'.out
      clear hb4
      go_wp2_with fail
      go_ret
      exact ⟨rfl, hx4.out⟩
end Go.Proofs.YtfdpnjebhllpkaaGreatDoor.Mn
end
