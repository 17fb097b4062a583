/- Both Bad. -/
import Derived.Test.YtcecmbbhjaeodaaGreatDoorMUtfNext
import Derived.Shelf.Lay
import Derived.Ground.NamesProg
import Derived.Shelf.Spec.DecodeRune
import Derived.Deep.LoopGhost
section
namespace Go.Proofs
open Go.Shelf Go.RowKit

shelf_lay Lays7.n32 Nm7 32 at Tryz as Tryz.lays32

end Go.Proofs
namespace Go.Proofs.YtcecmbbhjaeodaaGreatDoor.UtfW
open Go.RowKit

/-- What the list's variables hold. -/
structure Ut (w : World) : Prop where
  tabs : Lib.Utf8Tabs 1 2 w
  max : ∃ m, w.cell? ⟨3, 0, none⟩ = some (.int .i64 m)

theorem Ut.below {w w' : World} (h : Ut w) (hb : Below w.heap.size w w') : Ut w' :=
  ⟨Utf8Tabs_below h.tabs hb, by
    obtain ⟨m, hm⟩ := h.max
    refine ⟨m, ?_⟩
    rw [hb.cell, hm]
    rcases Nat.lt_or_ge 3 w.heap.size with h' | h'
    · exact h'
    · simp [World.cell?, Array.getElem?_eq_none h'] at hm⟩

theorem get_bt (l : List UInt8) (k i : Nat) : ((strOf (l.drop k)).get! i).toNat = bt l (k + i) := by
  rw [bt, ← List.getElem?_drop]
  generalize l.drop k = r
  show ((⟨r.toArray⟩ : ByteArray).get! i).toNat = _
  simp only [ByteArray.get!]
  rw [Array.getElem!_eq_getD, Array.getD_eq_getD_getElem?, List.getElem?_toArray]
  rfl

theorem strOf_size (l : List UInt8) : (strOf l).size = l.length := by simp [strOf, ByteArray.size]

theorem decodeGo_drop {l : List UInt8} {k : Nat} (h : k < l.length) : Lib.decodeGo (strOf (l.drop k)) = Lib.decodeN (l.length - k) (bt l k) (bt l (k + 1)) (bt l (k + 2)) (bt l (k + 3)) := by
  have hs : (strOf (l.drop k)).size = l.length - k := by rw [strOf_size, List.length_drop]
  unfold Lib.decodeGo
  rw [if_neg (by omega), Lib.decode_at, hs, get_bt, get_bt, get_bt, get_bt]
  rfl

theorem decodeN_bound (n b0 b1 b2 b3 : Nat) (h0 : b0 < 256) : (Lib.decodeN n b0 b1 b2 b3).1 ≤ 1114111 ∧ (Lib.decodeN n b0 b1 b2 b3).2 ≤ 4 := by
  unfold Lib.decodeN
  repeat' split
  all_goals exact ⟨by simp only; omega, by simp only; omega⟩

theorem decodeRune_any (b off n c : Nat) (l : List UInt8) (k : Nat) (hk : k < n) (w : World) (hBs : Bs w (some ⟨b, off, none⟩) n c l) (hU : Ut w) :
    Calls Tryz.prog 56 #[.slice (some ⟨b, off + k, none⟩) (n - k) (c - k)] w fun e w' =>
      e = nxV (Lib.decodeN (n - k) (bt l k) (bt l (k + 1)) (bt l (k + 2)) (bt l (k + 3))) ∧ Below w.heap.size w w' := by
  have hl := hBs.len
  have hs : (strOf (l.drop k)).size = n - k := by rw [strOf_size, List.length_drop, hl]
  rw [← hs]
  have h := Any7.utf8_DecodeRune Tryz.lays32 (strOf (l.drop k)) b (off + k) (c - k) w hU.tabs (by
    intro j hj
    rw [hs] at hj
    obtain ⟨b', off', x, e, _, hx, hx8, hc⟩ := hBs.at_ (k := k + j) (by omega)
    simp only [Option.some.injEq, Addr.mk.injEq, and_true] at e
    obtain ⟨rfl, rfl⟩ := e
    rw [get_bt, bt_of hx, Nat.add_assoc]
    exact hc)
  rw [decodeGo_drop (by omega), hl] at h
  rw [hs] at h ⊢
  exact h

set_option maxHeartbeats 2000000 in
set_option maxRecDepth 100000 in
/-- Next at a place within. -/
theorem utfNext_in (A : Option Addr) (n c : Nat) (l : List UInt8) (k : Nat) (hk : k < n) (hsz : n ≤ 281474976710656) (w : World) (hBs : Bs w A n c l) (hU : Ut w) :
    Calls Tryz.prog 37 #[.slice A n c, .int .i64 k] w fun e w' => e = nxV (nx l k) ∧ Below w.heap.size w w' := by
  obtain ⟨b, off, x0, rfl, hbl, hx0, hx8, hc0⟩ := hBs.at_ hk
  have hd := decodeRune_any b off n c l k hk w hBs hU
  have hnx : nx l k = Utf.nxt (n - k) (bt l k) (bt l (k + 1)) (bt l (k + 2)) (bt l (k + 3)) := by
    unfold nx
    rw [hBs.len, if_pos hk]
  have hb := decodeN_bound (n - k) (bt l k) (bt l (k + 1)) (bt l (k + 2)) (bt l (k + 3)) (bt_lt _ _)
  unfold Utf.nxt at hnx
  obtain ⟨D, hD⟩ : ∃ D, Lib.decodeN (n - k) (bt l k) (bt l (k + 1)) (bt l (k + 2)) (bt l (k + 3)) = D := ⟨_, rfl⟩
  rw [hD] at hd hnx hb
  obtain ⟨r, m⟩ := D
  obtain ⟨P, hP⟩ : ∃ P, nx l k = P := ⟨_, rfl⟩
  rw [hP] at hnx ⊢
  have hn := Rd.le hBs
  have hm := Rd.max hBs
  clear hP hD hc0 hx0 hx8 x0
  have hnx' := Lib.hid hnx
  clear hnx
  obtain ⟨hr, hm4⟩ := hb
  simp only at hr hm4
  unfold nxV at hd
  simp only at hd
  have i0 : decide ((k : Int) < 0) = false := by simp
  have i1 : decide ((n : Int) ≤ (k : Int)) = false := by simp; omega
  have i2 : decide (n ≤ k) = false := by simp; omega
  have kn : (k : Int) ≤ (n : Int) := by omega
  go_enter Tryz.func37, Tryz.ntmps37
  go_wp2_with fail
  refine hd.mono ?_
  rintro e w1 ⟨rfl, hb1⟩
  have hb1' := Lib.hid hb1
  clear hb1 hd
  by_cases h1 : r = 65533
  · subst h1
    by_cases h2 : m < 2
    · have j2 : decide ((m : Int) < 2) = true := by simp; omega
      have hp : P = (0, 0) := by rw [hnx'.out, if_pos (Or.inl ⟨rfl, h2⟩)]
      subst hp
      go_wp2_with fail
      go_ret2
      exact ⟨rfl, hb1'.out⟩
    · have j2 : decide ((m : Int) < 2) = false := by simp; omega
      have hc : Utf.Char (65533 : Int) = true := by decide
      have hp : P = (65533, m) := by
        rw [hnx'.out, if_neg (by rintro (⟨_, h⟩ | h); omega; exact absurd (hc.symm.trans h) (by simp))]
      subst hp
      go_wp2_with fail
      refine (char_any 65533 w1).mono ?_
      rintro e w2 ⟨rfl, rfl⟩
      rw [hc]
      go_wp2_with fail
      go_ret2
      exact ⟨rfl, hb1'.out⟩
  · have j1 : decide ((r : Int) = 65533) = false := by simp; omega
    have j1' : ((r : Int) == 65533) = false := by rw [beq_eq_false_iff_ne]; omega
    cases hc : Utf.Char (r : Nat)
    · have hp : P = (0, 0) := by rw [hnx'.out, if_pos (Or.inr hc)]
      subst hp
      go_wp2_with fail
      refine (char_any r w1).mono ?_
      rintro e w2 ⟨rfl, rfl⟩
      rw [hc]
      go_wp2_with fail
      go_ret2
      exact ⟨rfl, hb1'.out⟩
    · have hp : P = (r, m) := by
        rw [hnx'.out, if_neg (by rintro (⟨h, _⟩ | h); omega; rw [hc] at h; cases h)]
      subst hp
      go_wp2_with fail
      refine (char_any r w1).mono ?_
      rintro e w2 ⟨rfl, rfl⟩
      rw [hc]
      go_wp2_with fail
      go_ret2
      exact ⟨rfl, hb1'.out⟩

/-- Next at any number. -/
def nxI (l : List UInt8) (a : Int) : Nat × Nat := if a < 0 then (0, 0) else nx l a.toNat

theorem nxI_nat (l : List UInt8) (k : Nat) : nxI l (k : Int) = nx l k := by
  unfold nxI
  rw [if_neg (by omega), Int.toNat_natCast]

theorem nxI_out {l : List UInt8} {a : Int} (h : a < 0 ∨ (l.length : Int) ≤ a) : nxI l a = (0, 0) := by
  unfold nxI
  split
  · rfl
  · unfold nx
    rw [if_neg (by omega)]

theorem utfNext_any (A : Option Addr) (n c : Nat) (l : List UInt8) (a : Int) (hsz : n ≤ 281474976710656) (w : World) (hBs : Bs w A n c l) (hU : Ut w) :
    Calls Tryz.prog 37 #[.slice A n c, .int .i64 a] w fun e w' => e = nxV (nxI l a) ∧ Below w.heap.size w w' := by
  have hl := hBs.len
  by_cases h0 : a < 0
  · have i0 : decide (a < 0) = true := by simp [h0]
    rw [nxI_out (Or.inl h0)]
    go_enter Tryz.func37, Tryz.ntmps37
    go_wp2_with fail
    go_ret2
    exact ⟨rfl, Below.refl _ _⟩
  · obtain ⟨k, rfl⟩ : ∃ k : Nat, a = k := ⟨a.toNat, by omega⟩
    by_cases h1 : k < n
    · rw [nxI_nat]
      exact utfNext_in A n c l k h1 hsz w hBs hU
    · have i0 : decide ((k : Int) < 0) = false := by simp
      have i1 : decide ((n : Int) ≤ (k : Int)) = true := by simp; omega
      rw [nxI_out (Or.inr (by omega))]
      go_enter Tryz.func37, Tryz.ntmps37
      go_wp2_with fail
      go_ret2
      exact ⟨rfl, Below.refl _ _⟩

theorem refNext_any (A : Option Addr) (n c : Nat) (l : List UInt8) (a : Int) (hsz : n ≤ 281474976710656) (w : World) (hBs : Bs w A n c l) :
    Calls Tryz.prog 27 #[.slice A n c, .int .i64 a] w fun e w' => e = nxV (nxI l a) ∧ Below w.heap.size w w' := by
  have hl := hBs.len
  by_cases h0 : a < 0
  · have i0 : decide (a < 0) = true := by simp [h0]
    rw [nxI_out (Or.inl h0)]
    go_enter Tryz.func27, Tryz.ntmps27
    go_wp2_with fail
    go_ret2
    exact ⟨rfl, Below.refl _ _⟩
  · obtain ⟨k, rfl⟩ : ∃ k : Nat, a = k := ⟨a.toNat, by omega⟩
    by_cases h1 : k < n
    · rw [nxI_nat]
      exact refNext_in A n c l k h1 hsz w hBs
    · have i0 : decide ((k : Int) < 0) = false := by simp
      have i1 : decide ((n : Int) ≤ (k : Int)) = true := by simp; omega
      rw [nxI_out (Or.inr (by omega))]
      go_enter Tryz.func27, Tryz.ntmps27
      go_wp2_with fail
      go_ret2
      exact ⟨rfl, Below.refl _ _⟩

theorem nx_le {l : List UInt8} {k : Nat} (h : k < l.length) : (nx l k).2 ≤ l.length - k := by
  unfold nx
  rw [if_pos h, ← Utf.ref_nxt _ _ _ _ _ (by omega)]
  unfold Utf.ref
  repeat' split
  all_goals simp only
  all_goals omega

/-- The first place without a rune, from a place on. -/
def badW (l : List UInt8) (k : Nat) : Int :=
  if h : k < l.length then (if h2 : (nx l k).2 = 0 then (k : Int) else badW l (k + (nx l k).2)) else -1
termination_by l.length - k

theorem badW_end {l : List UInt8} {k : Nat} (h : l.length ≤ k) : badW l k = -1 := by
  rw [badW, dif_neg (by omega)]
theorem badW_stop {l : List UInt8} {k : Nat} (h : k < l.length) (h2 : (nx l k).2 = 0) : badW l k = (k : Int) := by
  rw [badW, dif_pos h, dif_pos h2]
theorem badW_on {l : List UInt8} {k : Nat} (h : k < l.length) (h2 : (nx l k).2 ≠ 0) : badW l k = badW l (k + (nx l k).2) := by
  rw [badW, dif_pos h, dif_neg h2]
end Go.Proofs.YtcecmbbhjaeodaaGreatDoor.UtfW
end

section
namespace Go.Proofs.YtcecmbbhjaeodaaGreatDoor.UtfW
open Go.RowKit

set_option maxRecDepth 100000 in
theorem utfBad_any (A : Option Addr) (n c : Nat) (l : List UInt8) (hsz : n ≤ 281474976710656) (w : World) (hBs : Bs w A n c l) (hU : Ut w) :
    Calls Tryz.prog 22 #[.slice A n c] w fun e w' => e = .returned (.int .i64 (badW l 0)) ∧ Below w.heap.size w w' := by
  have HL : Hid (l.length = n) := hBs.len
  obtain ⟨R, hR⟩ : ∃ R, badW l 0 = R := ⟨_, rfl⟩
  rw [hR]
  have hR' := Lib.hid hR
  clear hR
  go_enter Tryz.func22, Tryz.ntmps22
  go_wp2_with fail
  go_loopw [3] (fun v wr => ∃ k : Nat, k ≤ n ∧ v = .int .i64 (k : Nat) ∧ Hid (badW l k = R) ∧ Hid (Below w.heap.size w wr)) (fun v _ => n - (intOf v).toNat)
  case atStart => exact ⟨0, by omega, rfl, hR', Lib.hid (Below.refl _ _)⟩
  case round =>
    obtain ⟨k, hk, rfl, hr, hb⟩ := hrel
    by_cases hlt : k < n
    · have i0 : decide ((k : Int) < (n : Int)) = true := by simp; omega
      have hl : k < l.length := by rw [HL.out]; exact hlt
      have hle := nx_le hl
      rw [HL.out] at hle
      have hc := utfNext_any A n c l k hsz wr (hBs.below hb.out) (hU.below hb.out)
      rw [nxI_nat] at hc
      obtain ⟨P, hP⟩ : ∃ P, nx l k = P := ⟨_, rfl⟩
      rw [hP] at hc hle
      have hP' := Lib.hid hP
      clear hP
      obtain ⟨r, m⟩ := P
      unfold nxV at hc
      simp only at hc hle
      go_wp2_with fail
      refine hc.mono ?_
      rintro e w1 ⟨rfl, hb1⟩
      have hx := Lib.hid (hb.out.trans (hb1.mono hb.out.size))
      clear hb1 hc
      by_cases hm : m = 0
      · subst hm
        have hl' := Lib.hid hl
        clear hl
        go_wp2_with fail
        go_ret
        refine ⟨ret_int ?_, hx.out⟩
        rw [← hr.out, badW_stop hl'.out (by rw [hP'.out])]
      · have j1 : ((m : Int) == 0) = false := by rw [beq_eq_false_iff_ne]; omega
        have j2 : decide ((m : Int) = 0) = false := by simp; omega
        have hl' := Lib.hid hl
        clear hl
        go_wp2_with fail
        go_roundw
        case rel =>
          refine ⟨k + m, by omega, by go_num, Lib.hid ?_, hx⟩
          have := badW_on hl'.out (by rw [hP'.out]; exact hm)
          rw [hP'.out] at this
          rw [← hr.out, this]
        case measure => simp [intOf]; omega
    · have i0 : decide ((k : Int) < (n : Int)) = false := by simp; omega
      go_wp2_with fail
      go_ret
      refine ⟨ret_int ?_, hb.out⟩
      rw [← hr.out, badW_end (by rw [HL.out]; omega)]

set_option maxRecDepth 100000 in
theorem refBad_any (A : Option Addr) (n c : Nat) (l : List UInt8) (hsz : n ≤ 281474976710656) (w : World) (hBs : Bs w A n c l) :
    Calls Tryz.prog 15 #[.slice A n c] w fun e w' => e = .returned (.int .i64 (badW l 0)) ∧ Below w.heap.size w w' := by
  have HL : Hid (l.length = n) := hBs.len
  obtain ⟨R, hR⟩ : ∃ R, badW l 0 = R := ⟨_, rfl⟩
  rw [hR]
  have hR' := Lib.hid hR
  clear hR
  go_enter Tryz.func15, Tryz.ntmps15
  go_wp2_with fail
  go_loopw [3] (fun v wr => ∃ k : Nat, k ≤ n ∧ v = .int .i64 (k : Nat) ∧ Hid (badW l k = R) ∧ Hid (Below w.heap.size w wr)) (fun v _ => n - (intOf v).toNat)
  case atStart => exact ⟨0, by omega, rfl, hR', Lib.hid (Below.refl _ _)⟩
  case round =>
    obtain ⟨k, hk, rfl, hr, hb⟩ := hrel
    by_cases hlt : k < n
    · have i0 : decide ((k : Int) < (n : Int)) = true := by simp; omega
      have hl : k < l.length := by rw [HL.out]; exact hlt
      have hle := nx_le hl
      rw [HL.out] at hle
      have hc := refNext_any A n c l k hsz wr (hBs.below hb.out)
      rw [nxI_nat] at hc
      obtain ⟨P, hP⟩ : ∃ P, nx l k = P := ⟨_, rfl⟩
      rw [hP] at hc hle
      have hP' := Lib.hid hP
      clear hP
      obtain ⟨r, m⟩ := P
      unfold nxV at hc
      simp only at hc hle
      go_wp2_with fail
      refine hc.mono ?_
      rintro e w1 ⟨rfl, hb1⟩
      have hx := Lib.hid (hb.out.trans (hb1.mono hb.out.size))
      clear hb1 hc
      by_cases hm : m = 0
      · subst hm
        have hl' := Lib.hid hl
        clear hl
        go_wp2_with fail
        go_ret
        refine ⟨ret_int ?_, hx.out⟩
        rw [← hr.out, badW_stop hl'.out (by rw [hP'.out])]
      · have j1 : ((m : Int) == 0) = false := by rw [beq_eq_false_iff_ne]; omega
        have j2 : decide ((m : Int) = 0) = false := by simp; omega
        have hl' := Lib.hid hl
        clear hl
        go_wp2_with fail
        go_roundw
        case rel =>
          refine ⟨k + m, by omega, by go_num, Lib.hid ?_, hx⟩
          have := badW_on hl'.out (by rw [hP'.out]; exact hm)
          rw [hP'.out] at this
          rw [← hr.out, this]
        case measure => simp [intOf]; omega
    · have i0 : decide ((k : Int) < (n : Int)) = false := by simp; omega
      go_wp2_with fail
      go_ret
      refine ⟨ret_int ?_, hb.out⟩
      rw [← hr.out, badW_end (by rw [HL.out]; omega)]
end Go.Proofs.YtcecmbbhjaeodaaGreatDoor.UtfW
end
