/- Both Bad. -/
import Derived.Test.YtjofkodncplhaaaGreatDoorMUtfNext
import Derived.Shelf.Lay
import Derived.Ground.NamesProg
import Derived.Shelf.Spec.DecodeRune
import Derived.Deep.LoopGhost
section
namespace Go.Proofs
open Go.Shelf Go.RowKit


end Go.Proofs
namespace Go.Proofs.YtjofkodncplhaaaGreatDoor.UtfW
open Go.RowKit

/-- What the list's variables hold. -/
structure Ut (w : World) : Prop where
  tabs : Lib.Utf8Tabs 1 2 w
  max : ∃ m, w.cell? ⟨3, 0, none⟩ = some (.int .i64 m)

theorem Ut.below {w w' : World} (h : Ut w) (hb : Below w.heap.size w w') : Ut w' :=
  ⟨Utf8Tabs_below h.tabs hb, by
    obtain ⟨m, hm⟩ := h.max
    refine ⟨m, ?_⟩
    rw [hb.cell, hm]
    rcases Nat.lt_or_ge 3 w.heap.size with h' | h'
    · exact h'
    · simp [World.cell?, Array.getElem?_eq_none h'] at hm⟩

theorem get_bt (l : List UInt8) (k i : Nat) : ((strOf (l.drop k)).get! i).toNat = bt l (k + i) := by
  rw [bt, ← List.getElem?_drop]
  generalize l.drop k = r
  show ((⟨r.toArray⟩ : ByteArray).get! i).toNat = _
  simp only [ByteArray.get!]
  rw [Array.getElem!_eq_getD, Array.getD_eq_getD_getElem?, List.getElem?_toArray]
  rfl

theorem strOf_size (l : List UInt8) : (strOf l).size = l.length := by simp [strOf, ByteArray.size]

theorem decodeGo_drop {l : List UInt8} {k : Nat} (h : k < l.length) : Lib.decodeGo (strOf (l.drop k)) = Lib.decodeN (l.length - k) (bt l k) (bt l (k + 1)) (bt l (k + 2)) (bt l (k + 3)) := by
  have hs : (strOf (l.drop k)).size = l.length - k := by rw [strOf_size, List.length_drop]
  unfold Lib.decodeGo
  rw [if_neg (by omega), Lib.decode_at, hs, get_bt, get_bt, get_bt, get_bt]
  rfl

theorem decodeN_bound (n b0 b1 b2 b3 : Nat) (h0 : b0 < 256) : (Lib.decodeN n b0 b1 b2 b3).1 ≤ 1114111 ∧ (Lib.decodeN n b0 b1 b2 b3).2 ≤ 4 := by
  unfold Lib.decodeN
  repeat' split
  all_goals exact ⟨by simp only; omega, by simp only; omega⟩



/-- Next at any number. -/
def nxI (l : List UInt8) (a : Int) : Nat × Nat := if a < 0 then (0, 0) else nx l a.toNat

theorem nxI_nat (l : List UInt8) (k : Nat) : nxI l (k : Int) = nx l k := by
  unfold nxI
  rw [if_neg (by omega), Int.toNat_natCast]

theorem nxI_out {l : List UInt8} {a : Int} (h : a < 0 ∨ (l.length : Int) ≤ a) : nxI l a = (0, 0) := by
  unfold nxI
  split
  · rfl
  · unfold nx
    rw [if_neg (by omega)]


theorem refNext_any (A : Option Addr) (n c : Nat) (l : List UInt8) (a : Int) (hsz : n ≤ 281474976710656) (w : World) (hBs : Bs w A n c l) :
    Calls Tryz.prog 94 #[.slice A n c, .int .i64 a] w fun e w' => e = nxV (nxI l a) ∧ Below w.heap.size w w' := by
  have hl := hBs.len
  by_cases h0 : a < 0
  · have i0 : decide (a < 0) = true := by simp [h0]
    rw [nxI_out (Or.inl h0)]
    go_enter Tryz.func94, Tryz.ntmps94
    go_wp2_with fail
    go_ret2
    exact ⟨rfl, Below.refl _ _⟩
  · obtain ⟨k, rfl⟩ : ∃ k : Nat, a = k := ⟨a.toNat, by omega⟩
    by_cases h1 : k < n
    · rw [nxI_nat]
      exact refNext_in A n c l k h1 hsz w hBs
    · have i0 : decide ((k : Int) < 0) = false := by simp
      have i1 : decide ((n : Int) ≤ (k : Int)) = true := by simp; omega
      rw [nxI_out (Or.inr (by omega))]
      go_enter Tryz.func94, Tryz.ntmps94
      go_wp2_with fail
      go_ret2
      exact ⟨rfl, Below.refl _ _⟩

theorem nx_le {l : List UInt8} {k : Nat} (h : k < l.length) : (nx l k).2 ≤ l.length - k := by
  unfold nx
  rw [if_pos h, ← Utf.ref_nxt _ _ _ _ _ (by omega)]
  unfold Utf.ref
  repeat' split
  all_goals simp only
  all_goals omega

/-- The first place without a rune, from a place on. -/
def badW (l : List UInt8) (k : Nat) : Int :=
  if h : k < l.length then (if h2 : (nx l k).2 = 0 then (k : Int) else badW l (k + (nx l k).2)) else -1
termination_by l.length - k

theorem badW_end {l : List UInt8} {k : Nat} (h : l.length ≤ k) : badW l k = -1 := by
  rw [badW, dif_neg (by omega)]
theorem badW_stop {l : List UInt8} {k : Nat} (h : k < l.length) (h2 : (nx l k).2 = 0) : badW l k = (k : Int) := by
  rw [badW, dif_pos h, dif_pos h2]
theorem badW_on {l : List UInt8} {k : Nat} (h : k < l.length) (h2 : (nx l k).2 ≠ 0) : badW l k = badW l (k + (nx l k).2) := by
  rw [badW, dif_pos h, dif_neg h2]
end Go.Proofs.YtjofkodncplhaaaGreatDoor.UtfW
end

section
namespace Go.Proofs.YtjofkodncplhaaaGreatDoor.UtfW
open Go.RowKit


end Go.Proofs.YtjofkodncplhaaaGreatDoor.UtfW
end
