/- The scanner of qlex: its block, and its small methods. -/
import Derived.Test.YthiikldjngamaaaDoorQxShelf
import Derived.Test.YthiikldjngamaaaDoorStrLaws
import Derived.BigQuiet
import Derived.BigRegion
import Derived.Deep.QuietTactic
import Derived.WalkLawsBesides
import Derived.Lib.SmallJoins
import Derived.Test.YthiikldjngamaaaDoorUtfBad
import Derived.Laws.Rows
import Derived.Deep.Heap
namespace Go.Proofs.YthiikldjngamaaaDoor.Qx
open Go.RowKit UtfW

/-- What the list's variables hold lies ahead of block b. -/
def Us (b : Nat) (w : World) : Prop := ∃ w0, Ut w0 ∧ w0.heap.size ≤ b ∧ Below w0.heap.size w0 w
theorem Us.ut {b : Nat} {w : World} (h : Us b w) : Ut w := by
  obtain ⟨w0, h1, _, h3⟩ := h
  exact h1.below h3
theorem Us.on {b : Nat} {w w' : World} (h : Us b w) (hb : Below b w w') : Us b w' := by
  obtain ⟨w0, h1, h2, h3⟩ := h
  exact ⟨w0, h1, h2, h3.trans (hb.mono h2)⟩

/-- The scanner's block, and its row of tokens. -/
structure Sc (w : World) (b : Nat) (S : List UInt8) (k : Nat) (ts : List Tok) (A : Option Addr) (n c : Nat) : Prop where
  us : Us b w
  blk : w.heap[b]? = some (.cells #[.string (strOf S), .int .i64 (k : Nat), .slice A n c] 43)
  row : OwT w (b + 1) 31 (.slice A n c) ts

section
variable {w w' : World} {b : Nat} {S : List UInt8} {k : Nat} {ts : List Tok} {A : Option Addr} {n c : Nat}
theorem Sc.lt (h : Sc w b S k ts A n c) : b < w.heap.size := (Array.getElem?_eq_some_iff.1 h.blk).1
theorem Sc.below (h : Sc w b S k ts A n c) (hb : Below w.heap.size w w') : Sc w' b S k ts A n c :=
  ⟨h.us.on (hb.mono (Nat.le_of_lt h.lt)), (hb.block b h.lt).trans h.blk, h.row.below hb⟩
theorem Sc.frozen (h : Sc w b S k ts A n c) (i : Nat) : w.frozen? ⟨b, i, none⟩ = false := frozen_of_row w b i _ _ h.blk
theorem Sc.c0 (h : Sc w b S k ts A n c) : w.cell? ⟨b, 0, none⟩ = some (.string (strOf S)) := by simp [World.cell?, h.blk]
theorem Sc.c1 (h : Sc w b S k ts A n c) : w.cell? ⟨b, 1, none⟩ = some (.int .i64 (k : Nat)) := by simp [World.cell?, h.blk]
theorem Sc.c2 (h : Sc w b S k ts A n c) : w.cell? ⟨b, 2, none⟩ = some (.slice A n c) := by simp [World.cell?, h.blk]

theorem setCell_blk {w : World} {b i : Nat} {cs : Array Value} {E : TypeId} (h : w.heap[b]? = some (.cells cs E)) (v : Value) : (w.setCell ⟨b, i, none⟩ v).heap[b]? = some (.cells (cs.setIfInBounds i v) E) := by
  simp [World.setCell, Array.getElem?_modify, h]

theorem Sc.set1 (h : Sc w b S k ts A n c) (k' : Nat) : Sc (w.setCell ⟨b, 1, none⟩ (.int .i64 (k' : Nat))) b S k' ts A n c ∧ Below b w (w.setCell ⟨b, 1, none⟩ (.int .i64 (k' : Nat))) := by
  have hb : Below b w (w.setCell ⟨b, 1, none⟩ (.int .i64 (k' : Nat))) := (Below.refl b w).setCell (p := ⟨b, 1, none⟩) (Nat.le_refl _) _
  exact ⟨⟨h.us.on hb, setCell_blk h.blk _, ownsRow_setCell_below h.row (by simp only; omega) _⟩, hb⟩
end

theorem cut_end (S : List UInt8) (k : Nat) : (strOf S).extract k S.length = strOf (S.drop k) := by
  rw [strOf_cut, List.take_of_length_le (by rw [List.length_drop]; omega)]

theorem has_any (w : World) (b : Nat) (S : List UInt8) (k : Nat) (ts : List Tok) (A : Option Addr) (n c : Nat) (hk : k ≤ S.length) (hS : S.length ≤ 1000) (p : List UInt8) (h : Sc w b S k ts A n c) :
    Calls Tryd.prog 49 #[.pointer (some ⟨b, 0, none⟩), .string (strOf p)] w fun e w' => e = .returned (.bool (Lib.hasPrefix (S.drop k) p)) ∧ ∃ m, w' = w.drewN m := by
  have c0 := h.c0
  have c1 := h.c1
  have hsz : (strOf S).size = S.length := strOf_size' S
  have hcut := cut_end S k
  obtain ⟨R, hR⟩ : ∃ R, S.drop k = R := ⟨_, rfl⟩
  rw [hR] at hcut ⊢
  have hc : ∀ m, _ := fun m => hasPrefix_any R p (w.drewN m)
  obtain ⟨B, hB⟩ : ∃ B, Lib.hasPrefix R p = B := ⟨_, rfl⟩
  rw [hB] at hc ⊢
  clear hR hB
  go_enter Tryd.func49, Tryd.ntmps49
  go_wp2_with fail
  go_big_quiet ((go_at_call 48; exact Calls.quiet_of_same (hc _)))
  go_wp2_with fail
  go_ret
  exact ⟨rfl, _, rfl⟩

theorem str_at {S : List UInt8} {k : Nat} {x : UInt8} (h : S[k]? = some x) (hk : k < (strOf S).size) : (strOf S)[k]'hk = x := by
  have hk' : k < S.length := (List.getElem?_eq_some_iff.1 h).1
  rw [List.getElem?_eq_getElem hk'] at h
  exact Option.some.inj h
theorem wrap32_byte (x : UInt8) : wrap32 (x.toNat : Int) = (x.toNat : Int) := by
  have := x.toNat_lt
  unfold wrap32
  omega
theorem sk_on {S : List UInt8} {k : Nat} {x : UInt8} (h : S[k]? = some x) (hb : blank x = true) : sk S (k + 1) = sk S k := by
  have hk' : k < S.length := (List.getElem?_eq_some_iff.1 h).1
  rw [List.getElem?_eq_getElem hk'] at h
  injection h with h
  unfold sk
  rw [List.drop_eq_getElem_cons hk', h, List.takeWhile_cons, hb, if_pos rfl, List.length_cons]
  omega
theorem sk_stop {S : List UInt8} {k : Nat} {x : UInt8} (h : S[k]? = some x) (hb : blank x = false) : sk S k = k := by
  have hk' : k < S.length := (List.getElem?_eq_some_iff.1 h).1
  rw [List.getElem?_eq_getElem hk'] at h
  injection h with h
  unfold sk
  rw [List.drop_eq_getElem_cons hk', h, List.takeWhile_cons, hb]
  rfl
theorem sk_end {S : List UInt8} {k : Nat} (h : S.length ≤ k) : sk S k = k := by
  unfold sk
  rw [List.drop_eq_nil_of_le h]
  rfl

set_option maxRecDepth 100000 in
theorem skip_any (w : World) (b : Nat) (S : List UInt8) (k : Nat) (ts : List Tok) (A : Option Addr) (n c : Nat) (hk : k ≤ S.length) (hS : S.length ≤ 1000) (h : Sc w b S k ts A n c) :
    Calls Tryd.prog 19 #[.pointer (some ⟨b, 0, none⟩)] w fun e w' => e = .returned (.tuple #[]) ∧ Sc w' b S (sk S k) ts A n c ∧ Below b w w' := by
  have hsz : (strOf S).size = S.length := strOf_size' S
  have h' := Lib.hid h
  clear h
  go_enter Tryd.func19, Tryd.ntmps19
  go_wp2_with fail
  go_loopg [] (S.length - k) (fun m wr => ∃ k' : Nat, k' ≤ S.length ∧ S.length - k' ≤ m ∧ Hid (sk S k' = sk S k) ∧ Hid (Sc wr b S k' ts A n c) ∧ Hid (Below b w wr))
  case atStart => exact ⟨k, hk, Nat.le_refl _, Lib.hid rfl, h', Lib.hid (Below.refl _ _)⟩
  case round =>
    obtain ⟨k', hk', hm, hsk, hs, hb⟩ := hrel
    have c0 := hs.out.c0
    have c1 := hs.out.c1
    have f1 := hs.out.frozen 1
    by_cases hlt : k' < S.length
    · have i0 : decide ((k' : Int) < (S.length : Int)) = true := by simp; omega
      have hx : S[k']? = some S[k'] := List.getElem?_eq_getElem hlt
      generalize S[k'] = x at hx
      have hlt' : k' < (strOf S).size := by rw [hsz]; exact hlt
      have hg := str_at hx hlt'
      have hw := wrap32_byte x
      cases hbl : blank x with
      | true =>
        have hbl' : Blank (x.toNat : Int) = true := hbl
        have hx' := Lib.hid hx
        have hbh := Lib.hid hbl
        clear hx hbl
        go_wp2_with fail
        go_big_quiet ((go_at_call 29; exact Calls.quiet_of_same (blank_any _ _)))
        go_wp2_with fail
        have hs2 := hs.out.below (Joins.below_draws _ wr nq)
        have h3 := hs2.set1 (k' + 1)
        go_roundg (S.length - (k' + 1))
        case measure => omega
        case rel => exact ⟨k' + 1, by omega, Nat.le_refl _, Lib.hid (by rw [sk_on hx'.out hbh.out]; exact hsk.out), h3.1, Lib.hid ((hb.out.trans ((Joins.below_draws _ wr nq).mono (Nat.le_of_lt hs.out.lt))).trans h3.2)⟩
      | false =>
        have hbl' : Blank (x.toNat : Int) = false := hbl
        have hx' := Lib.hid hx
        have hbh := Lib.hid hbl
        clear hx hbl
        go_wp2_with fail
        go_big_quiet ((go_at_call 29; exact Calls.quiet_of_same (blank_any _ _)))
        go_wp2_with fail
        go_end0
        have hs2 := hs.out.below (Joins.below_draws _ wr nq)
        have := hsk.out
        rw [sk_stop hx'.out hbh.out] at this
        subst this
        exact ⟨rfl, hs2, hb.out.trans ((Joins.below_draws _ wr nq).mono (Nat.le_of_lt hs.out.lt))⟩
    · have i0 : decide ((k' : Int) < (S.length : Int)) = false := by simp; omega
      go_wp2_with fail
      go_big_quiet (fail)
      go_wp2_with fail
      go_end0
      have hs2 := hs.out.below (Joins.below_draws _ wr nq)
      have := hsk.out
      rw [sk_end (by omega)] at this
      subst this
      exact ⟨rfl, hs2, hb.out.trans ((Joins.below_draws _ wr nq).mono (Nat.le_of_lt hs.out.lt))⟩

end Go.Proofs.YthiikldjngamaaaDoor.Qx
