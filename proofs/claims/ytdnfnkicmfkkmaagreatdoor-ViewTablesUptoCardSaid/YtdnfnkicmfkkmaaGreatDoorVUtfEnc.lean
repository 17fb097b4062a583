/- The bytes of a rune: the document's. -/
import Derived.Lib.Hide
import Derived.Lib.DecodeN
import Derived.Lib.TrimU
import Derived.WalkKit
import Derived.WalkSpells
import Derived.Deep.AppendLies
import Derived.Deep.Draws
import Derived.Laws.AppendOwnNone
import Derived.Maps.AppendAt
import Derived.ChangeSlices
import Derived.Lib.SlBytesConst
import Derived.Test.YtdnfnkicmfkkmaaGreatDoorProg
set_option linter.unusedVariables false
set_option linter.unusedSimpArgs false
section
namespace Go.Proofs.YtdnfnkicmfkkmaaGreatDoor
theorem Hd {p : Prop} (h : p) : RowKit.Hid p := h
theorem Al_1 {α : Type _} (l : List α) (i : Nat) (a : α) : l.toArray.setIfInBounds i a = (l.set i a).toArray := List.setIfInBounds_toArray l i a
theorem Al_2 {α : Type _} (a b : α) (l : List α) : (a :: l).set 0 b = b :: l := List.set_cons_zero
theorem Al_3 {α : Type _} (a b : α) (l : List α) (n : Nat) : (a :: l).set (n + 1) b = a :: l.set n b := List.set_cons_succ
theorem Al_4 {α : Type _} (a : α) (l : List α) : (a :: l)[0]? = some a := List.getElem?_cons_zero
theorem Al_5 {α : Type _} (a : α) (l : List α) (n : Nat) : (a :: l)[n + 1]? = l[n]? := List.getElem?_cons_succ
theorem Al_6 {α : Type _} (a : α) (l : List α) (n : Nat) : (a :: l).drop (n + 1) = l.drop n := List.drop_succ_cons
theorem Al_7 {α : Type _} (l : List α) : l.drop 0 = l := List.drop_zero
end Go.Proofs.YtdnfnkicmfkkmaaGreatDoor
end

section
namespace Go.Proofs.YtdnfnkicmfkkmaaGreatDoor.Utf
def Char (r : Int) : Bool := decide (r = 9 \/ r = 10 \/ r = 13 \/ (32 <= r /\ r <= 0xd7ff) \/ (0xe000 <= r /\ r <= 0xfffd) \/ (0x10000 <= r /\ r <= 0x10ffff))
def enc (v : Nat) : List Nat :=
 if 0x10ffff < v \/ (0xd800 <= v /\ v <= 0xdfff) then []
 else if v < 0x80 then [v]
 else if v < 0x800 then [0xc0 + v / 64, 0x80 + v % 64]
 else if v < 0x10000 then [0xe0 + v / 4096, 0x80 + v / 64 % 64, 0x80 + v % 64]
 else [0xf0 + v / 262144, 0x80 + v / 4096 % 64, 0x80 + v / 64 % 64, 0x80 + v % 64]
def val (n b0 b1 b2 b3 : Nat) : Nat :=
 if n = 1 then b0 else if n = 2 then b0 % 32 * 64 + b1 % 64 else if n = 3 then (b0 % 16 * 64 + b1 % 64) * 64 + b2 % 64 else ((b0 % 8 * 64 + b1 % 64) * 64 + b2 % 64) * 64 + b3 % 64
def ownB (n b0 b1 b2 b3 : Nat) : Bool := decide (enc (val n b0 b1 b2 b3) = [b0, b1, b2, b3].take n) && Char (val n b0 b1 b2 b3 : Nat)
def ref (m b0 b1 b2 b3 : Nat) : Nat × Nat :=
 if 1 <= m /\ ownB 1 b0 b1 b2 b3 then (val 1 b0 b1 b2 b3, 1)
 else if 2 <= m /\ ownB 2 b0 b1 b2 b3 then (val 2 b0 b1 b2 b3, 2)
 else if 3 <= m /\ ownB 3 b0 b1 b2 b3 then (val 3 b0 b1 b2 b3, 3)
 else if 4 <= m /\ ownB 4 b0 b1 b2 b3 then (val 4 b0 b1 b2 b3, 4)
 else (0, 0)
def nxt (m b0 b1 b2 b3 : Nat) : Nat × Nat :=
 let d := Lib.decodeN m b0 b1 b2 b3
 if (d.1 = 65533 /\ d.2 < 2) \/ Char d.1 = false then (0, 0) else d
theorem enc1 (v b0 : Nat) : enc v = [b0] ↔ v < 0x80 /\ b0 = v := by
 unfold enc
 repeat' split
 all_goals simp only [List.cons.injEq, reduceCtorEq, and_true, and_false, false_iff, List.nil_eq, not_and]
 all_goals omega
theorem enc2 (v b0 b1 : Nat) : enc v = [b0, b1] ↔ 0x80 <= v /\ v < 0x800 /\ b0 = 0xc0 + v / 64 /\ b1 = 0x80 + v % 64 := by
 unfold enc
 repeat' split
 all_goals simp only [List.cons.injEq, reduceCtorEq, and_true, and_false, false_iff, List.nil_eq, not_and]
 all_goals omega
theorem enc3 (v b0 b1 b2 : Nat) : enc v = [b0, b1, b2] ↔ 0x800 <= v /\ v < 0x10000 /\ ¬ (0xd800 <= v /\ v <= 0xdfff) /\ b0 = 0xe0 + v / 4096 /\ b1 = 0x80 + v / 64 % 64 /\ b2 = 0x80 + v % 64 := by
 unfold enc
 repeat' split
 all_goals simp only [List.cons.injEq, reduceCtorEq, and_true, and_false, false_iff, List.nil_eq, not_and]
 all_goals omega
theorem enc4 (v b0 b1 b2 b3 : Nat) : enc v = [b0, b1, b2, b3] ↔ 0x10000 <= v /\ v <= 0x10ffff /\ b0 = 0xf0 + v / 262144 /\ b1 = 0x80 + v / 4096 % 64 /\ b2 = 0x80 + v / 64 % 64 /\ b3 = 0x80 + v % 64 := by
 unfold enc
 repeat' split
 all_goals simp only [List.cons.injEq, reduceCtorEq, and_true, and_false, false_iff, List.nil_eq, not_and]
 all_goals omega
theorem own1 (b0 b1 b2 b3 : Nat) : ownB 1 b0 b1 b2 b3 = true ↔ b0 < 128 /\ Char (b0 : Nat) = true := by
 have h := enc1 b0 b0;have e : val 1 b0 b1 b2 b3 = b0 := rfl;simp only [ownB, e, Bool.and_eq_true, decide_eq_true_eq, List.take_succ_cons, List.take_zero, h];simp
theorem own2 (b0 b1 b2 b3 : Nat) : ownB 2 b0 b1 b2 b3 = true ↔ (b0 / 32 = 6 /\ b1 / 64 = 2 /\ 128 <= b0 % 32 * 64 + b1 % 64) /\ Char ((b0 % 32 * 64 + b1 % 64 : Nat) : Int) = true := by
 have h := enc2 (b0 % 32 * 64 + b1 % 64) b0 b1;have e : val 2 b0 b1 b2 b3 = b0 % 32 * 64 + b1 % 64 := rfl;simp only [ownB, e, Bool.and_eq_true, decide_eq_true_eq, List.take_succ_cons, List.take_zero, h];refine and_congr_left fun _ => ?_
 omega
theorem own3 (b0 b1 b2 b3 : Nat) : ownB 3 b0 b1 b2 b3 = true ↔ (b0 / 16 = 14 /\ b1 / 64 = 2 /\ b2 / 64 = 2 /\ 2048 <= b0 % 16 * 4096 + b1 % 64 * 64 + b2 % 64 /\ ¬ (0xd800 <= b0 % 16 * 4096 + b1 % 64 * 64 + b2 % 64 /\ b0 % 16 * 4096 + b1 % 64 * 64 + b2 % 64 <= 0xdfff)) /\ Char ((b0 % 16 * 4096 + b1 % 64 * 64 + b2 % 64 : Nat) : Int) = true := by
 have e : val 3 b0 b1 b2 b3 = b0 % 16 * 4096 + b1 % 64 * 64 + b2 % 64 := by
  show (b0 % 16 * 64 + b1 % 64) * 64 + b2 % 64 = _
  omega
 have h := enc3 (b0 % 16 * 4096 + b1 % 64 * 64 + b2 % 64) b0 b1 b2;simp only [ownB, e, Bool.and_eq_true, decide_eq_true_eq, List.take_succ_cons, List.take_zero, h];refine and_congr_left fun _ => ?_
 omega
theorem own4 (b0 b1 b2 b3 : Nat) : ownB 4 b0 b1 b2 b3 = true ↔ (b0 / 8 = 30 /\ b1 / 64 = 2 /\ b2 / 64 = 2 /\ b3 / 64 = 2 /\ 65536 <= b0 % 8 * 262144 + b1 % 64 * 4096 + b2 % 64 * 64 + b3 % 64 /\ b0 % 8 * 262144 + b1 % 64 * 4096 + b2 % 64 * 64 + b3 % 64 <= 0x10ffff) /\ Char ((b0 % 8 * 262144 + b1 % 64 * 4096 + b2 % 64 * 64 + b3 % 64 : Nat) : Int) = true := by
 have e : val 4 b0 b1 b2 b3 = b0 % 8 * 262144 + b1 % 64 * 4096 + b2 % 64 * 64 + b3 % 64 := by
  show ((b0 % 8 * 64 + b1 % 64) * 64 + b2 % 64) * 64 + b3 % 64 = _
  omega
 have h := enc4 (b0 % 8 * 262144 + b1 % 64 * 4096 + b2 % 64 * 64 + b3 % 64) b0 b1 b2 b3;simp only [ownB, e, Bool.and_eq_true, decide_eq_true_eq, List.take_succ_cons, List.take_zero, h];refine and_congr_left fun _ => ?_
 omega
set_option maxHeartbeats 1000000 in
set_option maxRecDepth 100000 in
theorem ref_nxt (m b0 b1 b2 b3 : Nat) (hm : 1 <= m) : ref m b0 b1 b2 b3 = nxt m b0 b1 b2 b3 := by
 have e1 : val 1 b0 b1 b2 b3 = b0 := rfl;have e2 : val 2 b0 b1 b2 b3 = b0 % 32 * 64 + b1 % 64 := rfl
 have e3 : val 3 b0 b1 b2 b3 = b0 % 16 * 4096 + b1 % 64 * 64 + b2 % 64 := by
  show (b0 % 16 * 64 + b1 % 64) * 64 + b2 % 64 = _
  omega
 have e4 : val 4 b0 b1 b2 b3 = b0 % 8 * 262144 + b1 % 64 * 4096 + b2 % 64 * 64 + b3 % 64 := by
  show ((b0 % 8 * 64 + b1 % 64) * 64 + b2 % 64) * 64 + b3 % 64 = _
  omega
 unfold ref nxt;simp only [own1, own2, own3, own4, e1, e2, e3, e4];unfold Lib.decodeN;obtain ⟨v2, hv2⟩ : ∃ v, b0 % 32 * 64 + b1 % 64 = v := ⟨_, rfl⟩;obtain ⟨v3, hv3⟩ : ∃ v, b0 % 16 * 4096 + b1 % 64 * 64 + b2 % 64 = v := ⟨_, rfl⟩;obtain ⟨v4, hv4⟩ : ∃ v, b0 % 8 * 262144 + b1 % 64 * 4096 + b2 % 64 * 64 + b3 % 64 = v := ⟨_, rfl⟩;rw [hv4, hv3, hv2]
 by_cases h1 : b0 < 128
 ·have n2 : ¬ b0 / 32 = 6 := by omega
  have n3 : ¬ b0 / 16 = 14 := by omega
  have n4 : ¬ b0 / 8 = 30 := by omega
  have n5 : ¬ b0 = 65533 := by omega
  cases hc : Char (b0 : Int) <;> simp [h1, n2, n3, n4, n5, hm, hc]
 ·by_cases h2 : b0 / 32 = 6
  ·have n3 : ¬ b0 / 16 = 14 := by omega
   have n4 : ¬ b0 / 8 = 30 := by omega
   have n5 : ¬ v2 = 65533 := by omega
   by_cases q1 : 1 < m /\ b1 / 64 = 2
   ·by_cases q2 : 128 <= v2
    ·cases hc : Char (v2 : Int) <;> simp [h1, h2, n3, n4, n5, q1, q2, hc] <;> omega
    ·simp [h1, h2, n3, n4, q1, q2]
   ·by_cases q1' : 2 <= m
    ·have q3 : ¬ b1 / 64 = 2 := fun h => q1 ⟨by omega, h⟩
     simp [h1, h2, n3, n4, q3]
    ·have q3 : ¬ 1 < m := (by omega);simp [h1, h2, n3, n4, q1', q3]
  ·by_cases h3 : b0 / 16 = 14
   ·have n4 : ¬ b0 / 8 = 30 := by omega
    by_cases q1 : 2 < m /\ b1 / 64 = 2 /\ b2 / 64 = 2
    ·have m1 : 1 < m := (by omega);have m2 : 3 <= m := by omega
     by_cases q2 : 2048 <= v3 /\ ¬ (0xd800 <= v3 /\ v3 <= 0xdfff)
     ·have q3 : v3 ≥ 2048 /\ (v3 < 55296 \/ 57344 <= v3 /\ v3 <= 1114111) := by omega
      cases hc : Char (v3 : Int) <;> simp [h1, h2, h3, n4, q1, m1, m2, q2, q3, hc]
     ·have q3 : ¬ (v3 ≥ 2048 /\ (v3 < 55296 \/ 57344 <= v3 /\ v3 <= 1114111)) := (by omega);have q4 : ¬ (2048 <= v3 /\ (55296 <= v3 -> 57343 < v3)) := (by omega);simp [h1, h2, h3, n4, q1, m1, m2, q3];omega
    ·by_cases a : 2 < m
     ·have a1 : 1 < m := (by omega);have a2 : 3 <= m := by omega
      by_cases b : b1 / 64 = 2
      ·have c : ¬ b2 / 64 = 2 := fun h => q1 ⟨a, b, h⟩
       simp [h1, h2, h3, n4, a, a1, a2, b, c]
      ·simp [h1, h2, h3, n4, b]
     ·have a2 : ¬ 3 <= m := (by omega);simp [h1, h2, h3, n4, a, a2]
   ·by_cases h4 : b0 / 8 = 30
    ·by_cases q1 : 3 < m /\ b1 / 64 = 2 /\ b2 / 64 = 2 /\ b3 / 64 = 2
     ·have m1 : 1 < m := (by omega);have m2 : 2 < m := (by omega);have m3 : 4 <= m := by omega
      by_cases q2 : 65536 <= v4 /\ v4 <= 1114111
      ·have q3 : v4 ≥ 65536 /\ (v4 < 55296 \/ 57344 <= v4 /\ v4 <= 1114111) := (by omega);have n5 : ¬ v4 = 65533 := (by omega);have q6 : v4 < 55296 \/ 57344 <= v4 := by omega
       cases hc : Char (v4 : Int) <;> simp [h1, h2, h3, h4, q1, m1, m2, m3, q2, q6, n5, hc]
      ·have q3 : ¬ (v4 ≥ 65536 /\ (v4 < 55296 \/ 57344 <= v4 /\ v4 <= 1114111)) := (by omega);simp [h1, h2, h3, h4, q1, m1, m2, m3, q3];omega
     ·by_cases a : 3 < m
      ·have a1 : 1 < m := (by omega);have a2 : 2 < m := (by omega);have a3 : 4 <= m := by omega
       by_cases b : b1 / 64 = 2
       ·by_cases c : b2 / 64 = 2
        ·have d : ¬ b3 / 64 = 2 := fun h => q1 ⟨a, b, c, h⟩
         simp [h1, h2, h3, h4, a, a1, a2, a3, b, c, d]
        ·simp [h1, h2, h3, h4, c]
       ·simp [h1, h2, h3, h4, b]
      ·have a2 : ¬ 4 <= m := (by omega);simp [h1, h2, h3, h4, a, a2]
    ·simp [h1, h2, h3, h4]
end Go.Proofs.YtdnfnkicmfkkmaaGreatDoor.Utf
end

section
namespace Go.Proofs.YtdnfnkicmfkkmaaGreatDoor
open Go.RowKit
structure Rd (w : World) (A : Option Addr) (n c : Nat) (xs : List Value) : Prop where
 len : xs.length = n
 le : n <= c
 max : c <= 9223372036854775807
 nil : A = none -> n = 0 /\ c = 0
 cell : 0 < n -> ∃ b off, A = some ⟨b, off, none⟩ /\ b < w.heap.size /\ ∀ j u, xs[j]? = some u -> w.cell? ⟨b, off + j, none⟩ = some u
theorem Rd.none_ (w : World) : Rd w none 0 0 [] := ⟨rfl, by omega, by omega, fun _ => ⟨rfl, rfl⟩, fun h => absurd h (by omega)⟩
section
variable {w w' : World} {A : Option Addr} {n c : Nat} {xs : List Value}
theorem Rd.keep (h : Rd w A n c xs) (hs : w.heap.size <= w'.heap.size) (hk : ∀ p : Addr, p.block < w.heap.size -> w'.cell? p = w.cell? p) : Rd w' A n c xs :=
 ⟨h.len, h.le, h.max, h.nil, fun hn => by
  obtain ⟨b, off, e, hb, hc⟩ := h.cell hn
  exact ⟨b, off, e, by omega, fun j u hu => (hk _ hb).trans (hc j u hu)⟩⟩
theorem Rd.below (h : Rd w A n c xs) (hb : Below w.heap.size w w') : Rd w' A n c xs := h.keep hb.size fun _ hp => hb.cell hp
theorem Rd.at_ {k : Nat} (h : Rd w A n c xs) (hk : k < n) :
  ∃ b off u, A = some ⟨b, off, none⟩ /\ b < w.heap.size /\ xs[k]? = some u /\ w.cell? ⟨b, off + k, none⟩ = some u := by
 obtain ⟨b, off, e, hb, hc⟩ := h.cell (by omega);have hl : k < xs.length := by have := h.len; omega
 exact ⟨b, off, xs[k], e, hb, List.getElem?_eq_getElem hl, hc k _ (List.getElem?_eq_getElem hl)⟩
end
def bv (l : List UInt8) : List Value := l.map fun x => Value.int .u8 (x.toNat : Int)
@[simp] theorem bv_length (l : List UInt8) : (bv l).length = l.length := by simp [bv]
@[simp] theorem bv_nil : bv [] = [] := rfl
@[simp] theorem bv_append (a b : List UInt8) : bv (a ++ b) = bv a ++ bv b := by simp [bv]
theorem bv_get {l : List UInt8} {k : Nat} {u : Value} (h : (bv l)[k]? = some u) : ∃ x : UInt8, l[k]? = some x /\ u = .int .u8 (x.toNat : Int) := by
 simp only [bv, List.getElem?_map, Option.map_eq_some_iff] at h;obtain ⟨x, hx, rfl⟩ := h;exact ⟨x, hx, rfl⟩
def Bs (w : World) (A : Option Addr) (n c : Nat) (l : List UInt8) : Prop := Rd w A n c (bv l)
section
variable {w w' : World} {A : Option Addr} {n c : Nat} {l : List UInt8}
theorem Bs.len (h : Bs w A n c l) : l.length = n := by simpa using Rd.len h
theorem Bs.below (h : Bs w A n c l) (hb : Below w.heap.size w w') : Bs w' A n c l := Rd.below h hb
theorem Bs.at_ {k : Nat} (h : Bs w A n c l) (hk : k < n) :
  ∃ b off, ∃ x : UInt8, A = some ⟨b, off, none⟩ /\ b < w.heap.size /\ l[k]? = some x /\ x.toNat < 256 /\ w.cell? ⟨b, off + k, none⟩ = some (.int .u8 (x.toNat : Int)) := by
 obtain ⟨b, off, u, e, hb, hx, hc⟩ := Rd.at_ h hk;obtain ⟨x, hx2, rfl⟩ := bv_get hx;exact ⟨b, off, x, e, hb, hx2, x.toNat_lt, hc⟩
end
theorem take_snoc {α : Type} {l : List α} {k : Nat} {x : α} (h : l[k]? = some x) : l.take (k + 1) = l.take k ++ [x] := by
 rw [List.take_add_one, h]; rfl
theorem ret_int {k : IntKind} {a b : Int} (h : a = b) : Ending.returned (.int k a) = .returned (.int k b) := by rw [h]
theorem val_int {k : IntKind} {a b : Int} (h : a = b) : Value.int k a = .int k b := by rw [h]
theorem ret_bool {a b : Bool} (h : a = b) : Ending.returned (.bool a) = .returned (.bool b) := by rw [h]
theorem val_bool {a b : Bool} (h : a = b) : Value.bool a = .bool b := by rw [h]
def OwB (w : World) (B E : Nat) (v : Value) (l : List UInt8) : Prop := w.ownsRow B E 1 v l.length (bv l)
theorem rd_of_own {w : World} {B E : Nat} {A : Option Addr} {n c : Nat} {xs : List Value} (h : w.ownsRow B E 1 (.slice A n c) n xs) : Rd w A n c xs := by
 obtain ⟨hl, h⟩ := h;rcases h with ⟨hv, rfl⟩ | ⟨g, cap, cur, hv, hB, hh, hnc, hm, hs, ht⟩
 ·injection hv with h1 h2 h3;subst h1; subst h3
  have : xs = [] := List.eq_nil_of_length_eq_zero (by simpa using hl);subst this;exact Rd.none_ w
 ·injection hv with h1 h2 h3;subst h1; subst h3
  have hg : g < w.heap.size := by
   rcases Nat.lt_or_ge g w.heap.size with hlt | hge
   ·exact hlt
   ·rw [Array.getElem?_eq_none hge] at hh; cases hh
  refine ⟨by simpa using hl, hnc, by unfold maxLen at hm; omega, fun h => by simp at h, fun _ => ⟨g, 0, rfl, hg, fun j u hu => ?_⟩⟩;rw [<- ht] at hu;rw [List.getElem?_take] at hu
  split at hu
  ·simp only [World.cell?, hh, Nat.zero_add]
   simpa using hu
  ·cases hu
theorem OwB.bs {w : World} {B E : Nat} {A : Option Addr} {n c : Nat} {l : List UInt8} (h : OwB w B E (.slice A n c) l) : Bs w A n c l := by
 have hn : n = l.length := by
  rcases h.2 with ⟨hv, h0⟩ | ⟨g, cap, cur, hv, _⟩
  ·injection hv with _ h2 _; omega
  ·injection hv
 subst hn;exact rd_of_own h
theorem ownsRow_form {w : World} {B E n : Nat} {v : Value} {xs : List Value} (h : w.ownsRow B E 1 v n xs) : ∃ A c, v = .slice A n c := by
 rcases h.2 with ⟨rfl, rfl⟩ | ⟨g, cap, cur, rfl, _⟩
 ·exact ⟨_, _, rfl⟩
 ·exact ⟨_, _, rfl⟩
theorem below_of_grown {w w' : World} {B E size n : Nat} {v : Value} {xs : List Value} (h : w.ownsRow B E size v n xs) (hB : B <= w.heap.size) (hg : w.grownBy w' v.ownBlock) : Below B w w' :=
 (Below.refl B w).grown hg hB (fun k hk => (h.lt k hk).1)
section
variable {P : Program} {ops : Array Oper} {rest : List Oper} {o : Oper} {a : Act} {Q : Exit -> Act -> World -> Prop}
theorem wpList_append_rd (w : World) (hgd : o.guard = none) (s x : Operand) (t : TypeId)
  (ho : o.op = .call { callee := .builtin .append, args := #[s, x], argTypes := #[t, t] })
  (B : Nat) (e : TypeId) (z : Value) (bytes : Nat) (ht : P.underlying t = some (.slice e))
  (hinfo : (P.info? e).map (fun i => (i.zero, i.size, i.bytes)) = some (some z, 1, bytes)) (hzs : z.cells.size = 1)
  (v : Value) (n : Nat) (xs : List Value) (hs : a.eval s = v) (hown : w.ownsRow B e 1 v n xs)
  (A : Option Addr) (m c : Nat) (news : List Value) (hx : a.eval x = .slice A m c) (hr : Rd w A m c news) (h1 : ∀ u ∈ news, u.oneCell' = true)
  (hbytes : (n + m) * bytes <= 140737488355328) (h63 : n + m <= 140737488355328) (hB : B <= w.heap.size)
  (h : ∀ A' c' w', w'.ownsRow B e 1 (.slice A' (n + m) c') (n + m) (xs ++ news) -> w.grownBy w' v.ownBlock -> Below B w w' -> ((Value.slice A' (n + m) c').ownBlock = v.ownBlock \/ (Value.slice A' (n + m) c').ownBlock = some w.heap.size) -> wpList P ops Q rest (a.put o.dst (.slice A' (n + m) c')) w') :
  wpList P ops Q (o :: rest) a w := by
 obtain ⟨i, hi, hz, hsz, hby⟩ := info_parts hinfo;rcases A with _ | ad
 ·obtain ⟨rfl, rfl⟩ := hr.nil rfl;have hn : news = [] := List.eq_nil_of_length_eq_zero hr.len;subst hn;refine wpList_append_own_none hgd s x t ho B e i 1 ht hi v n xs hs hown hx ?_;obtain ⟨A', c', rfl⟩ := ownsRow_form hown;exact h A' c' w (by simpa using hown) (World.grownBy.refl _ _) (Below.refl _ _) (.inl rfl)
 ·refine wpList_append_own_at w hgd s x t ho B e i z 1 bytes ht hi hz hsz hby hzs (by omega) v n xs hs hown ad m c news hx (by simpa using hr.len) ?_ h1 (by unfold maxLen; omega) hbytes hB ?_
  ·intro j u hu
   have hm : 0 < m := by
    have := hr.len;have := (List.getElem?_eq_some_iff.1 hu).1;omega
   obtain ⟨b, off, he, _, hc⟩ := hr.cell hm;injection he with he;subst he;have := hc j u hu;unfold Addr.add
   split
   ·rename_i h0; subst h0; simpa using this
   ·exact this
  ·intro v' w' hown' hg _ hat;obtain ⟨A', c', rfl⟩ := ownsRow_form hown';exact h A' c' w' hown' hg (below_of_grown hown hB hg) hat
end
theorem bv_oneCell (l : List UInt8) : ∀ u ∈ bv l, u.oneCell' = true := by
 intro u hu;simp only [bv, List.mem_map] at hu;obtain ⟨x, _, rfl⟩ := hu;rfl
theorem bs_lit (w : World) (C : Array Value) (E : TypeId) (fr : Nat × Nat) (l : List UInt8) (n : Nat) (hn : l.length = n) (hn2 : n <= 9223372036854775807) (hC : C.toList = bv l) :
  Bs (w.alloc (.cells C E fr)) (some ⟨w.heap.size, 0, none⟩) n n l := by
 refine ⟨by simpa using hn, Nat.le_refl _, hn2, fun h => by simp at h, fun _ => ⟨_, _, rfl, by simp, fun j u hu => ?_⟩⟩;have hh : (w.alloc (.cells C E fr)).heap[w.heap.size]? = some (.cells C E fr) := heap_alloc_new w _;rw [<- hC, Array.getElem?_toList] at hu;simp only [World.cell?, hh, Nat.zero_add]
 simpa using hu
theorem owb_lit (w : World) (B : Nat) (hB : B <= w.heap.size) (C : Array Value) (E : TypeId) (l : List UInt8) (n : Nat) (hn : l.length = n) (hn2 : n <= 9223372036854775807) (hC : C.toList = bv l) :
  OwB (w.alloc (.cells C E)) B E (.slice (some ⟨w.heap.size, 0, none⟩) n n) l := by
 subst hn
 have hs : C.size = l.length := by
  have := congrArg List.length hC
  simpa using this
 refine ⟨by simp, .inr ⟨_, _, C, rfl, hB, heap_alloc_new w _, Nat.le_refl _, by unfold maxLen; omega, by omega, ?_⟩⟩;rw [hC, List.take_of_length_le (by simp)]
theorem below_alloc (w : World) (o : Obj) : Below w.heap.size w (w.alloc o) := (Below.refl _ _).alloc (Nat.le_refl _) o
def Stop (p : Prop) : Prop := p
theorem stop_here {p : Prop} (h : Stop p) : p := h
theorem Stop.go {p : Prop} (h : p) : Stop p := h
section
variable {P : Program} {ops : Array Oper} {rest : List Oper} {o : Oper} {a : Act} {Q : Exit -> Act -> World -> Prop}
theorem append_bytes (w : World) (t e : TypeId) (ht : P.underlying t = some (.slice e))
  (hinfo : (P.info? e).map (fun i => (i.zero, i.size, i.bytes)) = some (some (.int .u8 0), 1, 1))
  (hgd : o.guard = none) (s x : Operand)
  (ho : o.op = .call { callee := .builtin .append, args := #[s, x], argTypes := #[t, t] })
  (B : Nat) (v : Value) (la : List UInt8) (hs : a.eval s = v) (hown : OwB w B e v la)
  (A : Option Addr) (m c : Nat) (lb : List UInt8) (hx : a.eval x = .slice A m c) (hr : Bs w A m c lb)
  (N : Nat) (hN : la.length + m = N) (hsz : N <= 140737488355328) (hB : B <= w.heap.size)
  (h : ∀ A' c' w', OwB w' B e (.slice A' N c') (la ++ lb) -> w.grownBy w' v.ownBlock -> Below B w w' -> wpList P ops Q rest (a.put o.dst (.slice A' N c')) w') :
  wpList P ops Q (o :: rest) a w := by
 refine wpList_append_rd w hgd s x t ho B e (.int .u8 0) 1 ht hinfo rfl v la.length (bv la) hs hown A m c (bv lb) hx hr (bv_oneCell lb) (by omega) (by omega) hB ?_;intro A' c' w' h1 h2 h3 _;have hl := hr.len;rw [hN] at h1 ⊢;refine h A' c' w' ?_ h2 h3;unfold OwB;rw [bv_append, List.length_append, show la.length + lb.length = N from by omega];exact h1
end
theorem OwB.lt {w : World} {B E : Nat} {v : Value} {l : List UInt8} (h : OwB w B E v l) : ∀ k, v.ownBlock = some k -> B <= k /\ k < w.heap.size := World.ownsRow.lt h
/-! Slices of slices of bytes. -/
def El (w : World) (blk : Option Nat) (u : Value) (l : List UInt8) : Prop := ∃ A n c, u = .slice A n c /\ Bs w A n c l /\ ∀ a, A = some a -> 0 < n -> some a.block ≠ blk
theorem OwB.below {w w' : World} {B E : Nat} {v : Value} {l : List UInt8} (h1 : OwB w B E v l) (hb : Below w.heap.size w w') : OwB w' B E v l :=
 World.ownsRow.kept (row := none) h1 ⟨hb.os, hb.tape, hb.output, hb.size, fun k hk _ => hb.block k hk⟩ (by
  rcases h1.2 with ⟨rfl, _⟩ | ⟨g, cap, cur, rfl, _⟩
  ·exact .inl rfl
  ·right; simp [Value.ownBlock])
theorem OwB.nil (w : World) (B E : Nat) : OwB w B E (.slice none 0 0) [] := World.ownsRow_nil w B E 1
theorem ownsRow_base {w : World} {B B' E size n : Nat} {v : Value} {xs : List Value} (h : w.ownsRow B E size v n xs) (hb : B' <= B) : w.ownsRow B' E size v n xs :=
 ⟨h.1, h.2.elim .inl fun ⟨g, cap, cur, hv, hg, r⟩ => .inr ⟨g, cap, cur, hv, Nat.le_trans hb hg, r⟩⟩
theorem Rd.cut {w : World} {A : Option Addr} {n c : Nat} {xs : List Value} (h : Rd w A n c xs) (lo hi : Nat) (h1 : lo <= hi) (h2 : hi <= n) (A' : Option Addr)
  (hA : ∀ b off, A = some ⟨b, off, none⟩ -> lo < c -> A' = some ⟨b, off + lo, none⟩) (hA0 : A = none -> A' = none) (hA1 : A ≠ none -> A' ≠ none) :
  Rd w A' (hi - lo) (c - lo) ((xs.drop lo).take (hi - lo)) := by
 have hl := h.len;have hle := h.le;have hm := h.max;refine ⟨by simp; omega, by omega, by omega, fun h0 => ?_, fun hn => ?_⟩
 ·have hAn : A = none := by
   apply Classical.byContradiction;intro hne;exact hA1 hne h0
  have := h.nil hAn;omega
 ·obtain ⟨b, off, rfl, hb, hc⟩ := h.cell (by omega);refine ⟨b, off + lo, hA b off rfl (by omega), hb, fun j u hu => ?_⟩;rw [List.getElem?_take] at hu
  split at hu
  ·rw [List.getElem?_drop] at hu;have := hc (lo + j) u hu;rw [<- Nat.add_assoc] at this;exact this
  ·cases hu
def strOf (l : List UInt8) : ByteArray := ⟨l.toArray⟩
theorem Bs.conv {P : Program} {w : World} {A : Option Addr} {n c : Nat} {l : List UInt8} (h : Bs w A n c l) {src dst e : TypeId}
  (hs : P.underlying src = some (.slice e)) (he : P.underlying e = some (.int .u8)) (hd : P.underlying dst = some .string) :
  (convert src dst (.slice A n c)).run P w = .ok (.string (strOf l)) w := by
 have hl := h.len;rcases A with _ | a
 ·obtain ⟨rfl, rfl⟩ := Rd.nil h rfl;have : l = [] := List.eq_nil_of_length_eq_zero hl;subst this;exact run_convert_bytes_nil w src e hs he 0 0 dst hd
 ·have e1 : (l.map fun x => (x.toNat : Int)).map (Value.int .u8) = bv l := by simp [bv]
  have hload : (loadCells a n).run P w = .ok ((l.map fun x => (x.toNat : Int)).map (Value.int .u8)).toArray w := by
   rw [e1]
   have := run_loadCells_list (P := P) w a (bv l) (fun j v hj => by
    have hn : 0 < n := by
     have := (List.getElem?_eq_some_iff.1 hj).1;simp at this;omega
    obtain ⟨b, off, ea, _, hc⟩ := Rd.cell h hn;injection ea with ea;subst ea;have := hc j v hj;unfold Addr.add
    split
    ·rename_i h0; subst h0; simpa using this
    ·exact this)
   simpa [hl] using this
  rw [run_convert_bytes_string w src dst e _ n c hs he hd, run_bytesToString w a n c _ hload, foldl_push_bytes];simp [strOf, ByteArray.empty, ByteArray.emptyWithCapacity, List.map_map, Function.comp_def];rfl
/-! Rows of slices whose elements lie below the row. -/
section
variable {w w' : World} {B E : Nat} {v : Value} {ls : List (List UInt8)}
theorem grown_of_below (hb : Below w.heap.size w w') : w.grownBy w' none := ⟨hb.os, hb.tape, hb.output, hb.size, fun k hk _ => hb.block k hk⟩
theorem own_none_or {n size : Nat} {xs : List Value} (h : w.ownsRow B E size v n xs) : v.ownBlock = none \/ v.ownBlock ≠ none := by
 rcases h.2 with ⟨rfl, _⟩ | ⟨g, cap, cur, rfl, _⟩
 ·exact .inl rfl
 ·right; simp [Value.ownBlock]
end
end Go.Proofs.YtdnfnkicmfkkmaaGreatDoor
end

section
namespace Go.Proofs.YtdnfnkicmfkkmaaGreatDoor.UtfW
open Go.RowKit
theorem refchar_any (r : Int) (w : World) :
  Calls Tryz.prog 146 #[.int .i32 r] w fun e w' => e = .returned (.bool (Utf.Char r)) /\ w' = w := by
 go_enter Tryz.func146, Tryz.ntmps146
 go_wp2
 all_goals go_ret
 all_goals refine ⟨ret_bool ?_, rfl⟩
 all_goals (try simp only [Bool.or_eq_true, beq_iff_eq, Bool.or_eq_false_iff, beq_eq_false_iff_ne, ne_eq] at *)
 all_goals unfold Utf.Char
 all_goals rw [Bool.eq_iff_iff]
 all_goals (try simp only [Bool.or_eq_true, decide_eq_true_eq, beq_iff_eq, true_iff, iff_true, Bool.false_eq_true, false_iff])
 all_goals omega
def Blank (r : Int) : Bool := decide (r = 9 \/ r = 10 \/ r = 13 \/ r = 32)
theorem refblank_any (r : Int) (w : World) :
  Calls Tryz.prog 90 #[.int .i32 r] w fun e w' => e = .returned (.bool (Blank r)) /\ w' = w := by
 go_enter Tryz.func90, Tryz.ntmps90
 go_wp2
 all_goals go_ret
 all_goals refine ⟨ret_bool ?_, rfl⟩
 all_goals (try simp only [Bool.or_eq_true, beq_iff_eq, Bool.or_eq_false_iff, beq_eq_false_iff_ne, ne_eq] at *)
 all_goals unfold Blank
 all_goals rw [Bool.eq_iff_iff]
 all_goals (try simp only [Bool.or_eq_true, decide_eq_true_eq, beq_iff_eq, true_iff, iff_true, Bool.false_eq_true, false_iff])
 all_goals omega
theorem in_any (r a b : Int) (w : World) :
  Calls Tryz.prog 147 #[.int .i32 r, .int .i32 a, .int .i32 b] w fun e w' => e = .returned (.bool (decide (a <= r /\ r <= b))) /\ w' = w := by
 go_enter Tryz.func147, Tryz.ntmps147
 go_wp2
 all_goals go_ret
 all_goals refine ⟨ret_bool ?_, rfl⟩
 all_goals (try simp only [Bool.or_eq_true, beq_iff_eq, Bool.or_eq_false_iff, beq_eq_false_iff_ne, ne_eq] at *)
 all_goals rw [Bool.eq_iff_iff]
 all_goals (try simp only [Bool.or_eq_true, decide_eq_true_eq, beq_iff_eq, true_iff, iff_true, Bool.false_eq_true, false_iff])
 all_goals first | omega | (simp; omega) | (simp; done)
end Go.Proofs.YtdnfnkicmfkkmaaGreatDoor.UtfW
end

section
namespace Go.Proofs.YtdnfnkicmfkkmaaGreatDoor.UtfW
open Go.RowKit
def inb (a b r : Int) : Bool := decide (a <= r /\ r <= b)
theorem in_any' (r a b : Int) (w : World) :
  Calls Tryz.prog 147 #[.int .i32 r, .int .i32 a, .int .i32 b] w fun e w' => e = .returned (.bool (inb a b r)) /\ w' = w := in_any r a b w
def Begins (r : Int) : Bool := inb 65 90 r || (r == 95) || inb 97 122 r || inb 192 214 r || inb 216 246 r || inb 248 767 r || inb 880 893 r || inb 895 8191 r || inb 8204 8205 r || inb 8304 8591 r || inb 11264 12271 r || inb 12289 55295 r || inb 63744 64975 r || inb 65008 65533 r || inb 65536 983039 r
set_option maxHeartbeats 1000000 in
theorem refbegins_any (r : Int) (w : World) :
  Calls Tryz.prog 129 #[.int .i32 r] w fun e w' => e = .returned (.bool (Begins r)) /\ w' = w := by
 go_enter Tryz.func129, Tryz.ntmps129
 go_wp2_with (go_at_call 147; refine (in_any' _ _ _ _).mono ?_; rintro e w' ⟨rfl, rfl⟩)
 all_goals go_ret
 all_goals refine ⟨ret_bool ?_, rfl⟩
 all_goals unfold Begins
 all_goals simp_all
def GoesOn (r : Int) : Bool := Begins r || (r == 45) || (r == 46) || inb 48 57 r || (r == 183) || inb 768 879 r || (r == 8255) || (r == 8256)
set_option maxHeartbeats 1000000 in
theorem refgoeson_any (r : Int) (w : World) :
  Calls Tryz.prog 130 #[.int .i32 r] w fun e w' => e = .returned (.bool (GoesOn r)) /\ w' = w := by
 go_enter Tryz.func130, Tryz.ntmps130
 go_wp2_with (first | (go_at_call 147; refine (in_any' _ _ _ _).mono ?_; rintro e w' ⟨rfl, rfl⟩) | (go_at_call 129; refine (refbegins_any _ _).mono ?_; rintro e w' ⟨rfl, rfl⟩))
 all_goals go_ret
 all_goals refine ⟨ret_bool ?_, rfl⟩
 all_goals unfold GoesOn
 all_goals simp_all
end Go.Proofs.YtdnfnkicmfkkmaaGreatDoor.UtfW
end

section
namespace Go.Proofs.YtdnfnkicmfkkmaaGreatDoor.UtfW
open Go.RowKit
end Go.Proofs.YtdnfnkicmfkkmaaGreatDoor.UtfW
end

section

end

section
namespace Go.Proofs.YtdnfnkicmfkkmaaGreatDoor.UtfW
open Go.RowKit
def encB (r : Int) : List UInt8 := if r < 0 then [] else (Utf.enc r.toNat).map UInt8.ofNat
theorem bv_ofNat (ns : List Nat) (h : ∀ n ∈ ns, n < 256) : bv (ns.map UInt8.ofNat) = ns.map fun n => Value.int .u8 (n : Nat) := by
 induction ns with
 | nil => rfl
 | cons a l ih =>
  have ha := h a (List.mem_cons_self ..);have e : (UInt8.ofNat a).toNat = a := by rw [UInt8.toNat_ofNat']; omega
  have := ih fun n hn => h n (List.mem_cons_of_mem _ hn)
  rw [List.map_cons, List.map_cons, <- this]
  show Value.int .u8 ((UInt8.ofNat a).toNat : Int) :: bv (l.map UInt8.ofNat) = _
  rw [e]
theorem enc_lit (w : World) (v : Nat) (ns : List Nat) (he : Utf.enc v = ns) (hlt : ∀ n ∈ ns, n < 256) (C : Array Value) (E : TypeId) (hC : C.toList = ns.map fun n => Value.int .u8 (n : Nat)) (k : Nat) (hk : ns.length = k) (h4 : k <= 4) :
  ∃ A c, (Value.slice (some ⟨w.heap.size, 0, none⟩) k k) = .slice A (encB v).length c /\ OwB (w.alloc (.cells C E)) w.heap.size E (.slice A (encB v).length c) (encB v) /\ Below w.heap.size w (w.alloc (.cells C E)) := by
 have e : encB (v : Int) = ns.map UInt8.ofNat := by
  unfold encB;rw [if_neg (by omega), Int.toNat_natCast, he]
 have hl : (encB (v : Int)).length = k := by rw [e, List.length_map, hk]
 rw [hl];exact ⟨_, _, rfl, owb_lit w _ (Nat.le_refl _) C E _ _ hl (by omega) (by rw [hC, e, bv_ofNat _ hlt]), below_alloc _ _⟩
theorem refEncode_2 (v : Nat) (h1 : 128 <= v) (h2 : v < 2048) (w : World) :
  Calls Tryz.prog 145 #[.int .i32 v] w fun e w' => ∃ A c, e = .returned (.slice A (encB v).length c) /\ OwB w' w.heap.size 5 (.slice A (encB v).length c) (encB v) /\ Below w.heap.size w w' := by
 have i1 : decide ((v : Int) < 0) = false := by simp
 have i2 : decide ((1114111 : Int) < (v : Int)) = false := by simp; omega
 have i3 : decide ((55296 : Int) <= (v : Int)) = false := by simp; omega
 have i4 : decide ((v : Int) < 128) = false := by simp; omega
 have i5 : decide ((v : Int) < 2048) = true := by simp; omega
 go_enter Tryz.func145, Tryz.ntmps145
 go_wp2
 go_ret;obtain ⟨A, c, h3, h4, h5⟩ := enc_lit w v [192 + v / 64, 128 + v % 64] ((Utf.enc2 _ _ _).2 ⟨h1, h2, rfl, rfl⟩) (by intro n hn; simp at hn; omega) #[.int .u8 (192 + (v : Int) / 64), .int .u8 (128 + (v : Int) % 64)] 5 (by simp) 2 rfl (by omega);exact ⟨A, c, by rw [<- h3]; rfl, h4, h5⟩
theorem refEncode_1 (v : Nat) (h1 : v < 128) (w : World) :
  Calls Tryz.prog 145 #[.int .i32 v] w fun e w' => ∃ A c, e = .returned (.slice A (encB v).length c) /\ OwB w' w.heap.size 5 (.slice A (encB v).length c) (encB v) /\ Below w.heap.size w w' := by
 have i0 : decide ((v : Int) < 0) = false := by simp
 have i1 : decide ((1114111 : Int) < (v : Int)) = false := by simp ; omega
 have i2 : decide ((55296 : Int) <= (v : Int)) = false := by simp ; omega
 have i3 : decide ((v : Int) < 128) = true := by simp ; omega
 go_enter Tryz.func145, Tryz.ntmps145
 go_wp2
 go_ret;obtain ⟨A, c, h3, h4, h5⟩ := enc_lit w v [v] ((Utf.enc1 _ _).2 ⟨h1, rfl⟩) (by intro n hn; simp at hn; omega) #[.int .u8 (v : Int)] 5 (by simp) 1 rfl (by omega);exact ⟨A, c, by rw [<- h3]; rfl, h4, h5⟩
set_option maxRecDepth 100000 in
theorem refEncode_3 (v : Nat) (h1 : 2048 <= v) (h2 : v < 65536) (hs : ¬ (55296 <= v /\ v <= 57343)) (w : World) :
  Calls Tryz.prog 145 #[.int .i32 v] w fun e w' => ∃ A c, e = .returned (.slice A (encB v).length c) /\ OwB w' w.heap.size 5 (.slice A (encB v).length c) (encB v) /\ Below w.heap.size w w' := by
 have i0 : decide ((v : Int) < 0) = false := by simp
 have i1 : decide ((1114111 : Int) < (v : Int)) = false := by simp ; omega
 have i2 : decide ((v : Int) < 128) = false := by simp ; omega
 have i3 : decide ((v : Int) < 2048) = false := by simp ; omega
 have i4 : decide ((v : Int) < 65536) = true := by simp ; omega
 have t1 : ((v : Int) / 64).tmod 64 = (v : Int) / 64 % 64 := Int.tmod_eq_emod_of_nonneg (by omega);have q1 : (128 + (v : Int) / 64 % 64) % 256 = 128 + (v : Int) / 64 % 64 := by omega
 have q0 : (128 + (v : Int) % 64) % 256 = 128 + (v : Int) % 64 := by omega
 have q2 : (224 + (v : Int) / 4096) % 256 = 224 + (v : Int) / 4096 := by omega
 go_enter Tryz.func145, Tryz.ntmps145
 have hs' := Hd hs;clear hs;rcases (show v < 55296 \/ 57343 < v from by have := hs'.out; omega) with hq | hq
 case inl =>
  have i9 : decide ((55296 : Int) <= (v : Int)) = false := by simp ; omega
  go_wp2
  go_ret;obtain ⟨A, c, h3, h4, h5⟩ := enc_lit w v [224 + v / 4096, 128 + v / 64 % 64, 128 + v % 64] ((Utf.enc3 _ _ _ _).2 ⟨h1, h2, hs'.out, rfl, rfl, rfl⟩) (by intro n hn; simp at hn; omega) #[.int .u8 (224 + (v : Int) / 4096), .int .u8 (128 + (v : Int) / 64 % 64), .int .u8 (128 + (v : Int) % 64)] 5 (by simp) 3 rfl (by omega);exact ⟨A, c, by rw [<- h3]; rfl, h4, h5⟩
 case inr =>
  have i9 : decide ((55296 : Int) <= (v : Int)) = true := by simp ; omega
  have i10 : decide ((v : Int) <= 57343) = false := by simp ; omega
  go_wp2
  go_ret;obtain ⟨A, c, h3, h4, h5⟩ := enc_lit w v [224 + v / 4096, 128 + v / 64 % 64, 128 + v % 64] ((Utf.enc3 _ _ _ _).2 ⟨h1, h2, hs'.out, rfl, rfl, rfl⟩) (by intro n hn; simp at hn; omega) #[.int .u8 (224 + (v : Int) / 4096), .int .u8 (128 + (v : Int) / 64 % 64), .int .u8 (128 + (v : Int) % 64)] 5 (by simp) 3 rfl (by omega);exact ⟨A, c, by rw [<- h3]; rfl, h4, h5⟩
set_option maxRecDepth 100000 in
theorem refEncode_4 (v : Nat) (h1 : 65536 <= v) (h2 : v <= 1114111) (w : World) :
  Calls Tryz.prog 145 #[.int .i32 v] w fun e w' => ∃ A c, e = .returned (.slice A (encB v).length c) /\ OwB w' w.heap.size 5 (.slice A (encB v).length c) (encB v) /\ Below w.heap.size w w' := by
 have i0 : decide ((v : Int) < 0) = false := by simp
 have i1 : decide ((1114111 : Int) < (v : Int)) = false := by simp ; omega
 have i2 : decide ((v : Int) <= 57343) = false := by simp ; omega
 have i3 : decide ((v : Int) < 128) = false := by simp ; omega
 have i4 : decide ((v : Int) < 2048) = false := by simp ; omega
 have i5 : decide ((v : Int) < 65536) = false := by simp ; omega
 have i9 : decide ((55296 : Int) <= (v : Int)) = true := by simp ; omega
 have t1 : ((v : Int) / 64).tmod 64 = (v : Int) / 64 % 64 := Int.tmod_eq_emod_of_nonneg (by omega);have q1 : (128 + (v : Int) / 64 % 64) % 256 = 128 + (v : Int) / 64 % 64 := by omega
 have q0 : (128 + (v : Int) % 64) % 256 = 128 + (v : Int) % 64 := by omega
 have t2 : ((v : Int) / 4096).tmod 64 = (v : Int) / 4096 % 64 := Int.tmod_eq_emod_of_nonneg (by omega);have q2 : (128 + (v : Int) / 4096 % 64) % 256 = 128 + (v : Int) / 4096 % 64 := by omega
 have q3 : (240 + (v : Int) / 262144) % 256 = 240 + (v : Int) / 262144 := by omega
 go_enter Tryz.func145, Tryz.ntmps145
 go_wp2
 go_ret;obtain ⟨A, c, h3, h4, h5⟩ := enc_lit w v [240 + v / 262144, 128 + v / 4096 % 64, 128 + v / 64 % 64, 128 + v % 64] ((Utf.enc4 _ _ _ _ _).2 ⟨h1, h2, rfl, rfl, rfl, rfl⟩) (by intro n hn; simp at hn; omega) #[.int .u8 (240 + (v : Int) / 262144), .int .u8 (128 + (v : Int) / 4096 % 64), .int .u8 (128 + (v : Int) / 64 % 64), .int .u8 (128 + (v : Int) % 64)] 5 (by simp) 4 rfl (by omega);exact ⟨A, c, by rw [<- h3]; rfl, h4, h5⟩
def isRune (r : Int) : Bool := decide ((0 <= r /\ r < 0xD800) \/ (0xDFFF < r /\ r <= 0x10FFFF))
theorem encB_none {r : Int} (h : isRune r = false) : encB r = [] := by
 simp only [isRune, decide_eq_false_iff_not] at h;unfold encB
 split
 ·rfl
 ·unfold Utf.enc;rw [if_pos (by omega)];rfl
theorem refEncode_none (r : Int) (hr0 : -2147483648 <= r) (hr1 : r <= 2147483647) (h : isRune r = false) (w : World) :
  Calls Tryz.prog 145 #[.int .i32 r] w fun e w' => e = .returned (.slice none 0 0) /\ w' = w := by
 simp only [isRune, decide_eq_false_iff_not] at h;have h' := Hd h;clear h
 by_cases h0 : r < 0
 ·have i0 : decide (r < 0) = true := by simp [h0]
  go_enter Tryz.func145, Tryz.ntmps145
  go_wp2
  go_ret;exact ⟨rfl, rfl⟩
 ·have i0 : decide (r < 0) = false := by simp; omega
  by_cases h1 : 1114111 < r
  ·have i1 : decide ((1114111 : Int) < r) = true := by simp [h1]
   go_enter Tryz.func145, Tryz.ntmps145
   go_wp2
   go_ret;exact ⟨rfl, rfl⟩
  ·have i1 : decide ((1114111 : Int) < r) = false := by simp; omega
   have i2 : decide ((55296 : Int) <= r) = true := by have := h'.out; simp; omega
   have i3 : decide (r <= 57343) = true := by have := h'.out; simp; omega
   go_enter Tryz.func145, Tryz.ntmps145
   go_wp2
   go_ret;exact ⟨rfl, rfl⟩
theorem refEncode_any (r : Int) (hr0 : -2147483648 <= r) (hr1 : r <= 2147483647) (w : World) :
  Calls Tryz.prog 145 #[.int .i32 r] w fun e w' => ∃ A c, e = .returned (.slice A (encB r).length c) /\ OwB w' w.heap.size 5 (.slice A (encB r).length c) (encB r) /\ Below w.heap.size w w' := by
 cases hr : isRune r
 ·refine (refEncode_none r hr0 hr1 hr w).mono ?_;rintro e w' ⟨rfl, rfl⟩;rw [encB_none hr];exact ⟨none, 0, rfl, OwB.nil _ _ _, Below.refl _ _⟩
 ·simp only [isRune, decide_eq_true_eq] at hr;obtain ⟨v, rfl⟩ : ∃ v : Nat, r = v := ⟨r.toNat, by omega⟩;rcases (show v < 128 \/ (128 <= v /\ v < 2048) \/ (2048 <= v /\ v < 65536) \/ 65536 <= v from by omega) with h | h | h | h
  ·exact refEncode_1 v h w
  ·exact refEncode_2 v h.1 h.2 w
  ·exact refEncode_3 v h.1 h.2 (by omega) w
  ·exact refEncode_4 v h (by omega) w
end Go.Proofs.YtdnfnkicmfkkmaaGreatDoor.UtfW
end
