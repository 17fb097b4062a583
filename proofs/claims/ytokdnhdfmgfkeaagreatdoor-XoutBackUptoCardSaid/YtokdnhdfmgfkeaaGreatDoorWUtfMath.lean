/- Runes and their bytes: the document's way and the decoder's. No program stands here. -/
import Derived.Lib.Hide
import Derived.Lib.DecodeN
import Derived.Lib.TrimU
set_option linter.unusedVariables false
set_option linter.unusedSimpArgs false
section
namespace Go.Proofs.YtokdnhdfmgfkeaaGreatDoor
theorem Hd {p : Prop} (h : p) : RowKit.Hid p := h
theorem Al_1 {α : Type _} (l : List α) (i : Nat) (a : α) : l.toArray.setIfInBounds i a = (l.set i a).toArray := List.setIfInBounds_toArray l i a
theorem Al_2 {α : Type _} (a b : α) (l : List α) : (a :: l).set 0 b = b :: l := List.set_cons_zero
theorem Al_3 {α : Type _} (a b : α) (l : List α) (n : Nat) : (a :: l).set (n + 1) b = a :: l.set n b := List.set_cons_succ
theorem Al_4 {α : Type _} (a : α) (l : List α) : (a :: l)[0]? = some a := List.getElem?_cons_zero
theorem Al_5 {α : Type _} (a : α) (l : List α) (n : Nat) : (a :: l)[n + 1]? = l[n]? := List.getElem?_cons_succ
theorem Al_6 {α : Type _} (a : α) (l : List α) (n : Nat) : (a :: l).drop (n + 1) = l.drop n := List.drop_succ_cons
theorem Al_7 {α : Type _} (l : List α) : l.drop 0 = l := List.drop_zero
end Go.Proofs.YtokdnhdfmgfkeaaGreatDoor
end

section
namespace Go.Proofs.YtokdnhdfmgfkeaaGreatDoor.Utf
def Char (r : Int) : Bool := decide (r = 9 \/ r = 10 \/ r = 13 \/ (32 <= r /\ r <= 0xd7ff) \/ (0xe000 <= r /\ r <= 0xfffd) \/ (0x10000 <= r /\ r <= 0x10ffff))
def enc (v : Nat) : List Nat :=
 if 0x10ffff < v \/ (0xd800 <= v /\ v <= 0xdfff) then []
 else if v < 0x80 then [v]
 else if v < 0x800 then [0xc0 + v / 64, 0x80 + v % 64]
 else if v < 0x10000 then [0xe0 + v / 4096, 0x80 + v / 64 % 64, 0x80 + v % 64]
 else [0xf0 + v / 262144, 0x80 + v / 4096 % 64, 0x80 + v / 64 % 64, 0x80 + v % 64]
def val (n b0 b1 b2 b3 : Nat) : Nat :=
 if n = 1 then b0 else if n = 2 then b0 % 32 * 64 + b1 % 64 else if n = 3 then (b0 % 16 * 64 + b1 % 64) * 64 + b2 % 64 else ((b0 % 8 * 64 + b1 % 64) * 64 + b2 % 64) * 64 + b3 % 64
def ownB (n b0 b1 b2 b3 : Nat) : Bool := decide (enc (val n b0 b1 b2 b3) = [b0, b1, b2, b3].take n) && Char (val n b0 b1 b2 b3 : Nat)
def ref (m b0 b1 b2 b3 : Nat) : Nat × Nat :=
 if 1 <= m /\ ownB 1 b0 b1 b2 b3 then (val 1 b0 b1 b2 b3, 1)
 else if 2 <= m /\ ownB 2 b0 b1 b2 b3 then (val 2 b0 b1 b2 b3, 2)
 else if 3 <= m /\ ownB 3 b0 b1 b2 b3 then (val 3 b0 b1 b2 b3, 3)
 else if 4 <= m /\ ownB 4 b0 b1 b2 b3 then (val 4 b0 b1 b2 b3, 4)
 else (0, 0)
def nxt (m b0 b1 b2 b3 : Nat) : Nat × Nat :=
 let d := Lib.decodeN m b0 b1 b2 b3
 if (d.1 = 65533 /\ d.2 < 2) \/ Char d.1 = false then (0, 0) else d
theorem enc1 (v b0 : Nat) : enc v = [b0] ↔ v < 0x80 /\ b0 = v := by
 unfold enc
 repeat' split
 all_goals simp only [List.cons.injEq, reduceCtorEq, and_true, and_false, false_iff, List.nil_eq, not_and]
 all_goals omega
theorem enc2 (v b0 b1 : Nat) : enc v = [b0, b1] ↔ 0x80 <= v /\ v < 0x800 /\ b0 = 0xc0 + v / 64 /\ b1 = 0x80 + v % 64 := by
 unfold enc
 repeat' split
 all_goals simp only [List.cons.injEq, reduceCtorEq, and_true, and_false, false_iff, List.nil_eq, not_and]
 all_goals omega
theorem enc3 (v b0 b1 b2 : Nat) : enc v = [b0, b1, b2] ↔ 0x800 <= v /\ v < 0x10000 /\ ¬ (0xd800 <= v /\ v <= 0xdfff) /\ b0 = 0xe0 + v / 4096 /\ b1 = 0x80 + v / 64 % 64 /\ b2 = 0x80 + v % 64 := by
 unfold enc
 repeat' split
 all_goals simp only [List.cons.injEq, reduceCtorEq, and_true, and_false, false_iff, List.nil_eq, not_and]
 all_goals omega
theorem enc4 (v b0 b1 b2 b3 : Nat) : enc v = [b0, b1, b2, b3] ↔ 0x10000 <= v /\ v <= 0x10ffff /\ b0 = 0xf0 + v / 262144 /\ b1 = 0x80 + v / 4096 % 64 /\ b2 = 0x80 + v / 64 % 64 /\ b3 = 0x80 + v % 64 := by
 unfold enc
 repeat' split
 all_goals simp only [List.cons.injEq, reduceCtorEq, and_true, and_false, false_iff, List.nil_eq, not_and]
 all_goals omega
theorem own1 (b0 b1 b2 b3 : Nat) : ownB 1 b0 b1 b2 b3 = true ↔ b0 < 128 /\ Char (b0 : Nat) = true := by
 have h := enc1 b0 b0;have e : val 1 b0 b1 b2 b3 = b0 := rfl;simp only [ownB, e, Bool.and_eq_true, decide_eq_true_eq, List.take_succ_cons, List.take_zero, h];simp
theorem own2 (b0 b1 b2 b3 : Nat) : ownB 2 b0 b1 b2 b3 = true ↔ (b0 / 32 = 6 /\ b1 / 64 = 2 /\ 128 <= b0 % 32 * 64 + b1 % 64) /\ Char ((b0 % 32 * 64 + b1 % 64 : Nat) : Int) = true := by
 have h := enc2 (b0 % 32 * 64 + b1 % 64) b0 b1;have e : val 2 b0 b1 b2 b3 = b0 % 32 * 64 + b1 % 64 := rfl;simp only [ownB, e, Bool.and_eq_true, decide_eq_true_eq, List.take_succ_cons, List.take_zero, h];refine and_congr_left fun _ => ?_
 omega
theorem own3 (b0 b1 b2 b3 : Nat) : ownB 3 b0 b1 b2 b3 = true ↔ (b0 / 16 = 14 /\ b1 / 64 = 2 /\ b2 / 64 = 2 /\ 2048 <= b0 % 16 * 4096 + b1 % 64 * 64 + b2 % 64 /\ ¬ (0xd800 <= b0 % 16 * 4096 + b1 % 64 * 64 + b2 % 64 /\ b0 % 16 * 4096 + b1 % 64 * 64 + b2 % 64 <= 0xdfff)) /\ Char ((b0 % 16 * 4096 + b1 % 64 * 64 + b2 % 64 : Nat) : Int) = true := by
 have e : val 3 b0 b1 b2 b3 = b0 % 16 * 4096 + b1 % 64 * 64 + b2 % 64 := by
  show (b0 % 16 * 64 + b1 % 64) * 64 + b2 % 64 = _
  omega
 have h := enc3 (b0 % 16 * 4096 + b1 % 64 * 64 + b2 % 64) b0 b1 b2;simp only [ownB, e, Bool.and_eq_true, decide_eq_true_eq, List.take_succ_cons, List.take_zero, h];refine and_congr_left fun _ => ?_
 omega
theorem own4 (b0 b1 b2 b3 : Nat) : ownB 4 b0 b1 b2 b3 = true ↔ (b0 / 8 = 30 /\ b1 / 64 = 2 /\ b2 / 64 = 2 /\ b3 / 64 = 2 /\ 65536 <= b0 % 8 * 262144 + b1 % 64 * 4096 + b2 % 64 * 64 + b3 % 64 /\ b0 % 8 * 262144 + b1 % 64 * 4096 + b2 % 64 * 64 + b3 % 64 <= 0x10ffff) /\ Char ((b0 % 8 * 262144 + b1 % 64 * 4096 + b2 % 64 * 64 + b3 % 64 : Nat) : Int) = true := by
 have e : val 4 b0 b1 b2 b3 = b0 % 8 * 262144 + b1 % 64 * 4096 + b2 % 64 * 64 + b3 % 64 := by
  show ((b0 % 8 * 64 + b1 % 64) * 64 + b2 % 64) * 64 + b3 % 64 = _
  omega
 have h := enc4 (b0 % 8 * 262144 + b1 % 64 * 4096 + b2 % 64 * 64 + b3 % 64) b0 b1 b2 b3;simp only [ownB, e, Bool.and_eq_true, decide_eq_true_eq, List.take_succ_cons, List.take_zero, h];refine and_congr_left fun _ => ?_
 omega
set_option maxHeartbeats 1000000 in
set_option maxRecDepth 100000 in
theorem ref_nxt (m b0 b1 b2 b3 : Nat) (hm : 1 <= m) : ref m b0 b1 b2 b3 = nxt m b0 b1 b2 b3 := by
 have e1 : val 1 b0 b1 b2 b3 = b0 := rfl;have e2 : val 2 b0 b1 b2 b3 = b0 % 32 * 64 + b1 % 64 := rfl
 have e3 : val 3 b0 b1 b2 b3 = b0 % 16 * 4096 + b1 % 64 * 64 + b2 % 64 := by
  show (b0 % 16 * 64 + b1 % 64) * 64 + b2 % 64 = _
  omega
 have e4 : val 4 b0 b1 b2 b3 = b0 % 8 * 262144 + b1 % 64 * 4096 + b2 % 64 * 64 + b3 % 64 := by
  show ((b0 % 8 * 64 + b1 % 64) * 64 + b2 % 64) * 64 + b3 % 64 = _
  omega
 unfold ref nxt;simp only [own1, own2, own3, own4, e1, e2, e3, e4];unfold Lib.decodeN;obtain ⟨v2, hv2⟩ : ∃ v, b0 % 32 * 64 + b1 % 64 = v := ⟨_, rfl⟩;obtain ⟨v3, hv3⟩ : ∃ v, b0 % 16 * 4096 + b1 % 64 * 64 + b2 % 64 = v := ⟨_, rfl⟩;obtain ⟨v4, hv4⟩ : ∃ v, b0 % 8 * 262144 + b1 % 64 * 4096 + b2 % 64 * 64 + b3 % 64 = v := ⟨_, rfl⟩;rw [hv4, hv3, hv2]
 by_cases h1 : b0 < 128
 ·have n2 : ¬ b0 / 32 = 6 := by omega
  have n3 : ¬ b0 / 16 = 14 := by omega
  have n4 : ¬ b0 / 8 = 30 := by omega
  have n5 : ¬ b0 = 65533 := by omega
  cases hc : Char (b0 : Int) <;> simp [h1, n2, n3, n4, n5, hm, hc]
 ·by_cases h2 : b0 / 32 = 6
  ·have n3 : ¬ b0 / 16 = 14 := by omega
   have n4 : ¬ b0 / 8 = 30 := by omega
   have n5 : ¬ v2 = 65533 := by omega
   by_cases q1 : 1 < m /\ b1 / 64 = 2
   ·by_cases q2 : 128 <= v2
    ·cases hc : Char (v2 : Int) <;> simp [h1, h2, n3, n4, n5, q1, q2, hc] <;> omega
    ·simp [h1, h2, n3, n4, q1, q2]
   ·by_cases q1' : 2 <= m
    ·have q3 : ¬ b1 / 64 = 2 := fun h => q1 ⟨by omega, h⟩
     simp [h1, h2, n3, n4, q3]
    ·have q3 : ¬ 1 < m := (by omega);simp [h1, h2, n3, n4, q1', q3]
  ·by_cases h3 : b0 / 16 = 14
   ·have n4 : ¬ b0 / 8 = 30 := by omega
    by_cases q1 : 2 < m /\ b1 / 64 = 2 /\ b2 / 64 = 2
    ·have m1 : 1 < m := (by omega);have m2 : 3 <= m := by omega
     by_cases q2 : 2048 <= v3 /\ ¬ (0xd800 <= v3 /\ v3 <= 0xdfff)
     ·have q3 : v3 ≥ 2048 /\ (v3 < 55296 \/ 57344 <= v3 /\ v3 <= 1114111) := by omega
      cases hc : Char (v3 : Int) <;> simp [h1, h2, h3, n4, q1, m1, m2, q2, q3, hc]
     ·have q3 : ¬ (v3 ≥ 2048 /\ (v3 < 55296 \/ 57344 <= v3 /\ v3 <= 1114111)) := (by omega);have q4 : ¬ (2048 <= v3 /\ (55296 <= v3 -> 57343 < v3)) := (by omega);simp [h1, h2, h3, n4, q1, m1, m2, q3];omega
    ·by_cases a : 2 < m
     ·have a1 : 1 < m := (by omega);have a2 : 3 <= m := by omega
      by_cases b : b1 / 64 = 2
      ·have c : ¬ b2 / 64 = 2 := fun h => q1 ⟨a, b, h⟩
       simp [h1, h2, h3, n4, a, a1, a2, b, c]
      ·simp [h1, h2, h3, n4, b]
     ·have a2 : ¬ 3 <= m := (by omega);simp [h1, h2, h3, n4, a, a2]
   ·by_cases h4 : b0 / 8 = 30
    ·by_cases q1 : 3 < m /\ b1 / 64 = 2 /\ b2 / 64 = 2 /\ b3 / 64 = 2
     ·have m1 : 1 < m := (by omega);have m2 : 2 < m := (by omega);have m3 : 4 <= m := by omega
      by_cases q2 : 65536 <= v4 /\ v4 <= 1114111
      ·have q3 : v4 ≥ 65536 /\ (v4 < 55296 \/ 57344 <= v4 /\ v4 <= 1114111) := (by omega);have n5 : ¬ v4 = 65533 := (by omega);have q6 : v4 < 55296 \/ 57344 <= v4 := by omega
       cases hc : Char (v4 : Int) <;> simp [h1, h2, h3, h4, q1, m1, m2, m3, q2, q6, n5, hc]
      ·have q3 : ¬ (v4 ≥ 65536 /\ (v4 < 55296 \/ 57344 <= v4 /\ v4 <= 1114111)) := (by omega);simp [h1, h2, h3, h4, q1, m1, m2, m3, q3];omega
     ·by_cases a : 3 < m
      ·have a1 : 1 < m := (by omega);have a2 : 2 < m := (by omega);have a3 : 4 <= m := by omega
       by_cases b : b1 / 64 = 2
       ·by_cases c : b2 / 64 = 2
        ·have d : ¬ b3 / 64 = 2 := fun h => q1 ⟨a, b, c, h⟩
         simp [h1, h2, h3, h4, a, a1, a2, a3, b, c, d]
        ·simp [h1, h2, h3, h4, c]
       ·simp [h1, h2, h3, h4, b]
      ·have a2 : ¬ 4 <= m := (by omega);simp [h1, h2, h3, h4, a, a2]
    ·simp [h1, h2, h3, h4]
end Go.Proofs.YtokdnhdfmgfkeaaGreatDoor.Utf
end
