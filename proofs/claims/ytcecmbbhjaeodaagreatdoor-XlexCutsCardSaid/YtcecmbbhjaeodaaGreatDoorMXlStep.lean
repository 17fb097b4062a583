/- Single steps of the plain lexer, at a place of the whole. No program stands here. -/
import Derived.Test.YtcecmbbhjaeodaaGreatDoorMXlLex
namespace Go.Proofs.YtcecmbbhjaeodaaGreatDoor.Xl
open Go.RowKit UtfW

theorem Out.shift_zero {α : Type} (x : Out α) : x.shift 0 = x := by
  cases x <;> simp [Out.shift]
theorem Out.shift_shift {α : Type} (x : Out α) (a b : Nat) : (x.shift a).shift b = x.shift (b + a) := by
  cases x <;> simp [Out.shift, Nat.add_assoc]
theorem drop_at {S : Tx} {k : Nat} {x : UInt8} (h : S[k]? = some x) : S.drop k = x :: S.drop (k + 1) := by
  have hk : k < S.length := (List.getElem?_eq_some_iff.1 h).1
  rw [List.getElem?_eq_getElem hk] at h
  injection h with h
  rw [List.drop_eq_getElem_cons hk, h]
theorem drop_end {S : Tx} {k : Nat} (h : S.length ≤ k) : S.drop k = [] := List.drop_eq_nil_of_le h
section
variable {p S : Tx} {i k : Nat} {x y : UInt8}
theorem eat_done (h : p.length ≤ i) (r : Tx) : eat (p.drop i) r = .ok () 0 := by
  rw [drop_end h, eat]
theorem eat_end (hp : p[i]? = some x) (h : S.length ≤ k) : eat (p.drop i) (S.drop k) = .bad 6 0 := by
  rw [drop_at hp, drop_end h, eat]
theorem eat_on (hp : p[i]? = some x) (hs : S[k]? = some x) : eat (p.drop i) (S.drop k) = (eat (p.drop (i + 1)) (S.drop (k + 1))).shift 1 := by
  rw [drop_at hp, drop_at hs, eat, if_pos rfl]
theorem eat_off (hp : p[i]? = some x) (hs : S[k]? = some y) (hne : y ≠ x) : eat (p.drop i) (S.drop k) = .bad 2 0 := by
  rw [drop_at hp, drop_at hs, eat, if_neg hne]
theorem blanks_on (hs : S[k]? = some x) (hb : Qx.blank x = true) : blanks (S.drop k) = 1 + blanks (S.drop (k + 1)) := by
  unfold blanks
  rw [drop_at hs, List.takeWhile_cons, hb, if_pos rfl, List.length_cons, Nat.add_comm]
theorem blanks_off (hs : S[k]? = some x) (hb : Qx.blank x = false) : blanks (S.drop k) = 0 := by
  unfold blanks
  rw [drop_at hs, List.takeWhile_cons, hb]
  rfl
theorem blanks_end (h : S.length ≤ k) : blanks (S.drop k) = 0 := by
  rw [drop_end h]
  rfl
end
end Go.Proofs.YtcecmbbhjaeodaaGreatDoor.Xl
