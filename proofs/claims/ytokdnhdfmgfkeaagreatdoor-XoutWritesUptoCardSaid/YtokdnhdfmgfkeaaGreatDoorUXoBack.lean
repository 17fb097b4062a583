/- What is written of a document that may be is parsed to it, plainly. No program stands here. -/
import Derived.Test.YtokdnhdfmgfkeaaGreatDoorUXlPlaces
import Derived.Test.YtokdnhdfmgfkeaaGreatDoorUXpLib
set_option linter.unusedVariables false
set_option linter.unusedSimpArgs false
section
namespace Go.Proofs.YtokdnhdfmgfkeaaGreatDoor.Xl
open Go.RowKit UtfW Qx

/-! ### Names -/
/-! ### Values, characters -/
/-! ### Tags -/
/-! ### All tokens -/
/-! ### What is wrong has a code -/
end Go.Proofs.YtokdnhdfmgfkeaaGreatDoor.Xl
end

section
namespace Go.Proofs.YtokdnhdfmgfkeaaGreatDoor.Xl
open Go.RowKit UtfW Qx

/-! ### Plain characters -/
/-! ### Numbers -/
def vl (base : Nat) (t : Tx) (a : Nat) : Nat := t.foldl (fun v c => v * base + digV c) a
end Go.Proofs.YtokdnhdfmgfkeaaGreatDoor.Xl
end

section
namespace Go.Proofs.YtokdnhdfmgfkeaaGreatDoor.Xl
open Go.RowKit UtfW Qx

def bl (c : UInt8) : UInt8 := if c = 9 ∨ c = 10 then 32 else c
theorem blanks_0 {c : UInt8} {t : Tx} (h : Qx.blank c = false) : blanks (c :: t) = 0 := by
  unfold blanks
  rw [List.takeWhile_cons, if_neg (by rw [h]; decide)]
  rfl

end Go.Proofs.YtokdnhdfmgfkeaaGreatDoor.Xl
end

section
namespace Go.Proofs.YtokdnhdfmgfkeaaGreatDoor.Xo
open Go.RowKit UtfW Qx Xl Xt

/-! ### Names -/
theorem name_stop {c : UInt8} (h8 : c.toNat < 128) (hcc : Utf.Char (c.toNat : Nat) = true) (hg0 : GoesOn (c.toNat : Nat) = false) : ∀ (qs : List Nat) (f : Nat) (first : Bool) (x : Tx), qs.length < f → (∀ r ∈ qs, Utf.Char (r : Nat) = true) → (∀ q ∈ qs, GoesOn (q : Nat) = true) → (first = true → ∀ q, qs.head? = some q → Begins (q : Nat) = true) → nameF f first (E qs ++ c :: x) = (E qs).length
  | qs, 0, first, x, h, _, _, _ => absurd h (by omega)
  | [], f + 1, first, x, _, _, _, _ => by
    have := nameF_E f first (v := c.toNat) hcc x
    rw [hg0, encB_byte h8] at this
    show nameF (f + 1) first (c :: x) = 0
    simpa using this
  | q :: qs, f + 1, first, x, h, hc, hg, hb => by
    have h1 := hg q (List.mem_cons_self ..)
    rw [E_cons, List.append_assoc, nameF_E f first (hc q (List.mem_cons_self ..)), name_stop h8 hcc hg0 qs f false x (by simp at h; omega) (fun y hy => hc y (List.mem_cons_of_mem _ hy)) (fun y hy => hg y (List.mem_cons_of_mem _ hy)) (fun h => (by cases h)), List.length_append, if_neg]
    rw [h1]
    cases hf : first
    · simp
    · rw [hb hf q rfl]
      simp
theorem nameR_len {nm : Tx} (h : nameR nm = true) : nm ≠ [] := fun e => by
  rw [e, nameR_nil] at h
  cases h
theorem name_at {nm : Tx} {c : UInt8} (h : nameR nm = true) (h8 : c.toNat < 128) (hcc : Utf.Char (c.toNat : Nat) = true) (hg0 : GoesOn (c.toNat : Nat) = false) (y : Tx) : name (nm ++ c :: y) = .ok nm nm.length := by
  obtain ⟨rs, e, h0, hr, hg, hb⟩ := nameR_runes h
  have hl : nameL (nm ++ c :: y) = nm.length := by
    unfold nameL
    rw [e]
    refine name_stop h8 hcc hg0 rs _ true y ?_ hr hg fun _ => hb
    have := E_ge hr
    rw [List.length_append]
    omega
  have hn := nameR_len h
  have hp : nm.length ≠ 0 := fun e => hn (List.eq_nil_of_length_eq_zero e)
  unfold name
  rw [if_neg (by simp), hl, if_neg hp, List.take_left]
/-! ### Characters -/
/-! ### Attributes -/
end Go.Proofs.YtokdnhdfmgfkeaaGreatDoor.Xo
end

section
namespace Go.Proofs.YtokdnhdfmgfkeaaGreatDoor.Xo
open Go.RowKit UtfW Qx Xl Xt

theorem hp2 (a b c : UInt8) (t : Tx) : Lib.hasPrefix (a :: c :: t) [a, b] = (b == c) := by
  simp [Lib.hasPrefix, List.isPrefixOf]
theorem token_end {nm : Tx} (h : nameR nm = true) (y : Tx) : Xl.token (60 :: 47 :: (nm ++ 62 :: y)) = .ok ⟨3, 0, nm, [], []⟩ (nm.length + 3) := by
  unfold Xl.token
  rw [if_neg (by simp), hp2, hp2, hp2]
  simp only [show ((33 : UInt8) == 47) = false by decide, show ((63 : UInt8) == 47) = false by decide, show ((47 : UInt8) == 47) = true by decide, Bool.false_eq_true, if_false, if_true]
  unfold Xl.endT
  have hb : blanks (62 :: y) = 0 := blanks_0 (by decide)
  have hd : (60 :: 47 :: (nm ++ 62 :: y)).drop (2 + nm.length) = 62 :: y := by
    rw [← List.drop_drop]
    show (nm ++ 62 :: y).drop nm.length = _
    rw [List.drop_left]
  rw [List.drop_succ_cons, List.drop_succ_cons, List.drop_zero, name_at h (by decide) (by decide) (by decide)]
  simp only
  rw [hd, hb, Nat.add_zero, hd, eat, if_pos rfl, eat]
  simp only [Out.shift]
  all_goals (congr 1 <;> omega)
/-! ### Trees as tokens -/
def strip (t : Xl.Tok) : Xl.Tok := { t with at_ := 0 }
theorem run_one {p y : Tx} {t : Xl.Tok} (h : Xl.token (p ++ y) = .ok t p.length) (hp : p ≠ []) (f k : Nat) (ts : List Xl.Tok) : Xl.runF (f + 1) (p ++ y) k ts = Xl.runF f y (k + p.length) (ts ++ [{ t with at_ := k }]) := by
  rw [Xl.runF, if_neg (by simp [hp]), h]
  simp only
  rw [List.drop_left]
def Reads_ (p y : Tx) (us : List Xl.Tok) : Prop := ∃ vs : List Xl.Tok, vs.map strip = us ∧ vs.length ≤ p.length ∧ ∀ (f k : Nat) (ts : List Xl.Tok), ∃ zs : List Xl.Tok, zs.map strip = us ∧ zs.length = vs.length ∧ Xl.runF (f + vs.length) (p ++ y) k ts = Xl.runF f y (k + p.length) (ts ++ zs)
theorem Reads_.nil (y : Tx) : Reads_ [] y [] := ⟨[], rfl, Nat.le_refl _, fun f k ts => ⟨[], rfl, rfl, by simp⟩⟩
theorem Reads_.one {p y : Tx} {t : Xl.Tok} (h : Xl.token (p ++ y) = .ok t p.length) (hp : p ≠ []) : Reads_ p y [strip t] :=
  ⟨[t], rfl, by cases p with | nil => exact absurd rfl hp | cons c p => simp, fun f k ts => ⟨[{ t with at_ := k }], rfl, rfl, run_one h hp f k ts⟩⟩
theorem Reads_.append {p q y : Tx} {us ws : List Xl.Tok} (h1 : Reads_ p (q ++ y) us) (h2 : Reads_ q y ws) : Reads_ (p ++ q) y (us ++ ws) := by
  obtain ⟨vs, e1, l1, g1⟩ := h1
  obtain ⟨xs, e2, l2, g2⟩ := h2
  refine ⟨vs ++ xs, by rw [List.map_append, e1, e2], by simp; omega, fun f k ts => ?_⟩
  obtain ⟨zs, a1, a2, a3⟩ := g1 (f + xs.length) k ts
  obtain ⟨zs', b1, b2, b3⟩ := g2 f (k + p.length) (ts ++ zs)
  refine ⟨zs ++ zs', by rw [List.map_append, a1, b1], by simp [a2, b2], ?_⟩
  rw [List.length_append, List.length_append, List.append_assoc, show f + (vs.length + xs.length) = f + xs.length + vs.length by omega, a3, b3, List.append_assoc, Nat.add_assoc]
end Go.Proofs.YtokdnhdfmgfkeaaGreatDoor.Xo
end

section
namespace Go.Proofs.YtokdnhdfmgfkeaaGreatDoor.Xo
open Go.RowKit UtfW Qx Xl Xt

/-! ### What is written is valid -/
theorem esc_append (value : Bool) : ∀ a b : Tx, esc value (a ++ b) = esc value a ++ esc value b
  | [], b => rfl
  | c :: a, b => by rw [List.cons_append, esc, esc, esc_append value a b, List.append_assoc]

/-! ### No declaration -/
/-! ### The builder -/
section
variable {B A : List Nd} {R : Nd} {nm : Tx} {as_ : List At} {kk : List Nd} {F : List Fr} {p : Tx} {N : Nat}
def fl (kk : List Nd) (p : Tx) : List Nd := if p = [] then kk else kk ++ [textN p]
end
end Go.Proofs.YtokdnhdfmgfkeaaGreatDoor.Xo
end
