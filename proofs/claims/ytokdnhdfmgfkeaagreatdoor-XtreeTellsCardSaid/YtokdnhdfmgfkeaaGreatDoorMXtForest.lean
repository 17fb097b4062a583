/- The builder's tree is the document's forest. No program stands here. -/
import Derived.Test.YtokdnhdfmgfkeaaGreatDoorMXlValues
import Derived.Test.YtokdnhdfmgfkeaaGreatDoorMXnP
section
namespace Go.Proofs.YtokdnhdfmgfkeaaGreatDoor.Xo
open Go.RowKit UtfW Qx Xl Xt

def esc1 (value : Bool) (c : UInt8) : Tx :=
  if c = 38 then [38, 97, 109, 112, 59]
  else if c = 60 then [38, 108, 116, 59]
  else if c = 13 then [38, 35, 49, 51, 59]
  else if c = 62 ∧ value = false then [38, 103, 116, 59]
  else if c = 34 ∧ value = true then [38, 113, 117, 111, 116, 59]
  else if c = 9 ∧ value = true then [38, 35, 57, 59]
  else if c = 10 ∧ value = true then [38, 35, 49, 48, 59]
  else [c]
def esc (value : Bool) : Tx → Tx
  | [] => []
  | c :: s => esc1 value c ++ esc value s
def writeA : List At → Tx
  | [] => []
  | a :: l => (32 :: a.1 ++ [61, 34] ++ esc true a.2 ++ [34]) ++ writeA l
mutual
def writeN : Nd → Tx
  | .mk k nm tx as_ ks =>
    if k = 1 then 60 :: nm ++ writeA as_ ++ (if ks.isEmpty then [47, 62] else [62] ++ writeL ks ++ ([60, 47] ++ nm ++ [62]))
    else if k = 2 then esc false tx
    else if k = 3 then [60, 33, 45, 45] ++ tx ++ [45, 45, 62]
    else if k = 4 then [60, 63] ++ nm ++ (if tx = [] then [] else 32 :: tx) ++ [63, 62]
    else []
def writeL : List Nd → Tx
  | [] => []
  | x :: xs => writeN x ++ writeL xs
end
/-! ### Which may be -/
def good (s : Tx) : Bool := decide (badW s 0 < 0)
def plainT (s : Tx) : Bool := good s && decide (13 ∉ s)
def attrsOk : List Tx → List At → Bool
  | _, [] => true
  | seen, a :: l => nameR a.1 && good a.2 && decide (a.1 ∉ seen) && attrsOk (seen ++ [a.1]) l
def headOk (s : Tx) : Bool := match s with
  | [] => true
  | c :: _ => !Qx.blank c
def xml3 : Tx := [120, 109, 108]
/-! ### What is good is valid -/
theorem V_good {s : Tx} (h : V s) : good s = true := by
  unfold good
  rw [decide_eq_true_eq]
  obtain ⟨rs, hr, rfl⟩ := h
  have h1 := runesW_E (E rs) rs 0 hr (by rw [List.drop_zero])
  have h2 := bad_of_runes (E rs) (E rs).length 0 rs (by omega) h1
  rw [h2]
  decide
end Go.Proofs.YtokdnhdfmgfkeaaGreatDoor.Xo
end

section
namespace Go.Proofs.YtokdnhdfmgfkeaaGreatDoor.Xl
open Go.RowKit UtfW Qx

/-! ### Names -/
/-! ### Values, characters -/
/-! ### Tags -/
/-! ### All tokens -/
/-! ### What is wrong has a code -/
end Go.Proofs.YtokdnhdfmgfkeaaGreatDoor.Xl
end

section
namespace Go.Proofs.YtokdnhdfmgfkeaaGreatDoor.Xo
open Go.RowKit UtfW Qx Xl Xt

/-! ### Names -/
/-! ### Characters -/
theorem esc1_cases (value : Bool) (c : UInt8) :
    (esc1 value c = [c] ∧ c ≠ 38 ∧ c ≠ 60 ∧ c ≠ 13 ∧ (value = false → c ≠ 62) ∧ (value = true → c ≠ 34 ∧ c ≠ 9 ∧ c ≠ 10)) ∨
    ∃ e, esc1 value c = 38 :: e ∧ (∀ y, refR (e ++ y) = .ok [c] (e.length + 1)) ∧ 62 ∉ e ∧ (∀ b ∈ e, b.toNat < 128 ∧ Utf.Char (b.toNat : Nat) = true) ∧ e.length ≤ 5 := by
  have key : ∀ (x : Tx) (v : Nat) (c : UInt8), 59 ∉ x → refV x = some v → encB (v : Nat) = [c] → ∀ y, refR (x ++ [59] ++ y) = .ok [c] ((x ++ [59]).length + 1) := fun x v c h1 h2 h3 y => by
    rw [List.append_assoc, List.singleton_append, refR_of h1 y, h2]
    simp only
    rw [h3, List.length_append]
    rfl
  unfold esc1
  by_cases h1 : c = 38
  · rw [if_pos h1, h1]
    exact .inr ⟨_, rfl, key [97, 109, 112] 38 38 (by decide) (by decide) (encB_byte (c := 38) (by decide)), by decide, by decide, by decide⟩
  rw [if_neg h1]
  by_cases h2 : c = 60
  · rw [if_pos h2, h2]
    exact .inr ⟨_, rfl, key [108, 116] 60 60 (by decide) (by decide) (encB_byte (c := 60) (by decide)), by decide, by decide, by decide⟩
  rw [if_neg h2]
  by_cases h3 : c = 13
  · rw [if_pos h3, h3]
    exact .inr ⟨_, rfl, key [35, 49, 51] 13 13 (by decide) (by decide +kernel) (encB_byte (c := 13) (by decide)), by decide, by decide, by decide⟩
  rw [if_neg h3]
  by_cases h4 : c = 62 ∧ value = false
  · rw [if_pos h4, h4.1]
    exact .inr ⟨_, rfl, key [103, 116] 62 62 (by decide) (by decide) (encB_byte (c := 62) (by decide)), by decide, by decide, by decide⟩
  rw [if_neg h4]
  by_cases h5 : c = 34 ∧ value = true
  · rw [if_pos h5, h5.1]
    exact .inr ⟨_, rfl, key [113, 117, 111, 116] 34 34 (by decide) (by decide) (encB_byte (c := 34) (by decide)), by decide, by decide, by decide⟩
  rw [if_neg h5]
  by_cases h6 : c = 9 ∧ value = true
  · rw [if_pos h6, h6.1]
    exact .inr ⟨_, rfl, key [35, 57] 9 9 (by decide) (by decide +kernel) (encB_byte (c := 9) (by decide)), by decide, by decide, by decide⟩
  rw [if_neg h6]
  by_cases h7 : c = 10 ∧ value = true
  · rw [if_pos h7, h7.1]
    exact .inr ⟨_, rfl, key [35, 49, 48] 10 10 (by decide) (by decide +kernel) (encB_byte (c := 10) (by decide)), by decide, by decide, by decide⟩
  rw [if_neg h7]
  exact .inl ⟨rfl, h1, h2, h3, fun hv e => h4 ⟨e, hv⟩, fun hv => ⟨fun e => h5 ⟨e, hv⟩, fun e => h6 ⟨e, hv⟩, fun e => h7 ⟨e, hv⟩⟩⟩
/-! ### Attributes -/
theorem writeA_len : ∀ l : List At, l.length ≤ (writeA l).length
  | [] => by simp
  | a :: l => by
    have := writeA_len l
    rw [writeA]
    simp
    omega
end Go.Proofs.YtokdnhdfmgfkeaaGreatDoor.Xo
end

section
namespace Go.Proofs.YtokdnhdfmgfkeaaGreatDoor.Xo
open Go.RowKit UtfW Qx Xl Xt

theorem hp2 (a b c : UInt8) (t : Tx) : Lib.hasPrefix (a :: c :: t) [a, b] = (b == c) := by
  simp [Lib.hasPrefix, List.isPrefixOf]
/-! ### Trees as tokens -/
end Go.Proofs.YtokdnhdfmgfkeaaGreatDoor.Xo
end

section
namespace Go.Proofs.YtokdnhdfmgfkeaaGreatDoor.Xo
open Go.RowKit UtfW Qx Xl Xt

/-! ### What is written is valid -/
theorem esc_append (value : Bool) : ∀ a b : Tx, esc value (a ++ b) = esc value a ++ esc value b
  | [], b => rfl
  | c :: a, b => by rw [List.cons_append, esc, esc, esc_append value a b, List.append_assoc]

/-! ### No declaration -/
/-! ### The builder -/
section
variable {B A : List Nd} {R : Nd} {nm : Tx} {as_ : List At} {kk : List Nd} {F : List Fr} {p : Tx} {N : Nat}
def fl (kk : List Nd) (p : Tx) : List Nd := if p = [] then kk else kk ++ [textN p]
end
end Go.Proofs.YtokdnhdfmgfkeaaGreatDoor.Xo
end

section
namespace Go.Proofs.YtokdnhdfmgfkeaaGreatDoor.Xt
open Xl

theorem flush_id {s : St} (h : s.text = []) : flush s = s := by
  unfold flush
  rw [if_pos h]
def St.setN (s : St) (n : Nat) : St := { s with nodes := n }
theorem flush_setN (s : St) (n : Nat) : flush (s.setN n) = (flush s).setN n := by
  unfold flush St.setN
  simp only
  split
  · rfl
  · unfold put
    cases h : s.opn with
    | nil =>
      simp only
      split
      · rfl
      · split <;> rfl
    | cons f F => rfl
theorem flush_nodes' (s : St) (n : Nat) : flush { s with nodes := n } = (flush s).setN n := flush_setN s n
theorem end_of {s : St} {f : Fr} {F : List Fr} (h : (flush s).opn = f :: F) : endT s = put { flush s with opn := F } (.mk 1 f.name [] f.attrs f.kids) := by
  unfold endT
  simp only
  rw [h]
theorem put_setN (s : St) (n : Nd) (m : Nat) : put (s.setN m) n = (put s n).setN m := by
  unfold put St.setN
  cases h : s.opn with
  | nil =>
    simp only
    split
    · rfl
    · split <;> rfl
  | cons f F => rfl
end Go.Proofs.YtokdnhdfmgfkeaaGreatDoor.Xt
end
