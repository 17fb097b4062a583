/- What the document's functions hold in their loops. No program stands here. -/
import Derived.Test.YtjofkodncplhaaaGreatDoorMKyPcs
namespace Go.Proofs.YtjofkodncplhaaaGreatDoor.Ky

theorem split_snoc {c b : UInt8} : ∀ {p : Tx} {l : List Tx} {x : Tx}, split c p = l ++ [x] → split c (p ++ [b]) = if b = c then l ++ [x] ++ [[]] else l ++ [x ++ [b]]
  | [], l, x, h => by
    have h0 : [[]] = l ++ [x] := h
    cases l with
    | nil =>
      simp at h0
      subst h0
      show split c [b] = _
      rw [split_cons]
      split <;> rfl
    | cons y l => simp at h0
  | a :: p, l, x, h => by
    rw [List.cons_append, split_cons]
    rw [split_cons] at h
    by_cases ha : a = c
    · rw [if_pos ha] at h ⊢
      cases l with
      | nil =>
        simp at h
        exact absurd h.2 (split_ne c p)
      | cons y l =>
        rw [List.cons_append] at h
        injection h with h1 h2
        rw [split_snoc h2, ← h1]
        split <;> rfl
    · rw [if_neg ha] at h ⊢
      cases hp : split c p with
      | nil => exact absurd hp (split_ne c p)
      | cons y r =>
        rw [hp] at h
        simp only at h
        cases l with
        | nil =>
          rw [List.nil_append] at h
          injection h with h1 h2
          subst h2
          have := split_snoc (b := b) (l := []) (x := y) (by rw [hp]; rfl)
          rw [this, ← h1]
          by_cases hb : b = c
          · rw [if_pos hb, if_pos hb]; rfl
          · rw [if_neg hb, if_neg hb]; rfl
        | cons z l =>
          rw [List.cons_append] at h
          injection h with h1 h2
          have := split_snoc (b := b) (l := y :: l) (x := x) (by rw [hp, h2]; rfl)
          rw [this, ← h1]
          by_cases hb : b = c
          · rw [if_pos hb, if_pos hb]; rfl
          · rw [if_neg hb, if_neg hb]; rfl
theorem join_snoc (sep : Tx) : ∀ (l : List Tx) (x : Tx), join sep (l ++ [x]) = if l.length = 0 then x else join sep l ++ sep ++ x
  | [], x => rfl
  | [y], x => rfl
  | y :: z :: l, x => by
    have := join_snoc sep (z :: l) x
    rw [if_neg (by simp)] at this
    rw [if_neg (by simp)]
    show y ++ sep ++ join sep (z :: l ++ [x]) = y ++ sep ++ join sep (z :: l) ++ sep ++ x
    rw [this]
    simp only [List.append_assoc]
theorem join_take (sep : Tx) {l : List Tx} {k : Nat} {x : Tx} (h : l[k]? = some x) : join sep (l.take (k + 1)) = if k = 0 then x else join sep (l.take k) ++ sep ++ x := by
  have hk := (List.getElem?_eq_some_iff.1 h).1
  have e : l.take (k + 1) = l.take k ++ [x] := by rw [List.take_add_one, h]; rfl
  rw [e, join_snoc, List.length_take, Nat.min_eq_left (by omega)]

theorem take_one {α : Type} {l : List α} {k : Nat} {x : α} (h : l[k]? = some x) : l.take (k + 1) = l.take k ++ [x] := by
  rw [List.take_add_one, h]
  rfl
theorem all_take {α : Type} (p : α → Bool) {l : List α} {k : Nat} {x : α} (h : l[k]? = some x) : (l.take (k + 1)).all p = ((l.take k).all p && p x) := by
  rw [take_one h, List.all_append]
  simp
/-- A text at each of its bytes, from a place on. -/
theorem take_drop_one {s : Tx} {f i : Nat} {b : UInt8} (hf : f ≤ i) (h : s[i]? = some b) : (s.take (i + 1)).drop f = (s.take i).drop f ++ [b] := by
  have hk := (List.getElem?_eq_some_iff.1 h).1
  rw [take_one h, List.drop_append_of_le_length (by rw [List.length_take]; omega)]
theorem take_drop_end {s : Tx} {i : Nat} : (s.take i).drop i = [] := List.drop_eq_nil_of_le (by rw [List.length_take]; omega)
/-- A key's parts, the last one without its mark. -/
def partsK (s : Tx) : List Tx := (split 47 s).set ((split 47 s).length - 1) (strip ((split 47 s).getLast?.getD []))
theorem parts_at {s x : Tx} {k : Nat} (h : (split 47 s)[k]? = some x) : (partsK s)[k]? = some (if k + 1 = (split 47 s).length then strip x else x) := by
  have hk := (List.getElem?_eq_some_iff.1 h).1
  unfold partsK
  rw [List.getElem?_set]
  by_cases e : k + 1 = (split 47 s).length
  · rw [if_pos (by omega), if_pos (by omega), if_pos e]
    have : (split 47 s).getLast? = some x := by rw [List.getLast?_eq_getElem?, show (split 47 s).length - 1 = k by omega, h]
    rw [this]
    rfl
  · rw [if_neg (by omega), if_neg e, h]
theorem parts_len (s : Tx) : (partsK s).length = (split 47 s).length := by unfold partsK; rw [List.length_set]
theorem eq_take {α : Type} {a b : List α} {k : Nat} {x y : α} (ha : a[k]? = some x) (hb : b[k]? = some y) (h : a.take k = b.take k) : (a.take (k + 1) = b.take (k + 1)) ↔ x = y := by
  rw [take_one ha, take_one hb, h]
  constructor
  · intro e
    have := List.append_cancel_left e
    injection this
  · rintro rfl
    rfl
theorem ne_of_at {α : Type} {a b : List α} {k : Nat} {x y : α} (ha : a[k]? = some x) (hb : b[k]? = some y) (h : x ≠ y) : a ≠ b := by
  rintro rfl
  rw [ha] at hb
  injection hb with hb
  exact h hb

/-- The number of the first rule of a path. -/
def idxR (l : List Rl) (p : List Tx) : Int := match l.findIdx? (fun r => decide (r.1 = p)) with
  | some i => (i : Nat)
  | none => -1
theorem idx_here {l : List Rl} {p : List Tx} {k : Nat} {r : Rl} (h : l[k]? = some r) (hp : r.1 = p) (hno : hasB (l.take k) p = false) : idxR l p = (k : Nat) := by
  have hk := (List.getElem?_eq_some_iff.1 h).1
  unfold idxR
  have : l.findIdx? (fun r => decide (r.1 = p)) = some k := by
    rw [List.findIdx?_eq_some_iff_getElem]
    refine ⟨hk, by rw [(List.getElem?_eq_some_iff.1 h).2]; simpa using hp, fun j hj => ?_⟩
    have hn : ¬ ∃ r ∈ l.take k, r.1 = p := fun e => by rw [has_iff.2 e] at hno; cases hno
    intro e
    exact hn ⟨l[j], List.mem_take_iff_getElem.2 ⟨j, by omega, rfl⟩, by simpa using e⟩
  rw [this]
theorem idx_none' {l : List Rl} {p : List Tx} (h : hasB l p = false) : idxR l p = -1 := by
  unfold idxR
  have : l.findIdx? (fun r => decide (r.1 = p)) = none := by
    rw [List.findIdx?_eq_none_iff]
    intro r hr
    rw [decide_eq_false_iff_not]
    intro e
    rw [has_iff.2 ⟨r, hr, e⟩] at h
    cases h
  rw [this]
theorem idx_ge {l : List Rl} {p : List Tx} : decide (idxR l p ≥ 0) = hasB l p := by
  cases h : hasB l p with
  | false => rw [idx_none' h]; rfl
  | true =>
    obtain ⟨r, hr, he⟩ := has_iff.1 h
    unfold idxR
    cases hi : l.findIdx? (fun r => decide (r.1 = p)) with
    | none =>
      rw [List.findIdx?_eq_none_iff] at hi
      have := hi r hr
      rw [decide_eq_false_iff_not] at this
      exact absurd he this
    | some i =>
      simp only
      rw [decide_eq_true_eq]
      omega
theorem has_snoc (l : List Rl) (r : Rl) (p : List Tx) : hasB (l ++ [r]) p = (hasB l p || decide (r.1 = p)) := by simp [hasB]
/-- Is a path above a rule's? -/
def overB (l : List Rl) (p : List Tx) : Bool := l.any fun r => decide (p.length < r.1.length ∧ r.1.take p.length = p)
theorem over_snoc (l : List Rl) (r : Rl) (p : List Tx) : overB (l ++ [r]) p = (overB l p || decide (p.length < r.1.length ∧ r.1.take p.length = p)) := by simp [overB]
theorem front_over (l : List Rl) (p : List Tx) : frontB l p = (hasB l p && !overB l p) := rfl
theorem text_snoc (l : List Rl) (r : Rl) : textR (l ++ [r]) = textR l ++ (textL r ++ [10]) := by simp [textR]
theorem wts_take {l : List Rl} {k : Nat} {r : Rl} (h : l[k]? = some r) : wts (l.take (k + 1)) = wts (l.take k) + wt r := by
  rw [take_one h, wts_append]
  simp [wts]
theorem lens_take {l : List Tx} {k : Nat} {x : Tx} (h : l[k]? = some x) : lens (l.take (k + 1)) = lens (l.take k) + x.length := by
  rw [take_one h, lens_append]
  simp [lens]
end Go.Proofs.YtjofkodncplhaaaGreatDoor.Ky
