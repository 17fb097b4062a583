

/- Key specifications, plainly: texts cut and put together, rules, what a text's lines are as rules. No program stands here. -/
namespace Go.Proofs.YtokdnhdfmgfkeaaGreatDoor.Ky

abbrev Tx := List UInt8

/-- A text at each of a byte. -/
def split (at_ : UInt8) : Tx → List Tx
  | [] => [[]]
  | b :: s => if b = at_ then [] :: split at_ s else match split at_ s with
    | [] => [[b]]
    | x :: r => (b :: x) :: r
/-- Texts with another one between. -/
def join (sep : Tx) : List Tx → Tx
  | [] => []
  | [x] => x
  | x :: y :: r => x ++ sep ++ join sep (y :: r)

/-- What stands ahead of a byte, and behind it. -/
def cutAt (c : UInt8) : Tx → Tx × Option Tx
  | [] => ([], none)
  | b :: s => if b = c then ([], some s) else (b :: (cutAt c s).1, (cutAt c s).2)
theorem cut_at {c : UInt8} : ∀ {a : Tx}, c ∉ a → ∀ k, cutAt c (a ++ c :: k) = (a, some k)
  | [], _, k => by
    show cutAt c (c :: k) = _
    unfold cutAt
    rw [if_pos rfl]
  | b :: a, h, k => by
    rw [List.mem_cons, not_or] at h
    rw [List.cons_append]
    unfold cutAt
    rw [if_neg (fun e => h.1 e.symm), cut_at h.2 k]
theorem split_cons (c b : UInt8) (s : Tx) : split c (b :: s) = if b = c then [] :: split c s else match split c s with
    | [] => [[b]]
    | x :: r => (b :: x) :: r := rfl
theorem split_ne (c : UInt8) : ∀ s, split c s ≠ []
  | [] => by simp [split]
  | b :: s => by
    unfold split
    split
    · simp
    · split <;> simp
theorem split_none {c : UInt8} : ∀ {s : Tx}, c ∉ s → split c s = [s]
  | [], _ => rfl
  | b :: s, h => by
    rw [List.mem_cons, not_or] at h
    unfold split
    rw [if_neg (fun e => h.1 e.symm), split_none h.2]
theorem split_cut {c : UInt8} : ∀ {x : Tx}, c ∉ x → ∀ s, split c (x ++ c :: s) = x :: split c s
  | [], _, s => by
    show split c (c :: s) = _
    rw [split_cons c c s, if_pos rfl]
  | b :: x, h, s => by
    rw [List.mem_cons, not_or] at h
    rw [List.cons_append, split_cons c b, if_neg (fun e => h.1 e.symm), split_cut h.2 s]
theorem split_join {c : UInt8} : ∀ {l : List Tx}, l ≠ [] → (∀ x ∈ l, c ∉ x) → split c (join [c] l) = l
  | [], h, _ => absurd rfl h
  | [x], _, h => by
    show split c x = [x]
    exact split_none (h x (List.mem_cons_self ..))
  | x :: y :: r, _, h => by
    show split c (x ++ [c] ++ join [c] (y :: r)) = _
    rw [List.append_assoc, List.singleton_append, split_cut (h x (List.mem_cons_self ..)), split_join (by simp) (fun z hz => h z (List.mem_cons_of_mem _ hz))]

/-- No blank. -/
def blank (b : UInt8) : Bool := b == 9 || b == 10 || b == 13 || b == 32
def trimL (s : Tx) : Tx := s.dropWhile blank
def trim (s : Tx) : Tx := (trimL (trimL s).reverse).reverse

theorem trimL_keep {s : Tx} (h : ∀ b, s.head? = some b → blank b = false) : trimL s = s := by
  cases s with
  | nil => rfl
  | cons b s =>
    unfold trimL
    rw [List.dropWhile_cons_of_neg (by rw [h b rfl]; decide)]
theorem trimL_cut {a : Tx} (h : ∀ b ∈ a, blank b = true) (s : Tx) : trimL (a ++ s) = trimL s := by
  induction a with
  | nil => rfl
  | cons b a ih =>
    rw [List.cons_append]
    unfold trimL
    rw [List.dropWhile_cons_of_pos (h b (List.mem_cons_self ..))]
    exact ih fun x hx => h x (List.mem_cons_of_mem _ hx)
/-- Blanks around a text that has none at its ends. -/
theorem trim_around {a s c : Tx} (ha : ∀ b ∈ a, blank b = true) (hc : ∀ b ∈ c, blank b = true) (h1 : ∀ b, s.head? = some b → blank b = false) (h2 : ∀ b, s.getLast? = some b → blank b = false) : trim (a ++ s ++ c) = s := by
  unfold trim
  rw [List.append_assoc, trimL_cut ha]
  cases hs : s with
  | nil =>
    subst hs
    have : trimL c = [] := by
      have := trimL_cut hc []
      rw [List.append_nil] at this
      exact this
    rw [List.nil_append, this]
    rfl
  | cons x r =>
    rw [← hs]
    have hk : trimL (s ++ c) = s ++ c := trimL_keep fun b hb => by
      rw [hs, List.cons_append, List.head?_cons] at hb
      exact h1 b (by rw [hs, List.head?_cons]; exact hb)
    rw [hk, List.reverse_append, trimL_cut (fun b hb => hc b (List.mem_reverse.1 hb)), trimL_keep (fun b hb => h2 b (by rw [← List.head?_reverse]; exact hb)), List.reverse_reverse]
theorem trim_keep {s : Tx} (h1 : ∀ b, s.head? = some b → blank b = false) (h2 : ∀ b, s.getLast? = some b → blank b = false) : trim s = s := by
  have := trim_around (a := []) (c := []) (s := s) (fun b h => by cases h) (fun b h => by cases h) h1 h2
  simpa using this
theorem trim_blank {s : Tx} (h : ∀ b ∈ s, blank b = true) : trim s = [] := by
  have := trim_around (a := s) (c := []) (s := []) h (fun b h => by cases h) (fun b h => by cases h) (fun b h => by cases h)
  simpa using this

/-- A rule: its path, its keys. -/
abbrev Rl := List Tx × List Tx

section
variable (nm : Tx → Bool)
/-- An attribute's mark is taken off. -/
def strip : Tx → Tx
  | 64 :: r => r
  | x => x
/-- May a key's path be? -/
def keyB (s : Tx) : Bool := decide (s = [46]) || ((split 47 s).dropLast.all nm && nm (strip ((split 47 s).getLast?.getD [])))
/-- No text twice. -/
def onceB : List Tx → Bool
  | [] => true
  | x :: r => !(r.contains x) && onceB r
def ruleB (r : Rl) : Bool := decide (0 < r.1.length ∧ (1 < r.1.length ∨ r.2.length = 0)) && (r.1.all nm && (r.2.all (keyB nm) && onceB r.2))
def hasB (l : List Rl) (path : List Tx) : Bool := l.any fun r => decide (r.1 = path)
/-- May a rule stand behind others? -/
def placedB (l : List Rl) (r : Rl) : Bool := !hasB l r.1 && (if r.1.length = 1 then decide (l.length = 0) else hasB l r.1.dropLast)
/-- Rules one behind the other, others standing ahead. -/
def mayP (acc : List Rl) : List Rl → Bool
  | [] => true
  | r :: l => ruleB nm r && placedB acc r && mayP (acc ++ [r]) l
def mayB (l : List Rl) : Bool := decide (1 ≤ l.length ∧ l.length ≤ 64) && mayP nm [] l
def frontB (l : List Rl) (path : List Tx) : Bool := hasB l path && !(l.any fun r => decide (path.length < r.1.length ∧ r.1.take path.length = path))
/-- A rule's text, without the end of the line. -/
def textL (r : Rl) : Tx := 47 :: join [47] r.1 ++ 32 :: 123 :: join [44, 32] r.2 ++ [125]
def textR (l : List Rl) : Tx := (l.map fun r => textL r ++ [10]).flatten
/-- A rule, if it may be one. -/
def ruleO (r : Rl) : Option Rl := if ruleB nm r = true then some r else none
/-- A line as a rule. -/
def lineR (s : Tx) : Option Rl :=
  match cutAt 123 s with
  | (_, none) => none
  | (a, some k) =>
    if k.getLast? = some 125 then
      match trim a with
      | 47 :: p => ruleO nm (split 47 p, if trim k.dropLast = [] then [] else (split 44 (trim k.dropLast)).map trim)
      | _ => none
    else none
/-- Lines as rules, from the n-th on: the rules, or the code and the line. -/
def parseL : List Tx → Nat → List Rl → List Rl × Int × Nat
  | [], _, out => if out = [] then ([], 20, 0) else (out, 0, 0)
  | s :: l, n, out =>
    if trim s = [] ∨ (trim s).head? = some 35 then parseL l (n + 1) out
    else match lineR nm (trim s) with
      | none => ([], 20, n + 1)
      | some x => if 64 ≤ out.length then ([], 20, n + 1) else if placedB out x = true then parseL l (n + 1) (out ++ [x]) else ([], 21, n + 1)

/-! ### What is read may be -/
theorem mayP_append {acc : List Rl} : ∀ {a b : List Rl}, mayP nm acc (a ++ b) = (mayP nm acc a && mayP nm (acc ++ a) b) := by
  intro a
  induction a generalizing acc with
  | nil => intro b; simp [mayP]
  | cons r a ih =>
    intro b
    rw [List.cons_append, mayP, mayP, ih, List.append_assoc]
    simp only [Bool.and_assoc, List.singleton_append]
theorem ruleO_rule {r x : Rl} (h : ruleO nm r = some x) : ruleB nm x = true := by
  unfold ruleO at h
  split at h
  · rename_i hr
    injection h with h
    rw [← h]
    exact hr
  · cases h
theorem line_rule {s : Tx} {x : Rl} (h : lineR nm s = some x) : ruleB nm x = true := by
  unfold lineR at h
  split at h
  · cases h
  · split at h
    · split at h
      · exact ruleO_rule nm h
      · cases h
    · cases h
theorem parse_may : ∀ {l : List Tx} {n : Nat} {out : List Rl}, mayP nm [] out = true → out.length ≤ 64 → (parseL nm l n out).2.1 = 0 → mayB nm (parseL nm l n out).1 = true
  | [], n, out, h, hl, hc => by
    unfold parseL at hc ⊢
    split at hc
    · cases hc
    · rename_i hne
      rw [if_neg hne]
      unfold mayB
      have : 0 < out.length := List.length_pos_iff.2 hne
      simp only
      rw [h, Bool.and_true, decide_eq_true_eq]
      omega
  | s :: l, n, out, h, hl, hc => by
    unfold parseL at hc ⊢
    split at hc
    · rename_i h1
      rw [if_pos h1]
      exact parse_may h hl hc
    · rename_i h1
      rw [if_neg h1]
      cases hx : lineR nm (trim s) with
      | none => rw [hx] at hc; cases hc
      | some x =>
        rw [hx] at hc
        simp only at hc ⊢
        split at hc
        · cases hc
        · rename_i h64
          rw [if_neg h64]
          split at hc
          · rename_i hp
            rw [if_pos hp]
            refine parse_may ?_ (by rw [List.length_append]; simp; omega) hc
            rw [mayP_append, h, Bool.true_and]
            simp [mayP, line_rule nm hx, hp]
          · cases hc
end
end Go.Proofs.YtokdnhdfmgfkeaaGreatDoor.Ky
