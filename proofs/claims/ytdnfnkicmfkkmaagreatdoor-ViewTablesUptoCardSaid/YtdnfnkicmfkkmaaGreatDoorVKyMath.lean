

set_option linter.unusedVariables false
set_option linter.unusedSimpArgs false
/- Key specifications, plainly: texts cut and put together, rules, what a text's lines are as rules. No program stands here. -/
namespace Go.Proofs.YtdnfnkicmfkkmaaGreatDoor.Ky
abbrev Tx := List UInt8
def split (at_ : UInt8) : Tx -> List Tx
 | [] => [[]]
 | b :: s => if b = at_ then [] :: split at_ s else match split at_ s with
  | [] => [[b]]
  | x :: r => (b :: x) :: r
def join (sep : Tx) : List Tx -> Tx
 | [] => []
 | [x] => x
 | x :: y :: r => x ++ sep ++ join sep (y :: r)
theorem split_cons (c b : UInt8) (s : Tx) : split c (b :: s) = if b = c then [] :: split c s else match split c s with
  | [] => [[b]]
  | x :: r => (b :: x) :: r := rfl
theorem split_ne (c : UInt8) : ∀ s, split c s ≠ []
 | [] => by simp [split]
 | b :: s => by
  unfold split
  split
  ·simp
  ·split <;> simp
theorem split_none {c : UInt8} : ∀ {s : Tx}, c ∉ s -> split c s = [s]
 | [], _ => rfl
 | b :: s, h => by
  rw [List.mem_cons, not_or] at h;unfold split;rw [if_neg (fun e => h.1 e.symm), split_none h.2]
theorem split_cut {c : UInt8} : ∀ {x : Tx}, c ∉ x -> ∀ s, split c (x ++ c :: s) = x :: split c s
 | [], _, s => by
  show split c (c :: s) = _
  rw [split_cons c c s, if_pos rfl]
 | b :: x, h, s => by
  rw [List.mem_cons, not_or] at h;rw [List.cons_append, split_cons c b, if_neg (fun e => h.1 e.symm), split_cut h.2 s]
def blank (b : UInt8) : Bool := b == 9 || b == 10 || b == 13 || b == 32
def trimL (s : Tx) : Tx := s.dropWhile blank
def trim (s : Tx) : Tx := (trimL (trimL s).reverse).reverse
abbrev Rl := List Tx × List Tx
section
variable (nm : Tx -> Bool)
def strip : Tx -> Tx
 | 64 :: r => r
 | x => x
def keyB (s : Tx) : Bool := decide (s = [46]) || ((split 47 s).dropLast.all nm && nm (strip ((split 47 s).getLast?.getD [])))
def onceB : List Tx -> Bool
 | [] => true
 | x :: r => !(r.contains x) && onceB r
def ruleB (r : Rl) : Bool := decide (0 < r.1.length /\ (1 < r.1.length \/ r.2.length = 0)) && (r.1.all nm && (r.2.all (keyB nm) && onceB r.2))
def hasB (l : List Rl) (path : List Tx) : Bool := l.any fun r => decide (r.1 = path)
def placedB (l : List Rl) (r : Rl) : Bool := !hasB l r.1 && (if r.1.length = 1 then decide (l.length = 0) else hasB l r.1.dropLast)
def mayP (acc : List Rl) : List Rl -> Bool
 | [] => true
 | r :: l => ruleB nm r && placedB acc r && mayP (acc ++ [r]) l
def mayB (l : List Rl) : Bool := decide (1 <= l.length /\ l.length <= 64) && mayP nm [] l
def frontB (l : List Rl) (path : List Tx) : Bool := hasB l path && !(l.any fun r => decide (path.length < r.1.length /\ r.1.take path.length = path))
/-! ### What is read may be -/
theorem mayP_append {acc : List Rl} : ∀ {a b : List Rl}, mayP nm acc (a ++ b) = (mayP nm acc a && mayP nm (acc ++ a) b) := by
 intro a
 induction a generalizing acc with
 | nil => intro b; simp [mayP]
 | cons r a ih =>
  intro b;rw [List.cons_append, mayP, mayP, ih, List.append_assoc];simp only [Bool.and_assoc, List.singleton_append]
end
end Go.Proofs.YtdnfnkicmfkkmaaGreatDoor.Ky
