/- A map of names to blocks, as a list by names. No program stands here. -/
import Derived.Maps.OwnSet
import Derived.Sort.KeysCollected
section
namespace Go.Proofs.YtfdpnjebhllpkaaGreatDoor.Dk
open Go

structure Fl where
  data : List UInt8
  safe : Nat

abbrev Name := List UInt8
/-- Things by names, the names rising. -/
abbrev Al (α : Type) := List (Name × α)
abbrev Fs := Al Fl
abbrev Tr := Int × Int × Int

structure D where
  room : Nat
  fs : Fs
  tr : List Tr
  ops : Nat
  down : Bool

section
variable {α β : Type}
def get (l : Al α) (nm : Name) : Option α := (l.find? fun p => p.1 == nm).map (·.2)
def ins (nm : Name) (f : α) : Al α → Al α
  | [] => [(nm, f)]
  | p :: r => if bytesBefore nm p.1 then (nm, f) :: p :: r else p :: ins nm f r
def del (nm : Name) (l : Al α) : Al α := l.filter fun p => !(p.1 == nm)
def upd (nm : Name) (g : α → α) (l : Al α) : Al α := l.map fun p => if p.1 = nm then (p.1, g p.2) else p
/-- Names rise. -/
def Up (l : Al α) : Prop := l.Pairwise fun p q => bytesBefore p.1 q.1 = true
end

def letter (c : UInt8) : Bool := decide (97 ≤ c.toNat ∧ c.toNat ≤ 122) || decide (48 ≤ c.toNat ∧ c.toNat ≤ 57) || c == 46 || c == 45
def may (nm : Name) : Bool := !nm.isEmpty && decide (nm.length ≤ 40) && nm.all letter
def used (fs : Fs) : Nat := (fs.map fun p => p.2.data.length).sum

/-- What befalls the operation of this number. -/
def hits (at_ : Nat) (t : Tr) : Bool := t.1 == (at_ : Int) && (decide (1 ≤ t.2.1) && decide (t.2.1 ≤ 3))
def trouble (tr : List Tr) (at_ : Nat) : Option (Int × Int) := (tr.find? (hits at_)).map (·.2)

/-- An operation's own refusal: 1 Create, 2 Append, 3 Cut, 4 Sync, 5 Rename, 6 Delete. -/
def refuse (d : D) (k : Nat) (nm to : Name) (n : Int) (b : List UInt8) : Int :=
  if k = 1 then (if may nm = false then 44 else if (get d.fs nm).isSome then 43 else if 64 ≤ d.fs.length then 40 else 0)
  else match get d.fs nm with
  | none => 42
  | some f =>
    if k = 2 then (if (d.room : Int) - used d.fs < b.length then 40 else 0)
    else if k = 3 then (if n < 0 ∨ (f.data.length : Int) < n then 80 else 0)
    else if k = 5 then (if may to = false then 44 else 0)
    else 0

def act (fs : Fs) (k : Nat) (nm to : Name) (n : Int) (b : List UInt8) : Fs :=
  if k = 1 then ins nm ⟨[], 0⟩ fs
  else if k = 2 then upd nm (fun f => ⟨f.data ++ b, f.safe⟩) fs
  else if k = 3 then upd nm (fun f => ⟨f.data.take n.toNat, min f.safe n.toNat⟩) fs
  else if k = 4 then upd nm (fun f => ⟨f.data, f.data.length⟩) fs
  else if k = 5 then (match get fs nm with | none => fs | some f => ins to f (del to (del nm fs)))
  else del nm fs

/-- What is done in part. -/
def part (fs : Fs) (k : Nat) (nm : Name) (p : Int) (b : List UInt8) : Fs :=
  if k = 2 then upd nm (fun f => ⟨f.data ++ b.take p.toNat, f.safe⟩) fs else fs

/-- An operation: its code, and the disk behind it. -/
def op (d : D) (k : Nat) (nm to : Name) (n : Int) (b : List UInt8) : Int × D :=
  if d.down then (45, d) else
  if refuse d k nm to n b ≠ 0 then (refuse d k nm to n b, { d with ops := d.ops + 1 }) else
  match trouble d.tr (d.ops + 1) with
  | none => (0, { d with ops := d.ops + 1, fs := act d.fs k nm to n b })
  | some (tk, p) =>
    if tk = 3 then (45, { d with ops := d.ops + 1, fs := part d.fs k nm p b, down := true })
    else (39 + tk, { d with ops := d.ops + 1, fs := part d.fs k nm p b })

def keepN (f : Fl) (t : Option Int) : Nat := match t with | none => 0 | some z => min z.toNat (f.data.length - f.safe)
def keep (f : Fl) (t : Option Int) : Fl := ⟨f.data.take (f.safe + keepN f t), (f.data.take (f.safe + keepN f t)).length⟩
def crashF (tails : List Int) : Nat → Fs → Fs
  | _, [] => []
  | i, p :: r => (p.1, keep p.2 tails[i]?) :: crashF tails (i + 1) r
def crash (d : D) (tails : List Int) : D := { d with down := false, tr := [], fs := crashF tails 0 d.fs }
def arm (d : D) (tr : List Tr) : D := { d with tr := tr, ops := 0 }
def new (room : Int) : D := ⟨room.toNat, [], [], 0, false⟩

/-- A file that came in: its name, its bytes, and how many of them are safe. -/
structure In where
  nm : Name
  data : List UInt8
  safe : Int

def loadF : List In → Fs → Option Fs
  | [], fs => some fs
  | f :: r, fs => if (get fs f.nm).isSome ∨ may f.nm = false ∨ f.safe < 0 ∨ (f.data.length : Int) < f.safe then none else loadF r (ins f.nm ⟨f.data, f.safe.toNat⟩ fs)
def load (l : List In) (room : Int) : Option D :=
  match loadF l [] with
  | none => none
  | some fs => if 64 < l.length ∨ (room.toNat : Int) < used fs then none else some { new room with fs := fs }

/-! ### The order of names -/

theorem before_irrefl : ∀ a : Name, bytesBefore a a = false
  | [] => rfl
  | a :: x => by
    have := before_irrefl x
    simp [bytesBefore, this]
theorem before_trans : ∀ {a b c : Name}, bytesBefore a b = true → bytesBefore b c = true → bytesBefore a c = true
  | [], [], _, h, _ => by simp [bytesBefore] at h
  | _ :: _, [], _, h, _ => by simp [bytesBefore] at h
  | [], _ :: _, [], _, h2 => by simp [bytesBefore] at h2
  | [], _ :: _, _ :: _, _, _ => by simp [bytesBefore]
  | _ :: _, _ :: _, [], _, h2 => by simp [bytesBefore] at h2
  | a :: x, b :: y, c :: z, h1, h2 => by
    simp only [bytesBefore, Bool.or_eq_true, Bool.and_eq_true, decide_eq_true_eq, beq_iff_eq] at h1 h2 ⊢
    rcases h1 with h1 | ⟨rfl, h1⟩
    · rcases h2 with h2 | ⟨rfl, h2⟩
      · exact .inl (UInt8.lt_trans h1 h2)
      · exact .inl h1
    · rcases h2 with h2 | ⟨rfl, h2⟩
      · exact .inl h2
      · exact .inr ⟨rfl, before_trans h1 h2⟩
theorem before_total : ∀ {a b : Name}, bytesBefore a b = false → a ≠ b → bytesBefore b a = true
  | [], [], _, h => absurd rfl h
  | [], _ :: _, h, _ => by simp [bytesBefore] at h
  | _ :: _, [], _, _ => by simp [bytesBefore]
  | a :: x, b :: y, h, hn => by
    simp only [bytesBefore, Bool.or_eq_false_iff, Bool.and_eq_false_iff, decide_eq_false_iff_not, beq_eq_false_iff_ne] at h
    simp only [bytesBefore, Bool.or_eq_true, Bool.and_eq_true, decide_eq_true_eq, beq_iff_eq]
    by_cases e : a = b
    · subst e
      exact .inr ⟨rfl, before_total (h.2.resolve_left (fun h => h rfl)) (fun h => hn (by rw [h]))⟩
    · left
      have h1 := h.1
      rw [UInt8.lt_iff_toNat_lt] at h1 ⊢
      have : a.toNat ≠ b.toNat := fun h => e (UInt8.toNat_inj.1 h)
      omega

/-! ### Lists by names -/
section
variable {α β : Type}

theorem Up.tail {p : Name × α} {l : Al α} (h : Up (p :: l)) : Up l := (List.pairwise_cons.1 h).2
theorem Up.head {p q : Name × α} {l : Al α} (h : Up (p :: l)) (hq : q ∈ l) : bytesBefore p.1 q.1 = true := (List.pairwise_cons.1 h).1 q hq
theorem before_ne {a b : Name} (h : bytesBefore a b = true) : a ≠ b := by
  rintro rfl
  rw [before_irrefl] at h
  cases h

theorem get_nil (nm : Name) : get ([] : Al α) nm = none := rfl
theorem get_cons (p : Name × α) (l : Al α) (nm : Name) : get (p :: l) nm = if p.1 = nm then some p.2 else get l nm := by
  unfold get
  rw [List.find?_cons]
  by_cases h : p.1 = nm
  · simp [h]
  · rw [if_neg h, show (p.1 == nm) = false by simpa using h]
theorem get_none {l : Al α} {nm : Name} : get l nm = none ↔ ∀ p ∈ l, p.1 ≠ nm := by
  induction l with
  | nil => simp [get_nil]
  | cons p l ih =>
    rw [get_cons]
    split
    · rename_i h; simp [h]
    · rename_i h; rw [ih]; simp [h]
theorem get_mem {l : Al α} {nm : Name} {f : α} (h : get l nm = some f) : (nm, f) ∈ l := by
  induction l with
  | nil => simp [get_nil] at h
  | cons p l ih =>
    rw [get_cons] at h
    split at h
    · rename_i e
      injection h with h
      subst e h
      exact List.mem_cons_self ..
    · exact List.mem_cons_of_mem _ (ih h)
theorem get_of_mem {l : Al α} (hU : Up l) {p : Name × α} (h : p ∈ l) : get l p.1 = some p.2 := by
  induction l with
  | nil => cases h
  | cons q l ih =>
    rw [get_cons]
    rcases List.mem_cons.1 h with rfl | h
    · rw [if_pos rfl]
    · rw [if_neg (before_ne (hU.head h)), ih hU.tail h]

theorem ins_mem {nm : Name} {f : α} {l : Al α} {q : Name × α} : q ∈ ins nm f l ↔ q = (nm, f) ∨ q ∈ l := by
  induction l with
  | nil => simp [ins]
  | cons p l ih =>
    rw [ins]
    split
    · simp
    · simp only [List.mem_cons, ih]
      constructor
      · rintro (h | h | h)
        · exact .inr (.inl h)
        · exact .inl h
        · exact .inr (.inr h)
      · rintro (h | h | h)
        · exact .inr (.inl h)
        · exact .inl h
        · exact .inr (.inr h)
theorem ins_len {nm : Name} {f : α} {l : Al α} : (ins nm f l).length = l.length + 1 := by
  induction l with
  | nil => rfl
  | cons p l ih =>
    rw [ins]
    split
    · rfl
    · rw [List.length_cons, ih, List.length_cons]
theorem ins_up {nm : Name} {f : α} {l : Al α} (hU : Up l) (hn : ∀ p ∈ l, p.1 ≠ nm) : Up (ins nm f l) := by
  induction l with
  | nil => exact List.pairwise_singleton _ _
  | cons p l ih =>
    rw [ins]
    split
    · rename_i h
      refine List.pairwise_cons.2 ⟨fun q hq => ?_, hU⟩
      rcases List.mem_cons.1 hq with rfl | hq
      · exact h
      · exact before_trans h (hU.head hq)
    · rename_i h
      have h' : bytesBefore nm p.1 = false := by simpa using h
      refine List.pairwise_cons.2 ⟨fun q hq => ?_, ih hU.tail fun q hq => hn q (List.mem_cons_of_mem _ hq)⟩
      rcases ins_mem.1 hq with rfl | hq
      · exact before_total h' (fun e => hn p (List.mem_cons_self ..) e.symm)
      · exact hU.head hq
theorem ins_map {nm : Name} {f : α} {l : Al α} (g : α → β) : (ins nm f l).map (fun p => (p.1, g p.2)) = ins nm (g f) (l.map fun p => (p.1, g p.2)) := by
  induction l with
  | nil => rfl
  | cons p l ih =>
    rw [ins, List.map_cons, ins]
    split
    · rfl
    · rw [List.map_cons, ih]
theorem del_mem {nm : Name} {l : Al α} {q : Name × α} : q ∈ del nm l ↔ q ∈ l ∧ q.1 ≠ nm := by simp [del]
theorem del_up {nm : Name} {l : Al α} (hU : Up l) : Up (del nm l) := List.Pairwise.filter _ hU
theorem del_map {nm : Name} {l : Al α} (g : α → β) : (del nm l).map (fun p => (p.1, g p.2)) = del nm (l.map fun p => (p.1, g p.2)) := by
  unfold del
  rw [List.filter_map]
  rfl
theorem get_map {nm : Name} {l : Al α} (g : α → β) : get (l.map fun p => (p.1, g p.2)) nm = (get l nm).map g := by
  induction l with
  | nil => rfl
  | cons p l ih =>
    rw [List.map_cons, get_cons, get_cons]
    split
    · rfl
    · exact ih
theorem upd_up {nm : Name} {g : α → α} {l : Al α} (hU : Up l) : Up (upd nm g l) := by
  unfold upd Up
  rw [List.pairwise_map]
  refine hU.imp ?_
  intro p q h
  split <;> split <;> exact h
theorem upd_len {nm : Name} {g : α → α} {l : Al α} : (upd nm g l).length = l.length := List.length_map _
theorem get_ins {nm nm' : Name} {f : α} {l : Al α} (hn : ∀ p ∈ l, p.1 ≠ nm) : get (ins nm f l) nm' = if nm = nm' then some f else get l nm' := by
  induction l with
  | nil => rw [ins, get_cons]
  | cons p l ih =>
    rw [ins]
    split
    · rw [get_cons]
    · rw [get_cons, ih fun q hq => hn q (List.mem_cons_of_mem _ hq), get_cons]
      by_cases h1 : p.1 = nm'
      · rw [if_pos h1, if_pos h1, if_neg]
        rintro rfl
        exact hn p (List.mem_cons_self ..) h1
      · rw [if_neg h1, if_neg h1]
theorem get_del {nm nm' : Name} {l : Al α} : get (del nm l) nm' = if nm = nm' then none else get l nm' := by
  induction l with
  | nil => simp [del, get_nil]
  | cons p l ih =>
    unfold del at ih ⊢
    rw [List.filter_cons]
    by_cases h : p.1 = nm
    · rw [if_neg (by simp [h]), ih, get_cons, h]
      split
      · rfl
      · rfl
    · rw [if_pos (by simpa using h), get_cons, ih, get_cons]
      by_cases h1 : p.1 = nm'
      · rw [if_pos h1, if_pos h1, if_neg]
        rintro rfl
        exact h h1
      · rw [if_neg h1, if_neg h1]
theorem get_upd {nm nm' : Name} {g : α → α} {l : Al α} : get (upd nm g l) nm' = if nm = nm' then (get l nm').map g else get l nm' := by
  induction l with
  | nil => simp [upd, get_nil]
  | cons p l ih =>
    unfold upd at ih ⊢
    rw [List.map_cons, get_cons, ih, get_cons]
    by_cases h : p.1 = nm
    · rw [if_pos h]
      simp only
      by_cases h1 : nm = nm'
      · subst h1
        rw [if_pos h, if_pos rfl, if_pos h]
        rfl
      · rw [if_neg (by rw [h]; exact h1), if_neg h1, if_neg h1, if_neg (by rw [h]; exact h1)]
    · rw [if_neg h]
      by_cases h2 : p.1 = nm'
      · rw [if_pos h2, if_pos h2, if_neg (by rintro rfl; exact h h2)]
      · rw [if_neg h2, if_neg h2]
end
end Go.Proofs.YtfdpnjebhllpkaaGreatDoor.Dk
end

section
namespace Go.Proofs.YtfdpnjebhllpkaaGreatDoor.Dk
open Go

/-- Blocks by names, as a map's datum. -/
def mp (L : Al Nat) : DataW Unit := .map (L.map fun p => (Lit.string p.1, DataW.lit (.int .i64 (p.2 : Nat))))

/-- A pointer to a block's beginning, or none. -/
def ptrElem : Value → Option (DataW Unit × List MemPlace)
  | .pointer none => some (.nil, [])
  | .pointer (some ⟨b, 0, none⟩) => some (.lit (.int .i64 (b : Nat)), [])
  | _ => none

theorem ptr_nil {v : Value} {ps : List MemPlace} (h : ptrElem v = some (.nil, ps)) : v = .pointer none := by
  unfold ptrElem at h
  split at h
  · rfl
  · simp at h
  · cases h
theorem ptr_blk {v : Value} {b : Nat} {ps : List MemPlace} (h : ptrElem v = some (.lit (.int .i64 (b : Nat)), ps)) : v = .pointer (some ⟨b, 0, none⟩) := by
  unfold ptrElem at h
  split at h
  · simp at h
  · rename_i b'
    simp at h
    have := h.1
    have : b' = b := by omega
    rw [this]
  · cases h

theorem mp_at (L : Al Nat) (nm : Name) (zd : DataW Unit) : (mp L).atKey (.string nm) zd = match get L nm with | none => zd | some b => .lit (.int .i64 (b : Nat)) := by
  unfold mp DataW.atKey
  induction L with
  | nil => rfl
  | cons p L ih =>
    rw [get_cons]
    simp only [List.map_cons, List.find?_cons] at ih ⊢
    by_cases h : p.1 = nm
    · simp [Lit.sameKey, h]
    · rw [if_neg h]
      simp only [Lit.sameKey, show (p.1 == nm) = false by simpa using h]
      exact ih

theorem mp_del (L : Al Nat) (nm : Name) : (mp L).del (.string nm) = mp (del nm L) := by
  unfold mp DataW.del del
  simp only
  congr 1
  rw [List.filter_map]
  rfl

theorem insert_mp (nm : Name) (b : Nat) (L : Al Nat) : DataW.insert (Lit.string nm, DataW.lit (.int .i64 (b : Nat))) (L.map fun p => (Lit.string p.1, DataW.lit (H := Unit) (.int .i64 (p.2 : Nat)))) = (ins nm b L).map fun p => (Lit.string p.1, DataW.lit (.int .i64 (p.2 : Nat))) := by
  induction L with
  | nil => rfl
  | cons p L ih =>
    rw [ins, List.map_cons]
    unfold DataW.insert
    by_cases h : bytesBefore nm p.1 = true
    · have h' : (Lit.string nm).before (Lit.string p.1) = true := h
      rw [if_pos h', if_pos h]
      rfl
    · have h' : ¬ (Lit.string nm).before (Lit.string p.1) = true := h
      rw [if_neg h', if_neg h, ih]
      rfl

theorem mp_put (L : Al Nat) (nm : Name) (b : Nat) : (mp L).put (.string nm) (.lit (.int .i64 (b : Nat))) = mp (ins nm b (del nm L)) := by
  have h := mp_del L nm
  unfold mp DataW.del at h
  simp only at h
  injection h with h
  unfold mp DataW.put
  simp only
  rw [h, insert_mp]

theorem mp_size (L : Al Nat) : Maps.size (mp L) = L.length := by
  unfold mp Maps.size
  simp

theorem mp_keys (L : Al Nat) : strKeys (mp L) = L.map (·.1) := by
  show (L.map fun p => (Lit.string p.1, DataW.lit (H := Unit) (.int .i64 (p.2 : Nat)))).map (fun p => strOf p.1) = _
  rw [List.map_map]
  rfl
end Go.Proofs.YtfdpnjebhllpkaaGreatDoor.Dk
end
