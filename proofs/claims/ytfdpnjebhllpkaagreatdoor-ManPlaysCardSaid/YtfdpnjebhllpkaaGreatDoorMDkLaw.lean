/- The laws of a small disk, plainly. No program stands here. -/
import Derived.Maps.OwnSet
import Derived.Sort.KeysCollected
section
namespace Go.Proofs.YtfdpnjebhllpkaaGreatDoor.Dk
open Go

structure Fl where
  data : List UInt8
  safe : Nat

abbrev Name := List UInt8
/-- Things by names, the names rising. -/
abbrev Al (α : Type) := List (Name × α)
abbrev Fs := Al Fl
abbrev Tr := Int × Int × Int

structure D where
  room : Nat
  fs : Fs
  tr : List Tr
  ops : Nat
  down : Bool

section
variable {α β : Type}
def get (l : Al α) (nm : Name) : Option α := (l.find? fun p => p.1 == nm).map (·.2)
def ins (nm : Name) (f : α) : Al α → Al α
  | [] => [(nm, f)]
  | p :: r => if bytesBefore nm p.1 then (nm, f) :: p :: r else p :: ins nm f r
def del (nm : Name) (l : Al α) : Al α := l.filter fun p => !(p.1 == nm)
def upd (nm : Name) (g : α → α) (l : Al α) : Al α := l.map fun p => if p.1 = nm then (p.1, g p.2) else p
/-- Names rise. -/
def Up (l : Al α) : Prop := l.Pairwise fun p q => bytesBefore p.1 q.1 = true
end

def letter (c : UInt8) : Bool := decide (97 ≤ c.toNat ∧ c.toNat ≤ 122) || decide (48 ≤ c.toNat ∧ c.toNat ≤ 57) || c == 46 || c == 45
def may (nm : Name) : Bool := !nm.isEmpty && decide (nm.length ≤ 40) && nm.all letter
def used (fs : Fs) : Nat := (fs.map fun p => p.2.data.length).sum

/-- What befalls the operation of this number. -/
def hits (at_ : Nat) (t : Tr) : Bool := t.1 == (at_ : Int) && (decide (1 ≤ t.2.1) && decide (t.2.1 ≤ 3))
def trouble (tr : List Tr) (at_ : Nat) : Option (Int × Int) := (tr.find? (hits at_)).map (·.2)

/-- An operation's own refusal: 1 Create, 2 Append, 3 Cut, 4 Sync, 5 Rename, 6 Delete. -/
def refuse (d : D) (k : Nat) (nm to : Name) (n : Int) (b : List UInt8) : Int :=
  if k = 1 then (if may nm = false then 44 else if (get d.fs nm).isSome then 43 else if 64 ≤ d.fs.length then 40 else 0)
  else match get d.fs nm with
  | none => 42
  | some f =>
    if k = 2 then (if (d.room : Int) - used d.fs < b.length then 40 else 0)
    else if k = 3 then (if n < 0 ∨ (f.data.length : Int) < n then 80 else 0)
    else if k = 5 then (if may to = false then 44 else 0)
    else 0

def act (fs : Fs) (k : Nat) (nm to : Name) (n : Int) (b : List UInt8) : Fs :=
  if k = 1 then ins nm ⟨[], 0⟩ fs
  else if k = 2 then upd nm (fun f => ⟨f.data ++ b, f.safe⟩) fs
  else if k = 3 then upd nm (fun f => ⟨f.data.take n.toNat, min f.safe n.toNat⟩) fs
  else if k = 4 then upd nm (fun f => ⟨f.data, f.data.length⟩) fs
  else if k = 5 then (match get fs nm with | none => fs | some f => ins to f (del to (del nm fs)))
  else del nm fs

/-- What is done in part. -/
def part (fs : Fs) (k : Nat) (nm : Name) (p : Int) (b : List UInt8) : Fs :=
  if k = 2 then upd nm (fun f => ⟨f.data ++ b.take p.toNat, f.safe⟩) fs else fs

/-- An operation: its code, and the disk behind it. -/
def op (d : D) (k : Nat) (nm to : Name) (n : Int) (b : List UInt8) : Int × D :=
  if d.down then (45, d) else
  if refuse d k nm to n b ≠ 0 then (refuse d k nm to n b, { d with ops := d.ops + 1 }) else
  match trouble d.tr (d.ops + 1) with
  | none => (0, { d with ops := d.ops + 1, fs := act d.fs k nm to n b })
  | some (tk, p) =>
    if tk = 3 then (45, { d with ops := d.ops + 1, fs := part d.fs k nm p b, down := true })
    else (39 + tk, { d with ops := d.ops + 1, fs := part d.fs k nm p b })

def keepN (f : Fl) (t : Option Int) : Nat := match t with | none => 0 | some z => min z.toNat (f.data.length - f.safe)
def keep (f : Fl) (t : Option Int) : Fl := ⟨f.data.take (f.safe + keepN f t), (f.data.take (f.safe + keepN f t)).length⟩
def crashF (tails : List Int) : Nat → Fs → Fs
  | _, [] => []
  | i, p :: r => (p.1, keep p.2 tails[i]?) :: crashF tails (i + 1) r
def crash (d : D) (tails : List Int) : D := { d with down := false, tr := [], fs := crashF tails 0 d.fs }
def arm (d : D) (tr : List Tr) : D := { d with tr := tr, ops := 0 }
def new (room : Int) : D := ⟨room.toNat, [], [], 0, false⟩

/-- A file that came in: its name, its bytes, and how many of them are safe. -/
structure In where
  nm : Name
  data : List UInt8
  safe : Int

def loadF : List In → Fs → Option Fs
  | [], fs => some fs
  | f :: r, fs => if (get fs f.nm).isSome ∨ may f.nm = false ∨ f.safe < 0 ∨ (f.data.length : Int) < f.safe then none else loadF r (ins f.nm ⟨f.data, f.safe.toNat⟩ fs)
def load (l : List In) (room : Int) : Option D :=
  match loadF l [] with
  | none => none
  | some fs => if 64 < l.length ∨ (room.toNat : Int) < used fs then none else some { new room with fs := fs }

/-! ### The order of names -/

theorem before_irrefl : ∀ a : Name, bytesBefore a a = false
  | [] => rfl
  | a :: x => by
    have := before_irrefl x
    simp [bytesBefore, this]
theorem before_trans : ∀ {a b c : Name}, bytesBefore a b = true → bytesBefore b c = true → bytesBefore a c = true
  | [], [], _, h, _ => by simp [bytesBefore] at h
  | _ :: _, [], _, h, _ => by simp [bytesBefore] at h
  | [], _ :: _, [], _, h2 => by simp [bytesBefore] at h2
  | [], _ :: _, _ :: _, _, _ => by simp [bytesBefore]
  | _ :: _, _ :: _, [], _, h2 => by simp [bytesBefore] at h2
  | a :: x, b :: y, c :: z, h1, h2 => by
    simp only [bytesBefore, Bool.or_eq_true, Bool.and_eq_true, decide_eq_true_eq, beq_iff_eq] at h1 h2 ⊢
    rcases h1 with h1 | ⟨rfl, h1⟩
    · rcases h2 with h2 | ⟨rfl, h2⟩
      · exact .inl (UInt8.lt_trans h1 h2)
      · exact .inl h1
    · rcases h2 with h2 | ⟨rfl, h2⟩
      · exact .inl h2
      · exact .inr ⟨rfl, before_trans h1 h2⟩
theorem before_total : ∀ {a b : Name}, bytesBefore a b = false → a ≠ b → bytesBefore b a = true
  | [], [], _, h => absurd rfl h
  | [], _ :: _, h, _ => by simp [bytesBefore] at h
  | _ :: _, [], _, _ => by simp [bytesBefore]
  | a :: x, b :: y, h, hn => by
    simp only [bytesBefore, Bool.or_eq_false_iff, Bool.and_eq_false_iff, decide_eq_false_iff_not, beq_eq_false_iff_ne] at h
    simp only [bytesBefore, Bool.or_eq_true, Bool.and_eq_true, decide_eq_true_eq, beq_iff_eq]
    by_cases e : a = b
    · subst e
      exact .inr ⟨rfl, before_total (h.2.resolve_left (fun h => h rfl)) (fun h => hn (by rw [h]))⟩
    · left
      have h1 := h.1
      rw [UInt8.lt_iff_toNat_lt] at h1 ⊢
      have : a.toNat ≠ b.toNat := fun h => e (UInt8.toNat_inj.1 h)
      omega

/-! ### Lists by names -/
section
variable {α β : Type}

theorem Up.tail {p : Name × α} {l : Al α} (h : Up (p :: l)) : Up l := (List.pairwise_cons.1 h).2
theorem Up.head {p q : Name × α} {l : Al α} (h : Up (p :: l)) (hq : q ∈ l) : bytesBefore p.1 q.1 = true := (List.pairwise_cons.1 h).1 q hq
theorem before_ne {a b : Name} (h : bytesBefore a b = true) : a ≠ b := by
  rintro rfl
  rw [before_irrefl] at h
  cases h

theorem get_nil (nm : Name) : get ([] : Al α) nm = none := rfl
theorem get_cons (p : Name × α) (l : Al α) (nm : Name) : get (p :: l) nm = if p.1 = nm then some p.2 else get l nm := by
  unfold get
  rw [List.find?_cons]
  by_cases h : p.1 = nm
  · simp [h]
  · rw [if_neg h, show (p.1 == nm) = false by simpa using h]
theorem get_none {l : Al α} {nm : Name} : get l nm = none ↔ ∀ p ∈ l, p.1 ≠ nm := by
  induction l with
  | nil => simp [get_nil]
  | cons p l ih =>
    rw [get_cons]
    split
    · rename_i h; simp [h]
    · rename_i h; rw [ih]; simp [h]
theorem get_mem {l : Al α} {nm : Name} {f : α} (h : get l nm = some f) : (nm, f) ∈ l := by
  induction l with
  | nil => simp [get_nil] at h
  | cons p l ih =>
    rw [get_cons] at h
    split at h
    · rename_i e
      injection h with h
      subst e h
      exact List.mem_cons_self ..
    · exact List.mem_cons_of_mem _ (ih h)
theorem get_of_mem {l : Al α} (hU : Up l) {p : Name × α} (h : p ∈ l) : get l p.1 = some p.2 := by
  induction l with
  | nil => cases h
  | cons q l ih =>
    rw [get_cons]
    rcases List.mem_cons.1 h with rfl | h
    · rw [if_pos rfl]
    · rw [if_neg (before_ne (hU.head h)), ih hU.tail h]

theorem ins_mem {nm : Name} {f : α} {l : Al α} {q : Name × α} : q ∈ ins nm f l ↔ q = (nm, f) ∨ q ∈ l := by
  induction l with
  | nil => simp [ins]
  | cons p l ih =>
    rw [ins]
    split
    · simp
    · simp only [List.mem_cons, ih]
      constructor
      · rintro (h | h | h)
        · exact .inr (.inl h)
        · exact .inl h
        · exact .inr (.inr h)
      · rintro (h | h | h)
        · exact .inr (.inl h)
        · exact .inl h
        · exact .inr (.inr h)
theorem ins_len {nm : Name} {f : α} {l : Al α} : (ins nm f l).length = l.length + 1 := by
  induction l with
  | nil => rfl
  | cons p l ih =>
    rw [ins]
    split
    · rfl
    · rw [List.length_cons, ih, List.length_cons]
theorem ins_up {nm : Name} {f : α} {l : Al α} (hU : Up l) (hn : ∀ p ∈ l, p.1 ≠ nm) : Up (ins nm f l) := by
  induction l with
  | nil => exact List.pairwise_singleton _ _
  | cons p l ih =>
    rw [ins]
    split
    · rename_i h
      refine List.pairwise_cons.2 ⟨fun q hq => ?_, hU⟩
      rcases List.mem_cons.1 hq with rfl | hq
      · exact h
      · exact before_trans h (hU.head hq)
    · rename_i h
      have h' : bytesBefore nm p.1 = false := by simpa using h
      refine List.pairwise_cons.2 ⟨fun q hq => ?_, ih hU.tail fun q hq => hn q (List.mem_cons_of_mem _ hq)⟩
      rcases ins_mem.1 hq with rfl | hq
      · exact before_total h' (fun e => hn p (List.mem_cons_self ..) e.symm)
      · exact hU.head hq
theorem ins_map {nm : Name} {f : α} {l : Al α} (g : α → β) : (ins nm f l).map (fun p => (p.1, g p.2)) = ins nm (g f) (l.map fun p => (p.1, g p.2)) := by
  induction l with
  | nil => rfl
  | cons p l ih =>
    rw [ins, List.map_cons, ins]
    split
    · rfl
    · rw [List.map_cons, ih]
theorem del_mem {nm : Name} {l : Al α} {q : Name × α} : q ∈ del nm l ↔ q ∈ l ∧ q.1 ≠ nm := by simp [del]
theorem del_up {nm : Name} {l : Al α} (hU : Up l) : Up (del nm l) := List.Pairwise.filter _ hU
theorem del_map {nm : Name} {l : Al α} (g : α → β) : (del nm l).map (fun p => (p.1, g p.2)) = del nm (l.map fun p => (p.1, g p.2)) := by
  unfold del
  rw [List.filter_map]
  rfl
theorem get_map {nm : Name} {l : Al α} (g : α → β) : get (l.map fun p => (p.1, g p.2)) nm = (get l nm).map g := by
  induction l with
  | nil => rfl
  | cons p l ih =>
    rw [List.map_cons, get_cons, get_cons]
    split
    · rfl
    · exact ih
theorem upd_up {nm : Name} {g : α → α} {l : Al α} (hU : Up l) : Up (upd nm g l) := by
  unfold upd Up
  rw [List.pairwise_map]
  refine hU.imp ?_
  intro p q h
  split <;> split <;> exact h
theorem upd_len {nm : Name} {g : α → α} {l : Al α} : (upd nm g l).length = l.length := List.length_map _
theorem get_ins {nm nm' : Name} {f : α} {l : Al α} (hn : ∀ p ∈ l, p.1 ≠ nm) : get (ins nm f l) nm' = if nm = nm' then some f else get l nm' := by
  induction l with
  | nil => rw [ins, get_cons]
  | cons p l ih =>
    rw [ins]
    split
    · rw [get_cons]
    · rw [get_cons, ih fun q hq => hn q (List.mem_cons_of_mem _ hq), get_cons]
      by_cases h1 : p.1 = nm'
      · rw [if_pos h1, if_pos h1, if_neg]
        rintro rfl
        exact hn p (List.mem_cons_self ..) h1
      · rw [if_neg h1, if_neg h1]
theorem get_del {nm nm' : Name} {l : Al α} : get (del nm l) nm' = if nm = nm' then none else get l nm' := by
  induction l with
  | nil => simp [del, get_nil]
  | cons p l ih =>
    unfold del at ih ⊢
    rw [List.filter_cons]
    by_cases h : p.1 = nm
    · rw [if_neg (by simp [h]), ih, get_cons, h]
      split
      · rfl
      · rfl
    · rw [if_pos (by simpa using h), get_cons, ih, get_cons]
      by_cases h1 : p.1 = nm'
      · rw [if_pos h1, if_pos h1, if_neg]
        rintro rfl
        exact h h1
      · rw [if_neg h1, if_neg h1]
theorem get_upd {nm nm' : Name} {g : α → α} {l : Al α} : get (upd nm g l) nm' = if nm = nm' then (get l nm').map g else get l nm' := by
  induction l with
  | nil => simp [upd, get_nil]
  | cons p l ih =>
    unfold upd at ih ⊢
    rw [List.map_cons, get_cons, ih, get_cons]
    by_cases h : p.1 = nm
    · rw [if_pos h]
      simp only
      by_cases h1 : nm = nm'
      · subst h1
        rw [if_pos h, if_pos rfl, if_pos h]
        rfl
      · rw [if_neg (by rw [h]; exact h1), if_neg h1, if_neg h1, if_neg (by rw [h]; exact h1)]
    · rw [if_neg h]
      by_cases h2 : p.1 = nm'
      · rw [if_pos h2, if_pos h2, if_neg (by rintro rfl; exact h h2)]
      · rw [if_neg h2, if_neg h2]
end
end Go.Proofs.YtfdpnjebhllpkaaGreatDoor.Dk
end

section
namespace Go.Proofs.YtfdpnjebhllpkaaGreatDoor.Dk
open Go

/-- Blocks by names, as a map's datum. -/
def mp (L : Al Nat) : DataW Unit := .map (L.map fun p => (Lit.string p.1, DataW.lit (.int .i64 (p.2 : Nat))))

/-- A pointer to a block's beginning, or none. -/
def ptrElem : Value → Option (DataW Unit × List MemPlace)
  | .pointer none => some (.nil, [])
  | .pointer (some ⟨b, 0, none⟩) => some (.lit (.int .i64 (b : Nat)), [])
  | _ => none

theorem ptr_nil {v : Value} {ps : List MemPlace} (h : ptrElem v = some (.nil, ps)) : v = .pointer none := by
  unfold ptrElem at h
  split at h
  · rfl
  · simp at h
  · cases h
theorem ptr_blk {v : Value} {b : Nat} {ps : List MemPlace} (h : ptrElem v = some (.lit (.int .i64 (b : Nat)), ps)) : v = .pointer (some ⟨b, 0, none⟩) := by
  unfold ptrElem at h
  split at h
  · simp at h
  · rename_i b'
    simp at h
    have := h.1
    have : b' = b := by omega
    rw [this]
  · cases h

theorem mp_at (L : Al Nat) (nm : Name) (zd : DataW Unit) : (mp L).atKey (.string nm) zd = match get L nm with | none => zd | some b => .lit (.int .i64 (b : Nat)) := by
  unfold mp DataW.atKey
  induction L with
  | nil => rfl
  | cons p L ih =>
    rw [get_cons]
    simp only [List.map_cons, List.find?_cons] at ih ⊢
    by_cases h : p.1 = nm
    · simp [Lit.sameKey, h]
    · rw [if_neg h]
      simp only [Lit.sameKey, show (p.1 == nm) = false by simpa using h]
      exact ih

theorem mp_del (L : Al Nat) (nm : Name) : (mp L).del (.string nm) = mp (del nm L) := by
  unfold mp DataW.del del
  simp only
  congr 1
  rw [List.filter_map]
  rfl

theorem insert_mp (nm : Name) (b : Nat) (L : Al Nat) : DataW.insert (Lit.string nm, DataW.lit (.int .i64 (b : Nat))) (L.map fun p => (Lit.string p.1, DataW.lit (H := Unit) (.int .i64 (p.2 : Nat)))) = (ins nm b L).map fun p => (Lit.string p.1, DataW.lit (.int .i64 (p.2 : Nat))) := by
  induction L with
  | nil => rfl
  | cons p L ih =>
    rw [ins, List.map_cons]
    unfold DataW.insert
    by_cases h : bytesBefore nm p.1 = true
    · have h' : (Lit.string nm).before (Lit.string p.1) = true := h
      rw [if_pos h', if_pos h]
      rfl
    · have h' : ¬ (Lit.string nm).before (Lit.string p.1) = true := h
      rw [if_neg h', if_neg h, ih]
      rfl

theorem mp_put (L : Al Nat) (nm : Name) (b : Nat) : (mp L).put (.string nm) (.lit (.int .i64 (b : Nat))) = mp (ins nm b (del nm L)) := by
  have h := mp_del L nm
  unfold mp DataW.del at h
  simp only at h
  injection h with h
  unfold mp DataW.put
  simp only
  rw [h, insert_mp]

theorem mp_size (L : Al Nat) : Maps.size (mp L) = L.length := by
  unfold mp Maps.size
  simp

theorem mp_keys (L : Al Nat) : strKeys (mp L) = L.map (·.1) := by
  show (L.map fun p => (Lit.string p.1, DataW.lit (H := Unit) (.int .i64 (p.2 : Nat)))).map (fun p => strOf p.1) = _
  rw [List.map_map]
  rfl
end Go.Proofs.YtfdpnjebhllpkaaGreatDoor.Dk
end

section
namespace Go.Proofs.YtfdpnjebhllpkaaGreatDoor.Dk
open Go

theorem used_nil : used [] = 0 := rfl
theorem used_cons (p : Name × Fl) (l : Fs) : used (p :: l) = p.2.data.length + used l := by simp [used]
theorem used_ins (nm : Name) (f : Fl) (l : Fs) : used (ins nm f l) = f.data.length + used l := by
  induction l with
  | nil => rw [ins, used_cons]
  | cons p l ih =>
    rw [ins]
    split
    · rw [used_cons]
    · rw [used_cons, ih, used_cons]; omega
theorem del_none {nm : Name} {l : Fs} (h : get l nm = none) : del nm l = l := by
  unfold del
  rw [List.filter_eq_self]
  intro p hp
  have := get_none.1 h p hp
  simpa using this
theorem used_del {nm : Name} {l : Fs} {f : Fl} (hU : Up l) (h : get l nm = some f) : used (del nm l) + f.data.length = used l := by
  induction l with
  | nil => simp [get_nil] at h
  | cons p l ih =>
    rw [get_cons] at h
    unfold del at ih ⊢
    rw [List.filter_cons]
    by_cases e : p.1 = nm
    · rw [if_pos e] at h
      injection h with h
      have h2 : del nm l = l := del_none (get_none.2 fun q hq => by
        have := before_ne (hU.head hq)
        rw [e] at this
        exact this.symm)
      unfold del at h2
      rw [if_neg (by simp [e]), h2, used_cons, h]
      omega
    · rw [if_neg e] at h
      rw [if_pos (by simpa using e), used_cons, used_cons]
      have := ih hU.tail h
      omega
theorem used_upd {nm : Name} {l : Fs} {f : Fl} {g : Fl → Fl} (hU : Up l) (h : get l nm = some f) : used (upd nm g l) + f.data.length = used l + (g f).data.length := by
  induction l with
  | nil => simp [get_nil] at h
  | cons p l ih =>
    rw [get_cons] at h
    unfold upd at ih ⊢
    rw [List.map_cons]
    by_cases e : p.1 = nm
    · rw [if_pos e] at h
      injection h with h
      have h2 : l.map (fun p => if p.1 = nm then (p.1, g p.2) else p) = l := by
        conv => rhs; rw [← List.map_id l]
        apply List.map_congr_left
        intro q hq
        have := before_ne (hU.head hq)
        rw [e] at this
        rw [if_neg this.symm]
        rfl
      rw [h2, if_pos e, used_cons, used_cons, h]
      simp only
      omega
    · rw [if_neg e] at h
      rw [if_neg e, used_cons, used_cons]
      have := ih hU.tail h
      omega

/-- What holds of a disk. -/
structure Inv (d : D) : Prop where
  up : Up d.fs
  safe : ∀ p ∈ d.fs, p.2.safe ≤ p.2.data.length
  room : used d.fs ≤ d.room
  most : d.fs.length ≤ 64
  names : ∀ p ∈ d.fs, may p.1 = true

theorem del_len (nm : Name) (l : Fs) : (del nm l).length ≤ l.length := List.length_filter_le _ _
theorem del_len_lt {nm : Name} {l : Fs} {f : Fl} (h : get l nm = some f) : (del nm l).length < l.length := by
  have hm := get_mem h
  unfold del
  exact List.length_filter_lt_length_iff_exists.2 ⟨_, hm, by simp⟩
theorem used_del_le (nm : Name) (l : Fs) : used (del nm l) ≤ used l := by
  induction l with
  | nil => exact Nat.le_refl _
  | cons p l ih =>
    unfold del at ih ⊢
    rw [List.filter_cons]
    split
    · rw [used_cons, used_cons]; omega
    · rw [used_cons]; omega
theorem upd_mem {nm : Name} {g : Fl → Fl} {l : Fs} {q : Name × Fl} (h : q ∈ upd nm g l) : ∃ p ∈ l, q.1 = p.1 ∧ (q.2 = p.2 ∨ (p.1 = nm ∧ q.2 = g p.2)) := by
  unfold upd at h
  obtain ⟨p, hp, rfl⟩ := List.mem_map.1 h
  refine ⟨p, hp, ?_⟩
  split
  · rename_i e; exact ⟨rfl, .inr ⟨e, rfl⟩⟩
  · exact ⟨rfl, .inl rfl⟩

theorem Inv.upd_ {d : D} (h : Inv d) {nm : Name} {g : Fl → Fl} {f : Fl} (hf : get d.fs nm = some f) (hg : (g f).safe ≤ (g f).data.length) (hr : used d.fs + (g f).data.length ≤ d.room + f.data.length) : Inv { d with fs := upd nm g d.fs } := by
  refine ⟨upd_up h.up, fun q hq => ?_, ?_, by show (upd nm g d.fs).length ≤ 64; rw [upd_len]; exact h.most, fun q hq => ?_⟩
  · obtain ⟨p, hp, h1, h2⟩ := upd_mem hq
    rcases h2 with h2 | ⟨h2, h3⟩
    · rw [h2]; exact h.safe p hp
    · have := get_of_mem h.up hp
      rw [h2, hf] at this
      injection this with this
      rw [h3, ← this]
      exact hg
  · have := used_upd (g := g) h.up hf
    show used (upd nm g d.fs) ≤ d.room
    omega
  · obtain ⟨p, hp, h1, _⟩ := upd_mem hq
    rw [h1]
    exact h.names p hp

theorem Inv.ops_ {d : D} (h : Inv d) (n : Nat) (b : Bool) (tr : List Tr) : Inv { d with ops := n, down := b, tr := tr } := ⟨h.up, h.safe, h.room, h.most, h.names⟩

theorem get_none' {α : Type} {l : Al α} {nm : Name} (h : ¬ (get l nm).isSome = true) : ∀ p ∈ l, p.1 ≠ nm := get_none.1 (by cases hg : get l nm with | none => rfl | some f => rw [hg] at h; exact absurd rfl h)

theorem Inv.ins_ {d : D} (h : Inv d) {nm : Name} {f : Fl} {fs : Fs} (hup : Up fs) (hsub : ∀ p ∈ fs, p ∈ d.fs) (hn : ∀ p ∈ fs, p.1 ≠ nm) (hm : may nm = true) (hs : f.safe ≤ f.data.length) (hr : f.data.length + used fs ≤ d.room) (hl : fs.length < 64) : Inv { d with fs := ins nm f fs } := by
  refine ⟨ins_up hup hn, fun q hq => ?_, ?_, ?_, fun q hq => ?_⟩
  · rcases ins_mem.1 hq with rfl | hq
    · exact hs
    · exact h.safe q (hsub q hq)
  · show used (ins nm f fs) ≤ d.room
    rw [used_ins]; exact hr
  · show (ins nm f fs).length ≤ 64
    rw [ins_len]; omega
  · rcases ins_mem.1 hq with rfl | hq
    · exact hm
    · exact h.names q (hsub q hq)

theorem del_sub {α : Type} {nm : Name} {l : Al α} : ∀ p ∈ del nm l, p ∈ l := fun _ hp => (del_mem.1 hp).1

theorem inv_act {d : D} (h : Inv d) {k : Nat} {nm to : Name} {n : Int} {b : List UInt8} (hr : refuse d k nm to n b = 0) : Inv { d with fs := act d.fs k nm to n b } := by
  unfold refuse at hr
  unfold act
  by_cases k1 : k = 1
  · rw [if_pos k1] at hr
    simp only [if_pos k1]
    split at hr
    · omega
    rename_i hm
    split at hr
    · omega
    rename_i hg
    split at hr
    · omega
    rename_i hl
    exact h.ins_ h.up (fun p hp => hp) (get_none' hg) (by simpa using hm) (Nat.le_refl _) (by have := h.room; simp; omega) (by omega)
  rw [if_neg k1] at hr
  simp only [if_neg k1]
  cases hf : get d.fs nm with
  | none => rw [hf] at hr; simp only at hr; omega
  | some f =>
    rw [hf] at hr
    simp only at hr
    have hsf := h.safe _ (get_mem hf)
    simp only at hsf
    by_cases k2 : k = 2
    · rw [if_pos k2] at hr
      simp only [if_pos k2]
      split at hr
      · omega
      refine h.upd_ hf ?_ ?_
      · simp only [List.length_append]; omega
      · simp only [List.length_append]; omega
    rw [if_neg k2] at hr
    simp only [if_neg k2]
    by_cases k3 : k = 3
    · rw [if_pos k3] at hr
      simp only [if_pos k3]
      split at hr
      · omega
      have := h.room
      refine h.upd_ hf ?_ ?_
      · simp only [List.length_take]; omega
      · simp only [List.length_take]; omega
    rw [if_neg k3] at hr
    simp only [if_neg k3]
    by_cases k4 : k = 4
    · simp only [if_pos k4]
      have := h.room
      exact h.upd_ hf (Nat.le_refl _) (by simp only; omega)
    simp only [if_neg k4]
    by_cases k5 : k = 5
    · rw [if_pos k5] at hr
      simp only [if_pos k5]
      split at hr
      · omega
      rename_i hm
      have h1 := used_del h.up hf
      have h2 := used_del_le to (del nm d.fs)
      have h3 := del_len to (del nm d.fs)
      have h4 := del_len_lt hf
      have h5 := h.most
      have h6 := h.room
      exact h.ins_ (del_up (del_up h.up)) (fun p hp => del_sub p (del_sub p hp)) (fun p hp => (del_mem.1 hp).2) (by simpa using hm) hsf (by omega) (by omega)
    · simp only [if_neg k5]
      exact ⟨del_up h.up, fun p hp => h.safe p (del_sub p hp), Nat.le_trans (used_del_le _ _) h.room, Nat.le_trans (del_len _ _) h.most, fun p hp => h.names p (del_sub p hp)⟩

theorem inv_part {d : D} (h : Inv d) {k : Nat} {nm to : Name} {n p : Int} {b : List UInt8} (hr : refuse d k nm to n b = 0) : Inv { d with fs := part d.fs k nm p b } := by
  unfold part
  by_cases k2 : k = 2
  · simp only [if_pos k2]
    unfold refuse at hr
    rw [if_neg (by omega)] at hr
    cases hf : get d.fs nm with
    | none => rw [hf] at hr; simp only at hr; omega
    | some f =>
      rw [hf] at hr
      simp only [if_pos k2] at hr
      have hsf := h.safe _ (get_mem hf)
      simp only at hsf
      split at hr
      · omega
      refine h.upd_ hf ?_ ?_
      · simp only [List.length_append]; omega
      · simp only [List.length_append, List.length_take]; omega
  · simp only [if_neg k2]
    exact h

theorem inv_op {d : D} (h : Inv d) (k : Nat) (nm to : Name) (n : Int) (b : List UInt8) : Inv (op d k nm to n b).2 := by
  unfold op
  split
  · exact h
  split
  · exact h.ops_ _ d.down d.tr
  · rename_i hr
    have hr' : refuse d k nm to n b = 0 := by omega
    split
    · exact (inv_act h hr').ops_ _ d.down d.tr
    · split
      · exact (inv_part h hr').ops_ _ true d.tr
      · exact (inv_part h hr').ops_ _ d.down d.tr

theorem keepN_le {f : Fl} {t : Option Int} (h : f.safe ≤ f.data.length) : f.safe + keepN f t ≤ f.data.length := by
  unfold keepN
  split
  · omega
  · omega
theorem crashF_names (tails : List Int) : ∀ (i : Nat) (l : Fs), (crashF tails i l).map (·.1) = l.map (·.1)
  | _, [] => rfl
  | i, p :: r => by simp [crashF, crashF_names tails (i + 1) r]
theorem crashF_get (tails : List Int) : ∀ (l : Fs) (i j : Nat) (q : Name × Fl), (crashF tails i l)[j]? = some q → ∃ p, l[j]? = some p ∧ q = (p.1, keep p.2 tails[i + j]?)
  | [], i, j, q, h => by simp [crashF] at h
  | p :: r, i, 0, q, h => by
    simp [crashF] at h
    exact ⟨p, rfl, by rw [Nat.add_zero]; exact h.symm⟩
  | p :: r, i, j + 1, q, h => by
    simp [crashF] at h
    obtain ⟨p', h1, h2⟩ := crashF_get tails r (i + 1) j q h
    exact ⟨p', by simpa using h1, by rw [h2, show i + 1 + j = i + (j + 1) by omega]⟩
theorem crashF_mem {tails : List Int} {i : Nat} {l : Fs} {q : Name × Fl} (h : q ∈ crashF tails i l) : ∃ p ∈ l, ∃ t, q = (p.1, keep p.2 t) := by
  obtain ⟨j, hj⟩ := List.mem_iff_getElem?.1 h
  obtain ⟨p, h1, h2⟩ := crashF_get tails l i j q hj
  exact ⟨p, List.mem_of_getElem? h1, _, h2⟩
theorem keep_len {f : Fl} {t : Option Int} (h : f.safe ≤ f.data.length) : (keep f t).data.length = f.safe + keepN f t := by
  have := keepN_le (t := t) h
  unfold keep
  simp only [List.length_take]
  omega
theorem crashF_used (tails : List Int) : ∀ (i : Nat) (l : Fs), (∀ p ∈ l, p.2.safe ≤ p.2.data.length) → used (crashF tails i l) ≤ used l
  | _, [], _ => Nat.le_refl _
  | i, p :: r, h => by
    have h1 := crashF_used tails (i + 1) r fun q hq => h q (List.mem_cons_of_mem _ hq)
    have h2 := h p (List.mem_cons_self ..)
    have h3 := keep_len (t := tails[i]?) h2
    have h4 := keepN_le (t := tails[i]?) h2
    rw [crashF, used_cons, used_cons]
    simp only
    omega
theorem up_of_names {α β : Type} {l : Al α} {l' : Al β} (h : l.map (·.1) = l'.map (·.1)) (hU : Up l) : Up l' := by
  unfold Up at hU ⊢
  have h1 := List.pairwise_map (f := fun p : Name × α => p.1) (l := l) (R := fun a b => bytesBefore a b = true)
  have h2 := List.pairwise_map (f := fun p : Name × β => p.1) (l := l') (R := fun a b => bytesBefore a b = true)
  rw [h] at h1
  exact h2.1 (h1.2 hU)
theorem inv_crash {d : D} (h : Inv d) (tails : List Int) : Inv (crash d tails) := by
  have hnm := crashF_names tails 0 d.fs
  refine ⟨up_of_names hnm.symm h.up, fun q hq => ?_, Nat.le_trans (crashF_used tails 0 d.fs h.safe) h.room, ?_, fun q hq => ?_⟩
  · obtain ⟨p, hp, t, rfl⟩ := crashF_mem hq
    exact Nat.le_refl _
  · have := congrArg List.length hnm
    rw [List.length_map, List.length_map] at this
    show (crashF tails 0 d.fs).length ≤ 64
    rw [this]
    exact h.most
  · obtain ⟨p, hp, t, rfl⟩ := crashF_mem hq
    exact h.names p hp
theorem inv_new (room : Int) : Inv (new room) := ⟨List.Pairwise.nil, fun p hp => (by cases hp), Nat.zero_le _, Nat.zero_le _, fun p hp => (by cases hp)⟩

theorem loadF_inv : ∀ (l : List In) (fs fs' : Fs), loadF l fs = some fs' → Up fs → (∀ p ∈ fs, p.2.safe ≤ p.2.data.length) → (∀ p ∈ fs, may p.1 = true) → Up fs' ∧ (∀ p ∈ fs', p.2.safe ≤ p.2.data.length) ∧ (∀ p ∈ fs', may p.1 = true) ∧ fs'.length = fs.length + l.length
  | [], fs, fs', h, h1, h2, h3 => by
    injection h with h
    subst h
    exact ⟨h1, h2, h3, rfl⟩
  | f :: r, fs, fs', h, h1, h2, h3 => by
    rw [loadF] at h
    split at h
    · cases h
    rename_i hno
    have hg : ¬ (get fs f.nm).isSome = true := fun e => hno (.inl e)
    have hm : may f.nm = true := by
      cases e : may f.nm
      · exact absurd (.inr (.inl e)) hno
      · rfl
    have hs : f.safe.toNat ≤ f.data.length := by
      have : ¬ (f.safe < 0 ∨ (f.data.length : Int) < f.safe) := fun e => hno (.inr (.inr e))
      omega
    obtain ⟨i1, i2, i3, i4⟩ := loadF_inv r _ fs' h (ins_up h1 (get_none' hg)) (fun p hp => by
      rcases ins_mem.1 hp with rfl | hp
      · exact hs
      · exact h2 p hp) (fun p hp => by
      rcases ins_mem.1 hp with rfl | hp
      · exact hm
      · exact h3 p hp)
    refine ⟨i1, i2, i3, ?_⟩
    rw [i4, ins_len, List.length_cons]
    omega

theorem inv_load {l : List In} {room : Int} {d : D} (h : load l room = some d) : Inv d ∧ d.down = false ∧ d.tr = [] ∧ d.ops = 0 ∧ d.room = room.toNat := by
  unfold load at h
  split at h
  · cases h
  rename_i fs hf
  split at h
  · cases h
  rename_i hno
  injection h with h
  subst h
  obtain ⟨h1, h2, h3, h4⟩ := loadF_inv l [] fs hf List.Pairwise.nil (fun p hp => (by cases hp)) (fun p hp => (by cases hp))
  refine ⟨⟨h1, h2, ?_, ?_, h3⟩, rfl, rfl, rfl, rfl⟩
  · show used fs ≤ room.toNat
    have : ¬ (room.toNat : Int) < used fs := fun e => hno (.inr e)
    omega
  · show fs.length ≤ 64
    rw [h4]
    have : ¬ 64 < l.length := fun e => hno (.inl e)
    simp
    omega

def toIn (p : Name × Fl) : In := ⟨p.1, p.2.data, p.2.safe⟩
theorem ins_last {α : Type} {nm : Name} {f : α} : ∀ {l : Al α}, (∀ p ∈ l, bytesBefore p.1 nm = true) → ins nm f l = l ++ [(nm, f)]
  | [], _ => rfl
  | p :: l, h => by
    have h1 := h p (List.mem_cons_self ..)
    have h2 : ¬ bytesBefore nm p.1 = true := fun e => by
      have := before_trans h1 e
      rw [before_irrefl] at this
      cases this
    rw [ins, if_neg h2, ins_last fun q hq => h q (List.mem_cons_of_mem _ hq)]
    rfl
theorem loadF_again : ∀ (l acc : Fs), Up (acc ++ l) → (∀ p ∈ l, p.2.safe ≤ p.2.data.length) → (∀ p ∈ l, may p.1 = true) → loadF (l.map toIn) acc = some (acc ++ l)
  | [], acc, _, _, _ => by rw [List.append_nil]; rfl
  | p :: l, acc, hU, hs, hm => by
    have hb : ∀ q ∈ acc, bytesBefore q.1 p.1 = true := fun q hq => (List.pairwise_append.1 hU).2.2 q hq p (List.mem_cons_self ..)
    have hg : get acc p.1 = none := get_none.2 fun q hq => before_ne (hb q hq)
    rw [List.map_cons, loadF, if_neg]
    · show loadF (l.map toIn) (ins p.1 ⟨p.2.data, ((p.2.safe : Nat) : Int).toNat⟩ acc) = _
      rw [Int.toNat_natCast, ins_last hb, loadF_again l _ (by rw [List.append_assoc]; exact hU) (fun q hq => hs q (List.mem_cons_of_mem _ hq)) (fun q hq => hm q (List.mem_cons_of_mem _ hq)), List.append_assoc]
      rfl
    · have h1 := hs p (List.mem_cons_self ..)
      have h2 := hm p (List.mem_cons_self ..)
      show ¬ ((get acc p.1).isSome = true ∨ may p.1 = false ∨ ((p.2.safe : Nat) : Int) < 0 ∨ (p.2.data.length : Int) < ((p.2.safe : Nat) : Int))
      rw [hg, h2]
      simp
      omega
theorem load_again {d : D} (h : Inv d) (room : Int) (hr : d.room ≤ room.toNat) : load (d.fs.map toIn) room = some { new room with fs := d.fs } := by
  unfold load
  rw [loadF_again d.fs [] h.up h.safe h.names]
  have := h.most
  have := h.room
  simp only [List.nil_append]
  rw [if_neg]
  rw [List.length_map]
  omega

/-! ### What is safe stays -/
def Kept (nm : Name) (b : List UInt8) (d : D) : Prop := ∃ f, get d.fs nm = some f ∧ b.length ≤ f.safe ∧ f.data.take b.length = b

theorem kept_upd {nm nm' : Name} {b : List UInt8} {d : D} {g : Fl → Fl} (h : Kept nm b d) (hg : ∀ f, get d.fs nm = some f → nm' = nm → b.length ≤ (g f).safe ∧ (g f).data.take b.length = b) : Kept nm b { d with fs := upd nm' g d.fs } := by
  obtain ⟨f, h1, h2, h3⟩ := h
  by_cases e : nm' = nm
  · refine ⟨g f, ?_, hg f h1 e⟩
    show get (upd nm' g d.fs) nm = _
    rw [get_upd, if_pos e, h1]
    rfl
  · refine ⟨f, ?_, h2, h3⟩
    show get (upd nm' g d.fs) nm = _
    rw [get_upd, if_neg e, h1]
theorem Kept.ops_ {nm : Name} {b : List UInt8} {d : D} (h : Kept nm b d) (n : Nat) (dn : Bool) (tr : List Tr) : Kept nm b { d with ops := n, down := dn, tr := tr } := h

theorem kept_act {nm0 : Name} {b0 : List UInt8} {d : D} (hI : Inv d) (h : Kept nm0 b0 d) {k : Nat} {nm to : Name} {n : Int} {b : List UInt8} (hr : refuse d k nm to n b = 0) (hno : ¬ ((k = 3 ∨ k = 5 ∨ 6 ≤ k ∨ k = 0) ∧ nm = nm0 ∨ k = 5 ∧ to = nm0)) : Kept nm0 b0 { d with fs := act d.fs k nm to n b } := by
  obtain ⟨f0, h1, h2, h3⟩ := id h
  have hs0 := hI.safe _ (get_mem h1)
  simp only at hs0
  unfold act
  by_cases k1 : k = 1
  · simp only [if_pos k1]
    unfold refuse at hr
    rw [if_pos k1] at hr
    split at hr
    · omega
    split at hr
    · omega
    rename_i hg
    refine ⟨f0, ?_, h2, h3⟩
    show get (ins nm _ d.fs) nm0 = _
    rw [get_ins (get_none' hg), if_neg, h1]
    rintro rfl
    rw [h1] at hg
    exact hg rfl
  simp only [if_neg k1]
  by_cases k2 : k = 2
  · simp only [if_pos k2]
    exact kept_upd h fun f hf _ => by
      rw [h1] at hf
      injection hf with hf
      subst hf
      refine ⟨h2, ?_⟩
      simp only
      rw [List.take_append_of_le_length (by omega), h3]
  simp only [if_neg k2]
  by_cases k3 : k = 3
  · simp only [if_pos k3]
    exact kept_upd h fun f hf e => absurd (.inl ⟨.inl k3, e⟩) hno
  simp only [if_neg k3]
  by_cases k4 : k = 4
  · simp only [if_pos k4]
    exact kept_upd h fun f hf _ => by
      rw [h1] at hf
      injection hf with hf
      subst hf
      exact ⟨by simp only; omega, h3⟩
  simp only [if_neg k4]
  by_cases k5 : k = 5
  · simp only [if_pos k5]
    cases hf : get d.fs nm with
    | none => exact h
    | some f =>
      simp only
      refine ⟨f0, ?_, h2, h3⟩
      show get (ins to f (del to (del nm d.fs))) nm0 = _
      rw [get_ins (fun p hp => (del_mem.1 hp).2), if_neg (fun e => hno (.inr ⟨k5, e⟩)), get_del, if_neg (fun e => hno (.inr ⟨k5, e⟩)), get_del, if_neg (fun e => hno (.inl ⟨.inr (.inl k5), e⟩)), h1]
  simp only [if_neg k5]
  refine ⟨f0, ?_, h2, h3⟩
  show get (del nm d.fs) nm0 = _
  rw [get_del, if_neg (fun e => hno (.inl ⟨by omega, e⟩)), h1]

theorem kept_part {nm0 : Name} {b0 : List UInt8} {d : D} (hI : Inv d) (h : Kept nm0 b0 d) (k : Nat) (nm : Name) (p : Int) (b : List UInt8) : Kept nm0 b0 { d with fs := part d.fs k nm p b } := by
  unfold part
  by_cases k2 : k = 2
  · simp only [if_pos k2]
    exact kept_upd h fun f hf _ => by
      obtain ⟨f0, h1, h2, h3⟩ := h
      rw [h1] at hf
      injection hf with hf
      subst hf
      have hs0 := hI.safe _ (get_mem h1)
      simp only at hs0
      refine ⟨h2, ?_⟩
      simp only
      rw [List.take_append_of_le_length (by omega), h3]
  · simp only [if_neg k2]
    exact h

theorem kept_op {nm0 : Name} {b0 : List UInt8} {d : D} (hI : Inv d) (h : Kept nm0 b0 d) {k : Nat} {nm to : Name} {n : Int} {b : List UInt8} (hno : ¬ ((k = 3 ∨ k = 5 ∨ 6 ≤ k ∨ k = 0) ∧ nm = nm0 ∨ k = 5 ∧ to = nm0)) : Kept nm0 b0 (op d k nm to n b).2 := by
  unfold op
  split
  · exact h
  split
  · exact h
  · rename_i hr
    have hr' : refuse d k nm to n b = 0 := by omega
    split
    · exact kept_act hI h hr' hno
    · split
      · exact kept_part hI h k nm _ b
      · exact kept_part hI h k nm _ b

theorem get_crash (tails : List Int) : ∀ (i : Nat) (l : Fs) (nm : Name) (f : Fl), get l nm = some f → ∃ t, get (crashF tails i l) nm = some (keep f t)
  | _, [], _, _, h => by simp [get_nil] at h
  | i, p :: r, nm, f, h => by
    rw [get_cons] at h
    rw [crashF, get_cons]
    split at h
    · rename_i e
      injection h with h
      rw [if_pos e, h]
      exact ⟨_, rfl⟩
    · rename_i e
      rw [if_neg e]
      exact get_crash tails (i + 1) r nm f h
theorem kept_crash {nm0 : Name} {b0 : List UInt8} {d : D} (hI : Inv d) (h : Kept nm0 b0 d) (tails : List Int) : Kept nm0 b0 (crash d tails) := by
  obtain ⟨f, h1, h2, h3⟩ := h
  obtain ⟨t, ht⟩ := get_crash tails 0 d.fs nm0 f h1
  have hs0 := hI.safe _ (get_mem h1)
  simp only at hs0
  have hk := keep_len (t := t) hs0
  refine ⟨keep f t, ht, ?_, ?_⟩
  · show b0.length ≤ (f.data.take (f.safe + keepN f t)).length
    have : (keep f t).data = f.data.take (f.safe + keepN f t) := rfl
    rw [← this, hk]
    omega
  · show (f.data.take (f.safe + keepN f t)).take b0.length = b0
    rw [List.take_take, show min b0.length (f.safe + keepN f t) = b0.length by omega, h3]
end Go.Proofs.YtfdpnjebhllpkaaGreatDoor.Dk
end
