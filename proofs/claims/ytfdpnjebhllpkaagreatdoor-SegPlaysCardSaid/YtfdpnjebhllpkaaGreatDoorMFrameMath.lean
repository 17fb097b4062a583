/- The plain mathematics of the layer frame. -/
import Derived.Test.YtfdpnjebhllpkaaGreatDoorMCrcMath
namespace Go.Proofs.YtfdpnjebhllpkaaGreatDoor.Fr

def by_ (v : Nat) : UInt8 := UInt8.ofNat (v % 256)
theorem by_nat (v : Nat) : (by_ v).toNat = v % 256 := by unfold by_; rw [UInt8.toNat_ofNat']; omega

/-- A number of 32 bits as four bytes, the least first. -/
def le (v : Nat) : List UInt8 := [by_ v, by_ (v / 256), by_ (v / 65536), by_ (v / 16777216)]

/-- The number of the first four bytes. -/
def get : List UInt8 → Nat
  | a :: b :: c :: d :: _ => a.toNat + 256 * b.toNat + 65536 * c.toNat + 16777216 * d.toNat
  | _ => 0

@[simp] theorem le_length (v : Nat) : (le v).length = 4 := rfl

theorem get_le (v : Nat) (hv : v < 4294967296) (r : List UInt8) : get (le v ++ r) = v := by
  show (by_ v).toNat + 256 * (by_ (v / 256)).toNat + 65536 * (by_ (v / 65536)).toNat + 16777216 * (by_ (v / 16777216)).toNat = v
  simp only [by_nat]
  omega

theorem le_get (l : List UInt8) (h : 4 ≤ l.length) : le (get l) = l.take 4 := by
  match l, h with
  | a :: b :: c :: d :: r, _ =>
    have ha := a.toNat_lt; have hb := b.toNat_lt; have hc := c.toNat_lt; have hd := d.toNat_lt
    show le (a.toNat + 256 * b.toNat + 65536 * c.toNat + 16777216 * d.toNat) = [a, b, c, d]
    unfold le
    congr 1
    · apply UInt8.toNat_inj.1; rw [by_nat]; omega
    congr 1
    · apply UInt8.toNat_inj.1; rw [by_nat]; omega
    congr 1
    · apply UInt8.toNat_inj.1; rw [by_nat]; omega
    congr 1
    · apply UInt8.toNat_inj.1; rw [by_nat]; omega

theorem get_lt (l : List UInt8) : get l < 4294967296 := by
  unfold get
  split
  · rename_i a b c d _
    have ha := a.toNat_lt; have hb := b.toNat_lt; have hc := c.toNat_lt; have hd := d.toNat_lt
    omega
  · omega

/-- The sum of a frame. -/
def fsum (len r : List UInt8) : Nat := Crc.sum (len ++ r)

theorem fsum_lt (len r : List UInt8) : fsum len r < 4294967296 := Crc.on_lt _ _

/-- A record's frame. -/
def frame (r : List UInt8) : List UInt8 := le r.length ++ (le (fsum (le r.length) r) ++ r)

/-- What Put gives. -/
def put (r : List UInt8) : List UInt8 := if r.length < 1 ∨ 1048576 < r.length then [] else frame r

theorem frame_length (r : List UInt8) : (frame r).length = 8 + r.length := by simp [frame]; omega

/-- The record at the beginning, how far it goes, what stands there. -/
def next (b : List UInt8) : List UInt8 × Nat × Nat :=
  if b.length = 0 then ([], 0, 2)
  else if b.length < 4 then ([], 0, 3)
  else if get b < 1 ∨ 1048576 < get b then ([], 0, 4)
  else if b.length < 8 + get b then ([], 0, 3)
  else if fsum (b.take 4) ((b.drop 8).take (get b)) ≠ get (b.drop 4) then ([], 0, 4)
  else ((b.drop 8).take (get b), 8 + get b, 1)

theorem next_cases (b : List UInt8) : (next b).2.2 = 1 ∧ (next b).2.1 ≤ b.length ∧ 9 ≤ (next b).2.1 ∨ (next b).1 = [] ∧ (next b).2.1 = 0 ∧ ((next b).2.2 = 2 ∨ (next b).2.2 = 3 ∨ (next b).2.2 = 4) := by
  unfold next
  split
  · exact .inr ⟨rfl, rfl, .inl rfl⟩
  split
  · exact .inr ⟨rfl, rfl, .inr (.inl rfl)⟩
  split
  · exact .inr ⟨rfl, rfl, .inr (.inr rfl)⟩
  split
  · exact .inr ⟨rfl, rfl, .inr (.inl rfl)⟩
  split
  · exact .inr ⟨rfl, rfl, .inr (.inr rfl)⟩
  · exact .inl ⟨rfl, (by show 8 + get b ≤ b.length; omega), (by show 9 ≤ 8 + get b; omega)⟩

/-- A frame is read as its record, whatever stands behind. -/
theorem next_frame (r b : List UInt8) (h1 : 1 ≤ r.length) (h2 : r.length ≤ 1048576) : next (frame r ++ b) = (r, 8 + r.length, 1) := by
  have hl := frame_length r
  have hg : get (frame r ++ b) = r.length := by
    unfold frame
    rw [List.append_assoc]
    exact get_le _ (by omega) _
  have hd : (frame r ++ b).drop 4 = le (fsum (le r.length) r) ++ (r ++ b) := by
    unfold frame
    rw [List.append_assoc, List.drop_append_of_le_length (by simp), List.append_assoc]
    rfl
  have hd8 : (frame r ++ b).drop 8 = r ++ b := by
    have : (frame r ++ b).drop 8 = ((frame r ++ b).drop 4).drop 4 := by rw [List.drop_drop]
    rw [this, hd, List.drop_append_of_le_length (by simp)]
    rfl
  have ht : (frame r ++ b).take 4 = le r.length := by
    unfold frame
    rw [List.append_assoc, List.take_append_of_le_length (by simp)]
    rfl
  have hr : (r ++ b).take r.length = r := by simp
  unfold next
  rw [hg, hd, hd8, ht, hr, get_le _ (fsum_lt _ _)]
  simp only [List.length_append, hl]
  rw [if_neg (by omega), if_neg (by omega), if_neg (by omega), if_neg (by omega), if_neg (by simp)]

/-- All records, how far they go, what stands behind. -/
def allF : Nat → List UInt8 → List (List UInt8) × Nat × Nat
  | 0, b => ([], 0, (next b).2.2)
  | f + 1, b =>
    if (next b).2.2 = 1 then
      ((next b).1 :: (allF f (b.drop (next b).2.1)).1, (next b).2.1 + (allF f (b.drop (next b).2.1)).2.1, (allF f (b.drop (next b).2.1)).2.2)
    else ([], 0, (next b).2.2)

def all (b : List UInt8) : List (List UInt8) × Nat × Nat := allF b.length b

theorem allF_more (f g : Nat) (b : List UInt8) (hf : b.length ≤ f) (hg : b.length ≤ g) : allF f b = allF g b := by
  induction f generalizing g b with
  | zero =>
    have hb : b = [] := List.eq_nil_of_length_eq_zero (by omega)
    subst hb
    cases g <;> rfl
  | succ f ih =>
    rcases next_cases b with ⟨h1, h2, h3⟩ | ⟨h1, h2, h3⟩
    · cases g with
      | zero => omega
      | succ g =>
        unfold allF
        rw [if_pos h1, if_pos h1, ih g _ (by rw [List.length_drop]; omega) (by rw [List.length_drop]; omega)]
    · have hne : (next b).2.2 ≠ 1 := by omega
      cases g with
      | zero => unfold allF; rw [if_neg hne]
      | succ g => unfold allF; rw [if_neg hne, if_neg hne]

theorem all_whole (b : List UInt8) (h : (next b).2.2 = 1) :
    all b = ((next b).1 :: (all (b.drop (next b).2.1)).1, (next b).2.1 + (all (b.drop (next b).2.1)).2.1, (all (b.drop (next b).2.1)).2.2) := by
  rcases next_cases b with ⟨h1, h2, h3⟩ | ⟨h1, h2, h3⟩
  · have hm := allF_more b.length (b.length - 1 + 1) b (by omega) (by omega)
    unfold all
    rw [hm]
    conv => lhs; unfold allF
    rw [if_pos h, allF_more (b.length - 1) (b.drop (next b).2.1).length _ (by rw [List.length_drop]; omega) (Nat.le_refl _)]
  · omega

theorem all_not (b : List UInt8) (h : (next b).2.2 ≠ 1) : all b = ([], 0, (next b).2.2) := by
  unfold all
  cases b.length with
  | zero => rfl
  | succ n => unfold allF; rw [if_neg h]

theorem all_le (b : List UInt8) : (all b).2.1 ≤ b.length := by
  unfold all
  generalize hf : b.length = f
  have hl : b.length ≤ f := by omega
  clear hf
  suffices h : ∀ (f : Nat) (b : List UInt8), b.length ≤ f → (allF f b).2.1 ≤ b.length by
    have := h f b hl
    have hh : b.length ≤ f := hl
    omega
  intro f
  induction f with
  | zero => intro b _; simp [allF]
  | succ f ih =>
    intro b hb
    unfold allF
    split
    · rename_i h1
      rcases next_cases b with ⟨_, h2, h3⟩ | ⟨_, _, h3⟩
      · have := ih (b.drop (next b).2.1) (by rw [List.length_drop]; omega)
        rw [List.length_drop] at this
        show (next b).2.1 + _ ≤ _
        omega
      · omega
    · simp

/-- What the loop keeps: so much has been read. -/
def Upto (b : List UInt8) (ls : List (List UInt8)) (g : Nat) : Prop :=
  g ≤ b.length ∧ all b = (ls ++ (all (b.drop g)).1, g + (all (b.drop g)).2.1, (all (b.drop g)).2.2)

theorem upto_start (b : List UInt8) : Upto b [] 0 := ⟨by omega, by simp⟩

theorem upto_step {b : List UInt8} {ls : List (List UInt8)} {g : Nat} (h : Upto b ls g) (h1 : (next (b.drop g)).2.2 = 1) :
    Upto b (ls ++ [(next (b.drop g)).1]) (g + (next (b.drop g)).2.1) := by
  obtain ⟨hg, ha⟩ := h
  have hw := all_whole _ h1
  rcases next_cases (b.drop g) with ⟨_, h2, h3⟩ | ⟨_, _, h3⟩
  · rw [List.length_drop] at h2
    refine ⟨by omega, ?_⟩
    rw [ha, hw, List.drop_drop]
    simp [Nat.add_assoc]
  · omega

theorem upto_end {b : List UInt8} {ls : List (List UInt8)} {g : Nat} (h : Upto b ls g) (h1 : (next (b.drop g)).2.2 ≠ 1) :
    all b = (ls, g, (next (b.drop g)).2.2) := by
  rw [h.2, all_not _ h1]
  simp

/-- A frame ahead. -/
theorem all_frame (r b : List UInt8) (h1 : 1 ≤ r.length) (h2 : r.length ≤ 1048576) :
    all (frame r ++ b) = (r :: (all b).1, 8 + r.length + (all b).2.1, (all b).2.2) := by
  have hn := next_frame r b h1 h2
  have := all_whole (frame r ++ b) (by rw [hn])
  rw [this, hn]
  have hd : (frame r ++ b).drop (8 + r.length) = b := by
    rw [← frame_length r]; simp
  simp only
  rw [hd]

/-- Some records' frames, one behind the other; the records that have one. -/
def puts (ls : List (List UInt8)) : List UInt8 := (ls.map put).flatten
def whole (ls : List (List UInt8)) : List (List UInt8) := ls.filter fun r => decide (0 < r.length)

theorem puts_append (a b : List (List UInt8)) : puts (a ++ b) = puts a ++ puts b := by simp [puts]

theorem all_puts (ls : List (List UInt8)) (b : List UInt8) (h : ∀ r ∈ ls, r.length ≤ 1048576) :
    all (puts ls ++ b) = (whole ls ++ (all b).1, (puts ls).length + (all b).2.1, (all b).2.2) := by
  induction ls with
  | nil => simp [puts, whole]
  | cons r ls ih =>
    have ih' := ih (fun x hx => h x (by simp [hx]))
    have hr := h r (by simp)
    have e : puts (r :: ls) = put r ++ puts ls := by simp [puts]
    rw [e, List.append_assoc]
    unfold put
    by_cases h0 : r.length < 1
    · rw [if_pos (by omega)]
      have : whole (r :: ls) = whole ls := by unfold whole; rw [List.filter_cons_of_neg (by simp only [decide_eq_true_eq]; omega)]
      rw [this]
      simpa using ih'
    · rw [if_neg (by omega), all_frame r _ (by omega) hr, ih']
      have : whole (r :: ls) = r :: whole ls := by unfold whole; rw [List.filter_cons_of_pos (by simp; omega)]
      rw [this]
      simp only [List.length_append, frame_length, List.cons_append]
      congr 2
      omega

theorem puts_take {ls : List (List UInt8)} {k : Nat} {l : List UInt8} (h : ls[k]? = some l) : puts (ls.take (k + 1)) = puts (ls.take k) ++ put l := by
  rw [List.take_add_one, h]
  simp [puts]

theorem whole_take1 {ls : List (List UInt8)} {k : Nat} {l : List UInt8} (h : ls[k]? = some l) (h0 : 0 < l.length) : whole (ls.take (k + 1)) = whole (ls.take k) ++ [l] := by
  rw [List.take_add_one, h]
  unfold whole
  rw [List.filter_append]
  congr 1
  show List.filter _ [l] = [l]
  rw [List.filter_cons_of_pos (by simp; omega)]
  rfl

theorem whole_take0 {ls : List (List UInt8)} {k : Nat} {l : List UInt8} (h : ls[k]? = some l) (h0 : l.length = 0) : whole (ls.take (k + 1)) = whole (ls.take k) := by
  rw [List.take_add_one, h]
  unfold whole
  rw [List.filter_append]
  show _ ++ List.filter _ [l] = _
  rw [List.filter_cons_of_neg (by simp only [decide_eq_true_eq]; omega)]
  simp

theorem put_length_le (l : List UInt8) : (put l).length ≤ 8 + l.length := by
  unfold put
  split
  · simp
  · rw [frame_length]; omega

theorem puts_le (ls : List (List UInt8)) : (puts ls).length ≤ 8 * ls.length + ls.flatten.length := by
  induction ls with
  | nil => simp [puts]
  | cons l ls ih =>
    have e : puts (l :: ls) = put l ++ puts ls := by simp [puts]
    have := put_length_le l
    rw [e, List.length_append, List.length_cons, List.flatten_cons, List.length_append]
    omega

theorem puts_take_le (ls : List (List UInt8)) (k : Nat) : (puts (ls.take k)).length ≤ (puts ls).length := by
  have h := congrArg List.length (puts_append (ls.take k) (ls.drop k))
  rw [List.take_append_drop, List.length_append] at h
  omega

theorem whole_le (ls : List (List UInt8)) : (whole ls).length ≤ ls.length := List.length_filter_le _ _

theorem all_puts_end (ls : List (List UInt8)) (h : ∀ r ∈ ls, r.length ≤ 1048576) : all (puts ls) = (whole ls, (puts ls).length, 2) := by
  have := all_puts ls [] h
  rw [List.append_nil] at this
  rw [this]
  have e : all [] = ([], 0, 2) := rfl
  rw [e]
  simp

/-! Frames of which bytes are missing at the end. -/

theorem tears (ls : List (List UInt8)) (h : ∀ r ∈ ls, r.length ≤ 1048576) (n i : Nat) (hat : (puts (ls.take i)).length ≤ n) :
    all ((puts ls).take n) = (whole (ls.take i) ++ (all ((puts (ls.drop i)).take (n - (puts (ls.take i)).length))).1,
      (puts (ls.take i)).length + (all ((puts (ls.drop i)).take (n - (puts (ls.take i)).length))).2.1, (all ((puts (ls.drop i)).take (n - (puts (ls.take i)).length))).2.2) := by
  have e : (puts ls).take n = puts (ls.take i) ++ (puts (ls.drop i)).take (n - (puts (ls.take i)).length) := by
    have hs : puts ls = puts (ls.take i) ++ puts (ls.drop i) := by rw [← puts_append, List.take_append_drop]
    rw [hs, List.take_append, List.take_of_length_le hat]
  rw [e, all_puts _ _ (fun r hr => h r (List.mem_of_mem_take hr))]

theorem next_stop (r b : List UInt8) (m : Nat) (h1 : 1 ≤ r.length) (h2 : r.length ≤ 1048576) (hm : m < 8 + r.length) :
    next ((frame r ++ b).take m) = ([], 0, if m = 0 then 2 else 3) := by
  have hl : ((frame r ++ b).take m).length = m := by
    rw [List.length_take, List.length_append, frame_length]; omega
  have e : (frame r ++ b).take m = (frame r).take m := by
    rw [List.take_append_of_le_length (by rw [frame_length]; omega)]
  unfold next
  rw [hl]
  by_cases h0 : m = 0
  · rw [if_pos h0, if_pos h0]
  rw [if_neg h0, if_neg h0]
  by_cases h4 : m < 4
  · rw [if_pos h4]
  rw [if_neg h4]
  have hg : get ((frame r ++ b).take m) = r.length := by
    have : (frame r ++ b).take m = le r.length ++ ((le (fsum (le r.length) r) ++ r) ++ b).take (m - 4) := by
      unfold frame
      rw [List.append_assoc, List.take_append, List.take_of_length_le (by simp; omega)]
      rfl
    rw [this]
    exact get_le _ (by omega) _
  rw [hg, if_neg (by omega), if_pos (by omega)]

theorem tear_stop (ls : List (List UInt8)) (h : ∀ r ∈ ls, r.length ≤ 1048576) (n i : Nat) (l : List UInt8) (hl : ls[i]? = some l) (h0 : 0 < l.length) (hat : (puts (ls.take i)).length ≤ n)
    (hst : n < (puts (ls.take i)).length + 8 + l.length) :
    all ((puts ls).take n) = (whole (ls.take i), (puts (ls.take i)).length, if n = (puts (ls.take i)).length then 2 else 3) := by
  have hm := List.mem_of_getElem? hl
  have hd : puts (ls.drop i) = frame l ++ puts (ls.drop (i + 1)) := by
    have hlt := (List.getElem?_eq_some_iff.1 hl)
    obtain ⟨hlt, hle⟩ := hlt
    rw [List.drop_eq_getElem_cons hlt, hle]
    show puts (l :: _) = _
    have : put l = frame l := by unfold put; rw [if_neg (by have := h l hm; omega)]
    simp [puts, this]
  have hs := next_stop l (puts (ls.drop (i + 1))) (n - (puts (ls.take i)).length) h0 (h l hm) (by omega)
  rw [tears ls h n i hat, hd, all_not _ (by rw [hs]; simp only; split <;> omega), hs]
  simp only [List.append_nil, Nat.add_zero]
  congr 2
  by_cases h5 : n = (puts (ls.take i)).length
  · rw [if_pos h5, if_pos (by omega)]
  · rw [if_neg h5, if_neg (by omega)]

theorem tear_end (ls : List (List UInt8)) (h : ∀ r ∈ ls, r.length ≤ 1048576) (n : Nat) (hn : n = (puts ls).length) :
    all ((puts ls).take n) = (whole ls, (puts ls).length, 2) := by
  subst hn
  rw [List.take_length]
  exact all_puts_end ls h

theorem tear_at (ls : List (List UInt8)) (h : ∀ r ∈ ls, r.length ≤ 1048576) (n i : Nat) (l : List UInt8) (hl : ls[i]? = some l) (h0 : 0 < l.length)
    (hst : (puts (ls.take i)).length + 8 + l.length ≤ n) :
    (all ((puts ls).take n)).1[(whole (ls.take i)).length]? = some l ∧ (puts (ls.take (i + 1))).length = (puts (ls.take i)).length + 8 + l.length := by
  have hm := List.mem_of_getElem? hl
  have hp : put l = frame l := by unfold put; rw [if_neg (by have := h l hm; omega)]
  have e : (puts (ls.take (i + 1))).length = (puts (ls.take i)).length + 8 + l.length := by
    rw [puts_take hl, List.length_append, hp, frame_length]; omega
  refine ⟨?_, e⟩
  rw [tears ls h n (i + 1) (by omega), whole_take1 hl h0]
  simp

theorem all_count (b : List UInt8) : (all b).1.length ≤ (all b).2.1 := by
  unfold all
  suffices h : ∀ (f : Nat) (b : List UInt8), (allF f b).1.length ≤ (allF f b).2.1 from h _ b
  intro f
  induction f with
  | zero => intro b; simp [allF]
  | succ f ih =>
    intro b
    unfold allF
    split
    · rename_i h1
      rcases next_cases b with ⟨_, h2, h3⟩ | ⟨_, _, h3⟩
      · have := ih (b.drop (next b).2.1)
        simp only [List.length_cons]
        omega
      · omega
    · simp

/-- A frame's head, and another record of the same length behind it. -/
theorem next_head (n : Nat) (l r : List UInt8) (hr : r.length = n) (h1 : 1 ≤ n) (h2 : n ≤ 1048576) :
    next ((le n ++ le (fsum (le n) l)) ++ r) = if fsum (le n) r ≠ fsum (le n) l then ([], 0, 4) else (r, 8 + n, 1) := by
  have hg : get ((le n ++ le (fsum (le n) l)) ++ r) = n := by
    rw [List.append_assoc]
    exact get_le _ (by omega) _
  have hd : ((le n ++ le (fsum (le n) l)) ++ r).drop 4 = le (fsum (le n) l) ++ r := by
    rw [List.append_assoc, List.drop_append_of_le_length (by simp)]
    rfl
  have hd8 : ((le n ++ le (fsum (le n) l)) ++ r).drop 8 = r := by
    have : ((le n ++ le (fsum (le n) l)) ++ r).drop 8 = (((le n ++ le (fsum (le n) l)) ++ r).drop 4).drop 4 := by rw [List.drop_drop]
    rw [this, hd, List.drop_append_of_le_length (by simp)]
    rfl
  have ht : ((le n ++ le (fsum (le n) l)) ++ r).take 4 = le n := by
    rw [List.append_assoc, List.take_append_of_le_length (by simp)]
    rfl
  have hrr : r.take n = r := List.take_of_length_le (by omega)
  unfold next
  rw [hg, hd, hd8, ht, hrr, get_le _ (fsum_lt _ _)]
  simp only [List.length_append, le_length, hr]
  rw [if_neg (by omega), if_neg (by omega), if_neg (by omega), if_neg (by omega)]

end Go.Proofs.YtfdpnjebhllpkaaGreatDoor.Fr
