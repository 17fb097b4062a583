/- Sets as texts: the plain laws. -/
import Derived.Test.YtppmnelgekhbnaaGreatDoorIvMath
import Derived.Lib.Join
import Derived.Lib.Split
import Derived.Lib.SplitLaws
import Derived.Lib.IndexBytes
import Derived.Lib.IndexMore
import Derived.Lib.ItoaNum
import Derived.Lib.AtoiTie
import Derived.Lib.AtoiAllCases
namespace Go.Proofs.YtppmnelgekhbnaaGreatDoor.Iv
open Go.Lib

/-- A number's digits. -/
def dec (z : Int) : List UInt8 := Lib.itoa z
theorem dec_nat (n : Nat) : dec n = decDigits n := by
  unfold dec Lib.itoa
  rw [if_neg (by omega)]
  rfl

/-- One span's text. -/
def it (p : Span) : List UInt8 := if p.1 < p.2 then dec p.1 ++ 45 :: dec p.2 else dec p.1
/-- The text of spans. -/
def textP (l : List Span) : List UInt8 := Lib.join (l.map it) [44]

theorem decFrom_append (a b : List UInt8) : ∀ acc, decFrom acc (a ++ b) = (decFrom acc a).bind fun m => decFrom m b := by
  induction a with
  | nil => intro acc; rfl
  | cons x r ih =>
    intro acc
    rw [List.cons_append, decFrom, decFrom]
    cases digitVal x with
    | none => rfl
    | some d => exact ih _

theorem digit_nat (d : Nat) (h : d < 10) : digitVal (UInt8.ofNat (48 + d)) = some d := by
  unfold digitVal
  rw [UInt8.toNat_ofNat', Nat.mod_eq_of_lt (by omega), if_pos (by omega)]
  congr 1
  omega

theorem decFrom_one (acc : Nat) (b : UInt8) (d : Nat) (h : digitVal b = some d) : decFrom acc [b] = some (acc * 10 + d) := by simp [decFrom, h]

theorem decFrom_dec (n : Nat) : decFrom 0 (decDigits n) = some n := by
  induction n using Nat.strongRecOn with
  | ind n ih =>
    rw [decDigits]
    by_cases h : n < 10
    · rw [dif_pos h, decFrom_one _ _ _ (digit_nat n h)]
      simp
    · rw [dif_neg h, decFrom_append, ih (n / 10) (by omega)]
      show decFrom (n / 10) [UInt8.ofNat (48 + n % 10)] = some n
      rw [decFrom_one _ _ _ (digit_nat _ (by omega))]
      congr 1
      omega

theorem dec_digit (n : Nat) : ∀ b ∈ decDigits n, 48 ≤ b.toNat ∧ b.toNat ≤ 57 := by
  induction n using Nat.strongRecOn with
  | ind n ih =>
    rw [decDigits]
    by_cases h : n < 10
    · rw [dif_pos h]
      intro b hb
      rw [List.mem_singleton] at hb
      subst hb
      rw [UInt8.toNat_ofNat', Nat.mod_eq_of_lt (by omega)]
      omega
    · rw [dif_neg h]
      intro b hb
      rcases List.mem_append.1 hb with hb | hb
      · exact ih _ (by omega) b hb
      · rw [List.mem_singleton] at hb
        subst hb
        rw [UInt8.toNat_ofNat', Nat.mod_eq_of_lt (by omega)]
        omega

theorem dec_ne (n : Nat) : decDigits n ≠ [] := by
  rw [decDigits]
  split <;> simp

theorem dec_len {n k : Nat} (h : n < 10 ^ (k + 1)) : (decDigits n).length ≤ k + 1 := by
  induction k generalizing n with
  | zero => rw [decDigits, dif_pos (by simpa using h)]; simp
  | succ k ih =>
    rw [decDigits]
    by_cases h1 : n < 10
    · rw [dif_pos h1]; simp
    · rw [dif_neg h1, List.length_append, List.length_singleton]
      have := ih (n := n / 10) (by rw [Nat.pow_succ] at h; omega)
      omega

theorem atoi_dec {n : Nat} (h : n ≤ 200) : atoiAll (decDigits n) = .ok (n : Int) := by
  have hl : (decDigits n).length ≤ 3 := dec_len (k := 2) (by omega)
  rw [atoiAll_short _ (by omega)]
  have hne := dec_ne n
  have hd := dec_digit n
  have hf := decFrom_dec n
  generalize decDigits n = l at *
  cases l with
  | nil => exact absurd rfl hne
  | cons b r =>
    have hb := hd b (by simp)
    have e1 : (b == 45) = false := by rw [beq_eq_false_iff_ne]; rintro rfl; simp at hb
    have e2 : (b == 43) = false := by rw [beq_eq_false_iff_ne]; rintro rfl; simp at hb
    unfold atoi
    simp only [e1, e2, Bool.false_eq_true, if_false]
    unfold decNat
    rw [if_neg (by simp), hf]
    rfl

/-! The text cut into pieces. -/

theorem indexByte_app {a b : List UInt8} {c : UInt8} (h : ∀ x ∈ a, x ≠ c) : indexByte (a ++ c :: b) c = a.length := by
  induction a with
  | nil => simp [indexByte]
  | cons x a ih =>
    have hx : (x == c) = false := by rw [beq_eq_false_iff_ne]; exact h x (by simp)
    have := ih (fun y hy => h y (by simp [hy]))
    rw [List.cons_append, indexByte, hx, this]
    simp only [Bool.false_eq_true, if_false]
    rw [if_neg (by rw [beq_iff_eq]; omega)]
    simp

theorem indexByte_no {a : List UInt8} {c : UInt8} (h : ∀ x ∈ a, x ≠ c) : indexByte a c = -1 := by
  induction a with
  | nil => rfl
  | cons x a ih =>
    have hx : (x == c) = false := by rw [beq_eq_false_iff_ne]; exact h x (by simp)
    rw [indexByte, hx, ih (fun y hy => h y (by simp [hy]))]
    rfl

theorem it_no44 {p : Span} (h1 : 0 ≤ p.1) (h2 : 0 ≤ p.2) : ∀ b ∈ it p, b ≠ 44 := by
  obtain ⟨f, t⟩ := p
  obtain ⟨f, rfl⟩ : ∃ k : Nat, f = k := ⟨f.toNat, by simp only at h1; omega⟩
  obtain ⟨t, rfl⟩ : ∃ k : Nat, t = k := ⟨t.toNat, by simp only at h2; omega⟩
  unfold it
  intro b hb
  simp only [dec_nat] at hb
  have key : ∀ n, ∀ b ∈ decDigits n, b ≠ 44 := fun n b hb e => by
    have := dec_digit n b hb
    subst e
    simp at this
  split at hb
  · rcases List.mem_append.1 hb with hb | hb
    · exact key _ b hb
    · rcases List.mem_cons.1 hb with rfl | hb
      · decide
      · exact key _ b hb
  · exact key _ b hb

theorem no45 (n : Nat) : ∀ b ∈ decDigits n, b ≠ 45 := fun b hb e => by
  have := dec_digit n b hb
  subst e
  simp at this

/-- The spans that a piece tells. -/
def item (x : List UInt8) : Option Span :=
  match atoiAll (Lib.cut x [45]).1, atoiAll (if (Lib.cut x [45]).2.2 then (Lib.cut x [45]).2.1 else (Lib.cut x [45]).1) with
  | .ok f, .ok t => some (f, t)
  | _, _ => none

def items : List (List UInt8) → Option (List Span)
  | [] => some []
  | x :: r => match item x with
    | none => none
    | some p => match items r with
      | none => none
      | some l => some (p :: l)

theorem cut_dash {a b : List UInt8} (h : ∀ x ∈ a, x ≠ 45) : Lib.cut (a ++ 45 :: b) [45] = (a, b, true) := by
  unfold Lib.cut
  rw [index_one, indexByte_app h, if_pos (by omega)]
  simp

theorem cut_none {a : List UInt8} (h : ∀ x ∈ a, x ≠ 45) : Lib.cut a [45] = (a, [], false) := by
  unfold Lib.cut
  rw [index_one, indexByte_no h, if_neg (by omega)]

theorem item_it {p : Span} (h1 : 0 ≤ p.1) (h2 : p.1 ≤ p.2) (h3 : p.2 ≤ 200) : item (it p) = some p := by
  obtain ⟨f, t⟩ := p
  simp only at h1 h2 h3
  obtain ⟨f, rfl⟩ : ∃ k : Nat, f = k := ⟨f.toNat, by omega⟩
  obtain ⟨t, rfl⟩ : ∃ k : Nat, t = k := ⟨t.toNat, by omega⟩
  unfold item it
  simp only [dec_nat]
  by_cases h : (f : Int) < t
  · rw [if_pos h, cut_dash (no45 f)]
    simp only [if_true]
    rw [atoi_dec (show f ≤ 200 by omega), atoi_dec (show t ≤ 200 by omega)]
  · rw [if_neg h, cut_none (no45 f)]
    simp only [Bool.false_eq_true, if_false]
    rw [atoi_dec (show f ≤ 200 by omega)]
    have : f = t := by omega
    rw [this]

theorem items_it : ∀ {l : List Span}, (∀ p ∈ l, 0 ≤ p.1 ∧ p.1 ≤ p.2 ∧ p.2 ≤ 200) → items (l.map it) = some l
  | [], _ => rfl
  | p :: l, h => by
    obtain ⟨h1, h2, h3⟩ := h p (by simp)
    rw [List.map_cons, items, item_it h1 h2 h3, items_it (fun q hq => h q (by simp [hq]))]

theorem join_two (x y : List UInt8) (r : List (List UInt8)) : Lib.join (x :: y :: r) [44] = x ++ 44 :: Lib.join (y :: r) [44] := by
  rw [join_cons, join_cons]
  unfold joinTail
  simp

theorem splitK_join : ∀ (xs : List (List UInt8)) (x : List UInt8), (∀ y ∈ x :: xs, ∀ b ∈ y, b ≠ 44) → splitK [44] 0 xs.length (Lib.join (x :: xs) [44]) = x :: xs
  | [], x, _ => by rw [join_one]; rfl
  | y :: r, x, h => by
    have hx := h x (by simp)
    rw [join_two, List.length_cons, splitK, index_one, indexByte_app hx]
    rw [if_neg (by rw [beq_iff_eq]; omega)]
    have e1 : ((x.length : Int)).toNat = x.length := by omega
    rw [e1]
    have := splitK_join r y (fun z hz => h z (by simp [hz]))
    simp only [Nat.add_zero, List.length_singleton]
    rw [List.take_left', show x ++ 44 :: Lib.join (y :: r) [44] = (x ++ [44]) ++ Lib.join (y :: r) [44] by simp, List.drop_left' (by simp), this]
    rfl

theorem count_join : ∀ (xs : List (List UInt8)) (x : List UInt8), (∀ y ∈ x :: xs, ∀ b ∈ y, b ≠ 44) → (Lib.join (x :: xs) [44]).count 44 = xs.length
  | [], x, h => by
    rw [join_one, List.length_nil, List.count_eq_zero]
    intro hm
    exact h x (by simp) 44 hm rfl
  | y :: r, x, h => by
    rw [join_two, List.count_append, List.count_cons_self, count_join r y (fun z hz => h z (by simp [hz]))]
    have : x.count 44 = 0 := by
      rw [List.count_eq_zero]
      intro hm
      exact h x (by simp) 44 hm rfl
    rw [this, List.length_cons]
    omega

/-- What ivset.Parse tells of a text. -/
def parse? (s : List UInt8) : Option (List Span) :=
  if s = [] then some [] else
  match items (splitK [44] 0 (s.count 44) s) with
  | none => none
  | some l => if okB 1 l && decide (textP l = s) then some l else none

theorem it_ne {p : Span} (h1 : 0 ≤ p.1) : it p ≠ [] := by
  obtain ⟨f, t⟩ := p
  simp only at h1
  obtain ⟨f, rfl⟩ : ∃ k : Nat, f = k := ⟨f.toNat, by omega⟩
  unfold it
  simp only [dec_nat]
  split
  · simp
  · exact dec_ne f

theorem ok_all : ∀ {l : List Span} {b : Int}, ok b l → 0 ≤ b → ∀ p ∈ l, 0 ≤ p.1 ∧ p.1 ≤ p.2 ∧ p.2 ≤ 200
  | [], _, _, _, _, h => by cases h
  | (f, t) :: r, b, h, hb, p, hp => by
    obtain ⟨h1, h2, h3, h4⟩ := h
    rcases List.mem_cons.1 hp with rfl | hp
    · exact ⟨by simp only; omega, h2, h3⟩
    · exact ok_all h4 (by omega) p hp

theorem parse_iff (s : List UInt8) (l : List Span) : parse? s = some l ↔ okB 1 l = true ∧ textP l = s := by
  unfold parse?
  by_cases hs : s = []
  · subst hs
    rw [if_pos rfl]
    constructor
    · intro h; injection h with h; subst h; exact ⟨rfl, rfl⟩
    · rintro ⟨h1, h2⟩
      cases l with
      | nil => rfl
      | cons p r =>
        exfalso
        have hp := ok_all ((okB_iff _ _).1 h1) (by omega) p (by simp)
        unfold textP at h2
        rw [List.map_cons, join_cons] at h2
        exact it_ne hp.1 (List.append_eq_nil_iff.1 h2).1
  · rw [if_neg hs]
    constructor
    · intro h
      cases hi : items (splitK [44] 0 (s.count 44) s) with
      | none => rw [hi] at h; cases h
      | some l' =>
        rw [hi] at h
        simp only at h
        by_cases hc : (okB 1 l' && decide (textP l' = s)) = true
        · rw [if_pos hc] at h
          injection h with h
          subst h
          simpa using hc
        · rw [if_neg hc] at h; cases h
    · rintro ⟨h1, h2⟩
      have hall := ok_all ((okB_iff _ _).1 h1) (by omega)
      cases l with
      | nil => exact absurd h2.symm hs
      | cons p r =>
        have hno : ∀ y ∈ it p :: r.map it, ∀ b ∈ y, b ≠ 44 := fun y hy => by
          rcases List.mem_cons.1 hy with rfl | hy
          · have := hall p (by simp); exact it_no44 this.1 (by omega)
          · obtain ⟨q, hq, rfl⟩ := List.mem_map.1 hy
            have := hall q (by simp [hq])
            exact it_no44 this.1 (by omega)
        have hsp : splitK [44] 0 (s.count 44) s = (p :: r).map it := by
          rw [← h2]
          unfold textP
          rw [List.map_cons, count_join _ _ hno]
          exact splitK_join _ _ hno
        rw [hsp, items_it hall]
        simp only [h1, h2, decide_true, Bool.and_self, if_true]

/-! The document's parser. -/

def isDig (c : UInt8) : Bool := decide (48 ≤ c.toNat) && decide (c.toNat ≤ 57)

/-- At most so many digits. -/
def dig4 : Nat → Nat → List UInt8 → Nat × List UInt8
  | 0, n, l => (n, l)
  | _ + 1, n, [] => (n, [])
  | k + 1, n, c :: r => if isDig c then dig4 k (n * 10 + (c.toNat - 48)) r else (n, c :: r)

/-- A number, and what stands behind it. -/
def num : List UInt8 → Option (Nat × List UInt8)
  | [] => none
  | c :: r => if isDig c && decide (c ≠ 48) then some (dig4 4 0 (c :: r)) else none

/-- The comma ahead of all spans but the first. -/
def strip : Bool → List UInt8 → Option (List UInt8)
  | true, l => some l
  | false, [] => none
  | false, c :: r => if c = 44 then some r else none

/-- One span, and what stands behind it. -/
def one (first : Bool) (l : List UInt8) : Option (Span × List UInt8) :=
  match strip first l with
  | none => none
  | some l' => match num l' with
    | none => none
    | some (f, 45 :: r) => match num r with
      | none => none
      | some (t, r') => if t = f then none else some (((f : Int), (t : Int)), r')
    | some (f, r) => some (((f : Int), (f : Int)), r)

def refRun : Nat → List Span → List UInt8 → Option (List Span)
  | _, acc, [] => some acc
  | 0, _, _ :: _ => none
  | k + 1, acc, c :: r => match one acc.isEmpty (c :: r) with
    | none => none
    | some (p, r') => refRun k (acc ++ [p]) r'

theorem dig4_le : ∀ (k n : Nat) (l : List UInt8), (dig4 k n l).2.length ≤ l.length
  | 0, _, _ => Nat.le_refl _
  | _ + 1, _, [] => Nat.le_refl _
  | k + 1, n, c :: r => by
    rw [dig4]
    split
    · have := dig4_le k (n * 10 + (c.toNat - 48)) r; simp only [List.length_cons]; omega
    · simp

theorem dec_snoc {n d : Nat} (h1 : 1 ≤ n) (h2 : d < 10) : decDigits (n * 10 + d) = decDigits n ++ [UInt8.ofNat (48 + d)] := by
  rw [decDigits, dif_neg (by omega), show (n * 10 + d) / 10 = n by omega, show (n * 10 + d) % 10 = d by omega]

theorem isDig_iff {c : UInt8} (h : isDig c = true) : ∃ d : Nat, d < 10 ∧ c = UInt8.ofNat (48 + d) ∧ c.toNat - 48 = d := by
  simp [isDig] at h
  refine ⟨c.toNat - 48, by omega, ?_, rfl⟩
  apply UInt8.toNat_inj.1
  rw [UInt8.toNat_ofNat', Nat.mod_eq_of_lt (by omega)]
  omega

theorem dig4_sound : ∀ (k n : Nat) (l : List UInt8), 1 ≤ n → 1 ≤ (dig4 k n l).1 ∧ decDigits n ++ l = decDigits (dig4 k n l).1 ++ (dig4 k n l).2
  | 0, n, l, h => ⟨h, rfl⟩
  | _ + 1, n, [], h => ⟨h, rfl⟩
  | k + 1, n, c :: r, h => by
    rw [dig4]
    by_cases hc : isDig c = true
    · rw [if_pos hc]
      obtain ⟨d, hd, e1, e2⟩ := isDig_iff hc
      rw [e2]
      obtain ⟨i1, i2⟩ := dig4_sound k (n * 10 + d) r (by omega)
      refine ⟨i1, ?_⟩
      rw [← i2, dec_snoc h hd, e1]
      simp
    · rw [if_neg hc]
      exact ⟨h, rfl⟩

theorem num_sound {l : List UInt8} {n : Nat} {r : List UInt8} (h : num l = some (n, r)) : 1 ≤ n ∧ l = decDigits n ++ r ∧ r.length < l.length := by
  cases l with
  | nil => cases h
  | cons c t =>
    rw [num] at h
    by_cases hc : (isDig c && decide (c ≠ 48)) = true
    · rw [if_pos hc] at h
      injection h with h
      rw [dig4] at h
      simp only [Bool.and_eq_true, decide_eq_true_eq] at hc
      rw [if_pos hc.1] at h
      obtain ⟨d, hd, e1, e2⟩ := isDig_iff hc.1
      rw [e2, Nat.zero_mul, Nat.zero_add] at h
      have hd1 : 1 ≤ d := by
        rcases Nat.eq_zero_or_pos d with h0 | h0
        · subst h0; exact absurd e1 hc.2
        · exact h0
      obtain ⟨i1, i2⟩ := dig4_sound 3 d t hd1
      have i3 := dig4_le 3 d t
      rw [h] at i1 i2 i3
      refine ⟨i1, ?_, by simp only [List.length_cons]; simp only at i3; omega⟩
      rw [← i2, decDigits, dif_pos hd, e1]
      rfl
    · rw [if_neg hc] at h; cases h

theorem dig4_complete : ∀ (n K : Nat) (r : List UInt8), 1 ≤ n → (decDigits n).length ≤ K → dig4 K 0 (decDigits n ++ r) = dig4 (K - (decDigits n).length) n r := by
  intro n
  induction n using Nat.strongRecOn with
  | ind n ih =>
    intro K r h1 hK
    have dg : ∀ d, d < 10 → isDig (UInt8.ofNat (48 + d)) = true ∧ (UInt8.ofNat (48 + d)).toNat - 48 = d := fun d hd => by
      have e : (UInt8.ofNat (48 + d)).toNat = 48 + d := by rw [UInt8.toNat_ofNat', Nat.mod_eq_of_lt (by omega)]
      exact ⟨by simp [isDig, e]; omega, by rw [e]; omega⟩
    by_cases h : n < 10
    · have e : decDigits n = [UInt8.ofNat (48 + n)] := by rw [decDigits, dif_pos h]
      rw [e] at hK ⊢
      obtain ⟨K, rfl⟩ : ∃ k, K = k + 1 := ⟨K - 1, by simp at hK; omega⟩
      obtain ⟨g1, g2⟩ := dg n h
      rw [List.singleton_append, dig4, if_pos g1, g2]
      simp
    · have e : decDigits n = decDigits (n / 10) ++ [UInt8.ofNat (48 + n % 10)] := by rw [decDigits, dif_neg h]
      rw [e] at hK ⊢
      rw [List.length_append, List.length_singleton] at hK
      rw [List.append_assoc, ih (n / 10) (by omega) K _ (by omega) (by omega), List.length_append, List.length_singleton]
      obtain ⟨j, hj⟩ : ∃ j, K - (decDigits (n / 10)).length = j + 1 := ⟨K - (decDigits (n / 10)).length - 1, by omega⟩
      obtain ⟨g1, g2⟩ := dg (n % 10) (by omega)
      rw [hj, List.singleton_append, dig4, if_pos g1, g2, show n / 10 * 10 + n % 10 = n by omega, show K - ((decDigits (n / 10)).length + 1) = j by omega]

theorem dec_head {n : Nat} (h : 1 ≤ n) : ∃ c r, decDigits n = c :: r ∧ isDig c = true ∧ c ≠ 48 := by
  induction n using Nat.strongRecOn with
  | ind n ih =>
    rw [decDigits]
    by_cases hn : n < 10
    · rw [dif_pos hn]
      have e : (UInt8.ofNat (48 + n)).toNat = 48 + n := by rw [UInt8.toNat_ofNat', Nat.mod_eq_of_lt (by omega)]
      refine ⟨_, _, rfl, by simp [isDig, e]; omega, fun h0 => ?_⟩
      rw [h0] at e
      simp at e
      omega
    · rw [dif_neg hn]
      obtain ⟨c, r, e, h1, h2⟩ := ih (n / 10) (by omega) (by omega)
      rw [e]
      exact ⟨c, _, rfl, h1, h2⟩

theorem num_complete {n : Nat} {r : List UInt8} (h1 : 1 ≤ n) (h2 : n ≤ 200) (hr : ∀ c, r.head? = some c → isDig c = false) : num (decDigits n ++ r) = some (n, r) := by
  obtain ⟨c, t, e, g1, g2⟩ := dec_head h1
  have hl : (decDigits n).length ≤ 3 := dec_len (k := 2) (by omega)
  have hd := dig4_complete n 4 r h1 (by omega)
  rw [e] at hd hl ⊢
  rw [List.cons_append] at hd ⊢
  rw [num, if_pos (by simp [g1, g2]), hd]
  obtain ⟨j, hj⟩ : ∃ j, 4 - (c :: t).length = j + 1 := ⟨4 - (c :: t).length - 1, by omega⟩
  rw [hj]
  cases r with
  | nil => rfl
  | cons b r =>
    rw [dig4, if_neg (by rw [hr b rfl]; simp)]

/-- A piece as the document's parser reads it. -/
def it' (p : Span) : List UInt8 := if p.1 = p.2 then dec p.1 else dec p.1 ++ 45 :: dec p.2
def sepr (first : Bool) : List UInt8 := if first then [] else [44]

theorem one_sound {first : Bool} {l : List UInt8} {p : Span} {r : List UInt8} (h : one first l = some (p, r)) : l = sepr first ++ (it' p ++ r) ∧ r.length < l.length := by
  unfold one at h
  obtain ⟨l', hl'⟩ : ∃ l', strip first l = some l' := by
    cases hh : strip first l with
    | none => rw [hh] at h; cases h
    | some l' => exact ⟨l', rfl⟩
  rw [hl'] at h
  have hsep : l = sepr first ++ l' := by
    cases first
    · cases l with
      | nil => cases hl'
      | cons c r =>
        rw [strip] at hl'
        by_cases hc : c = 44
        · rw [if_pos hc] at hl'
          injection hl' with hl'
          subst hl' hc
          rfl
        · rw [if_neg hc] at hl'; cases hl'
    · rw [strip] at hl'
      injection hl' with hl'
  have hlen : l'.length ≤ l.length := by rw [hsep, List.length_append]; omega
  simp only at h
  cases hn : num l' with
  | none => rw [hn] at h; cases h
  | some q =>
    obtain ⟨f, r1⟩ := q
    rw [hn] at h
    obtain ⟨a1, a2, a3⟩ := num_sound hn
    split at h
    · cases h
    · rename_i f' r2 hq
      injection hq with hq
      injection hq with hq1 hq2
      subst hq1 hq2
      cases hm : num r2 with
      | none => rw [hm] at h; cases h
      | some q2 =>
        obtain ⟨t, r3⟩ := q2
        rw [hm] at h
        simp only at h
        obtain ⟨b1, b2, b3⟩ := num_sound hm
        by_cases htf : t = f
        · rw [if_pos htf] at h; cases h
        · rw [if_neg htf] at h
          injection h with h
          injection h with h3 h4
          subst h3 h4
          refine ⟨?_, by simp only [List.length_cons] at a3; omega⟩
          rw [hsep, a2, b2]
          unfold it'
          rw [if_neg (by simp only; omega)]
          simp [dec_nat]
    · rename_i f' r2 hne hq
      injection hq with hq
      injection hq with hq1 hq2
      subst hq1 hq2
      injection h with h
      injection h with h3 h4
      subst h3 h4
      refine ⟨?_, by omega⟩
      rw [hsep, a2]
      unfold it'
      rw [if_pos rfl]
      simp [dec_nat]

/-- Pieces one behind the other. -/
def pieces : Bool → List Span → List UInt8
  | _, [] => []
  | first, p :: r => sepr first ++ (it' p ++ pieces false r)

theorem refRun_sound : ∀ (k : Nat) (acc : List Span) (l : List UInt8) (out : List Span), refRun k acc l = some out → ∃ more, out = acc ++ more ∧ l = pieces acc.isEmpty more
  | _, acc, [], out, h => by
    rw [refRun] at h
    injection h with h
    exact ⟨[], by simp [h], rfl⟩
  | 0, _, _ :: _, _, h => by cases h
  | k + 1, acc, c :: t, out, h => by
    rw [refRun] at h
    cases ho : one acc.isEmpty (c :: t) with
    | none => rw [ho] at h; cases h
    | some q =>
      obtain ⟨p, r⟩ := q
      rw [ho] at h
      simp only at h
      obtain ⟨more, e1, e2⟩ := refRun_sound k (acc ++ [p]) r out h
      obtain ⟨e3, _⟩ := one_sound ho
      refine ⟨p :: more, by rw [e1]; simp, ?_⟩
      rw [e3, e2]
      have : (acc ++ [p]).isEmpty = false := by cases acc <;> rfl
      rw [this]
      rfl

theorem pieces_text : ∀ (p : Span) (r : List Span), (∀ q ∈ p :: r, q.1 ≤ q.2) → pieces true (p :: r) = textP (p :: r) := by
  have itit : ∀ q : Span, q.1 ≤ q.2 → it' q = it q := fun q h => by
    unfold it' it
    by_cases h1 : q.1 = q.2
    · rw [if_pos h1, if_neg (by omega)]
    · rw [if_neg h1, if_pos (by omega)]
  have tail : ∀ r : List Span, (∀ q ∈ r, q.1 ≤ q.2) → pieces false r = joinTail [44] (r.map it) := by
    intro r
    induction r with
    | nil => intro _; rfl
    | cons q r ih =>
      intro h
      rw [pieces, ih (fun x hx => h x (by simp [hx])), itit q (h q (by simp))]
      simp [joinTail, sepr]
  intro p r h
  unfold textP
  rw [List.map_cons, join_cons, pieces, tail r (fun q hq => h q (by simp [hq])), itit p (h p (by simp))]
  simp [sepr]

theorem one_complete (first : Bool) {p : Span} {r : List UInt8} (h1 : 1 ≤ p.1) (h2 : p.1 ≤ p.2) (h3 : p.2 ≤ 200) (hr : ∀ c, r.head? = some c → c = 44) : one first (sepr first ++ (it' p ++ r)) = some (p, r) := by
  obtain ⟨f, t⟩ := p
  simp only at h1 h2 h3
  obtain ⟨f, rfl⟩ : ∃ k : Nat, f = k := ⟨f.toNat, by omega⟩
  obtain ⟨t, rfl⟩ : ∃ k : Nat, t = k := ⟨t.toNat, by omega⟩
  have hs : strip first (sepr first ++ (it' ((f : Int), (t : Int)) ++ r)) = some (it' ((f : Int), (t : Int)) ++ r) := by
    cases first <;> rfl
  unfold one
  rw [hs]
  have hdr : ∀ c, r.head? = some c → isDig c = false := fun c hc => by rw [hr c hc]; rfl
  unfold it'
  by_cases hft : f = t
  · subst hft
    rw [if_pos rfl, dec_nat]
    simp only
    rw [num_complete (by omega) (by omega) hdr]
    cases r with
    | nil => rfl
    | cons c r =>
      have := hr c rfl
      subst this
      rfl
  · rw [if_neg (by simp only; omega)]
    simp only [dec_nat]
    rw [List.append_assoc, List.cons_append, num_complete (by omega) (by omega) (fun c hc => by simp at hc; subst hc; rfl)]
    simp only
    rw [num_complete (by omega) (by omega) hdr]
    simp only
    rw [if_neg (by omega)]

theorem pieces_head (r : List Span) : ∀ c, (pieces false r).head? = some c → c = 44 := by
  cases r with
  | nil => intro c h; cases h
  | cons p r => intro c h; simp [pieces, sepr] at h; exact h.symm

theorem it'_ne {p : Span} (h : 0 ≤ p.1) : it' p ≠ [] := by
  obtain ⟨f, t⟩ := p
  simp only at h
  obtain ⟨f, rfl⟩ : ∃ k : Nat, f = k := ⟨f.toNat, by omega⟩
  unfold it'
  simp only [dec_nat]
  split
  · exact dec_ne f
  · simp

theorem refRun_complete : ∀ (more acc : List Span) (k : Nat), (∀ p ∈ more, 1 ≤ p.1 ∧ p.1 ≤ p.2 ∧ p.2 ≤ 200) → more.length ≤ k → refRun k acc (pieces acc.isEmpty more) = some (acc ++ more)
  | [], acc, k, _, _ => by
    rw [pieces, List.append_nil]
    cases k <;> rfl
  | p :: r, acc, k, h, hk => by
    obtain ⟨h1, h2, h3⟩ := h p (by simp)
    obtain ⟨k, rfl⟩ : ∃ j, k = j + 1 := ⟨k - 1, by simp at hk; omega⟩
    have hone := one_complete acc.isEmpty (p := p) (r := pieces false r) h1 h2 h3 (pieces_head r)
    rw [pieces]
    obtain ⟨c, t, e⟩ : ∃ c t, sepr acc.isEmpty ++ (it' p ++ pieces false r) = c :: t := by
      cases hh : sepr acc.isEmpty ++ (it' p ++ pieces false r) with
      | nil =>
        have := (List.append_eq_nil_iff.1 (List.append_eq_nil_iff.1 hh).2).1
        exact absurd this (it'_ne (by omega))
      | cons c t => exact ⟨c, t, rfl⟩
    rw [e] at hone ⊢
    rw [refRun, hone]
    simp only
    have hemp : (acc ++ [p]).isEmpty = false := by cases acc <;> rfl
    have := refRun_complete r (acc ++ [p]) k (fun q hq => h q (by simp [hq])) (by simp at hk; omega)
    rw [hemp] at this
    rw [this]
    simp

/-- What the document's Parse tells. -/
def refparse? (s : List UInt8) : Option (List Span) :=
  match refRun s.length [] s with
  | none => none
  | some l => if okB 1 l then some l else none

theorem ok_all1 : ∀ {l : List Span} {b : Int}, ok b l → 1 ≤ b → ∀ p ∈ l, 1 ≤ p.1 ∧ p.1 ≤ p.2 ∧ p.2 ≤ 200
  | [], _, _, _, _, h => by cases h
  | (f, t) :: r, b, h, hb, p, hp => by
    obtain ⟨h1, h2, h3, h4⟩ := h
    rcases List.mem_cons.1 hp with rfl | hp
    · exact ⟨by simp only; omega, h2, h3⟩
    · exact ok_all1 h4 (by omega) p hp

theorem pieces_len : ∀ (b : Bool) (l : List Span), (∀ p ∈ l, 0 ≤ p.1) → l.length ≤ (pieces b l).length
  | _, [], _ => by simp
  | b, p :: r, h => by
    have := pieces_len false r (fun q hq => h q (by simp [hq]))
    have h2 : 1 ≤ (it' p).length := by
      have := it'_ne (h p (by simp))
      cases hh : it' p with
      | nil => exact absurd hh this
      | cons _ _ => simp
    rw [pieces, List.length_append, List.length_append, List.length_cons]
    omega

theorem refparse_iff (s : List UInt8) (l : List Span) : refparse? s = some l ↔ okB 1 l = true ∧ textP l = s := by
  unfold refparse?
  constructor
  · intro h
    cases hr : refRun s.length [] s with
    | none => rw [hr] at h; cases h
    | some l' =>
      rw [hr] at h
      simp only at h
      by_cases hok : okB 1 l' = true
      · rw [if_pos hok] at h
        injection h with h
        subst h
        refine ⟨hok, ?_⟩
        obtain ⟨more, e1, e2⟩ := refRun_sound _ _ _ _ hr
        rw [List.nil_append] at e1
        subst e1
        have hall := ok_all1 ((okB_iff _ _).1 hok) (by omega)
        cases l' with
        | nil => rw [e2]; rfl
        | cons p r => rw [e2]; exact (pieces_text p r (fun q hq => (hall q hq).2.1)).symm
      · rw [if_neg hok] at h; cases h
  · rintro ⟨h1, h2⟩
    have hall := ok_all1 ((okB_iff _ _).1 h1) (by omega)
    have hp : s = pieces true l := by
      rw [← h2]
      cases l with
      | nil => rfl
      | cons p r => exact (pieces_text p r (fun q hq => (hall q hq).2.1)).symm
    have hrun := refRun_complete l [] s.length hall (by rw [hp]; exact pieces_len true l (fun p hp => by have := hall p hp; omega))
    have e : ([] : List Span).isEmpty = true := rfl
    rw [e, ← hp] at hrun
    rw [hrun]
    simp [h1]

theorem parse_ref (s : List UInt8) : parse? s = refparse? s := by
  cases h : refparse? s with
  | some l => exact (parse_iff s l).2 ((refparse_iff s l).1 h)
  | none =>
    cases h2 : parse? s with
    | none => rfl
    | some l =>
      rw [(refparse_iff s l).2 ((parse_iff s l).1 h2)] at h
      cases h
end Go.Proofs.YtppmnelgekhbnaaGreatDoor.Iv
