/- The plain mathematics of the layer frame. -/

section
/- The plain mathematics of the layer crc: the step of the register, bit by bit. -/
namespace Go.Proofs.YtfdpnjebhllpkaaGreatDoor.Crc

/-- The polynomial, behind a name. -/
def poly : Nat := 3988292384

/-- One step of the register. -/
def T (x : Nat) : Nat := if x % 2 = 1 then x / 2 ^^^ poly else x / 2

def Tn : Nat → Nat → Nat
  | 0, x => x
  | n + 1, x => Tn n (T x)

theorem T_lt {x : Nat} (h : x < 4294967296) : T x < 4294967296 := by
  unfold T
  split
  · exact Nat.xor_lt_two_pow (n := 32) (by omega) (by decide)
  · omega

theorem Tn_lt {n x : Nat} (h : x < 4294967296) : Tn n x < 4294967296 := by
  induction n generalizing x with
  | zero => exact h
  | succ n ih => exact ih (T_lt h)

theorem Tn_succ (n x : Nat) : Tn (n + 1) x = T (Tn n x) := by
  induction n generalizing x with
  | zero => rfl
  | succ n ih => exact ih (T x)

theorem xor_mod2 (x y : Nat) : (x ^^^ y) % 2 = (x % 2 + y % 2) % 2 := by
  have h := Nat.xor_mod_two_eq_one (a := x) (b := y)
  omega

theorem xor_div2 (x y : Nat) : (x ^^^ y) / 2 = x / 2 ^^^ y / 2 := by
  have := Nat.shiftRight_xor_distrib (a := x) (b := y) (i := 1)
  simpa [Nat.shiftRight_eq_div_pow] using this

theorem T_xor (x y : Nat) : T (x ^^^ y) = T x ^^^ T y := by
  unfold T
  rw [xor_div2]
  have h := xor_mod2 x y
  by_cases hx : x % 2 = 1 <;> by_cases hy : y % 2 = 1
  · rw [if_neg (by omega), if_pos hx, if_pos hy]
    rw [Nat.xor_assoc, ← Nat.xor_assoc poly, Nat.xor_comm poly, Nat.xor_assoc, Nat.xor_self, Nat.xor_zero]
  · rw [if_pos (by omega), if_pos hx, if_neg hy]
    rw [Nat.xor_assoc, Nat.xor_comm (y / 2), Nat.xor_assoc]
  · rw [if_pos (by omega), if_neg hx, if_pos hy]
    rw [Nat.xor_assoc]
  · rw [if_neg (by omega), if_neg hx, if_neg hy]

theorem Tn_xor (n x y : Nat) : Tn n (x ^^^ y) = Tn n x ^^^ Tn n y := by
  induction n generalizing x y with
  | zero => rfl
  | succ n ih => show Tn n (T _) = Tn n (T _) ^^^ Tn n (T _); rw [T_xor, ih]

/-- Low bits clear: n steps are a shift. -/
theorem Tn_shift (n x : Nat) : Tn n (x * 2 ^ n) = x := by
  induction n generalizing x with
  | zero => simp [Tn]
  | succ n ih =>
    show Tn n (T _) = x
    have : T (x * 2 ^ (n + 1)) = x * 2 ^ n := by
      have e : x * 2 ^ (n + 1) = (x * 2 ^ n) * 2 := by rw [Nat.pow_succ, Nat.mul_assoc]
      unfold T
      rw [e, if_neg (by omega)]
      omega
    rw [this, ih]

theorem T_zero {x : Nat} (hx : x < 4294967296) (h : T x = 0) : x = 0 := by
  unfold T at h
  split at h
  · exfalso
    have e : x / 2 = poly := by
      have := congrArg (· ^^^ poly) h
      simpa [Nat.xor_assoc] using this
    have hp : poly = 3988292384 := rfl
    omega
  · omega

theorem Tn_zero {n x : Nat} (hx : x < 4294967296) (h : Tn n x = 0) : x = 0 := by
  induction n generalizing x with
  | zero => exact h
  | succ n ih => exact T_zero hx (ih (T_lt hx) h)

/-- A bit comes in: the step of the register with the bit in its lowest place. -/
def feed (x d : Nat) : Nat := if x % 2 ≠ d % 2 then x / 2 ^^^ poly else x / 2

theorem feed_eq (x d : Nat) : feed x d = T (x ^^^ (d % 2)) := by
  unfold feed T
  have h := xor_mod2 x (d % 2)
  have e := xor_div2 x (d % 2)
  have e2 : d % 2 / 2 = 0 := by omega
  rw [e, e2, Nat.xor_zero]
  by_cases hh : x % 2 = d % 2
  · rw [if_neg (by simpa using hh), if_neg (by omega)]
  · rw [if_pos hh, if_pos (by omega)]

/-- The bits of a number, one behind the other, from bit k on. -/
def feeds : Nat → Nat → Nat → Nat
  | 0, x, _ => x
  | n + 1, x, d => feeds n (feed x d) (d / 2)

theorem Tn_half (n d : Nat) : d / 2 ^ (n + 1) = d / 2 / 2 ^ n := by rw [Nat.pow_succ, Nat.mul_comm, Nat.div_div_eq_div_mul]

theorem xor_low (d : Nat) : d % 2 ^^^ (d / 2) * 2 = d := by
  have h1 := Nat.two_pow_add_eq_or_of_lt (i := 1) (b := d % 2) (by omega) (d / 2)
  have h2 : (2 ^ 1 * (d / 2) ||| d % 2) = 2 ^ 1 * (d / 2) ^^^ d % 2 := by
    apply Nat.eq_of_testBit_eq
    intro i
    rw [Nat.testBit_or, Nat.testBit_xor]
    rcases Nat.eq_zero_or_pos i with rfl | hi
    · simp [Nat.testBit_zero]
    · have : (d % 2).testBit i = false := Nat.testBit_lt_two_pow (by have := Nat.one_lt_two_pow (n := i) (by omega); omega)
      rw [this]; simp
  rw [Nat.xor_comm, Nat.mul_comm]
  simp only [Nat.pow_one] at h1 h2
  omega

theorem feeds_eq (n x d : Nat) : feeds n x d ^^^ d / 2 ^ n = Tn n (x ^^^ d) := by
  induction n generalizing x d with
  | zero => simp [feeds, Tn]
  | succ n ih =>
    show feeds n (feed x d) (d / 2) ^^^ d / 2 ^ (n + 1) = Tn n (T (x ^^^ d))
    rw [Tn_half, ih, feed_eq]
    congr 1
    have e : x ^^^ d = (x ^^^ d % 2) ^^^ (d / 2) * 2 := by rw [Nat.xor_assoc, xor_low]
    have h1 : T ((d / 2) * 2) = d / 2 := by
      have := Tn_shift 1 (d / 2)
      simpa [Tn] using this
    rw [e, T_xor (x ^^^ d % 2) ((d / 2) * 2), h1]

theorem feeds_succ (n x d : Nat) : feeds (n + 1) x d = feed (feeds n x d) (d / 2 ^ n) := by
  induction n generalizing x d with
  | zero => simp [feeds]
  | succ n ih =>
    show feeds (n + 1) (feed x d) (d / 2) = feed (feeds n (feed x d) (d / 2)) (d / 2 ^ (n + 1))
    rw [ih, Tn_half]

theorem feeds_lt {n x d : Nat} (h : x < 4294967296) : feeds n x d < 4294967296 := by
  induction n generalizing x d with
  | zero => exact h
  | succ n ih => exact ih (by rw [feed_eq]; exact T_lt (Nat.xor_lt_two_pow (n := 32) h (by omega)))

/-- A byte comes in. -/
def byte (x : Nat) (c : UInt8) : Nat := Tn 8 (x ^^^ c.toNat)

theorem byte_feeds (x : Nat) (c : UInt8) : byte x c = feeds 8 x c.toNat := by
  have h := feeds_eq 8 x c.toNat
  have hc := c.toNat_lt
  rw [show c.toNat / 2 ^ 8 = 0 from by omega, Nat.xor_zero] at h
  exact h.symm

theorem byte_table (x : Nat) (c : UInt8) : byte x c = x / 256 ^^^ Tn 8 (x % 256 ^^^ c.toNat) := by
  unfold byte
  have e : x = (x / 256) * 2 ^ 8 ^^^ x % 256 := by
    have h1 := Nat.two_pow_add_eq_or_of_lt (i := 8) (b := x % 256) (by omega) (x / 256)
    have h2 : (2 ^ 8 * (x / 256) ||| x % 256) = 2 ^ 8 * (x / 256) ^^^ x % 256 := by
      apply Nat.eq_of_testBit_eq
      intro i
      rw [Nat.testBit_or, Nat.testBit_xor]
      by_cases hi : i < 8
      · have : (2 ^ 8 * (x / 256)).testBit i = false := by rw [Nat.testBit_two_pow_mul]; simp; omega
        rw [this]; simp
      · have : (x % 256).testBit i = false := Nat.testBit_lt_two_pow (by have := Nat.pow_le_pow_right (n := 2) (by omega) (show 8 ≤ i from by omega); omega)
        rw [this]; simp
    rw [Nat.mul_comm, ← h2, ← h1]
    omega
  conv => lhs; rw [e]
  rw [Nat.xor_assoc, Tn_xor, Tn_shift]

theorem byte_lt {x : Nat} (c : UInt8) (h : x < 4294967296) : byte x c < 4294967296 :=
  Tn_lt (Nat.xor_lt_two_pow (n := 32) h (by have := c.toNat_lt; omega))

/-- The register behind a row of bytes. -/
def reg (x : Nat) (l : List UInt8) : Nat := l.foldl byte x

theorem reg_snoc (x : Nat) (l : List UInt8) (c : UInt8) : reg x (l ++ [c]) = byte (reg x l) c := by simp [reg]
theorem reg_append (x : Nat) (a b : List UInt8) : reg x (a ++ b) = reg (reg x a) b := by simp [reg]

theorem reg_lt {x : Nat} (l : List UInt8) (h : x < 4294967296) : reg x l < 4294967296 := by
  induction l generalizing x with
  | nil => exact h
  | cons c l ih => exact ih (byte_lt c h)

/-- A sum goes on. -/
def on (s : Nat) (l : List UInt8) : Nat := 4294967295 - reg (4294967295 - s) l

/-- The sum of bytes. -/
def sum (l : List UInt8) : Nat := on 0 l

theorem on_lt (s : Nat) (l : List UInt8) : on s l < 4294967296 := by unfold on; omega

theorem on_sum (a b : List UInt8) : on (sum a) b = sum (a ++ b) := by
  unfold sum on
  have h := reg_lt (x := 4294967295) a (by omega)
  rw [Nat.sub_zero, reg_append, show 4294967295 - (4294967295 - reg 4294967295 a) = reg 4294967295 a from by omega]

theorem reg_xor (x y : Nat) (l : List UInt8) : reg (x ^^^ y) l = reg x l ^^^ Tn (8 * l.length) y := by
  induction l generalizing x y with
  | nil => rfl
  | cons c l ih =>
    show reg (byte (x ^^^ y) c) l = reg (byte x c) l ^^^ _
    have e : byte (x ^^^ y) c = byte x c ^^^ Tn 8 y := by
      unfold byte
      rw [Nat.xor_assoc, Nat.xor_comm y, ← Nat.xor_assoc, Tn_xor]
    rw [e, ih]
    congr 1

/-! Bits that are turned. -/

/-- A row of bytes as one number, the first byte the lowest. -/
def num : List UInt8 → Nat
  | [] => 0
  | c :: l => c.toNat + 256 * num l

theorem low_xor (c m : Nat) (hc : c < 256) : c + 256 * m = c ^^^ m * 2 ^ 8 := by
  have h1 := Nat.two_pow_add_eq_or_of_lt (i := 8) (b := c) hc m
  have h2 : (2 ^ 8 * m ||| c) = 2 ^ 8 * m ^^^ c := by
    apply Nat.eq_of_testBit_eq
    intro i
    rw [Nat.testBit_or, Nat.testBit_xor]
    by_cases hi : i < 8
    · have : (2 ^ 8 * m).testBit i = false := by rw [Nat.testBit_two_pow_mul]; simp; omega
      rw [this]; simp
    · have : c.testBit i = false := Nat.testBit_lt_two_pow (by have := Nat.pow_le_pow_right (n := 2) (by omega) (show 8 ≤ i from by omega); omega)
      rw [this]; simp
  rw [Nat.xor_comm, Nat.mul_comm m, ← h2, ← h1]
  omega

theorem reg_num (x : Nat) (l : List UInt8) : reg x l = Tn (8 * l.length) (x ^^^ num l) := by
  induction l generalizing x with
  | nil => simp [reg, num, Tn]
  | cons c l ih =>
    show reg (byte x c) l = _
    rw [ih]
    have e : Tn (8 * (c :: l).length) (x ^^^ num (c :: l)) = Tn (8 * l.length) (Tn 8 (x ^^^ num (c :: l))) := by
      rw [List.length_cons, Nat.mul_add]; rfl
    rw [e]
    congr 1
    unfold byte
    rw [num, low_xor _ _ c.toNat_lt, ← Nat.xor_assoc, Tn_xor _ (x ^^^ c.toNat), Tn_shift]

theorem num_set (l : List UInt8) (j r : Nat) (x y : UInt8) (hr : r < 8) (hj : l[j]? = some x) (hy : y.toNat = x.toNat ^^^ 2 ^ r) :
    num (l.set j y) = num l ^^^ 2 ^ (8 * j + r) := by
  induction l generalizing j with
  | nil => simp at hj
  | cons c l ih =>
    cases j with
    | zero =>
      simp at hj
      subst hj
      show y.toNat + 256 * num l = (c.toNat + 256 * num l) ^^^ _
      rw [low_xor _ _ c.toNat_lt, low_xor _ _ y.toNat_lt, hy]
      rw [Nat.xor_assoc, Nat.xor_assoc, Nat.xor_comm (2 ^ r)]
      simp
    | succ j =>
      simp at hj
      show c.toNat + 256 * num (l.set j y) = (c.toNat + 256 * num l) ^^^ _
      rw [ih j hj, low_xor _ _ c.toNat_lt, low_xor _ _ c.toNat_lt, Nat.xor_assoc]
      congr 1
      have : 2 ^ (8 * (j + 1) + r) = 2 ^ (8 * j + r) * 2 ^ 8 := by rw [← Nat.pow_add]; congr 1; omega
      rw [this]
      have := Nat.shiftLeft_xor_distrib (a := num l) (b := 2 ^ (8 * j + r)) (i := 8)
      simpa [Nat.shiftLeft_eq] using this

theorem Tn_add (m k z : Nat) : Tn (m + k) z = Tn m (Tn k z) := by
  induction k generalizing z with
  | zero => rfl
  | succ k ih => exact ih (T z)

/-- Bytes of which bits within 32 are turned have another register behind them. -/
theorem reg_turned (x at_ e : Nat) (l c : List UInt8) (hl : c.length = l.length) (hc : num c = num l ^^^ e * 2 ^ at_) (hat : at_ ≤ 8 * l.length) (he : e < 4294967296) (h0 : e ≠ 0) :
    reg x c ≠ reg x l := by
  intro h
  rw [reg_num, reg_num, hl, hc, ← Nat.xor_assoc, Tn_xor _ (x ^^^ num l)] at h
  have h1 : Tn (8 * l.length) (e * 2 ^ at_) = 0 := by
    have := congrArg (Tn (8 * l.length) (x ^^^ num l) ^^^ ·) h
    simpa [← Nat.xor_assoc] using this
  rw [show 8 * l.length = (8 * l.length - at_) + at_ from by omega, Tn_add, Tn_shift] at h1
  exact h0 (Tn_zero he h1)

theorem sum_turned (at_ e : Nat) (l c : List UInt8) (hl : c.length = l.length) (hc : num c = num l ^^^ e * 2 ^ at_) (hat : at_ ≤ 8 * l.length) (he : e < 4294967296) (h0 : e ≠ 0) :
    sum c ≠ sum l := by
  have h := reg_turned 4294967295 at_ e l c hl hc hat he h0
  have h1 := reg_lt (x := 4294967295) l (by omega)
  have h2 := reg_lt (x := 4294967295) c (by omega)
  unfold sum on
  rw [Nat.sub_zero]
  omega

/-- One bit more. -/
theorem bits_succ1 (e i : Nat) (h : e / 2 ^ i % 2 = 1) : e % 2 ^ (i + 1) = e % 2 ^ i ^^^ 2 ^ i := by
  have h1 : e % 2 ^ (i + 1) = e % 2 ^ i + 2 ^ i * (e / 2 ^ i % 2) := by rw [Nat.pow_succ, Nat.mod_mul]
  rw [h1, h, Nat.mul_one]
  have hlt : e % 2 ^ i < 2 ^ i := Nat.mod_lt _ (Nat.two_pow_pos i)
  have h2 := Nat.two_pow_add_eq_or_of_lt (i := i) hlt 1
  have h3 : (2 ^ i * 1 ||| e % 2 ^ i) = 2 ^ i * 1 ^^^ e % 2 ^ i := by
    apply Nat.eq_of_testBit_eq
    intro j
    rw [Nat.testBit_or, Nat.testBit_xor]
    by_cases hj : j < i
    · have : (2 ^ i * 1).testBit j = false := by rw [Nat.testBit_two_pow_mul]; simp; omega
      rw [this]; simp
    · have : (e % 2 ^ i).testBit j = false := Nat.testBit_lt_two_pow (Nat.lt_of_lt_of_le hlt (Nat.pow_le_pow_right (by omega) (by omega)))
      rw [this]; simp
  rw [Nat.xor_comm, Nat.add_comm]
  rw [Nat.mul_one] at h2 h3
  rw [← h3, ← h2]

theorem bits_succ0 (e i : Nat) (h : e / 2 ^ i % 2 ≠ 1) : e % 2 ^ (i + 1) = e % 2 ^ i := by
  have h1 : e % 2 ^ (i + 1) = e % 2 ^ i + 2 ^ i * (e / 2 ^ i % 2) := by rw [Nat.pow_succ, Nat.mod_mul]
  rw [h1, show e / 2 ^ i % 2 = 0 from by omega, Nat.mul_zero, Nat.add_zero]

/-- What the loop of turned bits keeps: behind i rounds. -/
theorem turn_step (l L : List UInt8) (e at_ i : Nat) (x y : UInt8) (hL : num L = num l ^^^ (e % 2 ^ i) * 2 ^ at_) (h : e / 2 ^ i % 2 = 1)
    (hx : L[(at_ + i) / 8]? = some x) (hy : y.toNat = x.toNat ^^^ 2 ^ ((at_ + i) % 8)) :
    num (L.set ((at_ + i) / 8) y) = num l ^^^ (e % 2 ^ (i + 1)) * 2 ^ at_ := by
  rw [num_set L _ ((at_ + i) % 8) x y (by omega) hx hy, hL, bits_succ1 e i h]
  have := Nat.shiftLeft_xor_distrib (a := e % 2 ^ i) (b := 2 ^ i) (i := at_)
  simp only [Nat.shiftLeft_eq] at this
  rw [this, Nat.xor_assoc]
  congr 2
  rw [← Nat.pow_add]
  congr 1
  omega

theorem num_inj {a b : List UInt8} (hl : a.length = b.length) (h : num a = num b) : a = b := by
  induction a generalizing b with
  | nil => cases b with
    | nil => rfl
    | cons x b => simp at hl
  | cons x a ih =>
    cases b with
    | nil => simp at hl
    | cons y b =>
      have hx := x.toNat_lt
      have hy := y.toNat_lt
      simp only [num] at h
      have h1 : x.toNat = y.toNat := by omega
      have h2 : num a = num b := by omega
      rw [ih (by simpa using hl) h2, UInt8.toNat_inj.1 h1]

theorem num_append (a b : List UInt8) : num (a ++ b) = num a ^^^ num b * 2 ^ (8 * a.length) := by
  induction a with
  | nil => simp [num]
  | cons c a ih =>
    show c.toNat + 256 * num (a ++ b) = (c.toNat + 256 * num a) ^^^ _
    rw [low_xor _ _ c.toNat_lt, low_xor _ _ c.toNat_lt, ih, Nat.xor_assoc]
    congr 1
    have h := Nat.shiftLeft_xor_distrib (a := num a) (b := num b * 2 ^ (8 * a.length)) (i := 8)
    simp only [Nat.shiftLeft_eq] at h
    rw [h, Nat.mul_assoc, ← Nat.pow_add, List.length_cons, show 8 * a.length + 8 = 8 * (a.length + 1) from by omega]

/-- What stands ahead does not matter. -/
theorem sum_turned_behind (at_ e : Nat) (h l c : List UInt8) (hl : c.length = l.length) (hc : num c = num l ^^^ e * 2 ^ at_) (hat : at_ ≤ 8 * l.length) (he : e < 4294967296) (h0 : e ≠ 0) :
    sum (h ++ c) ≠ sum (h ++ l) := by
  refine sum_turned (8 * h.length + at_) e _ _ (by simp [hl]) ?_ (by simp; omega) he h0
  rw [num_append, num_append, hc, Nat.xor_assoc]
  congr 1
  have h := Nat.shiftLeft_xor_distrib (a := num l) (b := e * 2 ^ at_) (i := 8 * h.length)
  simp only [Nat.shiftLeft_eq] at h
  rw [h, Nat.mul_assoc, ← Nat.pow_add, Nat.add_comm at_]

end Go.Proofs.YtfdpnjebhllpkaaGreatDoor.Crc
end

section
namespace Go.Proofs.YtfdpnjebhllpkaaGreatDoor.Fr

def by_ (v : Nat) : UInt8 := UInt8.ofNat (v % 256)
theorem by_nat (v : Nat) : (by_ v).toNat = v % 256 := by unfold by_; rw [UInt8.toNat_ofNat']; omega

/-- A number of 32 bits as four bytes, the least first. -/
def le (v : Nat) : List UInt8 := [by_ v, by_ (v / 256), by_ (v / 65536), by_ (v / 16777216)]

/-- The number of the first four bytes. -/
def get : List UInt8 → Nat
  | a :: b :: c :: d :: _ => a.toNat + 256 * b.toNat + 65536 * c.toNat + 16777216 * d.toNat
  | _ => 0

@[simp] theorem le_length (v : Nat) : (le v).length = 4 := rfl

theorem get_le (v : Nat) (hv : v < 4294967296) (r : List UInt8) : get (le v ++ r) = v := by
  show (by_ v).toNat + 256 * (by_ (v / 256)).toNat + 65536 * (by_ (v / 65536)).toNat + 16777216 * (by_ (v / 16777216)).toNat = v
  simp only [by_nat]
  omega

theorem le_get (l : List UInt8) (h : 4 ≤ l.length) : le (get l) = l.take 4 := by
  match l, h with
  | a :: b :: c :: d :: r, _ =>
    have ha := a.toNat_lt; have hb := b.toNat_lt; have hc := c.toNat_lt; have hd := d.toNat_lt
    show le (a.toNat + 256 * b.toNat + 65536 * c.toNat + 16777216 * d.toNat) = [a, b, c, d]
    unfold le
    congr 1
    · apply UInt8.toNat_inj.1; rw [by_nat]; omega
    congr 1
    · apply UInt8.toNat_inj.1; rw [by_nat]; omega
    congr 1
    · apply UInt8.toNat_inj.1; rw [by_nat]; omega
    congr 1
    · apply UInt8.toNat_inj.1; rw [by_nat]; omega

theorem get_lt (l : List UInt8) : get l < 4294967296 := by
  unfold get
  split
  · rename_i a b c d _
    have ha := a.toNat_lt; have hb := b.toNat_lt; have hc := c.toNat_lt; have hd := d.toNat_lt
    omega
  · omega

/-- The sum of a frame. -/
def fsum (len r : List UInt8) : Nat := Crc.sum (len ++ r)

theorem fsum_lt (len r : List UInt8) : fsum len r < 4294967296 := Crc.on_lt _ _

/-- A record's frame. -/
def frame (r : List UInt8) : List UInt8 := le r.length ++ (le (fsum (le r.length) r) ++ r)

/-- What Put gives. -/
def put (r : List UInt8) : List UInt8 := if r.length < 1 ∨ 1048576 < r.length then [] else frame r

theorem frame_length (r : List UInt8) : (frame r).length = 8 + r.length := by simp [frame]; omega

/-- The record at the beginning, how far it goes, what stands there. -/
def next (b : List UInt8) : List UInt8 × Nat × Nat :=
  if b.length = 0 then ([], 0, 2)
  else if b.length < 4 then ([], 0, 3)
  else if get b < 1 ∨ 1048576 < get b then ([], 0, 4)
  else if b.length < 8 + get b then ([], 0, 3)
  else if fsum (b.take 4) ((b.drop 8).take (get b)) ≠ get (b.drop 4) then ([], 0, 4)
  else ((b.drop 8).take (get b), 8 + get b, 1)

theorem next_cases (b : List UInt8) : (next b).2.2 = 1 ∧ (next b).2.1 ≤ b.length ∧ 9 ≤ (next b).2.1 ∨ (next b).1 = [] ∧ (next b).2.1 = 0 ∧ ((next b).2.2 = 2 ∨ (next b).2.2 = 3 ∨ (next b).2.2 = 4) := by
  unfold next
  split
  · exact .inr ⟨rfl, rfl, .inl rfl⟩
  split
  · exact .inr ⟨rfl, rfl, .inr (.inl rfl)⟩
  split
  · exact .inr ⟨rfl, rfl, .inr (.inr rfl)⟩
  split
  · exact .inr ⟨rfl, rfl, .inr (.inl rfl)⟩
  split
  · exact .inr ⟨rfl, rfl, .inr (.inr rfl)⟩
  · exact .inl ⟨rfl, (by show 8 + get b ≤ b.length; omega), (by show 9 ≤ 8 + get b; omega)⟩

/-- A frame is read as its record, whatever stands behind. -/
theorem next_frame (r b : List UInt8) (h1 : 1 ≤ r.length) (h2 : r.length ≤ 1048576) : next (frame r ++ b) = (r, 8 + r.length, 1) := by
  have hl := frame_length r
  have hg : get (frame r ++ b) = r.length := by
    unfold frame
    rw [List.append_assoc]
    exact get_le _ (by omega) _
  have hd : (frame r ++ b).drop 4 = le (fsum (le r.length) r) ++ (r ++ b) := by
    unfold frame
    rw [List.append_assoc, List.drop_append_of_le_length (by simp), List.append_assoc]
    rfl
  have hd8 : (frame r ++ b).drop 8 = r ++ b := by
    have : (frame r ++ b).drop 8 = ((frame r ++ b).drop 4).drop 4 := by rw [List.drop_drop]
    rw [this, hd, List.drop_append_of_le_length (by simp)]
    rfl
  have ht : (frame r ++ b).take 4 = le r.length := by
    unfold frame
    rw [List.append_assoc, List.take_append_of_le_length (by simp)]
    rfl
  have hr : (r ++ b).take r.length = r := by simp
  unfold next
  rw [hg, hd, hd8, ht, hr, get_le _ (fsum_lt _ _)]
  simp only [List.length_append, hl]
  rw [if_neg (by omega), if_neg (by omega), if_neg (by omega), if_neg (by omega), if_neg (by simp)]

/-- All records, how far they go, what stands behind. -/
def allF : Nat → List UInt8 → List (List UInt8) × Nat × Nat
  | 0, b => ([], 0, (next b).2.2)
  | f + 1, b =>
    if (next b).2.2 = 1 then
      ((next b).1 :: (allF f (b.drop (next b).2.1)).1, (next b).2.1 + (allF f (b.drop (next b).2.1)).2.1, (allF f (b.drop (next b).2.1)).2.2)
    else ([], 0, (next b).2.2)

def all (b : List UInt8) : List (List UInt8) × Nat × Nat := allF b.length b

theorem allF_more (f g : Nat) (b : List UInt8) (hf : b.length ≤ f) (hg : b.length ≤ g) : allF f b = allF g b := by
  induction f generalizing g b with
  | zero =>
    have hb : b = [] := List.eq_nil_of_length_eq_zero (by omega)
    subst hb
    cases g <;> rfl
  | succ f ih =>
    rcases next_cases b with ⟨h1, h2, h3⟩ | ⟨h1, h2, h3⟩
    · cases g with
      | zero => omega
      | succ g =>
        unfold allF
        rw [if_pos h1, if_pos h1, ih g _ (by rw [List.length_drop]; omega) (by rw [List.length_drop]; omega)]
    · have hne : (next b).2.2 ≠ 1 := by omega
      cases g with
      | zero => unfold allF; rw [if_neg hne]
      | succ g => unfold allF; rw [if_neg hne, if_neg hne]

theorem all_whole (b : List UInt8) (h : (next b).2.2 = 1) :
    all b = ((next b).1 :: (all (b.drop (next b).2.1)).1, (next b).2.1 + (all (b.drop (next b).2.1)).2.1, (all (b.drop (next b).2.1)).2.2) := by
  rcases next_cases b with ⟨h1, h2, h3⟩ | ⟨h1, h2, h3⟩
  · have hm := allF_more b.length (b.length - 1 + 1) b (by omega) (by omega)
    unfold all
    rw [hm]
    conv => lhs; unfold allF
    rw [if_pos h, allF_more (b.length - 1) (b.drop (next b).2.1).length _ (by rw [List.length_drop]; omega) (Nat.le_refl _)]
  · omega

theorem all_not (b : List UInt8) (h : (next b).2.2 ≠ 1) : all b = ([], 0, (next b).2.2) := by
  unfold all
  cases b.length with
  | zero => rfl
  | succ n => unfold allF; rw [if_neg h]

theorem all_le (b : List UInt8) : (all b).2.1 ≤ b.length := by
  unfold all
  generalize hf : b.length = f
  have hl : b.length ≤ f := by omega
  clear hf
  suffices h : ∀ (f : Nat) (b : List UInt8), b.length ≤ f → (allF f b).2.1 ≤ b.length by
    have := h f b hl
    have hh : b.length ≤ f := hl
    omega
  intro f
  induction f with
  | zero => intro b _; simp [allF]
  | succ f ih =>
    intro b hb
    unfold allF
    split
    · rename_i h1
      rcases next_cases b with ⟨_, h2, h3⟩ | ⟨_, _, h3⟩
      · have := ih (b.drop (next b).2.1) (by rw [List.length_drop]; omega)
        rw [List.length_drop] at this
        show (next b).2.1 + _ ≤ _
        omega
      · omega
    · simp

/-- What the loop keeps: so much has been read. -/
def Upto (b : List UInt8) (ls : List (List UInt8)) (g : Nat) : Prop :=
  g ≤ b.length ∧ all b = (ls ++ (all (b.drop g)).1, g + (all (b.drop g)).2.1, (all (b.drop g)).2.2)

theorem upto_start (b : List UInt8) : Upto b [] 0 := ⟨by omega, by simp⟩

theorem upto_step {b : List UInt8} {ls : List (List UInt8)} {g : Nat} (h : Upto b ls g) (h1 : (next (b.drop g)).2.2 = 1) :
    Upto b (ls ++ [(next (b.drop g)).1]) (g + (next (b.drop g)).2.1) := by
  obtain ⟨hg, ha⟩ := h
  have hw := all_whole _ h1
  rcases next_cases (b.drop g) with ⟨_, h2, h3⟩ | ⟨_, _, h3⟩
  · rw [List.length_drop] at h2
    refine ⟨by omega, ?_⟩
    rw [ha, hw, List.drop_drop]
    simp [Nat.add_assoc]
  · omega

theorem upto_end {b : List UInt8} {ls : List (List UInt8)} {g : Nat} (h : Upto b ls g) (h1 : (next (b.drop g)).2.2 ≠ 1) :
    all b = (ls, g, (next (b.drop g)).2.2) := by
  rw [h.2, all_not _ h1]
  simp

/-- A frame ahead. -/
theorem all_frame (r b : List UInt8) (h1 : 1 ≤ r.length) (h2 : r.length ≤ 1048576) :
    all (frame r ++ b) = (r :: (all b).1, 8 + r.length + (all b).2.1, (all b).2.2) := by
  have hn := next_frame r b h1 h2
  have := all_whole (frame r ++ b) (by rw [hn])
  rw [this, hn]
  have hd : (frame r ++ b).drop (8 + r.length) = b := by
    rw [← frame_length r]; simp
  simp only
  rw [hd]

/-- Some records' frames, one behind the other; the records that have one. -/
def puts (ls : List (List UInt8)) : List UInt8 := (ls.map put).flatten
def whole (ls : List (List UInt8)) : List (List UInt8) := ls.filter fun r => decide (0 < r.length)

theorem puts_append (a b : List (List UInt8)) : puts (a ++ b) = puts a ++ puts b := by simp [puts]

theorem all_puts (ls : List (List UInt8)) (b : List UInt8) (h : ∀ r ∈ ls, r.length ≤ 1048576) :
    all (puts ls ++ b) = (whole ls ++ (all b).1, (puts ls).length + (all b).2.1, (all b).2.2) := by
  induction ls with
  | nil => simp [puts, whole]
  | cons r ls ih =>
    have ih' := ih (fun x hx => h x (by simp [hx]))
    have hr := h r (by simp)
    have e : puts (r :: ls) = put r ++ puts ls := by simp [puts]
    rw [e, List.append_assoc]
    unfold put
    by_cases h0 : r.length < 1
    · rw [if_pos (by omega)]
      have : whole (r :: ls) = whole ls := by unfold whole; rw [List.filter_cons_of_neg (by simp only [decide_eq_true_eq]; omega)]
      rw [this]
      simpa using ih'
    · rw [if_neg (by omega), all_frame r _ (by omega) hr, ih']
      have : whole (r :: ls) = r :: whole ls := by unfold whole; rw [List.filter_cons_of_pos (by simp; omega)]
      rw [this]
      simp only [List.length_append, frame_length, List.cons_append]
      congr 2
      omega

theorem puts_take {ls : List (List UInt8)} {k : Nat} {l : List UInt8} (h : ls[k]? = some l) : puts (ls.take (k + 1)) = puts (ls.take k) ++ put l := by
  rw [List.take_add_one, h]
  simp [puts]

theorem whole_take1 {ls : List (List UInt8)} {k : Nat} {l : List UInt8} (h : ls[k]? = some l) (h0 : 0 < l.length) : whole (ls.take (k + 1)) = whole (ls.take k) ++ [l] := by
  rw [List.take_add_one, h]
  unfold whole
  rw [List.filter_append]
  congr 1
  show List.filter _ [l] = [l]
  rw [List.filter_cons_of_pos (by simp; omega)]
  rfl

theorem whole_take0 {ls : List (List UInt8)} {k : Nat} {l : List UInt8} (h : ls[k]? = some l) (h0 : l.length = 0) : whole (ls.take (k + 1)) = whole (ls.take k) := by
  rw [List.take_add_one, h]
  unfold whole
  rw [List.filter_append]
  show _ ++ List.filter _ [l] = _
  rw [List.filter_cons_of_neg (by simp only [decide_eq_true_eq]; omega)]
  simp

theorem put_length_le (l : List UInt8) : (put l).length ≤ 8 + l.length := by
  unfold put
  split
  · simp
  · rw [frame_length]; omega

theorem puts_le (ls : List (List UInt8)) : (puts ls).length ≤ 8 * ls.length + ls.flatten.length := by
  induction ls with
  | nil => simp [puts]
  | cons l ls ih =>
    have e : puts (l :: ls) = put l ++ puts ls := by simp [puts]
    have := put_length_le l
    rw [e, List.length_append, List.length_cons, List.flatten_cons, List.length_append]
    omega

theorem puts_take_le (ls : List (List UInt8)) (k : Nat) : (puts (ls.take k)).length ≤ (puts ls).length := by
  have h := congrArg List.length (puts_append (ls.take k) (ls.drop k))
  rw [List.take_append_drop, List.length_append] at h
  omega

theorem whole_le (ls : List (List UInt8)) : (whole ls).length ≤ ls.length := List.length_filter_le _ _

theorem all_puts_end (ls : List (List UInt8)) (h : ∀ r ∈ ls, r.length ≤ 1048576) : all (puts ls) = (whole ls, (puts ls).length, 2) := by
  have := all_puts ls [] h
  rw [List.append_nil] at this
  rw [this]
  have e : all [] = ([], 0, 2) := rfl
  rw [e]
  simp

/-! Frames of which bytes are missing at the end. -/

theorem tears (ls : List (List UInt8)) (h : ∀ r ∈ ls, r.length ≤ 1048576) (n i : Nat) (hat : (puts (ls.take i)).length ≤ n) :
    all ((puts ls).take n) = (whole (ls.take i) ++ (all ((puts (ls.drop i)).take (n - (puts (ls.take i)).length))).1,
      (puts (ls.take i)).length + (all ((puts (ls.drop i)).take (n - (puts (ls.take i)).length))).2.1, (all ((puts (ls.drop i)).take (n - (puts (ls.take i)).length))).2.2) := by
  have e : (puts ls).take n = puts (ls.take i) ++ (puts (ls.drop i)).take (n - (puts (ls.take i)).length) := by
    have hs : puts ls = puts (ls.take i) ++ puts (ls.drop i) := by rw [← puts_append, List.take_append_drop]
    rw [hs, List.take_append, List.take_of_length_le hat]
  rw [e, all_puts _ _ (fun r hr => h r (List.mem_of_mem_take hr))]

theorem next_stop (r b : List UInt8) (m : Nat) (h1 : 1 ≤ r.length) (h2 : r.length ≤ 1048576) (hm : m < 8 + r.length) :
    next ((frame r ++ b).take m) = ([], 0, if m = 0 then 2 else 3) := by
  have hl : ((frame r ++ b).take m).length = m := by
    rw [List.length_take, List.length_append, frame_length]; omega
  have e : (frame r ++ b).take m = (frame r).take m := by
    rw [List.take_append_of_le_length (by rw [frame_length]; omega)]
  unfold next
  rw [hl]
  by_cases h0 : m = 0
  · rw [if_pos h0, if_pos h0]
  rw [if_neg h0, if_neg h0]
  by_cases h4 : m < 4
  · rw [if_pos h4]
  rw [if_neg h4]
  have hg : get ((frame r ++ b).take m) = r.length := by
    have : (frame r ++ b).take m = le r.length ++ ((le (fsum (le r.length) r) ++ r) ++ b).take (m - 4) := by
      unfold frame
      rw [List.append_assoc, List.take_append, List.take_of_length_le (by simp; omega)]
      rfl
    rw [this]
    exact get_le _ (by omega) _
  rw [hg, if_neg (by omega), if_pos (by omega)]

theorem tear_stop (ls : List (List UInt8)) (h : ∀ r ∈ ls, r.length ≤ 1048576) (n i : Nat) (l : List UInt8) (hl : ls[i]? = some l) (h0 : 0 < l.length) (hat : (puts (ls.take i)).length ≤ n)
    (hst : n < (puts (ls.take i)).length + 8 + l.length) :
    all ((puts ls).take n) = (whole (ls.take i), (puts (ls.take i)).length, if n = (puts (ls.take i)).length then 2 else 3) := by
  have hm := List.mem_of_getElem? hl
  have hd : puts (ls.drop i) = frame l ++ puts (ls.drop (i + 1)) := by
    have hlt := (List.getElem?_eq_some_iff.1 hl)
    obtain ⟨hlt, hle⟩ := hlt
    rw [List.drop_eq_getElem_cons hlt, hle]
    show puts (l :: _) = _
    have : put l = frame l := by unfold put; rw [if_neg (by have := h l hm; omega)]
    simp [puts, this]
  have hs := next_stop l (puts (ls.drop (i + 1))) (n - (puts (ls.take i)).length) h0 (h l hm) (by omega)
  rw [tears ls h n i hat, hd, all_not _ (by rw [hs]; simp only; split <;> omega), hs]
  simp only [List.append_nil, Nat.add_zero]
  congr 2
  by_cases h5 : n = (puts (ls.take i)).length
  · rw [if_pos h5, if_pos (by omega)]
  · rw [if_neg h5, if_neg (by omega)]

theorem tear_end (ls : List (List UInt8)) (h : ∀ r ∈ ls, r.length ≤ 1048576) (n : Nat) (hn : n = (puts ls).length) :
    all ((puts ls).take n) = (whole ls, (puts ls).length, 2) := by
  subst hn
  rw [List.take_length]
  exact all_puts_end ls h

theorem tear_at (ls : List (List UInt8)) (h : ∀ r ∈ ls, r.length ≤ 1048576) (n i : Nat) (l : List UInt8) (hl : ls[i]? = some l) (h0 : 0 < l.length)
    (hst : (puts (ls.take i)).length + 8 + l.length ≤ n) :
    (all ((puts ls).take n)).1[(whole (ls.take i)).length]? = some l ∧ (puts (ls.take (i + 1))).length = (puts (ls.take i)).length + 8 + l.length := by
  have hm := List.mem_of_getElem? hl
  have hp : put l = frame l := by unfold put; rw [if_neg (by have := h l hm; omega)]
  have e : (puts (ls.take (i + 1))).length = (puts (ls.take i)).length + 8 + l.length := by
    rw [puts_take hl, List.length_append, hp, frame_length]; omega
  refine ⟨?_, e⟩
  rw [tears ls h n (i + 1) (by omega), whole_take1 hl h0]
  simp

theorem all_count (b : List UInt8) : (all b).1.length ≤ (all b).2.1 := by
  unfold all
  suffices h : ∀ (f : Nat) (b : List UInt8), (allF f b).1.length ≤ (allF f b).2.1 from h _ b
  intro f
  induction f with
  | zero => intro b; simp [allF]
  | succ f ih =>
    intro b
    unfold allF
    split
    · rename_i h1
      rcases next_cases b with ⟨_, h2, h3⟩ | ⟨_, _, h3⟩
      · have := ih (b.drop (next b).2.1)
        simp only [List.length_cons]
        omega
      · omega
    · simp

/-- A frame's head, and another record of the same length behind it. -/
theorem next_head (n : Nat) (l r : List UInt8) (hr : r.length = n) (h1 : 1 ≤ n) (h2 : n ≤ 1048576) :
    next ((le n ++ le (fsum (le n) l)) ++ r) = if fsum (le n) r ≠ fsum (le n) l then ([], 0, 4) else (r, 8 + n, 1) := by
  have hg : get ((le n ++ le (fsum (le n) l)) ++ r) = n := by
    rw [List.append_assoc]
    exact get_le _ (by omega) _
  have hd : ((le n ++ le (fsum (le n) l)) ++ r).drop 4 = le (fsum (le n) l) ++ r := by
    rw [List.append_assoc, List.drop_append_of_le_length (by simp)]
    rfl
  have hd8 : ((le n ++ le (fsum (le n) l)) ++ r).drop 8 = r := by
    have : ((le n ++ le (fsum (le n) l)) ++ r).drop 8 = (((le n ++ le (fsum (le n) l)) ++ r).drop 4).drop 4 := by rw [List.drop_drop]
    rw [this, hd, List.drop_append_of_le_length (by simp)]
    rfl
  have ht : ((le n ++ le (fsum (le n) l)) ++ r).take 4 = le n := by
    rw [List.append_assoc, List.take_append_of_le_length (by simp)]
    rfl
  have hrr : r.take n = r := List.take_of_length_le (by omega)
  unfold next
  rw [hg, hd, hd8, ht, hrr, get_le _ (fsum_lt _ _)]
  simp only [List.length_append, le_length, hr]
  rw [if_neg (by omega), if_neg (by omega), if_neg (by omega), if_neg (by omega)]

end Go.Proofs.YtfdpnjebhllpkaaGreatDoor.Fr
end
