

/- The plain mathematics of the layer crc: the step of the register, bit by bit. -/
namespace Go.Proofs.YtfdpnjebhllpkaaGreatDoor.Crc

/-- The polynomial, behind a name. -/
def poly : Nat := 3988292384

/-- One step of the register. -/
def T (x : Nat) : Nat := if x % 2 = 1 then x / 2 ^^^ poly else x / 2

def Tn : Nat → Nat → Nat
  | 0, x => x
  | n + 1, x => Tn n (T x)

theorem T_lt {x : Nat} (h : x < 4294967296) : T x < 4294967296 := by
  unfold T
  split
  · exact Nat.xor_lt_two_pow (n := 32) (by omega) (by decide)
  · omega

theorem Tn_lt {n x : Nat} (h : x < 4294967296) : Tn n x < 4294967296 := by
  induction n generalizing x with
  | zero => exact h
  | succ n ih => exact ih (T_lt h)

theorem Tn_succ (n x : Nat) : Tn (n + 1) x = T (Tn n x) := by
  induction n generalizing x with
  | zero => rfl
  | succ n ih => exact ih (T x)

theorem xor_mod2 (x y : Nat) : (x ^^^ y) % 2 = (x % 2 + y % 2) % 2 := by
  have h := Nat.xor_mod_two_eq_one (a := x) (b := y)
  omega

theorem xor_div2 (x y : Nat) : (x ^^^ y) / 2 = x / 2 ^^^ y / 2 := by
  have := Nat.shiftRight_xor_distrib (a := x) (b := y) (i := 1)
  simpa [Nat.shiftRight_eq_div_pow] using this

theorem T_xor (x y : Nat) : T (x ^^^ y) = T x ^^^ T y := by
  unfold T
  rw [xor_div2]
  have h := xor_mod2 x y
  by_cases hx : x % 2 = 1 <;> by_cases hy : y % 2 = 1
  · rw [if_neg (by omega), if_pos hx, if_pos hy]
    rw [Nat.xor_assoc, ← Nat.xor_assoc poly, Nat.xor_comm poly, Nat.xor_assoc, Nat.xor_self, Nat.xor_zero]
  · rw [if_pos (by omega), if_pos hx, if_neg hy]
    rw [Nat.xor_assoc, Nat.xor_comm (y / 2), Nat.xor_assoc]
  · rw [if_pos (by omega), if_neg hx, if_pos hy]
    rw [Nat.xor_assoc]
  · rw [if_neg (by omega), if_neg hx, if_neg hy]

theorem Tn_xor (n x y : Nat) : Tn n (x ^^^ y) = Tn n x ^^^ Tn n y := by
  induction n generalizing x y with
  | zero => rfl
  | succ n ih => show Tn n (T _) = Tn n (T _) ^^^ Tn n (T _); rw [T_xor, ih]

/-- Low bits clear: n steps are a shift. -/
theorem Tn_shift (n x : Nat) : Tn n (x * 2 ^ n) = x := by
  induction n generalizing x with
  | zero => simp [Tn]
  | succ n ih =>
    show Tn n (T _) = x
    have : T (x * 2 ^ (n + 1)) = x * 2 ^ n := by
      have e : x * 2 ^ (n + 1) = (x * 2 ^ n) * 2 := by rw [Nat.pow_succ, Nat.mul_assoc]
      unfold T
      rw [e, if_neg (by omega)]
      omega
    rw [this, ih]

theorem T_zero {x : Nat} (hx : x < 4294967296) (h : T x = 0) : x = 0 := by
  unfold T at h
  split at h
  · exfalso
    have e : x / 2 = poly := by
      have := congrArg (· ^^^ poly) h
      simpa [Nat.xor_assoc] using this
    have hp : poly = 3988292384 := rfl
    omega
  · omega

theorem Tn_zero {n x : Nat} (hx : x < 4294967296) (h : Tn n x = 0) : x = 0 := by
  induction n generalizing x with
  | zero => exact h
  | succ n ih => exact T_zero hx (ih (T_lt hx) h)

/-- A bit comes in: the step of the register with the bit in its lowest place. -/
def feed (x d : Nat) : Nat := if x % 2 ≠ d % 2 then x / 2 ^^^ poly else x / 2

theorem feed_eq (x d : Nat) : feed x d = T (x ^^^ (d % 2)) := by
  unfold feed T
  have h := xor_mod2 x (d % 2)
  have e := xor_div2 x (d % 2)
  have e2 : d % 2 / 2 = 0 := by omega
  rw [e, e2, Nat.xor_zero]
  by_cases hh : x % 2 = d % 2
  · rw [if_neg (by simpa using hh), if_neg (by omega)]
  · rw [if_pos hh, if_pos (by omega)]

/-- The bits of a number, one behind the other, from bit k on. -/
def feeds : Nat → Nat → Nat → Nat
  | 0, x, _ => x
  | n + 1, x, d => feeds n (feed x d) (d / 2)

theorem Tn_half (n d : Nat) : d / 2 ^ (n + 1) = d / 2 / 2 ^ n := by rw [Nat.pow_succ, Nat.mul_comm, Nat.div_div_eq_div_mul]

theorem xor_low (d : Nat) : d % 2 ^^^ (d / 2) * 2 = d := by
  have h1 := Nat.two_pow_add_eq_or_of_lt (i := 1) (b := d % 2) (by omega) (d / 2)
  have h2 : (2 ^ 1 * (d / 2) ||| d % 2) = 2 ^ 1 * (d / 2) ^^^ d % 2 := by
    apply Nat.eq_of_testBit_eq
    intro i
    rw [Nat.testBit_or, Nat.testBit_xor]
    rcases Nat.eq_zero_or_pos i with rfl | hi
    · simp [Nat.testBit_zero]
    · have : (d % 2).testBit i = false := Nat.testBit_lt_two_pow (by have := Nat.one_lt_two_pow (n := i) (by omega); omega)
      rw [this]; simp
  rw [Nat.xor_comm, Nat.mul_comm]
  simp only [Nat.pow_one] at h1 h2
  omega

theorem feeds_eq (n x d : Nat) : feeds n x d ^^^ d / 2 ^ n = Tn n (x ^^^ d) := by
  induction n generalizing x d with
  | zero => simp [feeds, Tn]
  | succ n ih =>
    show feeds n (feed x d) (d / 2) ^^^ d / 2 ^ (n + 1) = Tn n (T (x ^^^ d))
    rw [Tn_half, ih, feed_eq]
    congr 1
    have e : x ^^^ d = (x ^^^ d % 2) ^^^ (d / 2) * 2 := by rw [Nat.xor_assoc, xor_low]
    have h1 : T ((d / 2) * 2) = d / 2 := by
      have := Tn_shift 1 (d / 2)
      simpa [Tn] using this
    rw [e, T_xor (x ^^^ d % 2) ((d / 2) * 2), h1]

theorem feeds_succ (n x d : Nat) : feeds (n + 1) x d = feed (feeds n x d) (d / 2 ^ n) := by
  induction n generalizing x d with
  | zero => simp [feeds]
  | succ n ih =>
    show feeds (n + 1) (feed x d) (d / 2) = feed (feeds n (feed x d) (d / 2)) (d / 2 ^ (n + 1))
    rw [ih, Tn_half]

theorem feeds_lt {n x d : Nat} (h : x < 4294967296) : feeds n x d < 4294967296 := by
  induction n generalizing x d with
  | zero => exact h
  | succ n ih => exact ih (by rw [feed_eq]; exact T_lt (Nat.xor_lt_two_pow (n := 32) h (by omega)))

/-- A byte comes in. -/
def byte (x : Nat) (c : UInt8) : Nat := Tn 8 (x ^^^ c.toNat)

theorem byte_feeds (x : Nat) (c : UInt8) : byte x c = feeds 8 x c.toNat := by
  have h := feeds_eq 8 x c.toNat
  have hc := c.toNat_lt
  rw [show c.toNat / 2 ^ 8 = 0 from by omega, Nat.xor_zero] at h
  exact h.symm

theorem byte_table (x : Nat) (c : UInt8) : byte x c = x / 256 ^^^ Tn 8 (x % 256 ^^^ c.toNat) := by
  unfold byte
  have e : x = (x / 256) * 2 ^ 8 ^^^ x % 256 := by
    have h1 := Nat.two_pow_add_eq_or_of_lt (i := 8) (b := x % 256) (by omega) (x / 256)
    have h2 : (2 ^ 8 * (x / 256) ||| x % 256) = 2 ^ 8 * (x / 256) ^^^ x % 256 := by
      apply Nat.eq_of_testBit_eq
      intro i
      rw [Nat.testBit_or, Nat.testBit_xor]
      by_cases hi : i < 8
      · have : (2 ^ 8 * (x / 256)).testBit i = false := by rw [Nat.testBit_two_pow_mul]; simp; omega
        rw [this]; simp
      · have : (x % 256).testBit i = false := Nat.testBit_lt_two_pow (by have := Nat.pow_le_pow_right (n := 2) (by omega) (show 8 ≤ i from by omega); omega)
        rw [this]; simp
    rw [Nat.mul_comm, ← h2, ← h1]
    omega
  conv => lhs; rw [e]
  rw [Nat.xor_assoc, Tn_xor, Tn_shift]

theorem byte_lt {x : Nat} (c : UInt8) (h : x < 4294967296) : byte x c < 4294967296 :=
  Tn_lt (Nat.xor_lt_two_pow (n := 32) h (by have := c.toNat_lt; omega))

/-- The register behind a row of bytes. -/
def reg (x : Nat) (l : List UInt8) : Nat := l.foldl byte x

theorem reg_snoc (x : Nat) (l : List UInt8) (c : UInt8) : reg x (l ++ [c]) = byte (reg x l) c := by simp [reg]
theorem reg_append (x : Nat) (a b : List UInt8) : reg x (a ++ b) = reg (reg x a) b := by simp [reg]

theorem reg_lt {x : Nat} (l : List UInt8) (h : x < 4294967296) : reg x l < 4294967296 := by
  induction l generalizing x with
  | nil => exact h
  | cons c l ih => exact ih (byte_lt c h)

/-- A sum goes on. -/
def on (s : Nat) (l : List UInt8) : Nat := 4294967295 - reg (4294967295 - s) l

/-- The sum of bytes. -/
def sum (l : List UInt8) : Nat := on 0 l

theorem on_lt (s : Nat) (l : List UInt8) : on s l < 4294967296 := by unfold on; omega

theorem on_sum (a b : List UInt8) : on (sum a) b = sum (a ++ b) := by
  unfold sum on
  have h := reg_lt (x := 4294967295) a (by omega)
  rw [Nat.sub_zero, reg_append, show 4294967295 - (4294967295 - reg 4294967295 a) = reg 4294967295 a from by omega]

theorem reg_xor (x y : Nat) (l : List UInt8) : reg (x ^^^ y) l = reg x l ^^^ Tn (8 * l.length) y := by
  induction l generalizing x y with
  | nil => rfl
  | cons c l ih =>
    show reg (byte (x ^^^ y) c) l = reg (byte x c) l ^^^ _
    have e : byte (x ^^^ y) c = byte x c ^^^ Tn 8 y := by
      unfold byte
      rw [Nat.xor_assoc, Nat.xor_comm y, ← Nat.xor_assoc, Tn_xor]
    rw [e, ih]
    congr 1

/-! Bits that are turned. -/

/-- A row of bytes as one number, the first byte the lowest. -/
def num : List UInt8 → Nat
  | [] => 0
  | c :: l => c.toNat + 256 * num l

theorem low_xor (c m : Nat) (hc : c < 256) : c + 256 * m = c ^^^ m * 2 ^ 8 := by
  have h1 := Nat.two_pow_add_eq_or_of_lt (i := 8) (b := c) hc m
  have h2 : (2 ^ 8 * m ||| c) = 2 ^ 8 * m ^^^ c := by
    apply Nat.eq_of_testBit_eq
    intro i
    rw [Nat.testBit_or, Nat.testBit_xor]
    by_cases hi : i < 8
    · have : (2 ^ 8 * m).testBit i = false := by rw [Nat.testBit_two_pow_mul]; simp; omega
      rw [this]; simp
    · have : c.testBit i = false := Nat.testBit_lt_two_pow (by have := Nat.pow_le_pow_right (n := 2) (by omega) (show 8 ≤ i from by omega); omega)
      rw [this]; simp
  rw [Nat.xor_comm, Nat.mul_comm m, ← h2, ← h1]
  omega

theorem reg_num (x : Nat) (l : List UInt8) : reg x l = Tn (8 * l.length) (x ^^^ num l) := by
  induction l generalizing x with
  | nil => simp [reg, num, Tn]
  | cons c l ih =>
    show reg (byte x c) l = _
    rw [ih]
    have e : Tn (8 * (c :: l).length) (x ^^^ num (c :: l)) = Tn (8 * l.length) (Tn 8 (x ^^^ num (c :: l))) := by
      rw [List.length_cons, Nat.mul_add]; rfl
    rw [e]
    congr 1
    unfold byte
    rw [num, low_xor _ _ c.toNat_lt, ← Nat.xor_assoc, Tn_xor _ (x ^^^ c.toNat), Tn_shift]

theorem num_set (l : List UInt8) (j r : Nat) (x y : UInt8) (hr : r < 8) (hj : l[j]? = some x) (hy : y.toNat = x.toNat ^^^ 2 ^ r) :
    num (l.set j y) = num l ^^^ 2 ^ (8 * j + r) := by
  induction l generalizing j with
  | nil => simp at hj
  | cons c l ih =>
    cases j with
    | zero =>
      simp at hj
      subst hj
      show y.toNat + 256 * num l = (c.toNat + 256 * num l) ^^^ _
      rw [low_xor _ _ c.toNat_lt, low_xor _ _ y.toNat_lt, hy]
      rw [Nat.xor_assoc, Nat.xor_assoc, Nat.xor_comm (2 ^ r)]
      simp
    | succ j =>
      simp at hj
      show c.toNat + 256 * num (l.set j y) = (c.toNat + 256 * num l) ^^^ _
      rw [ih j hj, low_xor _ _ c.toNat_lt, low_xor _ _ c.toNat_lt, Nat.xor_assoc]
      congr 1
      have : 2 ^ (8 * (j + 1) + r) = 2 ^ (8 * j + r) * 2 ^ 8 := by rw [← Nat.pow_add]; congr 1; omega
      rw [this]
      have := Nat.shiftLeft_xor_distrib (a := num l) (b := 2 ^ (8 * j + r)) (i := 8)
      simpa [Nat.shiftLeft_eq] using this

theorem Tn_add (m k z : Nat) : Tn (m + k) z = Tn m (Tn k z) := by
  induction k generalizing z with
  | zero => rfl
  | succ k ih => exact ih (T z)

/-- Bytes of which bits within 32 are turned have another register behind them. -/
theorem reg_turned (x at_ e : Nat) (l c : List UInt8) (hl : c.length = l.length) (hc : num c = num l ^^^ e * 2 ^ at_) (hat : at_ ≤ 8 * l.length) (he : e < 4294967296) (h0 : e ≠ 0) :
    reg x c ≠ reg x l := by
  intro h
  rw [reg_num, reg_num, hl, hc, ← Nat.xor_assoc, Tn_xor _ (x ^^^ num l)] at h
  have h1 : Tn (8 * l.length) (e * 2 ^ at_) = 0 := by
    have := congrArg (Tn (8 * l.length) (x ^^^ num l) ^^^ ·) h
    simpa [← Nat.xor_assoc] using this
  rw [show 8 * l.length = (8 * l.length - at_) + at_ from by omega, Tn_add, Tn_shift] at h1
  exact h0 (Tn_zero he h1)

theorem sum_turned (at_ e : Nat) (l c : List UInt8) (hl : c.length = l.length) (hc : num c = num l ^^^ e * 2 ^ at_) (hat : at_ ≤ 8 * l.length) (he : e < 4294967296) (h0 : e ≠ 0) :
    sum c ≠ sum l := by
  have h := reg_turned 4294967295 at_ e l c hl hc hat he h0
  have h1 := reg_lt (x := 4294967295) l (by omega)
  have h2 := reg_lt (x := 4294967295) c (by omega)
  unfold sum on
  rw [Nat.sub_zero]
  omega

/-- One bit more. -/
theorem bits_succ1 (e i : Nat) (h : e / 2 ^ i % 2 = 1) : e % 2 ^ (i + 1) = e % 2 ^ i ^^^ 2 ^ i := by
  have h1 : e % 2 ^ (i + 1) = e % 2 ^ i + 2 ^ i * (e / 2 ^ i % 2) := by rw [Nat.pow_succ, Nat.mod_mul]
  rw [h1, h, Nat.mul_one]
  have hlt : e % 2 ^ i < 2 ^ i := Nat.mod_lt _ (Nat.two_pow_pos i)
  have h2 := Nat.two_pow_add_eq_or_of_lt (i := i) hlt 1
  have h3 : (2 ^ i * 1 ||| e % 2 ^ i) = 2 ^ i * 1 ^^^ e % 2 ^ i := by
    apply Nat.eq_of_testBit_eq
    intro j
    rw [Nat.testBit_or, Nat.testBit_xor]
    by_cases hj : j < i
    · have : (2 ^ i * 1).testBit j = false := by rw [Nat.testBit_two_pow_mul]; simp; omega
      rw [this]; simp
    · have : (e % 2 ^ i).testBit j = false := Nat.testBit_lt_two_pow (Nat.lt_of_lt_of_le hlt (Nat.pow_le_pow_right (by omega) (by omega)))
      rw [this]; simp
  rw [Nat.xor_comm, Nat.add_comm]
  rw [Nat.mul_one] at h2 h3
  rw [← h3, ← h2]

theorem bits_succ0 (e i : Nat) (h : e / 2 ^ i % 2 ≠ 1) : e % 2 ^ (i + 1) = e % 2 ^ i := by
  have h1 : e % 2 ^ (i + 1) = e % 2 ^ i + 2 ^ i * (e / 2 ^ i % 2) := by rw [Nat.pow_succ, Nat.mod_mul]
  rw [h1, show e / 2 ^ i % 2 = 0 from by omega, Nat.mul_zero, Nat.add_zero]

/-- What the loop of turned bits keeps: behind i rounds. -/
theorem turn_step (l L : List UInt8) (e at_ i : Nat) (x y : UInt8) (hL : num L = num l ^^^ (e % 2 ^ i) * 2 ^ at_) (h : e / 2 ^ i % 2 = 1)
    (hx : L[(at_ + i) / 8]? = some x) (hy : y.toNat = x.toNat ^^^ 2 ^ ((at_ + i) % 8)) :
    num (L.set ((at_ + i) / 8) y) = num l ^^^ (e % 2 ^ (i + 1)) * 2 ^ at_ := by
  rw [num_set L _ ((at_ + i) % 8) x y (by omega) hx hy, hL, bits_succ1 e i h]
  have := Nat.shiftLeft_xor_distrib (a := e % 2 ^ i) (b := 2 ^ i) (i := at_)
  simp only [Nat.shiftLeft_eq] at this
  rw [this, Nat.xor_assoc]
  congr 2
  rw [← Nat.pow_add]
  congr 1
  omega

theorem num_inj {a b : List UInt8} (hl : a.length = b.length) (h : num a = num b) : a = b := by
  induction a generalizing b with
  | nil => cases b with
    | nil => rfl
    | cons x b => simp at hl
  | cons x a ih =>
    cases b with
    | nil => simp at hl
    | cons y b =>
      have hx := x.toNat_lt
      have hy := y.toNat_lt
      simp only [num] at h
      have h1 : x.toNat = y.toNat := by omega
      have h2 : num a = num b := by omega
      rw [ih (by simpa using hl) h2, UInt8.toNat_inj.1 h1]

theorem num_append (a b : List UInt8) : num (a ++ b) = num a ^^^ num b * 2 ^ (8 * a.length) := by
  induction a with
  | nil => simp [num]
  | cons c a ih =>
    show c.toNat + 256 * num (a ++ b) = (c.toNat + 256 * num a) ^^^ _
    rw [low_xor _ _ c.toNat_lt, low_xor _ _ c.toNat_lt, ih, Nat.xor_assoc]
    congr 1
    have h := Nat.shiftLeft_xor_distrib (a := num a) (b := num b * 2 ^ (8 * a.length)) (i := 8)
    simp only [Nat.shiftLeft_eq] at h
    rw [h, Nat.mul_assoc, ← Nat.pow_add, List.length_cons, show 8 * a.length + 8 = 8 * (a.length + 1) from by omega]

/-- What stands ahead does not matter. -/
theorem sum_turned_behind (at_ e : Nat) (h l c : List UInt8) (hl : c.length = l.length) (hc : num c = num l ^^^ e * 2 ^ at_) (hat : at_ ≤ 8 * l.length) (he : e < 4294967296) (h0 : e ≠ 0) :
    sum (h ++ c) ≠ sum (h ++ l) := by
  refine sum_turned (8 * h.length + at_) e _ _ (by simp [hl]) ?_ (by simp; omega) he h0
  rw [num_append, num_append, hc, Nat.xor_assoc]
  congr 1
  have h := Nat.shiftLeft_xor_distrib (a := num l) (b := e * 2 ^ at_) (i := 8 * h.length)
  simp only [Nat.shiftLeft_eq] at h
  rw [h, Nat.mul_assoc, ← Nat.pow_add, Nat.add_comm at_]

end Go.Proofs.YtfdpnjebhllpkaaGreatDoor.Crc
