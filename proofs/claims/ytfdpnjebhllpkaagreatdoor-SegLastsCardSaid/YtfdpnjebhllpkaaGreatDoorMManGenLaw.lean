/- Generations told of names: the plain law. -/
import Derived.Test.YtfdpnjebhllpkaaGreatDoorMManNum
import Derived.Lib.AtoiTie
import Derived.Lib.AtoiAllCases
namespace Go.Proofs.YtfdpnjebhllpkaaGreatDoor.Ma
open Go.RowKit Go.Shelf Go.Lib

theorem decFrom_append (a b : List UInt8) : ∀ acc, decFrom acc (a ++ b) = (decFrom acc a).bind fun m => decFrom m b := by
  induction a with
  | nil => intro acc; rfl
  | cons x r ih =>
    intro acc
    rw [List.cons_append, decFrom, decFrom]
    cases digitVal x with
    | none => rfl
    | some d => exact ih _

theorem digit_nat (d : Nat) (h : d < 10) : digitVal (UInt8.ofNat (48 + d)) = some d := by
  unfold digitVal
  rw [UInt8.toNat_ofNat', Nat.mod_eq_of_lt (by omega), if_pos (by omega)]
  congr 1
  omega

theorem decFrom_one (acc : Nat) (b : UInt8) (d : Nat) (h : digitVal b = some d) : decFrom acc [b] = some (acc * 10 + d) := by simp [decFrom, h]

theorem dec_digits : ∀ (k n acc : Nat), n < 10 ^ k → decFrom acc (Nu.digitsK k n) = some (acc * 10 ^ k + n) := by
  intro k
  induction k with
  | zero => intro n acc h; simp at h; subst h; simp [Nu.digitsK, decFrom]
  | succ k ih =>
    intro n acc h
    rw [Nat.pow_succ] at h
    rw [Nu.digitsK, decFrom_append, ih (n / 10) acc (by omega)]
    show decFrom (acc * 10 ^ k + n / 10) [UInt8.ofNat (48 + n % 10)] = _
    rw [decFrom_one _ _ _ (digit_nat _ (by omega)), Nat.pow_succ]
    congr 1
    have : acc * (10 ^ k * 10) = acc * 10 ^ k * 10 := by rw [Nat.mul_assoc]
    omega

theorem digits_dec : ∀ (k v : Nat) (l : List UInt8), l.length = k → decFrom 0 l = some v → l = Nu.digitsK k v := by
  intro k
  induction k with
  | zero => intro v l hl _; exact List.eq_nil_of_length_eq_zero hl
  | succ k ih =>
    intro v l hl h
    have hne : l ≠ [] := by intro e; rw [e] at hl; simp at hl
    obtain ⟨l', b, rfl⟩ : ∃ l' b, l = l' ++ [b] := ⟨l.dropLast, l.getLast hne, (List.dropLast_concat_getLast hne).symm⟩
    rw [decFrom_append] at h
    cases h1 : decFrom 0 l' with
    | none => rw [h1] at h; cases h
    | some m =>
      rw [h1] at h
      change decFrom m [b] = some v at h
      cases h2 : digitVal b with
      | none => simp [decFrom, h2] at h
      | some d =>
        rw [decFrom_one _ _ _ h2, Option.some.injEq] at h
        obtain ⟨d1, d2, d3⟩ := digitVal_eq h2
        have e1 := ih m l' (by simpa using hl) h1
        rw [Nu.digitsK, show v / 10 = m by omega, ← e1]
        congr 2
        apply UInt8.toNat_inj.1
        rw [UInt8.toNat_ofNat']
        omega

def man4 : List UInt8 := [109, 97, 110, 46]

/-- What the code tells of a name. -/
def genC (l : List UInt8) : Int × Bool :=
  match atoiAll (l.drop 4) with
  | .ok n => if l.take 4 = man4 ∧ okN n = true ∧ nameOf man4 n = l then (n, true) else (0, false)
  | _ => (0, false)

/-- What the document tells of a name. -/
def genR (l : List UInt8) : Int × Bool :=
  if l.length = 12 ∧ l.take 4 = man4 then
    match decFrom 0 (l.drop 4) with
    | some v => ((v : Int), decide (0 < v))
    | none => (0, false)
  else (0, false)

theorem genR_of_name {n : Int} (h : okN n = true) : genR (nameOf man4 n) = (n, true) := by
  obtain ⟨k, rfl, h1, h2⟩ := okN_nat h
  have e : nameOf man4 k = man4 ++ Nu.eight k := by unfold nameOf; rw [h, if_pos rfl]; rfl
  have hl := Nu.eight_len k
  have hd : (man4 ++ Nu.eight k).drop 4 = Nu.eight k := rfl
  unfold genR
  rw [e, if_pos ⟨by rw [List.length_append, hl]; rfl, rfl⟩, hd, Nu.eight, dec_digits 8 k 0 (by omega)]
  simp
  omega

theorem atoi_eight {v : Nat} (h2 : v ≤ 99999999) : atoiAll (Nu.eight v) = .ok (v : Int) := by
  have hl := Nu.eight_len v
  have hd : decFrom 0 (Nu.eight v) = some v := by
    have := dec_digits 8 v 0 (by omega)
    unfold Nu.eight
    simpa using this
  rw [atoiAll_short _ (by omega)]
  obtain ⟨b, r, e⟩ : ∃ b r, Nu.eight v = b :: r := by
    cases h : Nu.eight v with
    | nil => rw [h] at hl; simp at hl
    | cons b r => exact ⟨b, r, rfl⟩
  obtain ⟨d, hdv⟩ := digit_of_decFrom (Nu.eight v) 0 v hd 0 b (by rw [e]; rfl)
  obtain ⟨d1, d2, _⟩ := digitVal_eq hdv
  have n45 : (b == 45) = false := by rw [beq_eq_false_iff_ne]; intro h; rw [h] at d1; simp at d1
  have n43 : (b == 43) = false := by rw [beq_eq_false_iff_ne]; intro h; rw [h] at d1; simp at d1
  rw [e] at hd ⊢
  simp only [atoi, n45, n43, Bool.false_eq_true, if_false, decNat, List.isEmpty_cons, hd]
  rfl

/-- THE LAW OF Generation. -/
theorem gen_eq (l : List UInt8) : genC l = genR l := by
  have back : ∀ n, okN n = true → nameOf man4 n = l → genR l = (n, true) := fun n h1 h2 => by rw [← h2]; exact genR_of_name h1
  by_cases hr : (genR l).2 = true
  · -- the document tells a number
    have hr2 := hr
    unfold genR at hr2
    split at hr2
    · rename_i h
      cases hd : decFrom 0 (l.drop 4) with
      | none => rw [hd] at hr2; cases hr2
      | some v =>
        rw [hd] at hr2
        simp only [decide_eq_true_eq] at hr2
        have hl8 : (l.drop 4).length = 8 := by rw [List.length_drop]; omega
        have hdig := digits_dec 8 v (l.drop 4) hl8 hd
        have hv := decFrom_lt (l.drop 4) 0 v hd
        rw [hl8] at hv
        have hv2 : v ≤ 99999999 := by simp at hv; omega
        have hok : okN (v : Int) = true := by unfold okN; rw [decide_eq_true_eq]; omega
        have hname : nameOf man4 (v : Int) = l := by
          unfold nameOf
          rw [hok, if_pos rfl, Int.toNat_natCast, ← h.2, show Nu.eight v = l.drop 4 from hdig.symm, List.take_append_drop]
        rw [back v hok hname]
        unfold genC
        rw [show l.drop 4 = Nu.eight v from hdig, atoi_eight hv2]
        simp only
        rw [if_pos ⟨h.2, hok, hname⟩]
    · cases hr2
  · have hz : genR l = (0, false) := by
      unfold genR at hr ⊢
      split
      · rename_i h
        rw [if_pos h] at hr
        cases hd : decFrom 0 (l.drop 4) with
        | none => rfl
        | some v =>
          rw [hd] at hr
          simp only [decide_eq_true_eq] at hr
          obtain rfl : v = 0 := by omega
          rfl
      · rfl
    rw [hz]
    unfold genC
    generalize ha : atoiAll (l.drop 4) = R
    rcases R with n | _ | _
    case ok =>
      simp only
      rw [if_neg]
      rintro ⟨_, h2, h3⟩
      rw [back n h2 h3] at hz
      cases hz
    all_goals rfl
end Go.Proofs.YtfdpnjebhllpkaaGreatDoor.Ma
