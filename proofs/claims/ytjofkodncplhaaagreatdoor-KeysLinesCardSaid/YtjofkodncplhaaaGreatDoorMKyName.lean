/- What stands in names: none of the bytes that a key specification is written with. -/
import Derived.Test.YtjofkodncplhaaaGreatDoorMUtfE
import Derived.Test.YtjofkodncplhaaaGreatDoorMKyLines
import Derived.Test.YtjofkodncplhaaaGreatDoorMUtfLinesLaw
namespace Go.Proofs.YtjofkodncplhaaaGreatDoor.Ky
open UtfW

theorem ok_high : ∀ n : Fin 256, 128 ≤ n.val → okb (UInt8.ofNat n.val) = true := by decide +kernel
theorem ok_low : ∀ n : Fin 128, GoesOn (n.val : Nat) = true → okb (UInt8.ofNat n.val) = true := by decide +kernel
theorem ok_rune {v : Nat} (h : GoesOn (v : Nat) = true) : ∀ b ∈ encB (v : Nat), okb b = true := by
  have hi : ∀ n : Nat, 128 ≤ n → n < 256 → okb (UInt8.ofNat n) = true := fun n h1 h2 => ok_high ⟨n, h2⟩ h1
  intro b hb
  rcases enc_cases (isRune_of_char (char_of_goesOn h)) with ⟨a, e⟩ | ⟨a, c, e⟩ | ⟨a, c, _, e⟩ | ⟨a, c, e⟩
  · rw [encB_of e] at hb
    simp at hb
    subst hb
    exact ok_low ⟨v, a⟩ h
  · rw [encB_of e] at hb
    simp only [List.map_cons, List.map_nil, List.mem_cons, List.not_mem_nil, or_false] at hb
    rcases hb with rfl | rfl
    · exact hi _ (by omega) (by omega)
    · exact hi _ (by omega) (by omega)
  · rw [encB_of e] at hb
    simp only [List.map_cons, List.map_nil, List.mem_cons, List.not_mem_nil, or_false] at hb
    rcases hb with rfl | rfl | rfl
    · exact hi _ (by omega) (by omega)
    · exact hi _ (by omega) (by omega)
    · exact hi _ (by omega) (by omega)
  · rw [encB_of e] at hb
    simp only [List.map_cons, List.map_nil, List.mem_cons, List.not_mem_nil, or_false] at hb
    rcases hb with rfl | rfl | rfl | rfl
    · exact hi _ (by omega) (by omega)
    · exact hi _ (by omega) (by omega)
    · exact hi _ (by omega) (by omega)
    · exact hi _ (by omega) (by omega)
theorem ok_runes {rs : List Nat} (h : ∀ v ∈ rs, GoesOn (v : Nat) = true) : ∀ b ∈ E rs, okb b = true := by
  intro b hb
  unfold E at hb
  obtain ⟨x, hx, hb⟩ := List.mem_flatten.1 hb
  obtain ⟨v, hv, rfl⟩ := List.mem_map.1 hx
  exact ok_rune (h v hv) b hb
theorem names : Names nameR := fun s h => by
  unfold nameR at h
  cases hr : runesW s 0 with
  | none => rw [hr] at h; cases h
  | some rs =>
    rw [hr] at h
    cases rs with
    | nil => cases h
    | cons r rs =>
      simp only [Bool.and_eq_true, List.all_eq_true] at h
      have hs := (runesW_sound s s.length 0 (r :: rs) (by omega) (Nat.zero_le _) hr).1
      rw [List.drop_zero] at hs
      refine ⟨fun e => ?_, ?_⟩
      · rw [e, runesW_end (by simp)] at hr
        cases hr
      · rw [hs]
        refine ok_runes fun v hv => ?_
        rcases List.mem_cons.1 hv with rfl | hv
        · exact h.2.1
        · exact h.2.2 v hv
theorem lns_eq : ∀ l, lns l = Utf.lines l
  | [] => rfl
  | b :: t => by
    show (if b = 13 then (if t.head? = some 10 then lns t else 10 :: lns t) else b :: lns t) = _
    rw [lns_eq t]
    rfl
end Go.Proofs.YtjofkodncplhaaaGreatDoor.Ky
