/- digits and number. -/
import Derived.Test.YthiikldjngamaaaDoorQxPut
import Derived.Test.YthiikldjngamaaaDoorQxLaw
namespace Go.Proofs.YthiikldjngamaaaDoor.Qx
open Go.RowKit UtfW

theorem digits_on {S : List UInt8} {k j : Nat} {x : UInt8} (h : S[k + j]? = some x) (hd : dig x = true) : digits (S.drop (k + j)) = digits (S.drop (k + (j + 1))) + 1 := by
  have hk' : k + j < S.length := (List.getElem?_eq_some_iff.1 h).1
  rw [List.getElem?_eq_getElem hk'] at h
  injection h with h
  unfold digits
  rw [List.drop_eq_getElem_cons hk', h, List.takeWhile_cons, hd, if_pos rfl, List.length_cons]
  rfl
theorem digits_stop {S : List UInt8} {k : Nat} {x : UInt8} (h : S[k]? = some x) (hd : dig x = false) : digits (S.drop k) = 0 := by
  have hk' : k < S.length := (List.getElem?_eq_some_iff.1 h).1
  rw [List.getElem?_eq_getElem hk'] at h
  injection h with h
  unfold digits
  rw [List.drop_eq_getElem_cons hk', h, List.takeWhile_cons, hd]
  rfl
theorem digits_end {S : List UInt8} {k : Nat} (h : S.length ≤ k) : digits (S.drop k) = 0 := by
  rw [List.drop_eq_nil_of_le h]
  rfl

set_option maxRecDepth 100000 in
theorem digits_any (w : World) (b : Nat) (S : List UInt8) (k : Nat) (ts : List Tok) (A : Option Addr) (n c : Nat) (hS : S.length ≤ 1000) (h : Sc w b S k ts A n c) (p : Nat) (hp : p ≤ 2000) :
    Calls Tryd.prog 44 #[.pointer (some ⟨b, 0, none⟩), .int .i64 (p : Nat)] w fun e w' => e = .returned (.int .i64 (digits (S.drop p) : Nat)) ∧ w' = w := by
  have hsz : (strOf S).size = S.length := strOf_size' S
  have h' := Lib.hid h
  clear h
  obtain ⟨R, hR⟩ : ∃ R, digits (S.drop p) = R := ⟨_, rfl⟩
  rw [hR]
  have hR' := Lib.hid hR
  clear hR
  go_enter Tryd.func44, Tryd.ntmps44
  go_wp2_with fail
  go_loopw [5] (fun i wr => ∃ j : Nat, j ≤ 1000 ∧ i = .int .i64 (j : Nat) ∧ Hid (j + digits (S.drop (p + j)) = R) ∧ wr = w) (fun i _ => S.length + 1 - (intOf i).toNat)
  case atStart => exact ⟨0, by omega, rfl, Lib.hid (by rw [← hR'.out]; simp), rfl⟩
  case round =>
    obtain ⟨j, hj, rfl, hr, rfl⟩ := hrel
    have c0 := h'.out.c0
    by_cases hlt : p + j < S.length
    · have i0 : decide ((p : Int) + (j : Int) < (S.length : Int)) = true := by simp; omega
      have hx : S[p + j]? = some S[p + j] := List.getElem?_eq_getElem hlt
      generalize S[p + j] = x at hx
      have hlt' : p + j < (strOf S).size := by rw [hsz]; exact hlt
      have hg := str_at hx hlt'
      have hx' := Lib.hid hx
      clear hx
      cases hd : dig x with
      | true =>
        have hd' := Lib.hid hd
        have hr2 := dig_range hd
        have d1 : decide ((48 : Int) ≤ (x.toNat : Int)) = true := by simp; omega
        have d2 : decide ((x.toNat : Int) ≤ 57) = true := by simp; omega
        clear hd
        go_wp2_with fail
        go_roundw
        case rel =>
          refine ⟨j + 1, by omega, by go_num, Lib.hid ?_, trivial⟩
          have := hr.out
          rw [digits_on hx'.out hd'.out] at this
          omega
        case measure => simp [intOf]; omega
      | false =>
        have hd' := Lib.hid hd
        have hr2 : decide ((48 : Int) ≤ (x.toNat : Int)) = false ∨ decide ((48 : Int) ≤ (x.toNat : Int)) = true ∧ decide ((x.toNat : Int) ≤ 57) = false := by
          unfold dig at hd
          cases h1 : decide ((48 : Int) ≤ (x.toNat : Int))
          · exact .inl rfl
          · rw [h1] at hd
            exact .inr ⟨rfl, by simpa using hd⟩
        clear hd
        rcases hr2 with d1 | ⟨d1, d2⟩
        · go_wp2_with fail
          go_ret
          refine ⟨ret_int ?_, rfl⟩
          rw [← hr.out, digits_stop hx'.out hd'.out]
          rfl
        · go_wp2_with fail
          go_ret
          refine ⟨ret_int ?_, rfl⟩
          rw [← hr.out, digits_stop hx'.out hd'.out]
          rfl
    · have i0 : decide ((p : Int) + (j : Int) < (S.length : Int)) = false := by simp; omega
      go_wp2_with fail
      go_ret
      refine ⟨ret_int ?_, rfl⟩
      rw [← hr.out, digits_end (by omega)]
      rfl
end Go.Proofs.YthiikldjngamaaaDoor.Qx
