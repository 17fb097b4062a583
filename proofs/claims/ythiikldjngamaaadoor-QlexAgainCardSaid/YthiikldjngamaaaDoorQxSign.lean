/- sign. -/
import Derived.Test.YthiikldjngamaaaDoorQxWord
namespace Go.Proofs.YthiikldjngamaaaDoor.Qx
open Go.RowKit UtfW

theorem find_hit {l : List (List UInt8)} {f : List UInt8 → Bool} {j : Nat} {x : List UInt8} (hx : l[j]? = some x) (hf : l.find? f = (l.drop j).find? f) (hB : f x = true) : l.find? f = some x := by
  have hj := (List.getElem?_eq_some_iff.1 hx).1
  rw [List.getElem?_eq_getElem hj] at hx
  injection hx with hx
  rw [hf, List.drop_eq_getElem_cons hj, hx, List.find?_cons_of_pos hB]
theorem find_miss {l : List (List UInt8)} {f : List UInt8 → Bool} {j : Nat} {x : List UInt8} (hx : l[j]? = some x) (hf : l.find? f = (l.drop j).find? f) (hB : f x = false) : l.find? f = (l.drop (j + 1)).find? f := by
  have hj := (List.getElem?_eq_some_iff.1 hx).1
  rw [List.getElem?_eq_getElem hj] at hx
  injection hx with hx
  rw [hf, List.drop_eq_getElem_cons hj, hx, List.find?_cons_of_neg (by rw [hB]; decide)]
theorem sign_1 {R x : List UInt8} (h : signs1.find? (fun p => Lib.hasPrefix R p) = some x) : sign R = .tok 5 x x.length := by
  unfold sign
  rw [h]
theorem sign_2 {R x : List UInt8} (h : signs1.find? (fun p => Lib.hasPrefix R p) = none) (h2 : signs2.find? (fun p => Lib.hasPrefix R p) = some x) : sign R = .tok 6 x x.length := by
  unfold sign
  rw [h, h2]
theorem sign_0 {R : List UInt8} (h : signs1.find? (fun p => Lib.hasPrefix R p) = none) (h2 : signs2.find? (fun p => Lib.hasPrefix R p) = none) : sign R = .bad 60 := by
  unfold sign
  rw [h, h2]

theorem signs1_at (j : Nat) (hj : j < 11) : ∃ x, signs1[j]? = some x ∧ ∀ w, (Instr.index 96 (.agg #[.string ⟨#[47, 47]⟩, .string ⟨#[33, 61]⟩, .string ⟨#[60, 61]⟩, .string ⟨#[62, 61]⟩, .string ⟨#[47]⟩, .string ⟨#[124]⟩, .string ⟨#[43]⟩, .string ⟨#[45]⟩, .string ⟨#[61]⟩, .string ⟨#[60]⟩, .string ⟨#[62]⟩]) (.int .i64 (j : Nat))).run Tryd.prog w = .ok (.string (strOf x)) w := by
  have : ∀ j, j < 11 → ∃ x, signs1[j]? = some x := fun j hj => ⟨_, List.getElem?_eq_getElem hj⟩
  obtain ⟨x, hx⟩ := this j hj
  refine ⟨x, hx, ?_⟩
  obtain rfl | rfl | rfl | rfl | rfl | rfl | rfl | rfl | rfl | rfl | rfl : j = 0 ∨ j = 1 ∨ j = 2 ∨ j = 3 ∨ j = 4 ∨ j = 5 ∨ j = 6 ∨ j = 7 ∨ j = 8 ∨ j = 9 ∨ j = 10 := by omega
  all_goals (injection hx with hx; subst hx; intro w; kernel_rfl)
theorem signs1_len (j : Nat) (x : List UInt8) (h : signs1[j]? = some x) : x.length ≤ 2 :=
  (by decide : ∀ p ∈ signs1, p.length ≤ 2) x (List.mem_of_getElem? h)
theorem signs2_at (j : Nat) (hj : j < 9) : ∃ x, signs2[j]? = some x ∧ ∀ w, (Instr.index 97 (.agg #[.string ⟨#[58, 58]⟩, .string ⟨#[46, 46]⟩, .string ⟨#[40]⟩, .string ⟨#[41]⟩, .string ⟨#[91]⟩, .string ⟨#[93]⟩, .string ⟨#[64]⟩, .string ⟨#[44]⟩, .string ⟨#[46]⟩]) (.int .i64 (j : Nat))).run Tryd.prog w = .ok (.string (strOf x)) w := by
  have : ∀ j, j < 9 → ∃ x, signs2[j]? = some x := fun j hj => ⟨_, List.getElem?_eq_getElem hj⟩
  obtain ⟨x, hx⟩ := this j hj
  refine ⟨x, hx, ?_⟩
  obtain rfl | rfl | rfl | rfl | rfl | rfl | rfl | rfl | rfl : j = 0 ∨ j = 1 ∨ j = 2 ∨ j = 3 ∨ j = 4 ∨ j = 5 ∨ j = 6 ∨ j = 7 ∨ j = 8 := by omega
  all_goals (injection hx with hx; subst hx; intro w; kernel_rfl)
theorem signs2_len (j : Nat) (x : List UInt8) (h : signs2[j]? = some x) : x.length ≤ 2 :=
  (by decide : ∀ p ∈ signs2, p.length ≤ 2) x (List.mem_of_getElem? h)

set_option maxHeartbeats 4000000 in
set_option maxRecDepth 100000 in
theorem sign_any (wx : World) (b : Nat) (S : List UInt8) (k : Nat) (ts : List Tok) (A : Option Addr) (n c : Nat) (hk : k < S.length) (hS : S.length ≤ 1000) (hn : n ≤ 1000) (h : Sc wx b S k ts A n c) :
    Calls Tryd.prog 37 #[.pointer (some ⟨b, 0, none⟩)] wx (Step b S k ts A n c (sign (S.drop k)) wx) := by
  have hswx := Lib.hid h
  have hbwx : Hid (Below b wx wx) := Lib.hid (Below.refl _ _)
  clear h
  obtain ⟨R, hR⟩ : ∃ R, S.drop k = R := ⟨_, rfl⟩
  rw [hR]
  have hR' := Lib.hid hR
  clear hR
  go_enter Tryd.func37, Tryd.ntmps37
  go_wp2_with fail
  go_loopw [8] (fun v wr => ∃ j p : Nat, j ≤ 11 ∧ v = .int .i64 (j : Nat) ∧ wr = wx.drewN p ∧ Hid (signs1.find? (fun p => Lib.hasPrefix R p) = (signs1.drop j).find? (fun p => Lib.hasPrefix R p))) (fun v _ => 11 - (intOf v).toNat)
  case atStart => exact ⟨0, 0, by omega, rfl, rfl, Lib.hid rfl⟩
  case round =>
    obtain ⟨j, p, hj, rfl, hwr, hf⟩ := hrel
    have hsr := Lib.hid (hswx.out.below (Joins.below_draws _ wx p))
    have hbr := Lib.hid (hbwx.out.trans ((Joins.below_draws _ wx p).mono (Nat.le_of_lt hswx.out.lt)))
    rw [← hwr] at hsr hbr
    have hwr' := Lib.hid hwr
    clear hwr
    by_cases hlt : j < 11
    · have i0 : decide ((j : Int) < 11) = true := by simp; omega
      obtain ⟨x, hx, hidx⟩ := signs1_at j hlt
      have hxl := signs1_len j x hx
      have hc := has_any wr b S k ts A n c (Nat.le_of_lt hk) hS x hsr.out
      rw [hR'.out] at hc
      obtain ⟨B, hB⟩ : ∃ B, Lib.hasPrefix R x = B := ⟨_, rfl⟩
      rw [hB] at hc
      have hsx2 : (strOf x).size = x.length := strOf_size' x
      have hx' := Lib.hid hx
      have hB' := Lib.hid hB
      clear hx hB
      go_wp2_with fail
      refine hc.mono ?_
      rintro e w3 ⟨rfl, q, hw3⟩
      clear hc
      have hs3 := Lib.hid (hsr.out.below (Joins.below_draws _ wr q))
      have hb3 := Lib.hid (hbr.out.trans ((Joins.below_draws _ wr q).mono (Nat.le_of_lt hsr.out.lt)))
      rw [← hw3] at hs3 hb3
      have hw3' := Lib.hid hw3
      clear hw3
      cases B with
      | true =>
        have hsg : sign R = .tok 5 x x.length := sign_1 (find_hit hx'.out hf.out hB'.out)
        obtain ⟨L, hL⟩ : ∃ L, x.length = L := ⟨_, rfl⟩
        rw [hL] at hsx2 hxl hsg
        have hsg' := Lib.hid hsg
        clear hL hsg
        go_wp2_with fail
        refine (put_any _ b S k ts A n c (Nat.le_of_lt hk) hS hn hs3.out 5 L (by omega) _).mono ?_
        rintro e w6 ⟨rfl, ⟨A', c', hs6⟩, hb6⟩
        have hs6' := Lib.hid hs6
        have hb6' := Lib.hid (hb3.out.trans hb6)
        clear hs6 hb6
        go_wp2_with fail
        go_ret
        exact Step.tok_ (by exact hsg'.out) hs6'.out hb6'.out
      | false =>
        go_wp2_with fail
        go_roundw
        case rel =>
          exact ⟨j + 1, p + q, by omega, by go_num, by rw [hw3'.out, hwr'.out, World.drewN_drewN], Lib.hid (find_miss hx'.out hf.out hB'.out)⟩
        case measure => simp [intOf]; omega
    · have i0 : decide ((j : Int) < 11) = false := by simp; omega
      have hnone1 : Hid (signs1.find? (fun p => Lib.hasPrefix R p) = none) := by
        obtain rfl : j = 11 := by omega
        exact hf
      clear hwr' hf
      go_wp2_with fail
      obtain ⟨wo, hwo⟩ : ∃ wo, wr = wo := ⟨_, rfl⟩
      rw [hwo] at hsr hbr
      rw [hwo]
      clear hwo
      have hswo := hsr
      have hbwo := hbr
      clear hsr hbr i0
      go_loopw [21] (fun v wr => ∃ j p : Nat, j ≤ 9 ∧ v = .int .i64 (j : Nat) ∧ wr = wo.drewN p ∧ Hid (signs2.find? (fun p => Lib.hasPrefix R p) = (signs2.drop j).find? (fun p => Lib.hasPrefix R p))) (fun v _ => 9 - (intOf v).toNat)
      case atStart => exact ⟨0, 0, by omega, rfl, rfl, Lib.hid rfl⟩
      case round =>
        obtain ⟨j, p, hj, rfl, hwr, hf⟩ := hrel
        have hsr := Lib.hid (hswo.out.below (Joins.below_draws _ wo p))
        have hbr := Lib.hid (hbwo.out.trans ((Joins.below_draws _ wo p).mono (Nat.le_of_lt hswo.out.lt)))
        rw [← hwr] at hsr hbr
        have hwr' := Lib.hid hwr
        clear hwr
        by_cases hlt : j < 9
        · have i0 : decide ((j : Int) < 9) = true := by simp; omega
          obtain ⟨x, hx, hidx⟩ := signs2_at j hlt
          have hxl := signs2_len j x hx
          have hc := has_any wr b S k ts A n c (Nat.le_of_lt hk) hS x hsr.out
          rw [hR'.out] at hc
          obtain ⟨B, hB⟩ : ∃ B, Lib.hasPrefix R x = B := ⟨_, rfl⟩
          rw [hB] at hc
          have hsx2 : (strOf x).size = x.length := strOf_size' x
          have hx' := Lib.hid hx
          have hB' := Lib.hid hB
          clear hx hB
          go_wp2_with fail
          refine hc.mono ?_
          rintro e w3 ⟨rfl, q, hw3⟩
          clear hc
          have hs3 := Lib.hid (hsr.out.below (Joins.below_draws _ wr q))
          have hb3 := Lib.hid (hbr.out.trans ((Joins.below_draws _ wr q).mono (Nat.le_of_lt hsr.out.lt)))
          rw [← hw3] at hs3 hb3
          have hw3' := Lib.hid hw3
          clear hw3
          cases B with
          | true =>
            have hsg : sign R = .tok 6 x x.length := sign_2 hnone1.out (find_hit hx'.out hf.out hB'.out)
            obtain ⟨L, hL⟩ : ∃ L, x.length = L := ⟨_, rfl⟩
            rw [hL] at hsx2 hxl hsg
            have hsg' := Lib.hid hsg
            clear hL hsg
            go_wp2_with fail
            refine (put_any _ b S k ts A n c (Nat.le_of_lt hk) hS hn hs3.out 6 L (by omega) _).mono ?_
            rintro e w6 ⟨rfl, ⟨A', c', hs6⟩, hb6⟩
            have hs6' := Lib.hid hs6
            have hb6' := Lib.hid (hb3.out.trans hb6)
            clear hs6 hb6
            go_wp2_with fail
            go_ret
            exact Step.tok_ (by exact hsg'.out) hs6'.out hb6'.out
          | false =>
            go_wp2_with fail
            go_roundw
            case rel =>
              exact ⟨j + 1, p + q, by omega, by go_num, by rw [hw3'.out, hwr'.out, World.drewN_drewN], Lib.hid (find_miss hx'.out hf.out hB'.out)⟩
            case measure => simp [intOf]; omega
        · have i0 : decide ((j : Int) < 9) = false := by simp; omega
          have hnone2 : Hid (signs2.find? (fun p => Lib.hasPrefix R p) = none) := by
            obtain rfl : j = 9 := by omega
            exact hf
          clear hwr' hf
          go_wp2_with fail
          go_ret
          exact Step.bad_ (sign_0 hnone1.out hnone2.out) hsr.out hbr.out
end Go.Proofs.YthiikldjngamaaaDoor.Qx
