/- count, flush, other of the tree's builder. -/
import Derived.Test.YtokdnhdfmgfkeaaGreatDoorUXpRc
import Derived.Test.YtokdnhdfmgfkeaaGreatDoorUXoBack
import Derived.Test.YtokdnhdfmgfkeaaGreatDoorUXpLib
import Derived.Shelf.RegionOpenPlain
import Derived.Laws.OwnMore
import Derived.Test.YtokdnhdfmgfkeaaGreatDoorUXlPlaces
import Derived.Deep.LoopGhost
import Derived.Test.YtokdnhdfmgfkeaaGreatDoorUPlan2
import Derived.Test.YtokdnhdfmgfkeaaGreatDoorUStrLaws
set_option linter.unusedVariables false
set_option linter.unusedSimpArgs false
section
namespace Go.Proofs.YtokdnhdfmgfkeaaGreatDoor.Xp
open Go.RowKit UtfW Xl Xo Xt

theorem esc_le6_ (v : Bool) : ∀ s : Tx, (esc v s).length ≤ 6 * s.length
  | [] => by simp [esc]
  | c :: s => by
    have h1 := esc_le6_ v s
    have h2 : (esc1 v c).length ≤ 6 := by
      unfold esc1
      repeat' split
      all_goals simp
    rw [esc, List.length_append, List.length_cons]
    omega
set_option maxHeartbeats 8000000 in
set_option maxRecDepth 100000 in
theorem resc_false (s : Tx) (hs : s.length ≤ 1000000) (w : World) :
    Calls Tryz.prog 57 #[.string (strOf s), .bool false] w fun e w' => e = .returned (.string (strOf (esc false s))) ∧ Below w.heap.size w w' := by
  have hsz : (strOf s).size = s.length := strOf_size' s
  obtain ⟨n, hn⟩ : ∃ n, s.length = n := ⟨_, rfl⟩
  rw [hn] at hsz hs
  have hn' := Lib.hid hn
  clear hn
  go_enter Tryz.func57, Tryz.ntmps57
  go_wp2_with fail
  go_loopw [5, 6] (fun v5 v6 wr => ∃ (i : Nat) (S : ByteArray), i ≤ n ∧ v6 = .int .i64 (i : Nat) ∧ v5 = .string S ∧ Hid (S = strOf (esc false (s.take i))) ∧ Hid (Below w.heap.size w wr)) (fun _ v6 _ => n - (intOf v6).toNat)
  case atStart => exact ⟨0, ⟨#[]⟩, by omega, rfl, rfl, Lib.hid rfl, Lib.hid (Below.refl _ _)⟩
  case round =>
    obtain ⟨i, S, hi, rfl, rfl, hS, hb⟩ := hrel
    by_cases hlt : i < n
    · have i1 : decide ((i : Int) < (n : Int)) = true := by simp; omega
      have q1 : (i : Int) < (n : Int) := by omega
      obtain ⟨x, hx⟩ : ∃ x, s[i]? = some x := ⟨_, List.getElem?_eq_getElem (by rw [hn'.out]; exact hlt)⟩
      have hSz : S.size ≤ 6000000 := by
        have := esc_le6_ false (s.take i)
        rw [hS.out, strOf_size']
        rw [List.length_take] at this
        omega
      have hlt' : i < (strOf s).size := by omega
      have hgx := str_at hx hlt'
      have hc9 := x.toNat_lt
      replace hx := Lib.hid hx
      by_cases hxc : x = 38
      · have q : (x.toNat : Int) = 38 := by rw [hxc]; rfl
        have hp : esc1 false x = [38, 97, 109, 112, 59] := by rw [hxc]; rfl
        obtain ⟨S1, hS1⟩ : ∃ S1, S ++ ⟨#[38, 97, 109, 112, 59]⟩ = S1 := ⟨_, rfl⟩
        have e1 := fun w => run_string_add_sum (P := Tryz.prog) w S ⟨#[38, 97, 109, 112, 59]⟩ (by rw [show (ByteArray.mk #[38, 97, 109, 112, 59]).size = 5 from rfl]; omega)
        rw [hS1] at e1
        have hnext : Hid (S1 = strOf (esc false (s.take (i + 1)))) := Lib.hid (by
          rw [← hS1, hS.out, show (ByteArray.mk #[38, 97, 109, 112, 59]) = strOf [38, 97, 109, 112, 59] from rfl, strOf_add, take_snoc hx.out, esc_append, esc, esc, hp, List.append_nil])
        clear hp hS1 hxc
        go_wp2_with fail
        go_roundw
        case rel => exact ⟨i + 1, _, by omega, by go_num, rfl, hnext, hb⟩
        case measure => simp [intOf]; omega
      have n38 : ¬ x = 38 := hxc
      clear hxc
      by_cases hxc : x = 60
      · have q : (x.toNat : Int) = 60 := by rw [hxc]; rfl
        have hp : esc1 false x = [38, 108, 116, 59] := by rw [hxc]; rfl
        obtain ⟨S1, hS1⟩ : ∃ S1, S ++ ⟨#[38, 108, 116, 59]⟩ = S1 := ⟨_, rfl⟩
        have e1 := fun w => run_string_add_sum (P := Tryz.prog) w S ⟨#[38, 108, 116, 59]⟩ (by rw [show (ByteArray.mk #[38, 108, 116, 59]).size = 4 from rfl]; omega)
        rw [hS1] at e1
        have hnext : Hid (S1 = strOf (esc false (s.take (i + 1)))) := Lib.hid (by
          rw [← hS1, hS.out, show (ByteArray.mk #[38, 108, 116, 59]) = strOf [38, 108, 116, 59] from rfl, strOf_add, take_snoc hx.out, esc_append, esc, esc, hp, List.append_nil])
        clear hp hS1 hxc
        go_wp2_with fail
        go_roundw
        case rel => exact ⟨i + 1, _, by omega, by go_num, rfl, hnext, hb⟩
        case measure => simp [intOf]; omega
      have n60 : ¬ x = 60 := hxc
      clear hxc
      by_cases hxc : x = 13
      · have q : (x.toNat : Int) = 13 := by rw [hxc]; rfl
        have hp : esc1 false x = [38, 35, 49, 51, 59] := by rw [hxc]; rfl
        obtain ⟨S1, hS1⟩ : ∃ S1, S ++ ⟨#[38, 35, 49, 51, 59]⟩ = S1 := ⟨_, rfl⟩
        have e1 := fun w => run_string_add_sum (P := Tryz.prog) w S ⟨#[38, 35, 49, 51, 59]⟩ (by rw [show (ByteArray.mk #[38, 35, 49, 51, 59]).size = 5 from rfl]; omega)
        rw [hS1] at e1
        have hnext : Hid (S1 = strOf (esc false (s.take (i + 1)))) := Lib.hid (by
          rw [← hS1, hS.out, show (ByteArray.mk #[38, 35, 49, 51, 59]) = strOf [38, 35, 49, 51, 59] from rfl, strOf_add, take_snoc hx.out, esc_append, esc, esc, hp, List.append_nil])
        clear hp hS1 hxc
        go_wp2_with fail
        go_roundw
        case rel => exact ⟨i + 1, _, by omega, by go_num, rfl, hnext, hb⟩
        case measure => simp [intOf]; omega
      have n13 : ¬ x = 13 := hxc
      clear hxc
      by_cases hxc : x = 62
      · have q : (x.toNat : Int) = 62 := by rw [hxc]; rfl
        have hp : esc1 false x = [38, 103, 116, 59] := by rw [hxc]; rfl
        obtain ⟨S1, hS1⟩ : ∃ S1, S ++ ⟨#[38, 103, 116, 59]⟩ = S1 := ⟨_, rfl⟩
        have e1 := fun w => run_string_add_sum (P := Tryz.prog) w S ⟨#[38, 103, 116, 59]⟩ (by rw [show (ByteArray.mk #[38, 103, 116, 59]).size = 4 from rfl]; omega)
        rw [hS1] at e1
        have hnext : Hid (S1 = strOf (esc false (s.take (i + 1)))) := Lib.hid (by
          rw [← hS1, hS.out, show (ByteArray.mk #[38, 103, 116, 59]) = strOf [38, 103, 116, 59] from rfl, strOf_add, take_snoc hx.out, esc_append, esc, esc, hp, List.append_nil])
        clear hp hS1 hxc
        go_wp2_with fail
        go_roundw
        case rel => exact ⟨i + 1, _, by omega, by go_num, rfl, hnext, hb⟩
        case measure => simp [intOf]; omega
      have n62 : ¬ x = 62 := hxc
      clear hxc
      by_cases hxc : x = 34
      · have q : (x.toNat : Int) = 34 := by rw [hxc]; rfl
        have hp : esc1 false x = [x] := by
          rw [hxc]
          rfl
        obtain ⟨S1, hS1⟩ : ∃ S1, S ++ strOf [x] = S1 := ⟨_, rfl⟩
        have e1 := fun w => run_string_add_sum (P := Tryz.prog) w S (strOf [x]) (by rw [strOf_size']; simp only [List.length_cons, List.length_nil]; omega)
        rw [hS1] at e1
        have hex : (strOf s).extract i (i + 1) = strOf [x] := by
          rw [extract_str, Nat.add_sub_cancel_left]
          have := hx.out
          obtain ⟨hl, rfl⟩ := List.getElem?_eq_some_iff.1 this
          rw [List.drop_eq_getElem_cons hl]
          rfl
        have hnext : Hid (S1 = strOf (esc false (s.take (i + 1)))) := Lib.hid (by
          rw [← hS1, hS.out, strOf_add, take_snoc hx.out, esc_append, esc, esc, hp, List.append_nil])
        clear hp hS1 hxc
        go_wp2_with fail
        go_roundw
        case rel => exact ⟨i + 1, _, by omega, by go_num, rfl, hnext, hb⟩
        case measure => simp [intOf]; omega
      have n34 : ¬ x = 34 := hxc
      clear hxc
      by_cases hxc : x = 9
      · have q : (x.toNat : Int) = 9 := by rw [hxc]; rfl
        have hp : esc1 false x = [x] := by
          rw [hxc]
          rfl
        obtain ⟨S1, hS1⟩ : ∃ S1, S ++ strOf [x] = S1 := ⟨_, rfl⟩
        have e1 := fun w => run_string_add_sum (P := Tryz.prog) w S (strOf [x]) (by rw [strOf_size']; simp only [List.length_cons, List.length_nil]; omega)
        rw [hS1] at e1
        have hex : (strOf s).extract i (i + 1) = strOf [x] := by
          rw [extract_str, Nat.add_sub_cancel_left]
          have := hx.out
          obtain ⟨hl, rfl⟩ := List.getElem?_eq_some_iff.1 this
          rw [List.drop_eq_getElem_cons hl]
          rfl
        have hnext : Hid (S1 = strOf (esc false (s.take (i + 1)))) := Lib.hid (by
          rw [← hS1, hS.out, strOf_add, take_snoc hx.out, esc_append, esc, esc, hp, List.append_nil])
        clear hp hS1 hxc
        go_wp2_with fail
        go_roundw
        case rel => exact ⟨i + 1, _, by omega, by go_num, rfl, hnext, hb⟩
        case measure => simp [intOf]; omega
      have n9 : ¬ x = 9 := hxc
      clear hxc
      by_cases hxc : x = 10
      · have q : (x.toNat : Int) = 10 := by rw [hxc]; rfl
        have hp : esc1 false x = [x] := by
          rw [hxc]
          rfl
        obtain ⟨S1, hS1⟩ : ∃ S1, S ++ strOf [x] = S1 := ⟨_, rfl⟩
        have e1 := fun w => run_string_add_sum (P := Tryz.prog) w S (strOf [x]) (by rw [strOf_size']; simp only [List.length_cons, List.length_nil]; omega)
        rw [hS1] at e1
        have hex : (strOf s).extract i (i + 1) = strOf [x] := by
          rw [extract_str, Nat.add_sub_cancel_left]
          have := hx.out
          obtain ⟨hl, rfl⟩ := List.getElem?_eq_some_iff.1 this
          rw [List.drop_eq_getElem_cons hl]
          rfl
        have hnext : Hid (S1 = strOf (esc false (s.take (i + 1)))) := Lib.hid (by
          rw [← hS1, hS.out, strOf_add, take_snoc hx.out, esc_append, esc, esc, hp, List.append_nil])
        clear hp hS1 hxc
        go_wp2_with fail
        go_roundw
        case rel => exact ⟨i + 1, _, by omega, by go_num, rfl, hnext, hb⟩
        case measure => simp [intOf]; omega
      have n10 : ¬ x = 10 := hxc
      clear hxc
      have hp : esc1 false x = [x] := by
        unfold esc1
        rw [if_neg n38, if_neg n60, if_neg n13, if_neg (fun h => n62 h.1), if_neg (fun h => n34 h.1), if_neg (fun h => n9 h.1), if_neg (fun h => n10 h.1)]
      obtain ⟨S1, hS1⟩ : ∃ S1, S ++ strOf [x] = S1 := ⟨_, rfl⟩
      have e1 := fun w => run_string_add_sum (P := Tryz.prog) w S (strOf [x]) (by rw [strOf_size']; simp only [List.length_cons, List.length_nil]; omega)
      rw [hS1] at e1
      have hex : (strOf s).extract i (i + 1) = strOf [x] := by
        rw [extract_str, Nat.add_sub_cancel_left]
        have := hx.out
        obtain ⟨hl, rfl⟩ := List.getElem?_eq_some_iff.1 this
        rw [List.drop_eq_getElem_cons hl]
        rfl
      have hnext : Hid (S1 = strOf (esc false (s.take (i + 1)))) := Lib.hid (by
        rw [← hS1, hS.out, strOf_add, take_snoc hx.out, esc_append, esc, esc, hp, List.append_nil])
      have k38 : ((x.toNat : Int) == 38) = false := by
        rw [beq_eq_false_iff_ne]
        intro e
        exact n38 (UInt8.toNat_inj.1 (by rw [show (((38 : UInt8)).toNat) = 38 from rfl]; omega))
      have k60 : ((x.toNat : Int) == 60) = false := by
        rw [beq_eq_false_iff_ne]
        intro e
        exact n60 (UInt8.toNat_inj.1 (by rw [show (((60 : UInt8)).toNat) = 60 from rfl]; omega))
      have k13 : ((x.toNat : Int) == 13) = false := by
        rw [beq_eq_false_iff_ne]
        intro e
        exact n13 (UInt8.toNat_inj.1 (by rw [show (((13 : UInt8)).toNat) = 13 from rfl]; omega))
      have k62 : ((x.toNat : Int) == 62) = false := by
        rw [beq_eq_false_iff_ne]
        intro e
        exact n62 (UInt8.toNat_inj.1 (by rw [show (((62 : UInt8)).toNat) = 62 from rfl]; omega))
      have k34 : ((x.toNat : Int) == 34) = false := by
        rw [beq_eq_false_iff_ne]
        intro e
        exact n34 (UInt8.toNat_inj.1 (by rw [show (((34 : UInt8)).toNat) = 34 from rfl]; omega))
      have k9 : ((x.toNat : Int) == 9) = false := by
        rw [beq_eq_false_iff_ne]
        intro e
        exact n9 (UInt8.toNat_inj.1 (by rw [show (((9 : UInt8)).toNat) = 9 from rfl]; omega))
      have k10 : ((x.toNat : Int) == 10) = false := by
        rw [beq_eq_false_iff_ne]
        intro e
        exact n10 (UInt8.toNat_inj.1 (by rw [show (((10 : UInt8)).toNat) = 10 from rfl]; omega))
      clear hp hS1 n38 n60 n13 n62 n34 n9 n10
      go_wp2_with fail
      go_roundw
      case rel => exact ⟨i + 1, _, by omega, by go_num, rfl, hnext, hb⟩
      case measure => simp [intOf]; omega
    · have hie : i = n := by omega
      subst hie
      have i1 : decide ((i : Int) < (i : Int)) = false := by simp
      have hfin : Hid (S = strOf (esc false s)) := Lib.hid (by
        have h9 := hS.out
        rwa [List.take_of_length_le (Nat.le_of_eq hn'.out)] at h9)
      clear hS
      go_wp2_with fail
      (try simp only [Exit.inBlock, Exit.then])
      go_ret
      exact ⟨by rw [hfin.out]; rfl, hb.out⟩
set_option maxHeartbeats 8000000 in
set_option maxRecDepth 100000 in
theorem resc_true (s : Tx) (hs : s.length ≤ 1000000) (w : World) :
    Calls Tryz.prog 57 #[.string (strOf s), .bool true] w fun e w' => e = .returned (.string (strOf (esc true s))) ∧ Below w.heap.size w w' := by
  have hsz : (strOf s).size = s.length := strOf_size' s
  obtain ⟨n, hn⟩ : ∃ n, s.length = n := ⟨_, rfl⟩
  rw [hn] at hsz hs
  have hn' := Lib.hid hn
  clear hn
  go_enter Tryz.func57, Tryz.ntmps57
  go_wp2_with fail
  go_loopw [5, 6] (fun v5 v6 wr => ∃ (i : Nat) (S : ByteArray), i ≤ n ∧ v6 = .int .i64 (i : Nat) ∧ v5 = .string S ∧ Hid (S = strOf (esc true (s.take i))) ∧ Hid (Below w.heap.size w wr)) (fun _ v6 _ => n - (intOf v6).toNat)
  case atStart => exact ⟨0, ⟨#[]⟩, by omega, rfl, rfl, Lib.hid rfl, Lib.hid (Below.refl _ _)⟩
  case round =>
    obtain ⟨i, S, hi, rfl, rfl, hS, hb⟩ := hrel
    by_cases hlt : i < n
    · have i1 : decide ((i : Int) < (n : Int)) = true := by simp; omega
      have q1 : (i : Int) < (n : Int) := by omega
      obtain ⟨x, hx⟩ : ∃ x, s[i]? = some x := ⟨_, List.getElem?_eq_getElem (by rw [hn'.out]; exact hlt)⟩
      have hSz : S.size ≤ 6000000 := by
        have := esc_le6_ true (s.take i)
        rw [hS.out, strOf_size']
        rw [List.length_take] at this
        omega
      have hlt' : i < (strOf s).size := by omega
      have hgx := str_at hx hlt'
      have hc9 := x.toNat_lt
      replace hx := Lib.hid hx
      by_cases hxc : x = 38
      · have q : (x.toNat : Int) = 38 := by rw [hxc]; rfl
        have hp : esc1 true x = [38, 97, 109, 112, 59] := by rw [hxc]; rfl
        obtain ⟨S1, hS1⟩ : ∃ S1, S ++ ⟨#[38, 97, 109, 112, 59]⟩ = S1 := ⟨_, rfl⟩
        have e1 := fun w => run_string_add_sum (P := Tryz.prog) w S ⟨#[38, 97, 109, 112, 59]⟩ (by rw [show (ByteArray.mk #[38, 97, 109, 112, 59]).size = 5 from rfl]; omega)
        rw [hS1] at e1
        have hnext : Hid (S1 = strOf (esc true (s.take (i + 1)))) := Lib.hid (by
          rw [← hS1, hS.out, show (ByteArray.mk #[38, 97, 109, 112, 59]) = strOf [38, 97, 109, 112, 59] from rfl, strOf_add, take_snoc hx.out, esc_append, esc, esc, hp, List.append_nil])
        clear hp hS1 hxc
        go_wp2_with fail
        go_roundw
        case rel => exact ⟨i + 1, _, by omega, by go_num, rfl, hnext, hb⟩
        case measure => simp [intOf]; omega
      have n38 : ¬ x = 38 := hxc
      clear hxc
      by_cases hxc : x = 60
      · have q : (x.toNat : Int) = 60 := by rw [hxc]; rfl
        have hp : esc1 true x = [38, 108, 116, 59] := by rw [hxc]; rfl
        obtain ⟨S1, hS1⟩ : ∃ S1, S ++ ⟨#[38, 108, 116, 59]⟩ = S1 := ⟨_, rfl⟩
        have e1 := fun w => run_string_add_sum (P := Tryz.prog) w S ⟨#[38, 108, 116, 59]⟩ (by rw [show (ByteArray.mk #[38, 108, 116, 59]).size = 4 from rfl]; omega)
        rw [hS1] at e1
        have hnext : Hid (S1 = strOf (esc true (s.take (i + 1)))) := Lib.hid (by
          rw [← hS1, hS.out, show (ByteArray.mk #[38, 108, 116, 59]) = strOf [38, 108, 116, 59] from rfl, strOf_add, take_snoc hx.out, esc_append, esc, esc, hp, List.append_nil])
        clear hp hS1 hxc
        go_wp2_with fail
        go_roundw
        case rel => exact ⟨i + 1, _, by omega, by go_num, rfl, hnext, hb⟩
        case measure => simp [intOf]; omega
      have n60 : ¬ x = 60 := hxc
      clear hxc
      by_cases hxc : x = 13
      · have q : (x.toNat : Int) = 13 := by rw [hxc]; rfl
        have hp : esc1 true x = [38, 35, 49, 51, 59] := by rw [hxc]; rfl
        obtain ⟨S1, hS1⟩ : ∃ S1, S ++ ⟨#[38, 35, 49, 51, 59]⟩ = S1 := ⟨_, rfl⟩
        have e1 := fun w => run_string_add_sum (P := Tryz.prog) w S ⟨#[38, 35, 49, 51, 59]⟩ (by rw [show (ByteArray.mk #[38, 35, 49, 51, 59]).size = 5 from rfl]; omega)
        rw [hS1] at e1
        have hnext : Hid (S1 = strOf (esc true (s.take (i + 1)))) := Lib.hid (by
          rw [← hS1, hS.out, show (ByteArray.mk #[38, 35, 49, 51, 59]) = strOf [38, 35, 49, 51, 59] from rfl, strOf_add, take_snoc hx.out, esc_append, esc, esc, hp, List.append_nil])
        clear hp hS1 hxc
        go_wp2_with fail
        go_roundw
        case rel => exact ⟨i + 1, _, by omega, by go_num, rfl, hnext, hb⟩
        case measure => simp [intOf]; omega
      have n13 : ¬ x = 13 := hxc
      clear hxc
      by_cases hxc : x = 62
      · have q : (x.toNat : Int) = 62 := by rw [hxc]; rfl
        have hp : esc1 true x = [x] := by
          rw [hxc]
          rfl
        obtain ⟨S1, hS1⟩ : ∃ S1, S ++ strOf [x] = S1 := ⟨_, rfl⟩
        have e1 := fun w => run_string_add_sum (P := Tryz.prog) w S (strOf [x]) (by rw [strOf_size']; simp only [List.length_cons, List.length_nil]; omega)
        rw [hS1] at e1
        have hex : (strOf s).extract i (i + 1) = strOf [x] := by
          rw [extract_str, Nat.add_sub_cancel_left]
          have := hx.out
          obtain ⟨hl, rfl⟩ := List.getElem?_eq_some_iff.1 this
          rw [List.drop_eq_getElem_cons hl]
          rfl
        have hnext : Hid (S1 = strOf (esc true (s.take (i + 1)))) := Lib.hid (by
          rw [← hS1, hS.out, strOf_add, take_snoc hx.out, esc_append, esc, esc, hp, List.append_nil])
        clear hp hS1 hxc
        go_wp2_with fail
        go_roundw
        case rel => exact ⟨i + 1, _, by omega, by go_num, rfl, hnext, hb⟩
        case measure => simp [intOf]; omega
      have n62 : ¬ x = 62 := hxc
      clear hxc
      by_cases hxc : x = 34
      · have q : (x.toNat : Int) = 34 := by rw [hxc]; rfl
        have hp : esc1 true x = [38, 113, 117, 111, 116, 59] := by rw [hxc]; rfl
        obtain ⟨S1, hS1⟩ : ∃ S1, S ++ ⟨#[38, 113, 117, 111, 116, 59]⟩ = S1 := ⟨_, rfl⟩
        have e1 := fun w => run_string_add_sum (P := Tryz.prog) w S ⟨#[38, 113, 117, 111, 116, 59]⟩ (by rw [show (ByteArray.mk #[38, 113, 117, 111, 116, 59]).size = 6 from rfl]; omega)
        rw [hS1] at e1
        have hnext : Hid (S1 = strOf (esc true (s.take (i + 1)))) := Lib.hid (by
          rw [← hS1, hS.out, show (ByteArray.mk #[38, 113, 117, 111, 116, 59]) = strOf [38, 113, 117, 111, 116, 59] from rfl, strOf_add, take_snoc hx.out, esc_append, esc, esc, hp, List.append_nil])
        clear hp hS1 hxc
        go_wp2_with fail
        go_roundw
        case rel => exact ⟨i + 1, _, by omega, by go_num, rfl, hnext, hb⟩
        case measure => simp [intOf]; omega
      have n34 : ¬ x = 34 := hxc
      clear hxc
      by_cases hxc : x = 9
      · have q : (x.toNat : Int) = 9 := by rw [hxc]; rfl
        have hp : esc1 true x = [38, 35, 57, 59] := by rw [hxc]; rfl
        obtain ⟨S1, hS1⟩ : ∃ S1, S ++ ⟨#[38, 35, 57, 59]⟩ = S1 := ⟨_, rfl⟩
        have e1 := fun w => run_string_add_sum (P := Tryz.prog) w S ⟨#[38, 35, 57, 59]⟩ (by rw [show (ByteArray.mk #[38, 35, 57, 59]).size = 4 from rfl]; omega)
        rw [hS1] at e1
        have hnext : Hid (S1 = strOf (esc true (s.take (i + 1)))) := Lib.hid (by
          rw [← hS1, hS.out, show (ByteArray.mk #[38, 35, 57, 59]) = strOf [38, 35, 57, 59] from rfl, strOf_add, take_snoc hx.out, esc_append, esc, esc, hp, List.append_nil])
        clear hp hS1 hxc
        go_wp2_with fail
        go_roundw
        case rel => exact ⟨i + 1, _, by omega, by go_num, rfl, hnext, hb⟩
        case measure => simp [intOf]; omega
      have n9 : ¬ x = 9 := hxc
      clear hxc
      by_cases hxc : x = 10
      · have q : (x.toNat : Int) = 10 := by rw [hxc]; rfl
        have hp : esc1 true x = [38, 35, 49, 48, 59] := by rw [hxc]; rfl
        obtain ⟨S1, hS1⟩ : ∃ S1, S ++ ⟨#[38, 35, 49, 48, 59]⟩ = S1 := ⟨_, rfl⟩
        have e1 := fun w => run_string_add_sum (P := Tryz.prog) w S ⟨#[38, 35, 49, 48, 59]⟩ (by rw [show (ByteArray.mk #[38, 35, 49, 48, 59]).size = 5 from rfl]; omega)
        rw [hS1] at e1
        have hnext : Hid (S1 = strOf (esc true (s.take (i + 1)))) := Lib.hid (by
          rw [← hS1, hS.out, show (ByteArray.mk #[38, 35, 49, 48, 59]) = strOf [38, 35, 49, 48, 59] from rfl, strOf_add, take_snoc hx.out, esc_append, esc, esc, hp, List.append_nil])
        clear hp hS1 hxc
        go_wp2_with fail
        go_roundw
        case rel => exact ⟨i + 1, _, by omega, by go_num, rfl, hnext, hb⟩
        case measure => simp [intOf]; omega
      have n10 : ¬ x = 10 := hxc
      clear hxc
      have hp : esc1 true x = [x] := by
        unfold esc1
        rw [if_neg n38, if_neg n60, if_neg n13, if_neg (fun h => n62 h.1), if_neg (fun h => n34 h.1), if_neg (fun h => n9 h.1), if_neg (fun h => n10 h.1)]
      obtain ⟨S1, hS1⟩ : ∃ S1, S ++ strOf [x] = S1 := ⟨_, rfl⟩
      have e1 := fun w => run_string_add_sum (P := Tryz.prog) w S (strOf [x]) (by rw [strOf_size']; simp only [List.length_cons, List.length_nil]; omega)
      rw [hS1] at e1
      have hex : (strOf s).extract i (i + 1) = strOf [x] := by
        rw [extract_str, Nat.add_sub_cancel_left]
        have := hx.out
        obtain ⟨hl, rfl⟩ := List.getElem?_eq_some_iff.1 this
        rw [List.drop_eq_getElem_cons hl]
        rfl
      have hnext : Hid (S1 = strOf (esc true (s.take (i + 1)))) := Lib.hid (by
        rw [← hS1, hS.out, strOf_add, take_snoc hx.out, esc_append, esc, esc, hp, List.append_nil])
      have k38 : ((x.toNat : Int) == 38) = false := by
        rw [beq_eq_false_iff_ne]
        intro e
        exact n38 (UInt8.toNat_inj.1 (by rw [show (((38 : UInt8)).toNat) = 38 from rfl]; omega))
      have k60 : ((x.toNat : Int) == 60) = false := by
        rw [beq_eq_false_iff_ne]
        intro e
        exact n60 (UInt8.toNat_inj.1 (by rw [show (((60 : UInt8)).toNat) = 60 from rfl]; omega))
      have k13 : ((x.toNat : Int) == 13) = false := by
        rw [beq_eq_false_iff_ne]
        intro e
        exact n13 (UInt8.toNat_inj.1 (by rw [show (((13 : UInt8)).toNat) = 13 from rfl]; omega))
      have k62 : ((x.toNat : Int) == 62) = false := by
        rw [beq_eq_false_iff_ne]
        intro e
        exact n62 (UInt8.toNat_inj.1 (by rw [show (((62 : UInt8)).toNat) = 62 from rfl]; omega))
      have k34 : ((x.toNat : Int) == 34) = false := by
        rw [beq_eq_false_iff_ne]
        intro e
        exact n34 (UInt8.toNat_inj.1 (by rw [show (((34 : UInt8)).toNat) = 34 from rfl]; omega))
      have k9 : ((x.toNat : Int) == 9) = false := by
        rw [beq_eq_false_iff_ne]
        intro e
        exact n9 (UInt8.toNat_inj.1 (by rw [show (((9 : UInt8)).toNat) = 9 from rfl]; omega))
      have k10 : ((x.toNat : Int) == 10) = false := by
        rw [beq_eq_false_iff_ne]
        intro e
        exact n10 (UInt8.toNat_inj.1 (by rw [show (((10 : UInt8)).toNat) = 10 from rfl]; omega))
      clear hp hS1 n38 n60 n13 n62 n34 n9 n10
      go_wp2_with fail
      go_roundw
      case rel => exact ⟨i + 1, _, by omega, by go_num, rfl, hnext, hb⟩
      case measure => simp [intOf]; omega
    · have hie : i = n := by omega
      subst hie
      have i1 : decide ((i : Int) < (i : Int)) = false := by simp
      have hfin : Hid (S = strOf (esc true s)) := Lib.hid (by
        have h9 := hS.out
        rwa [List.take_of_length_le (Nat.le_of_eq hn'.out)] at h9)
      clear hS
      go_wp2_with fail
      (try simp only [Exit.inBlock, Exit.then])
      go_ret
      exact ⟨by rw [hfin.out]; rfl, hb.out⟩
end Go.Proofs.YtokdnhdfmgfkeaaGreatDoor.Xp
end

section
namespace Go.Proofs.YtokdnhdfmgfkeaaGreatDoor.Xp
open Go.RowKit UtfW Xl Xo Xt

theorem miscOk_at {l : List Nd} {i : Nat} {x : Nd} (h : l[i]? = some x) : miscOk (l.drop i) = ((decide (x.kind = 3) || decide (x.kind = 4)) && fairN x && miscOk (l.drop (i + 1))) := by
  obtain ⟨hl, e⟩ := List.getElem?_eq_some_iff.1 h
  rw [List.drop_eq_getElem_cons hl, e, miscOk]
set_option maxHeartbeats 4000000 in
set_option maxRecDepth 100000 in
theorem misc_any (X : Nat → Prop) (w : World) (hU : Uv w) (A : Option Addr) (n c : Nat) (l : List Nd) (hS : Sq (NdE X) 5 w A n c l) (hX : ∀ j, X j → j < w.heap.size) (hsm : smL l) :
    Calls Tryz.prog 41 #[.slice A n c] w fun e w' => e = .returned (.bool (miscOk l)) ∧ Below w.heap.size w w' := by
  have hln := Lib.hid hS.len
  have hlm : n ≤ 9223372036854775807 := Nat.le_trans hS.le hS.max
  have hS' := Lib.hid hS
  have hX' := Lib.hid hX
  have hU' := Lib.hid hU
  have hF' := Lib.hid (fun (i : Nat) x (hx : l[i]? = some x) => Fair_any _ X x (Nat.le_refl _) (smL_mem hsm hx))
  obtain ⟨R, hR⟩ : ∃ R, miscOk l = R := ⟨_, rfl⟩
  rw [hR]
  have hR' := Lib.hid hR
  clear hS hX hU hR hsm
  go_enter Tryz.func41, Tryz.ntmps41
  go_wp2_with fail
  go_loopw [7] (fun vi wr => ∃ (i : Nat), i ≤ n ∧ vi = .int .i64 (i : Nat) ∧ Hid (miscOk (l.drop i) = R) ∧ Hid (Below w.heap.size w wr)) (fun vi _ => n - (intOf vi).toNat)
  case atStart => exact ⟨0, Nat.zero_le _, rfl, hR', Lib.hid (Below.refl _ _)⟩
  case round =>
    obtain ⟨i, hi, rfl, hok, hb⟩ := hrel
    by_cases hlt : i < n
    · have i1 : decide ((i : Int) < (n : Int)) = true := by simp; omega
      have q1 : (i : Int) < (n : Int) := by omega
      have hX1 : ∀ j, X j → j < wr.heap.size := fun j hj => Nat.lt_of_lt_of_le (hX'.out j hj) hb.out.size
      have hKr := sq_keep hS'.out hb.out (fun vs x h => NdI.later h hX'.out hb.out)
      obtain ⟨b1, off1, x, vs1, rfl, _, hx1, _, hv1, hc1⟩ := hKr.at_ hlt
      have hfx := hF'.out i x hx1
      have hok9 := hok.out
      rw [miscOk_at hx1] at hok9
      obtain ⟨kx, nx_, tx_, ax, kx_⟩ := x
      obtain ⟨Ax, cax, A2x, c2x, rfl, -⟩ := hv1.cells
      have m0 := hc1 0 _ rfl
      have m1 := hc1 1 _ rfl
      have m2 := hc1 2 _ rfl
      have m3 := hc1 3 _ rfl
      have m4 := hc1 4 _ rfl
      rw [Nat.add_zero] at m0
      have hbt := below_alloc wr (.cells #[.int .i64 kx, .string (strOf nx_), .string (strOf tx_), .slice Ax ax.length cax, .slice A2x kx_.length c2x] 25)
      have hrec := Lib.hid (hfx _ (wr.alloc (.cells #[.int .i64 kx, .string (strOf nx_), .string (strOf tx_), .slice Ax ax.length cax, .slice A2x kx_.length c2x] 25)) (hU'.out.below (hb.out.trans (hbt.mono hb.out.size))) (NdI.later hv1 hX1 hbt) (fun j hj => Nat.lt_of_lt_of_le (hX1 j hj) hbt.size))
      have hbb := Lib.hid (hb.out.trans (hbt.mono hb.out.size))
      obtain ⟨FX, hFX⟩ : ∃ b, fairN (.mk kx nx_ tx_ ax kx_) = b := ⟨_, rfl⟩
      rw [hFX] at hok9 hrec
      have hok9 : Hid (((decide (kx = 3) || decide (kx = 4)) && FX && miscOk (l.drop (i + 1))) = R) := Lib.hid hok9
      clear hok hX1 hKr hc1 hx1 hfx hv1 hbt hFX
      by_cases h3 : kx = 3
      · have k3 : (kx != 3) = false := by rw [h3]; rfl
        have hok8 : Hid ((FX && miscOk (l.drop (i + 1))) = R) := Lib.hid (by rw [← hok9.out]; simp [h3])
        clear hok9 h3
        go_wp2_with fail
        refine hrec.out.mono ?_
        rintro e w5 ⟨rfl, hb5⟩
        have hw5 := Lib.hid (hbb.out.trans (hb5.mono hbb.out.size))
        clear hb5 m0 m1 m2 m3 m4 hrec hbb
        cases FX with
        | false =>
          have hRf : Hid (R = false) := Lib.hid (by rw [← hok8.out]; simp)
          clear hok8
          go_wp2_with fail
          (try simp only [Exit.inBlock, Exit.then])
          go_ret
          exact ⟨by rw [hRf.out]; rfl, hw5.out⟩
        | true =>
          have hnext : Hid (miscOk (l.drop (i + 1)) = R) := Lib.hid (by rw [← hok8.out]; simp)
          clear hok8
          go_wp2_with fail
          go_roundw
          case rel => exact ⟨i + 1, by omega, by go_num, hnext, hw5⟩
          case measure => simp [intOf]; omega
      · have k3 : (kx != 3) = true := by simpa using h3
        by_cases h4 : kx = 4
        · have k4 : (kx != 4) = false := by rw [h4]; rfl
          have hok8 : Hid ((FX && miscOk (l.drop (i + 1))) = R) := Lib.hid (by rw [← hok9.out]; simp [h4])
          clear hok9 h3 h4
          go_wp2_with fail
          refine hrec.out.mono ?_
          rintro e w5 ⟨rfl, hb5⟩
          have hw5 := Lib.hid (hbb.out.trans (hb5.mono hbb.out.size))
          clear hb5 m0 m1 m2 m3 m4 hrec hbb
          cases FX with
          | false =>
            have hRf : Hid (R = false) := Lib.hid (by rw [← hok8.out]; simp)
            clear hok8
            go_wp2_with fail
            (try simp only [Exit.inBlock, Exit.then])
            go_ret
            exact ⟨by rw [hRf.out]; rfl, hw5.out⟩
          | true =>
            have hnext : Hid (miscOk (l.drop (i + 1)) = R) := Lib.hid (by rw [← hok8.out]; simp)
            clear hok8
            go_wp2_with fail
            go_roundw
            case rel => exact ⟨i + 1, by omega, by go_num, hnext, hw5⟩
            case measure => simp [intOf]; omega
        · have k4 : (kx != 4) = true := by simpa using h4
          have hRf : Hid (R = false) := Lib.hid (by rw [← hok9.out]; simp [h3, h4])
          clear hok9 h3 h4 hrec
          go_wp2_with fail
          (try simp only [Exit.inBlock, Exit.then])
          go_ret
          exact ⟨by rw [hRf.out]; rfl, hbb.out⟩
    · have hie : i = n := by omega
      subst hie
      have i1 : decide ((i : Int) < (i : Int)) = false := by simp
      have hRt : Hid (R = true) := Lib.hid (by
        have h9 := hok.out
        rw [List.drop_eq_nil_of_le (by rw [hln.out]; exact Nat.le_refl _)] at h9
        rw [← h9]
        rfl)
      clear hok
      go_wp2_with fail
      (try simp only [Exit.inBlock, Exit.then])
      go_ret
      exact ⟨by rw [hRt.out]; rfl, hb.out⟩
end Go.Proofs.YtokdnhdfmgfkeaaGreatDoor.Xp
end

section
namespace Go.Proofs.YtokdnhdfmgfkeaaGreatDoor.Xp
open Go.RowKit UtfW Xl Xo

set_option maxHeartbeats 2000000 in
set_option maxRecDepth 100000 in
theorem string_any (b : Nat) (v : Value) (l : Tx) (w : World) (h : Pr b v l w) (hlen : l.length ≤ 100000000000000) :
    Calls Tryz.prog 59 #[.pointer (some ⟨b, 0, none⟩)] w fun e w' => e = .returned (.string (strOf l)) ∧ Below b w w' := by
  obtain ⟨p, hbk, -⟩ := h.blk
  have hlt := h.lt
  by_cases h0 : l = []
  · have hv := h.nil h0
    subst hv
    subst h0
    have hUS : ∀ W : World, (Builtin.unsafeString_ #[118, 3] 9 #[.pointer none, .int .i64 0]).run Tryz.prog W = .ok (.string .empty) W := fun W => Lib.run_unsafeString_none W _ _ _ none
    have hSD : ∀ W : World, (Builtin.unsafeSliceData_ #[41] 118 #[.slice none 0 0]).run Tryz.prog W = .ok (.pointer none) W := fun W => rfl
    have c1 : w.drew.cell? ⟨b, 1, none⟩ = some (.slice none 0 0) := cell_blk (w := w.drew) hbk rfl
    clear h hbk
    go_enter Tryz.func59, Tryz.ntmps59
    go_wp2_with fail
    have mixed : Tryz.prog.follows Departure.mixedOrders = true := by kernel_rfl
    go_region_o
    all_goals (go_wp2_with fail; go_ret; exact ⟨rfl, Below.drew (Below.refl b w)⟩)
  · have hown := h.own
    have hl0 : l.length ≠ 0 := by simpa using h0
    obtain ⟨g, cap, cur, rfl, hbg, hg, hnc, hcm, hcs, htake⟩ : ∃ g cap cur, v = .slice (some ⟨g, 0, none⟩) l.length cap ∧ b ≤ g ∧ w.heap[g]? = some (.cells cur 5 (0, 0)) ∧ l.length ≤ cap ∧ cap ≤ maxLen ∧ cur.size = cap * 1 ∧ cur.toList.take (l.length * 1) = bv l := by
      rcases hown.2 with ⟨_, hz⟩ | ⟨g, cap, cur, hv, r⟩
      · exact absurd hz hl0
      · exact ⟨g, cap, cur, hv, r⟩
    have c1 : w.drew.cell? ⟨b, 1, none⟩ = some (.slice (some ⟨g, 0, none⟩) l.length cap) := cell_blk (w := w.drew) hbk rfl
    have hSD : (Builtin.unsafeSliceData_ #[41] 118 #[.slice (some ⟨g, 0, none⟩) l.length cap]).run Tryz.prog w.drew = .ok (.pointer (some ⟨g, 0, none⟩)) w.drew :=
      Lib.run_unsafeSliceData_row _ _ _ _ _ _ (by omega)
    have hUS : (Builtin.unsafeString_ #[118, 3] 9 #[.pointer (some ⟨g, 0, none⟩), .int .i64 l.length]).run Tryz.prog w.drew = .ok (.string (strOf l)) (w.drew.freeze ⟨g, 0, none⟩ l.length) := by
      refine Lib.run_unsafeString_row w.drew 118 3 9 5 Tryz.underlying118 (by kernel_rfl) g cur.size (by have hg' : w.drew.heap[g]? = some (.cells cur 5 (0, 0)) := hg; simp [World.shape?, hg']) l h0 (by omega) (by unfold maxLen at hcm; omega) ?_
      intro j x hx
      have := World.ownsRow.cells (g := g) hown rfl j (.int .u8 x.toNat) (by unfold bv; simp [hx])
      exact this
    have hlg : Hid (b ≤ g) := Lib.hid hbg
    clear h hbk hown hg hnc hcm hcs htake hbg h0 hl0
    go_enter Tryz.func59, Tryz.ntmps59
    go_wp2_with fail
    have mixed : Tryz.prog.follows Departure.mixedOrders = true := by kernel_rfl
    go_region_o
    all_goals (go_wp2_with fail; go_ret; exact ⟨rfl, Lib.below_freeze (Below.drew (Below.refl b w)) (p := ⟨g, 0, none⟩) hlg.out _⟩)
end Go.Proofs.YtokdnhdfmgfkeaaGreatDoor.Xp
end

section
namespace Go.Proofs.YtokdnhdfmgfkeaaGreatDoor.Xp
open Go.RowKit UtfW Xl Xo

theorem rd_new (w : World) (xs : List Value) (E : TypeId) (n : Nat) (hn : xs.length = n) (hm : n ≤ 9223372036854775807) : Rd (w.alloc (.cells xs.toArray E)) (some ⟨w.heap.size, 0, none⟩) n n xs := by
  have h := heap_alloc_new w (.cells xs.toArray E)
  refine ⟨hn, Nat.le_refl _, hm, fun h => (by cases h), fun hp => ⟨w.heap.size, 0, rfl, (Array.getElem?_eq_some_iff.1 h).1, fun i x hx => ?_⟩⟩
  simp only [World.cell?, h, Nat.zero_add]
  simpa using hx
def PrP (b : Nat) (v : Value) (w : World) (l : Tx) (e : Ending) (w' : World) : Prop := (∃ r, e = .returned r) ∧ ∃ v', Pr b v' l w' ∧ Wk b v w v' w'
set_option maxHeartbeats 2000000 in
set_option maxRecDepth 100000 in
theorem put_any (b : Nat) (v : Value) (l : Tx) (w : World) (A : Option Addr) (n c : Nat) (ss : List Tx) (h : Pr b v l w) (hS : Rd w A n c (ss.map fun s => .string (strOf s))) (hA : ∀ a, A = some a → 0 < n → a.block ≠ b ∧ v.ownBlock ≠ some a.block) (hlen : (l ++ ss.flatten).length ≤ 100000000000000) :
    Calls Tryz.prog 89 #[.pointer (some ⟨b, 0, none⟩), .slice A n c] w (PrP b v w (l ++ ss.flatten)) := by
  have hln := hS.len
  rw [List.length_map] at hln
  have hle := hS.le
  have hmx := hS.max
  have hl := Lib.hid hln
  have hS' := Lib.hid hS
  have h' := Lib.hid h
  have hA' := Lib.hid hA
  have hlen' := Lib.hid hlen
  clear hS h hA hlen hln
  go_enter Tryz.func89, Tryz.ntmps89
  go_wp2_with fail
  go_loopw [8] (fun vi wr => ∃ i : Nat, i ≤ n ∧ vi = .int .i64 (i : Nat) ∧ Hid (∃ v1, Pr b v1 (l ++ (ss.take i).flatten) wr ∧ Wk b v w v1 wr)) (fun vi _ => n - (intOf vi).toNat)
  case atStart => exact ⟨0, Nat.zero_le _, rfl, Lib.hid ⟨v, by simpa using h'.out, Wk.refl _ _ _⟩⟩
  case round =>
    obtain ⟨i, hi, rfl, hst⟩ := hrel
    by_cases hlt : i < n
    · have i1 : decide ((i : Int) < (n : Int)) = true := by simp; omega
      have q1 : (i : Int) < (n : Int) := by omega
      obtain ⟨v1, hp1, hw1⟩ := hst.out
      obtain ⟨bk, off, u, rfl, hbk, hu, hc⟩ := hS'.out.at_ hlt
      obtain ⟨n1, n2⟩ := hA'.out _ rfl (by omega)
      have hsame : wr.heap[bk]? = w.heap[bk]? := hw1.keep bk hbk n1 n2
      have hc' : wr.cell? ⟨bk, off + i, none⟩ = some u := (Xt.cell_same hsame).trans hc
      rw [List.getElem?_map, Option.map_eq_some_iff] at hu
      obtain ⟨s, hs, rfl⟩ := hu
      have hnext : (ss.take (i + 1)).flatten = (ss.take i).flatten ++ s := by rw [take_snoc hs, List.flatten_append]; simp
      have hl9 : (l ++ (ss.take i).flatten).length + s.length ≤ 100000000000000 := by
        have e : ss.flatten = (ss.take (i + 1)).flatten ++ (ss.drop (i + 1)).flatten := by rw [← List.flatten_append, List.take_append_drop]
        have h9 := hlen'.out
        rw [e, hnext] at h9
        simp only [List.length_append] at h9 ⊢
        omega
      have hwr := Lib.hid (write_any b v1 (l ++ (ss.take i).flatten) s wr hp1 hl9)
      have hw1' := Lib.hid hw1
      have hnext' := Lib.hid hnext
      clear hp1 hw1 hst hnext hl9 hc hs hsame n1 n2 hbk
      go_wp2_with fail
      refine hwr.out.mono ?_
      rintro e w5 ⟨⟨r, rfl⟩, v2, hp2, hw2⟩
      have hfin : Hid (∃ v1, Pr b v1 (l ++ (ss.take (i + 1)).flatten) w5 ∧ Wk b v w v1 w5) := Lib.hid ⟨v2, by rw [hnext'.out, ← List.append_assoc]; exact hp2, hw1'.out.trans hw2⟩
      clear hp2 hw2 hc'
      go_wp2_with fail
      go_roundw
      case rel => exact ⟨i + 1, by omega, by go_num, hfin⟩
      case measure => simp [intOf]; omega
    · have hie : i = n := by omega
      subst hie
      have i1 : decide ((i : Int) < (i : Int)) = false := by simp
      have hfin : Hid (∃ v1, Pr b v1 (l ++ ss.flatten) wr ∧ Wk b v w v1 wr) := Lib.hid (by
        have h9 := hst.out
        rwa [List.take_of_length_le (by rw [hl.out]; exact Nat.le_refl _)] at h9)
      go_wp2_with fail
      go_end0
      exact ⟨⟨_, rfl⟩, hfin.out⟩
set_option maxHeartbeats 2000000 in
set_option maxRecDepth 100000 in
theorem escaped_any (c : UInt8) (value : Bool) (w : World) :
    Calls Tryz.prog 123 #[.int .u8 (c.toNat : Nat), .bool value] w fun e w' => e = .returned (.string (strOf (esc1 value c))) ∧ Below w.heap.size w w' := by
  cases value with
  | false =>
    by_cases h38 : c = 38
    · have j38 : ((c.toNat : Int) == 38) = true := by rw [h38]; rfl
      have j60 : ((c.toNat : Int) == 60) = false := by rw [h38]; rfl
      have j13 : ((c.toNat : Int) == 13) = false := by rw [h38]; rfl
      have j62 : ((c.toNat : Int) == 62) = false := by rw [h38]; rfl
      have j34 : ((c.toNat : Int) == 34) = false := by rw [h38]; rfl
      have j9 : ((c.toNat : Int) == 9) = false := by rw [h38]; rfl
      have j10 : ((c.toNat : Int) == 10) = false := by rw [h38]; rfl
      have he : Hid (esc1 false c = esc1 false 38) := Lib.hid (by rw [h38])
      clear h38
      go_enter Tryz.func123, Tryz.ntmps123
      go_wp2_with fail
      go_ret
      exact ⟨by rw [he.out]; rfl, Below.refl _ _⟩
    by_cases h60 : c = 60
    · have j38 : ((c.toNat : Int) == 38) = false := by rw [show (38 : Int) = ((38 : UInt8).toNat : Int) from rfl, byte_eq, decide_eq_false h38]
      have j60 : ((c.toNat : Int) == 60) = true := by rw [h60]; rfl
      have j13 : ((c.toNat : Int) == 13) = false := by rw [h60]; rfl
      have j62 : ((c.toNat : Int) == 62) = false := by rw [h60]; rfl
      have j34 : ((c.toNat : Int) == 34) = false := by rw [h60]; rfl
      have j9 : ((c.toNat : Int) == 9) = false := by rw [h60]; rfl
      have j10 : ((c.toNat : Int) == 10) = false := by rw [h60]; rfl
      have he : Hid (esc1 false c = esc1 false 60) := Lib.hid (by rw [h60])
      clear h38 h60
      go_enter Tryz.func123, Tryz.ntmps123
      go_wp2_with fail
      go_ret
      exact ⟨by rw [he.out]; rfl, Below.refl _ _⟩
    by_cases h13 : c = 13
    · have j38 : ((c.toNat : Int) == 38) = false := by rw [show (38 : Int) = ((38 : UInt8).toNat : Int) from rfl, byte_eq, decide_eq_false h38]
      have j60 : ((c.toNat : Int) == 60) = false := by rw [show (60 : Int) = ((60 : UInt8).toNat : Int) from rfl, byte_eq, decide_eq_false h60]
      have j13 : ((c.toNat : Int) == 13) = true := by rw [h13]; rfl
      have j62 : ((c.toNat : Int) == 62) = false := by rw [h13]; rfl
      have j34 : ((c.toNat : Int) == 34) = false := by rw [h13]; rfl
      have j9 : ((c.toNat : Int) == 9) = false := by rw [h13]; rfl
      have j10 : ((c.toNat : Int) == 10) = false := by rw [h13]; rfl
      have he : Hid (esc1 false c = esc1 false 13) := Lib.hid (by rw [h13])
      clear h38 h60 h13
      go_enter Tryz.func123, Tryz.ntmps123
      go_wp2_with fail
      go_ret
      exact ⟨by rw [he.out]; rfl, Below.refl _ _⟩
    by_cases h62 : c = 62
    · have j38 : ((c.toNat : Int) == 38) = false := by rw [show (38 : Int) = ((38 : UInt8).toNat : Int) from rfl, byte_eq, decide_eq_false h38]
      have j60 : ((c.toNat : Int) == 60) = false := by rw [show (60 : Int) = ((60 : UInt8).toNat : Int) from rfl, byte_eq, decide_eq_false h60]
      have j13 : ((c.toNat : Int) == 13) = false := by rw [show (13 : Int) = ((13 : UInt8).toNat : Int) from rfl, byte_eq, decide_eq_false h13]
      have j62 : ((c.toNat : Int) == 62) = true := by rw [h62]; rfl
      have j34 : ((c.toNat : Int) == 34) = false := by rw [h62]; rfl
      have j9 : ((c.toNat : Int) == 9) = false := by rw [h62]; rfl
      have j10 : ((c.toNat : Int) == 10) = false := by rw [h62]; rfl
      have he : Hid (esc1 false c = esc1 false 62) := Lib.hid (by rw [h62])
      clear h38 h60 h13 h62
      go_enter Tryz.func123, Tryz.ntmps123
      go_wp2_with fail
      go_ret
      exact ⟨by rw [he.out]; rfl, Below.refl _ _⟩
    by_cases h34 : c = 34
    · have j38 : ((c.toNat : Int) == 38) = false := by rw [show (38 : Int) = ((38 : UInt8).toNat : Int) from rfl, byte_eq, decide_eq_false h38]
      have j60 : ((c.toNat : Int) == 60) = false := by rw [show (60 : Int) = ((60 : UInt8).toNat : Int) from rfl, byte_eq, decide_eq_false h60]
      have j13 : ((c.toNat : Int) == 13) = false := by rw [show (13 : Int) = ((13 : UInt8).toNat : Int) from rfl, byte_eq, decide_eq_false h13]
      have j62 : ((c.toNat : Int) == 62) = false := by rw [show (62 : Int) = ((62 : UInt8).toNat : Int) from rfl, byte_eq, decide_eq_false h62]
      have j34 : ((c.toNat : Int) == 34) = true := by rw [h34]; rfl
      have j9 : ((c.toNat : Int) == 9) = false := by rw [h34]; rfl
      have j10 : ((c.toNat : Int) == 10) = false := by rw [h34]; rfl
      have he : Hid (esc1 false c = [c]) := Lib.hid (by rw [h34]; rfl)
      have hbs : Bs (w.alloc (.cells #[.int .u8 (c.toNat : Nat)] 5)) (some ⟨w.heap.size, 0, none⟩) 1 1 [c] := rd_new w [.int .u8 (c.toNat : Nat)] 5 1 rfl (by decide)
      have hcv := Bs.conv hbs Tryz.underlying41 Tryz.underlying5 Tryz.underlying9
      have hba := Lib.hid (below_alloc w (.cells #[.int .u8 (c.toNat : Nat)] 5))
      clear hbs h38 h60 h13 h62 h34
      go_enter Tryz.func123, Tryz.ntmps123
      go_wp2_with fail
      go_ret
      exact ⟨by rw [he.out]; rfl, hba.out⟩
    by_cases h9 : c = 9
    · have j38 : ((c.toNat : Int) == 38) = false := by rw [show (38 : Int) = ((38 : UInt8).toNat : Int) from rfl, byte_eq, decide_eq_false h38]
      have j60 : ((c.toNat : Int) == 60) = false := by rw [show (60 : Int) = ((60 : UInt8).toNat : Int) from rfl, byte_eq, decide_eq_false h60]
      have j13 : ((c.toNat : Int) == 13) = false := by rw [show (13 : Int) = ((13 : UInt8).toNat : Int) from rfl, byte_eq, decide_eq_false h13]
      have j62 : ((c.toNat : Int) == 62) = false := by rw [show (62 : Int) = ((62 : UInt8).toNat : Int) from rfl, byte_eq, decide_eq_false h62]
      have j34 : ((c.toNat : Int) == 34) = false := by rw [show (34 : Int) = ((34 : UInt8).toNat : Int) from rfl, byte_eq, decide_eq_false h34]
      have j9 : ((c.toNat : Int) == 9) = true := by rw [h9]; rfl
      have j10 : ((c.toNat : Int) == 10) = false := by rw [h9]; rfl
      have he : Hid (esc1 false c = [c]) := Lib.hid (by rw [h9]; rfl)
      have hbs : Bs (w.alloc (.cells #[.int .u8 (c.toNat : Nat)] 5)) (some ⟨w.heap.size, 0, none⟩) 1 1 [c] := rd_new w [.int .u8 (c.toNat : Nat)] 5 1 rfl (by decide)
      have hcv := Bs.conv hbs Tryz.underlying41 Tryz.underlying5 Tryz.underlying9
      have hba := Lib.hid (below_alloc w (.cells #[.int .u8 (c.toNat : Nat)] 5))
      clear hbs h38 h60 h13 h62 h34 h9
      go_enter Tryz.func123, Tryz.ntmps123
      go_wp2_with fail
      go_ret
      exact ⟨by rw [he.out]; rfl, hba.out⟩
    by_cases h10 : c = 10
    · have j38 : ((c.toNat : Int) == 38) = false := by rw [show (38 : Int) = ((38 : UInt8).toNat : Int) from rfl, byte_eq, decide_eq_false h38]
      have j60 : ((c.toNat : Int) == 60) = false := by rw [show (60 : Int) = ((60 : UInt8).toNat : Int) from rfl, byte_eq, decide_eq_false h60]
      have j13 : ((c.toNat : Int) == 13) = false := by rw [show (13 : Int) = ((13 : UInt8).toNat : Int) from rfl, byte_eq, decide_eq_false h13]
      have j62 : ((c.toNat : Int) == 62) = false := by rw [show (62 : Int) = ((62 : UInt8).toNat : Int) from rfl, byte_eq, decide_eq_false h62]
      have j34 : ((c.toNat : Int) == 34) = false := by rw [show (34 : Int) = ((34 : UInt8).toNat : Int) from rfl, byte_eq, decide_eq_false h34]
      have j9 : ((c.toNat : Int) == 9) = false := by rw [show (9 : Int) = ((9 : UInt8).toNat : Int) from rfl, byte_eq, decide_eq_false h9]
      have j10 : ((c.toNat : Int) == 10) = true := by rw [h10]; rfl
      have he : Hid (esc1 false c = [c]) := Lib.hid (by rw [h10]; rfl)
      have hbs : Bs (w.alloc (.cells #[.int .u8 (c.toNat : Nat)] 5)) (some ⟨w.heap.size, 0, none⟩) 1 1 [c] := rd_new w [.int .u8 (c.toNat : Nat)] 5 1 rfl (by decide)
      have hcv := Bs.conv hbs Tryz.underlying41 Tryz.underlying5 Tryz.underlying9
      have hba := Lib.hid (below_alloc w (.cells #[.int .u8 (c.toNat : Nat)] 5))
      clear hbs h38 h60 h13 h62 h34 h9 h10
      go_enter Tryz.func123, Tryz.ntmps123
      go_wp2_with fail
      go_ret
      exact ⟨by rw [he.out]; rfl, hba.out⟩
    have j38 : ((c.toNat : Int) == 38) = false := by rw [show (38 : Int) = ((38 : UInt8).toNat : Int) from rfl, byte_eq, decide_eq_false h38]
    have j60 : ((c.toNat : Int) == 60) = false := by rw [show (60 : Int) = ((60 : UInt8).toNat : Int) from rfl, byte_eq, decide_eq_false h60]
    have j13 : ((c.toNat : Int) == 13) = false := by rw [show (13 : Int) = ((13 : UInt8).toNat : Int) from rfl, byte_eq, decide_eq_false h13]
    have j62 : ((c.toNat : Int) == 62) = false := by rw [show (62 : Int) = ((62 : UInt8).toNat : Int) from rfl, byte_eq, decide_eq_false h62]
    have j34 : ((c.toNat : Int) == 34) = false := by rw [show (34 : Int) = ((34 : UInt8).toNat : Int) from rfl, byte_eq, decide_eq_false h34]
    have j9 : ((c.toNat : Int) == 9) = false := by rw [show (9 : Int) = ((9 : UInt8).toNat : Int) from rfl, byte_eq, decide_eq_false h9]
    have j10 : ((c.toNat : Int) == 10) = false := by rw [show (10 : Int) = ((10 : UInt8).toNat : Int) from rfl, byte_eq, decide_eq_false h10]
    have he : Hid (esc1 false c = [c]) := Lib.hid (by unfold esc1; simp [h38, h60, h13, h62, h34, h9, h10])
    have hbs : Bs (w.alloc (.cells #[.int .u8 (c.toNat : Nat)] 5)) (some ⟨w.heap.size, 0, none⟩) 1 1 [c] := rd_new w [.int .u8 (c.toNat : Nat)] 5 1 rfl (by decide)
    have hcv := Bs.conv hbs Tryz.underlying41 Tryz.underlying5 Tryz.underlying9
    have hba := Lib.hid (below_alloc w (.cells #[.int .u8 (c.toNat : Nat)] 5))
    clear hbs h38 h60 h13 h62 h34 h9 h10
    go_enter Tryz.func123, Tryz.ntmps123
    go_wp2_with fail
    go_ret
    exact ⟨by rw [he.out]; rfl, hba.out⟩
  | true =>
    by_cases h38 : c = 38
    · have j38 : ((c.toNat : Int) == 38) = true := by rw [h38]; rfl
      have j60 : ((c.toNat : Int) == 60) = false := by rw [h38]; rfl
      have j13 : ((c.toNat : Int) == 13) = false := by rw [h38]; rfl
      have j62 : ((c.toNat : Int) == 62) = false := by rw [h38]; rfl
      have j34 : ((c.toNat : Int) == 34) = false := by rw [h38]; rfl
      have j9 : ((c.toNat : Int) == 9) = false := by rw [h38]; rfl
      have j10 : ((c.toNat : Int) == 10) = false := by rw [h38]; rfl
      have he : Hid (esc1 true c = esc1 true 38) := Lib.hid (by rw [h38])
      clear h38
      go_enter Tryz.func123, Tryz.ntmps123
      go_wp2_with fail
      go_ret
      exact ⟨by rw [he.out]; rfl, Below.refl _ _⟩
    by_cases h60 : c = 60
    · have j38 : ((c.toNat : Int) == 38) = false := by rw [show (38 : Int) = ((38 : UInt8).toNat : Int) from rfl, byte_eq, decide_eq_false h38]
      have j60 : ((c.toNat : Int) == 60) = true := by rw [h60]; rfl
      have j13 : ((c.toNat : Int) == 13) = false := by rw [h60]; rfl
      have j62 : ((c.toNat : Int) == 62) = false := by rw [h60]; rfl
      have j34 : ((c.toNat : Int) == 34) = false := by rw [h60]; rfl
      have j9 : ((c.toNat : Int) == 9) = false := by rw [h60]; rfl
      have j10 : ((c.toNat : Int) == 10) = false := by rw [h60]; rfl
      have he : Hid (esc1 true c = esc1 true 60) := Lib.hid (by rw [h60])
      clear h38 h60
      go_enter Tryz.func123, Tryz.ntmps123
      go_wp2_with fail
      go_ret
      exact ⟨by rw [he.out]; rfl, Below.refl _ _⟩
    by_cases h13 : c = 13
    · have j38 : ((c.toNat : Int) == 38) = false := by rw [show (38 : Int) = ((38 : UInt8).toNat : Int) from rfl, byte_eq, decide_eq_false h38]
      have j60 : ((c.toNat : Int) == 60) = false := by rw [show (60 : Int) = ((60 : UInt8).toNat : Int) from rfl, byte_eq, decide_eq_false h60]
      have j13 : ((c.toNat : Int) == 13) = true := by rw [h13]; rfl
      have j62 : ((c.toNat : Int) == 62) = false := by rw [h13]; rfl
      have j34 : ((c.toNat : Int) == 34) = false := by rw [h13]; rfl
      have j9 : ((c.toNat : Int) == 9) = false := by rw [h13]; rfl
      have j10 : ((c.toNat : Int) == 10) = false := by rw [h13]; rfl
      have he : Hid (esc1 true c = esc1 true 13) := Lib.hid (by rw [h13])
      clear h38 h60 h13
      go_enter Tryz.func123, Tryz.ntmps123
      go_wp2_with fail
      go_ret
      exact ⟨by rw [he.out]; rfl, Below.refl _ _⟩
    by_cases h62 : c = 62
    · have j38 : ((c.toNat : Int) == 38) = false := by rw [show (38 : Int) = ((38 : UInt8).toNat : Int) from rfl, byte_eq, decide_eq_false h38]
      have j60 : ((c.toNat : Int) == 60) = false := by rw [show (60 : Int) = ((60 : UInt8).toNat : Int) from rfl, byte_eq, decide_eq_false h60]
      have j13 : ((c.toNat : Int) == 13) = false := by rw [show (13 : Int) = ((13 : UInt8).toNat : Int) from rfl, byte_eq, decide_eq_false h13]
      have j62 : ((c.toNat : Int) == 62) = true := by rw [h62]; rfl
      have j34 : ((c.toNat : Int) == 34) = false := by rw [h62]; rfl
      have j9 : ((c.toNat : Int) == 9) = false := by rw [h62]; rfl
      have j10 : ((c.toNat : Int) == 10) = false := by rw [h62]; rfl
      have he : Hid (esc1 true c = [c]) := Lib.hid (by rw [h62]; rfl)
      have hbs : Bs (w.alloc (.cells #[.int .u8 (c.toNat : Nat)] 5)) (some ⟨w.heap.size, 0, none⟩) 1 1 [c] := rd_new w [.int .u8 (c.toNat : Nat)] 5 1 rfl (by decide)
      have hcv := Bs.conv hbs Tryz.underlying41 Tryz.underlying5 Tryz.underlying9
      have hba := Lib.hid (below_alloc w (.cells #[.int .u8 (c.toNat : Nat)] 5))
      clear hbs h38 h60 h13 h62
      go_enter Tryz.func123, Tryz.ntmps123
      go_wp2_with fail
      go_ret
      exact ⟨by rw [he.out]; rfl, hba.out⟩
    by_cases h34 : c = 34
    · have j38 : ((c.toNat : Int) == 38) = false := by rw [show (38 : Int) = ((38 : UInt8).toNat : Int) from rfl, byte_eq, decide_eq_false h38]
      have j60 : ((c.toNat : Int) == 60) = false := by rw [show (60 : Int) = ((60 : UInt8).toNat : Int) from rfl, byte_eq, decide_eq_false h60]
      have j13 : ((c.toNat : Int) == 13) = false := by rw [show (13 : Int) = ((13 : UInt8).toNat : Int) from rfl, byte_eq, decide_eq_false h13]
      have j62 : ((c.toNat : Int) == 62) = false := by rw [show (62 : Int) = ((62 : UInt8).toNat : Int) from rfl, byte_eq, decide_eq_false h62]
      have j34 : ((c.toNat : Int) == 34) = true := by rw [h34]; rfl
      have j9 : ((c.toNat : Int) == 9) = false := by rw [h34]; rfl
      have j10 : ((c.toNat : Int) == 10) = false := by rw [h34]; rfl
      have he : Hid (esc1 true c = esc1 true 34) := Lib.hid (by rw [h34])
      clear h38 h60 h13 h62 h34
      go_enter Tryz.func123, Tryz.ntmps123
      go_wp2_with fail
      go_ret
      exact ⟨by rw [he.out]; rfl, Below.refl _ _⟩
    by_cases h9 : c = 9
    · have j38 : ((c.toNat : Int) == 38) = false := by rw [show (38 : Int) = ((38 : UInt8).toNat : Int) from rfl, byte_eq, decide_eq_false h38]
      have j60 : ((c.toNat : Int) == 60) = false := by rw [show (60 : Int) = ((60 : UInt8).toNat : Int) from rfl, byte_eq, decide_eq_false h60]
      have j13 : ((c.toNat : Int) == 13) = false := by rw [show (13 : Int) = ((13 : UInt8).toNat : Int) from rfl, byte_eq, decide_eq_false h13]
      have j62 : ((c.toNat : Int) == 62) = false := by rw [show (62 : Int) = ((62 : UInt8).toNat : Int) from rfl, byte_eq, decide_eq_false h62]
      have j34 : ((c.toNat : Int) == 34) = false := by rw [show (34 : Int) = ((34 : UInt8).toNat : Int) from rfl, byte_eq, decide_eq_false h34]
      have j9 : ((c.toNat : Int) == 9) = true := by rw [h9]; rfl
      have j10 : ((c.toNat : Int) == 10) = false := by rw [h9]; rfl
      have he : Hid (esc1 true c = esc1 true 9) := Lib.hid (by rw [h9])
      clear h38 h60 h13 h62 h34 h9
      go_enter Tryz.func123, Tryz.ntmps123
      go_wp2_with fail
      go_ret
      exact ⟨by rw [he.out]; rfl, Below.refl _ _⟩
    by_cases h10 : c = 10
    · have j38 : ((c.toNat : Int) == 38) = false := by rw [show (38 : Int) = ((38 : UInt8).toNat : Int) from rfl, byte_eq, decide_eq_false h38]
      have j60 : ((c.toNat : Int) == 60) = false := by rw [show (60 : Int) = ((60 : UInt8).toNat : Int) from rfl, byte_eq, decide_eq_false h60]
      have j13 : ((c.toNat : Int) == 13) = false := by rw [show (13 : Int) = ((13 : UInt8).toNat : Int) from rfl, byte_eq, decide_eq_false h13]
      have j62 : ((c.toNat : Int) == 62) = false := by rw [show (62 : Int) = ((62 : UInt8).toNat : Int) from rfl, byte_eq, decide_eq_false h62]
      have j34 : ((c.toNat : Int) == 34) = false := by rw [show (34 : Int) = ((34 : UInt8).toNat : Int) from rfl, byte_eq, decide_eq_false h34]
      have j9 : ((c.toNat : Int) == 9) = false := by rw [show (9 : Int) = ((9 : UInt8).toNat : Int) from rfl, byte_eq, decide_eq_false h9]
      have j10 : ((c.toNat : Int) == 10) = true := by rw [h10]; rfl
      have he : Hid (esc1 true c = esc1 true 10) := Lib.hid (by rw [h10])
      clear h38 h60 h13 h62 h34 h9 h10
      go_enter Tryz.func123, Tryz.ntmps123
      go_wp2_with fail
      go_ret
      exact ⟨by rw [he.out]; rfl, Below.refl _ _⟩
    have j38 : ((c.toNat : Int) == 38) = false := by rw [show (38 : Int) = ((38 : UInt8).toNat : Int) from rfl, byte_eq, decide_eq_false h38]
    have j60 : ((c.toNat : Int) == 60) = false := by rw [show (60 : Int) = ((60 : UInt8).toNat : Int) from rfl, byte_eq, decide_eq_false h60]
    have j13 : ((c.toNat : Int) == 13) = false := by rw [show (13 : Int) = ((13 : UInt8).toNat : Int) from rfl, byte_eq, decide_eq_false h13]
    have j62 : ((c.toNat : Int) == 62) = false := by rw [show (62 : Int) = ((62 : UInt8).toNat : Int) from rfl, byte_eq, decide_eq_false h62]
    have j34 : ((c.toNat : Int) == 34) = false := by rw [show (34 : Int) = ((34 : UInt8).toNat : Int) from rfl, byte_eq, decide_eq_false h34]
    have j9 : ((c.toNat : Int) == 9) = false := by rw [show (9 : Int) = ((9 : UInt8).toNat : Int) from rfl, byte_eq, decide_eq_false h9]
    have j10 : ((c.toNat : Int) == 10) = false := by rw [show (10 : Int) = ((10 : UInt8).toNat : Int) from rfl, byte_eq, decide_eq_false h10]
    have he : Hid (esc1 true c = [c]) := Lib.hid (by unfold esc1; simp [h38, h60, h13, h62, h34, h9, h10])
    have hbs : Bs (w.alloc (.cells #[.int .u8 (c.toNat : Nat)] 5)) (some ⟨w.heap.size, 0, none⟩) 1 1 [c] := rd_new w [.int .u8 (c.toNat : Nat)] 5 1 rfl (by decide)
    have hcv := Bs.conv hbs Tryz.underlying41 Tryz.underlying5 Tryz.underlying9
    have hba := Lib.hid (below_alloc w (.cells #[.int .u8 (c.toNat : Nat)] 5))
    clear hbs h38 h60 h13 h62 h34 h9 h10
    go_enter Tryz.func123, Tryz.ntmps123
    go_wp2_with fail
    go_ret
    exact ⟨by rw [he.out]; rfl, hba.out⟩
theorem esc_append (value : Bool) : ∀ a b : Tx, esc value (a ++ b) = esc value a ++ esc value b
  | [], b => rfl
  | x :: a, b => by rw [List.cons_append, esc, esc_append value a b, esc, List.append_assoc]
theorem esc_next {value : Bool} {s : Tx} {i : Nat} {x : UInt8} (h : s[i]? = some x) : esc value (s.take (i + 1)) = esc value (s.take i) ++ esc1 value x := by
  rw [take_snoc h, esc_append]
  simp [esc]
theorem esc_take (value : Bool) (s : Tx) (i : Nat) : (esc value (s.take i)).length ≤ (esc value s).length := by
  have e : esc value s = esc value (s.take i) ++ esc value (s.drop i) := by rw [← esc_append, List.take_append_drop]
  rw [e, List.length_append]
  omega
set_option maxHeartbeats 2000000 in
set_option maxRecDepth 100000 in
theorem chars_any (b : Nat) (v : Value) (l s : Tx) (value : Bool) (w : World) (h : Pr b v l w) (hlen : (l ++ esc value s).length ≤ 100000000000000) (hs9 : s.length ≤ 100000000000000) :
    Calls Tryz.prog 88 #[.pointer (some ⟨b, 0, none⟩), .string (strOf s), .bool value] w (PrP b v w (l ++ esc value s)) := by
  have hsz : (strOf s).size = s.length := strOf_size' s
  obtain ⟨n, hn⟩ : ∃ n, s.length = n := ⟨_, rfl⟩
  rw [hn] at hsz hs9
  have h' := Lib.hid h
  have hn' := Lib.hid hn
  have hlen' := Lib.hid hlen
  clear h hn hlen
  go_enter Tryz.func88, Tryz.ntmps88
  go_wp2_with fail
  go_loopw [9] (fun vi wr => ∃ i : Nat, i ≤ n ∧ vi = .int .i64 (i : Nat) ∧ Hid (∃ v1, Pr b v1 (l ++ esc value (s.take i)) wr ∧ Wk b v w v1 wr)) (fun vi _ => n - (intOf vi).toNat)
  case atStart => exact ⟨0, Nat.zero_le _, rfl, Lib.hid ⟨v, by simpa [esc] using h'.out, Wk.refl _ _ _⟩⟩
  case round =>
    obtain ⟨i, hi, rfl, hst⟩ := hrel
    by_cases hlt : i < n
    · have i1 : decide ((i : Int) < (n : Int)) = true := by simp; omega
      have q1 : (i : Int) < (n : Int) := by omega
      obtain ⟨v1, hp1, hw1⟩ := hst.out
      have hx : s[i]? = some (s[i]'(by rw [hn'.out]; exact hlt)) := List.getElem?_eq_getElem _
      generalize s[i]'(by rw [hn'.out]; exact hlt) = x at hx
      have hlt' : i < (strOf s).size := by omega
      have hgx := str_at hx hlt'
      have hnext := Lib.hid (esc_next (value := value) hx)
      have hl9 : Hid ((l ++ esc value (s.take i) ++ esc1 value x).length ≤ 100000000000000) := Lib.hid (by
        have h8 := esc_take value s (i + 1)
        rw [hnext.out] at h8
        have h9 := hlen'.out
        simp only [List.length_append] at h8 h9 ⊢
        omega)
      have hp1' := Lib.hid hp1
      have hw1' := Lib.hid hw1
      clear hp1 hw1 hst hx
      go_wp2_with fail
      refine (escaped_any x value wr).mono ?_
      rintro e w5 ⟨rfl, hb5⟩
      obtain ⟨E1, hE1⟩ : ∃ E, esc1 value x = E := ⟨_, rfl⟩
      rw [hE1] at hnext hl9 ⊢
      have hp5 := hp1'.out.below hb5
      have hba := below_alloc w5 (.cells #[.string (strOf E1)] 9)
      have hp6 := hp5.below hba
      have hnn := hp6.ne_new (T := w5.heap.size)
      have hrd := rd_new w5 [.string (strOf E1)] 9 1 rfl (by decide)
      have hne5 := hp5.ne_new (Nat.le_refl _)
      have hpc := Lib.hid (put_any b v1 (l ++ esc value (s.take i)) (w5.alloc (.cells #[.string (strOf E1)] 9)) (some ⟨w5.heap.size, 0, none⟩) 1 1 [E1] hp6 hrd (fun a e _ => by injection e with e; rw [← e]; exact ⟨hne5.2, hne5.1⟩) (by simpa using hl9.out))
      have hw6 := Lib.hid (hw1'.out.trans ((Wk.below (v := v1) hb5 (Nat.le_of_lt hp1'.out.lt)).trans (Wk.below hba (Nat.le_of_lt hp5.lt))))
      clear hb5 hp5 hp6 hba hnn hrd hne5 hE1
      go_wp2_with fail
      refine hpc.out.mono ?_
      rintro e w7 ⟨⟨r, rfl⟩, v2, hp2, hw2⟩
      have hfin : Hid (∃ v1, Pr b v1 (l ++ esc value (s.take (i + 1))) w7 ∧ Wk b v w v1 w7) := Lib.hid ⟨v2, by rw [hnext.out]; simpa using hp2, hw6.out.trans hw2⟩
      clear hp2 hw2
      go_wp2_with fail
      go_roundw
      case rel => exact ⟨i + 1, by omega, by go_num, hfin⟩
      case measure => simp [intOf]; omega
    · have hie : i = n := by omega
      subst hie
      have i1 : decide ((i : Int) < (i : Int)) = false := by simp
      have hfin : Hid (∃ v1, Pr b v1 (l ++ esc value s) wr ∧ Wk b v w v1 wr) := Lib.hid (by
        have h9 := hst.out
        rwa [List.take_of_length_le (by rw [hn'.out]; exact Nat.le_refl _)] at h9)
      go_wp2_with fail
      go_end0
      exact ⟨⟨_, rfl⟩, hfin.out⟩
end Go.Proofs.YtokdnhdfmgfkeaaGreatDoor.Xp
end

section
namespace Go.Proofs.YtokdnhdfmgfkeaaGreatDoor.Xp
open Go.RowKit UtfW Xl Xo Xt

theorem put_lit (b : Nat) (v : Value) (l : Tx) (w : World) (ss : List Tx) (n : Nat) (hn : ss.length = n) (hn9 : n ≤ 1000) (h : Pr b v l w) (hlen : (l ++ ss.flatten).length ≤ 100000000000000) :
    Calls Tryz.prog 89 #[.pointer (some ⟨b, 0, none⟩), .slice (some ⟨w.heap.size, 0, none⟩) n n] (w.alloc (.cells (ss.map fun s => Value.string (strOf s)).toArray 9)) (PrP b v w (l ++ ss.flatten)) := by
  have hba := below_alloc w (.cells (ss.map fun s => Value.string (strOf s)).toArray 9)
  have hp := h.below hba
  have hne := h.ne_new (Nat.le_refl _)
  refine (put_any b v l _ (some ⟨w.heap.size, 0, none⟩) n n ss hp (rd_new w _ _ n (by rw [List.length_map, hn]) (by omega)) (fun a e _ => by injection e with e; rw [← e]; exact ⟨hne.2, hne.1⟩) hlen).mono ?_
  rintro e w' ⟨hr, v', h1, h2⟩
  exact ⟨hr, v', h1, (Wk.below hba (Nat.le_of_lt h.lt)).trans h2⟩
theorem writeA_append : ∀ a b : List At, writeA (a ++ b) = writeA a ++ writeA b
  | [], b => rfl
  | x :: a, b => by simp [writeA, writeA_append a b]
theorem writeL_append : ∀ a b : List Nd, writeL (a ++ b) = writeL a ++ writeL b
  | [], b => by rw [writeL]; rfl
  | x :: a, b => by rw [List.cons_append, writeL, writeL_append a b, writeL, List.append_assoc]
theorem writeA_next {l : List At} {i : Nat} {a : At} (h : l[i]? = some a) : writeA (l.take (i + 1)) = writeA (l.take i) ++ ((32 :: a.1 ++ [61, 34]) ++ esc true a.2 ++ [34]) := by
  rw [take_snoc h, writeA_append]
  simp [writeA]
theorem writeL_next {l : List Nd} {i : Nat} {x : Nd} (h : l[i]? = some x) : writeL (l.take (i + 1)) = writeL (l.take i) ++ writeN x := by
  rw [take_snoc h, writeL_append]
  simp [writeL]
theorem writeA_take (l : List At) (i : Nat) : (writeA (l.take i)).length ≤ (writeA l).length := by
  have e : writeA l = writeA (l.take i) ++ writeA (l.drop i) := by rw [← writeA_append, List.take_append_drop]
  rw [e, List.length_append]
  omega
theorem writeL_take (l : List Nd) (i : Nat) : (writeL (l.take i)).length ≤ (writeL l).length := by
  have e : writeL l = writeL (l.take i) ++ writeL (l.drop i) := by rw [← writeL_append, List.take_append_drop]
  rw [e, List.length_append]
  omega
theorem esc1_pos (v : Bool) (c : UInt8) : 1 ≤ (esc1 v c).length := by
  unfold esc1
  repeat (first | split | simp)
theorem esc_ge (v : Bool) : ∀ s : Tx, s.length ≤ (esc v s).length
  | [] => Nat.le_refl _
  | c :: s => by
    have := esc_ge v s
    have := esc1_pos v c
    rw [esc, List.length_cons, List.length_append]
    omega
theorem sq_low {α : Type} {El : World → List Value → α → Prop} {k : Nat} {w w' : World} {A : Option Addr} {n c b : Nat} {l : List α} {X : Nat → Prop} (h : Sq El k w A n c l) (hX : ∀ a, A = some a → 0 < n → X a.block) (hb : ∀ j, X j → j < b) (hbel : Below b w w') (hE : ∀ vs x, El w vs x → El w' vs x) : Sq El k w' A n c l :=
  Sq.stay h (fun a e hn => hbel.block _ (hb _ (hX a e hn))) hE
def elT (nm : Tx) (as_ : List At) (ks : List Nd) : Tx := 60 :: nm ++ writeA as_ ++ (if ks.isEmpty then [47, 62] else [62] ++ writeL ks ++ ([60, 47] ++ nm ++ [62]))
section
variable (b : Nat) (X : Nat → Prop) (hX : ∀ j, X j → j < b)
include hX
set_option maxHeartbeats 8000000 in
set_option maxRecDepth 100000 in
theorem element_any (v : Value) (l : Tx) (w : World) (vs : List Value) (kd : Int) (nm tx : Tx) (as_ : List At) (ks : List Nd) (h : Pr b v l w) (hn : NdI X w vs (.mk kd nm tx as_ ks)) (hlen : (l ++ elT nm as_ ks).length ≤ 100000000000000)
    (hK : ∀ (i : Nat) x, ks[i]? = some x → ∀ (v : Value) (l : Tx) (w : World) (vs : List Value), Pr b v l w → NdI X w vs x → (l ++ writeN x).length ≤ 100000000000000 → Calls Tryz.prog 58 #[.pointer (some ⟨b, 0, none⟩), .agg vs.toArray] w (PrP b v w (l ++ writeN x))) :
    Calls Tryz.prog 87 #[.pointer (some ⟨b, 0, none⟩), .agg vs.toArray] w (PrP b v w (l ++ elT nm as_ ks)) := by
  obtain ⟨A, ca, A2, c2, rfl, hA, hKs, hXA, hXK⟩ := hn.cells
  have hlm : ks.length ≤ 9223372036854775807 := Nat.le_trans hKs.le hKs.max
  have hll : as_.length ≤ 9223372036854775807 := Nat.le_trans hA.le hA.max
  obtain ⟨m, hm⟩ : ∃ m, ks.length = m := ⟨_, rfl⟩
  obtain ⟨la, hla⟩ : ∃ la, as_.length = la := ⟨_, rfl⟩
  rw [hm] at hKs hXK hlm
  rw [hla] at hA hXA hll
  rw [hm, hla]
  have hba := below_alloc w (.cells #[.int .i64 kd, .string (strOf nm), .string (strOf tx), .slice A la ca, .slice A2 m c2] 25)
  have hnb := heap_alloc_new w (.cells #[.int .i64 kd, .string (strOf nm), .string (strOf tx), .slice A la ca, .slice A2 m c2] 25)
  have hne := h.ne_new (Nat.le_refl _)
  obtain ⟨T, hT⟩ : ∃ T, w.heap.size = T := ⟨_, rfl⟩
  obtain ⟨w1, hw1⟩ : ∃ w1, w.alloc (.cells #[.int .i64 kd, .string (strOf nm), .string (strOf tx), .slice A la ca, .slice A2 m c2] 25) = w1 := ⟨_, rfl⟩
  rw [hw1] at hba hnb
  rw [hT] at hnb hne
  have hp1 := Lib.hid (h.below hba)
  have hw01 : Hid (Wk b v w v w1) := Lib.hid (Wk.below hba (Nat.le_of_lt h.lt))
  have hw1r : Hid (Wk b v w1 v w1) := Lib.hid (Wk.refl _ _ _)
  have hTl : T < w1.heap.size := (Array.getElem?_eq_some_iff.1 hnb).1
  have hbox : Hid (∀ v' w', Wk b v w1 v' w' → w'.heap[T]? = some (.cells #[.int .i64 kd, .string (strOf nm), .string (strOf tx), .slice A la ca, .slice A2 m c2] 25)) := Lib.hid fun v' w' hk => hk.box hnb hne.2 hne.1
  have hlow : Hid (∀ v' w', Wk b v w1 v' w' → Below b w w') := Lib.hid fun v' w' hk => (hba.mono (Nat.le_of_lt h.lt)).trans hk.bel
  have hAH := Lib.hid hA
  have hKH := Lib.hid hKs
  have hXAH := Lib.hid hXA
  have hXKH := Lib.hid hXK
  have hKK := Lib.hid hK
  have hXH := Lib.hid hX
  have hlenH := Lib.hid hlen
  have hnmH := Lib.hid hm
  have hlaH := Lib.hid hla
  have x1 : w1.cell? ⟨T, 1, none⟩ = some (.string (strOf nm)) := Xp.cell_blk hnb rfl
  clear h hn hA hKs hXA hXK hK hX hlen hm hla hba hnb hne
  have hl0 : Hid ((l ++ 60 :: nm).length + (writeA as_).length ≤ 100000000000000) := Lib.hid (by
    have h9 := hlenH.out
    unfold elT at h9
    simp only [List.length_append, List.length_cons] at h9 ⊢
    omega)
  go_enter Tryz.func87, Tryz.ntmps87
  have hpc := Lib.hid (show Calls Tryz.prog 89 #[.pointer (some ⟨b, 0, none⟩), .slice (some ⟨w1.heap.size, 0, none⟩) 2 2] (w1.alloc (.cells #[.string ⟨#[60]⟩, .string (strOf nm)] 9)) (PrP b v w1 (l ++ ([[60], nm] : List Tx).flatten)) from put_lit b v (l) w1 [[60], nm] 2 rfl (by decide) hp1.out (by have h9 := hl0.out; simp only [List.length_append, List.flatten_cons, List.flatten_nil, List.length_cons, List.length_nil] at h9 ⊢; omega))
  go_wp2_with fail
  refine hpc.out.mono ?_
  rintro e w2 ⟨⟨r, rfl⟩, v2, hp9, hw9⟩
  have hp2 := Lib.hid hp9
  have hw2 := Lib.hid (hw1r.out.trans hw9)
  clear hp9 hw9 hpc
  have hf2 : ([[60], nm] : List Tx).flatten = 60 :: nm := by simp
  rw [hf2] at hp2
  clear hf2
  have hT2 := hbox.out _ _ hw2.out
  have x3 : w2.cell? ⟨T, 3, none⟩ = some (.slice A la ca) := Xp.cell_blk hT2 rfl
  clear hT2 x1
  go_wp2_with fail
  go_loopw [16] (fun vi wr => ∃ i : Nat, i ≤ la ∧ vi = .int .i64 (i : Nat) ∧ Hid (∃ v1, Pr b v1 (l ++ 60 :: nm ++ writeA (as_.take i)) wr ∧ Wk b v w1 v1 wr)) (fun vi _ => la - (intOf vi).toNat)
  case atStart => exact ⟨0, Nat.zero_le _, rfl, Lib.hid ⟨v2, by simpa [writeA] using hp2.out, hw2.out⟩⟩
  case round =>
    clear x3 hp2 hw2
    obtain ⟨i, hi, rfl, hst⟩ := hrel
    by_cases hlt : i < la
    · have i1 : decide ((i : Int) < (la : Int)) = true := by simp; omega
      have q1 : (i : Int) < (la : Int) := by omega
      obtain ⟨v3, hp3, hw3⟩ := hst.out
      have hAr := sq_low hAH.out hXAH.out hXH.out (hlow.out _ _ hw3) (fun _ _ h => h)
      obtain ⟨b1, off1, ax, vs1, rfl, _, hx1, _, hv1, hc1⟩ := hAr.at_ hlt
      unfold AtEl at hv1
      subst hv1
      obtain ⟨a1, a2⟩ := ax
      have m0 := hc1 0 _ rfl
      have m1 := hc1 1 _ rfl
      rw [Nat.add_zero] at m0
      have hnx := Lib.hid (writeA_next hx1)
      have hl9 : Hid ((l ++ 60 :: nm ++ writeA (as_.take i) ++ ((32 :: a1 ++ [61, 34]) ++ esc true a2 ++ [34])).length ≤ 100000000000000) := Lib.hid (by
        have h8 := writeA_take as_ (i + 1)
        rw [hnx.out] at h8
        have h9 := hl0.out
        simp only [List.length_append] at h8 h9 ⊢
        omega)
      have hbt := below_alloc wr (.cells #[.string (strOf a1), .string (strOf a2)] 55)
      have hnt := heap_alloc_new wr (.cells #[.string (strOf a1), .string (strOf a2)] 55)
      have hne3 := hp3.ne_new (Nat.le_refl _)
      obtain ⟨T5, hT5⟩ : ∃ T5, wr.heap.size = T5 := ⟨_, rfl⟩
      have hp4 := Lib.hid (hp3.below hbt)
      have hw4 := Lib.hid (hw3.trans (Wk.below hbt (Nat.le_of_lt hp3.lt)))
      obtain ⟨wa, hwa⟩ : ∃ wa, wr.alloc (.cells #[.string (strOf a1), .string (strOf a2)] 55) = wa := ⟨_, rfl⟩
      rw [hwa] at hp4 hw4 hnt hbt
      rw [hT5] at hnt hne3
      have y0 : wa.cell? ⟨T5, 0, none⟩ = some (.string (strOf a1)) := Xp.cell_blk hnt rfl
      have hbox5 : Hid (∀ v' w', Wk b v3 wa v' w' → w'.heap[T5]? = some (.cells #[.string (strOf a1), .string (strOf a2)] 55)) := Lib.hid fun v' w' hk => hk.box hnt hne3.2 hne3.1
      have hwar : Hid (Wk b v3 wa v3 wa) := Lib.hid (Wk.refl _ _ _)
      clear hst hp3 hw3 hAr hc1 hx1 hbt hnt hne3
      have hpc := Lib.hid (show Calls Tryz.prog 89 #[.pointer (some ⟨b, 0, none⟩), .slice (some ⟨wa.heap.size, 0, none⟩) 3 3] (wa.alloc (.cells #[.string ⟨#[32]⟩, .string (strOf a1), .string ⟨#[61, 34]⟩] 9)) (PrP b v3 wa (l ++ 60 :: nm ++ writeA (as_.take i) ++ ([[32], a1, [61, 34]] : List Tx).flatten)) from put_lit b v3 (l ++ 60 :: nm ++ writeA (as_.take i)) wa [[32], a1, [61, 34]] 3 rfl (by decide) hp4.out (by have h9 := hl9.out; simp only [List.length_append, List.flatten_cons, List.flatten_nil, List.length_cons, List.length_nil] at h9 ⊢; omega))
      go_wp2_with fail
      refine hpc.out.mono ?_
      rintro e w5 ⟨⟨r, rfl⟩, v5, hp9, hw9⟩
      have hp5 := Lib.hid hp9
      have hw5 := Lib.hid (hwar.out.trans hw9)
      clear hp9 hw9 hpc
      have hT6 := hbox5.out _ _ hw5.out
      have y1 : w5.cell? ⟨T5, 1, none⟩ = some (.string (strOf a2)) := Xp.cell_blk hT6 rfl
      have hch := Lib.hid (chars_any b v5 _ a2 true w5 hp5.out (by have h9 := hl9.out; simp only [List.length_append, List.flatten_cons, List.flatten_nil, List.length_cons, List.length_nil] at h9 ⊢; omega) (by have h9 := hl9.out; have h8 := esc_ge true a2; simp only [List.length_append] at h9; omega))
      clear hT6 y0
      go_wp2_with fail
      refine hch.out.mono ?_
      rintro e w6 ⟨⟨r, rfl⟩, v6, hp9, hw9⟩
      have hp6 := Lib.hid hp9
      have hw6 := Lib.hid (hw5.out.trans hw9)
      clear hp9 hw9 hch y1
      have hpc := Lib.hid (show Calls Tryz.prog 89 #[.pointer (some ⟨b, 0, none⟩), .slice (some ⟨w6.heap.size, 0, none⟩) 1 1] (w6.alloc (.cells #[.string ⟨#[34]⟩] 9)) (PrP b v6 w6 (l ++ 60 :: nm ++ writeA (as_.take i) ++ ([[32], a1, [61, 34]] : List Tx).flatten ++ esc true a2 ++ ([[34]] : List Tx).flatten)) from put_lit b v6 (l ++ 60 :: nm ++ writeA (as_.take i) ++ ([[32], a1, [61, 34]] : List Tx).flatten ++ esc true a2) w6 [[34]] 1 rfl (by decide) hp6.out (by have h9 := hl9.out; simp only [List.length_append, List.flatten_cons, List.flatten_nil, List.length_cons, List.length_nil] at h9 ⊢; omega))
      go_wp2_with fail
      refine hpc.out.mono ?_
      rintro e w7 ⟨⟨r, rfl⟩, v7, hp9, hw9⟩
      have hp7 := Lib.hid hp9
      have hw7 := Lib.hid (hw6.out.trans hw9)
      clear hp9 hw9 hpc
      have hfin : Hid (∃ v1, Pr b v1 (l ++ 60 :: nm ++ writeA (as_.take (i + 1))) w7 ∧ Wk b v w1 v1 w7) := Lib.hid ⟨v7, by
        have h9 := hp7.out
        rw [hnx.out]
        simpa using h9, hw4.out.trans hw7.out⟩
      clear hp7 hw7 hp6 hw6 hp5 hw5
      go_wp2_with fail
      go_roundw
      case rel => exact ⟨i + 1, by omega, by go_num, hfin⟩
      case measure => simp [intOf]; omega
    · have hie : i = la := by omega
      subst hie
      have i1 : decide ((i : Int) < (i : Int)) = false := by simp
      obtain ⟨v3, hp3, hw3⟩ := hst.out
      rw [List.take_of_length_le (by rw [hlaH.out]; exact Nat.le_refl _)] at hp3
      have hT3 := hbox.out _ _ hw3
      have x4 : wr.cell? ⟨T, 4, none⟩ = some (.slice A2 m c2) := Xp.cell_blk hT3 rfl
      have x1 : wr.cell? ⟨T, 1, none⟩ = some (.string (strOf nm)) := Xp.cell_blk hT3 rfl
      replace hp3 := Lib.hid hp3
      replace hw3 := Lib.hid hw3
      clear hst hT3
      by_cases hm0 : m = 0
      · subst hm0
        have hel : elT nm as_ ks = 60 :: nm ++ writeA as_ ++ [47, 62] := by
          unfold elT
          rw [if_pos (by rw [List.isEmpty_iff]; exact List.eq_nil_of_length_eq_zero hnmH.out)]
        have hlen9 := hlenH.out
        rw [hel] at hlen9
        replace hel := Lib.hid hel
        replace hlen9 := Lib.hid hlen9
        have hpc := Lib.hid (show Calls Tryz.prog 89 #[.pointer (some ⟨b, 0, none⟩), .slice (some ⟨wr.heap.size, 0, none⟩) 1 1] (wr.alloc (.cells #[.string ⟨#[47, 62]⟩] 9)) (PrP b v3 wr (l ++ 60 :: nm ++ writeA as_ ++ ([[47, 62]] : List Tx).flatten)) from put_lit b v3 (l ++ 60 :: nm ++ writeA as_) wr [[47, 62]] 1 rfl (by decide) hp3.out (by have h9 := hlen9.out; simp only [List.length_append, List.flatten_cons, List.flatten_nil, List.length_cons, List.length_nil] at h9 ⊢; omega))
        go_wp2_with fail
        refine hpc.out.mono ?_
        rintro e w4 ⟨⟨r, rfl⟩, v4, hp9, hw9⟩
        have hp4 := Lib.hid hp9
        have hw4 := Lib.hid (hw3.out.trans hw9)
        clear hp9 hw9 hpc
        clear x4 x1
        go_wp2_with fail
        go_end0
        exact ⟨⟨_, rfl⟩, v4, by rw [hel.out]; simpa using hp4.out, hw01.out.trans hw4.out⟩
      · have i2 : ((m : Int) == 0) = false := by simp; omega
        have hel : elT nm as_ ks = 60 :: nm ++ writeA as_ ++ ([62] ++ writeL ks ++ ([60, 47] ++ nm ++ [62])) := by
          unfold elT
          rw [if_neg (by rw [List.isEmpty_iff]; intro e; rw [e] at hnmH; exact hm0 hnmH.out.symm)]
        have hlen9 := hlenH.out
        rw [hel] at hlen9
        replace hel := Lib.hid hel
        replace hlen9 := Lib.hid hlen9
        replace hm0 := Lib.hid hm0
        have hpc := Lib.hid (show Calls Tryz.prog 89 #[.pointer (some ⟨b, 0, none⟩), .slice (some ⟨wr.heap.size, 0, none⟩) 1 1] (wr.alloc (.cells #[.string ⟨#[62]⟩] 9)) (PrP b v3 wr (l ++ 60 :: nm ++ writeA as_ ++ ([[62]] : List Tx).flatten)) from put_lit b v3 (l ++ 60 :: nm ++ writeA as_) wr [[62]] 1 rfl (by decide) hp3.out (by have h9 := hlen9.out; simp only [List.length_append, List.flatten_cons, List.flatten_nil, List.length_cons, List.length_nil] at h9 ⊢; omega))
        go_wp2_with fail
        refine hpc.out.mono ?_
        rintro e w4 ⟨⟨r, rfl⟩, v4, hp9, hw9⟩
        have hp4 := Lib.hid hp9
        have hw4 := Lib.hid (hw3.out.trans hw9)
        clear hp9 hw9 hpc
        have hT4 := hbox.out _ _ hw4.out
        have x4' : w4.cell? ⟨T, 4, none⟩ = some (.slice A2 m c2) := Xp.cell_blk hT4 rfl
        clear x4 x1 hT4
        have hl1 : Hid ((l ++ 60 :: nm ++ writeA as_ ++ [62]).length + (writeL ks).length ≤ 100000000000000) := Lib.hid (by
          have h9 := hlen9.out
          simp only [List.length_append, List.length_cons, List.length_nil] at h9 ⊢
          omega)
        go_wp2_with fail
        go_loopw [46] (fun vi wr => ∃ j : Nat, j ≤ m ∧ vi = .int .i64 (j : Nat) ∧ Hid (∃ v1, Pr b v1 (l ++ 60 :: nm ++ writeA as_ ++ [62] ++ writeL (ks.take j)) wr ∧ Wk b v w1 v1 wr)) (fun vi _ => m - (intOf vi).toNat)
        case atStart => exact ⟨0, Nat.zero_le _, rfl, Lib.hid ⟨v4, by simpa [writeL] using hp4.out, hw4.out⟩⟩
        case round =>
          clear x4' hp4 hw4 hp3 hw3
          obtain ⟨j, hj, rfl, hst⟩ := hrel
          by_cases hlt : j < m
          · have i1 : decide ((j : Int) < (m : Int)) = true := by simp; omega
            have q1 : (j : Int) < (m : Int) := by omega
            obtain ⟨v5, hp5, hw5⟩ := hst.out
            have hKr := sq_low hKH.out hXKH.out hXH.out (hlow.out _ _ hw5) (fun vs x h => NdI.stay h fun k hk => ⟨hk, (hlow.out _ _ hw5).block k (hXH.out k hk)⟩)
            obtain ⟨b1, off1, x, vs1, rfl, _, hx1, _, hv1, hc1⟩ := hKr.at_ hlt
            have hkk := hKK.out j x hx1
            have hnx := Lib.hid (writeL_next hx1)
            have hl9 : (l ++ 60 :: nm ++ writeA as_ ++ [62] ++ writeL (ks.take j) ++ writeN x).length ≤ 100000000000000 := by
              have h8 := writeL_take ks (j + 1)
              rw [hnx.out] at h8
              have h9 := hl1.out
              simp only [List.length_append] at h8 h9 ⊢
              omega
            obtain ⟨kx, nx_, tx_, ax, kx_⟩ := x
            obtain ⟨Ax, cax, A2x, c2x, rfl, -⟩ := hv1.cells
            have m0 := hc1 0 _ rfl
            have m1 := hc1 1 _ rfl
            have m2 := hc1 2 _ rfl
            have m3 := hc1 3 _ rfl
            have m4 := hc1 4 _ rfl
            rw [Nat.add_zero] at m0
            have hbt := below_alloc wr (.cells #[.int .i64 kx, .string (strOf nx_), .string (strOf tx_), .slice Ax ax.length cax, .slice A2x kx_.length c2x] 25)
            have hp6 := hp5.below hbt
            have hw6 := Lib.hid (hw5.trans (Wk.below hbt (Nat.le_of_lt hp5.lt)))
            have hrec := Lib.hid (hkk v5 _ (wr.alloc (.cells #[.int .i64 kx, .string (strOf nx_), .string (strOf tx_), .slice Ax ax.length cax, .slice A2x kx_.length c2x] 25)) _ hp6 (NdI.stay hv1 fun k hk => ⟨hk, hbt.block k (Nat.lt_trans (hXH.out k hk) hp5.lt)⟩) hl9)
            clear hst hp5 hw5 hKr hc1 hx1 hbt hp6 hkk hl9 hv1
            go_wp2_with fail
            refine hrec.out.mono ?_
            rintro e w7 ⟨⟨r, rfl⟩, v7, hp9, hw9⟩
            have hfin : Hid (∃ v1, Pr b v1 (l ++ 60 :: nm ++ writeA as_ ++ [62] ++ writeL (ks.take (j + 1))) w7 ∧ Wk b v w1 v1 w7) := Lib.hid ⟨v7, by
              rw [hnx.out]
              simpa using hp9, hw6.out.trans hw9⟩
            clear hp9 hw9 m0 m1 m2 m3 m4
            go_wp2_with fail
            go_roundw
            case rel => exact ⟨j + 1, by omega, by go_num, hfin⟩
            case measure => simp [intOf]; omega
          · have hie : j = m := by omega
            subst hie
            have i1 : decide ((j : Int) < (j : Int)) = false := by simp
            obtain ⟨v5, hp5, hw5⟩ := hst.out
            rw [List.take_of_length_le (by rw [hnmH.out]; exact Nat.le_refl _)] at hp5
            have hT5 := hbox.out _ _ hw5
            have x1 : wr.cell? ⟨T, 1, none⟩ = some (.string (strOf nm)) := Xp.cell_blk hT5 rfl
            replace hp5 := Lib.hid hp5
            replace hw5 := Lib.hid hw5
            clear hst hT5
            have hpc := Lib.hid (show Calls Tryz.prog 89 #[.pointer (some ⟨b, 0, none⟩), .slice (some ⟨wr.heap.size, 0, none⟩) 3 3] (wr.alloc (.cells #[.string ⟨#[60, 47]⟩, .string (strOf nm), .string ⟨#[62]⟩] 9)) (PrP b v5 wr (l ++ 60 :: nm ++ writeA as_ ++ [62] ++ writeL ks ++ ([[60, 47], nm, [62]] : List Tx).flatten)) from put_lit b v5 (l ++ 60 :: nm ++ writeA as_ ++ [62] ++ writeL ks) wr [[60, 47], nm, [62]] 3 rfl (by decide) hp5.out (by have h9 := hlen9.out; simp only [List.length_append, List.flatten_cons, List.flatten_nil, List.length_cons, List.length_nil] at h9 ⊢; omega))
            go_wp2_with fail
            refine hpc.out.mono ?_
            rintro e w8 ⟨⟨r, rfl⟩, v8, hp9, hw9⟩
            have hp8 := Lib.hid hp9
            have hw8 := Lib.hid (hw5.out.trans hw9)
            clear hp9 hw9 hpc
            clear x1
            go_wp2_with fail
            go_end0
            exact ⟨⟨_, rfl⟩, v8, by rw [hel.out]; simpa using hp8.out, hw01.out.trans hw8.out⟩
end
end Go.Proofs.YtokdnhdfmgfkeaaGreatDoor.Xp
end

section
namespace Go.Proofs.YtokdnhdfmgfkeaaGreatDoor.Xp
open Go.RowKit UtfW Xl Xo Xt

set_option maxHeartbeats 8000000 in
set_option maxRecDepth 100000 in
theorem node_any (b : Nat) (X : Nat → Prop) (hX : ∀ j, X j → j < b) : ∀ (k : Nat) (n : Nd) (v : Value) (l : Tx) (w : World) (vs : List Value), SizeOf.sizeOf n ≤ k → Pr b v l w → NdI X w vs n → (l ++ writeN n).length ≤ 100000000000000 →
    Calls Tryz.prog 58 #[.pointer (some ⟨b, 0, none⟩), .agg vs.toArray] w (PrP b v w (l ++ writeN n)) := by
  intro k
  induction k with
  | zero =>
    intro n v l w vs hk
    obtain ⟨kd, nm, tx, as_, ks⟩ := n
    simp at hk
  | succ k ih =>
    intro n v l w vs hk h hn hlen
    obtain ⟨kd, nm, tx, as_, ks⟩ := n
    obtain ⟨A, ca, A2, c2, rfl, -⟩ := hn.cells
    obtain ⟨S1, hS1⟩ : ∃ S, strOf nm = S := ⟨_, rfl⟩
    obtain ⟨S2, hS2⟩ : ∃ S, strOf tx = S := ⟨_, rfl⟩
    rw [hS1, hS2] at hn ⊢
    have hba := below_alloc w (.cells #[.int .i64 kd, .string S1, .string S2, .slice A as_.length ca, .slice A2 ks.length c2] 25)
    have hnb := heap_alloc_new w (.cells #[.int .i64 kd, .string S1, .string S2, .slice A as_.length ca, .slice A2 ks.length c2] 25)
    have hne := h.ne_new (Nat.le_refl _)
    obtain ⟨T, hT⟩ : ∃ T, w.heap.size = T := ⟨_, rfl⟩
    obtain ⟨w1, hw1⟩ : ∃ w1, w.alloc (.cells #[.int .i64 kd, .string S1, .string S2, .slice A as_.length ca, .slice A2 ks.length c2] 25) = w1 := ⟨_, rfl⟩
    rw [hw1] at hba hnb
    rw [hT] at hnb hne
    have hp1 := Lib.hid (h.below hba)
    have hw01 : Hid (Wk b v w v w1) := Lib.hid (Wk.below hba (Nat.le_of_lt h.lt))
    have hw1r : Hid (Wk b v w1 v w1) := Lib.hid (Wk.refl _ _ _)
    have hbox : Hid (∀ v' w', Wk b v w1 v' w' → w'.heap[T]? = some (.cells #[.int .i64 kd, .string S1, .string S2, .slice A as_.length ca, .slice A2 ks.length c2] 25)) := Lib.hid fun v' w' hk => hk.box hnb hne.2 hne.1
    have x0 : w1.cell? ⟨T, 0, none⟩ = some (.int .i64 kd) := Xp.cell_blk hnb rfl
    have x1 : w1.cell? ⟨T, 1, none⟩ = some (.string S1) := Xp.cell_blk hnb rfl
    have x2 : w1.cell? ⟨T, 2, none⟩ = some (.string S2) := Xp.cell_blk hnb rfl
    have x3 : w1.cell? ⟨T, 3, none⟩ = some (.slice A as_.length ca) := Xp.cell_blk hnb rfl
    have x4 : w1.cell? ⟨T, 4, none⟩ = some (.slice A2 ks.length c2) := Xp.cell_blk hnb rfl
    have hn1 := Lib.hid (NdI.stay hn fun k hk => ⟨hk, hba.block k (Nat.lt_trans (hX k hk) h.lt)⟩)
    have hkid : Hid (∀ (i : Nat) x, ks[i]? = some x → SizeOf.sizeOf x ≤ k) := Lib.hid fun i x hx => by
      have := kid_lt (k := kd) (nm := nm) (tx := tx) (as_ := as_) hx
      omega
    have hlenH := Lib.hid hlen
    have ihH := Lib.hid ih
    clear h hn hlen hba hnb hne hk ih
    by_cases h1 : kd = 1
    · subst h1
      have he : writeN (.mk 1 nm tx as_ ks) = elT nm as_ ks := by
        rw [writeN, if_pos rfl]
        rfl
      have hlen9 := hlenH.out
      rw [he] at hlen9 ⊢
      have hec := Lib.hid (element_any b X hX v l w1 _ 1 nm tx as_ ks hp1.out (by have h9 := hn1.out; rw [← hS1, ← hS2] at h9; exact h9) hlen9 (fun i x hx v l w vs h1 h2 h3 => ihH.out x v l w vs (hkid.out i x hx) h1 h2 h3))
      rw [hS1, hS2] at hec
      have k0 : ((1 : Int) == 1) = true := rfl
      clear hlen9 he hS1 hS2
      go_enter Tryz.func58, Tryz.ntmps58
      go_wp2_with fail
      refine hec.out.mono ?_
      rintro e w5 ⟨⟨r, rfl⟩, v5, hp9, hw9⟩
      have hfin : Hid (Pr b v5 (l ++ elT nm as_ ks) w5 ∧ Wk b v w v5 w5) := Lib.hid ⟨hp9, hw01.out.trans hw9⟩
      clear hp9 hw9
      go_wp2_with fail
      go_end0
      exact ⟨⟨_, rfl⟩, v5, hfin.out⟩
    have k1 : (kd == 1) = false := by simpa using h1
    by_cases h2 : kd = 2
    · subst h2
      have he : writeN (.mk 2 nm tx as_ ks) = esc false tx := by
        rw [writeN, if_neg (by decide), if_pos rfl]
      have hlen9 := hlenH.out
      rw [he] at hlen9 ⊢
      have hec := Lib.hid (chars_any b v l tx false w1 hp1.out hlen9 (by have h9 := hlen9; have h8 := esc_ge false tx; rw [List.length_append] at h9; omega))
      rw [hS2] at hec
      have k0 : ((2 : Int) == 2) = true := rfl
      clear hlen9 he hS1 hS2 h1
      go_enter Tryz.func58, Tryz.ntmps58
      go_wp2_with fail
      refine hec.out.mono ?_
      rintro e w5 ⟨⟨r, rfl⟩, v5, hp9, hw9⟩
      have hfin : Hid (Pr b v5 (l ++ esc false tx) w5 ∧ Wk b v w v5 w5) := Lib.hid ⟨hp9, hw01.out.trans hw9⟩
      clear hp9 hw9
      go_wp2_with fail
      go_end0
      exact ⟨⟨_, rfl⟩, v5, hfin.out⟩
    have k2 : (kd == 2) = false := by simpa using h2
    by_cases h3 : kd = 3
    · subst h3
      have he : writeN (.mk 3 nm tx as_ ks) = [60, 33, 45, 45] ++ tx ++ [45, 45, 62] := by
        rw [writeN, if_neg (by decide), if_neg (by decide), if_pos rfl]
      have hlen9 := hlenH.out
      rw [he] at hlen9 ⊢
      have k0 : ((3 : Int) == 3) = true := rfl
      replace hlen9 := Lib.hid hlen9
      rw [← hS2] at x2 hbox
      clear he hS1 hS2 h1 h2
      go_enter Tryz.func58, Tryz.ntmps58
      have hpc := Lib.hid (show Calls Tryz.prog 89 #[.pointer (some ⟨b, 0, none⟩), .slice (some ⟨w1.heap.size, 0, none⟩) 3 3] (w1.alloc (.cells #[.string ⟨#[60, 33, 45, 45]⟩, .string (strOf tx), .string ⟨#[45, 45, 62]⟩] 9)) (PrP b v w1 (l ++ ([[60, 33, 45, 45], tx, [45, 45, 62]] : List Tx).flatten)) from put_lit b v (l) w1 [[60, 33, 45, 45], tx, [45, 45, 62]] 3 rfl (by decide) hp1.out (by have h9 := hlen9.out; simp only [List.length_append, List.flatten_cons, List.flatten_nil, List.length_cons, List.length_nil] at h9 ⊢; omega))
      go_wp2_with fail
      refine hpc.out.mono ?_
      rintro e w5 ⟨⟨r, rfl⟩, v5, hp9, hw9⟩
      have hp5 := Lib.hid hp9
      have hw5 := Lib.hid (hw1r.out.trans hw9)
      clear hp9 hw9 hpc
      clear x0 x1 x2 x3 x4
      go_wp2_with fail
      go_end0
      exact ⟨⟨_, rfl⟩, v5, by simpa using hp5.out, hw01.out.trans hw5.out⟩
    have k3 : (kd == 3) = false := by simpa using h3
    by_cases h4 : kd = 4
    · subst h4
      have he : writeN (.mk 4 nm tx as_ ks) = [60, 63] ++ nm ++ (if tx = [] then [] else 32 :: tx) ++ [63, 62] := by
        rw [writeN, if_neg (by decide), if_neg (by decide), if_neg (by decide), if_pos rfl]
      have hlen9 := hlenH.out
      rw [he] at hlen9 ⊢
      have k0 : ((4 : Int) == 4) = true := rfl
      replace hlen9 := Lib.hid hlen9
      rw [← hS1] at x1 hbox
      clear he h1 h2 h3
      have hl1 : Hid ((l ++ ([60, 63] ++ nm)).length ≤ 100000000000000) := Lib.hid (by
        have h9 := hlen9.out
        simp only [List.length_append] at h9 ⊢
        omega)
      by_cases ht : tx = []
      · have e9 : S2.toList.isEmpty = true := by rw [← hS2, strOf_empty, ht]; rfl
        rw [if_pos ht] at hlen9 ⊢
        replace ht := Lib.hid ht
        clear hS1 hS2
        go_enter Tryz.func58, Tryz.ntmps58
        have hpc := Lib.hid (show Calls Tryz.prog 89 #[.pointer (some ⟨b, 0, none⟩), .slice (some ⟨w1.heap.size, 0, none⟩) 2 2] (w1.alloc (.cells #[.string ⟨#[60, 63]⟩, .string (strOf nm)] 9)) (PrP b v w1 (l ++ ([[60, 63], nm] : List Tx).flatten)) from put_lit b v (l) w1 [[60, 63], nm] 2 rfl (by decide) hp1.out (by have h9 := hl1.out; simp only [List.length_append, List.flatten_cons, List.flatten_nil, List.length_cons, List.length_nil] at h9 ⊢; omega))
        go_wp2_with fail
        refine hpc.out.mono ?_
        rintro e w5 ⟨⟨r, rfl⟩, v5, hp9, hw9⟩
        have hp5 := Lib.hid hp9
        have hw5 := Lib.hid (hw1r.out.trans hw9)
        clear hp9 hw9 hpc
        have hT5 := hbox.out _ _ hw5.out
        have y2 : w5.cell? ⟨T, 2, none⟩ = some (.string S2) := Xp.cell_blk hT5 rfl
        clear x0 x1 x2 x3 x4 hT5
        have hpc := Lib.hid (show Calls Tryz.prog 89 #[.pointer (some ⟨b, 0, none⟩), .slice (some ⟨w5.heap.size, 0, none⟩) 1 1] (w5.alloc (.cells #[.string ⟨#[63, 62]⟩] 9)) (PrP b v5 w5 (l ++ ([[60, 63], nm] : List Tx).flatten ++ ([[63, 62]] : List Tx).flatten)) from put_lit b v5 (l ++ ([[60, 63], nm] : List Tx).flatten) w5 [[63, 62]] 1 rfl (by decide) hp5.out (by have h9 := hlen9.out; simp only [List.length_append, List.flatten_cons, List.flatten_nil, List.length_cons, List.length_nil] at h9 ⊢; omega))
        go_wp2_with fail
        refine hpc.out.mono ?_
        rintro e w6 ⟨⟨r, rfl⟩, v6, hp9, hw9⟩
        have hp6 := Lib.hid hp9
        have hw6 := Lib.hid (hw5.out.trans hw9)
        clear hp9 hw9 hpc
        clear y2
        go_wp2_with fail
        go_end0
        exact ⟨⟨_, rfl⟩, v6, by simpa using hp6.out, hw01.out.trans hw6.out⟩
      · have e9 : S2.toList.isEmpty = false := by
          rw [← hS2, strOf_empty]
          cases tx with
          | nil => exact absurd rfl ht
          | cons _ _ => rfl
        rw [if_neg ht] at hlen9 ⊢
        replace ht := Lib.hid ht
        have hS2H := Lib.hid hS2
        clear hS1 hS2
        go_enter Tryz.func58, Tryz.ntmps58
        have hpc := Lib.hid (show Calls Tryz.prog 89 #[.pointer (some ⟨b, 0, none⟩), .slice (some ⟨w1.heap.size, 0, none⟩) 2 2] (w1.alloc (.cells #[.string ⟨#[60, 63]⟩, .string (strOf nm)] 9)) (PrP b v w1 (l ++ ([[60, 63], nm] : List Tx).flatten)) from put_lit b v (l) w1 [[60, 63], nm] 2 rfl (by decide) hp1.out (by have h9 := hl1.out; simp only [List.length_append, List.flatten_cons, List.flatten_nil, List.length_cons, List.length_nil] at h9 ⊢; omega))
        go_wp2_with fail
        refine hpc.out.mono ?_
        rintro e w5 ⟨⟨r, rfl⟩, v5, hp9, hw9⟩
        have hp5 := Lib.hid hp9
        have hw5 := Lib.hid (hw1r.out.trans hw9)
        clear hp9 hw9 hpc
        have hT5 := hbox.out _ _ hw5.out
        have y2 : w5.cell? ⟨T, 2, none⟩ = some (.string S2) := Xp.cell_blk hT5 rfl
        clear x0 x1 x2 x3 x4 hT5
        have hpc := Lib.hid (show Calls Tryz.prog 89 #[.pointer (some ⟨b, 0, none⟩), .slice (some ⟨w5.heap.size, 0, none⟩) 2 2] (w5.alloc (.cells #[.string ⟨#[32]⟩, .string S2] 9)) (PrP b v5 w5 (l ++ ([[60, 63], nm] : List Tx).flatten ++ ([[32], tx] : List Tx).flatten)) from hS2H.out ▸ put_lit b v5 (l ++ ([[60, 63], nm] : List Tx).flatten) w5 [[32], tx] 2 rfl (by decide) hp5.out (by have h9 := hlen9.out; simp only [List.length_append, List.flatten_cons, List.flatten_nil, List.length_cons, List.length_nil] at h9 ⊢; omega))
        go_wp2_with fail
        refine hpc.out.mono ?_
        rintro e w6 ⟨⟨r, rfl⟩, v6, hp9, hw9⟩
        have hp6 := Lib.hid hp9
        have hw6 := Lib.hid (hw5.out.trans hw9)
        clear hp9 hw9 hpc
        clear y2
        have hpc := Lib.hid (show Calls Tryz.prog 89 #[.pointer (some ⟨b, 0, none⟩), .slice (some ⟨w6.heap.size, 0, none⟩) 1 1] (w6.alloc (.cells #[.string ⟨#[63, 62]⟩] 9)) (PrP b v6 w6 (l ++ ([[60, 63], nm] : List Tx).flatten ++ ([[32], tx] : List Tx).flatten ++ ([[63, 62]] : List Tx).flatten)) from put_lit b v6 (l ++ ([[60, 63], nm] : List Tx).flatten ++ ([[32], tx] : List Tx).flatten) w6 [[63, 62]] 1 rfl (by decide) hp6.out (by have h9 := hlen9.out; simp only [List.length_append, List.flatten_cons, List.flatten_nil, List.length_cons, List.length_nil] at h9 ⊢; omega))
        go_wp2_with fail
        refine hpc.out.mono ?_
        rintro e w7 ⟨⟨r, rfl⟩, v7, hp9, hw9⟩
        have hp7 := Lib.hid hp9
        have hw7 := Lib.hid (hw6.out.trans hw9)
        clear hp9 hw9 hpc
        go_wp2_with fail
        go_end0
        exact ⟨⟨_, rfl⟩, v7, by simpa using hp7.out, hw01.out.trans hw7.out⟩
    have k4 : (kd == 4) = false := by simpa using h4
    have he : writeN (.mk kd nm tx as_ ks) = [] := by
      rw [writeN, if_neg h1, if_neg h2, if_neg h3, if_neg h4]
    rw [he]
    clear he h1 h2 h3 h4 hS1 hS2
    go_enter Tryz.func58, Tryz.ntmps58
    go_wp2_with fail
    go_end0
    exact ⟨⟨_, rfl⟩, v, by simpa using hp1.out, hw01.out⟩
end Go.Proofs.YtokdnhdfmgfkeaaGreatDoor.Xp
end

section
namespace Go.Proofs.YtokdnhdfmgfkeaaGreatDoor.Xp
open Go.RowKit UtfW Xl Xo Xt

set_option maxHeartbeats 4000000 in
set_option maxRecDepth 100000 in
theorem Nodes_any (X : Nat → Prop) (w : World) (A : Option Addr) (n c : Nat) (l : List Nd) (hS : Sq (NdE X) 5 w A n c l) (hXA : ∀ a, A = some a → 0 < n → X a.block) (hX : ∀ j, X j → j < w.heap.size) (hlen : (writeL l).length ≤ 100000000000000) :
    Calls Tryz.prog 20 #[.slice A n c] w fun e w' => e = .returned (.string (strOf (writeL l))) ∧ Below w.heap.size w w' := by
  have hln := hS.len
  have hlm : n ≤ 9223372036854775807 := Nat.le_trans hS.le hS.max
  have hba := below_alloc w (.cells #[.pointer none, .slice none 0 0] 71)
  have hp1 := pr_new w
  obtain ⟨b, hb⟩ : ∃ b, w.heap.size = b := ⟨_, rfl⟩
  obtain ⟨w1, hw1⟩ : ∃ w1, w.alloc (.cells #[.pointer none, .slice none 0 0] 71) = w1 := ⟨_, rfl⟩
  rw [hw1] at hba hp1
  rw [hb] at hp1 hX
  have hb' := Lib.hid hb
  have hp1' := Lib.hid hp1
  have hba' := Lib.hid hba
  have hlow : Hid (∀ v' w', Wk b (.slice none 0 0) w1 v' w' → Below b w w') := Lib.hid fun v' w' hk => by
    rw [← hb'.out]
    exact hba.trans (by rw [hb'.out]; exact hk.bel)
  have hS' := Lib.hid hS
  have hXA' := Lib.hid hXA
  have hX' := Lib.hid hX
  have hln' := Lib.hid hln
  have hlen' := Lib.hid hlen
  clear hS hXA hX hln hlen hba hp1
  go_enter Tryz.func20, Tryz.ntmps20
  go_wp2_with fail
  clear hb
  go_loopw [10] (fun vi wr => ∃ j : Nat, j ≤ n ∧ vi = .int .i64 (j : Nat) ∧ Hid (∃ v1, Pr b v1 (writeL (l.take j)) wr ∧ Wk b (.slice none 0 0) w1 v1 wr)) (fun vi _ => n - (intOf vi).toNat)
  case atStart => exact ⟨0, Nat.zero_le _, rfl, Lib.hid ⟨_, by simpa [writeL] using hp1'.out, Wk.refl _ _ _⟩⟩
  case round =>
    obtain ⟨j, hj, rfl, hst⟩ := hrel
    by_cases hlt : j < n
    · have i1 : decide ((j : Int) < (n : Int)) = true := by simp; omega
      have q1 : (j : Int) < (n : Int) := by omega
      obtain ⟨v5, hp5, hw5⟩ := hst.out
      have hKr := sq_low hS'.out hXA'.out hX'.out (hlow.out _ _ hw5) (fun vs x h => NdI.stay h fun k hk => ⟨hk, (hlow.out _ _ hw5).block k (hX'.out k hk)⟩)
      obtain ⟨b1, off1, x, vs1, rfl, _, hx1, _, hv1, hc1⟩ := hKr.at_ hlt
      have hnx := Lib.hid (writeL_next hx1)
      have hl9 : (writeL (l.take j) ++ writeN x).length ≤ 100000000000000 := by
        have h8 := writeL_take l (j + 1)
        rw [hnx.out] at h8
        have h9 := hlen'.out
        omega
      obtain ⟨kx, nx_, tx_, ax, kx_⟩ := x
      obtain ⟨Ax, cax, A2x, c2x, rfl, -⟩ := hv1.cells
      have m0 := hc1 0 _ rfl
      have m1 := hc1 1 _ rfl
      have m2 := hc1 2 _ rfl
      have m3 := hc1 3 _ rfl
      have m4 := hc1 4 _ rfl
      rw [Nat.add_zero] at m0
      have hbt := below_alloc wr (.cells #[.int .i64 kx, .string (strOf nx_), .string (strOf tx_), .slice Ax ax.length cax, .slice A2x kx_.length c2x] 25)
      have hp6 := hp5.below hbt
      have hw6 := Lib.hid (hw5.trans (Wk.below hbt (Nat.le_of_lt hp5.lt)))
      have hrec := Lib.hid (node_any b X hX'.out _ _ v5 _ (wr.alloc (.cells #[.int .i64 kx, .string (strOf nx_), .string (strOf tx_), .slice Ax ax.length cax, .slice A2x kx_.length c2x] 25)) _ (Nat.le_refl _) hp6 (NdI.stay hv1 fun k hk => ⟨hk, hbt.block k (Nat.lt_trans (hX'.out k hk) hp5.lt)⟩) hl9)
      clear hst hp5 hw5 hKr hc1 hx1 hbt hp6 hl9 hv1
      go_wp2_with fail
      refine hrec.out.mono ?_
      rintro e w7 ⟨⟨r, rfl⟩, v7, hp9, hw9⟩
      have hfin : Hid (∃ v1, Pr b v1 (writeL (l.take (j + 1))) w7 ∧ Wk b (.slice none 0 0) w1 v1 w7) := Lib.hid ⟨v7, by
        rw [hnx.out]
        exact hp9, hw6.out.trans hw9⟩
      clear hp9 hw9 m0 m1 m2 m3 m4
      go_wp2_with fail
      go_roundw
      case rel => exact ⟨j + 1, by omega, by go_num, hfin⟩
      case measure => simp [intOf]; omega
    · have hie : j = n := by omega
      subst hie
      have i1 : decide ((j : Int) < (j : Int)) = false := by simp
      obtain ⟨v5, hp5, hw5⟩ := hst.out
      rw [List.take_of_length_le (by rw [hln'.out]; exact Nat.le_refl _)] at hp5
      have hsc := Lib.hid (string_any b v5 _ wr hp5 hlen'.out)
      have hbb := Lib.hid (hlow.out _ _ hw5)
      clear hst hp5 hw5
      go_wp2_with fail
      refine hsc.out.mono ?_
      rintro e w7 ⟨rfl, hb7⟩
      have hfin : Hid (Below w.heap.size w w7) := Lib.hid (by rw [hb'.out]; exact hbb.out.trans hb7)
      clear hb7
      go_wp2_with fail
      go_ret
      exact ⟨rfl, hfin.out⟩
set_option maxHeartbeats 4000000 in
set_option maxRecDepth 100000 in
theorem Node_any (X : Nat → Prop) (w : World) (vs : List Value) (n : Nd) (hn : NdI X w vs n) (hX : ∀ j, X j → j < w.heap.size) (hlen : (writeN n).length ≤ 100000000000000) :
    Calls Tryz.prog 18 #[.agg vs.toArray] w fun e w' => e = .returned (.string (strOf (writeN n))) ∧ Below w.heap.size w w' := by
  have hw0 : writeL [n] = writeN n := by simp [writeL]
  obtain ⟨N, hN⟩ : ∃ N, n = N := ⟨_, rfl⟩
  have hn' := hn
  rw [hN] at hn'
  obtain ⟨kd, nm, tx, as_, ks⟩ := n
  obtain ⟨A, ca, A2, c2, rfl, -⟩ := hn.cells
  rw [hN] at hw0 hlen ⊢
  clear hn hN
  have hba := below_alloc w (.cells #[.int .i64 kd, .string (strOf nm), .string (strOf tx), .slice A as_.length ca, .slice A2 ks.length c2] 25)
  have hnb := heap_alloc_new w (.cells #[.int .i64 kd, .string (strOf nm), .string (strOf tx), .slice A as_.length ca, .slice A2 ks.length c2] 25)
  obtain ⟨T, hT⟩ : ∃ T, w.heap.size = T := ⟨_, rfl⟩
  obtain ⟨w1, hw1⟩ : ∃ w1, w.alloc (.cells #[.int .i64 kd, .string (strOf nm), .string (strOf tx), .slice A as_.length ca, .slice A2 ks.length c2] 25) = w1 := ⟨_, rfl⟩
  rw [hw1] at hba hnb
  rw [hT] at hnb
  have x0 : w1.cell? ⟨T, 0, none⟩ = some _ := Xp.cell_blk hnb rfl
  have x1 : w1.cell? ⟨T, 1, none⟩ = some _ := Xp.cell_blk hnb rfl
  have x2 : w1.cell? ⟨T, 2, none⟩ = some _ := Xp.cell_blk hnb rfl
  have x3 : w1.cell? ⟨T, 3, none⟩ = some _ := Xp.cell_blk hnb rfl
  have x4 : w1.cell? ⟨T, 4, none⟩ = some _ := Xp.cell_blk hnb rfl
  have hbb := below_alloc w1 (.cells #[.int .i64 kd, .string (strOf nm), .string (strOf tx), .slice A as_.length ca, .slice A2 ks.length c2] 25)
  have h02 := hba.trans (hbb.mono hba.size)
  have hsq2 : Sq (NdE (fun j => j < (w1.alloc (.cells #[.int .i64 kd, .string (strOf nm), .string (strOf tx), .slice A as_.length ca, .slice A2 ks.length c2] 25)).heap.size)) 5 (w1.alloc (.cells #[.int .i64 kd, .string (strOf nm), .string (strOf tx), .slice A as_.length ca, .slice A2 ks.length c2] 25)) (some ⟨w1.heap.size, 0, none⟩) 1 1 [N] :=
    sq_one w1 [.int .i64 kd, .string (strOf nm), .string (strOf tx), .slice A as_.length ca, .slice A2 ks.length c2] N 25 (0, 0) rfl (NdI.stay hn' fun k hk => ⟨Nat.lt_of_lt_of_le (hX k hk) h02.size, h02.block k (hX k hk)⟩)
  have hc := Lib.hid (Nodes_any _ _ _ 1 1 [N] hsq2 (fun a e _ => by injection e with e; rw [← e]; exact (Array.getElem?_eq_some_iff.1 (heap_alloc_new w1 _)).1) (fun j hj => hj) (by rw [hw0]; exact hlen))
  rw [hw0] at hc
  have h02H := Lib.hid h02
  clear hba hnb hbb h02 hsq2 hn' hX hw0 hlen
  go_enter Tryz.func18, Tryz.ntmps18
  go_wp2_with fail
  refine hc.out.mono ?_
  rintro e w5 ⟨rfl, hb5⟩
  have hfin := Lib.hid (h02H.out.trans (hb5.mono h02H.out.size))
  clear hb5 hc
  go_wp2_with fail
  go_ret
  exact ⟨rfl, hfin.out⟩
end Go.Proofs.YtokdnhdfmgfkeaaGreatDoor.Xp
end

section
namespace Go.Proofs.YtokdnhdfmgfkeaaGreatDoor.Xt
open Go.RowKit UtfW Xl

inductive Ro where
  | no | bld | opn | bef | aft | nod (i : Nat) | kid (i : Nat) | fin
deriving DecidableEq
abbrev Rol := Nat → Ro
structure Pp where
  lo : Nat
  hi : Nat
instance : CoeOut Pp Nat := ⟨Pp.hi⟩
def Fin_ (ρ : Rol) (P0 : Pp) : Nat → Prop := fun k => (P0.lo ≤ k ∧ k < P0.hi) ∨ ρ k = .fin
theorem ownsRow_stay {w w' : World} {B E size n : Nat} {v : Value} {xs : List Value} (h : w.ownsRow B E size v n xs) (hs : ∀ k, v.ownBlock = some k → w'.heap[k]? = w.heap[k]?) : w'.ownsRow B E size v n xs := by
  obtain ⟨h1, h2⟩ := h
  refine ⟨h1, ?_⟩
  rcases h2 with h2 | ⟨g, cap, cur, hv, hB, hc, h3⟩
  · exact .inl h2
  · refine .inr ⟨g, cap, cur, hv, hB, (hs g (by rw [hv]; rfl)).trans hc, h3⟩
theorem OwS.stay {α : Type} {El : World → List Value → α → Prop} {El' : World → List Value → α → Prop} {k : Nat} {w w' : World} {B E : Nat} {v : Value} {l : List α} (h : OwS El k w B E v l) (hs : ∀ k, v.ownBlock = some k → w'.heap[k]? = w.heap[k]?) (hE : ∀ vs x, El w vs x → El' w' vs x) : OwS El' k w' B E v l := by
  obtain ⟨xs, h1, h2⟩ := h
  exact ⟨xs, ownsRow_stay h1 hs, h2.mono hE⟩
section
variable (E PT BT : TypeId)
structure OwN (ρ : Rol) (P0 : Pp) (w : World) (r : Ro) (v : Value) (l : List Nd) : Prop where
  ow : OwS (NdE (Fin_ ρ P0)) 5 w P0 E v l
  rl : ∀ k, v.ownBlock = some k → ρ k = r
structure FrM (ρ : Rol) (P0 : Pp) (w : World) (i nb : Nat) (f : Fr) : Prop where
  ex : ∃ Aa ca kv, w.heap[nb]? = some (.cells #[.int .i64 1, .string (strOf f.name), .string ⟨#[]⟩, .slice Aa f.attrs.length ca, kv] E) ∧ Sq AtEl 2 w Aa f.attrs.length ca f.attrs ∧ (∀ a, Aa = some a → 0 < f.attrs.length → (P0.lo ≤ a.block ∧ a.block < P0.hi)) ∧ OwN E ρ P0 w (.kid i) kv f.kids
  rl : ρ nb = .nod i
structure BsR (H : Ro → Prop) (ρ : Rol) (P0 : Pp) (w : World) (b : Nat) (v1 v2 v3 : Value) (vr : List Value) (nb : List Nat) (s : St) : Prop where
  dom : ∀ k, ρ k ≠ .no → P0 ≤ k ∧ k < w.heap.size
  p0 : P0 ≤ w.heap.size
  rb : ρ b = .bld
  bef : ¬ H .bef → OwN E ρ P0 w .bef v1 s.before
  root : NdE (Fin_ ρ P0) w vr s.root
  aft : ¬ H .aft → OwN E ρ P0 w .aft v2 s.after
  opn : ¬ H .opn → w.ownsRow P0 PT 1 v3 nb.length (nb.map fun k => Value.pointer (some ⟨k, 0, none⟩)) ∧ ∀ k, v3.ownBlock = some k → ρ k = .opn
  len : nb.length = s.opn.length
  fr : ∀ i k f, ¬ H (.nod i) → ¬ H (.kid i) → nb[i]? = some k → s.opn.reverse[i]? = some f → FrM E ρ P0 w i k f
def Bb (w : World) (b : Nat) (v1 v2 v3 : Value) (vr : List Value) (s : St) : Prop := ∃ r0 r1 r2 r3 r4, vr = [r0, r1, r2, r3, r4] ∧ w.heap[b]? = some (.cells #[v1, r0, r1, r2, r3, r4, v2, v3, .string (strOf s.text), .int .i64 (s.nodes : Nat), .bool s.has] BT)

variable {E PT BT}
variable {ρ ρ' : Rol} {P0 : Pp} {w w' : World}
theorem fin_mem {k : Nat} (hd : ∀ k, ρ k ≠ .no → P0 ≤ k ∧ k < w.heap.size) (hp : P0 ≤ w.heap.size) (h : Fin_ ρ P0 k) : k < w.heap.size := by
  rcases h with h | h
  · omega
  · exact (hd k (by rw [h]; exact fun e => by cases e)).2
structure Turns (ρ ρ' : Rol) (P0 : Pp) (r : Ro) (w w' : World) : Prop where
  same : ∀ k, k < w.heap.size → (ρ k ≠ r ∨ k < P0) → w'.heap[k]? = w.heap[k]?
  role : ∀ k, ρ k ≠ .no → ρ' k = ρ k
  size : w.heap.size ≤ w'.heap.size
  dom : ∀ k, ρ' k ≠ .no → P0 ≤ k ∧ k < w'.heap.size
/-! ### Steps -/
variable {H H' : Ro → Prop} {b : Nat} {v1 v2 v3 : Value} {vr : List Value} {nb : List Nat} {s : St}
def upd (ρ : Rol) (v : Value) (r : Ro) : Rol := fun k => if v.ownBlock = some k then r else ρ k
theorem Turns.below (hd : ∀ k, ρ k ≠ .no → P0 ≤ k ∧ k < w.heap.size) (hb : Below w.heap.size w w') (r : Ro) : Turns ρ ρ P0 r w w' :=
  ⟨fun k hk _ => hb.block k hk, fun _ _ => rfl, hb.size, fun k hk => ⟨(hd k hk).1, Nat.lt_of_lt_of_le (hd k hk).2 hb.size⟩⟩
theorem Turns.set (hd : ∀ k, ρ k ≠ .no → P0 ≤ k ∧ k < w.heap.size) {g : Nat} {r : Ro} (hg : ρ g = r) (hr : r ≠ .no) (i : Nat) (u : Value) : Turns ρ ρ P0 r w (w.setCell ⟨g, i, none⟩ u) := by
  have hG := grown_set w ⟨g, i, none⟩ u
  refine ⟨fun k hk h => hG.block k hk (fun e => ?_), fun _ _ => rfl, hG.size, fun k hk => ⟨(hd k hk).1, Nat.lt_of_lt_of_le (hd k hk).2 hG.size⟩⟩
  injection e with e
  have e' : k = g := e
  rcases h with h | h
  · exact h (by rw [e', hg])
  · have := (hd g (by rw [hg]; exact hr)).1
    omega
theorem OwN.grown {v v' : Value} {r : Ro} {l : List Nd} (hd : ∀ k, ρ k ≠ .no → P0 ≤ k ∧ k < w.heap.size) (hT : Turns ρ (upd ρ v' r) P0 r w w') (ho : OwS (NdE (Fin_ ρ P0)) 5 w' P0 E v' l) : OwN E (upd ρ v' r) P0 w' r v' l :=
  ⟨OwS.stay ho (fun _ _ => rfl) (fun vs x hx => hx.stay fun k hk => ⟨by
    rcases hk with hk | hk
    · exact .inl hk
    · exact .inr ((hT.role k (by rw [hk]; exact fun e => by cases e)).trans hk), rfl⟩), fun k hk => by unfold upd; rw [if_pos hk]⟩
end
end Go.Proofs.YtokdnhdfmgfkeaaGreatDoor.Xt
end

section
namespace Go.Proofs.YtokdnhdfmgfkeaaGreatDoor.Xt
open Go.RowKit UtfW Xl

section
variable {E PT BT : TypeId} {ρ ρ' : Rol} {P0 : Pp} {w w' : World} {H : Ro → Prop} {b : Nat} {v1 v2 v3 : Value} {vr : List Value} {nb : List Nat} {s : St}
abbrev None_ : Ro → Prop := fun _ => False
theorem rev_at {f : Fr} {F : List Fr} : (f :: F).reverse[F.length]? = some f := by
  rw [List.reverse_cons, List.getElem?_append_right (by simp)]
  simp
theorem BsR.top {nb0 : List Nat} {k : Nat} {f : Fr} {F : List Fr} (h : BsR E PT None_ ρ P0 w b v1 v2 v3 vr (nb0 ++ [k]) s) (ho : s.opn = f :: F) : FrM E ρ P0 w F.length k f := by
  have hl := h.len
  rw [ho] at hl
  simp at hl
  refine h.fr F.length k f id id ?_ (by rw [ho]; exact rev_at)
  rw [List.getElem?_append_right (by omega), show F.length - nb0.length = 0 by omega]
  rfl
def done_ (ρ : Rol) (v : Value) : Rol := fun k => if v.ownBlock = some k then .fin else ρ k
theorem done_ne {v : Value} {q r : Ro} (hv : ∀ k, v.ownBlock = some k → ρ k = r) (hq : q ≠ r) {k : Nat} (hk : ρ k = q) : done_ ρ v k = q := by
  unfold done_
  rw [if_neg]
  · exact hk
  · intro e
    exact hq (hk.symm.trans (hv k e))
theorem fin_done {v : Value} {r : Ro} (hv : ∀ k, v.ownBlock = some k → ρ k = r) (hr : r ≠ .fin) {k : Nat} (hk : Fin_ ρ P0 k) : Fin_ (done_ ρ v) P0 k := by
  rcases hk with hk | hk
  · exact .inl hk
  · exact .inr (done_ne hv hr.symm hk)
theorem NdI.done {v : Value} {r : Ro} {vs : List Value} {n : Nd} (hv : ∀ k, v.ownBlock = some k → ρ k = r) (hr : r ≠ .fin) (h : NdI (Fin_ ρ P0) w vs n) : NdI (Fin_ (done_ ρ v) P0) w vs n := h.stay fun _ hk => ⟨fin_done hv hr hk, rfl⟩
theorem OwN.done {v u : Value} {r q : Ro} {l : List Nd} (hv : ∀ k, v.ownBlock = some k → ρ k = r) (hr : r ≠ .fin) (hq : q ≠ r) (h : OwN E ρ P0 w q u l) : OwN E (done_ ρ v) P0 w q u l :=
  ⟨OwS.stay h.ow (fun _ _ => rfl) (fun _ _ hx => NdI.done hv hr hx), fun k hk => done_ne hv hq (h.rl k hk)⟩
end
end Go.Proofs.YtokdnhdfmgfkeaaGreatDoor.Xt
end

section
namespace Go.Proofs.YtokdnhdfmgfkeaaGreatDoor.Xt
open Go.RowKit UtfW Xl

theorem flat_set5 {u : Value} {j : Nat} (hj : j < 5) : ∀ {L : List (List Value)} {i : Nat} {vs : List Value}, (∀ v ∈ L, v.length = 5) → L[i]? = some vs → L.flatten.set (i * 5 + j) u = (L.set i (vs.set j u)).flatten
  | [], i, vs, _, h => by simp at h
  | a :: L, 0, vs, hL, h => by
    simp at h
    subst h
    have := hL a (List.mem_cons_self ..)
    rw [List.flatten_cons, Nat.zero_mul, Nat.zero_add, List.set_append_left _ _ (by omega)]
    rfl
  | a :: L, i + 1, vs, hL, h => by
    simp at h
    have ha := hL a (List.mem_cons_self ..)
    have hm : (i + 1) * 5 + j = a.length + (i * 5 + j) := by rw [Nat.succ_mul]; omega
    rw [List.flatten_cons, hm, List.set_append_right _ _ (by omega), Nat.add_sub_cancel_left, flat_set5 hj (fun v hv => hL v (List.mem_cons_of_mem _ hv)) h]
    rfl
def put5 (w : World) (g o : Nat) (r0 r1 r2 r3 r4 : Value) : World :=
  ((((w.setCell ⟨g, o, none⟩ r0).setCell ⟨g, o + 1, none⟩ r1).setCell ⟨g, o + 2, none⟩ r2).setCell ⟨g, o + 3, none⟩ r3).setCell ⟨g, o + 4, none⟩ r4
theorem five {vs : List Value} (h : vs.length = 5) (r0 r1 r2 r3 r4 : Value) : ((((vs.set 0 r0).set 1 r1).set 2 r2).set 3 r3).set 4 r4 = [r0, r1, r2, r3, r4] := by
  match vs, h with
  | [a, b, c, d, e], _ => rfl
theorem OwS.last {α : Type} {El El' : World → List Value → α → Prop} {w : World} {B E g n c : Nat} {l : List α} {z x : α} {r0 r1 r2 r3 r4 : Value} (h : OwS El 5 w B E (.slice (some ⟨g, 0, none⟩) (n + 1) c) (l ++ [z])) (hn : l.length = n)
    (hE : ∀ vs y, El w vs y → El' (put5 w g (n * 5) r0 r1 r2 r3 r4) vs y) (hx : El' (put5 w g (n * 5) r0 r1 r2 r3 r4) [r0, r1, r2, r3, r4] x) :
    OwS El' 5 (put5 w g (n * 5) r0 r1 r2 r3 r4) B E (.slice (some ⟨g, 0, none⟩) (n + 1) c) (l ++ [x]) := by
  obtain ⟨xs, ho, L, rfl, hl, hk, he⟩ := h
  rw [List.length_append, List.length_singleton, hn] at hl
  have hLn : L[n]? = some L[n] := List.getElem?_eq_getElem (by omega)
  have h5 : (L[n]'(by omega)).length = 5 := hk _ (List.getElem_mem _)
  have hlen : (l ++ [z]).length = n + 1 := by simp [hn]
  rw [hlen] at ho
  have o1 := (ho.stored (n * 5 + 0) r0).1
  have o2 := (o1.stored (n * 5 + 1) r1).1
  have o3 := (o2.stored (n * 5 + 2) r2).1
  have o4 := (o3.stored (n * 5 + 3) r3).1
  have o5 := (o4.stored (n * 5 + 4) r4).1
  have e1 := flat_set5 (u := r0) (j := 0) (by decide) hk hLn
  have k1 : ∀ v ∈ L.set n ((L[n]'(by omega)).set 0 r0), v.length = 5 := fun v hv => by
    rcases List.mem_or_eq_of_mem_set hv with h | h
    · exact hk v h
    · rw [h, List.length_set]; exact h5
  have q1 : (L.set n ((L[n]'(by omega)).set 0 r0))[n]? = some ((L[n]'(by omega)).set 0 r0) := List.getElem?_set_self (by omega)
  have e2 := flat_set5 (u := r1) (j := 1) (by decide) k1 q1
  rw [List.set_set] at e2
  have k2 : ∀ v ∈ L.set n (((L[n]'(by omega)).set 0 r0).set 1 r1), v.length = 5 := fun v hv => by
    rcases List.mem_or_eq_of_mem_set hv with h | h
    · exact hk v h
    · rw [h, List.length_set, List.length_set]; exact h5
  have q2 : (L.set n (((L[n]'(by omega)).set 0 r0).set 1 r1))[n]? = some (((L[n]'(by omega)).set 0 r0).set 1 r1) := List.getElem?_set_self (by omega)
  have e3 := flat_set5 (u := r2) (j := 2) (by decide) k2 q2
  rw [List.set_set] at e3
  have k3 : ∀ v ∈ L.set n ((((L[n]'(by omega)).set 0 r0).set 1 r1).set 2 r2), v.length = 5 := fun v hv => by
    rcases List.mem_or_eq_of_mem_set hv with h | h
    · exact hk v h
    · rw [h, List.length_set, List.length_set, List.length_set]; exact h5
  have q3 : (L.set n ((((L[n]'(by omega)).set 0 r0).set 1 r1).set 2 r2))[n]? = some ((((L[n]'(by omega)).set 0 r0).set 1 r1).set 2 r2) := List.getElem?_set_self (by omega)
  have e4 := flat_set5 (u := r3) (j := 3) (by decide) k3 q3
  rw [List.set_set] at e4
  have k4 : ∀ v ∈ L.set n (((((L[n]'(by omega)).set 0 r0).set 1 r1).set 2 r2).set 3 r3), v.length = 5 := fun v hv => by
    rcases List.mem_or_eq_of_mem_set hv with h | h
    · exact hk v h
    · rw [h, List.length_set, List.length_set, List.length_set, List.length_set]; exact h5
  have q4 : (L.set n (((((L[n]'(by omega)).set 0 r0).set 1 r1).set 2 r2).set 3 r3))[n]? = some (((((L[n]'(by omega)).set 0 r0).set 1 r1).set 2 r2).set 3 r3) := List.getElem?_set_self (by omega)
  have e5 := flat_set5 (u := r4) (j := 4) (by decide) k4 q4
  rw [List.set_set, five h5] at e5
  rw [e1, e2, e3, e4, e5] at o5
  refine ⟨(L.set n [r0, r1, r2, r3, r4]).flatten, by rw [List.length_append, List.length_singleton, hn]; exact o5, L.set n [r0, r1, r2, r3, r4], rfl, by rw [List.length_set, List.length_append, List.length_singleton, hn, hl], fun v hv => ?_, fun i vs y hvs hy => ?_⟩
  · rcases List.mem_or_eq_of_mem_set hv with h | h
    · exact hk v h
    · rw [h]; rfl
  · by_cases e : i = n
    · subst e
      rw [List.getElem?_set_self (by omega)] at hvs
      injection hvs with hvs
      rw [List.getElem?_append_right (by omega), hn, Nat.sub_self] at hy
      injection hy with hy
      rw [← hvs, ← hy]
      exact hx
    · rw [List.getElem?_set_ne (fun h => e h.symm)] at hvs
      have hil : i < n := by
        have := (List.getElem?_eq_some_iff.1 hy).1
        simp [hn] at this
        omega
      refine hE vs y (he i vs y hvs ?_)
      rw [List.getElem?_append_left (by omega)] at hy ⊢
      exact hy
end Go.Proofs.YtokdnhdfmgfkeaaGreatDoor.Xt
end

section
namespace Go.Proofs.YtokdnhdfmgfkeaaGreatDoor.Xt
open Go.RowKit UtfW Xl

section
variable {E PT BT : TypeId} {ρ ρ' : Rol} {P0 : Pp} {w w' : World} {H : Ro → Prop} {b : Nat} {v1 v2 v3 : Value} {vr : List Value} {nb : List Nat} {s : St}
theorem Turns.on (hd : ∀ k, ρ k ≠ .no → P0 ≤ k ∧ k < w.heap.size) {g : Nat} {r : Ro} (hg : ρ g = r) (hr : r ≠ .no) (hG : w.grownBy w' (some g)) : Turns ρ ρ P0 r w w' := by
  refine ⟨fun k hk h => hG.block k hk (fun e => ?_), fun _ _ => rfl, hG.size, fun k hk => ⟨(hd k hk).1, Nat.lt_of_lt_of_le (hd k hk).2 hG.size⟩⟩
  injection e with e
  rcases h with h | h
  · exact h (by rw [e, hg])
  · have := (hd g (by rw [hg]; exact hr)).1
    omega
theorem Turns.fin {r : Ro} (hd : ∀ k, ρ k ≠ .no → P0 ≤ k ∧ k < w.heap.size) (hp : P0 ≤ w.heap.size) (hT : Turns ρ ρ' P0 r w w') (hr : r ≠ .fin) {k : Nat} (hk : Fin_ ρ P0 k) : Fin_ ρ' P0 k ∧ w'.heap[k]? = w.heap[k]? :=
  ⟨by
    rcases hk with hk | hk
    · exact .inl hk
    · exact .inr ((hT.role k (by rw [hk]; exact fun e => by cases e)).trans hk), hT.same k (fin_mem hd hp hk) (by
    rcases hk with hk | hk
    · exact .inr hk.2
    · exact .inl (by rw [hk]; exact hr.symm))⟩
def Kp (ρ : Rol) (w : World) (ρ' : Rol) (w' : World) : Prop := ∀ k, k < w.heap.size → ρ k = .no → w'.heap[k]? = w.heap[k]? ∧ ρ' k = .no
theorem Kp.trans {ρ'' : Rol} {w'' : World} (h : Kp ρ w ρ' w') (h2 : Kp ρ' w' ρ'' w'') (hs : w.heap.size ≤ w'.heap.size) : Kp ρ w ρ'' w'' := fun k hk h0 => by
  obtain ⟨g1, g2⟩ := h k hk h0
  obtain ⟨g3, g4⟩ := h2 k (by omega) g2
  exact ⟨g3.trans g1, g4⟩
theorem Kp.below (hb : Below w.heap.size w w') : Kp ρ w ρ w' := fun k hk h0 => ⟨hb.block k hk, h0⟩
theorem Kp.on {r : Ro} (hT : Turns ρ ρ P0 r w w') (hr : r ≠ .no) : Kp ρ w ρ w' := fun k hk h0 => ⟨hT.same k hk (.inl (by rw [h0]; exact hr.symm)), h0⟩
theorem Turns.old {r : Ro} (h : Turns ρ ρ' P0 r w w') (hp : P0 ≤ w.heap.size) : ∀ k : Nat, k < P0 → w'.heap[k]? = w.heap[k]? := fun k hk => h.same k (by omega) (.inr hk)

def BsP (E PT BT : TypeId) (ρ : Rol) (P0 : Pp) (w : World) (b : Nat) (s : St) : Prop := ∃ v1 v2 v3 vr nb, BsR E PT None_ ρ P0 w b v1 v2 v3 vr nb s ∧ Bb BT w b v1 v2 v3 vr s
section
variable {g n c : Nat} {x : Nd} {q0 q1 q2 q3 q4 : Value}
end
end
end Go.Proofs.YtokdnhdfmgfkeaaGreatDoor.Xt
end

section
namespace Go.Proofs.YtokdnhdfmgfkeaaGreatDoor.Xl
open Go.RowKit UtfW Qx

section
variable (w : World) (b : Nat) (S : Tx) (k : Nat) (A : Option Addr) (c : Nat) (vo : Value)
end
end Go.Proofs.YtokdnhdfmgfkeaaGreatDoor.Xl
end

section
namespace Go.Proofs.YtokdnhdfmgfkeaaGreatDoor.Xl
open Go.RowKit UtfW

section
variable (w : World) (b : Nat) (S : Tx) (k : Nat) (A : Option Addr) (c : Nat) (vo : Value)
end
end Go.Proofs.YtokdnhdfmgfkeaaGreatDoor.Xl
end

section
namespace Go.Proofs.YtokdnhdfmgfkeaaGreatDoor.Xl
open Go.RowKit UtfW

section
variable {there : List At} {S nm v : Tx} {k n1 B1 B2 m n eo : Nat} {ec : Int}
end
section
variable (w : World) (b : Nat) (S : Tx) (k : Nat) (A : Option Addr) (c : Nat) (vo : Value)
end
end Go.Proofs.YtokdnhdfmgfkeaaGreatDoor.Xl
end

section
namespace Go.Proofs.YtokdnhdfmgfkeaaGreatDoor.Xl
open Go.RowKit UtfW

section
variable {S nm : Tx} {k n B m o : Nat} {ec : Int}
end

section
variable (w : World) (b : Nat) (S : Tx) (k : Nat) (A : Option Addr) (c : Nat) (vo : Value)
end
end Go.Proofs.YtokdnhdfmgfkeaaGreatDoor.Xl
end

section
namespace Go.Proofs.YtokdnhdfmgfkeaaGreatDoor.Xl
open Go.RowKit UtfW

section
variable (w : World) (b : Nat) (S : Tx) (k : Nat) (A : Option Addr) (c : Nat) (vo : Value)
end
end Go.Proofs.YtokdnhdfmgfkeaaGreatDoor.Xl
end

section
namespace Go.Proofs.YtokdnhdfmgfkeaaGreatDoor.Xl
open Go.RowKit UtfW

section
variable (w : World) (b : Nat) (S : Tx) (k : Nat) (A : Option Addr) (c : Nat) (vo : Value)
end
end Go.Proofs.YtokdnhdfmgfkeaaGreatDoor.Xl
end

section
namespace Go.Proofs.YtokdnhdfmgfkeaaGreatDoor.Xl
open Go.RowKit UtfW

section
variable {S x : Tx} {k m o : Nat} {ec : Int} {y : UInt8}
end

section
variable (w : World) (b : Nat) (S : Tx) (k : Nat) (A : Option Addr) (c : Nat) (vo : Value)
end
end Go.Proofs.YtokdnhdfmgfkeaaGreatDoor.Xl
end

section
namespace Go.Proofs.YtokdnhdfmgfkeaaGreatDoor.Xl
open Go.RowKit UtfW

theorem OwS.low {α : Type} {El : World → List Value → α → Prop} {k : Nat} {w : World} {B B' E : Nat} {v : Value} {l : List α} (h : OwS El k w B E v l) (hB : B' ≤ B) : OwS El k w B' E v l := by
  obtain ⟨xs, h1, h2⟩ := h
  exact ⟨xs, Joins.ownsRow_le h1 hB, h2⟩
section
variable {S x : Tx} {k m o : Nat} {ec : Int}
end

section
variable (w : World) (b : Nat) (S : Tx) (k : Nat) (A : Option Addr) (c : Nat) (vo : Value)
end
end Go.Proofs.YtokdnhdfmgfkeaaGreatDoor.Xl
end

section
namespace Go.Proofs.YtokdnhdfmgfkeaaGreatDoor.Xl
open Go.RowKit UtfW

section
variable {S nm : Tx} {k n m o : Nat} {ec : Int} {e : Bool} {ats : List At}
end
section
variable {S : Tx} {q f B n o : Nat} {ats : List At} {a : At} {ec : Int} {x : UInt8}
end
section
variable (w : World) (b : Nat) (S : Tx) (k : Nat) (A : Option Addr) (c : Nat) (vo : Value)
end
end Go.Proofs.YtokdnhdfmgfkeaaGreatDoor.Xl
end

section
namespace Go.Proofs.YtokdnhdfmgfkeaaGreatDoor.Xl
open Go.RowKit Go.Shelf UtfW

/-! ### The walk -/
end Go.Proofs.YtokdnhdfmgfkeaaGreatDoor.Xl
end

section
namespace Go.Proofs.YtokdnhdfmgfkeaaGreatDoor.Xl
open Go.RowKit UtfW

section
variable {S nm x : Tx} {k n m o B : Nat} {ec : Int}
end

section
variable (w : World) (b : Nat) (S : Tx) (k : Nat) (A : Option Addr) (c : Nat) (vo : Value)
end
end Go.Proofs.YtokdnhdfmgfkeaaGreatDoor.Xl
end

section
namespace Go.Proofs.YtokdnhdfmgfkeaaGreatDoor.Xl
open Go.RowKit UtfW

section
variable {r : Tx}
end

section
variable (w : World) (b : Nat) (S : Tx) (k : Nat) (A : Option Addr) (c : Nat) (vo : Value)
end
end Go.Proofs.YtokdnhdfmgfkeaaGreatDoor.Xl
end

section
namespace Go.Proofs.YtokdnhdfmgfkeaaGreatDoor.Xl
open Go.RowKit UtfW

theorem ows_keptT {w w' : World} {B E n size : Nat} {v : Value} {xs : List Value} {row : Option Nat} (h : w.ownsRow B E size v n xs) (hg : w.grownBy w' row) (hr : ∀ g, row = some g → B ≤ g → ∀ cur, w.heap[g]? ≠ some (.cells cur E)) : w'.ownsRow B E size v n xs := by
  obtain ⟨h1, h2⟩ := h
  refine ⟨h1, ?_⟩
  rcases h2 with h2 | ⟨g, cap, cur, hv, hB, hc, h3⟩
  · exact .inl h2
  · refine .inr ⟨g, cap, cur, hv, hB, (hg.block g (Array.getElem?_eq_some_iff.1 hc).1 ?_).trans hc, h3⟩
    intro e
    exact hr g e.symm hB cur hc
def TkO (B : Nat) (w : World) (vs : List Value) (t : Tok) : Prop := ∃ A c, vs = [.int .i64 (t.kind : Nat), .int .i64 (t.at_ : Nat), .string (strOf t.name), .string (strOf t.text), .slice A t.attrs.length c] ∧ OwS AtEl 2 w B 55 (.slice A t.attrs.length c) t.attrs
theorem TkO.kept {B : Nat} {w w' : World} {row : Option Nat} (hg : w.grownBy w' row) (hr : ∀ g, row = some g → B ≤ g → ∀ cur, w.heap[g]? ≠ some (.cells cur 55)) : ∀ vs t, TkO B w vs t → TkO B w' vs t := by
  rintro vs t ⟨A, c, rfl, xs, h1, h2⟩
  exact ⟨A, c, rfl, xs, ows_keptT h1 hg hr, h2.mono AtEl.to⟩
theorem TkO.one {B : Nat} {w : World} : ∀ vs t, TkO B w vs t → ∀ u ∈ vs, u.oneCell' = true := by
  rintro vs t ⟨A, c, rfl, _⟩ u hu
  simp at hu
  rcases hu with rfl | rfl | rfl | rfl | rfl <;> rfl
def OwTk (w : World) (B : Nat) (v : Value) (ts : List Tok) : Prop := OwS (TkO B) 5 w B 87 v ts
section
variable {B : Nat} {w w' : World} {v : Value} {ts : List Tok}
theorem OwTk.nil (w : World) (B : Nat) : OwTk w B (.slice none 0 0) [] := OwS.nil w B _
theorem OwTk.kept {row : Option Nat} (h : OwTk w B v ts) (hg : w.grownBy w' row) (hr : ∀ g, row = some g → B ≤ g → ∀ cur E, (E = 55 ∨ E = 87) → w.heap[g]? ≠ some (.cells cur E)) : OwTk w' B v ts := by
  obtain ⟨xs, h1, h2⟩ := h
  exact ⟨xs, ows_keptT h1 hg fun g e hB cur => hr g e hB cur _ (.inr rfl), h2.mono (TkO.kept hg fun g e hB cur => hr g e hB cur _ (.inl rfl))⟩
theorem OwTk.below (h : OwTk w B v ts) (hb : Below w.heap.size w w') : OwTk w' B v ts := h.kept (grown_of_below hb) (fun g e => by cases e)
theorem OwTk.on {b : Nat} (h : OwTk w B v ts) (hg : w.grownBy w' (some b)) (hb : b < B) : OwTk w' B v ts :=
  h.kept hg fun g e hB => by injection e with e; omega
end
section
variable {ops : Array Oper} {rest : List Oper} {o : Oper} {a : Act} {Q : Exit → Act → World → Prop}
end
end Go.Proofs.YtokdnhdfmgfkeaaGreatDoor.Xl
end

section
namespace Go.Proofs.YtokdnhdfmgfkeaaGreatDoor.Xt
open Go.RowKit UtfW Xl

structure Sm (s : St) (N : Nat) : Prop where
  bef : s.before.length ≤ N
  aft : s.after.length ≤ N
  kid : ∀ f ∈ s.opn, f.kids.length ≤ N
theorem Sm.put {s : St} {N : Nat} (h : Sm s N) (n : Nd) : Sm (put s n) (N + 1) := by
  obtain ⟨h1, h2, h3⟩ := h
  unfold Xt.put
  split
  · rename_i f F ho
    refine ⟨by simpa using Nat.le_succ_of_le h1, by simpa using Nat.le_succ_of_le h2, fun g hg => ?_⟩
    simp at hg
    rcases hg with rfl | hg
    · have := h3 f (by rw [ho]; exact List.mem_cons_self ..)
      simpa using this
    · exact Nat.le_succ_of_le (h3 g (by rw [ho]; exact List.mem_cons_of_mem _ hg))
  · rename_i ho
    split
    · exact ⟨Nat.le_succ_of_le h1, Nat.le_succ_of_le h2, fun g hg => Nat.le_succ_of_le (h3 g hg)⟩
    · split
      · exact ⟨Nat.le_succ_of_le h1, by simpa using h2, fun g hg => Nat.le_succ_of_le (h3 g hg)⟩
      · exact ⟨by simpa using h1, Nat.le_succ_of_le h2, fun g hg => Nat.le_succ_of_le (h3 g hg)⟩
theorem Sm.mono {s : St} {N M : Nat} (h : Sm s N) (hM : N ≤ M) : Sm s M := ⟨Nat.le_trans h.bef hM, Nat.le_trans h.aft hM, fun f hf => Nat.le_trans (h.kid f hf) hM⟩
theorem Sm.opn {s : St} {N : Nat} (h : Sm s N) {F : List Fr} (hF : ∀ f ∈ F, f.kids.length ≤ N) (t : Tx) (k : Nat) (hs : Bool) : Sm { s with opn := F, text := t, nodes := k, has := hs } N := ⟨h.bef, h.aft, hF⟩
theorem Sm.flush {s : St} {N : Nat} (h : Sm s N) : Sm (flush s) (N + 1) := by
  unfold Xt.flush
  split
  · exact h.mono (by omega)
  · have := h.put (textN s.text)
    exact ⟨this.bef, this.aft, this.kid⟩
theorem Bb.cell {BT : TypeId} {w : World} {b : Nat} {v1 v2 v3 r0 r1 r2 r3 r4 : Value} {s : St} (h : w.heap[b]? = some (.cells #[v1, r0, r1, r2, r3, r4, v2, v3, .string (strOf s.text), .int .i64 (s.nodes : Nat), .bool s.has] BT)) (i : Nat) : w.cell? ⟨b, i, none⟩ = (#[v1, r0, r1, r2, r3, r4, v2, v3, .string (strOf s.text), .int .i64 (s.nodes : Nat), .bool s.has] : Array Value)[i]? := by
  simp [World.cell?, h]
theorem cell_blk {w : World} {b i : Nat} {cs : Array Value} {E : TypeId} {v : Value} (h : w.heap[b]? = some (.cells cs E)) (hi : cs[i]? = some v) : w.cell? ⟨b, i, none⟩ = some v := by
  simp [World.cell?, h, hi]
abbrev BsA (ρ : Rol) (P0 : Pp) (w : World) (b : Nat) (s : St) : Prop := BsP 25 136 85 ρ P0 w b s
section
variable {w : World} {b N : Nat} {P0 : Pp} {ρ : Rol} {v1 v2 v3 : Value} {vr vs : List Value} {nb : List Nat} {s : St} {n : Nd}
end
end Go.Proofs.YtokdnhdfmgfkeaaGreatDoor.Xt
end

section
namespace Go.Proofs.YtokdnhdfmgfkeaaGreatDoor.Xt
open Go.RowKit UtfW Xl

theorem zero_nd (X : Nat → Prop) (w : World) : NdI X w [.int .i64 0, .string ⟨#[]⟩, .string ⟨#[]⟩, .slice none 0 0, .slice none 0 0] zero :=
  .mk 0 [] [] [] [] none 0 none 0 (fun _ => []) (Sq.none_ w) (fun a e => by cases e) (Sq.none_ w) (fun a e => by cases e) (fun i x hi => by simp at hi)
section
variable {w : World} {b N : Nat} {P0 : Pp} {ρ : Rol} {v1 v2 v3 : Value} {vr vs : List Value} {nb : List Nat} {s : St} {n : Nd}
end
end Go.Proofs.YtokdnhdfmgfkeaaGreatDoor.Xt
end

section
namespace Go.Proofs.YtokdnhdfmgfkeaaGreatDoor.Xt
open Go.RowKit UtfW Xl

section
variable {w : World} {b N : Nat} {P0 : Pp} {ρ : Rol} {v1 v2 v3 : Value} {vr vs : List Value} {nb : List Nat} {s : St} {n : Nd}
end
end Go.Proofs.YtokdnhdfmgfkeaaGreatDoor.Xt
end

section
namespace Go.Proofs.YtokdnhdfmgfkeaaGreatDoor.Xt
open Go.RowKit UtfW Xl

section
variable {w : World} {b N : Nat} {P0 : Pp} {ρ : Rol} {v1 v2 v3 : Value} {vr vs : List Value} {nb : List Nat} {s : St} {n : Nd}
end
end Go.Proofs.YtokdnhdfmgfkeaaGreatDoor.Xt
end

section
namespace Go.Proofs.YtokdnhdfmgfkeaaGreatDoor.Xt
open Go.RowKit UtfW Xl

section
variable {w w' w'' : World} {b N : Nat} {P0 : Pp} {s s' : St} {ρ : Rol} {v1 v2 v3 : Value} {vr vs : List Value} {nb : List Nat} {n : Nd}
theorem BsA.lt (h : BsA ρ P0 w b s) : P0 ≤ b ∧ b < w.heap.size := by
  obtain ⟨v1, v2, v3, vr, nb, hR, hB⟩ := h
  exact hR.dom b (by rw [hR.rb]; exact fun e => by cases e)
theorem BsA.p0 (h : BsA ρ P0 w b s) : P0 ≤ w.heap.size := by
  obtain ⟨v1, v2, v3, vr, nb, hR, hB⟩ := h
  exact hR.p0
theorem BsA.rb (h : BsA ρ P0 w b s) : ρ b = .bld := by
  obtain ⟨v1, v2, v3, vr, nb, hR, hB⟩ := h
  exact hR.rb
theorem BsA.blk (h : BsA ρ P0 w b s) : ∃ C : Array Value, C.size = 11 ∧ w.heap[b]? = some (.cells C 85) ∧ C[8]? = some (.string (strOf s.text)) ∧ C[9]? = some (.int .i64 (s.nodes : Nat)) ∧ C[10]? = some (.bool s.has) ∧ ∃ A c, C[7]? = some (.slice A s.opn.length c) := by
  obtain ⟨v1, v2, v3, vr, nb, hR, r0, r1, r2, r3, r4, rfl, hB⟩ := h
  obtain ⟨A, c, rfl⟩ := ownsRow_form (hR.opn id).1
  refine ⟨_, rfl, hB, rfl, rfl, rfl, A, c, ?_⟩
  rw [← hR.len]
  rfl
theorem BsA.frozen (h : BsA ρ P0 w b s) (i : Nat) : w.frozen? ⟨b, i, none⟩ = false := by
  obtain ⟨C, _, h1, _⟩ := h.blk
  exact frozen_of_row w b i _ _ h1
end
end Go.Proofs.YtokdnhdfmgfkeaaGreatDoor.Xt
end

section
namespace Go.Proofs.YtokdnhdfmgfkeaaGreatDoor.Xt
open Go.RowKit UtfW Xl

section
variable {w w' : World} {b N : Nat} {P0 : Pp} {s : St} {ρ : Rol}
def TkP (P0 : Pp) (w : World) (vs : List Value) (t : Tok) : Prop := ∃ A c, vs = [.int .i64 (t.kind : Nat), .int .i64 (t.at_ : Nat), .string (strOf t.name), .string (strOf t.text), .slice A t.attrs.length c] ∧ Sq AtEl 2 w A t.attrs.length c t.attrs ∧ ∀ a, A = some a → 0 < t.attrs.length → (P0.lo ≤ a.block ∧ a.block < P0.hi)
theorem TkP.below {vs : List Value} {t : Tok} (h : TkP P0 w vs t) (hb : Below P0 w w') : TkP P0 w' vs t := by
  obtain ⟨A, c, rfl, h1, h2⟩ := h
  exact ⟨A, c, rfl, Sq.stay h1 (fun a e hn => hb.block _ (h2 a e hn).2) (fun _ _ h => h), h2⟩
structure TkB (ρ : Rol) (w : World) (T : Nat) (t : Tok) (A : Option Addr) (ca : Nat) : Prop where
  blk : w.heap[T]? = some (.cells #[.int .i64 (t.kind : Nat), .int .i64 (t.at_ : Nat), .string (strOf t.name), .string (strOf t.text), .slice A t.attrs.length ca] 87)
  no : ρ T = .no
theorem TkB.lt {T : Nat} {t : Tok} {A : Option Addr} {ca : Nat} (h : TkB ρ w T t A ca) : T < w.heap.size := (Array.getElem?_eq_some_iff.1 h.blk).1
end
end Go.Proofs.YtokdnhdfmgfkeaaGreatDoor.Xt
end
