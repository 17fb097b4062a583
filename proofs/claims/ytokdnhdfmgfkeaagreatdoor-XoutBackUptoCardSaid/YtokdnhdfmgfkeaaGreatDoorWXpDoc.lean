/- The printer of trees: Nodes, Node. -/
import Derived.Test.YtokdnhdfmgfkeaaGreatDoorWUtfMath
import Derived.Test.YtokdnhdfmgfkeaaGreatDoorWXpRc
import Derived.Test.YtokdnhdfmgfkeaaGreatDoorWXoBack
import Derived.Test.YtokdnhdfmgfkeaaGreatDoorWXpLib
import Derived.Shelf.RegionOpenPlain
set_option linter.unusedVariables false
set_option linter.unusedSimpArgs false
section
namespace Go.Proofs.YtokdnhdfmgfkeaaGreatDoor.Xp
open Go.RowKit UtfW Xl Xo Xt
theorem esc_le6_ (v : Bool) : ∀ s : Tx, (esc v s).length <= 6 * s.length
 | [] => by simp [esc]
 | c :: s => by
  have h1 := esc_le6_ v s
  have h2 : (esc1 v c).length <= 6 := by
   unfold esc1
   repeat' split
   all_goals simp
  rw [esc, List.length_append, List.length_cons];omega
set_option maxHeartbeats 8000000 in
set_option maxRecDepth 100000 in
theorem resc_false (s : Tx) (hs : s.length <= 1000000) (w : World) :
  Calls Tryz.prog 57 #[.string (strOf s), .bool false] w fun e w' => e = .returned (.string (strOf (esc false s))) /\ Below w.heap.size w w' := by
 have hsz : (strOf s).size = s.length := strOf_size' s;obtain ⟨n, hn⟩ : ∃ n, s.length = n := ⟨_, rfl⟩;rw [hn] at hsz hs;have hn' := Hd hn;clear hn
 go_enter Tryz.func57, Tryz.ntmps57
 go_wp2_with fail
 go_loopw [5, 6] (fun v5 v6 wr => ∃ (i : Nat) (S : ByteArray), i <= n /\ v6 = .int .i64 (i : Nat) /\ v5 = .string S /\ Hid (S = strOf (esc false (s.take i))) /\ Hid (Below w.heap.size w wr)) (fun _ v6 _ => n - (intOf v6).toNat)
 case atStart => exact ⟨0, ⟨#[]⟩, by omega, rfl, rfl, Hd rfl, Hd (Below.refl _ _)⟩
 case round =>
  obtain ⟨i, S, hi, rfl, rfl, hS, hb⟩ := hrel
  by_cases hlt : i < n
  ·have i1 : decide ((i : Int) < (n : Int)) = true := by simp; omega
   have q1 : (i : Int) < (n : Int) := by omega
   obtain ⟨x, hx⟩ : ∃ x, s[i]? = some x := ⟨_, List.getElem?_eq_getElem (by rw [hn'.out]; exact hlt)⟩
   have hSz : S.size <= 6000000 := by
    have := esc_le6_ false (s.take i);rw [hS.out, strOf_size'];rw [List.length_take] at this;omega
   have hlt' : i < (strOf s).size := by omega
   have hgx := str_at hx hlt';have hc9 := x.toNat_lt;replace hx := Hd hx
   by_cases hxc : x = 38
   ·have q : (x.toNat : Int) = 38 := by rw [hxc]; rfl
    have hp : esc1 false x = [38, 97, 109, 112, 59] := by rw [hxc]; rfl
    obtain ⟨S1, hS1⟩ : ∃ S1, S ++ ⟨#[38, 97, 109, 112, 59]⟩ = S1 := ⟨_, rfl⟩;have e1 := fun w => run_string_add_sum (P := Tryz.prog) w S ⟨#[38, 97, 109, 112, 59]⟩ (by rw [show (ByteArray.mk #[38, 97, 109, 112, 59]).size = 5 from rfl]; omega)
    rw [hS1] at e1
    have hnext : Hid (S1 = strOf (esc false (s.take (i + 1)))) := Hd (by
     rw [<- hS1, hS.out, show (ByteArray.mk #[38, 97, 109, 112, 59]) = strOf [38, 97, 109, 112, 59] from rfl, strOf_add, take_snoc hx.out, esc_append, esc, esc, hp, List.append_nil])
    clear hp hS1 hxc;go_wp2_with fail;go_roundw
    case rel => exact ⟨i + 1, _, by omega, by go_num, rfl, hnext, hb⟩
    case measure => simp [intOf]; omega
   have n38 : ¬ x = 38 := hxc;clear hxc
   by_cases hxc : x = 60
   ·have q : (x.toNat : Int) = 60 := by rw [hxc]; rfl
    have hp : esc1 false x = [38, 108, 116, 59] := by rw [hxc]; rfl
    obtain ⟨S1, hS1⟩ : ∃ S1, S ++ ⟨#[38, 108, 116, 59]⟩ = S1 := ⟨_, rfl⟩;have e1 := fun w => run_string_add_sum (P := Tryz.prog) w S ⟨#[38, 108, 116, 59]⟩ (by rw [show (ByteArray.mk #[38, 108, 116, 59]).size = 4 from rfl]; omega)
    rw [hS1] at e1
    have hnext : Hid (S1 = strOf (esc false (s.take (i + 1)))) := Hd (by
     rw [<- hS1, hS.out, show (ByteArray.mk #[38, 108, 116, 59]) = strOf [38, 108, 116, 59] from rfl, strOf_add, take_snoc hx.out, esc_append, esc, esc, hp, List.append_nil])
    clear hp hS1 hxc;go_wp2_with fail;go_roundw
    case rel => exact ⟨i + 1, _, by omega, by go_num, rfl, hnext, hb⟩
    case measure => simp [intOf]; omega
   have n60 : ¬ x = 60 := hxc;clear hxc
   by_cases hxc : x = 13
   ·have q : (x.toNat : Int) = 13 := by rw [hxc]; rfl
    have hp : esc1 false x = [38, 35, 49, 51, 59] := by rw [hxc]; rfl
    obtain ⟨S1, hS1⟩ : ∃ S1, S ++ ⟨#[38, 35, 49, 51, 59]⟩ = S1 := ⟨_, rfl⟩;have e1 := fun w => run_string_add_sum (P := Tryz.prog) w S ⟨#[38, 35, 49, 51, 59]⟩ (by rw [show (ByteArray.mk #[38, 35, 49, 51, 59]).size = 5 from rfl]; omega)
    rw [hS1] at e1
    have hnext : Hid (S1 = strOf (esc false (s.take (i + 1)))) := Hd (by
     rw [<- hS1, hS.out, show (ByteArray.mk #[38, 35, 49, 51, 59]) = strOf [38, 35, 49, 51, 59] from rfl, strOf_add, take_snoc hx.out, esc_append, esc, esc, hp, List.append_nil])
    clear hp hS1 hxc;go_wp2_with fail;go_roundw
    case rel => exact ⟨i + 1, _, by omega, by go_num, rfl, hnext, hb⟩
    case measure => simp [intOf]; omega
   have n13 : ¬ x = 13 := hxc;clear hxc
   by_cases hxc : x = 62
   ·have q : (x.toNat : Int) = 62 := by rw [hxc]; rfl
    have hp : esc1 false x = [38, 103, 116, 59] := by rw [hxc]; rfl
    obtain ⟨S1, hS1⟩ : ∃ S1, S ++ ⟨#[38, 103, 116, 59]⟩ = S1 := ⟨_, rfl⟩;have e1 := fun w => run_string_add_sum (P := Tryz.prog) w S ⟨#[38, 103, 116, 59]⟩ (by rw [show (ByteArray.mk #[38, 103, 116, 59]).size = 4 from rfl]; omega)
    rw [hS1] at e1
    have hnext : Hid (S1 = strOf (esc false (s.take (i + 1)))) := Hd (by
     rw [<- hS1, hS.out, show (ByteArray.mk #[38, 103, 116, 59]) = strOf [38, 103, 116, 59] from rfl, strOf_add, take_snoc hx.out, esc_append, esc, esc, hp, List.append_nil])
    clear hp hS1 hxc;go_wp2_with fail;go_roundw
    case rel => exact ⟨i + 1, _, by omega, by go_num, rfl, hnext, hb⟩
    case measure => simp [intOf]; omega
   have n62 : ¬ x = 62 := hxc;clear hxc
   by_cases hxc : x = 34
   ·have q : (x.toNat : Int) = 34 := by rw [hxc]; rfl
    have hp : esc1 false x = [x] := by
     rw [hxc];rfl
    obtain ⟨S1, hS1⟩ : ∃ S1, S ++ strOf [x] = S1 := ⟨_, rfl⟩;have e1 := fun w => run_string_add_sum (P := Tryz.prog) w S (strOf [x]) (by rw [strOf_size']; simp only [List.length_cons, List.length_nil]; omega)
    rw [hS1] at e1
    have hex : (strOf s).extract i (i + 1) = strOf [x] := by
     rw [extract_str, Nat.add_sub_cancel_left];have := hx.out;obtain ⟨hl, rfl⟩ := List.getElem?_eq_some_iff.1 this;rw [List.drop_eq_getElem_cons hl];rfl
    have hnext : Hid (S1 = strOf (esc false (s.take (i + 1)))) := Hd (by
     rw [<- hS1, hS.out, strOf_add, take_snoc hx.out, esc_append, esc, esc, hp, List.append_nil])
    clear hp hS1 hxc;go_wp2_with fail;go_roundw
    case rel => exact ⟨i + 1, _, by omega, by go_num, rfl, hnext, hb⟩
    case measure => simp [intOf]; omega
   have n34 : ¬ x = 34 := hxc;clear hxc
   by_cases hxc : x = 9
   ·have q : (x.toNat : Int) = 9 := by rw [hxc]; rfl
    have hp : esc1 false x = [x] := by
     rw [hxc];rfl
    obtain ⟨S1, hS1⟩ : ∃ S1, S ++ strOf [x] = S1 := ⟨_, rfl⟩;have e1 := fun w => run_string_add_sum (P := Tryz.prog) w S (strOf [x]) (by rw [strOf_size']; simp only [List.length_cons, List.length_nil]; omega)
    rw [hS1] at e1
    have hex : (strOf s).extract i (i + 1) = strOf [x] := by
     rw [extract_str, Nat.add_sub_cancel_left];have := hx.out;obtain ⟨hl, rfl⟩ := List.getElem?_eq_some_iff.1 this;rw [List.drop_eq_getElem_cons hl];rfl
    have hnext : Hid (S1 = strOf (esc false (s.take (i + 1)))) := Hd (by
     rw [<- hS1, hS.out, strOf_add, take_snoc hx.out, esc_append, esc, esc, hp, List.append_nil])
    clear hp hS1 hxc;go_wp2_with fail;go_roundw
    case rel => exact ⟨i + 1, _, by omega, by go_num, rfl, hnext, hb⟩
    case measure => simp [intOf]; omega
   have n9 : ¬ x = 9 := hxc;clear hxc
   by_cases hxc : x = 10
   ·have q : (x.toNat : Int) = 10 := by rw [hxc]; rfl
    have hp : esc1 false x = [x] := by
     rw [hxc];rfl
    obtain ⟨S1, hS1⟩ : ∃ S1, S ++ strOf [x] = S1 := ⟨_, rfl⟩;have e1 := fun w => run_string_add_sum (P := Tryz.prog) w S (strOf [x]) (by rw [strOf_size']; simp only [List.length_cons, List.length_nil]; omega)
    rw [hS1] at e1
    have hex : (strOf s).extract i (i + 1) = strOf [x] := by
     rw [extract_str, Nat.add_sub_cancel_left];have := hx.out;obtain ⟨hl, rfl⟩ := List.getElem?_eq_some_iff.1 this;rw [List.drop_eq_getElem_cons hl];rfl
    have hnext : Hid (S1 = strOf (esc false (s.take (i + 1)))) := Hd (by
     rw [<- hS1, hS.out, strOf_add, take_snoc hx.out, esc_append, esc, esc, hp, List.append_nil])
    clear hp hS1 hxc;go_wp2_with fail;go_roundw
    case rel => exact ⟨i + 1, _, by omega, by go_num, rfl, hnext, hb⟩
    case measure => simp [intOf]; omega
   have n10 : ¬ x = 10 := hxc;clear hxc
   have hp : esc1 false x = [x] := by
    unfold esc1;rw [if_neg n38, if_neg n60, if_neg n13, if_neg (fun h => n62 h.1), if_neg (fun h => n34 h.1), if_neg (fun h => n9 h.1), if_neg (fun h => n10 h.1)]
   obtain ⟨S1, hS1⟩ : ∃ S1, S ++ strOf [x] = S1 := ⟨_, rfl⟩;have e1 := fun w => run_string_add_sum (P := Tryz.prog) w S (strOf [x]) (by rw [strOf_size']; simp only [List.length_cons, List.length_nil]; omega)
   rw [hS1] at e1
   have hex : (strOf s).extract i (i + 1) = strOf [x] := by
    rw [extract_str, Nat.add_sub_cancel_left];have := hx.out;obtain ⟨hl, rfl⟩ := List.getElem?_eq_some_iff.1 this;rw [List.drop_eq_getElem_cons hl];rfl
   have hnext : Hid (S1 = strOf (esc false (s.take (i + 1)))) := Hd (by
    rw [<- hS1, hS.out, strOf_add, take_snoc hx.out, esc_append, esc, esc, hp, List.append_nil])
   have k38 : ((x.toNat : Int) == 38) = false := by
    rw [beq_eq_false_iff_ne];intro e;exact n38 (UInt8.toNat_inj.1 (by rw [show (((38 : UInt8)).toNat) = 38 from rfl]; omega))
   have k60 : ((x.toNat : Int) == 60) = false := by
    rw [beq_eq_false_iff_ne];intro e;exact n60 (UInt8.toNat_inj.1 (by rw [show (((60 : UInt8)).toNat) = 60 from rfl]; omega))
   have k13 : ((x.toNat : Int) == 13) = false := by
    rw [beq_eq_false_iff_ne];intro e;exact n13 (UInt8.toNat_inj.1 (by rw [show (((13 : UInt8)).toNat) = 13 from rfl]; omega))
   have k62 : ((x.toNat : Int) == 62) = false := by
    rw [beq_eq_false_iff_ne];intro e;exact n62 (UInt8.toNat_inj.1 (by rw [show (((62 : UInt8)).toNat) = 62 from rfl]; omega))
   have k34 : ((x.toNat : Int) == 34) = false := by
    rw [beq_eq_false_iff_ne];intro e;exact n34 (UInt8.toNat_inj.1 (by rw [show (((34 : UInt8)).toNat) = 34 from rfl]; omega))
   have k9 : ((x.toNat : Int) == 9) = false := by
    rw [beq_eq_false_iff_ne];intro e;exact n9 (UInt8.toNat_inj.1 (by rw [show (((9 : UInt8)).toNat) = 9 from rfl]; omega))
   have k10 : ((x.toNat : Int) == 10) = false := by
    rw [beq_eq_false_iff_ne];intro e;exact n10 (UInt8.toNat_inj.1 (by rw [show (((10 : UInt8)).toNat) = 10 from rfl]; omega))
   clear hp hS1 n38 n60 n13 n62 n34 n9 n10;go_wp2_with fail;go_roundw
   case rel => exact ⟨i + 1, _, by omega, by go_num, rfl, hnext, hb⟩
   case measure => simp [intOf]; omega
  ·have hie : i = n := by omega
   subst hie;have i1 : decide ((i : Int) < (i : Int)) = false := by simp
   have hfin : Hid (S = strOf (esc false s)) := Hd (by
    have h9 := hS.out
    rwa [List.take_of_length_le (Nat.le_of_eq hn'.out)] at h9)
   clear hS;go_wp2_with fail
   (try simp only [Exit.inBlock, Exit.then])
   go_ret;exact ⟨by rw [hfin.out]; rfl, hb.out⟩
set_option maxHeartbeats 8000000 in
set_option maxRecDepth 100000 in
theorem resc_true (s : Tx) (hs : s.length <= 1000000) (w : World) :
  Calls Tryz.prog 57 #[.string (strOf s), .bool true] w fun e w' => e = .returned (.string (strOf (esc true s))) /\ Below w.heap.size w w' := by
 have hsz : (strOf s).size = s.length := strOf_size' s;obtain ⟨n, hn⟩ : ∃ n, s.length = n := ⟨_, rfl⟩;rw [hn] at hsz hs;have hn' := Hd hn;clear hn
 go_enter Tryz.func57, Tryz.ntmps57
 go_wp2_with fail
 go_loopw [5, 6] (fun v5 v6 wr => ∃ (i : Nat) (S : ByteArray), i <= n /\ v6 = .int .i64 (i : Nat) /\ v5 = .string S /\ Hid (S = strOf (esc true (s.take i))) /\ Hid (Below w.heap.size w wr)) (fun _ v6 _ => n - (intOf v6).toNat)
 case atStart => exact ⟨0, ⟨#[]⟩, by omega, rfl, rfl, Hd rfl, Hd (Below.refl _ _)⟩
 case round =>
  obtain ⟨i, S, hi, rfl, rfl, hS, hb⟩ := hrel
  by_cases hlt : i < n
  ·have i1 : decide ((i : Int) < (n : Int)) = true := by simp; omega
   have q1 : (i : Int) < (n : Int) := by omega
   obtain ⟨x, hx⟩ : ∃ x, s[i]? = some x := ⟨_, List.getElem?_eq_getElem (by rw [hn'.out]; exact hlt)⟩
   have hSz : S.size <= 6000000 := by
    have := esc_le6_ true (s.take i);rw [hS.out, strOf_size'];rw [List.length_take] at this;omega
   have hlt' : i < (strOf s).size := by omega
   have hgx := str_at hx hlt';have hc9 := x.toNat_lt;replace hx := Hd hx
   by_cases hxc : x = 38
   ·have q : (x.toNat : Int) = 38 := by rw [hxc]; rfl
    have hp : esc1 true x = [38, 97, 109, 112, 59] := by rw [hxc]; rfl
    obtain ⟨S1, hS1⟩ : ∃ S1, S ++ ⟨#[38, 97, 109, 112, 59]⟩ = S1 := ⟨_, rfl⟩;have e1 := fun w => run_string_add_sum (P := Tryz.prog) w S ⟨#[38, 97, 109, 112, 59]⟩ (by rw [show (ByteArray.mk #[38, 97, 109, 112, 59]).size = 5 from rfl]; omega)
    rw [hS1] at e1
    have hnext : Hid (S1 = strOf (esc true (s.take (i + 1)))) := Hd (by
     rw [<- hS1, hS.out, show (ByteArray.mk #[38, 97, 109, 112, 59]) = strOf [38, 97, 109, 112, 59] from rfl, strOf_add, take_snoc hx.out, esc_append, esc, esc, hp, List.append_nil])
    clear hp hS1 hxc;go_wp2_with fail;go_roundw
    case rel => exact ⟨i + 1, _, by omega, by go_num, rfl, hnext, hb⟩
    case measure => simp [intOf]; omega
   have n38 : ¬ x = 38 := hxc;clear hxc
   by_cases hxc : x = 60
   ·have q : (x.toNat : Int) = 60 := by rw [hxc]; rfl
    have hp : esc1 true x = [38, 108, 116, 59] := by rw [hxc]; rfl
    obtain ⟨S1, hS1⟩ : ∃ S1, S ++ ⟨#[38, 108, 116, 59]⟩ = S1 := ⟨_, rfl⟩;have e1 := fun w => run_string_add_sum (P := Tryz.prog) w S ⟨#[38, 108, 116, 59]⟩ (by rw [show (ByteArray.mk #[38, 108, 116, 59]).size = 4 from rfl]; omega)
    rw [hS1] at e1
    have hnext : Hid (S1 = strOf (esc true (s.take (i + 1)))) := Hd (by
     rw [<- hS1, hS.out, show (ByteArray.mk #[38, 108, 116, 59]) = strOf [38, 108, 116, 59] from rfl, strOf_add, take_snoc hx.out, esc_append, esc, esc, hp, List.append_nil])
    clear hp hS1 hxc;go_wp2_with fail;go_roundw
    case rel => exact ⟨i + 1, _, by omega, by go_num, rfl, hnext, hb⟩
    case measure => simp [intOf]; omega
   have n60 : ¬ x = 60 := hxc;clear hxc
   by_cases hxc : x = 13
   ·have q : (x.toNat : Int) = 13 := by rw [hxc]; rfl
    have hp : esc1 true x = [38, 35, 49, 51, 59] := by rw [hxc]; rfl
    obtain ⟨S1, hS1⟩ : ∃ S1, S ++ ⟨#[38, 35, 49, 51, 59]⟩ = S1 := ⟨_, rfl⟩;have e1 := fun w => run_string_add_sum (P := Tryz.prog) w S ⟨#[38, 35, 49, 51, 59]⟩ (by rw [show (ByteArray.mk #[38, 35, 49, 51, 59]).size = 5 from rfl]; omega)
    rw [hS1] at e1
    have hnext : Hid (S1 = strOf (esc true (s.take (i + 1)))) := Hd (by
     rw [<- hS1, hS.out, show (ByteArray.mk #[38, 35, 49, 51, 59]) = strOf [38, 35, 49, 51, 59] from rfl, strOf_add, take_snoc hx.out, esc_append, esc, esc, hp, List.append_nil])
    clear hp hS1 hxc;go_wp2_with fail;go_roundw
    case rel => exact ⟨i + 1, _, by omega, by go_num, rfl, hnext, hb⟩
    case measure => simp [intOf]; omega
   have n13 : ¬ x = 13 := hxc;clear hxc
   by_cases hxc : x = 62
   ·have q : (x.toNat : Int) = 62 := by rw [hxc]; rfl
    have hp : esc1 true x = [x] := by
     rw [hxc];rfl
    obtain ⟨S1, hS1⟩ : ∃ S1, S ++ strOf [x] = S1 := ⟨_, rfl⟩;have e1 := fun w => run_string_add_sum (P := Tryz.prog) w S (strOf [x]) (by rw [strOf_size']; simp only [List.length_cons, List.length_nil]; omega)
    rw [hS1] at e1
    have hex : (strOf s).extract i (i + 1) = strOf [x] := by
     rw [extract_str, Nat.add_sub_cancel_left];have := hx.out;obtain ⟨hl, rfl⟩ := List.getElem?_eq_some_iff.1 this;rw [List.drop_eq_getElem_cons hl];rfl
    have hnext : Hid (S1 = strOf (esc true (s.take (i + 1)))) := Hd (by
     rw [<- hS1, hS.out, strOf_add, take_snoc hx.out, esc_append, esc, esc, hp, List.append_nil])
    clear hp hS1 hxc;go_wp2_with fail;go_roundw
    case rel => exact ⟨i + 1, _, by omega, by go_num, rfl, hnext, hb⟩
    case measure => simp [intOf]; omega
   have n62 : ¬ x = 62 := hxc;clear hxc
   by_cases hxc : x = 34
   ·have q : (x.toNat : Int) = 34 := by rw [hxc]; rfl
    have hp : esc1 true x = [38, 113, 117, 111, 116, 59] := by rw [hxc]; rfl
    obtain ⟨S1, hS1⟩ : ∃ S1, S ++ ⟨#[38, 113, 117, 111, 116, 59]⟩ = S1 := ⟨_, rfl⟩;have e1 := fun w => run_string_add_sum (P := Tryz.prog) w S ⟨#[38, 113, 117, 111, 116, 59]⟩ (by rw [show (ByteArray.mk #[38, 113, 117, 111, 116, 59]).size = 6 from rfl]; omega)
    rw [hS1] at e1
    have hnext : Hid (S1 = strOf (esc true (s.take (i + 1)))) := Hd (by
     rw [<- hS1, hS.out, show (ByteArray.mk #[38, 113, 117, 111, 116, 59]) = strOf [38, 113, 117, 111, 116, 59] from rfl, strOf_add, take_snoc hx.out, esc_append, esc, esc, hp, List.append_nil])
    clear hp hS1 hxc;go_wp2_with fail;go_roundw
    case rel => exact ⟨i + 1, _, by omega, by go_num, rfl, hnext, hb⟩
    case measure => simp [intOf]; omega
   have n34 : ¬ x = 34 := hxc;clear hxc
   by_cases hxc : x = 9
   ·have q : (x.toNat : Int) = 9 := by rw [hxc]; rfl
    have hp : esc1 true x = [38, 35, 57, 59] := by rw [hxc]; rfl
    obtain ⟨S1, hS1⟩ : ∃ S1, S ++ ⟨#[38, 35, 57, 59]⟩ = S1 := ⟨_, rfl⟩;have e1 := fun w => run_string_add_sum (P := Tryz.prog) w S ⟨#[38, 35, 57, 59]⟩ (by rw [show (ByteArray.mk #[38, 35, 57, 59]).size = 4 from rfl]; omega)
    rw [hS1] at e1
    have hnext : Hid (S1 = strOf (esc true (s.take (i + 1)))) := Hd (by
     rw [<- hS1, hS.out, show (ByteArray.mk #[38, 35, 57, 59]) = strOf [38, 35, 57, 59] from rfl, strOf_add, take_snoc hx.out, esc_append, esc, esc, hp, List.append_nil])
    clear hp hS1 hxc;go_wp2_with fail;go_roundw
    case rel => exact ⟨i + 1, _, by omega, by go_num, rfl, hnext, hb⟩
    case measure => simp [intOf]; omega
   have n9 : ¬ x = 9 := hxc;clear hxc
   by_cases hxc : x = 10
   ·have q : (x.toNat : Int) = 10 := by rw [hxc]; rfl
    have hp : esc1 true x = [38, 35, 49, 48, 59] := by rw [hxc]; rfl
    obtain ⟨S1, hS1⟩ : ∃ S1, S ++ ⟨#[38, 35, 49, 48, 59]⟩ = S1 := ⟨_, rfl⟩;have e1 := fun w => run_string_add_sum (P := Tryz.prog) w S ⟨#[38, 35, 49, 48, 59]⟩ (by rw [show (ByteArray.mk #[38, 35, 49, 48, 59]).size = 5 from rfl]; omega)
    rw [hS1] at e1
    have hnext : Hid (S1 = strOf (esc true (s.take (i + 1)))) := Hd (by
     rw [<- hS1, hS.out, show (ByteArray.mk #[38, 35, 49, 48, 59]) = strOf [38, 35, 49, 48, 59] from rfl, strOf_add, take_snoc hx.out, esc_append, esc, esc, hp, List.append_nil])
    clear hp hS1 hxc;go_wp2_with fail;go_roundw
    case rel => exact ⟨i + 1, _, by omega, by go_num, rfl, hnext, hb⟩
    case measure => simp [intOf]; omega
   have n10 : ¬ x = 10 := hxc;clear hxc
   have hp : esc1 true x = [x] := by
    unfold esc1;rw [if_neg n38, if_neg n60, if_neg n13, if_neg (fun h => n62 h.1), if_neg (fun h => n34 h.1), if_neg (fun h => n9 h.1), if_neg (fun h => n10 h.1)]
   obtain ⟨S1, hS1⟩ : ∃ S1, S ++ strOf [x] = S1 := ⟨_, rfl⟩;have e1 := fun w => run_string_add_sum (P := Tryz.prog) w S (strOf [x]) (by rw [strOf_size']; simp only [List.length_cons, List.length_nil]; omega)
   rw [hS1] at e1
   have hex : (strOf s).extract i (i + 1) = strOf [x] := by
    rw [extract_str, Nat.add_sub_cancel_left];have := hx.out;obtain ⟨hl, rfl⟩ := List.getElem?_eq_some_iff.1 this;rw [List.drop_eq_getElem_cons hl];rfl
   have hnext : Hid (S1 = strOf (esc true (s.take (i + 1)))) := Hd (by
    rw [<- hS1, hS.out, strOf_add, take_snoc hx.out, esc_append, esc, esc, hp, List.append_nil])
   have k38 : ((x.toNat : Int) == 38) = false := by
    rw [beq_eq_false_iff_ne];intro e;exact n38 (UInt8.toNat_inj.1 (by rw [show (((38 : UInt8)).toNat) = 38 from rfl]; omega))
   have k60 : ((x.toNat : Int) == 60) = false := by
    rw [beq_eq_false_iff_ne];intro e;exact n60 (UInt8.toNat_inj.1 (by rw [show (((60 : UInt8)).toNat) = 60 from rfl]; omega))
   have k13 : ((x.toNat : Int) == 13) = false := by
    rw [beq_eq_false_iff_ne];intro e;exact n13 (UInt8.toNat_inj.1 (by rw [show (((13 : UInt8)).toNat) = 13 from rfl]; omega))
   have k62 : ((x.toNat : Int) == 62) = false := by
    rw [beq_eq_false_iff_ne];intro e;exact n62 (UInt8.toNat_inj.1 (by rw [show (((62 : UInt8)).toNat) = 62 from rfl]; omega))
   have k34 : ((x.toNat : Int) == 34) = false := by
    rw [beq_eq_false_iff_ne];intro e;exact n34 (UInt8.toNat_inj.1 (by rw [show (((34 : UInt8)).toNat) = 34 from rfl]; omega))
   have k9 : ((x.toNat : Int) == 9) = false := by
    rw [beq_eq_false_iff_ne];intro e;exact n9 (UInt8.toNat_inj.1 (by rw [show (((9 : UInt8)).toNat) = 9 from rfl]; omega))
   have k10 : ((x.toNat : Int) == 10) = false := by
    rw [beq_eq_false_iff_ne];intro e;exact n10 (UInt8.toNat_inj.1 (by rw [show (((10 : UInt8)).toNat) = 10 from rfl]; omega))
   clear hp hS1 n38 n60 n13 n62 n34 n9 n10;go_wp2_with fail;go_roundw
   case rel => exact ⟨i + 1, _, by omega, by go_num, rfl, hnext, hb⟩
   case measure => simp [intOf]; omega
  ·have hie : i = n := by omega
   subst hie;have i1 : decide ((i : Int) < (i : Int)) = false := by simp
   have hfin : Hid (S = strOf (esc true s)) := Hd (by
    have h9 := hS.out
    rwa [List.take_of_length_le (Nat.le_of_eq hn'.out)] at h9)
   clear hS;go_wp2_with fail
   (try simp only [Exit.inBlock, Exit.then])
   go_ret;exact ⟨by rw [hfin.out]; rfl, hb.out⟩
end Go.Proofs.YtokdnhdfmgfkeaaGreatDoor.Xp
end

section
namespace Go.Proofs.YtokdnhdfmgfkeaaGreatDoor.Xp
open Go.RowKit UtfW Xl Xo Xt
theorem miscOk_at {l : List Nd} {i : Nat} {x : Nd} (h : l[i]? = some x) : miscOk (l.drop i) = ((decide (x.kind = 3) || decide (x.kind = 4)) && fairN x && miscOk (l.drop (i + 1))) := by
 obtain ⟨hl, e⟩ := List.getElem?_eq_some_iff.1 h;rw [List.drop_eq_getElem_cons hl, e, miscOk]
set_option maxHeartbeats 4000000 in
set_option maxRecDepth 100000 in
theorem misc_any (X : Nat -> Prop) (w : World) (hU : Uv w) (A : Option Addr) (n c : Nat) (l : List Nd) (hS : Sq (NdE X) 5 w A n c l) (hX : ∀ j, X j -> j < w.heap.size) (hsm : smL l) :
  Calls Tryz.prog 41 #[.slice A n c] w fun e w' => e = .returned (.bool (miscOk l)) /\ Below w.heap.size w w' := by
 have hln := Hd hS.len;have hlm : n <= 9223372036854775807 := Nat.le_trans hS.le hS.max;have hS' := Hd hS;have hX' := Hd hX;have hU' := Hd hU;have hF' := Hd (fun (i : Nat) x (hx : l[i]? = some x) => Fair_any _ X x (Nat.le_refl _) (smL_mem hsm hx));obtain ⟨R, hR⟩ : ∃ R, miscOk l = R := ⟨_, rfl⟩;rw [hR];have hR' := Hd hR;clear hS hX hU hR hsm
 go_enter Tryz.func41, Tryz.ntmps41
 go_wp2_with fail
 go_loopw [7] (fun vi wr => ∃ (i : Nat), i <= n /\ vi = .int .i64 (i : Nat) /\ Hid (miscOk (l.drop i) = R) /\ Hid (Below w.heap.size w wr)) (fun vi _ => n - (intOf vi).toNat)
 case atStart => exact ⟨0, Nat.zero_le _, rfl, hR', Hd (Below.refl _ _)⟩
 case round =>
  obtain ⟨i, hi, rfl, hok, hb⟩ := hrel
  by_cases hlt : i < n
  ·have i1 : decide ((i : Int) < (n : Int)) = true := by simp; omega
   have q1 : (i : Int) < (n : Int) := by omega
   have hX1 : ∀ j, X j -> j < wr.heap.size := fun j hj => Nat.lt_of_lt_of_le (hX'.out j hj) hb.out.size
   have hKr := sq_keep hS'.out hb.out (fun vs x h => NdI.later h hX'.out hb.out);obtain ⟨b1, off1, x, vs1, rfl, _, hx1, _, hv1, hc1⟩ := hKr.at_ hlt;have hfx := hF'.out i x hx1;have hok9 := hok.out;rw [miscOk_at hx1] at hok9;obtain ⟨kx, nx_, tx_, ax, kx_⟩ := x;obtain ⟨Ax, cax, A2x, c2x, rfl, -⟩ := hv1.cells;have m0 := hc1 0 _ rfl;have m1 := hc1 1 _ rfl;have m2 := hc1 2 _ rfl;have m3 := hc1 3 _ rfl;have m4 := hc1 4 _ rfl;rw [Nat.add_zero] at m0;have hbt := below_alloc wr (.cells #[.int .i64 kx, .string (strOf nx_), .string (strOf tx_), .slice Ax ax.length cax, .slice A2x kx_.length c2x] 25);have hrec := Hd (hfx _ (wr.alloc (.cells #[.int .i64 kx, .string (strOf nx_), .string (strOf tx_), .slice Ax ax.length cax, .slice A2x kx_.length c2x] 25)) (hU'.out.below (hb.out.trans (hbt.mono hb.out.size))) (NdI.later hv1 hX1 hbt) (fun j hj => Nat.lt_of_lt_of_le (hX1 j hj) hbt.size));have hbb := Xp.tr_ hb hbt;obtain ⟨FX, hFX⟩ : ∃ b, fairN (.mk kx nx_ tx_ ax kx_) = b := ⟨_, rfl⟩;rw [hFX] at hok9 hrec;have hok9 : Hid (((decide (kx = 3) || decide (kx = 4)) && FX && miscOk (l.drop (i + 1))) = R) := Hd hok9;clear hok hX1 hKr hc1 hx1 hfx hv1 hbt hFX
   by_cases h3 : kx = 3
   ·have k3 : (kx != 3) = false := by rw [h3]; rfl
    have hok8 : Hid ((FX && miscOk (l.drop (i + 1))) = R) := Hd (by rw [<- hok9.out]; simp [h3]);clear hok9 h3;go_wp2_with fail;refine hrec.out.mono ?_;rintro e w5 ⟨rfl, hb5⟩;have hw5 := Xp.tr_ hbb hb5;clear hb5 m0 m1 m2 m3 m4 hrec hbb
    cases FX with
    | false =>
     have hRf : Hid (R = false) := Hd (by rw [<- hok8.out]; simp);clear hok8;go_wp2_with fail
     (try simp only [Exit.inBlock, Exit.then])
     go_ret;exact ⟨by rw [hRf.out]; rfl, hw5.out⟩
    | true =>
     have hnext : Hid (miscOk (l.drop (i + 1)) = R) := Hd (by rw [<- hok8.out]; simp);clear hok8;go_wp2_with fail;go_roundw
     case rel => exact ⟨i + 1, by omega, by go_num, hnext, hw5⟩
     case measure => simp [intOf]; omega
   ·have k3 : (kx != 3) = true := by simpa using h3
    by_cases h4 : kx = 4
    ·have k4 : (kx != 4) = false := by rw [h4]; rfl
     have hok8 : Hid ((FX && miscOk (l.drop (i + 1))) = R) := Hd (by rw [<- hok9.out]; simp [h4]);clear hok9 h3 h4;go_wp2_with fail;refine hrec.out.mono ?_;rintro e w5 ⟨rfl, hb5⟩;have hw5 := Xp.tr_ hbb hb5;clear hb5 m0 m1 m2 m3 m4 hrec hbb
     cases FX with
     | false =>
      have hRf : Hid (R = false) := Hd (by rw [<- hok8.out]; simp);clear hok8;go_wp2_with fail
      (try simp only [Exit.inBlock, Exit.then])
      go_ret;exact ⟨by rw [hRf.out]; rfl, hw5.out⟩
     | true =>
      have hnext : Hid (miscOk (l.drop (i + 1)) = R) := Hd (by rw [<- hok8.out]; simp);clear hok8;go_wp2_with fail;go_roundw
      case rel => exact ⟨i + 1, by omega, by go_num, hnext, hw5⟩
      case measure => simp [intOf]; omega
    ·have k4 : (kx != 4) = true := (by simpa using h4);have hRf : Hid (R = false) := Hd (by rw [<- hok9.out]; simp [h3, h4]);clear hok9 h3 h4 hrec;go_wp2_with fail
     (try simp only [Exit.inBlock, Exit.then])
     go_ret;exact ⟨by rw [hRf.out]; rfl, hbb.out⟩
  ·have hie : i = n := by omega
   subst hie;have i1 : decide ((i : Int) < (i : Int)) = false := by simp
   have hRt : Hid (R = true) := Hd (by
    have h9 := hok.out;rw [List.drop_eq_nil_of_le (by rw [hln.out]; exact Nat.le_refl _)] at h9;rw [<- h9]
    rfl)
   clear hok;go_wp2_with fail
   (try simp only [Exit.inBlock, Exit.then])
   go_ret;exact ⟨by rw [hRt.out]; rfl, hb.out⟩
end Go.Proofs.YtokdnhdfmgfkeaaGreatDoor.Xp
end

section
namespace Go.Proofs.YtokdnhdfmgfkeaaGreatDoor.Xp
open Go.RowKit UtfW Xl Xo
set_option maxHeartbeats 2000000 in
set_option maxRecDepth 100000 in
theorem string_any (b : Nat) (v : Value) (l : Tx) (w : World) (h : Pr b v l w) (hlen : l.length <= 100000000000000) :
  Calls Tryz.prog 59 #[.pointer (some ⟨b, 0, none⟩)] w fun e w' => e = .returned (.string (strOf l)) /\ Below b w w' := by
 obtain ⟨p, hbk, -⟩ := h.blk;have hlt := h.lt
 by_cases h0 : l = []
 ·have hv := h.nil h0;subst hv;subst h0;have hUS : ∀ W : World, (Builtin.unsafeString_ #[118, 3] 9 #[.pointer none, .int .i64 0]).run Tryz.prog W = .ok (.string .empty) W := fun W => Lib.run_unsafeString_none W _ _ _ none
  have hSD : ∀ W : World, (Builtin.unsafeSliceData_ #[41] 118 #[.slice none 0 0]).run Tryz.prog W = .ok (.pointer none) W := fun W => rfl
  have c1 : w.drew.cell? ⟨b, 1, none⟩ = some (.slice none 0 0) := cell_blk (w := w.drew) hbk rfl;clear h hbk
  go_enter Tryz.func59, Tryz.ntmps59
  go_wp2_with fail;have mixed : Tryz.prog.follows Departure.mixedOrders = true := by kernel_rfl
  go_region_o
  all_goals (go_wp2_with fail; go_ret; exact ⟨rfl, Below.drew (Below.refl b w)⟩)
 ·have hown := h.own;have hl0 : l.length ≠ 0 := by simpa using h0
  obtain ⟨g, cap, cur, rfl, hbg, hg, hnc, hcm, hcs, htake⟩ : ∃ g cap cur, v = .slice (some ⟨g, 0, none⟩) l.length cap /\ b <= g /\ w.heap[g]? = some (.cells cur 5 (0, 0)) /\ l.length <= cap /\ cap <= maxLen /\ cur.size = cap * 1 /\ cur.toList.take (l.length * 1) = bv l := by
   rcases hown.2 with ⟨_, hz⟩ | ⟨g, cap, cur, hv, r⟩
   ·exact absurd hz hl0
   ·exact ⟨g, cap, cur, hv, r⟩
  have c1 : w.drew.cell? ⟨b, 1, none⟩ = some (.slice (some ⟨g, 0, none⟩) l.length cap) := cell_blk (w := w.drew) hbk rfl
  have hSD : (Builtin.unsafeSliceData_ #[41] 118 #[.slice (some ⟨g, 0, none⟩) l.length cap]).run Tryz.prog w.drew = .ok (.pointer (some ⟨g, 0, none⟩)) w.drew :=
   Lib.run_unsafeSliceData_row _ _ _ _ _ _ (by omega)
  have hUS : (Builtin.unsafeString_ #[118, 3] 9 #[.pointer (some ⟨g, 0, none⟩), .int .i64 l.length]).run Tryz.prog w.drew = .ok (.string (strOf l)) (w.drew.freeze ⟨g, 0, none⟩ l.length) := by
   refine Lib.run_unsafeString_row w.drew 118 3 9 5 Tryz.underlying118 (by kernel_rfl) g cur.size (by have hg' : w.drew.heap[g]? = some (.cells cur 5 (0, 0)) := hg; simp [World.shape?, hg']) l h0 (by omega) (by unfold maxLen at hcm; omega) ?_;intro j x hx;have := World.ownsRow.cells (g := g) hown rfl j (.int .u8 x.toNat) (by unfold bv; simp [hx]);exact this
  have hlg : Hid (b <= g) := Hd hbg;clear h hbk hown hg hnc hcm hcs htake hbg h0 hl0
  go_enter Tryz.func59, Tryz.ntmps59
  go_wp2_with fail;have mixed : Tryz.prog.follows Departure.mixedOrders = true := by kernel_rfl
  go_region_o
  all_goals (go_wp2_with fail; go_ret; exact ⟨rfl, Lib.below_freeze (Below.drew (Below.refl b w)) (p := ⟨g, 0, none⟩) hlg.out _⟩)
end Go.Proofs.YtokdnhdfmgfkeaaGreatDoor.Xp
end

section
namespace Go.Proofs.YtokdnhdfmgfkeaaGreatDoor.Xp
open Go.RowKit UtfW Xl Xo
theorem rd_new (w : World) (xs : List Value) (E : TypeId) (n : Nat) (hn : xs.length = n) (hm : n <= 9223372036854775807) : Rd (w.alloc (.cells xs.toArray E)) (some ⟨w.heap.size, 0, none⟩) n n xs := by
 have h := heap_alloc_new w (.cells xs.toArray E);refine ⟨hn, Nat.le_refl _, hm, fun h => (by cases h), fun hp => ⟨w.heap.size, 0, rfl, (Array.getElem?_eq_some_iff.1 h).1, fun i x hx => ?_⟩⟩;simp only [World.cell?, h, Nat.zero_add]
 simpa using hx
def PrP (b : Nat) (v : Value) (w : World) (l : Tx) (e : Ending) (w' : World) : Prop := (∃ r, e = .returned r) /\ ∃ v', Pr b v' l w' /\ Wk b v w v' w'
set_option maxHeartbeats 2000000 in
set_option maxRecDepth 100000 in
theorem put_any (b : Nat) (v : Value) (l : Tx) (w : World) (A : Option Addr) (n c : Nat) (ss : List Tx) (h : Pr b v l w) (hS : Rd w A n c (ss.map fun s => .string (strOf s))) (hA : ∀ a, A = some a -> 0 < n -> a.block ≠ b /\ v.ownBlock ≠ some a.block) (hlen : (l ++ ss.flatten).length <= 100000000000000) :
  Calls Tryz.prog 89 #[.pointer (some ⟨b, 0, none⟩), .slice A n c] w (PrP b v w (l ++ ss.flatten)) := by
 have hln := hS.len;rw [List.length_map] at hln;have hle := hS.le;have hmx := hS.max;have hl := Hd hln;have hS' := Hd hS;have h' := Hd h;have hA' := Hd hA;have hlen' := Hd hlen;clear hS h hA hlen hln
 go_enter Tryz.func89, Tryz.ntmps89
 go_wp2_with fail
 go_loopw [8] (fun vi wr => ∃ i : Nat, i <= n /\ vi = .int .i64 (i : Nat) /\ Hid (∃ v1, Pr b v1 (l ++ (ss.take i).flatten) wr /\ Wk b v w v1 wr)) (fun vi _ => n - (intOf vi).toNat)
 case atStart => exact ⟨0, Nat.zero_le _, rfl, Hd ⟨v, by simpa using h'.out, Wk.refl _ _ _⟩⟩
 case round =>
  obtain ⟨i, hi, rfl, hst⟩ := hrel
  by_cases hlt : i < n
  ·have i1 : decide ((i : Int) < (n : Int)) = true := by simp; omega
   have q1 : (i : Int) < (n : Int) := by omega
   obtain ⟨v1, hp1, hw1⟩ := hst.out;obtain ⟨bk, off, u, rfl, hbk, hu, hc⟩ := hS'.out.at_ hlt;obtain ⟨n1, n2⟩ := hA'.out _ rfl (by omega);have hsame : wr.heap[bk]? = w.heap[bk]? := hw1.keep bk hbk n1 n2;have hc' : wr.cell? ⟨bk, off + i, none⟩ = some u := (Xt.cell_same hsame).trans hc;rw [List.getElem?_map, Option.map_eq_some_iff] at hu;obtain ⟨s, hs, rfl⟩ := hu;have hnext : (ss.take (i + 1)).flatten = (ss.take i).flatten ++ s := by rw [take_snoc hs, List.flatten_append]; simp
   have hl9 : (l ++ (ss.take i).flatten).length + s.length <= 100000000000000 := by
    have e : ss.flatten = (ss.take (i + 1)).flatten ++ (ss.drop (i + 1)).flatten := (by rw [<- List.flatten_append, List.take_append_drop]);have h9 := hlen'.out;rw [e, hnext] at h9;simp only [List.length_append] at h9 ⊢;omega
   have hwr := Hd (write_any b v1 (l ++ (ss.take i).flatten) s wr hp1 hl9);have hw1' := Hd hw1;have hnext' := Hd hnext;clear hp1 hw1 hst hnext hl9 hc hs hsame n1 n2 hbk;go_wp2_with fail;refine hwr.out.mono ?_;rintro e w5 ⟨⟨r, rfl⟩, v2, hp2, hw2⟩;have hfin : Hid (∃ v1, Pr b v1 (l ++ (ss.take (i + 1)).flatten) w5 /\ Wk b v w v1 w5) := Hd ⟨v2, by rw [hnext'.out, <- List.append_assoc]; exact hp2, hw1'.out.trans hw2⟩;clear hp2 hw2 hc';go_wp2_with fail;go_roundw
   case rel => exact ⟨i + 1, by omega, by go_num, hfin⟩
   case measure => simp [intOf]; omega
  ·have hie : i = n := by omega
   subst hie;have i1 : decide ((i : Int) < (i : Int)) = false := by simp
   have hfin : Hid (∃ v1, Pr b v1 (l ++ ss.flatten) wr /\ Wk b v w v1 wr) := Hd (by
    have h9 := hst.out
    rwa [List.take_of_length_le (by rw [hl.out]; exact Nat.le_refl _)] at h9)
   go_wp2_with fail
   go_end0
   exact ⟨⟨_, rfl⟩, hfin.out⟩
set_option maxHeartbeats 2000000 in
set_option maxRecDepth 100000 in
theorem escaped_any (c : UInt8) (value : Bool) (w : World) :
  Calls Tryz.prog 123 #[.int .u8 (c.toNat : Nat), .bool value] w fun e w' => e = .returned (.string (strOf (esc1 value c))) /\ Below w.heap.size w w' := by
 cases value with
 | false =>
  by_cases h38 : c = 38
  ·have j38 : ((c.toNat : Int) == 38) = true := by rw [h38]; rfl
   have j60 : ((c.toNat : Int) == 60) = false := by rw [h38]; rfl
   have j13 : ((c.toNat : Int) == 13) = false := by rw [h38]; rfl
   have j62 : ((c.toNat : Int) == 62) = false := by rw [h38]; rfl
   have j34 : ((c.toNat : Int) == 34) = false := by rw [h38]; rfl
   have j9 : ((c.toNat : Int) == 9) = false := by rw [h38]; rfl
   have j10 : ((c.toNat : Int) == 10) = false := by rw [h38]; rfl
   have he : Hid (esc1 false c = esc1 false 38) := Hd (by rw [h38]);clear h38
   go_enter Tryz.func123, Tryz.ntmps123
   go_wp2_with fail;go_ret;exact ⟨by rw [he.out]; rfl, Below.refl _ _⟩
  by_cases h60 : c = 60
  ·have j38 : ((c.toNat : Int) == 38) = false := by rw [show (38 : Int) = ((38 : UInt8).toNat : Int) from rfl, byte_eq, decide_eq_false h38]
   have j60 : ((c.toNat : Int) == 60) = true := by rw [h60]; rfl
   have j13 : ((c.toNat : Int) == 13) = false := by rw [h60]; rfl
   have j62 : ((c.toNat : Int) == 62) = false := by rw [h60]; rfl
   have j34 : ((c.toNat : Int) == 34) = false := by rw [h60]; rfl
   have j9 : ((c.toNat : Int) == 9) = false := by rw [h60]; rfl
   have j10 : ((c.toNat : Int) == 10) = false := by rw [h60]; rfl
   have he : Hid (esc1 false c = esc1 false 60) := Hd (by rw [h60]);clear h38 h60
   go_enter Tryz.func123, Tryz.ntmps123
   go_wp2_with fail;go_ret;exact ⟨by rw [he.out]; rfl, Below.refl _ _⟩
  by_cases h13 : c = 13
  ·have j38 : ((c.toNat : Int) == 38) = false := by rw [show (38 : Int) = ((38 : UInt8).toNat : Int) from rfl, byte_eq, decide_eq_false h38]
   have j60 : ((c.toNat : Int) == 60) = false := by rw [show (60 : Int) = ((60 : UInt8).toNat : Int) from rfl, byte_eq, decide_eq_false h60]
   have j13 : ((c.toNat : Int) == 13) = true := by rw [h13]; rfl
   have j62 : ((c.toNat : Int) == 62) = false := by rw [h13]; rfl
   have j34 : ((c.toNat : Int) == 34) = false := by rw [h13]; rfl
   have j9 : ((c.toNat : Int) == 9) = false := by rw [h13]; rfl
   have j10 : ((c.toNat : Int) == 10) = false := by rw [h13]; rfl
   have he : Hid (esc1 false c = esc1 false 13) := Hd (by rw [h13]);clear h38 h60 h13
   go_enter Tryz.func123, Tryz.ntmps123
   go_wp2_with fail;go_ret;exact ⟨by rw [he.out]; rfl, Below.refl _ _⟩
  by_cases h62 : c = 62
  ·have j38 : ((c.toNat : Int) == 38) = false := by rw [show (38 : Int) = ((38 : UInt8).toNat : Int) from rfl, byte_eq, decide_eq_false h38]
   have j60 : ((c.toNat : Int) == 60) = false := by rw [show (60 : Int) = ((60 : UInt8).toNat : Int) from rfl, byte_eq, decide_eq_false h60]
   have j13 : ((c.toNat : Int) == 13) = false := by rw [show (13 : Int) = ((13 : UInt8).toNat : Int) from rfl, byte_eq, decide_eq_false h13]
   have j62 : ((c.toNat : Int) == 62) = true := by rw [h62]; rfl
   have j34 : ((c.toNat : Int) == 34) = false := by rw [h62]; rfl
   have j9 : ((c.toNat : Int) == 9) = false := by rw [h62]; rfl
   have j10 : ((c.toNat : Int) == 10) = false := by rw [h62]; rfl
   have he : Hid (esc1 false c = esc1 false 62) := Hd (by rw [h62]);clear h38 h60 h13 h62
   go_enter Tryz.func123, Tryz.ntmps123
   go_wp2_with fail;go_ret;exact ⟨by rw [he.out]; rfl, Below.refl _ _⟩
  by_cases h34 : c = 34
  ·have j38 : ((c.toNat : Int) == 38) = false := by rw [show (38 : Int) = ((38 : UInt8).toNat : Int) from rfl, byte_eq, decide_eq_false h38]
   have j60 : ((c.toNat : Int) == 60) = false := by rw [show (60 : Int) = ((60 : UInt8).toNat : Int) from rfl, byte_eq, decide_eq_false h60]
   have j13 : ((c.toNat : Int) == 13) = false := by rw [show (13 : Int) = ((13 : UInt8).toNat : Int) from rfl, byte_eq, decide_eq_false h13]
   have j62 : ((c.toNat : Int) == 62) = false := by rw [show (62 : Int) = ((62 : UInt8).toNat : Int) from rfl, byte_eq, decide_eq_false h62]
   have j34 : ((c.toNat : Int) == 34) = true := by rw [h34]; rfl
   have j9 : ((c.toNat : Int) == 9) = false := by rw [h34]; rfl
   have j10 : ((c.toNat : Int) == 10) = false := by rw [h34]; rfl
   have he : Hid (esc1 false c = [c]) := Hd (by rw [h34]; rfl);have hbs : Bs (w.alloc (.cells #[.int .u8 (c.toNat : Nat)] 5)) (some ⟨w.heap.size, 0, none⟩) 1 1 [c] := rd_new w [.int .u8 (c.toNat : Nat)] 5 1 rfl (by decide);have hcv := Bs.conv hbs Tryz.underlying41 Tryz.underlying5 Tryz.underlying9;have hba := Hd (below_alloc w (.cells #[.int .u8 (c.toNat : Nat)] 5));clear hbs h38 h60 h13 h62 h34
   go_enter Tryz.func123, Tryz.ntmps123
   go_wp2_with fail;go_ret;exact ⟨by rw [he.out]; rfl, hba.out⟩
  by_cases h9 : c = 9
  ·have j38 : ((c.toNat : Int) == 38) = false := by rw [show (38 : Int) = ((38 : UInt8).toNat : Int) from rfl, byte_eq, decide_eq_false h38]
   have j60 : ((c.toNat : Int) == 60) = false := by rw [show (60 : Int) = ((60 : UInt8).toNat : Int) from rfl, byte_eq, decide_eq_false h60]
   have j13 : ((c.toNat : Int) == 13) = false := by rw [show (13 : Int) = ((13 : UInt8).toNat : Int) from rfl, byte_eq, decide_eq_false h13]
   have j62 : ((c.toNat : Int) == 62) = false := by rw [show (62 : Int) = ((62 : UInt8).toNat : Int) from rfl, byte_eq, decide_eq_false h62]
   have j34 : ((c.toNat : Int) == 34) = false := by rw [show (34 : Int) = ((34 : UInt8).toNat : Int) from rfl, byte_eq, decide_eq_false h34]
   have j9 : ((c.toNat : Int) == 9) = true := by rw [h9]; rfl
   have j10 : ((c.toNat : Int) == 10) = false := by rw [h9]; rfl
   have he : Hid (esc1 false c = [c]) := Hd (by rw [h9]; rfl);have hbs : Bs (w.alloc (.cells #[.int .u8 (c.toNat : Nat)] 5)) (some ⟨w.heap.size, 0, none⟩) 1 1 [c] := rd_new w [.int .u8 (c.toNat : Nat)] 5 1 rfl (by decide);have hcv := Bs.conv hbs Tryz.underlying41 Tryz.underlying5 Tryz.underlying9;have hba := Hd (below_alloc w (.cells #[.int .u8 (c.toNat : Nat)] 5));clear hbs h38 h60 h13 h62 h34 h9
   go_enter Tryz.func123, Tryz.ntmps123
   go_wp2_with fail;go_ret;exact ⟨by rw [he.out]; rfl, hba.out⟩
  by_cases h10 : c = 10
  ·have j38 : ((c.toNat : Int) == 38) = false := by rw [show (38 : Int) = ((38 : UInt8).toNat : Int) from rfl, byte_eq, decide_eq_false h38]
   have j60 : ((c.toNat : Int) == 60) = false := by rw [show (60 : Int) = ((60 : UInt8).toNat : Int) from rfl, byte_eq, decide_eq_false h60]
   have j13 : ((c.toNat : Int) == 13) = false := by rw [show (13 : Int) = ((13 : UInt8).toNat : Int) from rfl, byte_eq, decide_eq_false h13]
   have j62 : ((c.toNat : Int) == 62) = false := by rw [show (62 : Int) = ((62 : UInt8).toNat : Int) from rfl, byte_eq, decide_eq_false h62]
   have j34 : ((c.toNat : Int) == 34) = false := by rw [show (34 : Int) = ((34 : UInt8).toNat : Int) from rfl, byte_eq, decide_eq_false h34]
   have j9 : ((c.toNat : Int) == 9) = false := by rw [show (9 : Int) = ((9 : UInt8).toNat : Int) from rfl, byte_eq, decide_eq_false h9]
   have j10 : ((c.toNat : Int) == 10) = true := by rw [h10]; rfl
   have he : Hid (esc1 false c = [c]) := Hd (by rw [h10]; rfl);have hbs : Bs (w.alloc (.cells #[.int .u8 (c.toNat : Nat)] 5)) (some ⟨w.heap.size, 0, none⟩) 1 1 [c] := rd_new w [.int .u8 (c.toNat : Nat)] 5 1 rfl (by decide);have hcv := Bs.conv hbs Tryz.underlying41 Tryz.underlying5 Tryz.underlying9;have hba := Hd (below_alloc w (.cells #[.int .u8 (c.toNat : Nat)] 5));clear hbs h38 h60 h13 h62 h34 h9 h10
   go_enter Tryz.func123, Tryz.ntmps123
   go_wp2_with fail;go_ret;exact ⟨by rw [he.out]; rfl, hba.out⟩
  have j38 : ((c.toNat : Int) == 38) = false := by rw [show (38 : Int) = ((38 : UInt8).toNat : Int) from rfl, byte_eq, decide_eq_false h38]
  have j60 : ((c.toNat : Int) == 60) = false := by rw [show (60 : Int) = ((60 : UInt8).toNat : Int) from rfl, byte_eq, decide_eq_false h60]
  have j13 : ((c.toNat : Int) == 13) = false := by rw [show (13 : Int) = ((13 : UInt8).toNat : Int) from rfl, byte_eq, decide_eq_false h13]
  have j62 : ((c.toNat : Int) == 62) = false := by rw [show (62 : Int) = ((62 : UInt8).toNat : Int) from rfl, byte_eq, decide_eq_false h62]
  have j34 : ((c.toNat : Int) == 34) = false := by rw [show (34 : Int) = ((34 : UInt8).toNat : Int) from rfl, byte_eq, decide_eq_false h34]
  have j9 : ((c.toNat : Int) == 9) = false := by rw [show (9 : Int) = ((9 : UInt8).toNat : Int) from rfl, byte_eq, decide_eq_false h9]
  have j10 : ((c.toNat : Int) == 10) = false := by rw [show (10 : Int) = ((10 : UInt8).toNat : Int) from rfl, byte_eq, decide_eq_false h10]
  have he : Hid (esc1 false c = [c]) := Hd (by unfold esc1; simp [h38, h60, h13, h62, h34, h9, h10]);have hbs : Bs (w.alloc (.cells #[.int .u8 (c.toNat : Nat)] 5)) (some ⟨w.heap.size, 0, none⟩) 1 1 [c] := rd_new w [.int .u8 (c.toNat : Nat)] 5 1 rfl (by decide);have hcv := Bs.conv hbs Tryz.underlying41 Tryz.underlying5 Tryz.underlying9;have hba := Hd (below_alloc w (.cells #[.int .u8 (c.toNat : Nat)] 5));clear hbs h38 h60 h13 h62 h34 h9 h10
  go_enter Tryz.func123, Tryz.ntmps123
  go_wp2_with fail;go_ret;exact ⟨by rw [he.out]; rfl, hba.out⟩
 | true =>
  by_cases h38 : c = 38
  ·have j38 : ((c.toNat : Int) == 38) = true := by rw [h38]; rfl
   have j60 : ((c.toNat : Int) == 60) = false := by rw [h38]; rfl
   have j13 : ((c.toNat : Int) == 13) = false := by rw [h38]; rfl
   have j62 : ((c.toNat : Int) == 62) = false := by rw [h38]; rfl
   have j34 : ((c.toNat : Int) == 34) = false := by rw [h38]; rfl
   have j9 : ((c.toNat : Int) == 9) = false := by rw [h38]; rfl
   have j10 : ((c.toNat : Int) == 10) = false := by rw [h38]; rfl
   have he : Hid (esc1 true c = esc1 true 38) := Hd (by rw [h38]);clear h38
   go_enter Tryz.func123, Tryz.ntmps123
   go_wp2_with fail;go_ret;exact ⟨by rw [he.out]; rfl, Below.refl _ _⟩
  by_cases h60 : c = 60
  ·have j38 : ((c.toNat : Int) == 38) = false := by rw [show (38 : Int) = ((38 : UInt8).toNat : Int) from rfl, byte_eq, decide_eq_false h38]
   have j60 : ((c.toNat : Int) == 60) = true := by rw [h60]; rfl
   have j13 : ((c.toNat : Int) == 13) = false := by rw [h60]; rfl
   have j62 : ((c.toNat : Int) == 62) = false := by rw [h60]; rfl
   have j34 : ((c.toNat : Int) == 34) = false := by rw [h60]; rfl
   have j9 : ((c.toNat : Int) == 9) = false := by rw [h60]; rfl
   have j10 : ((c.toNat : Int) == 10) = false := by rw [h60]; rfl
   have he : Hid (esc1 true c = esc1 true 60) := Hd (by rw [h60]);clear h38 h60
   go_enter Tryz.func123, Tryz.ntmps123
   go_wp2_with fail;go_ret;exact ⟨by rw [he.out]; rfl, Below.refl _ _⟩
  by_cases h13 : c = 13
  ·have j38 : ((c.toNat : Int) == 38) = false := by rw [show (38 : Int) = ((38 : UInt8).toNat : Int) from rfl, byte_eq, decide_eq_false h38]
   have j60 : ((c.toNat : Int) == 60) = false := by rw [show (60 : Int) = ((60 : UInt8).toNat : Int) from rfl, byte_eq, decide_eq_false h60]
   have j13 : ((c.toNat : Int) == 13) = true := by rw [h13]; rfl
   have j62 : ((c.toNat : Int) == 62) = false := by rw [h13]; rfl
   have j34 : ((c.toNat : Int) == 34) = false := by rw [h13]; rfl
   have j9 : ((c.toNat : Int) == 9) = false := by rw [h13]; rfl
   have j10 : ((c.toNat : Int) == 10) = false := by rw [h13]; rfl
   have he : Hid (esc1 true c = esc1 true 13) := Hd (by rw [h13]);clear h38 h60 h13
   go_enter Tryz.func123, Tryz.ntmps123
   go_wp2_with fail;go_ret;exact ⟨by rw [he.out]; rfl, Below.refl _ _⟩
  by_cases h62 : c = 62
  ·have j38 : ((c.toNat : Int) == 38) = false := by rw [show (38 : Int) = ((38 : UInt8).toNat : Int) from rfl, byte_eq, decide_eq_false h38]
   have j60 : ((c.toNat : Int) == 60) = false := by rw [show (60 : Int) = ((60 : UInt8).toNat : Int) from rfl, byte_eq, decide_eq_false h60]
   have j13 : ((c.toNat : Int) == 13) = false := by rw [show (13 : Int) = ((13 : UInt8).toNat : Int) from rfl, byte_eq, decide_eq_false h13]
   have j62 : ((c.toNat : Int) == 62) = true := by rw [h62]; rfl
   have j34 : ((c.toNat : Int) == 34) = false := by rw [h62]; rfl
   have j9 : ((c.toNat : Int) == 9) = false := by rw [h62]; rfl
   have j10 : ((c.toNat : Int) == 10) = false := by rw [h62]; rfl
   have he : Hid (esc1 true c = [c]) := Hd (by rw [h62]; rfl);have hbs : Bs (w.alloc (.cells #[.int .u8 (c.toNat : Nat)] 5)) (some ⟨w.heap.size, 0, none⟩) 1 1 [c] := rd_new w [.int .u8 (c.toNat : Nat)] 5 1 rfl (by decide);have hcv := Bs.conv hbs Tryz.underlying41 Tryz.underlying5 Tryz.underlying9;have hba := Hd (below_alloc w (.cells #[.int .u8 (c.toNat : Nat)] 5));clear hbs h38 h60 h13 h62
   go_enter Tryz.func123, Tryz.ntmps123
   go_wp2_with fail;go_ret;exact ⟨by rw [he.out]; rfl, hba.out⟩
  by_cases h34 : c = 34
  ·have j38 : ((c.toNat : Int) == 38) = false := by rw [show (38 : Int) = ((38 : UInt8).toNat : Int) from rfl, byte_eq, decide_eq_false h38]
   have j60 : ((c.toNat : Int) == 60) = false := by rw [show (60 : Int) = ((60 : UInt8).toNat : Int) from rfl, byte_eq, decide_eq_false h60]
   have j13 : ((c.toNat : Int) == 13) = false := by rw [show (13 : Int) = ((13 : UInt8).toNat : Int) from rfl, byte_eq, decide_eq_false h13]
   have j62 : ((c.toNat : Int) == 62) = false := by rw [show (62 : Int) = ((62 : UInt8).toNat : Int) from rfl, byte_eq, decide_eq_false h62]
   have j34 : ((c.toNat : Int) == 34) = true := by rw [h34]; rfl
   have j9 : ((c.toNat : Int) == 9) = false := by rw [h34]; rfl
   have j10 : ((c.toNat : Int) == 10) = false := by rw [h34]; rfl
   have he : Hid (esc1 true c = esc1 true 34) := Hd (by rw [h34]);clear h38 h60 h13 h62 h34
   go_enter Tryz.func123, Tryz.ntmps123
   go_wp2_with fail;go_ret;exact ⟨by rw [he.out]; rfl, Below.refl _ _⟩
  by_cases h9 : c = 9
  ·have j38 : ((c.toNat : Int) == 38) = false := by rw [show (38 : Int) = ((38 : UInt8).toNat : Int) from rfl, byte_eq, decide_eq_false h38]
   have j60 : ((c.toNat : Int) == 60) = false := by rw [show (60 : Int) = ((60 : UInt8).toNat : Int) from rfl, byte_eq, decide_eq_false h60]
   have j13 : ((c.toNat : Int) == 13) = false := by rw [show (13 : Int) = ((13 : UInt8).toNat : Int) from rfl, byte_eq, decide_eq_false h13]
   have j62 : ((c.toNat : Int) == 62) = false := by rw [show (62 : Int) = ((62 : UInt8).toNat : Int) from rfl, byte_eq, decide_eq_false h62]
   have j34 : ((c.toNat : Int) == 34) = false := by rw [show (34 : Int) = ((34 : UInt8).toNat : Int) from rfl, byte_eq, decide_eq_false h34]
   have j9 : ((c.toNat : Int) == 9) = true := by rw [h9]; rfl
   have j10 : ((c.toNat : Int) == 10) = false := by rw [h9]; rfl
   have he : Hid (esc1 true c = esc1 true 9) := Hd (by rw [h9]);clear h38 h60 h13 h62 h34 h9
   go_enter Tryz.func123, Tryz.ntmps123
   go_wp2_with fail;go_ret;exact ⟨by rw [he.out]; rfl, Below.refl _ _⟩
  by_cases h10 : c = 10
  ·have j38 : ((c.toNat : Int) == 38) = false := by rw [show (38 : Int) = ((38 : UInt8).toNat : Int) from rfl, byte_eq, decide_eq_false h38]
   have j60 : ((c.toNat : Int) == 60) = false := by rw [show (60 : Int) = ((60 : UInt8).toNat : Int) from rfl, byte_eq, decide_eq_false h60]
   have j13 : ((c.toNat : Int) == 13) = false := by rw [show (13 : Int) = ((13 : UInt8).toNat : Int) from rfl, byte_eq, decide_eq_false h13]
   have j62 : ((c.toNat : Int) == 62) = false := by rw [show (62 : Int) = ((62 : UInt8).toNat : Int) from rfl, byte_eq, decide_eq_false h62]
   have j34 : ((c.toNat : Int) == 34) = false := by rw [show (34 : Int) = ((34 : UInt8).toNat : Int) from rfl, byte_eq, decide_eq_false h34]
   have j9 : ((c.toNat : Int) == 9) = false := by rw [show (9 : Int) = ((9 : UInt8).toNat : Int) from rfl, byte_eq, decide_eq_false h9]
   have j10 : ((c.toNat : Int) == 10) = true := by rw [h10]; rfl
   have he : Hid (esc1 true c = esc1 true 10) := Hd (by rw [h10]);clear h38 h60 h13 h62 h34 h9 h10
   go_enter Tryz.func123, Tryz.ntmps123
   go_wp2_with fail;go_ret;exact ⟨by rw [he.out]; rfl, Below.refl _ _⟩
  have j38 : ((c.toNat : Int) == 38) = false := by rw [show (38 : Int) = ((38 : UInt8).toNat : Int) from rfl, byte_eq, decide_eq_false h38]
  have j60 : ((c.toNat : Int) == 60) = false := by rw [show (60 : Int) = ((60 : UInt8).toNat : Int) from rfl, byte_eq, decide_eq_false h60]
  have j13 : ((c.toNat : Int) == 13) = false := by rw [show (13 : Int) = ((13 : UInt8).toNat : Int) from rfl, byte_eq, decide_eq_false h13]
  have j62 : ((c.toNat : Int) == 62) = false := by rw [show (62 : Int) = ((62 : UInt8).toNat : Int) from rfl, byte_eq, decide_eq_false h62]
  have j34 : ((c.toNat : Int) == 34) = false := by rw [show (34 : Int) = ((34 : UInt8).toNat : Int) from rfl, byte_eq, decide_eq_false h34]
  have j9 : ((c.toNat : Int) == 9) = false := by rw [show (9 : Int) = ((9 : UInt8).toNat : Int) from rfl, byte_eq, decide_eq_false h9]
  have j10 : ((c.toNat : Int) == 10) = false := by rw [show (10 : Int) = ((10 : UInt8).toNat : Int) from rfl, byte_eq, decide_eq_false h10]
  have he : Hid (esc1 true c = [c]) := Hd (by unfold esc1; simp [h38, h60, h13, h62, h34, h9, h10]);have hbs : Bs (w.alloc (.cells #[.int .u8 (c.toNat : Nat)] 5)) (some ⟨w.heap.size, 0, none⟩) 1 1 [c] := rd_new w [.int .u8 (c.toNat : Nat)] 5 1 rfl (by decide);have hcv := Bs.conv hbs Tryz.underlying41 Tryz.underlying5 Tryz.underlying9;have hba := Hd (below_alloc w (.cells #[.int .u8 (c.toNat : Nat)] 5));clear hbs h38 h60 h13 h62 h34 h9 h10
  go_enter Tryz.func123, Tryz.ntmps123
  go_wp2_with fail;go_ret;exact ⟨by rw [he.out]; rfl, hba.out⟩
theorem esc_append (value : Bool) : ∀ a b : Tx, esc value (a ++ b) = esc value a ++ esc value b
 | [], b => rfl
 | x :: a, b => by rw [List.cons_append, esc, esc_append value a b, esc, List.append_assoc]
theorem esc_next {value : Bool} {s : Tx} {i : Nat} {x : UInt8} (h : s[i]? = some x) : esc value (s.take (i + 1)) = esc value (s.take i) ++ esc1 value x := by
 rw [take_snoc h, esc_append];simp [esc]
theorem esc_take (value : Bool) (s : Tx) (i : Nat) : (esc value (s.take i)).length <= (esc value s).length := by
 have e : esc value s = esc value (s.take i) ++ esc value (s.drop i) := by rw [<- esc_append, List.take_append_drop]
 rw [e, List.length_append];omega
set_option maxHeartbeats 2000000 in
set_option maxRecDepth 100000 in
theorem chars_any (b : Nat) (v : Value) (l s : Tx) (value : Bool) (w : World) (h : Pr b v l w) (hlen : (l ++ esc value s).length <= 100000000000000) (hs9 : s.length <= 100000000000000) :
  Calls Tryz.prog 88 #[.pointer (some ⟨b, 0, none⟩), .string (strOf s), .bool value] w (PrP b v w (l ++ esc value s)) := by
 have hsz : (strOf s).size = s.length := strOf_size' s;obtain ⟨n, hn⟩ : ∃ n, s.length = n := ⟨_, rfl⟩;rw [hn] at hsz hs9;have h' := Hd h;have hn' := Hd hn;have hlen' := Hd hlen;clear h hn hlen
 go_enter Tryz.func88, Tryz.ntmps88
 go_wp2_with fail
 go_loopw [9] (fun vi wr => ∃ i : Nat, i <= n /\ vi = .int .i64 (i : Nat) /\ Hid (∃ v1, Pr b v1 (l ++ esc value (s.take i)) wr /\ Wk b v w v1 wr)) (fun vi _ => n - (intOf vi).toNat)
 case atStart => exact ⟨0, Nat.zero_le _, rfl, Hd ⟨v, by simpa [esc] using h'.out, Wk.refl _ _ _⟩⟩
 case round =>
  obtain ⟨i, hi, rfl, hst⟩ := hrel
  by_cases hlt : i < n
  ·have i1 : decide ((i : Int) < (n : Int)) = true := by simp; omega
   have q1 : (i : Int) < (n : Int) := by omega
   obtain ⟨v1, hp1, hw1⟩ := hst.out;have hx : s[i]? = some (s[i]'(by rw [hn'.out]; exact hlt)) := List.getElem?_eq_getElem _;generalize s[i]'(by rw [hn'.out]; exact hlt) = x at hx;have hlt' : i < (strOf s).size := by omega
   have hgx := str_at hx hlt';have hnext := Hd (esc_next (value := value) hx)
   have hl9 : Hid ((l ++ esc value (s.take i) ++ esc1 value x).length <= 100000000000000) := Hd (by
    have h8 := esc_take value s (i + 1);rw [hnext.out] at h8;have h9 := hlen'.out;simp only [List.length_append] at h8 h9 ⊢
    omega)
   have hp1' := Hd hp1;have hw1' := Hd hw1;clear hp1 hw1 hst hx;go_wp2_with fail;refine (escaped_any x value wr).mono ?_;rintro e w5 ⟨rfl, hb5⟩;obtain ⟨E1, hE1⟩ : ∃ E, esc1 value x = E := ⟨_, rfl⟩;rw [hE1] at hnext hl9 ⊢;have hp5 := hp1'.out.below hb5;have hba := below_alloc w5 (.cells #[.string (strOf E1)] 9);have hp6 := hp5.below hba;have hnn := hp6.ne_new (T := w5.heap.size);have hrd := rd_new w5 [.string (strOf E1)] 9 1 rfl (by decide);have hne5 := hp5.ne_new (Nat.le_refl _);have hpc := Hd (put_any b v1 (l ++ esc value (s.take i)) (w5.alloc (.cells #[.string (strOf E1)] 9)) (some ⟨w5.heap.size, 0, none⟩) 1 1 [E1] hp6 hrd (fun a e _ => by injection e with e; rw [<- e]; exact ⟨hne5.2, hne5.1⟩) (by simpa using hl9.out));have hw6 := Hd (hw1'.out.trans ((Wk.below (v := v1) hb5 (Nat.le_of_lt hp1'.out.lt)).trans (Wk.below hba (Nat.le_of_lt hp5.lt))));clear hb5 hp5 hp6 hba hnn hrd hne5 hE1;go_wp2_with fail;refine hpc.out.mono ?_;rintro e w7 ⟨⟨r, rfl⟩, v2, hp2, hw2⟩;have hfin : Hid (∃ v1, Pr b v1 (l ++ esc value (s.take (i + 1))) w7 /\ Wk b v w v1 w7) := Hd ⟨v2, by rw [hnext.out]; simpa using hp2, hw6.out.trans hw2⟩;clear hp2 hw2;go_wp2_with fail;go_roundw
   case rel => exact ⟨i + 1, by omega, by go_num, hfin⟩
   case measure => simp [intOf]; omega
  ·have hie : i = n := by omega
   subst hie;have i1 : decide ((i : Int) < (i : Int)) = false := by simp
   have hfin : Hid (∃ v1, Pr b v1 (l ++ esc value s) wr /\ Wk b v w v1 wr) := Hd (by
    have h9 := hst.out
    rwa [List.take_of_length_le (by rw [hn'.out]; exact Nat.le_refl _)] at h9)
   go_wp2_with fail
   go_end0
   exact ⟨⟨_, rfl⟩, hfin.out⟩
end Go.Proofs.YtokdnhdfmgfkeaaGreatDoor.Xp
end

section
namespace Go.Proofs.YtokdnhdfmgfkeaaGreatDoor.Xp
open Go.RowKit UtfW Xl Xo Xt
theorem put_lit (b : Nat) (v : Value) (l : Tx) (w : World) (ss : List Tx) (n : Nat) (hn : ss.length = n) (hn9 : n <= 1000) (h : Pr b v l w) (hlen : (l ++ ss.flatten).length <= 100000000000000) :
  Calls Tryz.prog 89 #[.pointer (some ⟨b, 0, none⟩), .slice (some ⟨w.heap.size, 0, none⟩) n n] (w.alloc (.cells (ss.map fun s => Value.string (strOf s)).toArray 9)) (PrP b v w (l ++ ss.flatten)) := by
 have hba := below_alloc w (.cells (ss.map fun s => Value.string (strOf s)).toArray 9);have hp := h.below hba;have hne := h.ne_new (Nat.le_refl _);refine (put_any b v l _ (some ⟨w.heap.size, 0, none⟩) n n ss hp (rd_new w _ _ n (by rw [List.length_map, hn]) (by omega)) (fun a e _ => by injection e with e; rw [<- e]; exact ⟨hne.2, hne.1⟩) hlen).mono ?_;rintro e w' ⟨hr, v', h1, h2⟩;exact ⟨hr, v', h1, (Wk.below hba (Nat.le_of_lt h.lt)).trans h2⟩
theorem writeA_append : ∀ a b : List At, writeA (a ++ b) = writeA a ++ writeA b
 | [], b => rfl
 | x :: a, b => by simp [writeA, writeA_append a b]
theorem writeL_append : ∀ a b : List Nd, writeL (a ++ b) = writeL a ++ writeL b
 | [], b => by rw [writeL]; rfl
 | x :: a, b => by rw [List.cons_append, writeL, writeL_append a b, writeL, List.append_assoc]
theorem writeA_next {l : List At} {i : Nat} {a : At} (h : l[i]? = some a) : writeA (l.take (i + 1)) = writeA (l.take i) ++ ((32 :: a.1 ++ [61, 34]) ++ esc true a.2 ++ [34]) := by
 rw [take_snoc h, writeA_append];simp [writeA]
theorem writeL_next {l : List Nd} {i : Nat} {x : Nd} (h : l[i]? = some x) : writeL (l.take (i + 1)) = writeL (l.take i) ++ writeN x := by
 rw [take_snoc h, writeL_append];simp [writeL]
theorem writeA_take (l : List At) (i : Nat) : (writeA (l.take i)).length <= (writeA l).length := by
 have e : writeA l = writeA (l.take i) ++ writeA (l.drop i) := by rw [<- writeA_append, List.take_append_drop]
 rw [e, List.length_append];omega
theorem writeL_take (l : List Nd) (i : Nat) : (writeL (l.take i)).length <= (writeL l).length := by
 have e : writeL l = writeL (l.take i) ++ writeL (l.drop i) := by rw [<- writeL_append, List.take_append_drop]
 rw [e, List.length_append];omega
theorem esc1_pos (v : Bool) (c : UInt8) : 1 <= (esc1 v c).length := by
 unfold esc1
 repeat (first | split | simp)
theorem esc_ge (v : Bool) : ∀ s : Tx, s.length <= (esc v s).length
 | [] => Nat.le_refl _
 | c :: s => by
  have := esc_ge v s;have := esc1_pos v c;rw [esc, List.length_cons, List.length_append];omega
theorem sq_low {α : Type} {El : World -> List Value -> α -> Prop} {k : Nat} {w w' : World} {A : Option Addr} {n c b : Nat} {l : List α} {X : Nat -> Prop} (h : Sq El k w A n c l) (hX : ∀ a, A = some a -> 0 < n -> X a.block) (hb : ∀ j, X j -> j < b) (hbel : Below b w w') (hE : ∀ vs x, El w vs x -> El w' vs x) : Sq El k w' A n c l :=
 Sq.stay h (fun a e hn => hbel.block _ (hb _ (hX a e hn))) hE
def elT (nm : Tx) (as_ : List At) (ks : List Nd) : Tx := 60 :: nm ++ writeA as_ ++ (if ks.isEmpty then [47, 62] else [62] ++ writeL ks ++ ([60, 47] ++ nm ++ [62]))
section
variable (b : Nat) (X : Nat -> Prop) (hX : ∀ j, X j -> j < b)
include hX
set_option maxHeartbeats 8000000 in
set_option maxRecDepth 100000 in
theorem element_any (v : Value) (l : Tx) (w : World) (vs : List Value) (kd : Int) (nm tx : Tx) (as_ : List At) (ks : List Nd) (h : Pr b v l w) (hn : NdI X w vs (.mk kd nm tx as_ ks)) (hlen : (l ++ elT nm as_ ks).length <= 100000000000000)
  (hK : ∀ (i : Nat) x, ks[i]? = some x -> ∀ (v : Value) (l : Tx) (w : World) (vs : List Value), Pr b v l w -> NdI X w vs x -> (l ++ writeN x).length <= 100000000000000 -> Calls Tryz.prog 58 #[.pointer (some ⟨b, 0, none⟩), .agg vs.toArray] w (PrP b v w (l ++ writeN x))) :
  Calls Tryz.prog 87 #[.pointer (some ⟨b, 0, none⟩), .agg vs.toArray] w (PrP b v w (l ++ elT nm as_ ks)) := by
 obtain ⟨A, ca, A2, c2, rfl, hA, hKs, hXA, hXK⟩ := hn.cells;have hlm : ks.length <= 9223372036854775807 := Nat.le_trans hKs.le hKs.max;have hll : as_.length <= 9223372036854775807 := Nat.le_trans hA.le hA.max;obtain ⟨m, hm⟩ : ∃ m, ks.length = m := ⟨_, rfl⟩;obtain ⟨la, hla⟩ : ∃ la, as_.length = la := ⟨_, rfl⟩;rw [hm] at hKs hXK hlm;rw [hla] at hA hXA hll;rw [hm, hla];have hba := below_alloc w (.cells #[.int .i64 kd, .string (strOf nm), .string (strOf tx), .slice A la ca, .slice A2 m c2] 25);have hnb := heap_alloc_new w (.cells #[.int .i64 kd, .string (strOf nm), .string (strOf tx), .slice A la ca, .slice A2 m c2] 25);have hne := h.ne_new (Nat.le_refl _);obtain ⟨T, hT⟩ : ∃ T, w.heap.size = T := ⟨_, rfl⟩;obtain ⟨w1, hw1⟩ : ∃ w1, w.alloc (.cells #[.int .i64 kd, .string (strOf nm), .string (strOf tx), .slice A la ca, .slice A2 m c2] 25) = w1 := ⟨_, rfl⟩;rw [hw1] at hba hnb;rw [hT] at hnb hne;have hp1 := Hd (h.below hba);have hw01 : Hid (Wk b v w v w1) := Hd (Wk.below hba (Nat.le_of_lt h.lt));have hw1r : Hid (Wk b v w1 v w1) := Hd (Wk.refl _ _ _);have hTl : T < w1.heap.size := (Array.getElem?_eq_some_iff.1 hnb).1;have hbox : Hid (∀ v' w', Wk b v w1 v' w' -> w'.heap[T]? = some (.cells #[.int .i64 kd, .string (strOf nm), .string (strOf tx), .slice A la ca, .slice A2 m c2] 25)) := Hd fun v' w' hk => hk.box hnb hne.2 hne.1
 have hlow : Hid (∀ v' w', Wk b v w1 v' w' -> Below b w w') := Hd fun v' w' hk => (hba.mono (Nat.le_of_lt h.lt)).trans hk.bel
 have hAH := Hd hA;have hKH := Hd hKs;have hXAH := Hd hXA;have hXKH := Hd hXK;have hKK := Hd hK;have hXH := Hd hX;have hlenH := Hd hlen;have hnmH := Hd hm;have hlaH := Hd hla;have x1 : w1.cell? ⟨T, 1, none⟩ = some (.string (strOf nm)) := Xp.cell_blk hnb rfl;clear h hn hA hKs hXA hXK hK hX hlen hm hla hba hnb hne
 have hl0 : Hid ((l ++ 60 :: nm).length + (writeA as_).length <= 100000000000000) := Hd (by
  have h9 := hlenH.out;unfold elT at h9;simp only [List.length_append, List.length_cons] at h9 ⊢
  omega)
 go_enter Tryz.func87, Tryz.ntmps87
 have hpc := Hd (show Calls Tryz.prog 89 #[.pointer (some ⟨b, 0, none⟩), .slice (some ⟨w1.heap.size, 0, none⟩) 2 2] (w1.alloc (.cells #[.string ⟨#[60]⟩, .string (strOf nm)] 9)) (PrP b v w1 (l ++ ([[60], nm] : List Tx).flatten)) from put_lit b v (l) w1 [[60], nm] 2 rfl (by decide) hp1.out (by have h9 := hl0.out; simp only [List.length_append, List.flatten_cons, List.flatten_nil, List.length_cons, List.length_nil] at h9 ⊢; omega));go_wp2_with fail;refine hpc.out.mono ?_;rintro e w2 ⟨⟨r, rfl⟩, v2, hp9, hw9⟩;have hp2 := Hd hp9;have hw2 := Hd (hw1r.out.trans hw9);clear hp9 hw9 hpc;have hf2 : ([[60], nm] : List Tx).flatten = 60 :: nm := by simp
 rw [hf2] at hp2;clear hf2;have hT2 := hbox.out _ _ hw2.out;have x3 : w2.cell? ⟨T, 3, none⟩ = some (.slice A la ca) := Xp.cell_blk hT2 rfl;clear hT2 x1;go_wp2_with fail
 go_loopw [16] (fun vi wr => ∃ i : Nat, i <= la /\ vi = .int .i64 (i : Nat) /\ Hid (∃ v1, Pr b v1 (l ++ 60 :: nm ++ writeA (as_.take i)) wr /\ Wk b v w1 v1 wr)) (fun vi _ => la - (intOf vi).toNat)
 case atStart => exact ⟨0, Nat.zero_le _, rfl, Hd ⟨v2, by simpa [writeA] using hp2.out, hw2.out⟩⟩
 case round =>
  clear x3 hp2 hw2;obtain ⟨i, hi, rfl, hst⟩ := hrel
  by_cases hlt : i < la
  ·have i1 : decide ((i : Int) < (la : Int)) = true := by simp; omega
   have q1 : (i : Int) < (la : Int) := by omega
   obtain ⟨v3, hp3, hw3⟩ := hst.out;have hAr := sq_low hAH.out hXAH.out hXH.out (hlow.out _ _ hw3) (fun _ _ h => h);obtain ⟨b1, off1, ax, vs1, rfl, _, hx1, _, hv1, hc1⟩ := hAr.at_ hlt;unfold AtEl at hv1;subst hv1;obtain ⟨a1, a2⟩ := ax;have m0 := hc1 0 _ rfl;have m1 := hc1 1 _ rfl;rw [Nat.add_zero] at m0;have hnx := Hd (writeA_next hx1)
   have hl9 : Hid ((l ++ 60 :: nm ++ writeA (as_.take i) ++ ((32 :: a1 ++ [61, 34]) ++ esc true a2 ++ [34])).length <= 100000000000000) := Hd (by
    have h8 := writeA_take as_ (i + 1);rw [hnx.out] at h8;have h9 := hl0.out;simp only [List.length_append] at h8 h9 ⊢
    omega)
   have hbt := below_alloc wr (.cells #[.string (strOf a1), .string (strOf a2)] 55);have hnt := heap_alloc_new wr (.cells #[.string (strOf a1), .string (strOf a2)] 55);have hne3 := hp3.ne_new (Nat.le_refl _);obtain ⟨T5, hT5⟩ : ∃ T5, wr.heap.size = T5 := ⟨_, rfl⟩;have hp4 := Hd (hp3.below hbt);have hw4 := Hd (hw3.trans (Wk.below hbt (Nat.le_of_lt hp3.lt)));obtain ⟨wa, hwa⟩ : ∃ wa, wr.alloc (.cells #[.string (strOf a1), .string (strOf a2)] 55) = wa := ⟨_, rfl⟩;rw [hwa] at hp4 hw4 hnt hbt;rw [hT5] at hnt hne3;have y0 : wa.cell? ⟨T5, 0, none⟩ = some (.string (strOf a1)) := Xp.cell_blk hnt rfl;have hbox5 : Hid (∀ v' w', Wk b v3 wa v' w' -> w'.heap[T5]? = some (.cells #[.string (strOf a1), .string (strOf a2)] 55)) := Hd fun v' w' hk => hk.box hnt hne3.2 hne3.1
   have hwar : Hid (Wk b v3 wa v3 wa) := Hd (Wk.refl _ _ _);clear hst hp3 hw3 hAr hc1 hx1 hbt hnt hne3;have hpc := Hd (show Calls Tryz.prog 89 #[.pointer (some ⟨b, 0, none⟩), .slice (some ⟨wa.heap.size, 0, none⟩) 3 3] (wa.alloc (.cells #[.string ⟨#[32]⟩, .string (strOf a1), .string ⟨#[61, 34]⟩] 9)) (PrP b v3 wa (l ++ 60 :: nm ++ writeA (as_.take i) ++ ([[32], a1, [61, 34]] : List Tx).flatten)) from put_lit b v3 (l ++ 60 :: nm ++ writeA (as_.take i)) wa [[32], a1, [61, 34]] 3 rfl (by decide) hp4.out (by have h9 := hl9.out; simp only [List.length_append, List.flatten_cons, List.flatten_nil, List.length_cons, List.length_nil] at h9 ⊢; omega));go_wp2_with fail;refine hpc.out.mono ?_;rintro e w5 ⟨⟨r, rfl⟩, v5, hp9, hw9⟩;have hp5 := Hd hp9;have hw5 := Hd (hwar.out.trans hw9);clear hp9 hw9 hpc;have hT6 := hbox5.out _ _ hw5.out;have y1 : w5.cell? ⟨T5, 1, none⟩ = some (.string (strOf a2)) := Xp.cell_blk hT6 rfl;have hch := Hd (chars_any b v5 _ a2 true w5 hp5.out (by have h9 := hl9.out; simp only [List.length_append, List.flatten_cons, List.flatten_nil, List.length_cons, List.length_nil] at h9 ⊢; omega) (by have h9 := hl9.out; have h8 := esc_ge true a2; simp only [List.length_append] at h9; omega));clear hT6 y0;go_wp2_with fail;refine hch.out.mono ?_;rintro e w6 ⟨⟨r, rfl⟩, v6, hp9, hw9⟩;have hp6 := Hd hp9;have hw6 := Hd (hw5.out.trans hw9);clear hp9 hw9 hch y1
   have hpc := Hd (show Calls Tryz.prog 89 #[.pointer (some ⟨b, 0, none⟩), .slice (some ⟨w6.heap.size, 0, none⟩) 1 1] (w6.alloc (.cells #[.string ⟨#[34]⟩] 9)) (PrP b v6 w6 (l ++ 60 :: nm ++ writeA (as_.take i) ++ ([[32], a1, [61, 34]] : List Tx).flatten ++ esc true a2 ++ ([[34]] : List Tx).flatten)) from put_lit b v6 (l ++ 60 :: nm ++ writeA (as_.take i) ++ ([[32], a1, [61, 34]] : List Tx).flatten ++ esc true a2) w6 [[34]] 1 rfl (by decide) hp6.out (by have h9 := hl9.out; simp only [List.length_append, List.flatten_cons, List.flatten_nil, List.length_cons, List.length_nil] at h9 ⊢; omega));go_wp2_with fail;refine hpc.out.mono ?_;rintro e w7 ⟨⟨r, rfl⟩, v7, hp9, hw9⟩;have hp7 := Hd hp9;have hw7 := Hd (hw6.out.trans hw9);clear hp9 hw9 hpc
   have hfin : Hid (∃ v1, Pr b v1 (l ++ 60 :: nm ++ writeA (as_.take (i + 1))) w7 /\ Wk b v w1 v1 w7) := Hd ⟨v7, by
    have h9 := hp7.out;rw [hnx.out]
    simpa using h9, hw4.out.trans hw7.out⟩
   clear hp7 hw7 hp6 hw6 hp5 hw5;go_wp2_with fail;go_roundw
   case rel => exact ⟨i + 1, by omega, by go_num, hfin⟩
   case measure => simp [intOf]; omega
  ·have hie : i = la := by omega
   subst hie;have i1 : decide ((i : Int) < (i : Int)) = false := by simp
   obtain ⟨v3, hp3, hw3⟩ := hst.out;rw [List.take_of_length_le (by rw [hlaH.out]; exact Nat.le_refl _)] at hp3;have hT3 := hbox.out _ _ hw3;have x4 : wr.cell? ⟨T, 4, none⟩ = some (.slice A2 m c2) := Xp.cell_blk hT3 rfl;have x1 : wr.cell? ⟨T, 1, none⟩ = some (.string (strOf nm)) := Xp.cell_blk hT3 rfl;replace hp3 := Hd hp3;replace hw3 := Hd hw3;clear hst hT3
   by_cases hm0 : m = 0
   ·subst hm0
    have hel : elT nm as_ ks = 60 :: nm ++ writeA as_ ++ [47, 62] := by
     unfold elT;rw [if_pos (by rw [List.isEmpty_iff]; exact List.eq_nil_of_length_eq_zero hnmH.out)]
    have hlen9 := hlenH.out;rw [hel] at hlen9;replace hel := Hd hel;replace hlen9 := Hd hlen9;have hpc := Hd (show Calls Tryz.prog 89 #[.pointer (some ⟨b, 0, none⟩), .slice (some ⟨wr.heap.size, 0, none⟩) 1 1] (wr.alloc (.cells #[.string ⟨#[47, 62]⟩] 9)) (PrP b v3 wr (l ++ 60 :: nm ++ writeA as_ ++ ([[47, 62]] : List Tx).flatten)) from put_lit b v3 (l ++ 60 :: nm ++ writeA as_) wr [[47, 62]] 1 rfl (by decide) hp3.out (by have h9 := hlen9.out; simp only [List.length_append, List.flatten_cons, List.flatten_nil, List.length_cons, List.length_nil] at h9 ⊢; omega));go_wp2_with fail;refine hpc.out.mono ?_;rintro e w4 ⟨⟨r, rfl⟩, v4, hp9, hw9⟩;have hp4 := Hd hp9;have hw4 := Hd (hw3.out.trans hw9);clear hp9 hw9 hpc;clear x4 x1;go_wp2_with fail
    go_end0
    exact ⟨⟨_, rfl⟩, v4, by rw [hel.out]; simpa using hp4.out, hw01.out.trans hw4.out⟩
   ·have i2 : ((m : Int) == 0) = false := by simp; omega
    have hel : elT nm as_ ks = 60 :: nm ++ writeA as_ ++ ([62] ++ writeL ks ++ ([60, 47] ++ nm ++ [62])) := by
     unfold elT;rw [if_neg (by rw [List.isEmpty_iff]; intro e; rw [e] at hnmH; exact hm0 hnmH.out.symm)]
    have hlen9 := hlenH.out;rw [hel] at hlen9;replace hel := Hd hel;replace hlen9 := Hd hlen9;replace hm0 := Hd hm0;have hpc := Hd (show Calls Tryz.prog 89 #[.pointer (some ⟨b, 0, none⟩), .slice (some ⟨wr.heap.size, 0, none⟩) 1 1] (wr.alloc (.cells #[.string ⟨#[62]⟩] 9)) (PrP b v3 wr (l ++ 60 :: nm ++ writeA as_ ++ ([[62]] : List Tx).flatten)) from put_lit b v3 (l ++ 60 :: nm ++ writeA as_) wr [[62]] 1 rfl (by decide) hp3.out (by have h9 := hlen9.out; simp only [List.length_append, List.flatten_cons, List.flatten_nil, List.length_cons, List.length_nil] at h9 ⊢; omega));go_wp2_with fail;refine hpc.out.mono ?_;rintro e w4 ⟨⟨r, rfl⟩, v4, hp9, hw9⟩;have hp4 := Hd hp9;have hw4 := Hd (hw3.out.trans hw9);clear hp9 hw9 hpc;have hT4 := hbox.out _ _ hw4.out;have x4' : w4.cell? ⟨T, 4, none⟩ = some (.slice A2 m c2) := Xp.cell_blk hT4 rfl;clear x4 x1 hT4
    have hl1 : Hid ((l ++ 60 :: nm ++ writeA as_ ++ [62]).length + (writeL ks).length <= 100000000000000) := Hd (by
     have h9 := hlen9.out;simp only [List.length_append, List.length_cons, List.length_nil] at h9 ⊢
     omega)
    go_wp2_with fail
    go_loopw [46] (fun vi wr => ∃ j : Nat, j <= m /\ vi = .int .i64 (j : Nat) /\ Hid (∃ v1, Pr b v1 (l ++ 60 :: nm ++ writeA as_ ++ [62] ++ writeL (ks.take j)) wr /\ Wk b v w1 v1 wr)) (fun vi _ => m - (intOf vi).toNat)
    case atStart => exact ⟨0, Nat.zero_le _, rfl, Hd ⟨v4, by simpa [writeL] using hp4.out, hw4.out⟩⟩
    case round =>
     clear x4' hp4 hw4 hp3 hw3;obtain ⟨j, hj, rfl, hst⟩ := hrel
     by_cases hlt : j < m
     ·have i1 : decide ((j : Int) < (m : Int)) = true := by simp; omega
      have q1 : (j : Int) < (m : Int) := (by omega);obtain ⟨v5, hp5, hw5⟩ := hst.out;have hKr := sq_low hKH.out hXKH.out hXH.out (hlow.out _ _ hw5) (fun vs x h => NdI.stay h fun k hk => ⟨hk, (hlow.out _ _ hw5).block k (hXH.out k hk)⟩);obtain ⟨b1, off1, x, vs1, rfl, _, hx1, _, hv1, hc1⟩ := hKr.at_ hlt;have hkk := hKK.out j x hx1;have hnx := Hd (writeL_next hx1)
      have hl9 : (l ++ 60 :: nm ++ writeA as_ ++ [62] ++ writeL (ks.take j) ++ writeN x).length <= 100000000000000 := by
       have h8 := writeL_take ks (j + 1);rw [hnx.out] at h8;have h9 := hl1.out;simp only [List.length_append] at h8 h9 ⊢;omega
      obtain ⟨kx, nx_, tx_, ax, kx_⟩ := x;obtain ⟨Ax, cax, A2x, c2x, rfl, -⟩ := hv1.cells;have m0 := hc1 0 _ rfl;have m1 := hc1 1 _ rfl;have m2 := hc1 2 _ rfl;have m3 := hc1 3 _ rfl;have m4 := hc1 4 _ rfl;rw [Nat.add_zero] at m0;have hbt := below_alloc wr (.cells #[.int .i64 kx, .string (strOf nx_), .string (strOf tx_), .slice Ax ax.length cax, .slice A2x kx_.length c2x] 25);have hp6 := hp5.below hbt;have hw6 := Hd (hw5.trans (Wk.below hbt (Nat.le_of_lt hp5.lt)));have hrec := Hd (hkk v5 _ (wr.alloc (.cells #[.int .i64 kx, .string (strOf nx_), .string (strOf tx_), .slice Ax ax.length cax, .slice A2x kx_.length c2x] 25)) _ hp6 (NdI.stay hv1 fun k hk => ⟨hk, hbt.block k (Nat.lt_trans (hXH.out k hk) hp5.lt)⟩) hl9);clear hst hp5 hw5 hKr hc1 hx1 hbt hp6 hkk hl9 hv1;go_wp2_with fail;refine hrec.out.mono ?_;rintro e w7 ⟨⟨r, rfl⟩, v7, hp9, hw9⟩
      have hfin : Hid (∃ v1, Pr b v1 (l ++ 60 :: nm ++ writeA as_ ++ [62] ++ writeL (ks.take (j + 1))) w7 /\ Wk b v w1 v1 w7) := Hd ⟨v7, by
       rw [hnx.out]
       simpa using hp9, hw6.out.trans hw9⟩
      clear hp9 hw9 m0 m1 m2 m3 m4;go_wp2_with fail;go_roundw
      case rel => exact ⟨j + 1, by omega, by go_num, hfin⟩
      case measure => simp [intOf]; omega
     ·have hie : j = m := (by omega);subst hie;have i1 : decide ((j : Int) < (j : Int)) = false := (by simp);obtain ⟨v5, hp5, hw5⟩ := hst.out;rw [List.take_of_length_le (by rw [hnmH.out]; exact Nat.le_refl _)] at hp5;have hT5 := hbox.out _ _ hw5;have x1 : wr.cell? ⟨T, 1, none⟩ = some (.string (strOf nm)) := Xp.cell_blk hT5 rfl;replace hp5 := Hd hp5;replace hw5 := Hd hw5;clear hst hT5;have hpc := Hd (show Calls Tryz.prog 89 #[.pointer (some ⟨b, 0, none⟩), .slice (some ⟨wr.heap.size, 0, none⟩) 3 3] (wr.alloc (.cells #[.string ⟨#[60, 47]⟩, .string (strOf nm), .string ⟨#[62]⟩] 9)) (PrP b v5 wr (l ++ 60 :: nm ++ writeA as_ ++ [62] ++ writeL ks ++ ([[60, 47], nm, [62]] : List Tx).flatten)) from put_lit b v5 (l ++ 60 :: nm ++ writeA as_ ++ [62] ++ writeL ks) wr [[60, 47], nm, [62]] 3 rfl (by decide) hp5.out (by have h9 := hlen9.out; simp only [List.length_append, List.flatten_cons, List.flatten_nil, List.length_cons, List.length_nil] at h9 ⊢; omega));go_wp2_with fail;refine hpc.out.mono ?_;rintro e w8 ⟨⟨r, rfl⟩, v8, hp9, hw9⟩;have hp8 := Hd hp9;have hw8 := Hd (hw5.out.trans hw9);clear hp9 hw9 hpc;clear x1;go_wp2_with fail
      go_end0
      exact ⟨⟨_, rfl⟩, v8, by rw [hel.out]; simpa using hp8.out, hw01.out.trans hw8.out⟩
end
end Go.Proofs.YtokdnhdfmgfkeaaGreatDoor.Xp
end

section
namespace Go.Proofs.YtokdnhdfmgfkeaaGreatDoor.Xp
open Go.RowKit UtfW Xl Xo Xt
set_option maxHeartbeats 8000000 in
set_option maxRecDepth 100000 in
theorem node_any (b : Nat) (X : Nat -> Prop) (hX : ∀ j, X j -> j < b) : ∀ (k : Nat) (n : Nd) (v : Value) (l : Tx) (w : World) (vs : List Value), SizeOf.sizeOf n <= k -> Pr b v l w -> NdI X w vs n -> (l ++ writeN n).length <= 100000000000000 →
  Calls Tryz.prog 58 #[.pointer (some ⟨b, 0, none⟩), .agg vs.toArray] w (PrP b v w (l ++ writeN n)) := by
 intro k
 induction k with
 | zero =>
  intro n v l w vs hk;obtain ⟨kd, nm, tx, as_, ks⟩ := n;simp at hk
 | succ k ih =>
  intro n v l w vs hk h hn hlen;obtain ⟨kd, nm, tx, as_, ks⟩ := n;obtain ⟨A, ca, A2, c2, rfl, -⟩ := hn.cells;obtain ⟨S1, hS1⟩ : ∃ S, strOf nm = S := ⟨_, rfl⟩;obtain ⟨S2, hS2⟩ : ∃ S, strOf tx = S := ⟨_, rfl⟩;rw [hS1, hS2] at hn ⊢;have hba := below_alloc w (.cells #[.int .i64 kd, .string S1, .string S2, .slice A as_.length ca, .slice A2 ks.length c2] 25);have hnb := heap_alloc_new w (.cells #[.int .i64 kd, .string S1, .string S2, .slice A as_.length ca, .slice A2 ks.length c2] 25);have hne := h.ne_new (Nat.le_refl _);obtain ⟨T, hT⟩ : ∃ T, w.heap.size = T := ⟨_, rfl⟩;obtain ⟨w1, hw1⟩ : ∃ w1, w.alloc (.cells #[.int .i64 kd, .string S1, .string S2, .slice A as_.length ca, .slice A2 ks.length c2] 25) = w1 := ⟨_, rfl⟩;rw [hw1] at hba hnb;rw [hT] at hnb hne;have hp1 := Hd (h.below hba);have hw01 : Hid (Wk b v w v w1) := Hd (Wk.below hba (Nat.le_of_lt h.lt));have hw1r : Hid (Wk b v w1 v w1) := Hd (Wk.refl _ _ _);have hbox : Hid (∀ v' w', Wk b v w1 v' w' -> w'.heap[T]? = some (.cells #[.int .i64 kd, .string S1, .string S2, .slice A as_.length ca, .slice A2 ks.length c2] 25)) := Hd fun v' w' hk => hk.box hnb hne.2 hne.1
  have x0 : w1.cell? ⟨T, 0, none⟩ = some (.int .i64 kd) := Xp.cell_blk hnb rfl;have x1 : w1.cell? ⟨T, 1, none⟩ = some (.string S1) := Xp.cell_blk hnb rfl;have x2 : w1.cell? ⟨T, 2, none⟩ = some (.string S2) := Xp.cell_blk hnb rfl;have x3 : w1.cell? ⟨T, 3, none⟩ = some (.slice A as_.length ca) := Xp.cell_blk hnb rfl;have x4 : w1.cell? ⟨T, 4, none⟩ = some (.slice A2 ks.length c2) := Xp.cell_blk hnb rfl;have hn1 := Hd (NdI.stay hn fun k hk => ⟨hk, hba.block k (Nat.lt_trans (hX k hk) h.lt)⟩)
  have hkid : Hid (∀ (i : Nat) x, ks[i]? = some x -> SizeOf.sizeOf x <= k) := Hd fun i x hx => by
   have := kid_lt (k := kd) (nm := nm) (tx := tx) (as_ := as_) hx;omega
  have hlenH := Hd hlen;have ihH := Hd ih;clear h hn hlen hba hnb hne hk ih
  by_cases h1 : kd = 1
  ·subst h1
   have he : writeN (.mk 1 nm tx as_ ks) = elT nm as_ ks := by
    rw [writeN, if_pos rfl];rfl
   have hlen9 := hlenH.out;rw [he] at hlen9 ⊢;have hec := Hd (element_any b X hX v l w1 _ 1 nm tx as_ ks hp1.out (by have h9 := hn1.out; rw [<- hS1, <- hS2] at h9; exact h9) hlen9 (fun i x hx v l w vs h1 h2 h3 => ihH.out x v l w vs (hkid.out i x hx) h1 h2 h3));rw [hS1, hS2] at hec;have k0 : ((1 : Int) == 1) = true := rfl;clear hlen9 he hS1 hS2
   go_enter Tryz.func58, Tryz.ntmps58
   go_wp2_with fail;refine hec.out.mono ?_;rintro e w5 ⟨⟨r, rfl⟩, v5, hp9, hw9⟩;have hfin : Hid (Pr b v5 (l ++ elT nm as_ ks) w5 /\ Wk b v w v5 w5) := Hd ⟨hp9, hw01.out.trans hw9⟩;clear hp9 hw9;go_wp2_with fail
   go_end0
   exact ⟨⟨_, rfl⟩, v5, hfin.out⟩
  have k1 : (kd == 1) = false := by simpa using h1
  by_cases h2 : kd = 2
  ·subst h2
   have he : writeN (.mk 2 nm tx as_ ks) = esc false tx := by
    rw [writeN, if_neg (by decide), if_pos rfl]
   have hlen9 := hlenH.out;rw [he] at hlen9 ⊢;have hec := Hd (chars_any b v l tx false w1 hp1.out hlen9 (by have h9 := hlen9; have h8 := esc_ge false tx; rw [List.length_append] at h9; omega));rw [hS2] at hec;have k0 : ((2 : Int) == 2) = true := rfl;clear hlen9 he hS1 hS2 h1
   go_enter Tryz.func58, Tryz.ntmps58
   go_wp2_with fail;refine hec.out.mono ?_;rintro e w5 ⟨⟨r, rfl⟩, v5, hp9, hw9⟩;have hfin : Hid (Pr b v5 (l ++ esc false tx) w5 /\ Wk b v w v5 w5) := Hd ⟨hp9, hw01.out.trans hw9⟩;clear hp9 hw9;go_wp2_with fail
   go_end0
   exact ⟨⟨_, rfl⟩, v5, hfin.out⟩
  have k2 : (kd == 2) = false := by simpa using h2
  by_cases h3 : kd = 3
  ·subst h3
   have he : writeN (.mk 3 nm tx as_ ks) = [60, 33, 45, 45] ++ tx ++ [45, 45, 62] := by
    rw [writeN, if_neg (by decide), if_neg (by decide), if_pos rfl]
   have hlen9 := hlenH.out;rw [he] at hlen9 ⊢;have k0 : ((3 : Int) == 3) = true := rfl;replace hlen9 := Hd hlen9;rw [<- hS2] at x2 hbox;clear he hS1 hS2 h1 h2
   go_enter Tryz.func58, Tryz.ntmps58
   have hpc := Hd (show Calls Tryz.prog 89 #[.pointer (some ⟨b, 0, none⟩), .slice (some ⟨w1.heap.size, 0, none⟩) 3 3] (w1.alloc (.cells #[.string ⟨#[60, 33, 45, 45]⟩, .string (strOf tx), .string ⟨#[45, 45, 62]⟩] 9)) (PrP b v w1 (l ++ ([[60, 33, 45, 45], tx, [45, 45, 62]] : List Tx).flatten)) from put_lit b v (l) w1 [[60, 33, 45, 45], tx, [45, 45, 62]] 3 rfl (by decide) hp1.out (by have h9 := hlen9.out; simp only [List.length_append, List.flatten_cons, List.flatten_nil, List.length_cons, List.length_nil] at h9 ⊢; omega));go_wp2_with fail;refine hpc.out.mono ?_;rintro e w5 ⟨⟨r, rfl⟩, v5, hp9, hw9⟩;have hp5 := Hd hp9;have hw5 := Hd (hw1r.out.trans hw9);clear hp9 hw9 hpc;clear x0 x1 x2 x3 x4;go_wp2_with fail
   go_end0
   exact ⟨⟨_, rfl⟩, v5, by simpa using hp5.out, hw01.out.trans hw5.out⟩
  have k3 : (kd == 3) = false := by simpa using h3
  by_cases h4 : kd = 4
  ·subst h4
   have he : writeN (.mk 4 nm tx as_ ks) = [60, 63] ++ nm ++ (if tx = [] then [] else 32 :: tx) ++ [63, 62] := by
    rw [writeN, if_neg (by decide), if_neg (by decide), if_neg (by decide), if_pos rfl]
   have hlen9 := hlenH.out;rw [he] at hlen9 ⊢;have k0 : ((4 : Int) == 4) = true := rfl;replace hlen9 := Hd hlen9;rw [<- hS1] at x1 hbox;clear he h1 h2 h3
   have hl1 : Hid ((l ++ ([60, 63] ++ nm)).length <= 100000000000000) := Hd (by
    have h9 := hlen9.out;simp only [List.length_append] at h9 ⊢
    omega)
   by_cases ht : tx = []
   ·have e9 : S2.toList.isEmpty = true := by rw [<- hS2, strOf_empty, ht]; rfl
    rw [if_pos ht] at hlen9 ⊢;replace ht := Hd ht;clear hS1 hS2
    go_enter Tryz.func58, Tryz.ntmps58
    have hpc := Hd (show Calls Tryz.prog 89 #[.pointer (some ⟨b, 0, none⟩), .slice (some ⟨w1.heap.size, 0, none⟩) 2 2] (w1.alloc (.cells #[.string ⟨#[60, 63]⟩, .string (strOf nm)] 9)) (PrP b v w1 (l ++ ([[60, 63], nm] : List Tx).flatten)) from put_lit b v (l) w1 [[60, 63], nm] 2 rfl (by decide) hp1.out (by have h9 := hl1.out; simp only [List.length_append, List.flatten_cons, List.flatten_nil, List.length_cons, List.length_nil] at h9 ⊢; omega));go_wp2_with fail;refine hpc.out.mono ?_;rintro e w5 ⟨⟨r, rfl⟩, v5, hp9, hw9⟩;have hp5 := Hd hp9;have hw5 := Hd (hw1r.out.trans hw9);clear hp9 hw9 hpc;have hT5 := hbox.out _ _ hw5.out;have y2 : w5.cell? ⟨T, 2, none⟩ = some (.string S2) := Xp.cell_blk hT5 rfl;clear x0 x1 x2 x3 x4 hT5;have hpc := Hd (show Calls Tryz.prog 89 #[.pointer (some ⟨b, 0, none⟩), .slice (some ⟨w5.heap.size, 0, none⟩) 1 1] (w5.alloc (.cells #[.string ⟨#[63, 62]⟩] 9)) (PrP b v5 w5 (l ++ ([[60, 63], nm] : List Tx).flatten ++ ([[63, 62]] : List Tx).flatten)) from put_lit b v5 (l ++ ([[60, 63], nm] : List Tx).flatten) w5 [[63, 62]] 1 rfl (by decide) hp5.out (by have h9 := hlen9.out; simp only [List.length_append, List.flatten_cons, List.flatten_nil, List.length_cons, List.length_nil] at h9 ⊢; omega));go_wp2_with fail;refine hpc.out.mono ?_;rintro e w6 ⟨⟨r, rfl⟩, v6, hp9, hw9⟩;have hp6 := Hd hp9;have hw6 := Hd (hw5.out.trans hw9);clear hp9 hw9 hpc;clear y2;go_wp2_with fail
    go_end0
    exact ⟨⟨_, rfl⟩, v6, by simpa using hp6.out, hw01.out.trans hw6.out⟩
   ·have e9 : S2.toList.isEmpty = false := by
     rw [<- hS2, strOf_empty]
     cases tx with
     | nil => exact absurd rfl ht
     | cons _ _ => rfl
    rw [if_neg ht] at hlen9 ⊢;replace ht := Hd ht;have hS2H := Hd hS2;clear hS1 hS2
    go_enter Tryz.func58, Tryz.ntmps58
    have hpc := Hd (show Calls Tryz.prog 89 #[.pointer (some ⟨b, 0, none⟩), .slice (some ⟨w1.heap.size, 0, none⟩) 2 2] (w1.alloc (.cells #[.string ⟨#[60, 63]⟩, .string (strOf nm)] 9)) (PrP b v w1 (l ++ ([[60, 63], nm] : List Tx).flatten)) from put_lit b v (l) w1 [[60, 63], nm] 2 rfl (by decide) hp1.out (by have h9 := hl1.out; simp only [List.length_append, List.flatten_cons, List.flatten_nil, List.length_cons, List.length_nil] at h9 ⊢; omega));go_wp2_with fail;refine hpc.out.mono ?_;rintro e w5 ⟨⟨r, rfl⟩, v5, hp9, hw9⟩;have hp5 := Hd hp9;have hw5 := Hd (hw1r.out.trans hw9);clear hp9 hw9 hpc;have hT5 := hbox.out _ _ hw5.out;have y2 : w5.cell? ⟨T, 2, none⟩ = some (.string S2) := Xp.cell_blk hT5 rfl;clear x0 x1 x2 x3 x4 hT5;have hpc := Hd (show Calls Tryz.prog 89 #[.pointer (some ⟨b, 0, none⟩), .slice (some ⟨w5.heap.size, 0, none⟩) 2 2] (w5.alloc (.cells #[.string ⟨#[32]⟩, .string S2] 9)) (PrP b v5 w5 (l ++ ([[60, 63], nm] : List Tx).flatten ++ ([[32], tx] : List Tx).flatten)) from hS2H.out ▸ put_lit b v5 (l ++ ([[60, 63], nm] : List Tx).flatten) w5 [[32], tx] 2 rfl (by decide) hp5.out (by have h9 := hlen9.out; simp only [List.length_append, List.flatten_cons, List.flatten_nil, List.length_cons, List.length_nil] at h9 ⊢; omega));go_wp2_with fail;refine hpc.out.mono ?_;rintro e w6 ⟨⟨r, rfl⟩, v6, hp9, hw9⟩;have hp6 := Hd hp9;have hw6 := Hd (hw5.out.trans hw9);clear hp9 hw9 hpc;clear y2
    have hpc := Hd (show Calls Tryz.prog 89 #[.pointer (some ⟨b, 0, none⟩), .slice (some ⟨w6.heap.size, 0, none⟩) 1 1] (w6.alloc (.cells #[.string ⟨#[63, 62]⟩] 9)) (PrP b v6 w6 (l ++ ([[60, 63], nm] : List Tx).flatten ++ ([[32], tx] : List Tx).flatten ++ ([[63, 62]] : List Tx).flatten)) from put_lit b v6 (l ++ ([[60, 63], nm] : List Tx).flatten ++ ([[32], tx] : List Tx).flatten) w6 [[63, 62]] 1 rfl (by decide) hp6.out (by have h9 := hlen9.out; simp only [List.length_append, List.flatten_cons, List.flatten_nil, List.length_cons, List.length_nil] at h9 ⊢; omega));go_wp2_with fail;refine hpc.out.mono ?_;rintro e w7 ⟨⟨r, rfl⟩, v7, hp9, hw9⟩;have hp7 := Hd hp9;have hw7 := Hd (hw6.out.trans hw9);clear hp9 hw9 hpc;go_wp2_with fail
    go_end0
    exact ⟨⟨_, rfl⟩, v7, by simpa using hp7.out, hw01.out.trans hw7.out⟩
  have k4 : (kd == 4) = false := by simpa using h4
  have he : writeN (.mk kd nm tx as_ ks) = [] := by
   rw [writeN, if_neg h1, if_neg h2, if_neg h3, if_neg h4]
  rw [he];clear he h1 h2 h3 h4 hS1 hS2
  go_enter Tryz.func58, Tryz.ntmps58
  go_wp2_with fail
  go_end0
  exact ⟨⟨_, rfl⟩, v, by simpa using hp1.out, hw01.out⟩
end Go.Proofs.YtokdnhdfmgfkeaaGreatDoor.Xp
end

section
namespace Go.Proofs.YtokdnhdfmgfkeaaGreatDoor.Xp
open Go.RowKit UtfW Xl Xo Xt
set_option maxHeartbeats 4000000 in
set_option maxRecDepth 100000 in
theorem Nodes_any (X : Nat -> Prop) (w : World) (A : Option Addr) (n c : Nat) (l : List Nd) (hS : Sq (NdE X) 5 w A n c l) (hXA : ∀ a, A = some a -> 0 < n -> X a.block) (hX : ∀ j, X j -> j < w.heap.size) (hlen : (writeL l).length <= 100000000000000) :
  Calls Tryz.prog 20 #[.slice A n c] w fun e w' => e = .returned (.string (strOf (writeL l))) /\ Below w.heap.size w w' := by
 have hln := hS.len;have hlm : n <= 9223372036854775807 := Nat.le_trans hS.le hS.max;have hba := below_alloc w (.cells #[.pointer none, .slice none 0 0] 71);have hp1 := pr_new w;obtain ⟨b, hb⟩ : ∃ b, w.heap.size = b := ⟨_, rfl⟩;obtain ⟨w1, hw1⟩ : ∃ w1, w.alloc (.cells #[.pointer none, .slice none 0 0] 71) = w1 := ⟨_, rfl⟩;rw [hw1] at hba hp1;rw [hb] at hp1 hX;have hb' := Hd hb;have hp1' := Hd hp1;have hba' := Hd hba
 have hlow : Hid (∀ v' w', Wk b (.slice none 0 0) w1 v' w' -> Below b w w') := Hd fun v' w' hk => by
  rw [<- hb'.out];exact hba.trans (by rw [hb'.out]; exact hk.bel)
 have hS' := Hd hS;have hXA' := Hd hXA;have hX' := Hd hX;have hln' := Hd hln;have hlen' := Hd hlen;clear hS hXA hX hln hlen hba hp1
 go_enter Tryz.func20, Tryz.ntmps20
 go_wp2_with fail;clear hb
 go_loopw [10] (fun vi wr => ∃ j : Nat, j <= n /\ vi = .int .i64 (j : Nat) /\ Hid (∃ v1, Pr b v1 (writeL (l.take j)) wr /\ Wk b (.slice none 0 0) w1 v1 wr)) (fun vi _ => n - (intOf vi).toNat)
 case atStart => exact ⟨0, Nat.zero_le _, rfl, Hd ⟨_, by simpa [writeL] using hp1'.out, Wk.refl _ _ _⟩⟩
 case round =>
  obtain ⟨j, hj, rfl, hst⟩ := hrel
  by_cases hlt : j < n
  ·have i1 : decide ((j : Int) < (n : Int)) = true := by simp; omega
   have q1 : (j : Int) < (n : Int) := by omega
   obtain ⟨v5, hp5, hw5⟩ := hst.out;have hKr := sq_low hS'.out hXA'.out hX'.out (hlow.out _ _ hw5) (fun vs x h => NdI.stay h fun k hk => ⟨hk, (hlow.out _ _ hw5).block k (hX'.out k hk)⟩);obtain ⟨b1, off1, x, vs1, rfl, _, hx1, _, hv1, hc1⟩ := hKr.at_ hlt;have hnx := Hd (writeL_next hx1)
   have hl9 : (writeL (l.take j) ++ writeN x).length <= 100000000000000 := by
    have h8 := writeL_take l (j + 1);rw [hnx.out] at h8;have h9 := hlen'.out;omega
   obtain ⟨kx, nx_, tx_, ax, kx_⟩ := x;obtain ⟨Ax, cax, A2x, c2x, rfl, -⟩ := hv1.cells;have m0 := hc1 0 _ rfl;have m1 := hc1 1 _ rfl;have m2 := hc1 2 _ rfl;have m3 := hc1 3 _ rfl;have m4 := hc1 4 _ rfl;rw [Nat.add_zero] at m0;have hbt := below_alloc wr (.cells #[.int .i64 kx, .string (strOf nx_), .string (strOf tx_), .slice Ax ax.length cax, .slice A2x kx_.length c2x] 25);have hp6 := hp5.below hbt;have hw6 := Hd (hw5.trans (Wk.below hbt (Nat.le_of_lt hp5.lt)));have hrec := Hd (node_any b X hX'.out _ _ v5 _ (wr.alloc (.cells #[.int .i64 kx, .string (strOf nx_), .string (strOf tx_), .slice Ax ax.length cax, .slice A2x kx_.length c2x] 25)) _ (Nat.le_refl _) hp6 (NdI.stay hv1 fun k hk => ⟨hk, hbt.block k (Nat.lt_trans (hX'.out k hk) hp5.lt)⟩) hl9);clear hst hp5 hw5 hKr hc1 hx1 hbt hp6 hl9 hv1;go_wp2_with fail;refine hrec.out.mono ?_;rintro e w7 ⟨⟨r, rfl⟩, v7, hp9, hw9⟩
   have hfin : Hid (∃ v1, Pr b v1 (writeL (l.take (j + 1))) w7 /\ Wk b (.slice none 0 0) w1 v1 w7) := Hd ⟨v7, by
    rw [hnx.out]
    exact hp9, hw6.out.trans hw9⟩
   clear hp9 hw9 m0 m1 m2 m3 m4;go_wp2_with fail;go_roundw
   case rel => exact ⟨j + 1, by omega, by go_num, hfin⟩
   case measure => simp [intOf]; omega
  ·have hie : j = n := by omega
   subst hie;have i1 : decide ((j : Int) < (j : Int)) = false := by simp
   obtain ⟨v5, hp5, hw5⟩ := hst.out;rw [List.take_of_length_le (by rw [hln'.out]; exact Nat.le_refl _)] at hp5;have hsc := Hd (string_any b v5 _ wr hp5 hlen'.out);have hbb := Hd (hlow.out _ _ hw5);clear hst hp5 hw5;go_wp2_with fail;refine hsc.out.mono ?_;rintro e w7 ⟨rfl, hb7⟩;have hfin : Hid (Below w.heap.size w w7) := Hd (by rw [hb'.out]; exact hbb.out.trans hb7);clear hb7;go_wp2_with fail;go_ret;exact ⟨rfl, hfin.out⟩
set_option maxHeartbeats 4000000 in
set_option maxRecDepth 100000 in
theorem Node_any (X : Nat -> Prop) (w : World) (vs : List Value) (n : Nd) (hn : NdI X w vs n) (hX : ∀ j, X j -> j < w.heap.size) (hlen : (writeN n).length <= 100000000000000) :
  Calls Tryz.prog 18 #[.agg vs.toArray] w fun e w' => e = .returned (.string (strOf (writeN n))) /\ Below w.heap.size w w' := by
 have hw0 : writeL [n] = writeN n := by simp [writeL]
 obtain ⟨N, hN⟩ : ∃ N, n = N := ⟨_, rfl⟩;have hn' := hn;rw [hN] at hn';obtain ⟨kd, nm, tx, as_, ks⟩ := n;obtain ⟨A, ca, A2, c2, rfl, -⟩ := hn.cells;rw [hN] at hw0 hlen ⊢;clear hn hN;have hba := below_alloc w (.cells #[.int .i64 kd, .string (strOf nm), .string (strOf tx), .slice A as_.length ca, .slice A2 ks.length c2] 25);have hnb := heap_alloc_new w (.cells #[.int .i64 kd, .string (strOf nm), .string (strOf tx), .slice A as_.length ca, .slice A2 ks.length c2] 25);obtain ⟨T, hT⟩ : ∃ T, w.heap.size = T := ⟨_, rfl⟩;obtain ⟨w1, hw1⟩ : ∃ w1, w.alloc (.cells #[.int .i64 kd, .string (strOf nm), .string (strOf tx), .slice A as_.length ca, .slice A2 ks.length c2] 25) = w1 := ⟨_, rfl⟩;rw [hw1] at hba hnb;rw [hT] at hnb;have x0 : w1.cell? ⟨T, 0, none⟩ = some _ := Xp.cell_blk hnb rfl;have x1 : w1.cell? ⟨T, 1, none⟩ = some _ := Xp.cell_blk hnb rfl;have x2 : w1.cell? ⟨T, 2, none⟩ = some _ := Xp.cell_blk hnb rfl;have x3 : w1.cell? ⟨T, 3, none⟩ = some _ := Xp.cell_blk hnb rfl;have x4 : w1.cell? ⟨T, 4, none⟩ = some _ := Xp.cell_blk hnb rfl;have hbb := below_alloc w1 (.cells #[.int .i64 kd, .string (strOf nm), .string (strOf tx), .slice A as_.length ca, .slice A2 ks.length c2] 25);have h02 := hba.trans (hbb.mono hba.size)
 have hsq2 : Sq (NdE (fun j => j < (w1.alloc (.cells #[.int .i64 kd, .string (strOf nm), .string (strOf tx), .slice A as_.length ca, .slice A2 ks.length c2] 25)).heap.size)) 5 (w1.alloc (.cells #[.int .i64 kd, .string (strOf nm), .string (strOf tx), .slice A as_.length ca, .slice A2 ks.length c2] 25)) (some ⟨w1.heap.size, 0, none⟩) 1 1 [N] :=
  sq_one w1 [.int .i64 kd, .string (strOf nm), .string (strOf tx), .slice A as_.length ca, .slice A2 ks.length c2] N 25 (0, 0) rfl (NdI.stay hn' fun k hk => ⟨Nat.lt_of_lt_of_le (hX k hk) h02.size, h02.block k (hX k hk)⟩)
 have hc := Hd (Nodes_any _ _ _ 1 1 [N] hsq2 (fun a e _ => by injection e with e; rw [<- e]; exact (Array.getElem?_eq_some_iff.1 (heap_alloc_new w1 _)).1) (fun j hj => hj) (by rw [hw0]; exact hlen));rw [hw0] at hc;have h02H := Hd h02;clear hba hnb hbb h02 hsq2 hn' hX hw0 hlen
 go_enter Tryz.func18, Tryz.ntmps18
 go_wp2_with fail;refine hc.out.mono ?_;rintro e w5 ⟨rfl, hb5⟩;have hfin := Xp.tr_ h02H hb5;clear hb5 hc;go_wp2_with fail;go_ret;exact ⟨rfl, hfin.out⟩
end Go.Proofs.YtokdnhdfmgfkeaaGreatDoor.Xp
end
