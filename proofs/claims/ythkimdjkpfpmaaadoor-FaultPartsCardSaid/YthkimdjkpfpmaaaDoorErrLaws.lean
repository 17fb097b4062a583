/- awake; the law FaultWraps. -/
import Derived.Test.YthkimdjkpfpmaaaDoorErrWalk6
namespace Go.Proofs.YthkimdjkpfpmaaaDoor.Er
open Go.RowKit

theorem itx_2 : itx 2 = ⟨#[50]⟩ := by
  unfold itx Lib.itoa
  rw [if_neg (by decide), Lib.decDigits]
  rfl
theorem itx_17 : itx 17 = ⟨#[49, 55]⟩ := by
  unfold itx Lib.itoa
  rw [if_neg (by decide), Lib.decDigits, dif_neg (by decide), Lib.decDigits]
  rfl

def awakeText : ByteArray := ⟨#[99, 104, 101, 99, 107, 32, 105, 110, 58, 32, 112, 97, 114, 115, 101, 58, 32, 99, 111, 100, 101, 32, 50, 32, 97, 116, 32, 49, 55]⟩

theorem awake_text : tx [⟨#[99, 104, 101, 99, 107, 32, 105, 110]⟩, ⟨#[112, 97, 114, 115, 101]⟩] ++ pt 2 17 = awakeText := by
  unfold pt
  rw [itx_2, itx_17]
  decide +kernel

theorem awake_any (B : Nat) (w : World) (hE : En B w) :
    Calls Tryd.prog 7 #[] w fun e w' => e = .returned (.bool true) ∧ Below w.heap.size w w' := by
  have hE' := Lib.hid hE
  clear hE
  go_enter Tryd.func7, Tryd.ntmps7
  go_wp2_with fail
  refine (New_any 2 17 (by decide) _).mono ?_
  rintro e w1 ⟨v1, rfl, hb1, hf1⟩
  have hb1' := Lib.hid hb1
  have hf1' := Lib.hid hf1
  clear hb1 hf1
  go_wp2_with fail
  refine (Wrap_any _ _ _ _ _ _ hf1'.out).mono ?_
  rintro e w2 ⟨v2, rfl, hb2, hf2⟩
  have hb2' := Lib.hid (hb1'.out.trans (hb2.mono hb1'.out.size))
  have hf2' := Lib.hid hf2
  clear hb2 hf2 hf1' hb1'
  go_wp2_with fail
  refine (Wrap_any _ _ _ _ _ _ hf2'.out).mono ?_
  rintro e w3 ⟨v3, rfl, hb3, hf3⟩
  have hb3' := Lib.hid (hb2'.out.trans (hb3.mono hb2'.out.size))
  have hf3' := Lib.hid hf3
  clear hb3 hf3 hf2' hb2'
  go_wp2_with fail
  refine (Text_any 2 17 ⟨by decide, by decide⟩ ⟨by decide, by decide⟩ _ (by decide) (by intro s hs; simp at hs; rcases hs with rfl | rfl <;> decide) _ B _ (hE'.out.sz hb3'.out) hf3'.out).mono ?_
  rw [awake_text]
  rintro e w4 ⟨rfl, hb4⟩
  have hb4' := Lib.hid (hb3'.out.trans (hb4.mono hb3'.out.size))
  have hf4' := Lib.hid ((hf3'.out.on hb4).up hb4.size)
  clear hb4 hf3' hb3'
  unfold awakeText
  go_wp2_with fail
  refine (Depth_any 2 17 _ (by decide) _ B _ (hE'.out.sz hb4'.out) hf4'.out).mono ?_
  rintro e w5 ⟨rfl, hb5⟩
  have hb5' := Lib.hid (hb4'.out.trans (hb5.mono hb4'.out.size))
  have hf5' := Lib.hid ((hf4'.out.on hb5).up hb5.size)
  clear hb5 hf4' hb4'
  go_wp2_with fail
  refine (Code_any 2 17 _ _ B _ (hE'.out.sz hb5'.out) hf5'.out).mono ?_
  rintro e w6 ⟨rfl, hb6⟩
  have hb6' := Lib.hid (hb5'.out.trans (hb6.mono hb5'.out.size))
  clear hb6 hf5' hb5'
  go_wp2_with fail
  go_ret
  exact ⟨rfl, hb6'⟩

theorem wraps_ok (at_ : Int) (s : ByteArray) (B : Nat) (w : World) (hE : En B w) :
    Calls Tryd.prog 5 #[.int .i64 0, .int .i64 at_, .string s] w fun e w' => e = .returned (.bool true) ∧ Below w.heap.size w w' := by
  go_enter Tryd.func5, Tryd.ntmps5
  go_wp2_with fail
  refine (awake_any B _ hE).mono ?_
  rintro e w0 ⟨rfl, hb0⟩
  have hb0' := Lib.hid hb0
  clear hb0 hE
  go_wp2_with fail
  refine (New_ok _ _).mono ?_
  rintro e w1 ⟨rfl, rfl⟩
  go_wp2_with fail
  refine (Wrap_ok _ _).mono ?_
  rintro e w2 ⟨rfl, rfl⟩
  go_wp2_with fail
  go_ret
  exact ⟨rfl, hb0'⟩

set_option maxHeartbeats 1000000 in
theorem wraps_any (code at_ : Int) (h0 : code ≠ 0) (hc : Wf code) (ha : Wf at_) (s : ByteArray) (hs : s.size ≤ 140737488351232) (B : Nat) (w : World) (hE : En B w) :
    Calls Tryd.prog 5 #[.int .i64 code, .int .i64 at_, .string s] w fun e w' => e = .returned (.bool true) ∧ Below w.heap.size w w' := by
  have h0' : (code == 0) = false := by simpa using h0
  have hE' := Lib.hid hE
  have a1 := fun w => run_string_add_sum (P := Tryd.prog) w s kColon (by rw [kColon_size]; omega)
  have a2 := fun w => run_string_add_sum (P := Tryd.prog) w (s ++ kColon) (tx [] ++ pt code at_) (by
    have h1 : (tx []).size = 0 := rfl
    have h2 := pt_size code at_ hc ha
    rw [ByteArray.size_append, ByteArray.size_append, kColon_size]
    omega)
  have et : (s ++ kColon) ++ (tx [] ++ pt code at_) = tx [s] ++ pt code at_ := by
    have := tx_snoc [] s
    rw [List.nil_append] at this
    rw [this]
    have e0 : tx [] = ⟨#[]⟩ := rfl
    have e1 : ∀ x : ByteArray, (⟨#[]⟩ : ByteArray) ++ x = x := fun x => by apply ByteArray.ext; simp
    rw [e0, e1, e1]
  rw [et] at a2
  have e1 : kColon = ⟨#[58, 32]⟩ := rfl
  obtain ⟨x, hx⟩ : ∃ x, s ++ kColon = x := ⟨_, rfl⟩
  rw [hx] at a1 a2
  rw [e1] at a1
  have cW := fun v B w h1 h2 => Text_any code at_ hc ha [s] (by simp) (by simpa using hs) v B w h1 h2
  have cE := fun v B w h1 h2 => Text_any code at_ hc ha [] (by simp) (by simp) v B w h1 h2
  obtain ⟨y, hy⟩ : ∃ y, tx [s] ++ pt code at_ = y := ⟨_, rfl⟩
  obtain ⟨z, hz⟩ : ∃ z, tx [] ++ pt code at_ = z := ⟨_, rfl⟩
  rw [hy] at cW a2
  rw [hz] at cE a2
  have cW' := Lib.hid cW
  have cE' := Lib.hid cE
  clear et e1 hx hy hz cW cE hE
  go_enter Tryd.func5, Tryd.ntmps5
  go_wp2_with fail
  refine (awake_any B _ hE'.out).mono ?_
  rintro e w0 ⟨rfl, hb0⟩
  have hb0' := Lib.hid hb0
  clear hb0
  go_wp2_with fail
  refine (New_any code at_ h0 _).mono ?_
  rintro e w1 ⟨v1, rfl, hb1, hf1⟩
  have hb1' := Lib.hid (hb0'.out.trans (hb1.mono hb0'.out.size))
  have hf1' := Lib.hid hf1
  clear hb1 hf1 hb0'
  go_wp2_with fail
  refine (Wrap_any _ _ _ _ _ _ hf1'.out).mono ?_
  rintro e w2 ⟨v2, rfl, hb2, hf2⟩
  have hb2' := Lib.hid (hb1'.out.trans (hb2.mono hb1'.out.size))
  have hg2' := Lib.hid ((hf1'.out.on hb2).up hb2.size)
  have hf2' := Lib.hid hf2
  obtain ⟨T2, ad2, rfl⟩ := hf2.iface
  clear hb2 hf2 hf1' hb1'
  go_wp2_with fail
  refine (Code_any code at_ _ _ B _ (hE'.out.sz hb2'.out) hf2'.out).mono ?_
  rintro e w3 ⟨rfl, hb3⟩
  have hb3' := Lib.hid (hb2'.out.trans (hb3.mono hb2'.out.size))
  have hf3' := Lib.hid ((hf2'.out.on hb3).up hb3.size)
  have hg3' := Lib.hid ((hg2'.out.on hb3).up hb3.size)
  clear hb3 hf2' hg2' hb2'
  go_wp2_with fail
  refine (Code_any code at_ _ _ B _ (hE'.out.sz hb3'.out) hg3'.out).mono ?_
  rintro e w4 ⟨rfl, hb4⟩
  have hb4' := Lib.hid (hb3'.out.trans (hb4.mono hb3'.out.size))
  have hf4' := Lib.hid ((hf3'.out.on hb4).up hb4.size)
  have hg4' := Lib.hid ((hg3'.out.on hb4).up hb4.size)
  clear hb4 hf3' hg3' hb3'
  go_wp2_with fail
  refine (At_any code at_ _ _ B _ (hE'.out.sz hb4'.out) hf4'.out).mono ?_
  rintro e w5 ⟨rfl, hb5⟩
  have hb5' := Lib.hid (hb4'.out.trans (hb5.mono hb4'.out.size))
  have hf5' := Lib.hid ((hf4'.out.on hb5).up hb5.size)
  have hg5' := Lib.hid ((hg4'.out.on hb5).up hb5.size)
  clear hb5 hf4' hg4' hb4'
  go_wp2_with fail
  refine (At_any code at_ _ _ B _ (hE'.out.sz hb5'.out) hg5'.out).mono ?_
  rintro e w6 ⟨rfl, hb6⟩
  have hb6' := Lib.hid (hb5'.out.trans (hb6.mono hb5'.out.size))
  have hf6' := Lib.hid ((hf5'.out.on hb6).up hb6.size)
  have hg6' := Lib.hid ((hg5'.out.on hb6).up hb6.size)
  clear hb6 hf5' hg5' hb5'
  go_wp2_with fail
  refine (Depth_any code at_ _ (by simp) _ B _ (hE'.out.sz hb6'.out) hf6'.out).mono ?_
  rintro e w7 ⟨rfl, hb7⟩
  have hb7' := Lib.hid (hb6'.out.trans (hb7.mono hb6'.out.size))
  have hf7' := Lib.hid ((hf6'.out.on hb7).up hb7.size)
  have hg7' := Lib.hid ((hg6'.out.on hb7).up hb7.size)
  clear hb7 hf6' hg6' hb6'
  go_wp2_with fail
  refine (cW'.out _ B _ (hE'.out.sz hb7'.out) hf7'.out).mono ?_
  rintro e w8 ⟨rfl, hb8⟩
  have hb8' := Lib.hid (hb7'.out.trans (hb8.mono hb7'.out.size))
  have hg8' := Lib.hid ((hg7'.out.on hb8).up hb8.size)
  clear hb8 hf7' hg7' hb7'
  go_wp2_with fail
  refine (cE'.out _ B _ (hE'.out.sz hb8'.out) hg8'.out).mono ?_
  rintro e w9 ⟨rfl, hb9⟩
  have hb9' := Lib.hid (hb8'.out.trans (hb9.mono hb8'.out.size))
  clear hb9 hg8' hb8'
  go_wp2_with fail
  go_ret
  exact ⟨rfl, hb9'⟩
end Go.Proofs.YthkimdjkpfpmaaaDoor.Er
