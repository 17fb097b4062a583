/- The laws FaultCodes and FaultParts. -/
import Derived.Test.YthkimdjkpfpmaaaDoorErrLaws
namespace Go.Proofs.YthkimdjkpfpmaaaDoor.Er
open Go.RowKit

theorem codes_many (code at_ : Int) (A : Option Addr) (n c : Nat) (hn : 50 < n) (B : Nat) (w : World) (hE : En B w) :
    Calls Tryd.prog 4 #[.int .i64 code, .int .i64 at_, .slice A n c] w fun e w' => e = .returned (.bool true) ∧ Below w.heap.size w w' := by
  have i0 : decide ((50 : Int) < (n : Int)) = true := by simp; omega
  go_enter Tryd.func4, Tryd.ntmps4
  go_wp2_with fail
  refine (awake_any B _ hE).mono ?_
  rintro e w0 ⟨rfl, hb0⟩
  have hb0' := Lib.hid hb0
  clear hb0 hE
  go_wp2_with fail
  go_ret
  exact ⟨rfl, hb0'⟩

set_option maxHeartbeats 1000000 in
theorem codes_ok (at_ : Int) (A : Option Addr) (n c : Nat) (ss : List ByteArray) (hn : n ≤ 50) (B : Nat) (w : World) (hS : Ss w A n c ss) (hE : En B w) :
    Calls Tryd.prog 4 #[.int .i64 0, .int .i64 at_, .slice A n c] w fun e w' => e = .returned (.bool true) ∧ Below w.heap.size w w' := by
  have i0 : decide ((50 : Int) < (n : Int)) = false := by simp; omega
  go_enter Tryd.func4, Tryd.ntmps4
  go_wp2_with fail
  refine (awake_any B _ hE).mono ?_
  rintro e w0 ⟨rfl, hb0⟩
  have hb0' := Lib.hid hb0
  have hS' := Lib.hid (hS.below hb0)
  clear hb0 hE hS
  go_wp2_with fail
  refine (made_ok at_ A n c ss hn _ hS'.out).mono ?_
  rintro e w1 ⟨rfl, hb1⟩
  have hb1' := Lib.hid (hb0'.out.trans (hb1.mono hb0'.out.size))
  clear hb1 hb0' hS'
  go_wp2_with fail
  refine (Code_ok _).mono ?_
  rintro e w2 ⟨rfl, hb2⟩
  have hb2' := Lib.hid (hb1'.out.trans (hb2.mono hb1'.out.size))
  clear hb2 hb1'
  go_wp2_with fail
  refine (At_ok _).mono ?_
  rintro e w3 ⟨rfl, hb3⟩
  have hb3' := Lib.hid (hb2'.out.trans (hb3.mono hb2'.out.size))
  clear hb3 hb2'
  go_wp2_with fail
  refine (Depth_ok _).mono ?_
  rintro e w4 ⟨rfl, hb4⟩
  have hb4' := Lib.hid (hb3'.out.trans (hb4.mono hb3'.out.size))
  clear hb4 hb3'
  go_wp2_with fail
  refine (Text_ok _).mono ?_
  rintro e w5 ⟨rfl, hb5⟩
  have hb5' := Lib.hid (hb4'.out.trans (hb5.mono hb4'.out.size))
  clear hb5 hb4'
  go_wp2_with fail
  go_ret
  exact ⟨rfl, hb5'⟩

set_option maxHeartbeats 1000000 in
theorem codes_any (code at_ : Int) (h0 : code ≠ 0) (hc : Wf code) (ha : Wf at_) (A : Option Addr) (n c : Nat) (ss : List ByteArray) (hn : n ≤ 50) (hz : ∀ s ∈ ss, s.size ≤ 140737488351232) (B : Nat) (w : World) (hS : Ss w A n c ss) (hE : En B w) :
    Calls Tryd.prog 4 #[.int .i64 code, .int .i64 at_, .slice A n c] w fun e w' => e = .returned (.bool true) ∧ Below w.heap.size w w' := by
  have h0' : (code == 0) = false := by simpa using h0
  have i0 : decide ((50 : Int) < (n : Int)) = false := by simp; omega
  have hl := hS.len
  have hlr : ss.reverse.length = n := by simpa using hl
  have cT := fun v B w h1 h2 => Text_any code at_ hc ha ss.reverse (by omega) (fun s hs => hz s (List.mem_reverse.1 hs)) v B w h1 h2
  have cR := fun w h => refText_any code at_ h0 hc ha A n c ss (by omega) hz w h
  have cD := fun v B w h1 h2 => Depth_any code at_ ss.reverse (by omega) v B w h1 h2
  rw [hlr] at cD
  obtain ⟨y, hy⟩ : ∃ y, tx ss.reverse ++ pt code at_ = y := ⟨_, rfl⟩
  rw [hy] at cT cR
  have cT' := Lib.hid cT
  have cR' := Lib.hid cR
  have cD' := Lib.hid cD
  have hE' := Lib.hid hE
  have hS0 := Lib.hid hS
  clear hy cT cR cD hE hS hz hlr hl
  go_enter Tryd.func4, Tryd.ntmps4
  go_wp2_with fail
  refine (awake_any B _ hE'.out).mono ?_
  rintro e w0 ⟨rfl, hb0⟩
  have hb0' := Lib.hid hb0
  have hS' := Lib.hid (hS0.out.below hb0)
  clear hb0
  go_wp2_with fail
  refine (made_any code at_ h0 A n c ss hn _ hS'.out).mono ?_
  rintro e w1 ⟨v, rfl, hb1, hf1⟩
  have hb1' := Lib.hid (hb0'.out.trans (hb1.mono hb0'.out.size))
  have hf1' := Lib.hid hf1
  clear hb1 hb0' hS' hf1
  go_wp2_with fail
  refine (Code_any code at_ _ _ B _ (hE'.out.sz hb1'.out) hf1'.out).mono ?_
  rintro e w3 ⟨rfl, hb3⟩
  have hb3' := Lib.hid (hb1'.out.trans (hb3.mono hb1'.out.size))
  have hf3' := Lib.hid ((hf1'.out.on hb3).up hb3.size)
  clear hb3 hf1' hb1'
  go_wp2_with fail
  refine (At_any code at_ _ _ B _ (hE'.out.sz hb3'.out) hf3'.out).mono ?_
  rintro e w5 ⟨rfl, hb5⟩
  have hb5' := Lib.hid (hb3'.out.trans (hb5.mono hb3'.out.size))
  have hf5' := Lib.hid ((hf3'.out.on hb5).up hb5.size)
  clear hb5 hf3' hb3'
  go_wp2_with fail
  refine (cD'.out _ B _ (hE'.out.sz hb5'.out) hf5'.out).mono ?_
  rintro e w7 ⟨rfl, hb7⟩
  have hb7' := Lib.hid (hb5'.out.trans (hb7.mono hb5'.out.size))
  have hf7' := Lib.hid ((hf5'.out.on hb7).up hb7.size)
  clear hb7 hf5' hb5'
  go_wp2_with fail
  refine (cT'.out _ B _ (hE'.out.sz hb7'.out) hf7'.out).mono ?_
  rintro e w8 ⟨rfl, hb8⟩
  have hb8' := Lib.hid (hb7'.out.trans (hb8.mono hb7'.out.size))
  clear hb8 hf7' hb7'
  go_wp2_with fail
  refine (cR'.out _ (hS0.out.below hb8'.out)).mono ?_
  rintro e w9 ⟨rfl, hb9⟩
  have hb9' := Lib.hid (hb8'.out.trans (hb9.mono hb8'.out.size))
  clear hb9 hb8'
  go_wp2_with fail
  go_ret
  exact ⟨rfl, hb9'⟩
end Go.Proofs.YthkimdjkpfpmaaaDoor.Er
