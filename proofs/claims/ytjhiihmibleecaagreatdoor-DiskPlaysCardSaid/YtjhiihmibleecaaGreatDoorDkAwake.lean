/- The law's awake. -/
import Derived.Test.YtjhiihmibleecaaGreatDoorDkAct
namespace Go.Proofs.YtjhiihmibleecaaGreatDoor.Dk
open Go.RowKit

def aw0 : D := new 10
def aw1 : D := ⟨10, [([97], ⟨[], 0⟩)], [], 1, false⟩
def aw2 : D := ⟨10, [([97], ⟨[104, 101, 108, 108, 111], 0⟩)], [], 2, false⟩
def aw3 : D := ⟨10, [([97], ⟨[104, 101, 108, 108, 111], 5⟩)], [], 3, false⟩
def aw4 : D := ⟨10, [([97], ⟨[104, 101, 108, 108, 111], 5⟩)], [], 4, false⟩
def aw5 : D := ⟨10, [([97], ⟨[104, 101, 108, 108, 111, 119, 111, 114], 5⟩)], [], 5, false⟩
def aw6 : D := ⟨10, [([97], ⟨[104, 101, 108, 108, 111, 119, 111], 7⟩)], [], 5, false⟩
theorem awe1 : op aw0 1 [97] [] 0 [] = (0, aw1) := by rfl
theorem awe2 : op aw1 2 [97] [] 0 [104, 101, 108, 108, 111] = (0, aw2) := by rfl
theorem awe3 : op aw2 4 [97] [] 0 [] = (0, aw3) := by rfl
theorem awe4 : op aw3 2 [97] [] 0 [119, 111, 114, 108, 100, 33] = (40, aw4) := by rfl
theorem awe5 : op aw4 2 [97] [] 0 [119, 111, 114] = (0, aw5) := by rfl
theorem awe6 : crash aw5 [2] = aw6 := by rfl
theorem awe7 : (Dk.get aw6.fs [97]).isSome = true ∧ ((Dk.get aw6.fs [97]).map (·.data)).getD [] = [104, 101, 108, 108, 111, 119, 111] := by exact ⟨rfl, rfl⟩

theorem own_lit (w : World) (C : Array Value) (E : TypeId) (n : Nat) (hn : C.size = n) (hn2 : n ≤ 1000000) : (w.alloc (.cells C E)).ownsRow w.heap.size E 1 (.slice (some ⟨w.heap.size, 0, none⟩) n n) n C.toList := by
  subst hn
  refine ⟨by simp, .inr ⟨_, _, C, rfl, Nat.le_refl _, heap_alloc_new w _, Nat.le_refl _, by unfold maxLen; omega, by omega, ?_⟩⟩
  rw [Nat.mul_one, List.take_of_length_le (by simp)]

theorem name_a : (⟨#[97]⟩ : ByteArray).data.toList = [97] := rfl

set_option maxHeartbeats 2000000 in
set_option maxRecDepth 100000 in
theorem awake_any (w : World) :
    Calls Tryz.prog 4 #[] w fun e w' => e = .returned (.bool true) ∧ Below w.heap.size w w' := by
  have kc := fun (w : World) (C : Array Value) (n c : Nat) => Lib.run_convert_bytes_const (P := Tryz.prog) w 35 5 C n c Tryz.underlying35 Tryz.underlying5
  go_enter Tryz.func4, Tryz.ntmps4
  go_wp2_with fail
  refine (New_any w 10).mono ?_
  rintro e w0 ⟨a, mb, rfl, hD, hb⟩
  have hD0 := hD.out w.heap.size (fun _ => ⟨[], 0⟩) (Nat.le_refl _)
  have x0 := Lib.hid hb
  have c0 := Create_any w0 w.heap.size a mb _ _ _ aw0 hD0 (by decide) (by decide) (by decide) ⟨#[97]⟩ (by decide)
  rw [name_a, awe1] at c0
  clear hb hD
  go_wp2_with fail
  refine c0.mono ?_
  rintro e w1 ⟨rfl, hb1, _, L1, F1, hD1⟩
  have x1 := Lib.hid (x0.out.trans hb1)
  have hD1' := Lib.hid hD1
  clear c0 hD0 hb1 hD1
  go_wp2_with fail
  have c1 := Append_any _ w.heap.size a mb _ _ _ aw1 (hD1'.out.below (below_alloc w1 (.cells #[.int .u8 104, .int .u8 101, .int .u8 108, .int .u8 108, .int .u8 111] 5 (5, 6)))) (by decide) (by decide) ⟨#[97]⟩ (by decide) (some ⟨w1.heap.size, 0, none⟩) 5 5 [104, 101, 108, 108, 111] (bs_lit _ _ _ _ _ _ rfl (by decide) rfl) (by decide) (by decide) (by decide)
  rw [name_a, awe2] at c1
  refine c1.mono ?_
  rintro e w2 ⟨rfl, hb2, _, L2, F2, hD2⟩
  have x2 := Lib.hid (x1.out.trans (((below_alloc w1 _).mono x1.out.size).trans hb2))
  have hD2' := Lib.hid hD2
  clear c1 hb2 hD2
  have c2 := Sync_any _ w.heap.size a mb _ _ _ aw2 hD2'.out (by decide) (by decide) ⟨#[97]⟩ (by decide)
  rw [name_a, awe3] at c2
  go_wp2_with fail
  refine c2.mono ?_
  rintro e w3 ⟨rfl, hb3, _, L3, F3, hD3⟩
  have x3 := Lib.hid (x2.out.trans hb3)
  have hD3' := Lib.hid hD3
  clear c2 hb3 hD3
  go_wp2_with fail
  have c3 := Append_any _ w.heap.size a mb _ _ _ aw3 (hD3'.out.below (below_alloc w3 (.cells #[.int .u8 119, .int .u8 111, .int .u8 114, .int .u8 108, .int .u8 100, .int .u8 33] 5 (6, 7)))) (by decide) (by decide) ⟨#[97]⟩ (by decide) (some ⟨w3.heap.size, 0, none⟩) 6 6 [119, 111, 114, 108, 100, 33] (bs_lit _ _ _ _ _ _ rfl (by decide) rfl) (by decide) (by decide) (by decide)
  rw [name_a, awe4] at c3
  refine c3.mono ?_
  rintro e w4 ⟨rfl, hb4, _, L4, F4, hD4⟩
  have x4 := Lib.hid (x3.out.trans (((below_alloc w3 _).mono x3.out.size).trans hb4))
  have hD4' := Lib.hid hD4
  clear c3 hb4 hD4
  go_wp2_with fail
  have c4 := Append_any _ w.heap.size a mb _ _ _ aw4 (hD4'.out.below (below_alloc w4 (.cells #[.int .u8 119, .int .u8 111, .int .u8 114] 5 (3, 4)))) (by decide) (by decide) ⟨#[97]⟩ (by decide) (some ⟨w4.heap.size, 0, none⟩) 3 3 [119, 111, 114] (bs_lit _ _ _ _ _ _ rfl (by decide) rfl) (by decide) (by decide) (by decide)
  rw [name_a, awe5] at c4
  refine c4.mono ?_
  rintro e w5 ⟨rfl, hb5, _, L5, F5, hD5⟩
  have x5 := Lib.hid (x4.out.trans (((below_alloc w4 _).mono x4.out.size).trans hb5))
  have hD5' := Lib.hid hD5
  clear c4 hb5 hD5
  go_wp2_with fail
  have hlit := own_lit w5 #[.int .i64 2] 3 1 rfl (by omega)
  have hba5 := below_alloc w5 (.cells #[.int .i64 2] 3)
  have hl5 : L5.length ≤ 1000 := by have := hD5'.out.len_eq; have h1 : aw5.fs.length = 1 := rfl; omega
  have c5 := Crash_any _ w.heap.size a mb _ _ _ aw5 (hD5'.out.below hba5) hl5 (by decide) _ _ _ [2] (fun w' _ hf => rd_of_own (Fm.row hf hlit (by decide) (by decide)))
  rw [awe6] at c5
  refine c5.mono ?_
  rintro e w6 ⟨rfl, hb6, _, L6, F6, tv6, hD6⟩
  have x6 := Lib.hid (x5.out.trans ((hba5.mono x5.out.size).trans hb6))
  have hD6' := Lib.hid hD6
  clear c5 hb6 hD6 hlit hba5
  have c6 := Read_any _ w.heap.size a mb _ _ _ aw6 hD6'.out ⟨#[97]⟩ (by decide) (by decide)
  go_wp2_with fail
  refine c6.mono ?_
  rintro e w7 ⟨hb7, v, l, rfl, hv, hl⟩
  rw [awe7.2] at hl
  subst hl
  have x7 := Lib.hid (x6.out.trans (hb7.mono x6.out.size))
  obtain ⟨A7, c7, rfl, hbs7⟩ := OwB.slice hv
  have hcv : (convert 35 9 (.slice A7 7 c7)).run Tryz.prog w7 = .ok (.string ⟨#[104, 101, 108, 108, 111, 119, 111]⟩) w7 := Bs.conv (P := Tryz.prog) hbs7 Tryz.underlying35 Tryz.underlying5 Tryz.underlying9
  rw [show (if (Dk.get aw6.fs [97]).isSome = true then (0 : Int) else 42) = 0 from rfl]
  clear c6 hb7 hv hbs7
  go_wp2_with fail
  go_ret
  exact ⟨rfl, x7.out⟩
end Go.Proofs.YtjhiihmibleecaaGreatDoor.Dk
