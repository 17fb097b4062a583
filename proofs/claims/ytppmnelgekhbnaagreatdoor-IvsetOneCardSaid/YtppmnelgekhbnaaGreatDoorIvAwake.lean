/- The law's awake and small. -/
import Derived.Test.YtppmnelgekhbnaaGreatDoorIvParse
import Derived.Test.YtppmnelgekhbnaaGreatDoorIvLaws
namespace Go.Proofs.YtppmnelgekhbnaaGreatDoor.IvW
open Go.RowKit Iv

theorem of_a : of? [3, 1, 2, 5] = [(1, 3), (5, 5)] := by kernel_rfl
theorem text_a : text? [(1, 3), (5, 5)] = [49, 45, 51, 44, 53] := by
  unfold text?
  rw [if_pos (by decide)]
  simp [textP, it, dec, Lib.itoa, Lib.decDigits, Lib.join, List.intercalate]
theorem wo_b : without? [(1, 5)] [(2, 3)] = [(1, 1), (4, 5)] := by
  rw [without_ok (by decide) (by decide)]
  kernel_rfl
theorem text_b : text? [(1, 1), (4, 5)] = [49, 44, 52, 45, 53] := by
  unfold text?
  rw [if_pos (by decide)]
  simp [textP, it, dec, Lib.itoa, Lib.decDigits, Lib.join, List.intercalate]
theorem parse_c : parse? [49, 45, 50, 44, 51] = none := by kernel_rfl

theorem ints_lit (w : World) (C : Array Value) (E : TypeId) (fr : Nat × Nat) (l : List Int) (n g : Nat) (hg : w.heap.size = g) (hn : l.length = n) (hn2 : n ≤ 1000) (hC : C.toList = l.map (Value.int .i64)) :
    Rd (w.alloc (.cells C E fr)) (some ⟨g, 0, none⟩) n n (l.map (Value.int .i64)) := by
  subst hg
  refine ⟨by simpa using hn, Nat.le_refl _, by omega, fun h => by simp at h, fun _ => ⟨_, _, rfl, by simp, fun j u hu => ?_⟩⟩
  have hh : (w.alloc (.cells C E fr)).heap[w.heap.size]? = some (.cells C E fr) := heap_alloc_new w _
  rw [← hC, Array.getElem?_toList] at hu
  simp only [World.cell?, hh, Nat.zero_add]
  simpa using hu

theorem small_any (A : Option Addr) (n c : Nat) (B : Option Addr) (m d : Nat) (w : World) :
    Calls Tryz.prog 5 #[.slice A n c, .slice B m d] w fun e w' => e = .returned (.bool (decide (n ≤ 300) && decide (m ≤ 300))) ∧ w' = w := by
  by_cases h1 : n ≤ 300
  · have t1 : decide ((n : Int) ≤ 300) = true := by simp; omega
    have e1 : decide (n ≤ 300) = true := by simpa using h1
    by_cases h2 : m ≤ 300
    · have t2 : decide ((m : Int) ≤ 300) = true := by simp; omega
      have e2 : decide (m ≤ 300) = true := by simpa using h2
      rw [e1, e2]
      clear e1 e2
      go_enter Tryz.func5, Tryz.ntmps5
      go_wp2_with fail
      go_ret
      exact ⟨rfl, rfl⟩
    · have t2 : decide ((m : Int) ≤ 300) = false := by simp; omega
      have e2 : decide (m ≤ 300) = false := by simpa using h2
      rw [e1, e2]
      clear e1 e2
      go_enter Tryz.func5, Tryz.ntmps5
      go_wp2_with fail
      go_ret
      exact ⟨rfl, rfl⟩
  · have t1 : decide ((n : Int) ≤ 300) = false := by simp; omega
    have e1 : decide (n ≤ 300) = false := by simpa using h1
    rw [e1]
    clear e1
    go_enter Tryz.func5, Tryz.ntmps5
    go_wp2_with fail
    go_ret
    exact ⟨rfl, rfl⟩

set_option maxHeartbeats 2000000 in
set_option maxRecDepth 100000 in
theorem awake_any (w : World) (hE : Iw w) :
    Calls Tryz.prog 4 #[] w fun e w' => e = .returned (.bool true) ∧ Below w.heap.size w w' := by
  have hE' := Lib.hid hE
  have b0 := below_alloc w (.cells #[.int .i64 3, .int .i64 1, .int .i64 2, .int .i64 5] 3)
  have c1 := of_any (some ⟨w.heap.size, 0, none⟩) 4 4 [3, 1, 2, 5] _ (ints_lit w #[.int .i64 3, .int .i64 1, .int .i64 2, .int .i64 5] 3 (0, 0) [3, 1, 2, 5] 4 _ rfl rfl (by omega) rfl)
  rw [of_a] at c1
  have hx0 := Lib.hid b0
  clear hE b0
  go_enter Tryz.func4, Tryz.ntmps4
  go_wp2_with fail
  refine c1.mono ?_
  rintro e w1 ⟨A1, c1', rfl, ho1, hb1⟩
  have hx1 := Lib.hid (hx0.out.trans (hb1.mono hx0.out.size))
  have hR1 := Lib.hid ho1.rp
  clear c1 ho1 hb1
  have c2 := parse_any ⟨#[49, 45, 50, 44, 51]⟩ (by decide) w1 (hE'.out.below hx1.out)
  rw [show (ByteArray.mk #[49, 45, 50, 44, 51]).data.toList = [49, 45, 50, 44, 51] from rfl, parse_c] at c2
  go_wp2_with fail
  refine c2.mono ?_
  rintro e w2 ⟨A2, n2, c2', l2, rfl, _, _, hb2⟩
  have hx2 := Lib.hid (hx1.out.trans (hb2.mono hx1.out.size))
  have hR2 := Lib.hid (hR1.out.below hb2)
  clear c2 hb2 hR1
  have c3 := text_any A1 _ c1' _ w2 hR2.out (hE'.out.below hx2.out).tens
  rw [text_a] at c3
  obtain ⟨T, hT⟩ : ∃ T, strOf [49, 45, 51, 44, 53] = T := ⟨_, rfl⟩
  rw [hT] at c3
  have q1 : (T.toList == [49, 45, 51, 44, 53]) = true := by rw [← hT, Lib.toList_data]; rfl
  clear hT
  go_wp2_with fail
  refine c3.mono ?_
  rintro e w3 ⟨rfl, hb3⟩
  have hx3 := Lib.hid (hx2.out.trans (hb3.mono hx2.out.size))
  clear c3 hb3 hR2
  have b4 := below_alloc w3 (.cells #[.int .i64 1, .int .i64 5] 41)
  have s4 : (w3.alloc (.cells #[.int .i64 1, .int .i64 5] 41)).heap.size = w3.heap.size + 1 := by simp
  have l4 := rp_lit w3 #[.int .i64 1, .int .i64 5] 41 (0, 0) [(1, 5)] 1 rfl (by omega) rfl
  have b5 := below_alloc (w3.alloc (.cells #[.int .i64 1, .int .i64 5] 41)) (.cells #[.int .i64 2, .int .i64 3] 41)
  have l5 := rp_lit' (w3.alloc (.cells #[.int .i64 1, .int .i64 5] 41)) #[.int .i64 2, .int .i64 3] 41 (0, 0) [(2, 3)] 1 _ s4 rfl (by omega) rfl
  have l4' := l4.below b5
  have b35 := b4.trans (b5.mono (by rw [s4]; omega))
  obtain ⟨w5, hw5⟩ : ∃ w5, (w3.alloc (.cells #[.int .i64 1, .int .i64 5] 41)).alloc (.cells #[.int .i64 2, .int .i64 3] 41) = w5 := ⟨_, rfl⟩
  rw [hw5] at l5 l4' b35
  have hx5 := Lib.hid (hx3.out.trans (b35.mono hx3.out.size))
  have c6 := without_any _ 1 1 [(1, 5)] _ 1 1 [(2, 3)] w5 l4' l5 (by omega) (by omega)
  rw [wo_b] at c6
  clear l4 l5 l4' b4 b5 s4 b35
  go_wp2_with fail
  refine c6.mono ?_
  rintro e w6 ⟨A6, c6', rfl, ho6, hb6⟩
  have hx6 := Lib.hid (hx5.out.trans (hb6.mono hx5.out.size))
  have c7 := text_any A6 _ c6' _ w6 ho6.rp (hE'.out.below hx6.out).tens
  rw [text_b] at c7
  obtain ⟨U, hU⟩ : ∃ U, strOf [49, 44, 52, 45, 53] = U := ⟨_, rfl⟩
  rw [hU] at c7
  have q2 : (U.toList == [49, 44, 52, 45, 53]) = true := by rw [← hU, Lib.toList_data]; rfl
  clear hU c6 ho6 hb6 hw5
  go_wp2_with fail
  refine c7.mono ?_
  rintro e w7 ⟨rfl, hb7⟩
  have hx7 := Lib.hid (hx6.out.trans (hb7.mono hx6.out.size))
  clear c7 hb7
  go_wp2_with fail
  go_ret
  exact ⟨rfl, hx7.out⟩
end Go.Proofs.YtppmnelgekhbnaaGreatDoor.IvW
