/- ivset.First, Last. -/
import Derived.Test.YtppmnelgekhbnaaGreatDoorIvCount
namespace Go.Proofs.YtppmnelgekhbnaaGreatDoor.IvW
open Go.RowKit Iv

set_option maxHeartbeats 1000000 in
set_option maxRecDepth 100000 in
theorem first_any (A : Option Addr) (n c : Nat) (l : List Span) (w : World) (hR : Rp w A n c l) :
    Calls Tryz.prog 12 #[.slice A n c] w fun e w' => e = .returned (.int .i64 (first? l)) ∧ Below w.heap.size w w' := by
  have hla := hR.len
  have a1 := hR.le
  have a2 := hR.max
  have c1 := may_any A n c l w hR
  unfold first?
  by_cases h0 : n = 0
  · subst h0
    have : l = [] := List.eq_nil_of_length_eq_zero hla
    subst this
    simp only [List.head?_nil, Option.map_none, Option.getD_none, ite_self]
    go_enter Tryz.func12, Tryz.ntmps12
    go_wp2_with fail
    go_ret
    exact ⟨rfl, Below.refl _ _⟩
  have t0 : ((n : Int) == 0) = false := by rw [beq_eq_false_iff_ne]; omega
  cases ha : okB 1 l
  · rw [ha] at c1
    go_enter Tryz.func12, Tryz.ntmps12
    go_wp2_with (go_at_call 7; refine c1.mono ?_; rintro e w1 ⟨rfl, hb1⟩)
    go_ret
    exact ⟨rfl, hb1⟩
  · rw [ha] at c1
    obtain ⟨b', off, ⟨f, t⟩, rfl, hb, hp, hc1, hc2⟩ := hR.at_ (show 0 < n by omega)
    have hh : l.head? = some (f, t) := by rw [List.head?_eq_getElem?]; exact hp
    rw [hh]
    simp only [Nat.zero_mul, Nat.add_zero] at hc1 hc2
    have hk := fun w1 (h : Below w.heap.size w w1) => (h.cell (p := ⟨b', off, none⟩) hb).trans hc1
    have hk' := Lib.hid hk
    clear hk hc1 hc2 hh hp ha hR
    go_enter Tryz.func12, Tryz.ntmps12
    go_wp2_with fail
    refine c1.mono ?_
    rintro e w1 ⟨rfl, hb1⟩
    have hc := hk'.out w1 hb1
    go_wp2_with fail
    go_ret
    exact ⟨rfl, hb1⟩

set_option maxHeartbeats 1000000 in
set_option maxRecDepth 100000 in
theorem last_any (A : Option Addr) (n c : Nat) (l : List Span) (w : World) (hR : Rp w A n c l) :
    Calls Tryz.prog 13 #[.slice A n c] w fun e w' => e = .returned (.int .i64 (last? l)) ∧ Below w.heap.size w w' := by
  have hla := hR.len
  have a1 := hR.le
  have a2 := hR.max
  have c1 := may_any A n c l w hR
  unfold last?
  by_cases h0 : n = 0
  · subst h0
    have : l = [] := List.eq_nil_of_length_eq_zero hla
    subst this
    simp only [List.getLast?_nil, Option.map_none, Option.getD_none, ite_self]
    go_enter Tryz.func13, Tryz.ntmps13
    go_wp2_with fail
    go_ret
    exact ⟨rfl, Below.refl _ _⟩
  have t0 : ((n : Int) == 0) = false := by rw [beq_eq_false_iff_ne]; omega
  cases ha : okB 1 l
  · rw [ha] at c1
    go_enter Tryz.func13, Tryz.ntmps13
    go_wp2_with (go_at_call 7; refine c1.mono ?_; rintro e w1 ⟨rfl, hb1⟩)
    go_ret
    exact ⟨rfl, hb1⟩
  · rw [ha] at c1
    obtain ⟨k, rfl⟩ : ∃ k, n = k + 1 := ⟨n - 1, by omega⟩
    obtain ⟨b', off, ⟨f, t⟩, rfl, hb, hp, hc1, hc2⟩ := hR.at_ (show k < k + 1 by omega)
    have hh : l.getLast? = some (f, t) := by rw [List.getLast?_eq_getElem?, hla]; exact hp
    rw [hh]
    have hk := fun w1 (h : Below w.heap.size w w1) => (h.cell (p := ⟨b', off + k * 2 + 1, none⟩) hb).trans hc2
    have hk' := Lib.hid hk
    clear hk hc1 hc2 hh hp ha hR
    go_enter Tryz.func13, Tryz.ntmps13
    go_wp2_with fail
    refine c1.mono ?_
    rintro e w1 ⟨rfl, hb1⟩
    have hc := hk'.out w1 hb1
    go_wp2_with fail
    go_outline
    go_ret
    exact ⟨rfl, hb1⟩
end Go.Proofs.YtppmnelgekhbnaaGreatDoor.IvW
