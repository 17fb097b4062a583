/- New, Names, Down. -/
import Derived.Test.YtfdpnjebhllpkaaGreatDoorMDkMeth4
import Derived.Test.YtfdpnjebhllpkaaGreatDoorMDkIter
namespace Go.Proofs.YtfdpnjebhllpkaaGreatDoor.Dk
open Go.RowKit

theorem before_lt : ∀ {a b : Name}, bytesBefore a b = true → a ≤ b
  | [], b, _ => List.nil_le b
  | a :: x, [], h => by simp [bytesBefore] at h
  | a :: x, b :: y, h => by
    simp only [bytesBefore, Bool.or_eq_true, Bool.and_eq_true, decide_eq_true_eq, beq_iff_eq] at h
    rw [List.cons_le_cons_iff]
    rcases h with h | ⟨rfl, h⟩
    · exact .inl h
    · exact .inr ⟨rfl, before_lt h⟩
theorem sorted_names {L : Al Nat} (hU : Up L) {ss : List Name} (hp : ss.Perm (L.map (·.1))) : ss.mergeSort (fun x y => decide (x ≤ y)) = L.map (·.1) := by
  have tr : ∀ (a b c : Name), decide (a ≤ b) = true → decide (b ≤ c) = true → decide (a ≤ c) = true := fun a b c h1 h2 => by
    simp only [decide_eq_true_eq] at *
    exact List.le_trans h1 h2
  have tot : ∀ (a b : Name), (decide (a ≤ b) || decide (b ≤ a)) = true := fun a b => by
    simp only [Bool.or_eq_true, decide_eq_true_eq]
    exact List.le_total a b
  refine List.Perm.eq_of_pairwise (le := fun a b => decide (a ≤ b) = true) (fun a b _ _ h1 h2 => ?_) (List.pairwise_mergeSort tr tot ss) ?_ ((List.mergeSort_perm ss _).trans hp)
  · simp only [decide_eq_true_eq] at h1 h2
    exact List.le_antisymm h1 h2
  · rw [List.pairwise_map]
    refine hU.imp ?_
    intro p q h
    simpa using before_lt h
theorem row_len {w : World} {B E n m : Nat} {A : Option Addr} {c : Nat} {xs : List Value} (h : w.ownsRow B E 1 (.slice A n c) m xs) : n = m := by
  rcases h.2 with ⟨e, h2⟩ | ⟨g, cap, cur, e, _⟩
  · injection e with _ e _; omega
  · injection e

set_option maxRecDepth 100000 in
theorem New_any (w : World) (room : Int) : Calls Tryz.prog 24 #[.int .i64 room] w fun e w' => ∃ b mb, e = .returned (.pointer (some ⟨b, 0, none⟩)) ∧ Hid (∀ B F, B ≤ w.heap.size → Da w' B b mb [] F (.slice none 0 0) (new room)) ∧ Below w.heap.size w w' := by
  have hmm := @run_makeMap Tryz.prog
  go_enter Tryz.func24, Tryz.ntmps24
  go_wp2_with fail
  go_ret
  refine ⟨_, w.heap.size, rfl, Lib.hid fun B F hB => ?_, bA (below_alloc _ _) _⟩
  have hm := World.ownsMap_made w Tryz.prog 9 ptrElem
  have hg := grown_of_below (below_alloc (w.alloc (.map #[] 0)) (.cells #[.int .i64 (max room 0), .map (some w.heap.size), .slice none 0 0, .int .i64 0, .bool false] 113))
  have hs : (w.alloc (.map #[] 0)).heap.size = w.heap.size + 1 := by simp
  have hn := heap_alloc_new (w.alloc (.map #[] 0)) (.cells #[.int .i64 (max room 0), .map (some w.heap.size), .slice none 0 0, .int .i64 0, .bool false] 113)
  rw [hs] at hn
  refine ⟨⟨by omega, hB⟩, ?_, hm.kept hg (by simp), rfl, List.Pairwise.nil, fun p hp => (by cases hp), List.Pairwise.nil, ⟨rfl, .inl ⟨rfl, rfl⟩⟩⟩
  have he : max room 0 = ((room.toNat : Nat) : Int) := by omega
  rw [hn, he]
  rfl

theorem Names_any (w : World) (B a mb : Nat) (L : Al Nat) (F : Nat → Fl) (tv : Value) (d : D) (h : Da w B a mb L F tv d) (hl : L.length ≤ 1000000) :
    Calls Tryz.prog 78 #[.pointer (some ⟨a, 0, none⟩)] w fun e w' => ∃ A n c, e = .returned (.slice A n c) ∧ n = L.length ∧ Below w.heap.size w w' ∧ w'.ownsRow w.heap.size 9 1 (.slice A n c) n (L.map fun p => encStr p.1) := by
  have hs := Tryz.slices_Sorted_keys_m (H := Unit) mb L.length (mp L) ptrElem w h.own (by rw [mp_size]; unfold maxLen; omega) (by rw [mp_size]; omega)
  have hk := Tryz.maps_Keys_m (some mb) w
  have k1 := h.c1
  have hup := Lib.hid h.up
  clear h
  go_enter Tryz.func78, Tryz.ntmps78
  go_wp2_with fail
  refine (callsIn_wide.1 hk).mono ?_
  rintro e w2 ⟨rfl, rfl⟩
  go_wp2_with fail
  refine (callsIn_wide.1 hs).mono ?_
  rintro e w3 ⟨v, ss, rfl, hp, ho, _, hb⟩
  have hlen : ss.length = L.length := by have := hp.length_eq; rw [mp_keys] at this; simpa using this
  have hss : ss.mergeSort (fun x y => decide (x ≤ y)) = L.map (·.1) := sorted_names hup.out (by rw [mp_keys] at hp; exact hp)
  obtain ⟨A, c, rfl⟩ := ownsRow_form ho
  rw [hss, List.map_map] at ho
  have hb0 := Lib.hid ((below_alloc w (.cells #[.map (some mb)] 111)).trans (hb.mono (by simp)))
  have ho' := Lib.hid (ownsRow_base (B' := w.heap.size) ho (by simp))
  have hn' := Lib.hid hlen
  clear hb ho hss hp hs hk hlen
  go_wp2_with fail
  go_ret
  exact ⟨_, _, _, rfl, hn'.out, hb0.out, ho'.out⟩
end Go.Proofs.YtfdpnjebhllpkaaGreatDoor.Dk
