/- slices.Grow and slices.Concat at bytes. -/
import Derived.Test.YtfdpnjebhllpkaaGreatDoorMDkMeth
import Derived.Lib.AppendZeros
namespace Go.Proofs.YtfdpnjebhllpkaaGreatDoor.Dk
open Go.RowKit

theorem info_u8 : (Tryz.prog.info? 5).map (fun i => (i.zero, i.size, i.bytes)) = some (some (.int .u8 0), 1, 1) := by kernel_rfl

theorem bsl_lit2 (w : World) (E : TypeId) (A0 A1 : Option Addr) (n0 n1 c0 c1 : Nat) (l0 l1 : List UInt8) (h0 : Bs w A0 n0 c0 l0) (h1 : Bs w A1 n1 c1 l1) :
    BsL (w.alloc (.cells #[.slice A0 n0 c0, .slice A1 n1 c1] E)) (some ⟨w.heap.size, 0, none⟩) 2 2 [l0, l1] := by
  have hb := below_alloc w (.cells #[.slice A0 n0 c0, .slice A1 n1 c1] E)
  refine ⟨[.slice A0 n0 c0, .slice A1 n1 c1], ⟨rfl, by omega, by omega, fun h => by simp at h, fun _ => ⟨_, _, rfl, by simp, fun j u hu => ?_⟩⟩, rfl, fun j u hu => ?_⟩
  · have hh : (w.alloc (.cells #[.slice A0 n0 c0, .slice A1 n1 c1] E)).heap[w.heap.size]? = some (.cells #[.slice A0 n0 c0, .slice A1 n1 c1] E) := heap_alloc_new w _
    simp only [World.cell?, hh, Nat.zero_add]
    simpa using hu
  · match j, hu with
    | 0, hu => simp at hu; subst hu; exact ⟨l0, rfl, El.of_bs (h0.below hb)⟩
    | 1, hu => simp at hu; subst hu; exact ⟨l1, rfl, El.of_bs (h1.below hb)⟩

set_option maxHeartbeats 1000000 in
theorem grow_any (m : Nat) (hm : m ≤ 140737488355328) (w : World) :
    Calls Tryz.prog 179 #[.slice none 0 0, .int .i64 m] w fun e w' => ∃ A' c', e = .returned (.slice A' 0 c') ∧ OwB w' w.heap.size 5 (.slice A' 0 c') [] ∧ Below w.heap.size w w' := by
  by_cases h0 : m = 0
  · subst h0
    go_enter Tryz.func179, Tryz.ntmps179
    go_wp2_with fail
    go_ret
    exact ⟨_, _, rfl, OwB.nil _ _ _, Below.refl _ _⟩
  · have hp : 0 < m := by omega
    go_enter Tryz.func179, Tryz.ntmps179
    go_wp2_with (at_builtin; apply stop_here)
    obtain ⟨i, hi, hz, hsz, hby⟩ := info_parts info_u8
    have hcap := grownCap_ge w m 0 5
    have hcm := grownCap_le_maxLen w m 0 5 (by unfold maxLen; omega)
    have hcm2 : grownCap w m 0 5 ≤ 9223372036854775807 := by unfold maxLen at hcm; omega
    refine Stop.go (Lib.wpList_append_run _ rfl _ _ 22 3 rfl _ _ rfl rfl _ _ (Lib.run_append_nil_zeros w 22 3 _ 5 i (.int .u8 0) .i64 .i64 Tryz.underlying22 Tryz.underlying3 hi hz m hp (by omega) (by omega) (by rw [hby]; omega)) ?_)
    have ho := World.ownsRow_made (base := w.heap.size) (e := 5) (size := 1) w.drew (Builtin.zeroCells (Value.int .u8 0).cells m ++ Builtin.zeroCells (Value.int .u8 0).cells (grownCap w m 0 5 - m)) (grownCap w m 0 5) (Nat.le_refl _) hcm (by
      rw [Array.size_append, size_zeroCells, size_zeroCells]
      simp [Value.cells]
      omega)
    have hb : Below w.heap.size w (w.drew.alloc (.cells (Builtin.zeroCells (Value.int .u8 0).cells m ++ Builtin.zeroCells (Value.int .u8 0).cells (grownCap w m 0 5 - m)) 5)) :=
      (Below.refl _ _).drew.alloc (Nat.le_refl _) _
    generalize w.drew.alloc (.cells (Builtin.zeroCells (Value.int .u8 0).cells m ++ Builtin.zeroCells (Value.int .u8 0).cells (grownCap w m 0 5 - m)) 5) = w1 at *
    go_wp2_with fail
    go_ret
    exact ⟨_, _, rfl, ho, hb⟩

set_option maxHeartbeats 1000000 in
theorem concat_any (A : Option Addr) (n c : Nat) (ls : List (List UInt8)) (w : World) (hBs : BsL w A n c ls) (hsz : (cat ls).length ≤ 140737488355328) :
    Calls Tryz.prog 131 #[.slice A n c] w fun e w' => ∃ A' c', e = .returned (.slice A' (cat ls).length c') ∧ OwB w' w.heap.size 5 (.slice A' (cat ls).length c') (cat ls) ∧ Below w.heap.size w w' := by
  have hn := hBs.le
  have hm := hBs.max
  have HN : Hid (ls.length = n) := hBs.len
  have HF : Hid (cat (ls.take n) = cat ls) := by unfold Hid; rw [List.take_of_length_le (by rw [HN.out]; omega)]
  go_enter Tryz.func131, Tryz.ntmps131
  go_wp2
  go_loop [3, 11] (fun v i => ∃ k : Nat, k ≤ n ∧ i = .int .i64 k ∧ v = .int .i64 ((cat (ls.take k)).length : Nat)) (fun _ i => n - (intOf i).toNat)
  case atStart => exact ⟨0, by omega, rfl, rfl⟩
  case round =>
    obtain ⟨k, hk, rfl, rfl⟩ := hrel
    have hb := cat_take_le ls k
    by_cases hlt : k < n
    · obtain ⟨b, off, A1, n1, c1, l1, rfl, _, hl, hc, hbs⟩ := hBs.at_ hlt
      have hb1 := cat_take_le ls (k + 1)
      have HL : Hid ((cat (ls.take (k + 1))).length = (cat (ls.take k)).length + n1) := by unfold Hid; rw [cat_take hl, List.length_append, hbs.len]
      have hb2 : (cat (ls.take k)).length + n1 ≤ 140737488355328 := by rw [← HL.out]; omega
      clear hl hb1
      generalize (cat (ls.take k)).length = t at *
      have hneg : decide (((t : Int) + (n1 : Int)) < 0) = false := by simp; omega
      go_wp2
      go_round
      case rel => exact ⟨k + 1, by omega, by go_num, val_int (by rw [HL.out]; omega)⟩
      case measure => simp [intOf]; omega
    · obtain rfl : k = n := by omega
      rw [HF.out]
      generalize hT : (cat ls).length = t at *
      have HT := Lib.hid hT
      clear hT
      go_wp2_with fail
      refine (grow_any t hsz _).mono ?_
      rintro e w1 ⟨A1, c1, rfl, ho1, hb1⟩
      go_wp2_with fail
      go_loopw [6, 27] (fun v i wr => ∃ k' A' c', k' ≤ k ∧ i = .int .i64 k' ∧ v = .slice A' (cat (ls.take k')).length c' ∧ OwB wr w.heap.size 5 (.slice A' (cat (ls.take k')).length c') (cat (ls.take k')) ∧ Below w.heap.size w wr) (fun _ i _ => k - (intOf i).toNat)
      case atStart => exact ⟨0, A1, c1, by omega, rfl, rfl, ho1, hb1⟩
      case round =>
        obtain ⟨k', A', c', hk', rfl, rfl, ho, hbw⟩ := hrel
        by_cases hlt : k' < k
        · obtain ⟨b, off, A2, n2, c2, l2, rfl, _, hl, hc, hbs⟩ := (hBs.below hbw).at_ hlt
          have hle := cat_take_le ls (k' + 1)
          have HL : Hid (cat (ls.take (k' + 1)) = cat (ls.take k') ++ l2) := cat_take hl
          have HLn : Hid (l2.length = n2) := hbs.len
          clear hl
          have hwsz := hbw.size
          go_wp2_with (at_builtin; apply stop_here)
          refine Stop.go (append_bytes _ 22 5 Tryz.underlying22 info_u8 rfl _ _ rfl w.heap.size _ _ rfl ho _ _ _ l2 rfl hbs ((cat (ls.take (k' + 1))).length) (by rw [HL.out, List.length_append, HLn.out]) (by have := HT.out; omega) hwsz ?_)
          intro A3 c3 w3 ho3 hg3 hb3
          rw [← HL.out] at ho3
          clear hg3
          go_wp2_with fail
          go_roundw
          case rel => exact ⟨k' + 1, A3, c3, by omega, by go_num, rfl, ho3, hbw.trans hb3⟩
          case measure => simp [intOf]; omega
        · obtain rfl : k' = k := by omega
          rw [HF.out] at ho ⊢
          have ht := HT.out
          subst ht
          go_wp2_with fail
          go_ret
          exact ⟨A', c', rfl, ho, hbw⟩
end Go.Proofs.YtfdpnjebhllpkaaGreatDoor.Dk
