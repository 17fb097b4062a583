/- slices.Grow and slices.Concat at spans. -/
import Derived.Test.YtppmnelgekhbnaaGreatDoorIvPut
import Derived.Lib.AppendZeros
namespace Go.Proofs.YtppmnelgekhbnaaGreatDoor.IvW
open Go.RowKit Iv

/-- A slice of slices of spans that reads as a list. -/
def RpL (w : World) (A : Option Addr) (n c : Nat) (ls : List (List Span)) : Prop :=
  ∃ xs : List Value, Rd w A n c xs ∧ ls.length = n ∧ ∀ (j : Nat) (u : Value), xs[j]? = some u → ∃ A' n' c' l, u = .slice A' n' c' ∧ ls[j]? = some l ∧ Rp w A' n' c' l

section
variable {w w' : World} {A : Option Addr} {n c : Nat} {ls : List (List Span)}
theorem RpL.len (h : RpL w A n c ls) : ls.length = n := let ⟨_, _, h2, _⟩ := h; h2
theorem RpL.le (h : RpL w A n c ls) : n ≤ c := let ⟨_, h1, _⟩ := h; h1.le
theorem RpL.max (h : RpL w A n c ls) : c ≤ 9223372036854775807 := let ⟨_, h1, _⟩ := h; h1.max
theorem RpL.below (h : RpL w A n c ls) (hb : Below w.heap.size w w') : RpL w' A n c ls := by
  obtain ⟨xs, h1, h2, h3⟩ := h
  exact ⟨xs, h1.below hb, h2, fun j u hu => let ⟨A', n', c', l, e, hl, he⟩ := h3 j u hu; ⟨A', n', c', l, e, hl, he.below hb⟩⟩
theorem RpL.at_ {k : Nat} (h : RpL w A n c ls) (hk : k < n) :
    ∃ b off A' n' c' l, A = some ⟨b, off, none⟩ ∧ b < w.heap.size ∧ ls[k]? = some l ∧ w.cell? ⟨b, off + k, none⟩ = some (.slice A' n' c') ∧ Rp w A' n' c' l := by
  obtain ⟨xs, h1, h2, h3⟩ := h
  obtain ⟨b, off, u, e, hb, hx, hc⟩ := h1.at_ hk
  obtain ⟨A', n', c', l, rfl, hl, hr⟩ := h3 k u hx
  exact ⟨b, off, A', n', c', l, e, hb, hl, hc, hr⟩
end

theorem rpl_lit2 (w : World) (E : TypeId) (A0 A1 : Option Addr) (n0 n1 c0 c1 : Nat) (l0 l1 : List Span) (h0 : Rp w A0 n0 c0 l0) (h1 : Rp w A1 n1 c1 l1) :
    RpL (w.alloc (.cells #[.slice A0 n0 c0, .slice A1 n1 c1] E)) (some ⟨w.heap.size, 0, none⟩) 2 2 [l0, l1] := by
  have hb := below_alloc w (.cells #[.slice A0 n0 c0, .slice A1 n1 c1] E)
  refine ⟨[.slice A0 n0 c0, .slice A1 n1 c1], ⟨rfl, by omega, by omega, fun h => by simp at h, fun _ => ⟨_, _, rfl, by simp, fun j u hu => ?_⟩⟩, rfl, fun j u hu => ?_⟩
  · have hh : (w.alloc (.cells #[.slice A0 n0 c0, .slice A1 n1 c1] E)).heap[w.heap.size]? = some (.cells #[.slice A0 n0 c0, .slice A1 n1 c1] E) := heap_alloc_new w _
    simp only [World.cell?, hh, Nat.zero_add]
    simpa using hu
  · match j, hu with
    | 0, hu => simp at hu; subst hu; exact ⟨_, _, _, l0, rfl, rfl, h0.below hb⟩
    | 1, hu => simp at hu; subst hu; exact ⟨_, _, _, l1, rfl, rfl, h1.below hb⟩

def catP (ls : List (List Span)) : List Span := ls.flatten
theorem catP_take {ls : List (List Span)} {k : Nat} {l : List Span} (h : ls[k]? = some l) : catP (ls.take (k + 1)) = catP (ls.take k) ++ l := by
  unfold catP; rw [take_snoc h]; simp
theorem catP_take_le (ls : List (List Span)) (k : Nat) : (catP (ls.take k)).length ≤ (catP ls).length := by
  have h := congrArg (fun l : List (List Span) => l.flatten.length) (List.take_append_drop k ls)
  simp only [List.flatten_append, List.length_append] at h
  unfold catP
  omega

set_option maxHeartbeats 1000000 in
theorem growP_any (m : Nat) (hm : m ≤ 8796093022208) (w : World) :
    Calls Tryz.prog 47 #[.slice none 0 0, .int .i64 m] w fun e w' => ∃ A' c', e = .returned (.slice A' 0 c') ∧ OwP w' w.heap.size 41 (.slice A' 0 c') [] ∧ Below w.heap.size w w' := by
  by_cases h0 : m = 0
  · subst h0
    go_enter Tryz.func47, Tryz.ntmps47
    go_wp2_with fail
    go_ret
    exact ⟨_, _, rfl, OwP.nil _ _ _, Below.refl _ _⟩
  · have hp : 0 < m := by omega
    go_enter Tryz.func47, Tryz.ntmps47
    go_wp2_with (at_builtin; apply stop_here)
    obtain ⟨i, hi, hz, hsz, hby⟩ := info_parts info_span
    have hcap := grownCap_ge w m 0 41
    have hcm := grownCap_le_maxLen w m 0 41 (by unfold maxLen; omega)
    have hcm2 : grownCap w m 0 41 ≤ 9223372036854775807 := by unfold maxLen at hcm; omega
    refine Stop.go (Lib.wpList_append_run _ rfl _ _ 22 3 rfl _ _ rfl rfl _ _ (Lib.run_append_nil_zeros w 22 3 _ 41 i (.agg #[.int .i64 0, .int .i64 0]) .i64 .i64 Tryz.underlying22 Tryz.underlying3 hi hz m hp (by omega) (by omega) (by rw [hby]; omega)) ?_)
    have ho := World.ownsRow_made (base := w.heap.size) (e := 41) (size := 2) w.drew (Builtin.zeroCells (Value.agg #[.int .i64 0, .int .i64 0]).cells m ++ Builtin.zeroCells (Value.agg #[.int .i64 0, .int .i64 0]).cells (grownCap w m 0 41 - m)) (grownCap w m 0 41) (Nat.le_refl _) hcm (by
      rw [Array.size_append, size_zeroCells, size_zeroCells]
      simp [Value.cells]
      omega)
    have hb : Below w.heap.size w (w.drew.alloc (.cells (Builtin.zeroCells (Value.agg #[.int .i64 0, .int .i64 0]).cells m ++ Builtin.zeroCells (Value.agg #[.int .i64 0, .int .i64 0]).cells (grownCap w m 0 41 - m)) 41)) :=
      (Below.refl _ _).drew.alloc (Nat.le_refl _) _
    generalize w.drew.alloc (.cells (Builtin.zeroCells (Value.agg #[.int .i64 0, .int .i64 0]).cells m ++ Builtin.zeroCells (Value.agg #[.int .i64 0, .int .i64 0]).cells (grownCap w m 0 41 - m)) 41) = w1 at *
    go_wp2_with fail
    go_ret
    exact ⟨_, _, rfl, ho, hb⟩

set_option maxHeartbeats 1000000 in
theorem concatP_any (A : Option Addr) (n c : Nat) (ls : List (List Span)) (w : World) (hBs : RpL w A n c ls) (hsz : (catP ls).length ≤ 8796093022208) :
    Calls Tryz.prog 35 #[.slice A n c] w fun e w' => ∃ A' c', e = .returned (.slice A' (catP ls).length c') ∧ OwP w' w.heap.size 41 (.slice A' (catP ls).length c') (catP ls) ∧ Below w.heap.size w w' := by
  have hn := hBs.le
  have hm := hBs.max
  have HN : Hid (ls.length = n) := hBs.len
  have HF : Hid (catP (ls.take n) = catP ls) := by unfold Hid; rw [List.take_of_length_le (by rw [HN.out]; omega)]
  go_enter Tryz.func35, Tryz.ntmps35
  go_wp2
  go_loop [3, 11] (fun v i => ∃ k : Nat, k ≤ n ∧ i = .int .i64 k ∧ v = .int .i64 ((catP (ls.take k)).length : Nat)) (fun _ i => n - (intOf i).toNat)
  case atStart => exact ⟨0, by omega, rfl, rfl⟩
  case round =>
    obtain ⟨k, hk, rfl, rfl⟩ := hrel
    have hb := catP_take_le ls k
    by_cases hlt : k < n
    · obtain ⟨b, off, A1, n1, c1, l1, rfl, _, hl, hc, hbs⟩ := hBs.at_ hlt
      have hb1 := catP_take_le ls (k + 1)
      have HL : Hid ((catP (ls.take (k + 1))).length = (catP (ls.take k)).length + n1) := by unfold Hid; rw [catP_take hl, List.length_append, hbs.len]
      have hb2 : (catP (ls.take k)).length + n1 ≤ 8796093022208 := by rw [← HL.out]; omega
      clear hl hb1
      generalize (catP (ls.take k)).length = t at *
      have hneg : decide (((t : Int) + (n1 : Int)) < 0) = false := by simp; omega
      go_wp2
      go_round
      case rel => exact ⟨k + 1, by omega, by go_num, val_int (by rw [HL.out]; omega)⟩
      case measure => simp [intOf]; omega
    · obtain rfl : k = n := by omega
      rw [HF.out]
      generalize hT : (catP ls).length = t at *
      have HT := Lib.hid hT
      clear hT
      go_wp2_with fail
      refine (growP_any t hsz _).mono ?_
      rintro e w1 ⟨A1, c1, rfl, ho1, hb1⟩
      go_wp2_with fail
      go_loopw [6, 27] (fun v i wr => ∃ k' A' c', k' ≤ k ∧ i = .int .i64 k' ∧ v = .slice A' (catP (ls.take k')).length c' ∧ OwP wr w.heap.size 41 (.slice A' (catP (ls.take k')).length c') (catP (ls.take k')) ∧ Below w.heap.size w wr) (fun _ i _ => k - (intOf i).toNat)
      case atStart => exact ⟨0, A1, c1, by omega, rfl, rfl, ho1, hb1⟩
      case round =>
        obtain ⟨k', A', c', hk', rfl, rfl, ho, hbw⟩ := hrel
        by_cases hlt : k' < k
        · obtain ⟨b, off, A2, n2, c2, l2, rfl, _, hl, hc, hbs⟩ := (hBs.below hbw).at_ hlt
          have hle := catP_take_le ls (k' + 1)
          have HL : Hid (catP (ls.take (k' + 1)) = catP (ls.take k') ++ l2) := catP_take hl
          have HLn : Hid (l2.length = n2) := hbs.len
          clear hl
          have hwsz := hbw.size
          go_wp2_with (at_builtin; apply stop_here)
          refine Stop.go (append_spans _ 22 41 _ Tryz.underlying22 info_span rfl rfl _ _ rfl w.heap.size _ _ rfl ho _ _ _ l2 rfl hbs ((catP (ls.take (k' + 1))).length) (by rw [HL.out, List.length_append, HLn.out]) (by have := HT.out; omega) hwsz ?_)
          intro A3 c3 w3 ho3 hb3
          rw [← HL.out] at ho3
          go_wp2_with fail
          go_roundw
          case rel => exact ⟨k' + 1, A3, c3, by omega, by go_num, rfl, ho3, hbw.trans hb3⟩
          case measure => simp [intOf]; omega
        · obtain rfl : k' = k := by omega
          rw [HF.out] at ho ⊢
          have ht := HT.out
          subst ht
          go_wp2_with fail
          go_ret
          exact ⟨A', c', rfl, ho, hbw⟩
end Go.Proofs.YtppmnelgekhbnaaGreatDoor.IvW
