/- The walks of the layer frame: what its functions compute. -/
import Derived.Test.YtfdpnjebhllpkaaGreatDoorMCrcWalk
import Derived.Test.YtfdpnjebhllpkaaGreatDoorMFrameMath
import Derived.Deep.QuietTactic
import Derived.BigQuiet
import Derived.WalkLawsBesides
import Derived.Lib.AppendZeros
namespace Go.Proofs.YtfdpnjebhllpkaaGreatDoor.FrW
open Go.RowKit

theorem by_num (v : Nat) : (v : Int) % 256 = ((Fr.by_ v).toNat : Int) := by rw [Fr.by_nat]; omega

theorem le_cells (v : Nat) (hv : v < 4294967296) :
    (#[Value.int IntKind.u8 ((v : Int) % 256), Value.int IntKind.u8 ((v : Int) / 256 % 256), Value.int IntKind.u8 ((v : Int) / 65536 % 256), Value.int IntKind.u8 ((v : Int) / 16777216)] : Array Value).toList = bv (Fr.le v) := by
  have h1 : (v : Int) / 256 % 256 = ((Fr.by_ (v / 256)).toNat : Int) := by rw [Fr.by_nat]; omega
  have h2 : (v : Int) / 65536 % 256 = ((Fr.by_ (v / 65536)).toNat : Int) := by rw [Fr.by_nat]; omega
  have h3 : (v : Int) / 16777216 = ((Fr.by_ (v / 16777216)).toNat : Int) := by rw [Fr.by_nat]; omega
  rw [by_num, h1, h2, h3]
  rfl

set_option maxHeartbeats 400000 in
theorem little_any (v : Nat) (hv : v < 4294967296) (w : World) :
    Calls Tryz.prog 138 #[.int .u32 v] w fun e w' => ∃ A c, e = .returned (.slice A 4 c) ∧ OwB w' w.heap.size 5 (.slice A 4 c) (Fr.le v) ∧ Below w.heap.size w w' := by
  go_enter Tryz.func138, Tryz.ntmps138
  go_wp2
  go_ret
  exact ⟨_, _, rfl, owb_lit w _ (Nat.le_refl _) _ _ _ 4 rfl (by decide) (le_cells v hv), below_alloc _ _⟩

set_option maxHeartbeats 400000 in
theorem put32_any (v : Nat) (hv : v < 4294967296) (w : World) :
    Calls Tryz.prog 67 #[.int .u32 v] w fun e w' => ∃ A c, e = .returned (.slice A 4 c) ∧ OwB w' w.heap.size 5 (.slice A 4 c) (Fr.le v) ∧ Below w.heap.size w w' := by
  go_enter Tryz.func67, Tryz.ntmps67
  go_wp2
  go_ret
  exact ⟨_, _, rfl, owb_lit w _ (Nat.le_refl _) _ _ _ 4 rfl (by decide) (le_cells v hv), below_alloc _ _⟩

theorem four {w : World} {A : Option Addr} {n c : Nat} {l : List UInt8} (h : Bs w A n c l) (h4 : 4 ≤ n) :
    ∃ (b off : Nat) (x0 x1 x2 x3 : UInt8), A = some ⟨b, off, none⟩ ∧ Fr.get l = x0.toNat + 256 * x1.toNat + 65536 * x2.toNat + 16777216 * x3.toNat ∧
      x0.toNat < 256 ∧ x1.toNat < 256 ∧ x2.toNat < 256 ∧ x3.toNat < 256 ∧
      w.cell? ⟨b, off, none⟩ = some (.int .u8 (x0.toNat : Int)) ∧ w.cell? ⟨b, off + 1, none⟩ = some (.int .u8 (x1.toNat : Int)) ∧
      w.cell? ⟨b, off + 2, none⟩ = some (.int .u8 (x2.toNat : Int)) ∧ w.cell? ⟨b, off + 3, none⟩ = some (.int .u8 (x3.toNat : Int)) := by
  obtain ⟨b, off, x0, rfl, _, h0, k0, c0⟩ := h.at_ (k := 0) (by omega)
  obtain ⟨b1, off1, x1, e1, _, h1, k1, c1⟩ := h.at_ (k := 1) (by omega)
  obtain ⟨b2, off2, x2, e2, _, h2, k2, c2⟩ := h.at_ (k := 2) (by omega)
  obtain ⟨b3, off3, x3, e3, _, h3, k3, c3⟩ := h.at_ (k := 3) (by omega)
  simp only [Option.some.injEq, Addr.mk.injEq, and_true] at e1 e2 e3
  obtain ⟨rfl, rfl⟩ := e1
  obtain ⟨rfl, rfl⟩ := e2
  obtain ⟨rfl, rfl⟩ := e3
  refine ⟨b, off, x0, x1, x2, x3, rfl, ?_, k0, k1, k2, k3, c0, c1, c2, c3⟩
  match l, h0, h1, h2, h3 with
  | a :: a1 :: a2 :: a3 :: r, h0, h1, h2, h3 =>
    simp at h0 h1 h2 h3
    subst h0 h1 h2 h3
    rfl

theorem or_num (a b s : Nat) (m : Int) (hm : m = ((2 ^ s : Nat) : Int)) (ha : a < 2 ^ s) (hb : a + b * 2 ^ s < 4294967296) :
    bits BinOp.or IntKind.u32 (a : Int) ((b : Int) * m) = ((a + b * 2 ^ s : Nat) : Int) := by
  subst hm
  have h := u32_or_nat a (b * 2 ^ s) (by omega) (by omega)
  have h2 : a ||| b * 2 ^ s = a + b * 2 ^ s := by
    rw [Nat.or_comm, nat_join s (b * 2 ^ s) a (by simp) ha, Nat.add_comm]
  rw [h2] at h
  rw [← Int.natCast_mul]
  exact h

theorem get_num (x0 x1 x2 x3 : Nat) (k0 : x0 < 256) (k1 : x1 < 256) (k2 : x2 < 256) (k3 : x3 < 256) :
    bits BinOp.or IntKind.u32 (bits BinOp.or IntKind.u32 (bits BinOp.or IntKind.u32 (x0 : Int) ((x1 : Int) * 256)) ((x2 : Int) * 65536)) ((x3 : Int) * 16777216) =
      ((x0 + 256 * x1 + 65536 * x2 + 16777216 * x3 : Nat) : Int) := by
  rw [or_num x0 x1 8 256 rfl (by omega) (by omega), or_num _ x2 16 65536 rfl (by omega) (by omega), or_num _ x3 24 16777216 rfl (by omega) (by omega)]
  omega

set_option maxHeartbeats 400000 in
theorem whole_any (A : Option Addr) (n c : Nat) (l : List UInt8) (w : World) (hBs : Bs w A n c l) (h4 : 4 ≤ n) :
    Calls Tryz.prog 165 #[.slice A n c] w fun e w' => e = .returned (.int .u32 (Fr.get l)) ∧ ∃ k, w' = w.drewN k := by
  obtain ⟨b, off, x0, x1, x2, x3, rfl, hg, k0, k1, k2, k3, c0, c1, c2, c3⟩ := four hBs h4
  have HG := Lib.hid hg
  clear hg hBs
  have i0 : (0 : Int) < (n : Int) := by omega
  have i1 : (1 : Int) < (n : Int) := by omega
  have i2 : (2 : Int) < (n : Int) := by omega
  have i3 : (3 : Int) < (n : Int) := by omega
  go_enter Tryz.func165, Tryz.ntmps165
  go_wp2
  go_quiet (fail)
  go_wp2
  go_ret
  exact ⟨ret_int (by rw [HG.out]; exact get_num _ _ _ _ k0 k1 k2 k3), _, rfl⟩

set_option maxHeartbeats 400000 in
theorem get32_any (A : Option Addr) (n c : Nat) (l : List UInt8) (w : World) (hBs : Bs w A n c l) (h4 : 4 ≤ n) :
    Calls Tryz.prog 164 #[.slice A n c] w fun e w' => e = .returned (.int .u32 (Fr.get l)) ∧ ∃ k, w' = w.drewN k := by
  obtain ⟨b, off, x0, x1, x2, x3, rfl, hg, k0, k1, k2, k3, c0, c1, c2, c3⟩ := four hBs h4
  have HG := Lib.hid hg
  clear hg hBs
  have i0 : (0 : Int) < (n : Int) := by omega
  have i1 : (1 : Int) < (n : Int) := by omega
  have i2 : (2 : Int) < (n : Int) := by omega
  have i3 : (3 : Int) < (n : Int) := by omega
  go_enter Tryz.func164, Tryz.ntmps164
  go_wp2
  go_quiet (fail)
  go_wp2
  go_ret
  exact ⟨ret_int (by rw [HG.out]; omega), _, rfl⟩

set_option maxHeartbeats 400000 in
theorem fsum_any (A : Option Addr) (n c : Nat) (l : List UInt8) (A2 : Option Addr) (n2 c2 : Nat) (l2 : List UInt8) (w : World) (hBs : Bs w A n c l) (hBs2 : Bs w A2 n2 c2 l2) :
    Calls Tryz.prog 139 #[.slice A n c, .slice A2 n2 c2] w fun e w' => e = .returned (.int .u32 (Fr.fsum l l2)) ∧ w = w' := by
  go_enter Tryz.func139, Tryz.ntmps139
  go_wp2_with fail
  refine (CrcW.sum_any _ _ _ _ _ hBs).mono ?_
  rintro e w' ⟨rfl, rfl⟩
  go_wp2_with fail
  refine (CrcW.on_any _ (by exact Crc.on_lt _ _) _ _ _ _ _ hBs2).mono ?_
  rintro e w' ⟨rfl, rfl⟩
  have hs := Crc.on_sum l l2
  go_wp2_with fail
  go_ret
  exact ⟨rfl, rfl⟩

set_option maxHeartbeats 400000 in
theorem bytes_any (A : Option Addr) (n c : Nat) (l : List UInt8) (A2 : Option Addr) (n2 c2 : Nat) (l2 : List UInt8) (w : World) (hBs : Bs w A n c l) (hBs2 : Bs w A2 n2 c2 l2) :
    Calls Tryz.prog 19 #[.slice A n c, .slice A2 n2 c2] w fun e w' => e = .returned (.bool (decide (l = l2))) ∧ ∃ k, w' = w.drewN k := by
  have hn := Rd.le hBs
  have hm := Rd.max hBs
  have hn2 := Rd.le hBs2
  have hm2 := Rd.max hBs2
  have HN : Hid (l.length = n) := hBs.len
  have HN2 : Hid (l2.length = n2) := hBs2.len
  by_cases hne : n = n2
  · subst hne
    go_enter Tryz.func19, Tryz.ntmps19
    go_wp2
    go_loopw [5] (fun i wr => ∃ k m : Nat, k ≤ n ∧ i = .int .i64 k ∧ wr = w.drewN m ∧ Hid (l.take k = l2.take k)) (fun i _ => n - (intOf i).toNat)
    case atStart => exact ⟨0, 0, by omega, rfl, rfl, rfl⟩
    case round =>
      obtain ⟨k, m, hk, rfl, rfl, ht⟩ := hrel
      by_cases hlt : k < n
      · obtain ⟨b, off, x, rfl, _, hx, hx8, hc⟩ := hBs.at_ hlt
        obtain ⟨b2, off2, y, rfl, _, hy, hy8, hc2⟩ := hBs2.at_ hlt
        have HX := Lib.hid hx
        have HY := Lib.hid hy
        clear hx hy
        have i0 : (k : Int) < (n : Int) := by omega
        by_cases hxy : x = y
        · have hb : ((x.toNat : Int) != (y.toNat : Int)) = false := by rw [hxy]; simp
          have HXY := Lib.hid hxy
          clear hxy
          go_wp2_with fail
          go_quiet (fail)
          go_wp2_with fail
          go_roundw
          case rel => exact ⟨k + 1, _, by omega, by go_num, rfl, by unfold Hid; rw [take_snoc HX.out, take_snoc HY.out, ht.out, HXY.out]⟩
          case measure => simp [intOf]; omega
        · have hb : ((x.toNat : Int) != (y.toNat : Int)) = true := by
            rw [bne_iff_ne]
            intro h
            exact hxy (UInt8.toNat_inj.1 (by omega))
          have HXY := Lib.hid hxy
          clear hxy
          go_wp2_with fail
          go_quiet (fail)
          go_wp2_with fail
          go_ret
          refine ⟨ret_bool ?_, _, World.drewN_drewN _ _ _⟩
          have : l ≠ l2 := by
            intro h
            have h1 := HX.out
            rw [h, HY.out] at h1
            injection h1 with h1
            exact HXY.out h1.symm
          simp [this]
      · obtain rfl : k = n := by omega
        go_wp2_with fail
        go_ret
        refine ⟨ret_bool ?_, _, rfl⟩
        have h := ht.out
        rw [List.take_of_length_le (by rw [HN.out]; omega), List.take_of_length_le (by rw [HN2.out]; omega)] at h
        simp [h]
  · have hb : ((n : Int) != (n2 : Int)) = true := by rw [bne_iff_ne]; omega
    have : l ≠ l2 := by
      intro h
      have h1 := HN.out
      rw [h, HN2.out] at h1
      exact hne h1.symm
    have HD := Lib.hid this
    clear this
    go_enter Tryz.func19, Tryz.ntmps19
    go_wp2_with fail
    go_ret
    exact ⟨ret_bool (by simp [HD.out]), 0, rfl⟩

set_option maxHeartbeats 400000 in
theorem clone_any (A : Option Addr) (n c : Nat) (l : List UInt8) (w : World) (hBs : Bs w A n c l) (hn0 : n ≤ 140737488355328) :
    Calls Tryz.prog 166 #[.slice A n c] w fun e w' => ∃ A' c', e = .returned (.slice A' n c') ∧ OwB w' w.heap.size 5 (.slice A' n c') l ∧ Below w.heap.size w w' := by
  have HN : Hid (l.length = n) := hBs.len
  have heq := fun (w : World) (a : Option Addr) (n c : Nat) => Lib.run_eql_slice_nil (P := Tryz.prog) w 22 5 a n c 0 0 Tryz.underlying22
  rcases A with _ | ad
  · obtain ⟨rfl, rfl⟩ := Rd.nil hBs rfl
    have hl : l = [] := List.eq_nil_of_length_eq_zero HN.out
    subst hl
    go_enter Tryz.func166, Tryz.ntmps166
    go_wp2_with fail
    go_ret
    exact ⟨_, _, rfl, OwB.nil _ _ _, Below.refl _ _⟩
  · go_enter Tryz.func166, Tryz.ntmps166
    go_wp2_with (at_builtin; apply stop_here)
    refine Stop.go (append_bytes _ 22 5 Tryz.underlying22 info_u8 rfl _ _ rfl w.heap.size _ [] rfl (owb_lit _ _ (Nat.le_refl _) _ _ _ _ rfl (by decide) rfl) _ _ _ l rfl (hBs.below (below_alloc _ _)) n (by simp) (by omega) (by simp) ?_)
    intro A3 c3 w3 ho3 hg3 hb3
    have hb := (below_alloc w (.cells #[] 5)).trans hb3
    clear hb3 hg3
    go_wp2_with fail
    go_ret
    exact ⟨_, _, rfl, ho3, hb⟩

/-- A literal of three slices of bytes in a new block. -/
theorem bsl_lit3 (w : World) (E : TypeId) (A0 A1 A2 : Option Addr) (n0 n1 n2 c0 c1 c2 : Nat) (l0 l1 l2 : List UInt8) (h0 : Bs w A0 n0 c0 l0) (h1 : Bs w A1 n1 c1 l1) (h2 : Bs w A2 n2 c2 l2) :
    BsL (w.alloc (.cells #[.slice A0 n0 c0, .slice A1 n1 c1, .slice A2 n2 c2] E)) (some ⟨w.heap.size, 0, none⟩) 3 3 [l0, l1, l2] := by
  have hb := below_alloc w (.cells #[.slice A0 n0 c0, .slice A1 n1 c1, .slice A2 n2 c2] E)
  refine ⟨[.slice A0 n0 c0, .slice A1 n1 c1, .slice A2 n2 c2], ⟨rfl, by omega, by omega, fun h => by simp at h, fun _ => ⟨_, _, rfl, by simp, fun j u hu => ?_⟩⟩, rfl, fun j u hu => ?_⟩
  · have hh : (w.alloc (.cells #[.slice A0 n0 c0, .slice A1 n1 c1, .slice A2 n2 c2] E)).heap[w.heap.size]? = some (.cells #[.slice A0 n0 c0, .slice A1 n1 c1, .slice A2 n2 c2] E) := heap_alloc_new w _
    simp only [World.cell?, hh, Nat.zero_add]
    simpa using hu
  · match j, hu with
    | 0, hu => simp at hu; subst hu; exact ⟨l0, rfl, El.of_bs (h0.below hb)⟩
    | 1, hu => simp at hu; subst hu; exact ⟨l1, rfl, El.of_bs (h1.below hb)⟩
    | 2, hu => simp at hu; subst hu; exact ⟨l2, rfl, El.of_bs (h2.below hb)⟩

set_option maxHeartbeats 1000000 in
theorem grow_any (m : Nat) (hm : m ≤ 140737488355328) (w : World) :
    Calls Tryz.prog 179 #[.slice none 0 0, .int .i64 m] w fun e w' => ∃ A' c', e = .returned (.slice A' 0 c') ∧ OwB w' w.heap.size 5 (.slice A' 0 c') [] ∧ Below w.heap.size w w' := by
  by_cases h0 : m = 0
  · subst h0
    go_enter Tryz.func179, Tryz.ntmps179
    go_wp2_with fail
    go_ret
    exact ⟨_, _, rfl, OwB.nil _ _ _, Below.refl _ _⟩
  · have hp : 0 < m := by omega
    go_enter Tryz.func179, Tryz.ntmps179
    go_wp2_with (at_builtin; apply stop_here)
    obtain ⟨i, hi, hz, hsz, hby⟩ := info_parts info_u8
    have hcap := grownCap_ge w m 0 5
    have hcm := grownCap_le_maxLen w m 0 5 (by unfold maxLen; omega)
    have hcm2 : grownCap w m 0 5 ≤ 9223372036854775807 := by unfold maxLen at hcm; omega
    refine Stop.go (Lib.wpList_append_run _ rfl _ _ 22 3 rfl _ _ rfl rfl _ _ (Lib.run_append_nil_zeros w 22 3 _ 5 i (.int .u8 0) .i64 .i64 Tryz.underlying22 Tryz.underlying3 hi hz m hp (by omega) (by omega) (by rw [hby]; omega)) ?_)
    have ho := World.ownsRow_made (base := w.heap.size) (e := 5) (size := 1) w.drew (Builtin.zeroCells (Value.int .u8 0).cells m ++ Builtin.zeroCells (Value.int .u8 0).cells (grownCap w m 0 5 - m)) (grownCap w m 0 5) (Nat.le_refl _) hcm (by
      rw [Array.size_append, size_zeroCells, size_zeroCells]
      simp [Value.cells]
      omega)
    have hb : Below w.heap.size w (w.drew.alloc (.cells (Builtin.zeroCells (Value.int .u8 0).cells m ++ Builtin.zeroCells (Value.int .u8 0).cells (grownCap w m 0 5 - m)) 5)) :=
      (Below.refl _ _).drew.alloc (Nat.le_refl _) _
    generalize w.drew.alloc (.cells (Builtin.zeroCells (Value.int .u8 0).cells m ++ Builtin.zeroCells (Value.int .u8 0).cells (grownCap w m 0 5 - m)) 5) = w1 at *
    go_wp2_with fail
    go_ret
    exact ⟨_, _, rfl, ho, hb⟩

set_option maxHeartbeats 1000000 in
theorem concat_any (A : Option Addr) (n c : Nat) (ls : List (List UInt8)) (w : World) (hBs : BsL w A n c ls) (hsz : (cat ls).length ≤ 140737488355328) :
    Calls Tryz.prog 131 #[.slice A n c] w fun e w' => ∃ A' c', e = .returned (.slice A' (cat ls).length c') ∧ OwB w' w.heap.size 5 (.slice A' (cat ls).length c') (cat ls) ∧ Below w.heap.size w w' := by
  have hn := hBs.le
  have hm := hBs.max
  have HN : Hid (ls.length = n) := hBs.len
  have HF : Hid (cat (ls.take n) = cat ls) := by unfold Hid; rw [List.take_of_length_le (by rw [HN.out]; omega)]
  go_enter Tryz.func131, Tryz.ntmps131
  go_wp2
  go_loop [3, 11] (fun v i => ∃ k : Nat, k ≤ n ∧ i = .int .i64 k ∧ v = .int .i64 ((cat (ls.take k)).length : Nat)) (fun _ i => n - (intOf i).toNat)
  case atStart => exact ⟨0, by omega, rfl, rfl⟩
  case round =>
    obtain ⟨k, hk, rfl, rfl⟩ := hrel
    have hb := cat_take_le ls k
    by_cases hlt : k < n
    · obtain ⟨b, off, A1, n1, c1, l1, rfl, _, hl, hc, hbs⟩ := hBs.at_ hlt
      have hb1 := cat_take_le ls (k + 1)
      have HL : Hid ((cat (ls.take (k + 1))).length = (cat (ls.take k)).length + n1) := by unfold Hid; rw [cat_take hl, List.length_append, hbs.len]
      have hb2 : (cat (ls.take k)).length + n1 ≤ 140737488355328 := by rw [← HL.out]; omega
      clear hl hb1
      generalize (cat (ls.take k)).length = t at *
      have hneg : decide (((t : Int) + (n1 : Int)) < 0) = false := by simp; omega
      go_wp2
      go_round
      case rel => exact ⟨k + 1, by omega, by go_num, val_int (by rw [HL.out]; omega)⟩
      case measure => simp [intOf]; omega
    · obtain rfl : k = n := by omega
      rw [HF.out]
      generalize hT : (cat ls).length = t at *
      have HT := Lib.hid hT
      clear hT
      go_wp2_with fail
      refine (grow_any t hsz _).mono ?_
      rintro e w1 ⟨A1, c1, rfl, ho1, hb1⟩
      go_wp2_with fail
      go_loopw [6, 27] (fun v i wr => ∃ k' A' c', k' ≤ k ∧ i = .int .i64 k' ∧ v = .slice A' (cat (ls.take k')).length c' ∧ OwB wr w.heap.size 5 (.slice A' (cat (ls.take k')).length c') (cat (ls.take k')) ∧ Below w.heap.size w wr) (fun _ i _ => k - (intOf i).toNat)
      case atStart => exact ⟨0, A1, c1, by omega, rfl, rfl, ho1, hb1⟩
      case round =>
        obtain ⟨k', A', c', hk', rfl, rfl, ho, hbw⟩ := hrel
        by_cases hlt : k' < k
        · obtain ⟨b, off, A2, n2, c2, l2, rfl, _, hl, hc, hbs⟩ := (hBs.below hbw).at_ hlt
          have hle := cat_take_le ls (k' + 1)
          have HL : Hid (cat (ls.take (k' + 1)) = cat (ls.take k') ++ l2) := cat_take hl
          have HLn : Hid (l2.length = n2) := hbs.len
          clear hl
          have hwsz := hbw.size
          go_wp2_with (at_builtin; apply stop_here)
          refine Stop.go (append_bytes _ 22 5 Tryz.underlying22 info_u8 rfl _ _ rfl w.heap.size _ _ rfl ho _ _ _ l2 rfl hbs ((cat (ls.take (k' + 1))).length) (by rw [HL.out, List.length_append, HLn.out]) (by have := HT.out; omega) hwsz ?_)
          intro A3 c3 w3 ho3 hg3 hb3
          rw [← HL.out] at ho3
          clear hg3
          go_wp2_with fail
          go_roundw
          case rel => exact ⟨k' + 1, A3, c3, by omega, by go_num, rfl, ho3, hbw.trans hb3⟩
          case measure => simp [intOf]; omega
        · obtain rfl : k' = k := by omega
          rw [HF.out] at ho ⊢
          have ht := HT.out
          subst ht
          go_wp2_with fail
          go_ret
          exact ⟨A', c', rfl, ho, hbw⟩
end Go.Proofs.YtfdpnjebhllpkaaGreatDoor.FrW
