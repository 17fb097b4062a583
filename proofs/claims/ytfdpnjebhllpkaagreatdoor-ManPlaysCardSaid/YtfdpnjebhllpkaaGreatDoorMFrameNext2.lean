/- The walks of the layer frame: the reference's Next. -/
import Derived.Test.YtfdpnjebhllpkaaGreatDoorMCrcWalk
import Derived.Test.YtfdpnjebhllpkaaGreatDoorMFrameMath
import Derived.Deep.QuietTactic
import Derived.BigQuiet
import Derived.WalkLawsBesides
import Derived.Lib.AppendZeros
import Derived.Lib.SmallJoins
section
namespace Go.Proofs.YtfdpnjebhllpkaaGreatDoor.FrW
open Go.RowKit

theorem by_num (v : Nat) : (v : Int) % 256 = ((Fr.by_ v).toNat : Int) := by rw [Fr.by_nat]; omega

theorem le_cells (v : Nat) (hv : v < 4294967296) :
    (#[Value.int IntKind.u8 ((v : Int) % 256), Value.int IntKind.u8 ((v : Int) / 256 % 256), Value.int IntKind.u8 ((v : Int) / 65536 % 256), Value.int IntKind.u8 ((v : Int) / 16777216)] : Array Value).toList = bv (Fr.le v) := by
  have h1 : (v : Int) / 256 % 256 = ((Fr.by_ (v / 256)).toNat : Int) := by rw [Fr.by_nat]; omega
  have h2 : (v : Int) / 65536 % 256 = ((Fr.by_ (v / 65536)).toNat : Int) := by rw [Fr.by_nat]; omega
  have h3 : (v : Int) / 16777216 = ((Fr.by_ (v / 16777216)).toNat : Int) := by rw [Fr.by_nat]; omega
  rw [by_num, h1, h2, h3]
  rfl

set_option maxHeartbeats 400000 in
theorem little_any (v : Nat) (hv : v < 4294967296) (w : World) :
    Calls Tryz.prog 138 #[.int .u32 v] w fun e w' => ∃ A c, e = .returned (.slice A 4 c) ∧ OwB w' w.heap.size 5 (.slice A 4 c) (Fr.le v) ∧ Below w.heap.size w w' := by
  go_enter Tryz.func138, Tryz.ntmps138
  go_wp2
  go_ret
  exact ⟨_, _, rfl, owb_lit w _ (Nat.le_refl _) _ _ _ 4 rfl (by decide) (le_cells v hv), below_alloc _ _⟩

set_option maxHeartbeats 400000 in
theorem put32_any (v : Nat) (hv : v < 4294967296) (w : World) :
    Calls Tryz.prog 67 #[.int .u32 v] w fun e w' => ∃ A c, e = .returned (.slice A 4 c) ∧ OwB w' w.heap.size 5 (.slice A 4 c) (Fr.le v) ∧ Below w.heap.size w w' := by
  go_enter Tryz.func67, Tryz.ntmps67
  go_wp2
  go_ret
  exact ⟨_, _, rfl, owb_lit w _ (Nat.le_refl _) _ _ _ 4 rfl (by decide) (le_cells v hv), below_alloc _ _⟩

theorem four {w : World} {A : Option Addr} {n c : Nat} {l : List UInt8} (h : Bs w A n c l) (h4 : 4 ≤ n) :
    ∃ (b off : Nat) (x0 x1 x2 x3 : UInt8), A = some ⟨b, off, none⟩ ∧ Fr.get l = x0.toNat + 256 * x1.toNat + 65536 * x2.toNat + 16777216 * x3.toNat ∧
      x0.toNat < 256 ∧ x1.toNat < 256 ∧ x2.toNat < 256 ∧ x3.toNat < 256 ∧
      w.cell? ⟨b, off, none⟩ = some (.int .u8 (x0.toNat : Int)) ∧ w.cell? ⟨b, off + 1, none⟩ = some (.int .u8 (x1.toNat : Int)) ∧
      w.cell? ⟨b, off + 2, none⟩ = some (.int .u8 (x2.toNat : Int)) ∧ w.cell? ⟨b, off + 3, none⟩ = some (.int .u8 (x3.toNat : Int)) := by
  obtain ⟨b, off, x0, rfl, _, h0, k0, c0⟩ := h.at_ (k := 0) (by omega)
  obtain ⟨b1, off1, x1, e1, _, h1, k1, c1⟩ := h.at_ (k := 1) (by omega)
  obtain ⟨b2, off2, x2, e2, _, h2, k2, c2⟩ := h.at_ (k := 2) (by omega)
  obtain ⟨b3, off3, x3, e3, _, h3, k3, c3⟩ := h.at_ (k := 3) (by omega)
  simp only [Option.some.injEq, Addr.mk.injEq, and_true] at e1 e2 e3
  obtain ⟨rfl, rfl⟩ := e1
  obtain ⟨rfl, rfl⟩ := e2
  obtain ⟨rfl, rfl⟩ := e3
  refine ⟨b, off, x0, x1, x2, x3, rfl, ?_, k0, k1, k2, k3, c0, c1, c2, c3⟩
  match l, h0, h1, h2, h3 with
  | a :: a1 :: a2 :: a3 :: r, h0, h1, h2, h3 =>
    simp at h0 h1 h2 h3
    subst h0 h1 h2 h3
    rfl

theorem or_num (a b s : Nat) (m : Int) (hm : m = ((2 ^ s : Nat) : Int)) (ha : a < 2 ^ s) (hb : a + b * 2 ^ s < 4294967296) :
    bits BinOp.or IntKind.u32 (a : Int) ((b : Int) * m) = ((a + b * 2 ^ s : Nat) : Int) := by
  subst hm
  have h := u32_or_nat a (b * 2 ^ s) (by omega) (by omega)
  have h2 : a ||| b * 2 ^ s = a + b * 2 ^ s := by
    rw [Nat.or_comm, nat_join s (b * 2 ^ s) a (by simp) ha, Nat.add_comm]
  rw [h2] at h
  rw [← Int.natCast_mul]
  exact h

theorem get_num (x0 x1 x2 x3 : Nat) (k0 : x0 < 256) (k1 : x1 < 256) (k2 : x2 < 256) (k3 : x3 < 256) :
    bits BinOp.or IntKind.u32 (bits BinOp.or IntKind.u32 (bits BinOp.or IntKind.u32 (x0 : Int) ((x1 : Int) * 256)) ((x2 : Int) * 65536)) ((x3 : Int) * 16777216) =
      ((x0 + 256 * x1 + 65536 * x2 + 16777216 * x3 : Nat) : Int) := by
  rw [or_num x0 x1 8 256 rfl (by omega) (by omega), or_num _ x2 16 65536 rfl (by omega) (by omega), or_num _ x3 24 16777216 rfl (by omega) (by omega)]
  omega

set_option maxHeartbeats 400000 in
theorem whole_any (A : Option Addr) (n c : Nat) (l : List UInt8) (w : World) (hBs : Bs w A n c l) (h4 : 4 ≤ n) :
    Calls Tryz.prog 165 #[.slice A n c] w fun e w' => e = .returned (.int .u32 (Fr.get l)) ∧ ∃ k, w' = w.drewN k := by
  obtain ⟨b, off, x0, x1, x2, x3, rfl, hg, k0, k1, k2, k3, c0, c1, c2, c3⟩ := four hBs h4
  have HG := Lib.hid hg
  clear hg hBs
  have i0 : (0 : Int) < (n : Int) := by omega
  have i1 : (1 : Int) < (n : Int) := by omega
  have i2 : (2 : Int) < (n : Int) := by omega
  have i3 : (3 : Int) < (n : Int) := by omega
  go_enter Tryz.func165, Tryz.ntmps165
  go_wp2
  go_quiet (fail)
  go_wp2
  go_ret
  exact ⟨ret_int (by rw [HG.out]; exact get_num _ _ _ _ k0 k1 k2 k3), _, rfl⟩

set_option maxHeartbeats 400000 in
theorem get32_any (A : Option Addr) (n c : Nat) (l : List UInt8) (w : World) (hBs : Bs w A n c l) (h4 : 4 ≤ n) :
    Calls Tryz.prog 164 #[.slice A n c] w fun e w' => e = .returned (.int .u32 (Fr.get l)) ∧ ∃ k, w' = w.drewN k := by
  obtain ⟨b, off, x0, x1, x2, x3, rfl, hg, k0, k1, k2, k3, c0, c1, c2, c3⟩ := four hBs h4
  have HG := Lib.hid hg
  clear hg hBs
  have i0 : (0 : Int) < (n : Int) := by omega
  have i1 : (1 : Int) < (n : Int) := by omega
  have i2 : (2 : Int) < (n : Int) := by omega
  have i3 : (3 : Int) < (n : Int) := by omega
  go_enter Tryz.func164, Tryz.ntmps164
  go_wp2
  go_quiet (fail)
  go_wp2
  go_ret
  exact ⟨ret_int (by rw [HG.out]; omega), _, rfl⟩

set_option maxHeartbeats 400000 in
theorem fsum_any (A : Option Addr) (n c : Nat) (l : List UInt8) (A2 : Option Addr) (n2 c2 : Nat) (l2 : List UInt8) (w : World) (hBs : Bs w A n c l) (hBs2 : Bs w A2 n2 c2 l2) :
    Calls Tryz.prog 139 #[.slice A n c, .slice A2 n2 c2] w fun e w' => e = .returned (.int .u32 (Fr.fsum l l2)) ∧ w = w' := by
  go_enter Tryz.func139, Tryz.ntmps139
  go_wp2_with fail
  refine (CrcW.sum_any _ _ _ _ _ hBs).mono ?_
  rintro e w' ⟨rfl, rfl⟩
  go_wp2_with fail
  refine (CrcW.on_any _ (by exact Crc.on_lt _ _) _ _ _ _ _ hBs2).mono ?_
  rintro e w' ⟨rfl, rfl⟩
  have hs := Crc.on_sum l l2
  go_wp2_with fail
  go_ret
  exact ⟨rfl, rfl⟩

set_option maxHeartbeats 400000 in
theorem bytes_any (A : Option Addr) (n c : Nat) (l : List UInt8) (A2 : Option Addr) (n2 c2 : Nat) (l2 : List UInt8) (w : World) (hBs : Bs w A n c l) (hBs2 : Bs w A2 n2 c2 l2) :
    Calls Tryz.prog 19 #[.slice A n c, .slice A2 n2 c2] w fun e w' => e = .returned (.bool (decide (l = l2))) ∧ ∃ k, w' = w.drewN k := by
  have hn := Rd.le hBs
  have hm := Rd.max hBs
  have hn2 := Rd.le hBs2
  have hm2 := Rd.max hBs2
  have HN : Hid (l.length = n) := hBs.len
  have HN2 : Hid (l2.length = n2) := hBs2.len
  by_cases hne : n = n2
  · subst hne
    go_enter Tryz.func19, Tryz.ntmps19
    go_wp2
    go_loopw [5] (fun i wr => ∃ k m : Nat, k ≤ n ∧ i = .int .i64 k ∧ wr = w.drewN m ∧ Hid (l.take k = l2.take k)) (fun i _ => n - (intOf i).toNat)
    case atStart => exact ⟨0, 0, by omega, rfl, rfl, rfl⟩
    case round =>
      obtain ⟨k, m, hk, rfl, rfl, ht⟩ := hrel
      by_cases hlt : k < n
      · obtain ⟨b, off, x, rfl, _, hx, hx8, hc⟩ := hBs.at_ hlt
        obtain ⟨b2, off2, y, rfl, _, hy, hy8, hc2⟩ := hBs2.at_ hlt
        have HX := Lib.hid hx
        have HY := Lib.hid hy
        clear hx hy
        have i0 : (k : Int) < (n : Int) := by omega
        by_cases hxy : x = y
        · have hb : ((x.toNat : Int) != (y.toNat : Int)) = false := by rw [hxy]; simp
          have HXY := Lib.hid hxy
          clear hxy
          go_wp2_with fail
          go_quiet (fail)
          go_wp2_with fail
          go_roundw
          case rel => exact ⟨k + 1, _, by omega, by go_num, rfl, by unfold Hid; rw [take_snoc HX.out, take_snoc HY.out, ht.out, HXY.out]⟩
          case measure => simp [intOf]; omega
        · have hb : ((x.toNat : Int) != (y.toNat : Int)) = true := by
            rw [bne_iff_ne]
            intro h
            exact hxy (UInt8.toNat_inj.1 (by omega))
          have HXY := Lib.hid hxy
          clear hxy
          go_wp2_with fail
          go_quiet (fail)
          go_wp2_with fail
          go_ret
          refine ⟨ret_bool ?_, _, World.drewN_drewN _ _ _⟩
          have : l ≠ l2 := by
            intro h
            have h1 := HX.out
            rw [h, HY.out] at h1
            injection h1 with h1
            exact HXY.out h1.symm
          simp [this]
      · obtain rfl : k = n := by omega
        go_wp2_with fail
        go_ret
        refine ⟨ret_bool ?_, _, rfl⟩
        have h := ht.out
        rw [List.take_of_length_le (by rw [HN.out]; omega), List.take_of_length_le (by rw [HN2.out]; omega)] at h
        simp [h]
  · have hb : ((n : Int) != (n2 : Int)) = true := by rw [bne_iff_ne]; omega
    have : l ≠ l2 := by
      intro h
      have h1 := HN.out
      rw [h, HN2.out] at h1
      exact hne h1.symm
    have HD := Lib.hid this
    clear this
    go_enter Tryz.func19, Tryz.ntmps19
    go_wp2_with fail
    go_ret
    exact ⟨ret_bool (by simp [HD.out]), 0, rfl⟩

set_option maxHeartbeats 400000 in
theorem clone_any (A : Option Addr) (n c : Nat) (l : List UInt8) (w : World) (hBs : Bs w A n c l) (hn0 : n ≤ 140737488355328) :
    Calls Tryz.prog 166 #[.slice A n c] w fun e w' => ∃ A' c', e = .returned (.slice A' n c') ∧ OwB w' w.heap.size 5 (.slice A' n c') l ∧ Below w.heap.size w w' := by
  have HN : Hid (l.length = n) := hBs.len
  have heq := fun (w : World) (a : Option Addr) (n c : Nat) => Lib.run_eql_slice_nil (P := Tryz.prog) w 22 5 a n c 0 0 Tryz.underlying22
  rcases A with _ | ad
  · obtain ⟨rfl, rfl⟩ := Rd.nil hBs rfl
    have hl : l = [] := List.eq_nil_of_length_eq_zero HN.out
    subst hl
    go_enter Tryz.func166, Tryz.ntmps166
    go_wp2_with fail
    go_ret
    exact ⟨_, _, rfl, OwB.nil _ _ _, Below.refl _ _⟩
  · go_enter Tryz.func166, Tryz.ntmps166
    go_wp2_with (at_builtin; apply stop_here)
    refine Stop.go (append_bytes _ 22 5 Tryz.underlying22 info_u8 rfl _ _ rfl w.heap.size _ [] rfl (owb_lit _ _ (Nat.le_refl _) _ _ _ _ rfl (by decide) rfl) _ _ _ l rfl (hBs.below (below_alloc _ _)) n (by simp) (by omega) (by simp) ?_)
    intro A3 c3 w3 ho3 hg3 hb3
    have hb := (below_alloc w (.cells #[] 5)).trans hb3
    clear hb3 hg3
    go_wp2_with fail
    go_ret
    exact ⟨_, _, rfl, ho3, hb⟩

/-- A literal of three slices of bytes in a new block. -/
theorem bsl_lit3 (w : World) (E : TypeId) (A0 A1 A2 : Option Addr) (n0 n1 n2 c0 c1 c2 : Nat) (l0 l1 l2 : List UInt8) (h0 : Bs w A0 n0 c0 l0) (h1 : Bs w A1 n1 c1 l1) (h2 : Bs w A2 n2 c2 l2) :
    BsL (w.alloc (.cells #[.slice A0 n0 c0, .slice A1 n1 c1, .slice A2 n2 c2] E)) (some ⟨w.heap.size, 0, none⟩) 3 3 [l0, l1, l2] := by
  have hb := below_alloc w (.cells #[.slice A0 n0 c0, .slice A1 n1 c1, .slice A2 n2 c2] E)
  refine ⟨[.slice A0 n0 c0, .slice A1 n1 c1, .slice A2 n2 c2], ⟨rfl, by omega, by omega, fun h => by simp at h, fun _ => ⟨_, _, rfl, by simp, fun j u hu => ?_⟩⟩, rfl, fun j u hu => ?_⟩
  · have hh : (w.alloc (.cells #[.slice A0 n0 c0, .slice A1 n1 c1, .slice A2 n2 c2] E)).heap[w.heap.size]? = some (.cells #[.slice A0 n0 c0, .slice A1 n1 c1, .slice A2 n2 c2] E) := heap_alloc_new w _
    simp only [World.cell?, hh, Nat.zero_add]
    simpa using hu
  · match j, hu with
    | 0, hu => simp at hu; subst hu; exact ⟨l0, rfl, El.of_bs (h0.below hb)⟩
    | 1, hu => simp at hu; subst hu; exact ⟨l1, rfl, El.of_bs (h1.below hb)⟩
    | 2, hu => simp at hu; subst hu; exact ⟨l2, rfl, El.of_bs (h2.below hb)⟩

set_option maxHeartbeats 1000000 in
theorem grow_any (m : Nat) (hm : m ≤ 140737488355328) (w : World) :
    Calls Tryz.prog 179 #[.slice none 0 0, .int .i64 m] w fun e w' => ∃ A' c', e = .returned (.slice A' 0 c') ∧ OwB w' w.heap.size 5 (.slice A' 0 c') [] ∧ Below w.heap.size w w' := by
  by_cases h0 : m = 0
  · subst h0
    go_enter Tryz.func179, Tryz.ntmps179
    go_wp2_with fail
    go_ret
    exact ⟨_, _, rfl, OwB.nil _ _ _, Below.refl _ _⟩
  · have hp : 0 < m := by omega
    go_enter Tryz.func179, Tryz.ntmps179
    go_wp2_with (at_builtin; apply stop_here)
    obtain ⟨i, hi, hz, hsz, hby⟩ := info_parts info_u8
    have hcap := grownCap_ge w m 0 5
    have hcm := grownCap_le_maxLen w m 0 5 (by unfold maxLen; omega)
    have hcm2 : grownCap w m 0 5 ≤ 9223372036854775807 := by unfold maxLen at hcm; omega
    refine Stop.go (Lib.wpList_append_run _ rfl _ _ 22 3 rfl _ _ rfl rfl _ _ (Lib.run_append_nil_zeros w 22 3 _ 5 i (.int .u8 0) .i64 .i64 Tryz.underlying22 Tryz.underlying3 hi hz m hp (by omega) (by omega) (by rw [hby]; omega)) ?_)
    have ho := World.ownsRow_made (base := w.heap.size) (e := 5) (size := 1) w.drew (Builtin.zeroCells (Value.int .u8 0).cells m ++ Builtin.zeroCells (Value.int .u8 0).cells (grownCap w m 0 5 - m)) (grownCap w m 0 5) (Nat.le_refl _) hcm (by
      rw [Array.size_append, size_zeroCells, size_zeroCells]
      simp [Value.cells]
      omega)
    have hb : Below w.heap.size w (w.drew.alloc (.cells (Builtin.zeroCells (Value.int .u8 0).cells m ++ Builtin.zeroCells (Value.int .u8 0).cells (grownCap w m 0 5 - m)) 5)) :=
      (Below.refl _ _).drew.alloc (Nat.le_refl _) _
    generalize w.drew.alloc (.cells (Builtin.zeroCells (Value.int .u8 0).cells m ++ Builtin.zeroCells (Value.int .u8 0).cells (grownCap w m 0 5 - m)) 5) = w1 at *
    go_wp2_with fail
    go_ret
    exact ⟨_, _, rfl, ho, hb⟩

set_option maxHeartbeats 1000000 in
theorem concat_any (A : Option Addr) (n c : Nat) (ls : List (List UInt8)) (w : World) (hBs : BsL w A n c ls) (hsz : (cat ls).length ≤ 140737488355328) :
    Calls Tryz.prog 131 #[.slice A n c] w fun e w' => ∃ A' c', e = .returned (.slice A' (cat ls).length c') ∧ OwB w' w.heap.size 5 (.slice A' (cat ls).length c') (cat ls) ∧ Below w.heap.size w w' := by
  have hn := hBs.le
  have hm := hBs.max
  have HN : Hid (ls.length = n) := hBs.len
  have HF : Hid (cat (ls.take n) = cat ls) := by unfold Hid; rw [List.take_of_length_le (by rw [HN.out]; omega)]
  go_enter Tryz.func131, Tryz.ntmps131
  go_wp2
  go_loop [3, 11] (fun v i => ∃ k : Nat, k ≤ n ∧ i = .int .i64 k ∧ v = .int .i64 ((cat (ls.take k)).length : Nat)) (fun _ i => n - (intOf i).toNat)
  case atStart => exact ⟨0, by omega, rfl, rfl⟩
  case round =>
    obtain ⟨k, hk, rfl, rfl⟩ := hrel
    have hb := cat_take_le ls k
    by_cases hlt : k < n
    · obtain ⟨b, off, A1, n1, c1, l1, rfl, _, hl, hc, hbs⟩ := hBs.at_ hlt
      have hb1 := cat_take_le ls (k + 1)
      have HL : Hid ((cat (ls.take (k + 1))).length = (cat (ls.take k)).length + n1) := by unfold Hid; rw [cat_take hl, List.length_append, hbs.len]
      have hb2 : (cat (ls.take k)).length + n1 ≤ 140737488355328 := by rw [← HL.out]; omega
      clear hl hb1
      generalize (cat (ls.take k)).length = t at *
      have hneg : decide (((t : Int) + (n1 : Int)) < 0) = false := by simp; omega
      go_wp2
      go_round
      case rel => exact ⟨k + 1, by omega, by go_num, val_int (by rw [HL.out]; omega)⟩
      case measure => simp [intOf]; omega
    · obtain rfl : k = n := by omega
      rw [HF.out]
      generalize hT : (cat ls).length = t at *
      have HT := Lib.hid hT
      clear hT
      go_wp2_with fail
      refine (grow_any t hsz _).mono ?_
      rintro e w1 ⟨A1, c1, rfl, ho1, hb1⟩
      go_wp2_with fail
      go_loopw [6, 27] (fun v i wr => ∃ k' A' c', k' ≤ k ∧ i = .int .i64 k' ∧ v = .slice A' (cat (ls.take k')).length c' ∧ OwB wr w.heap.size 5 (.slice A' (cat (ls.take k')).length c') (cat (ls.take k')) ∧ Below w.heap.size w wr) (fun _ i _ => k - (intOf i).toNat)
      case atStart => exact ⟨0, A1, c1, by omega, rfl, rfl, ho1, hb1⟩
      case round =>
        obtain ⟨k', A', c', hk', rfl, rfl, ho, hbw⟩ := hrel
        by_cases hlt : k' < k
        · obtain ⟨b, off, A2, n2, c2, l2, rfl, _, hl, hc, hbs⟩ := (hBs.below hbw).at_ hlt
          have hle := cat_take_le ls (k' + 1)
          have HL : Hid (cat (ls.take (k' + 1)) = cat (ls.take k') ++ l2) := cat_take hl
          have HLn : Hid (l2.length = n2) := hbs.len
          clear hl
          have hwsz := hbw.size
          go_wp2_with (at_builtin; apply stop_here)
          refine Stop.go (append_bytes _ 22 5 Tryz.underlying22 info_u8 rfl _ _ rfl w.heap.size _ _ rfl ho _ _ _ l2 rfl hbs ((cat (ls.take (k' + 1))).length) (by rw [HL.out, List.length_append, HLn.out]) (by have := HT.out; omega) hwsz ?_)
          intro A3 c3 w3 ho3 hg3 hb3
          rw [← HL.out] at ho3
          clear hg3
          go_wp2_with fail
          go_roundw
          case rel => exact ⟨k' + 1, A3, c3, by omega, by go_num, rfl, ho3, hbw.trans hb3⟩
          case measure => simp [intOf]; omega
        · obtain rfl : k' = k := by omega
          rw [HF.out] at ho ⊢
          have ht := HT.out
          subst ht
          go_wp2_with fail
          go_ret
          exact ⟨A', c', rfl, ho, hbw⟩
end Go.Proofs.YtfdpnjebhllpkaaGreatDoor.FrW
end

section
namespace Go.Proofs.YtfdpnjebhllpkaaGreatDoor.FrW
open Go.RowKit

theorem cat3 (a b c : List UInt8) : cat [a, b, c] = a ++ (b ++ c) := by simp [cat]

set_option maxHeartbeats 1000000 in
theorem put_any (A : Option Addr) (n c : Nat) (l : List UInt8) (w : World) (hBs : Bs w A n c l) :
    Calls Tryz.prog 75 #[.slice A n c] w fun e w' => ∃ A' c', e = .returned (.slice A' (Fr.put l).length c') ∧ OwB w' w.heap.size 5 (.slice A' (Fr.put l).length c') (Fr.put l) ∧ Below w.heap.size w w' := by
  have hl := hBs.len
  by_cases h : n < 1 ∨ 1048576 < n
  · have hp : Fr.put l = [] := by unfold Fr.put; rw [if_pos (by omega)]
    rw [hp]
    clear hl hp
    rcases h with h | h
    · go_enter Tryz.func75, Tryz.ntmps75
      go_wp2_with fail
      go_ret
      exact ⟨_, _, rfl, OwB.nil _ _ _, Below.refl _ _⟩
    · go_enter Tryz.func75, Tryz.ntmps75
      go_wp2_with fail
      go_ret
      exact ⟨_, _, rfl, OwB.nil _ _ _, Below.refl _ _⟩
  · have hp : Fr.put l = Fr.frame l := by unfold Fr.put; rw [if_neg (by omega)]
    have hfl := Fr.frame_length l
    have HP : Hid (Fr.put l = Fr.le n ++ (Fr.le (Fr.fsum (Fr.le n) l) ++ l)) := by unfold Hid; rw [hp, Fr.frame, hl]
    have HPl : Hid ((Fr.put l).length = 8 + n) := by unfold Hid; rw [hp, hfl, hl]
    have h1 : 1 ≤ n := by omega
    have h2 : n ≤ 1048576 := by omega
    clear hp hfl hl h
    go_enter Tryz.func75, Tryz.ntmps75
    go_wp2_with fail
    refine (little_any n (by omega) _).mono ?_
    rintro e w1 ⟨A1, c1, rfl, ho1, hb1⟩
    go_wp2_with fail
    refine (fsum_any _ _ _ _ _ _ _ _ _ ho1.bs (hBs.below hb1)).mono ?_
    rintro e w' ⟨rfl, rfl⟩
    have hfs := Fr.fsum_lt (Fr.le n) l
    go_wp2_with fail
    refine (little_any _ hfs _).mono ?_
    rintro e w2 ⟨A2, c2, rfl, ho2, hb2⟩
    have hb12 : Below w.heap.size w w2 := hb1.trans (hb2.mono hb1.size)
    go_wp2_with fail
    refine (concat_any _ _ _ [Fr.le n, Fr.le (Fr.fsum (Fr.le n) l), l] _ (bsl_lit3 w2 _ _ _ _ _ _ _ _ _ _ _ _ _ (ho1.bs.below hb2) ho2.bs (hBs.below hb12)) (by rw [cat3, ← HP.out, HPl.out]; omega)).mono ?_
    rw [cat3, ← HP.out]
    rintro e w3 ⟨A3, c3, rfl, ho3, hb3⟩
    have hb13 : Below w.heap.size w w3 := hb12.trans (((below_alloc w2 _).trans (hb3.mono (by simp))).mono hb12.size)
    go_wp2_with fail
    go_ret
    exact ⟨_, _, rfl, ho3.base (by have := hb12.size; simp; omega), hb13⟩

set_option maxHeartbeats 1000000 in
theorem refput_any (A : Option Addr) (n c : Nat) (l : List UInt8) (w : World) (hBs : Bs w A n c l) :
    Calls Tryz.prog 83 #[.slice A n c] w fun e w' => ∃ A' c', e = .returned (.slice A' (Fr.put l).length c') ∧ OwB w' w.heap.size 5 (.slice A' (Fr.put l).length c') (Fr.put l) ∧ Below w.heap.size w w' := by
  have hl := hBs.len
  by_cases h : n < 1 ∨ 1048576 < n
  · have hp : Fr.put l = [] := by unfold Fr.put; rw [if_pos (by omega)]
    rw [hp]
    clear hl hp
    rcases h with h | h
    · go_enter Tryz.func83, Tryz.ntmps83
      go_wp2_with fail
      go_ret
      exact ⟨_, _, rfl, OwB.nil _ _ _, Below.refl _ _⟩
    · go_enter Tryz.func83, Tryz.ntmps83
      go_wp2_with fail
      go_ret
      exact ⟨_, _, rfl, OwB.nil _ _ _, Below.refl _ _⟩
  · have hp : Fr.put l = Fr.frame l := by unfold Fr.put; rw [if_neg (by omega)]
    have hfl := Fr.frame_length l
    have HP : Hid (Fr.put l = Fr.le n ++ Fr.le (Fr.fsum (Fr.le n) l) ++ l) := by unfold Hid; rw [hp, Fr.frame, hl, List.append_assoc]
    have HPl : Hid ((Fr.put l).length = 8 + n) := by unfold Hid; rw [hp, hfl, hl]
    have HL := Lib.hid hl
    have h1 : 1 ≤ n := by omega
    have h2 : n ≤ 1048576 := by omega
    clear hp hfl hl h
    go_enter Tryz.func83, Tryz.ntmps83
    go_wp2_with fail
    refine (put32_any n (by omega) _).mono ?_
    rintro e w1 ⟨A1, c1, rfl, ho1, hb1⟩
    go_wp2_with (at_builtin; apply stop_here)
    have hW : w.heap.size ≤ w1.heap.size := hb1.size
    refine Stop.go (append_bytes _ 22 5 Tryz.underlying22 info_u8 rfl _ _ rfl w1.heap.size _ [] rfl (owb_lit _ _ (Nat.le_refl _) _ _ _ _ rfl (by decide) rfl) _ _ _ (Fr.le n) rfl (ho1.bs.below (below_alloc _ _)) 4 (by simp) (by omega) (by simp) ?_)
    intro A2 c2 w2 ho2 hg2 hb2
    have hb12 : Below w1.heap.size w1 w2 := (below_alloc w1 _).trans hb2
    have hb02 : Below w.heap.size w w2 := hb1.trans (hb12.mono hW)
    have hs12 := hb12.size
    clear hg2 hb2
    go_wp2_with (at_builtin; apply stop_here)
    refine Stop.go (append_bytes _ 22 5 Tryz.underlying22 info_u8 rfl _ _ rfl w1.heap.size _ _ rfl ho2 _ _ _ l rfl (hBs.below hb02) (4 + n) (by simp) (by omega) hs12 ?_)
    intro A3 c3 w3 ho3 hg3 hb3
    have hb13 : Below w1.heap.size w1 w3 := hb12.trans hb3
    have hb03 : Below w.heap.size w w3 := hb1.trans (hb13.mono hW)
    clear hg3 hb3
    go_wp2_with fail
    refine (CrcW.ref_any _ _ _ _ _ ho3.bs).mono ?_
    rintro e w' ⟨rfl, rfl⟩
    have hfs := Fr.fsum_lt (Fr.le n) l
    go_wp2_with fail
    refine (put32_any (Fr.fsum (Fr.le n) l) hfs _).mono ?_
    rintro e w4 ⟨A4, c4, rfl, ho4, hb4⟩
    have hb14 : Below w1.heap.size w1 w4 := hb13.trans (hb4.mono hb13.size)
    have hb04 : Below w.heap.size w w4 := hb1.trans (hb14.mono hW)
    have hs14 := hb14.size
    have ho1' := ho1.below hb14
    go_wp2_with (at_builtin; apply stop_here)
    refine Stop.go (append_bytes _ 22 5 Tryz.underlying22 info_u8 rfl _ _ rfl w.heap.size _ _ rfl ho1' _ _ _ (Fr.le (Fr.fsum (Fr.le n) l)) rfl ho4.bs 8 (by simp) (by omega) (by omega) ?_)
    intro A5 c5 w5 ho5 hg5 hb5
    have hb05 : Below w.heap.size w w5 := hb04.trans hb5
    have hs05 := hb05.size
    clear hg5 hb5
    go_wp2_with (at_builtin; apply stop_here)
    refine Stop.go (append_bytes _ 22 5 Tryz.underlying22 info_u8 rfl _ _ rfl w.heap.size _ _ rfl ho5 _ _ _ l rfl (hBs.below hb05) (8 + n) (by simp) (by omega) hs05 ?_)
    intro A6 c6 w6 ho6 hg6 hb6
    have hb06 : Below w.heap.size w w6 := hb05.trans hb6
    rw [← HP.out] at ho6
    go_wp2_with fail
    go_ret
    rw [HPl.out]
    exact ⟨_, _, rfl, ho6, hb06⟩

set_option maxHeartbeats 1000000 in
theorem next_any (A : Option Addr) (n c : Nat) (l : List UInt8) (w : World) (hBs : Bs w A n c l) :
    Calls Tryz.prog 112 #[.slice A n c] w fun e w' => ∃ A' c', e = .returned (.tuple #[.slice A' (Fr.next l).1.length c', .int .i64 ((Fr.next l).2.1 : Nat), .int .i64 ((Fr.next l).2.2 : Nat)]) ∧ OwB w' w.heap.size 5 (.slice A' (Fr.next l).1.length c') (Fr.next l).1 ∧ Below w.heap.size w w' := by
  have hl := hBs.len
  have hlc := Rd.le hBs
  have hcm := Rd.max hBs
  have HL := Lib.hid hl
  generalize hN : Fr.next l = N
  unfold Fr.next at hN
  rw [hl] at hN
  clear hl
  by_cases h0 : n = 0
  · rw [if_pos h0] at hN
    subst hN
    subst h0
    go_enter Tryz.func112, Tryz.ntmps112
    go_wp2_with fail
    go_ret3
    exact ⟨_, _, rfl, OwB.nil _ _ _, Below.refl _ _⟩
  rw [if_neg h0] at hN
  have hN0 : ((n : Int) == 0) = false := by rw [beq_eq_false_iff_ne]; omega
  by_cases h4 : n < 4
  · rw [if_pos h4] at hN
    subst hN
    go_enter Tryz.func112, Tryz.ntmps112
    go_wp2_with fail
    go_ret3
    exact ⟨_, _, rfl, OwB.nil _ _ _, Below.refl _ _⟩
  rw [if_neg h4] at hN
  have h4' : 4 ≤ n := by omega
  generalize hg : Fr.get l = g at *
  have HG := Lib.hid hg
  have hg32 : g < 4294967296 := by rw [← hg]; exact Fr.get_lt l
  clear hg
  by_cases hb : g < 1 ∨ 1048576 < g
  · rw [if_pos hb] at hN
    subst hN
    rcases hb with hb | hb
    · go_enter Tryz.func112, Tryz.ntmps112
      go_wp2_with fail
      refine (whole_any _ _ _ _ _ hBs h4').mono ?_
      rintro e w1 ⟨rfl, k1, rfl⟩
      rw [HG.out]
      go_wp2_with fail
      go_ret3
      exact ⟨_, _, rfl, OwB.nil _ _ _, Joins.below_draws _ _ _⟩
    · go_enter Tryz.func112, Tryz.ntmps112
      go_wp2_with fail
      refine (whole_any _ _ _ _ _ hBs h4').mono ?_
      rintro e w1 ⟨rfl, k1, rfl⟩
      rw [HG.out]
      go_wp2_with fail
      go_ret3
      exact ⟨_, _, rfl, OwB.nil _ _ _, Joins.below_draws _ _ _⟩
  rw [if_neg hb] at hN
  have hg1 : 1 ≤ g := by omega
  have hg2 : g ≤ 1048576 := by omega
  clear hb
  by_cases hs : n < 8 + g
  · rw [if_pos hs] at hN
    subst hN
    go_enter Tryz.func112, Tryz.ntmps112
    go_wp2_with fail
    refine (whole_any _ _ _ _ _ hBs h4').mono ?_
    rintro e w1 ⟨rfl, k1, rfl⟩
    rw [HG.out]
    go_wp2_with fail
    go_ret3
    exact ⟨_, _, rfl, OwB.nil _ _ _, Joins.below_draws _ _ _⟩
  rw [if_neg hs] at hN
  have hs' : 8 + g ≤ n := by omega
  clear hs
  obtain ⟨b, off, rfl, _, _⟩ := Rd.cell hBs (by omega)
  have hr : Bs w (some ⟨b, off + 8, none⟩) (8 + g - 8) (c - 8) ((l.drop 8).take (8 + g - 8)) :=
    hBs.cut 8 (8 + g) (by omega) hs' _ (fun b' off' h _ => by injection h with h; injection h with h1 h2; subst h1; subst h2; rfl) (fun h => by cases h) (fun _ h => by cases h)
  have h4l : Bs w (some ⟨b, off, none⟩) (4 - 0) (c - 0) ((l.drop 0).take (4 - 0)) :=
    hBs.cut 0 4 (by omega) h4' _ (fun b' off' h _ => by injection h with h; injection h with h1 h2; subst h1; subst h2; rfl) (fun h => by cases h) (fun _ h => by cases h)
  have h4d : Bs w (some ⟨b, off + 4, none⟩) (n - 4) (c - 4) ((l.drop 4).take (n - 4)) :=
    hBs.cut 4 n h4' (by omega) _ (fun b' off' h _ => by injection h with h; injection h with h1 h2; subst h1; subst h2; rfl) (fun h => by cases h) (fun _ h => by cases h)
  rw [show 8 + g - 8 = g from by omega] at hr
  rw [List.drop_zero, Nat.sub_zero, Nat.sub_zero] at h4l
  rw [List.take_of_length_le (by rw [List.length_drop, HL.out]; omega)] at h4d
  have HR : Hid (((l.drop 8).take g).length = g) := hr.len
  have q1 : (4 : Int) ≤ (c : Int) := by omega
  have q2 : (n : Int) ≤ (c : Int) := by omega
  have q3 : (4 : Int) ≤ (n : Int) := by omega
  have q4 : 4 ≤ c := by omega
  have q5 : ¬ c = 4 := by omega
  generalize (l.drop 8).take g = r at *
  generalize hf : Fr.fsum (l.take 4) r = fs at *
  have HFS := Lib.hid hf
  have hfs : fs < 4294967296 := by rw [← hf]; exact Fr.fsum_lt _ _
  clear hf
  generalize hq : Fr.get (l.drop 4) = q at *
  have HQ := Lib.hid hq
  clear hq
  by_cases hne : fs ≠ q
  · rw [if_pos hne] at hN
    subst hN
    have hb : ((fs : Int) != (q : Int)) = true := by rw [bne_iff_ne]; omega
    clear hne
    go_enter Tryz.func112, Tryz.ntmps112
    go_wp2_with fail
    refine (whole_any _ _ _ _ _ hBs h4').mono ?_
    rintro e w1 ⟨rfl, k1, rfl⟩
    rw [HG.out]
    go_wp2_with fail
    refine (clone_any _ _ _ r _ (hr.below (Joins.below_draws _ _ _)) (by omega)).mono ?_
    rintro e w2 ⟨A2, c2, rfl, ho2, hb2⟩
    have hb02 : Below w.heap.size w w2 := (Joins.below_draws _ _ _).trans hb2
    have h4l2 := h4l.below hb02
    have h4d2 := h4d.below hb02
    go_wp2_with fail
    go_quiet ((first | (go_at_call 139; exact Calls.quiet_of_same ((fsum_any _ _ _ _ _ _ _ _ _ (h4l2.below (Joins.below_draws _ _ _)) (ho2.bs.below (Joins.below_draws _ _ _))).mono (fun _ _ h => ⟨h.1, h.2.symm⟩))) | (go_at_call 165; exact Calls.quiet_of (whole_any _ _ _ _ _ (h4d2.below (Joins.below_draws _ _ _)) (by omega)))))
    rw [HFS.out, HQ.out]
    go_wp2_with fail
    go_ret3
    exact ⟨_, _, rfl, OwB.nil _ _ _, hb02.trans (Joins.below_draws _ _ _)⟩
  · rw [if_neg hne] at hN
    subst hN
    have hb : ((fs : Int) != (q : Int)) = false := by rw [bne_eq_false_iff_eq]; omega
    clear hne
    go_enter Tryz.func112, Tryz.ntmps112
    go_wp2_with fail
    refine (whole_any _ _ _ _ _ hBs h4').mono ?_
    rintro e w1 ⟨rfl, k1, rfl⟩
    rw [HG.out]
    go_wp2_with fail
    refine (clone_any _ _ _ r _ (hr.below (Joins.below_draws _ _ _)) (by omega)).mono ?_
    rintro e w2 ⟨A2, c2, rfl, ho2, hb2⟩
    have hb02 : Below w.heap.size w w2 := (Joins.below_draws _ _ _).trans hb2
    have h4l2 := h4l.below hb02
    have h4d2 := h4d.below hb02
    go_wp2_with fail
    go_quiet ((first | (go_at_call 139; exact Calls.quiet_of_same ((fsum_any _ _ _ _ _ _ _ _ _ (h4l2.below (Joins.below_draws _ _ _)) (ho2.bs.below (Joins.below_draws _ _ _))).mono (fun _ _ h => ⟨h.1, h.2.symm⟩))) | (go_at_call 165; exact Calls.quiet_of (whole_any _ _ _ _ _ (h4d2.below (Joins.below_draws _ _ _)) (by omega)))))
    rw [HFS.out, HQ.out]
    go_wp2_with fail
    go_ret3
    have hrl := HR.out
    subst hrl
    exact ⟨_, _, rfl, ho2, hb02.trans (Joins.below_draws _ _ _)⟩

end Go.Proofs.YtfdpnjebhllpkaaGreatDoor.FrW
end

section
namespace Go.Proofs.YtfdpnjebhllpkaaGreatDoor.FrW
open Go.RowKit

theorem info_sl : (Tryz.prog.info? 22).map (fun i => (i.zero, i.size, i.bytes)) = some (some (.slice none 0 0), 1, 24) := by kernel_rfl

theorem want_iff (l : List UInt8) (g : Nat) (hg : Fr.get l = g) (h1 : 1 ≤ g) (h2 : g ≤ 1048576) (hs : 8 + g ≤ l.length) :
    Fr.put ((l.drop 8).take g) = l.take (8 + g) ↔ Fr.fsum (l.take 4) ((l.drop 8).take g) = Fr.get (l.drop 4) := by
  have hrl : ((l.drop 8).take g).length = g := by simp; omega
  have hp : Fr.put ((l.drop 8).take g) = Fr.le g ++ (Fr.le (Fr.fsum (Fr.le g) ((l.drop 8).take g)) ++ (l.drop 8).take g) := by
    unfold Fr.put
    rw [if_neg (by omega), Fr.frame, hrl]
  have hle : Fr.le g = l.take 4 := by rw [← hg]; exact Fr.le_get l (by omega)
  have hle2 : Fr.le (Fr.get (l.drop 4)) = (l.drop 4).take 4 := Fr.le_get _ (by rw [List.length_drop]; omega)
  have hsplit : l.take (8 + g) = l.take 4 ++ ((l.drop 4).take 4 ++ (l.drop 8).take g) := by
    rw [show 8 + g = 4 + (4 + g) from by omega, List.take_add, List.take_add, List.drop_drop]
  rw [hp, hsplit, hle]
  generalize (l.drop 8).take g = r at *
  constructor
  · intro h
    have h := List.append_cancel_left h
    have h := List.append_cancel_right h
    have e : Fr.get (Fr.le (Fr.fsum (l.take 4) r) ++ []) = Fr.get ((l.drop 4).take 4 ++ []) := by rw [h]
    rw [Fr.get_le _ (Fr.fsum_lt _ _), ← hle2, Fr.get_le _ (Fr.get_lt _)] at e
    exact e
  · intro h
    rw [h, hle2]

set_option maxHeartbeats 1000000 in
theorem refnext_any (A : Option Addr) (n c : Nat) (l : List UInt8) (w : World) (hBs : Bs w A n c l) :
    Calls Tryz.prog 113 #[.slice A n c] w fun e w' => ∃ A' c', e = .returned (.tuple #[.slice A' (Fr.next l).1.length c', .int .i64 ((Fr.next l).2.1 : Nat), .int .i64 ((Fr.next l).2.2 : Nat)]) ∧ OwB w' w.heap.size 5 (.slice A' (Fr.next l).1.length c') (Fr.next l).1 ∧ Below w.heap.size w w' := by
  have hl := hBs.len
  have hlc := Rd.le hBs
  have hcm := Rd.max hBs
  have HL := Lib.hid hl
  generalize hN : Fr.next l = N
  unfold Fr.next at hN
  rw [hl] at hN
  clear hl
  by_cases h0 : n = 0
  · rw [if_pos h0] at hN
    subst hN
    subst h0
    go_enter Tryz.func113, Tryz.ntmps113
    go_wp2_with fail
    go_ret3
    exact ⟨_, _, rfl, OwB.nil _ _ _, Below.refl _ _⟩
  rw [if_neg h0] at hN
  have hN0 : ((n : Int) == 0) = false := by rw [beq_eq_false_iff_ne]; omega
  by_cases h4 : n < 4
  · rw [if_pos h4] at hN
    subst hN
    go_enter Tryz.func113, Tryz.ntmps113
    go_wp2_with fail
    go_ret3
    exact ⟨_, _, rfl, OwB.nil _ _ _, Below.refl _ _⟩
  rw [if_neg h4] at hN
  have h4' : 4 ≤ n := by omega
  have HW := Lib.hid (want_iff l)
  generalize hg : Fr.get l = g at *
  have HG := Lib.hid hg
  have hg32 : g < 4294967296 := by rw [← hg]; exact Fr.get_lt l
  clear hg
  by_cases hb : g < 1 ∨ 1048576 < g
  · rw [if_pos hb] at hN
    subst hN
    by_cases hb1 : g < 1
    · go_enter Tryz.func113, Tryz.ntmps113
      go_wp2_with fail
      refine (get32_any _ _ _ _ _ hBs h4').mono ?_
      rintro e w1 ⟨rfl, k1, rfl⟩
      rw [HG.out]
      go_wp2_with fail
      go_ret3
      exact ⟨_, _, rfl, OwB.nil _ _ _, Joins.below_draws _ _ _⟩
    · have hb2 : 1048576 < g := by omega
      go_enter Tryz.func113, Tryz.ntmps113
      go_wp2_with fail
      refine (get32_any _ _ _ _ _ hBs h4').mono ?_
      rintro e w1 ⟨rfl, k1, rfl⟩
      rw [HG.out]
      go_wp2_with fail
      refine (get32_any _ _ _ _ _ (hBs.below (Joins.below_draws _ _ _)) h4').mono ?_
      rintro e w1 ⟨rfl, k2, rfl⟩
      rw [HG.out]
      go_wp2_with fail
      go_ret3
      exact ⟨_, _, rfl, OwB.nil _ _ _, Joins.below_draws _ _ _⟩
  rw [if_neg hb] at hN
  have hg1 : 1 ≤ g := by omega
  have hg2 : g ≤ 1048576 := by omega
  clear hb
  by_cases hs : n < 8 + g
  · rw [if_pos hs] at hN
    subst hN
    go_enter Tryz.func113, Tryz.ntmps113
    go_wp2_with fail
    refine (get32_any _ _ _ _ _ hBs h4').mono ?_
    rintro e w1 ⟨rfl, k1, rfl⟩
    rw [HG.out]
    go_wp2_with fail
    refine (get32_any _ _ _ _ _ (hBs.below (Joins.below_draws _ _ _)) h4').mono ?_
    rintro e w1 ⟨rfl, k2, rfl⟩
    rw [HG.out]
    go_wp2_with fail
    refine (get32_any _ _ _ _ _ (hBs.below (Joins.below_draws _ _ _)) h4').mono ?_
    rintro e w1 ⟨rfl, k3, rfl⟩
    rw [HG.out]
    go_wp2_with fail
    go_ret3
    exact ⟨_, _, rfl, OwB.nil _ _ _, Joins.below_draws _ _ _⟩
  rw [if_neg hs] at hN
  have hs' : 8 + g ≤ n := by omega
  clear hs
  have hiff : Fr.put ((l.drop 8).take g) = l.take (8 + g) ↔ Fr.fsum (l.take 4) ((l.drop 8).take g) = Fr.get (l.drop 4) := want_iff l g HG.out hg1 hg2 (by rw [HL.out]; exact hs')
  clear HW
  obtain ⟨b, off, rfl, _, _⟩ := Rd.cell hBs (by omega)
  have hr : Bs w (some ⟨b, off + 8, none⟩) (8 + g - 8) (c - 8) ((l.drop 8).take (8 + g - 8)) :=
    hBs.cut 8 (8 + g) (by omega) hs' _ (fun b' off' h _ => by injection h with h; injection h with h1 h2; subst h1; subst h2; rfl) (fun h => by cases h) (fun _ h => by cases h)
  have h8 : Bs w (some ⟨b, off, none⟩) (8 + g - 0) (c - 0) ((l.drop 0).take (8 + g - 0)) :=
    hBs.cut 0 (8 + g) (by omega) hs' _ (fun b' off' h _ => by injection h with h; injection h with h1 h2; subst h1; subst h2; rfl) (fun h => by cases h) (fun _ h => by cases h)
  rw [show 8 + g - 8 = g from by omega] at hr
  rw [List.drop_zero, Nat.sub_zero, Nat.sub_zero] at h8
  have HR : Hid (((l.drop 8).take g).length = g) := hr.len
  generalize (l.drop 8).take g = r at *
  have hpl : (Fr.put r).length ≤ 1048584 := by
    unfold Fr.put
    split
    · simp
    · rw [Fr.frame_length]; omega
  by_cases hne : Fr.put r = l.take (8 + g)
  · have hd : decide (Fr.put r = l.take (8 + g)) = true := by simpa using hne
    rw [if_neg (by simpa using hiff.1 hne)] at hN
    subst hN
    clear hiff hne
    generalize hP : Fr.put r = P at *
    have HP := Lib.hid hP
    clear hP
    generalize hQ : l.take (8 + g) = Q at *
    have HQ := Lib.hid hQ
    clear hQ
    go_enter Tryz.func113, Tryz.ntmps113
    go_wp2_with fail
    refine (get32_any _ _ _ _ _ hBs h4').mono ?_
    rintro e w1 ⟨rfl, k1, rfl⟩
    rw [HG.out]
    go_wp2_with fail
    refine (get32_any _ _ _ _ _ (hBs.below (Joins.below_draws _ _ _)) h4').mono ?_
    rintro e w1 ⟨rfl, k2, rfl⟩
    rw [HG.out]
    go_wp2_with fail
    refine (get32_any _ _ _ _ _ (hBs.below (Joins.below_draws _ _ _)) h4').mono ?_
    rintro e w1 ⟨rfl, k3, rfl⟩
    rw [HG.out]
    go_wp2_with fail
    refine (get32_any _ _ _ _ _ (hBs.below (Joins.below_draws _ _ _)) h4').mono ?_
    rintro e w1 ⟨rfl, k4, rfl⟩
    rw [HG.out]
    go_wp2_with fail
    refine (refput_any _ _ _ r _ (hr.below (Joins.below_draws _ _ _))).mono ?_
    rw [HP.out]
    rintro e w2 ⟨A2, c2, rfl, ho2, hb2⟩
    have hb02 : Below w.heap.size w w2 := (Joins.below_draws _ _ _).trans hb2
    have h82 := h8.below hb02
    have hr2 := hr.below hb02
    clear hb2
    go_wp2_with fail
    refine (bytes_any _ _ _ P _ _ _ Q _ ho2.bs h82).mono ?_
    rintro e w3 ⟨rfl, k5, rfl⟩
    rw [hd]
    have hr3 : Bs (w2.drewN k5) (some ⟨b, off + 8, none⟩) g (c - 8) r := hr2.below (Joins.below_draws _ _ _)
    have hb03 : Below w.heap.size w (w2.drewN k5) := hb02.trans (Joins.below_draws _ _ _)
    generalize w2.drewN k5 = w3 at *
    go_wp2_with (at_builtin; apply stop_here)
    rw [show 8 + g - 8 = g from by omega]
    refine Stop.go (append_bytes _ 22 5 Tryz.underlying22 info_u8 rfl _ _ rfl w.heap.size _ [] rfl (owb_lit _ _ (by have := hb03.size; omega) _ _ _ _ rfl (by decide) rfl) _ _ _ r rfl (hr3.below (below_alloc _ _)) g (by simp) (by omega) (by have := hb03.size; simp; omega) ?_)
    intro A4 c4 w4 ho4 hg4 hb4
    have hb04 : Below w.heap.size w w4 := hb03.trans (((below_alloc w3 _).mono hb03.size).trans hb4)
    clear hg4 hb4
    go_wp2_with fail
    go_ret3
    have hrl := HR.out
    subst hrl
    exact ⟨_, _, rfl, ho4, hb04⟩
  · have hd : decide (Fr.put r = l.take (8 + g)) = false := by simpa using hne
    rw [if_pos (fun h => hne (hiff.2 h))] at hN
    subst hN
    clear hiff hne
    generalize hP : Fr.put r = P at *
    have HP := Lib.hid hP
    clear hP
    generalize hQ : l.take (8 + g) = Q at *
    have HQ := Lib.hid hQ
    clear hQ
    go_enter Tryz.func113, Tryz.ntmps113
    go_wp2_with fail
    refine (get32_any _ _ _ _ _ hBs h4').mono ?_
    rintro e w1 ⟨rfl, k1, rfl⟩
    rw [HG.out]
    go_wp2_with fail
    refine (get32_any _ _ _ _ _ (hBs.below (Joins.below_draws _ _ _)) h4').mono ?_
    rintro e w1 ⟨rfl, k2, rfl⟩
    rw [HG.out]
    go_wp2_with fail
    refine (get32_any _ _ _ _ _ (hBs.below (Joins.below_draws _ _ _)) h4').mono ?_
    rintro e w1 ⟨rfl, k3, rfl⟩
    rw [HG.out]
    go_wp2_with fail
    refine (get32_any _ _ _ _ _ (hBs.below (Joins.below_draws _ _ _)) h4').mono ?_
    rintro e w1 ⟨rfl, k4, rfl⟩
    rw [HG.out]
    go_wp2_with fail
    refine (refput_any _ _ _ r _ (hr.below (Joins.below_draws _ _ _))).mono ?_
    rw [HP.out]
    rintro e w2 ⟨A2, c2, rfl, ho2, hb2⟩
    have hb02 : Below w.heap.size w w2 := (Joins.below_draws _ _ _).trans hb2
    have h82 := h8.below hb02
    clear hb2
    go_wp2_with fail
    refine (bytes_any _ _ _ P _ _ _ Q _ ho2.bs h82).mono ?_
    rintro e w3 ⟨rfl, k5, rfl⟩
    rw [hd]
    go_wp2_with fail
    go_ret3
    exact ⟨_, _, rfl, OwB.nil _ _ _, hb02.trans (Joins.below_draws _ _ _)⟩
end Go.Proofs.YtfdpnjebhllpkaaGreatDoor.FrW
end
