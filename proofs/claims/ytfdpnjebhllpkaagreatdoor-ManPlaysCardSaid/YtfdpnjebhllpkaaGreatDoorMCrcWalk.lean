/- The walks of the layer crc: what its functions compute. -/
import Derived.Test.YtfdpnjebhllpkaaGreatDoorMStrLaws
import Derived.ArgAppend
import Derived.Test.YtfdpnjebhllpkaaGreatDoorRows
import Derived.Test.YtfdpnjebhllpkaaGreatDoorMFrameMath
section
namespace Go.Proofs.YtfdpnjebhllpkaaGreatDoor
open Go.RowKit

section
variable {P : Program} {ops : Array Oper} {rest : List Oper} {o : Oper} {a : Act} {Q : Exit → Act → World → Prop}

/-- 'append(x, y...)' at bytes, x any slice that has no room. -/
theorem append_bytes_full (w : World) (t e : TypeId) (ht : P.underlying t = some (.slice e))
    (hinfo : (P.info? e).map (fun i => (i.zero, i.size, i.bytes)) = some (some (.int .u8 0), 1, 1))
    (hgd : o.guard = none) (s x : Operand)
    (ho : o.op = .call { callee := .builtin .append, args := #[s, x], argTypes := #[t, t] })
    (A : Option Addr) (n c : Nat) (la : List UInt8) (hs : a.eval s = .slice A n c) (hA : Bs w A n c la)
    (A2 : Option Addr) (m c2 : Nat) (lb : List UInt8) (hx : a.eval x = .slice A2 m c2) (hr : Bs w A2 m c2 lb) (hm : 0 < m) (hfull : c < n + m)
    (N : Nat) (hN : n + m = N) (hsz : N ≤ 140737488355328)
    (h : ∀ A' c' w', OwB w' w.heap.size e (.slice A' N c') (la ++ lb) → Below w.heap.size w w' → wpList P ops Q rest (a.put o.dst (.slice A' N c')) w') :
    wpList P ops Q (o :: rest) a w := by
  obtain ⟨i, hi, hz, hsz', hby⟩ := info_parts hinfo
  have hla := hA.len
  have hlb := hr.len
  obtain ⟨b2, off2, rfl, _, hc2⟩ := Rd.cell hr hm
  have addr : ∀ (b off j : Nat), (⟨b, off, none⟩ : Addr).add j = ⟨b, off + j, none⟩ := fun b off j => by
    unfold Addr.add
    split
    · rename_i h0; subst h0; rfl
    · rfl
  refine wpList_append_grows w hgd s x t ho e i (.int .u8 0) 1 1 ht hi hz hsz' hby rfl (by omega) A n c (bv la) hs (Rd.nil hA) (by simp [hla]) ?_ ⟨b2, off2, none⟩ m c2 (bv lb) hx (by simp [hlb]) ?_ (bv_oneCell lb) hfull (by unfold maxLen; omega) (by omega) ?_
  · intro b hb j u hu
    have hn : 0 < n := by
      have := (List.getElem?_eq_some_iff.1 hu).1
      simp [hla] at this
      omega
    obtain ⟨b1, off1, e1, _, hc1⟩ := Rd.cell hA hn
    rw [hb] at e1
    injection e1 with e1
    subst e1
    rw [addr]
    exact hc1 j u hu
  · intro j u hu
    rw [addr]
    exact hc2 j u hu
  · intro v' w' h1 h2
    obtain ⟨A', c', rfl⟩ := ownsRow_form h1
    rw [hN] at h1 ⊢
    refine h A' c' w' ?_ ⟨h2.1, h2.2, h2.3, h2.4, fun k hk => h2.5 k hk (by simp)⟩
    unfold OwB
    rw [bv_append, List.length_append, show la.length + lb.length = N from by omega]
    exact h1
end

/-- A row of ints of the call's own. -/
def OwZ (w : World) (B E : Nat) (v : Value) (zs : List Int) : Prop := w.ownsRow B E 1 v zs.length (zs.map (Value.int .i64))

theorem OwZ.nil (w : World) (B E : Nat) : OwZ w B E (.slice none 0 0) [] := World.ownsRow_nil w B E 1

theorem OwZ.below {w w' : World} {B E : Nat} {v : Value} {zs : List Int} (h1 : OwZ w B E v zs) (hb : Below w.heap.size w w') : OwZ w' B E v zs :=
  World.ownsRow.kept (row := none) h1 ⟨hb.os, hb.tape, hb.output, hb.size, fun k hk _ => hb.block k hk⟩ (by
    rcases h1.2 with ⟨rfl, _⟩ | ⟨g, cap, cur, rfl, _⟩
    · exact .inl rfl
    · right; simp [Value.ownBlock])

theorem OwZ.rd {w : World} {B E : Nat} {A : Option Addr} {n c : Nat} {zs : List Int} (h : OwZ w B E (.slice A n c) zs) : Rd w A n c (zs.map (Value.int .i64)) := by
  have hn : n = zs.length := by
    rcases h.2 with ⟨hv, h0⟩ | ⟨g, cap, cur, hv, _⟩
    · injection hv with _ h2 _; omega
    · injection hv
  subst hn
  exact rd_of_own h

theorem owz_lit (w : World) (B : Nat) (hB : B ≤ w.heap.size) (C : Array Value) (E : TypeId) (zs : List Int) (n : Nat) (hn : zs.length = n) (hn2 : n ≤ 9223372036854775807) (hC : C.toList = zs.map (Value.int .i64)) :
    OwZ (w.alloc (.cells C E)) B E (.slice (some ⟨w.heap.size, 0, none⟩) n n) zs := by
  subst hn
  have hs : C.size = zs.length := by
    have := congrArg List.length hC
    simpa using this
  refine ⟨by simp, .inr ⟨_, _, C, rfl, hB, heap_alloc_new w _, Nat.le_refl _, by unfold maxLen; omega, by omega, ?_⟩⟩
  rw [hC, List.take_of_length_le (by simp)]

section
variable {P : Program} {ops : Array Oper} {rest : List Oper} {o : Oper} {a : Act} {Q : Exit → Act → World → Prop}
/-- 'append(x, y...)' at ints, x a row of the call's own. -/
theorem append_ints (w : World) (t e : TypeId) (ht : P.underlying t = some (.slice e))
    (hinfo : (P.info? e).map (fun i => (i.zero, i.size, i.bytes)) = some (some (.int .i64 0), 1, 8))
    (hgd : o.guard = none) (s x : Operand)
    (ho : o.op = .call { callee := .builtin .append, args := #[s, x], argTypes := #[t, t] })
    (B : Nat) (v : Value) (la : List Int) (hs : a.eval s = v) (hown : OwZ w B e v la)
    (A : Option Addr) (m c : Nat) (lb : List Int) (hx : a.eval x = .slice A m c) (hr : Rd w A m c (lb.map (Value.int .i64)))
    (N : Nat) (hN : la.length + m = N) (hsz : N ≤ 17592186044416) (hB : B ≤ w.heap.size)
    (h : ∀ A' c' w', OwZ w' B e (.slice A' N c') (la ++ lb) → w.grownBy w' v.ownBlock → Below B w w' → wpList P ops Q rest (a.put o.dst (.slice A' N c')) w') :
    wpList P ops Q (o :: rest) a w := by
  have hl := hr.len
  rw [List.length_map] at hl
  refine wpList_append_rd w hgd s x t ho B e (.int .i64 0) 8 ht hinfo rfl v la.length (la.map (Value.int .i64)) hs hown A m c (lb.map (Value.int .i64)) hx hr (fun u hu => ?_) (by omega) (by omega) hB ?_
  · obtain ⟨z, _, rfl⟩ := List.mem_map.1 hu
    rfl
  intro A' c' w' h1 h2 h3 _
  rw [hN] at h1 ⊢
  refine h A' c' w' ?_ h2 h3
  unfold OwZ
  rw [List.map_append, List.length_append, show la.length + lb.length = N from by omega]
  exact h1
end
end Go.Proofs.YtfdpnjebhllpkaaGreatDoor
end

section
namespace Go.Proofs.YtfdpnjebhllpkaaGreatDoor
theorem info_u8 : (Tryz.prog.info? 5).map (fun i => (i.zero, i.size, i.bytes)) = some (some (.int .u8 0), 1, 1) := by kernel_rfl
end Go.Proofs.YtfdpnjebhllpkaaGreatDoor
namespace Go.Proofs.YtfdpnjebhllpkaaGreatDoor.CrcW
open Go.RowKit

theorem step_num (y : Nat) (hy : y < 4294967296) :
    bits BinOp.xor IntKind.u32 ((y : Int) / 2) (bits BinOp.and IntKind.u32 3988292384 (-bits BinOp.and IntKind.u32 (y : Int) 1 % 4294967296)) = ((Crc.T y : Nat) : Int) := by
  have h1 : bits BinOp.and IntKind.u32 (y : Int) 1 = ((y % 2 : Nat) : Int) := by
    have := u32_and_nat y 1 hy (by omega)
    rw [Nat.and_one_is_mod] at this
    exact this
  have h2 : -((y % 2 : Nat) : Int) % 4294967296 = ((if y % 2 = 1 then 4294967295 else 0 : Nat) : Int) := by
    split
    · rename_i h; rw [h]; rfl
    · rename_i h; rw [show y % 2 = 0 from by omega]; rfl
  have h3 : ((y : Int) / 2) = ((y / 2 : Nat) : Int) := by omega
  rw [h1, h2, h3]
  unfold Crc.T
  split
  · have h4 : bits BinOp.and IntKind.u32 3988292384 ((4294967295 : Nat) : Int) = ((3988292384 : Nat) : Int) := by
      have := u32_and_nat 3988292384 4294967295 (by omega) (by omega)
      exact this
    rw [h4]
    exact u32_xor_nat (y / 2) 3988292384 (by omega) (by omega)
  · have h4 : bits BinOp.and IntKind.u32 3988292384 ((0 : Nat) : Int) = ((0 : Nat) : Int) := u32_and_nat 3988292384 0 (by omega) (by omega)
    rw [h4]
    have := u32_xor_nat (y / 2) 0 (by omega) (by omega)
    rw [Nat.xor_zero] at this
    exact this

set_option maxHeartbeats 400000 in
theorem step_any (x : Nat) (hx : x < 4294967296) (w : World) :
    Calls Tryz.prog 207 #[.int .u32 x] w fun e w' => e = .returned (.int .u32 (Crc.Tn 8 x)) ∧ w = w' := by
  go_enter Tryz.func207, Tryz.ntmps207
  go_wp2
  go_loop [0, 3] (fun v i => ∃ k : Nat, k ≤ 8 ∧ i = .int .i64 k ∧ v = .int .u32 (Crc.Tn k x)) (fun _ i => 8 - (intOf i).toNat)
  case atStart => exact ⟨0, by omega, rfl, rfl⟩
  case round =>
    obtain ⟨k, hk, rfl, rfl⟩ := hrel
    have hb : Crc.Tn k x < 4294967296 := Crc.Tn_lt hx
    go_wp2
    · go_round
      case rel => exact ⟨k + 1, by omega, by go_num, val_int (by rw [step_num _ hb, Crc.Tn_succ])⟩
      case measure => simp [intOf]; omega
    · obtain rfl : k = 8 := by omega
      go_ret
      exact ⟨rfl, rfl⟩

theorem not_num (s : Nat) (hs : s < 4294967296) : bits BinOp.xor IntKind.u32 IntKind.u32.max (s : Int) = ((4294967295 - s : Nat) : Int) := by
  have h := u32_xor_nat 4294967295 s (by omega) hs
  have h2 : 4294967295 ^^^ s = 4294967295 - s := by
    have e : BitVec.allOnes 32 ^^^ BitVec.ofNat 32 s = ~~~ BitVec.ofNat 32 s := BitVec.allOnes_xor
    have e2 := congrArg BitVec.toNat e
    rw [BitVec.toNat_xor, BitVec.toNat_not, BitVec.toNat_ofNat, BitVec.toNat_allOnes, Nat.mod_eq_of_lt hs] at e2
    exact e2
  rw [h2] at h
  exact h

theorem not_num' (s : Nat) (hs : s < 4294967296) : bits BinOp.xor IntKind.u32 (s : Int) 4294967295 = ((4294967295 - s : Nat) : Int) := by
  have h := u32_xor_nat s 4294967295 hs (by omega)
  have h2 := u32_xor_nat 4294967295 s (by omega) hs
  rw [Nat.xor_comm] at h
  have h3 := not_num s hs
  exact h.trans (h2.symm.trans h3)

theorem byte_num (x : Nat) (hx : x < 4294967296) (c : UInt8) :
    bits BinOp.xor IntKind.u32 ((x : Int) / 256) ((Crc.Tn 8 (x % 256 ^^^ c.toNat) : Nat) : Int) = ((Crc.byte x c : Nat) : Int) := by
  have hc := c.toNat_lt
  have hlt : Crc.Tn 8 (x % 256 ^^^ c.toNat) < 4294967296 := Crc.Tn_lt (Nat.xor_lt_two_pow (n := 32) (by omega) (by omega))
  rw [Crc.byte_table]
  have := u32_xor_nat (x / 256) _ (by omega) hlt
  rw [show ((x : Int) / 256) = ((x / 256 : Nat) : Int) from by omega]
  exact this

theorem arg_num (x : Nat) (hx : x < 4294967296) (c : UInt8) :
    bits BinOp.xor IntKind.u32 (bits BinOp.and IntKind.u32 (x : Int) 255) (c.toNat : Int) = ((x % 256 ^^^ c.toNat : Nat) : Int) := by
  have hc := c.toNat_lt
  have h1 : bits BinOp.and IntKind.u32 (x : Int) 255 = ((x % 256 : Nat) : Int) := by
    have := u32_and_nat x 255 hx (by omega)
    rw [nat_mask8] at this
    exact this
  rw [h1]
  exact u32_xor_nat _ _ (by omega) (by omega)

set_option maxHeartbeats 400000 in
theorem on_any (s : Nat) (hs : s < 4294967296) (A : Option Addr) (n c : Nat) (l : List UInt8) (w : World) (hBs : Bs w A n c l) :
    Calls Tryz.prog 181 #[.int .u32 s, .slice A n c] w fun e w' => e = .returned (.int .u32 (Crc.on s l)) ∧ w = w' := by
  have hn := Rd.le hBs
  have hm := Rd.max hBs
  have HN : Hid (l.length = n) := hBs.len
  have hnot := not_num s hs
  go_enter Tryz.func181, Tryz.ntmps181
  go_wp2
  go_loop [5, 12] (fun v i => ∃ k : Nat, k ≤ n ∧ i = .int .i64 k ∧ v = .int .u32 (Crc.reg (4294967295 - s) (l.take k) : Nat)) (fun _ i => n - (intOf i).toNat)
  case atStart => exact ⟨0, by omega, rfl, rfl⟩
  case round =>
    obtain ⟨k, hk, rfl, rfl⟩ := hrel
    have hb : Crc.reg (4294967295 - s) (l.take k) < 4294967296 := Crc.reg_lt _ (by omega)
    by_cases hlt : k < n
    · obtain ⟨b, off, x, rfl, hbb, hx, hx8, hc⟩ := hBs.at_ hlt
      have HX := Lib.hid hx; clear hx
      have HT : Hid (Crc.reg (4294967295 - s) (l.take (k + 1)) = Crc.byte (Crc.reg (4294967295 - s) (l.take k)) x) := by
        rw [take_snoc HX.out, Crc.reg_snoc]; rfl
      have HB := byte_num _ hb x
      have HA := arg_num _ hb x
      go_wp2_with (go_at_call 207; refine (step_any _ (Nat.xor_lt_two_pow (n := 32) (by omega) (by omega)) _).mono ?_; rintro e w' ⟨rfl, rfl⟩)
      go_round
      case rel => exact ⟨k + 1, by omega, by go_num, val_int (by rw [HT.out])⟩
      case measure => simp [intOf]; omega
    · obtain rfl : k = n := by omega
      have hf := not_num _ hb
      go_wp2
      go_ret
      exact ⟨ret_int (by rw [Crc.on, ← HN.out, List.take_length]), rfl⟩

set_option maxHeartbeats 400000 in
theorem sum_any (A : Option Addr) (n c : Nat) (l : List UInt8) (w : World) (hBs : Bs w A n c l) :
    Calls Tryz.prog 182 #[.slice A n c] w fun e w' => e = .returned (.int .u32 (Crc.sum l)) ∧ w = w' := by
  go_enter Tryz.func182, Tryz.ntmps182
  go_wp2_with (go_at_call 181; refine (on_any 0 (by omega) _ _ _ _ _ hBs).mono ?_; rintro e w' ⟨rfl, rfl⟩)
  go_ret
  exact ⟨rfl, rfl⟩

theorem feed_num1 (y d m : Nat) (hy : y < 4294967296) (h : (((y : Nat) : Int) % 2 != (d : Int) / 2 ^ m % 2) = true) :
    bits BinOp.xor IntKind.u32 ((y : Int) / 2) 3988292384 = ((Crc.feed y (d / 2 ^ m) : Nat) : Int) := by
  have e : ((d : Int) / 2 ^ m) = ((d / 2 ^ m : Nat) : Int) := by simp
  rw [e] at h
  generalize d / 2 ^ m = z at *
  have h' : y % 2 ≠ z % 2 := by
    intro hh
    simp only [bne_iff_ne, ne_eq] at h
    omega
  unfold Crc.feed
  rw [if_pos h', show ((y : Int) / 2) = ((y / 2 : Nat) : Int) from by omega]
  exact u32_xor_nat (y / 2) 3988292384 (by omega) (by omega)

theorem feed_num0 (y d m : Nat) (hy : y < 4294967296) (h : (((y : Nat) : Int) % 2 != (d : Int) / 2 ^ m % 2) = false) :
    (y : Int) / 2 = ((Crc.feed y (d / 2 ^ m) : Nat) : Int) := by
  have e : ((d : Int) / 2 ^ m) = ((d / 2 ^ m : Nat) : Int) := by simp
  rw [e] at h
  generalize d / 2 ^ m = z at *
  have h' : y % 2 = z % 2 := by
    simp only [bne_eq_false_iff_eq] at h
    omega
  unfold Crc.feed
  rw [if_neg (by simpa using h')]
  omega

set_option maxHeartbeats 400000 in
theorem ref_any (A : Option Addr) (n c : Nat) (l : List UInt8) (w : World) (hBs : Bs w A n c l) :
    Calls Tryz.prog 150 #[.slice A n c] w fun e w' => e = .returned (.int .u32 (Crc.sum l)) ∧ w = w' := by
  have hn := Rd.le hBs
  have hm := Rd.max hBs
  have HN : Hid (l.length = n) := hBs.len
  go_enter Tryz.func150, Tryz.ntmps150
  go_wp2
  go_loop [3, 4] (fun v i => ∃ k : Nat, k ≤ n ∧ i = .int .i64 k ∧ v = .int .u32 (Crc.reg 4294967295 (l.take k) : Nat)) (fun _ i => n - (intOf i).toNat)
  case atStart => exact ⟨0, by omega, rfl, rfl⟩
  case round =>
    obtain ⟨k, hk, rfl, rfl⟩ := hrel
    have hb : Crc.reg 4294967295 (l.take k) < 4294967296 := Crc.reg_lt _ (by omega)
    by_cases hlt : k < n
    · obtain ⟨b, off, x, rfl, hbb, hx, hx8, hc⟩ := hBs.at_ hlt
      have HX := Lib.hid hx; clear hx
      go_wp2
      go_loop [3, 5] (fun v j => ∃ m : Nat, m ≤ 8 ∧ j = .int .i64 m ∧ v = .int .u32 (Crc.feeds m (Crc.reg 4294967295 (l.take k)) x.toNat : Nat)) (fun _ j => 8 - (intOf j).toNat)
      case atStart => exact ⟨0, by omega, rfl, rfl⟩
      case round =>
        obtain ⟨m, hm8, rfl, rfl⟩ := hrel
        by_cases hlm : m < 8
        · have HF : Hid _ := Crc.feeds_succ m (Crc.reg 4294967295 (l.take k)) x.toNat
          have hy : Crc.feeds m (Crc.reg 4294967295 (l.take k)) x.toNat < 4294967296 := Crc.feeds_lt hb
          go_wp2
          · have ht := feed_num1 _ x.toNat m hy (by assumption)
            go_round
            case rel => exact ⟨m + 1, by omega, by go_num, val_int (by rw [ht, HF.out])⟩
            case measure => simp [intOf]; omega
          · have ht := feed_num0 _ x.toNat m hy (by assumption)
            go_round
            case rel => exact ⟨m + 1, by omega, by go_num, val_int (by rw [ht, HF.out])⟩
            case measure => simp [intOf]; omega
        · obtain rfl : m = 8 := by omega
          go_wp2
          go_round
          case rel => exact ⟨k + 1, by omega, by go_num, val_int (by rw [take_snoc HX.out, Crc.reg_snoc, Crc.byte_feeds])⟩
          case measure => simp [intOf]; omega
    · obtain rfl : k = n := by omega
      have hf : bits BinOp.xor IntKind.u32 (Crc.reg 4294967295 (l.take k) : Int) 4294967295 = ((4294967295 - Crc.reg 4294967295 (l.take k) : Nat) : Int) := not_num' _ hb
      go_wp2
      go_ret
      exact ⟨ret_int (by rw [Crc.sum, Crc.on, ← HN.out, List.take_length]), rfl⟩
end Go.Proofs.YtfdpnjebhllpkaaGreatDoor.CrcW
end
