/- fault.Is, and the law FaultIs. -/
import Derived.Test.YthkimdjkpfpmaaaDoorErrIs
namespace Go.Proofs.YthkimdjkpfpmaaaDoor.Er
open Go.RowKit Go.Extern.Stop Go.Stop Go.Extern

theorem isComparable' (w : World) : ((ReflectliteType.method fun t => do Rtype.noPackHeld "Comparable" t; (fun a => Value.bool a.comparable) <$> typeInfo t) #[.agg #[.pointer (some ⟨4, 44, none⟩)]]).run Tryd.prog w = .ok (.bool true) w := by kernel_rfl

set_option maxHeartbeats 1000000 in
theorem errIs_any (code at_ other at2 : Int) (b2 : Nat) (T2 : TypeId) (e : Value) (ws : List ByteArray) (B : Nat) (w : World) (hc : Fh w B code at_ ws e) (hB : B ≤ b2)
    (ht : w.heap[b2]? = some (.cells #[.int .i64 other, .int .i64 at2] T2 (0, 0))) :
    Calls Tryd.prog 20 #[e, .iface 44 (.pointer (some ⟨b2, 0, none⟩))] w
      fun ev w' => ev = .returned (.bool (decide (code = other))) ∧ Below w.heap.size w w' := by
  have hI := Lib.hid (is_chain code at_ other at2 b2 T2 e ws B w hc hB ht)
  obtain ⟨T, ad, rfl⟩ := hc.fe.iface
  have x26 := @run_callFunc_extern Tryd.prog 26 _ ReflectliteType.typeOf Tryd.func26 (by kernel_rfl) (by kernel_rfl) (by kernel_rfl) (by kernel_rfl)
  have x68 := @run_callFunc_extern Tryd.prog 68 _ (ReflectliteType.method fun t => do Rtype.noPackHeld "Comparable" t; pure (.bool (← typeInfo t).comparable)) Tryd.func68 (by kernel_rfl) (by kernel_rfl) (by kernel_rfl) (by kernel_rfl)
  have t1 := typeOfPl
  have t2 := methodComparable
  have t3 := isComparable'
  obtain ⟨r, hr⟩ : ∃ r, decide (code = other) = r := ⟨_, rfl⟩
  rw [hr] at hI ⊢
  clear hc ht hr
  go_enter Tryd.func20, Tryd.ntmps20
  go_wp2_with fail
  refine hI.out.mono ?_
  rintro ev w1 ⟨rfl, hb1⟩
  have hb1' := Lib.hid hb1
  clear hb1
  go_wp2_with fail
  go_ret
  exact ⟨rfl, hb1'⟩

theorem fIs_nil0 (w : World) : Calls Tryd.prog 16 #[.nilIface, .int .i64 0] w fun ev w' => ev = .returned (.bool true) ∧ w' = w := by
  go_enter Tryd.func16, Tryd.ntmps16
  go_wp2_with fail
  go_ret
  exact ⟨rfl, rfl⟩
theorem fIs_nil (c : Int) (hc : c ≠ 0) (w : World) : Calls Tryd.prog 16 #[.nilIface, .int .i64 c] w fun ev w' => ev = .returned (.bool false) ∧ w' = w := by
  have hc' : (c == 0) = false := by simpa using hc
  go_enter Tryd.func16, Tryd.ntmps16
  go_wp2_with fail
  go_ret
  exact ⟨rfl, rfl⟩
theorem fIs_0 (T : TypeId) (ad : Option Addr) (w : World) : Calls Tryd.prog 16 #[.iface T (.pointer ad), .int .i64 0] w fun ev w' => ev = .returned (.bool false) ∧ w' = w := by
  go_enter Tryd.func16, Tryd.ntmps16
  go_wp2_with fail
  go_ret
  exact ⟨rfl, rfl⟩

theorem fIs_same (code at_ : Int) (hc : code ≠ 0) (e : Value) (ws : List ByteArray) (w : World) (h : Fh w w.heap.size code at_ ws e) :
    Calls Tryd.prog 16 #[e, .int .i64 code] w fun ev w' => ev = .returned (.bool true) ∧ Below w.heap.size w w' := by
  have hc' : (code == 0) = false := by simpa using hc
  have hb : Below w.heap.size w (w.alloc (.cells #[.int .i64 code, .int .i64 0] 49)) := below_alloc _ _
  have hI := Lib.hid (errIs_any code at_ code 0 w.heap.size 49 e ws w.heap.size _ (h.on hb) (Nat.le_refl _) (heap_alloc_new w _))
  rw [decide_eq_true rfl] at hI
  obtain ⟨T, ad, rfl⟩ := h.fe.iface
  have hb' := Lib.hid hb
  clear h hb
  go_enter Tryd.func16, Tryd.ntmps16
  go_wp2_with fail
  refine hI.out.mono ?_
  rintro ev w1 ⟨rfl, hb1⟩
  have hb1' := Lib.hid (hb'.out.trans (hb1.mono hb'.out.size))
  clear hb1 hb'
  go_wp2_with fail
  go_ret
  exact ⟨rfl, hb1'⟩

theorem fIs_other (code at_ other : Int) (hc : other ≠ 0) (hne : code ≠ other) (e : Value) (ws : List ByteArray) (B : Nat) (w : World) (hE : En B w) (h : Fh w w.heap.size code at_ ws e) :
    Calls Tryd.prog 16 #[e, .int .i64 other] w fun ev w' => ev = .returned (.bool false) ∧ Below w.heap.size w w' := by
  have hc' : (other == 0) = false := by simpa using hc
  have hoc : (other == code) = false := by simpa using fun h => hne h.symm
  have hb : Below w.heap.size w (w.alloc (.cells #[.int .i64 other, .int .i64 0] 49)) := below_alloc _ _
  have hI := Lib.hid (errIs_any code at_ other 0 w.heap.size 49 e ws w.heap.size _ (h.on hb) (Nat.le_refl _) (heap_alloc_new w _))
  rw [decide_eq_false hne] at hI
  have h' := Lib.hid ((h.on hb).up hb.size)
  have hE' := Lib.hid (hE.sz hb)
  obtain ⟨T, ad, rfl⟩ := h.fe.iface
  have hb' := Lib.hid hb
  clear h hb hE
  go_enter Tryd.func16, Tryd.ntmps16
  go_wp2_with fail
  refine hI.out.mono ?_
  rintro ev w1 ⟨rfl, hb1⟩
  have hb1' := Lib.hid (hb'.out.trans (hb1.mono hb'.out.size))
  have h1' := Lib.hid ((h'.out.on hb1).up hb1.size)
  have hE1 := Lib.hid (hE'.out.sz hb1)
  clear hb1 hb' h' hE' hI
  go_wp2_with fail
  refine (Code_any code at_ ws _ B _ hE1.out h1'.out.fe).mono ?_
  rintro ev w2 ⟨rfl, hb2⟩
  have hb2' := Lib.hid (hb1'.out.trans (hb2.mono hb1'.out.size))
  clear hb2 hb1' h1' hE1
  go_wp2_with fail
  go_ret
  exact ⟨rfl, hb2'⟩

theorem made_h (code at_ : Int) (hc : code ≠ 0) (A : Option Addr) (n c : Nat) (ss : List ByteArray) (hn : n ≤ 50) (w : World) (hS : Ss w A n c ss) :
    Calls Tryd.prog 8 #[.int .i64 code, .int .i64 at_, .slice A n c] w fun e w' => ∃ v, e = .returned v ∧ Below w.heap.size w w' ∧ Fh w' w'.heap.size code at_ ss.reverse v := by
  have hl := hS.len
  have hS' := Lib.hid hS
  clear hS
  go_enter Tryd.func8, Tryd.ntmps8
  go_wp2_with fail
  refine (New_h code at_ hc _).mono ?_
  rintro e w1 ⟨v, rfl, hb1, hf1⟩
  have hb1' := Lib.hid hb1
  have hf1' := Lib.hid hf1
  clear hb1 hf1
  go_wp2_with fail
  go_loopw [7, 8] (fun v i wr => ∃ k : Nat, k ≤ n ∧ i = .int .i64 (k : Nat) ∧ Hid (Fh wr wr.heap.size code at_ (ss.take k).reverse v) ∧ Hid (Below w.heap.size w wr)) (fun _ i _ => n - (intOf i).toNat)
  case atStart => exact ⟨0, by omega, rfl, hf1', hb1'⟩
  case round =>
    obtain ⟨k, hk, rfl, hf, hb⟩ := hrel
    by_cases hlt : k < n
    · obtain ⟨b, off, s, rfl, hb0, hs, hcell⟩ := (hS'.out.below hb.out).at_ hlt
      have i0 : decide ((k : Int) < (n : Int)) = true := by simp; omega
      have i1 : decide ((k : Int) < 50) = true := by simp; omega
      have i2 : k < n := hlt
      have hs' := Lib.hid (rev_take hs)
      clear hs
      go_wp2_with fail
      refine (Wrap_h _ _ _ _ _ _ hf.out).mono ?_
      rintro e w2 ⟨v2, rfl, hb2, hf2⟩
      have hb2' := Lib.hid (hb.out.trans (hb2.mono hb.out.size))
      rw [← hs'.out] at hf2
      have hf2' := Lib.hid hf2
      clear hb2 hf2 hcell
      go_wp2_with fail
      go_roundw
      case rel => exact ⟨k + 1, by omega, by go_num, hf2', hb2'⟩
      case measure => simp [intOf]; omega
    · have i0 : decide ((k : Int) < (n : Int)) = false := by simp; omega
      obtain rfl : k = n := by omega
      go_wp2_with fail
      go_ret
      have := hf.out
      rw [List.take_of_length_le (by omega)] at this
      exact ⟨_, rfl, hb.out, this⟩

theorem is_many (code other : Int) (A : Option Addr) (n c : Nat) (hn : 50 < n) (B : Nat) (w : World) (hE : En B w) :
    Calls Tryd.prog 6 #[.int .i64 code, .int .i64 other, .slice A n c] w fun e w' => e = .returned (.bool true) ∧ Below w.heap.size w w' := by
  have i0 : decide ((50 : Int) < (n : Int)) = true := by simp; omega
  go_enter Tryd.func6, Tryd.ntmps6
  go_wp2_with fail
  refine (awake_any B _ hE).mono ?_
  rintro e w0 ⟨rfl, hb0⟩
  have hb0' := Lib.hid hb0
  clear hb0 hE
  go_wp2_with fail
  go_ret
  exact ⟨rfl, hb0'⟩

theorem is_ok (other : Int) (A : Option Addr) (n c : Nat) (ss : List ByteArray) (hn : n ≤ 50) (B : Nat) (w : World) (hS : Ss w A n c ss) (hE : En B w) :
    Calls Tryd.prog 6 #[.int .i64 0, .int .i64 other, .slice A n c] w fun e w' => e = .returned (.bool true) ∧ Below w.heap.size w w' := by
  have i0 : decide ((50 : Int) < (n : Int)) = false := by simp; omega
  have hcase : ∃ r, Hid (∀ w, Calls Tryd.prog 16 #[.nilIface, .int .i64 other] w fun ev w' => ev = .returned (.bool r) ∧ w' = w) ∧ (((0 : Int) == other) = r) := by
    by_cases h : other = 0
    · subst h; exact ⟨true, fun w => fIs_nil0 w, rfl⟩
    · exact ⟨false, fun w => fIs_nil other h w, by simpa using fun e => h e.symm⟩
  obtain ⟨r, hI, hr⟩ := hcase
  go_enter Tryd.func6, Tryd.ntmps6
  go_wp2_with fail
  refine (awake_any B _ hE).mono ?_
  rintro e w0 ⟨rfl, hb0⟩
  have hb0' := Lib.hid hb0
  have hS' := Lib.hid (hS.below hb0)
  clear hb0 hE hS
  go_wp2_with fail
  refine (made_ok 3 A n c ss hn _ hS'.out).mono ?_
  rintro e w1 ⟨rfl, hb1⟩
  have hb1' := Lib.hid (hb0'.out.trans (hb1.mono hb0'.out.size))
  clear hb1 hb0' hS'
  go_wp2_with fail
  refine (fIs_nil0 _).mono ?_
  rintro e w2 ⟨rfl, rfl⟩
  go_wp2_with fail
  refine (hI.out _).mono ?_
  rintro e w3 ⟨rfl, rfl⟩
  go_wp2_with fail
  go_ret
  exact ⟨rfl, hb1'⟩

theorem is_any (code other : Int) (h0 : code ≠ 0) (A : Option Addr) (n c : Nat) (ss : List ByteArray) (hn : n ≤ 50) (B : Nat) (w : World) (hS : Ss w A n c ss) (hE : En B w) :
    Calls Tryd.prog 6 #[.int .i64 code, .int .i64 other, .slice A n c] w fun e w' => e = .returned (.bool true) ∧ Below w.heap.size w w' := by
  have i0 : decide ((50 : Int) < (n : Int)) = false := by simp; omega
  have hcase : ∃ r, Hid (∀ w e, En B w → Fh w w.heap.size code 3 ss.reverse e → Calls Tryd.prog 16 #[e, .int .i64 other] w fun ev w' => ev = .returned (.bool r) ∧ Below w.heap.size w w') ∧ ((code == other) = r) := by
    by_cases h : other = 0
    · subst h
      refine ⟨false, fun w e h1 h2 => ?_, by simpa using h0⟩
      obtain ⟨T, ad, rfl⟩ := h2.fe.iface
      exact (fIs_0 T _ w).mono fun ev w' ⟨h3, h4⟩ => ⟨h3, by rw [h4]; exact Below.refl _ _⟩
    · by_cases h2 : code = other
      · subst h2
        exact ⟨true, fun w e h3 h4 => fIs_same code 3 h0 e _ w h4, by simp⟩
      · exact ⟨false, fun w e h3 h4 => fIs_other code 3 other h h2 e _ B w h3 h4, by simpa using h2⟩
  obtain ⟨r, hI, hr⟩ := hcase
  have hE' := Lib.hid hE
  go_enter Tryd.func6, Tryd.ntmps6
  go_wp2_with fail
  refine (awake_any B _ hE).mono ?_
  rintro e w0 ⟨rfl, hb0⟩
  have hb0' := Lib.hid hb0
  have hS' := Lib.hid (hS.below hb0)
  clear hb0 hE hS
  go_wp2_with fail
  refine (made_h code 3 h0 A n c ss hn _ hS'.out).mono ?_
  rintro e w1 ⟨v, rfl, hb1, hf1⟩
  have hb1' := Lib.hid (hb0'.out.trans (hb1.mono hb0'.out.size))
  have hf1' := Lib.hid hf1
  clear hb1 hb0' hS' hf1
  go_wp2_with fail
  refine (fIs_same code 3 h0 _ _ _ hf1'.out).mono ?_
  rintro e w2 ⟨rfl, hb2⟩
  have hb2' := Lib.hid (hb1'.out.trans (hb2.mono hb1'.out.size))
  have hf2' := Lib.hid ((hf1'.out.on hb2).up hb2.size)
  clear hb2 hb1' hf1'
  go_wp2_with fail
  refine (hI.out _ _ (hE'.out.sz hb2'.out) hf2'.out).mono ?_
  rintro e w3 ⟨rfl, hb3⟩
  have hb3' := Lib.hid (hb2'.out.trans (hb3.mono hb2'.out.size))
  clear hb3 hb2' hf2'
  go_wp2_with fail
  go_ret
  exact ⟨rfl, hb3'⟩
end Go.Proofs.YthkimdjkpfpmaaaDoor.Er
