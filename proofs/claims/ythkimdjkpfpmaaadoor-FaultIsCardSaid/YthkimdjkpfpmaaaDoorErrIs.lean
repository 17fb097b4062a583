/- errors.Is at a plain target, over chains of fault's errors. -/
import Derived.Test.YthkimdjkpfpmaaaDoorErrLaws
import Derived.LaidEql
namespace Go.Proofs.YthkimdjkpfpmaaaDoor.Er
open Go.RowKit Go.Extern.Stop Go.Stop Go.Extern

/-- As Fe, and the plain error's block is known whole. -/
def Fh (w : World) (n : Nat) (code at_ : Int) (ws : List ByteArray) (e : Value) : Prop :=
  ∃ b T, b < n ∧ Ch w n ⟨b, 0, none⟩ ws e ∧ w.heap[b]? = some (.cells #[.int .i64 code, .int .i64 at_] T (0, 0))

theorem Fh.fe {w : World} {n : Nat} {code at_ : Int} {ws : List ByteArray} {e : Value} (h : Fh w n code at_ ws e) : Fe w n code at_ ws e := by
  obtain ⟨b, T, h1, h2, h3⟩ := h
  exact ⟨b, h1, h2, by simp [World.cell?, h3], by simp [World.cell?, h3]⟩
theorem Fh.on {w w' : World} {n : Nat} {code at_ : Int} {ws : List ByteArray} {e : Value} (h : Fh w n code at_ ws e) (hb : Below n w w') : Fh w' n code at_ ws e := by
  obtain ⟨b, T, h1, h2, h3⟩ := h
  exact ⟨b, T, h1, h2.on hb, by rw [hb.block b h1]; exact h3⟩
theorem Fh.up {w : World} {n m : Nat} {code at_ : Int} {ws : List ByteArray} {e : Value} (h : Fh w n code at_ ws e) (hn : n ≤ m) : Fh w m code at_ ws e := by
  obtain ⟨b, T, h1, h2, h3⟩ := h
  exact ⟨b, T, Nat.lt_of_lt_of_le h1 hn, h2.up hn, h3⟩

theorem New_h (code at_ : Int) (hc : code ≠ 0) (w : World) :
    Calls Tryd.prog 15 #[.int .i64 code, .int .i64 at_] w fun e w' => ∃ v, e = .returned v ∧ Below w.heap.size w w' ∧ Fh w' w'.heap.size code at_ [] v := by
  have hc' : (code == 0) = false := by simpa using hc
  go_enter Tryd.func15, Tryd.ntmps15
  go_wp2
  go_ret
  exact ⟨_, rfl, below_alloc _ _, w.heap.size, 49, by simp, ⟨rfl, by simp⟩, heap_alloc_new w _⟩

theorem Wrap_h (s : ByteArray) (code at_ : Int) (ws : List ByteArray) (e : Value) (w : World) (h : Fh w w.heap.size code at_ ws e) :
    Calls Tryd.prog 9 #[.string s, e] w fun e' w' => ∃ v, e' = .returned v ∧ Below w.heap.size w w' ∧ Fh w' w'.heap.size code at_ (s :: ws) v := by
  obtain ⟨T, ad, rfl⟩ := h.fe.iface
  have h' := Lib.hid h
  clear h
  go_enter Tryd.func9, Tryd.ntmps9
  go_wp2
  go_ret
  have hb : Below w.heap.size w (w.alloc (.cells #[.string s, .iface T (.pointer (some ad))] 41)) := below_alloc _ _
  obtain ⟨b, T2, h1, h2, h3⟩ := (h'.out.on hb).up hb.size
  exact ⟨_, rfl, hb, b, T2, h1, ⟨w.heap.size, _, rfl, by simp, by simp, by simp, h2⟩, h3⟩

theorem taPlPl (v : Value) (w : World) : (Instr.typeAssert (.iface 44 v) 26 44 true).run Tryd.prog w = .ok (.tuple #[v, .bool true]) w := by kernel_rfl

theorem plainIs_any (code other at_ at2 : Int) (b b2 : Nat) (w : World) (h0 : w.cell? ⟨b, 0, none⟩ = some (.int .i64 code)) (h1 : w.cell? ⟨b2, 0, none⟩ = some (.int .i64 other)) :
    Calls Tryd.prog 62 #[.pointer (some ⟨b, 0, none⟩), .iface 44 (.pointer (some ⟨b2, 0, none⟩))] w fun e' w' => e' = .returned (.bool (decide (code = other))) ∧ Below w.heap.size w w' := by
  obtain ⟨r, hr⟩ : ∃ r, decide (code = other) = r := ⟨_, rfl⟩
  have hd : (other == code) = r := by
    rw [← hr]
    by_cases h : other = code
    · subst h; simp
    · have h2 : ¬ code = other := fun e => h e.symm
      simp [h, h2]
  rw [hr]
  clear hr
  have hta := taPlPl
  go_enter Tryd.func62, Tryd.ntmps62
  go_wp2_with fail
  go_region
  go_wp2_with fail
  go_ret
  exact ⟨rfl, (Below.refl _ w).drew⟩

theorem is_comp : (Tryd.prog.info? 44).map (·.comparable) = some true := by kernel_rfl
theorem is_size : (Tryd.prog.info? 49).map (·.size) = some 2 := by kernel_rfl

set_option maxHeartbeats 4000000 in
/-- errors.is, the target a plain error that is not the chain's own. -/
theorem is_chain (code at_ other at2 : Int) (b2 : Nat) (T2 : TypeId) (e : Value) (ws : List ByteArray) (B : Nat) (w : World) (hc : Fh w B code at_ ws e) (hB : B ≤ b2)
    (ht : w.heap[b2]? = some (.cells #[.int .i64 other, .int .i64 at2] T2 (0, 0))) :
    Calls Tryd.prog 27 #[e, .iface 44 (.pointer (some ⟨b2, 0, none⟩)), .bool true] w
      fun ev w' => ev = .returned (.bool (decide (code = other))) ∧ Below w.heap.size w w' := by
  obtain ⟨i, hi, hcmp⟩ := Option.map_eq_some_iff.1 is_comp
  obtain ⟨j, hj, hjs⟩ := Option.map_eq_some_iff.1 is_size
  obtain ⟨b, T, hb, hch, hp⟩ := hc
  have heq := run_eql_iface_ptr_other (P := Tryd.prog) (a := ⟨b, 0, none⟩) (b := ⟨b2, 0, none⟩) w Tryd.underlying26 Tryd.underlying44 hi hcmp hj (by rw [hjs]; decide) (by intro h; injection h with h1 _; omega) hp ht
  have hne := fun v1 v2 => run_eql_iface_types (P := Tryd.prog) 39 44 v1 v2 Tryd.underlying26 (by decide) w
  have p0 : w.cell? ⟨b, 0, none⟩ = some (.int .i64 code) := by simp [World.cell?, hp]
  have q0 : w.cell? ⟨b2, 0, none⟩ = some (.int .i64 other) := by simp [World.cell?, ht]
  have hI := Lib.hid (plainIs_any code other at_ at2 b b2 w p0 q0)
  obtain ⟨r, hr⟩ : ∃ r, decide (code = other) = r := ⟨_, rfl⟩
  rw [hr] at hI ⊢
  have t6 := taWrIs
  have t7 := taWrUn
  have t8 := methodUnwrap
  have t1 := taPlIs
  have t2 := taPlUn
  have t3 := taPlUs
  have t4 := methodIs
  clear hp ht hi hj hcmp hjs hr p0 q0
  go_enter Tryd.func27, Tryd.ntmps27
  go_wp2_with fail
  go_loopg [0] (ws.length + 1) (fun k e' wr => ∃ ws', ws'.length < k ∧ Hid (Ch w B ⟨b, 0, none⟩ ws' e') ∧ Hid (wr = w))
  case atStart => exact ⟨ws, by omega, Lib.hid hch, Lib.hid rfl⟩
  case round =>
    obtain ⟨ws', hk, hch', hwr⟩ := hrel
    have hwr' := (show wr = _ from hwr)
    subst hwr'
    cases ws' with
    | nil =>
      obtain ⟨rfl, hp'⟩ := (show Ch wr B ⟨b, 0, none⟩ [] _ from hch')
      clear hch' hwr hch
      cases r with
      | true =>
        go_wp2_with fail
        refine hI.out.mono ?_
        rintro ev w1 ⟨rfl, hb1⟩
        have hb1' := Lib.hid hb1
        clear hb1
        go_wp2_with fail
        go_ret
        exact ⟨rfl, hb1'⟩
      | false =>
        go_wp2_with fail
        refine hI.out.mono ?_
        rintro ev w1 ⟨rfl, hb1⟩
        have hb1' := Lib.hid hb1
        clear hb1
        go_wp2_with fail
        go_ret
        exact ⟨rfl, hb1'⟩
    | cons s ws' =>
      obtain ⟨q, inner, rfl, hq, h0, h1, h2⟩ := (show Ch wr B ⟨b, 0, none⟩ (s :: ws') _ from hch')
      obtain ⟨T, ad, rfl⟩ := h2.iface
      have h2' := Lib.hid h2
      clear hch' hwr h2 hch h0
      go_wp2_with fail
      refine (unwrap_any ⟨q, 0, none⟩ _ _ h1 rfl).mono ?_
      rintro e' w1 ⟨rfl, rfl⟩
      go_wp2_with fail
      go_roundg (ws'.length + 1)
      case measure => simp at hk; omega
      case rel => exact ⟨ws', by omega, h2', Lib.hid rfl⟩
end Go.Proofs.YthkimdjkpfpmaaaDoor.Er
