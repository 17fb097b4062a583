/- What came in: rules. -/
import Derived.Test.YtjofkodncplhaaaGreatDoorMKyAwake
import Derived.Test.YtjofkodncplhaaaGreatDoorMKyText
import Derived.Test.YtjofkodncplhaaaGreatDoorMKyRm
import Derived.Test.YtjofkodncplhaaaGreatDoorMKyRc
import Derived.Test.YtjofkodncplhaaaGreatDoorMKyRs
import Derived.Test.YtjofkodncplhaaaGreatDoorMKyFin
import Derived.Test.YtjofkodncplhaaaGreatDoorMKyParse
import Derived.Test.YtjofkodncplhaaaGreatDoorMStrs
import Derived.Test.YtjofkodncplhaaaGreatDoorMSq2
import Derived.Lib.SmallJoins
import Derived.OpenShut
import Derived.SliceStrings
section
namespace Go.Proofs.YtjofkodncplhaaaGreatDoor.Ky
open Go.RowKit UtfW Er

set_option maxHeartbeats 1000000 in
set_option maxRecDepth 100000 in
theorem back_any (A : Option Addr) (n c : Nat) (l : List Rl) (W : World) (h : Rs W A n c l) (hB : Big l) (hU : Ut W) (hE : En W.heap.size W) :
    Calls Tryz.prog 7 #[.slice A n c] W fun e w' => e = .returned (.bool true) ∧ Below W.heap.size W w' := by
  have haw := awake_any W hU hE
  have h' := Lib.hid h
  have hB' := Lib.hid hB
  have hl := Lib.hid h.len
  have hm := h.max
  have hle := h.le
  clear h hB
  go_enter Tryz.func7, Tryz.ntmps7
  go_wp2_with fail
  refine haw.mono ?_
  rintro e w1 ⟨rfl, hb1⟩
  have hx1 := Lib.hid hb1
  clear hb1 haw
  go_wp2_with fail
  refine (refSmall_any A n c l w1 (h'.out.below hx1.out) hB'.out).mono ?_
  rintro e w2 ⟨V, rfl, hV, hb2⟩
  have hx2 := Lib.hid (hx1.out.trans (hb2.mono hx1.out.size))
  have hV' := Lib.hid hV
  clear hb2 hV
  cases V with
  | false =>
    go_wp2_with fail
    go_ret
    exact ⟨rfl, hx2.out⟩
  | true =>
    have hw := hV'.out rfl
    have hsm := Lib.hid (small_of (show wts l ≤ 3000 by omega))
    have hw' := Lib.hid hw
    have hma := refMay_any A n c l w2 (h'.out.below hx2.out) (fun r hr => smr_mono (hsm.out r hr) (by decide))
    clear hw hV'
    cases hmb : mayB nameR l with
    | false =>
      rw [hmb] at hma
      clear hmb
      go_wp2_with fail
      refine hma.mono ?_
      rintro e w3 ⟨rfl, hb3⟩
      have hx3 := Lib.hid (hx2.out.trans (hb3.mono hx2.out.size))
      clear hb3 hma
      go_wp2_with fail
      go_ret
      exact ⟨rfl, hx3.out⟩
    | true =>
      rw [hmb] at hma
      have hmb' := Lib.hid hmb
      have hrules := Lib.hid (show ∀ r ∈ l, ruleB nameR r = true from by
        have h1 := hmb
        unfold mayB at h1
        rw [Bool.and_eq_true] at h1
        exact mayP_rules h1.2)
      clear hmb
      go_wp2_with fail
      refine hma.mono ?_
      rintro e w3 ⟨rfl, hb3⟩
      have hx3 := Lib.hid (hx2.out.trans (hb3.mono hx2.out.size))
      clear hb3 hma
      go_wp2_with fail
      refine (Text_any A n c l w3 (h'.out.below hx3.out) (by have := hw'.out; omega)).mono ?_
      rintro e w4 ⟨rfl, hb4⟩
      have hx4 := Lib.hid (hx3.out.trans (hb4.mono hx3.out.size))
      clear hb4
      have hp := Parse_any (strOf (textR l)) (by rw [strOf_size']; have := textR_len l; have := hw'.out; omega) w4 (hU.below hx4.out)
      rw [strOf_data'] at hp
      have hbk : parseL nameR (split 10 (lns (textR l))) 0 [] = (l, 0, 0) := by
        have hno : (13 : UInt8) ∉ textR l := by
          unfold textR
          rw [List.mem_flatten]
          rintro ⟨x, hx, h13⟩
          obtain ⟨r, hr, rfl⟩ := List.mem_map.1 hx
          rcases List.mem_append.1 h13 with h | h
          · exact (text_bytes names (hrules.out r hr) 13 h).2 rfl
          · simp at h
        have e := lns_keep hno []
        rw [List.append_nil] at e
        rw [e, show lns [] = [] from rfl, List.append_nil]
        exact back names hmb'.out
      go_wp2_with fail
      refine hp.mono ?_
      intro e w5 h5
      obtain ⟨A', c', rfl, hb5, hr5⟩ := h5.ok hbk
      have hx5 := Lib.hid (hx4.out.trans (hb5.mono hx4.out.size))
      have hr5' := Lib.hid hr5
      clear hb5 h5 hr5 hp hbk
      go_wp2_with fail
      refine (Code_ok w5).mono ?_
      rintro e w6 ⟨rfl, hb6⟩
      have hx6 := Lib.hid (hx5.out.trans (hb6.mono hx5.out.size))
      have hr6 := Lib.hid (hr5'.out.below hb6)
      clear hb6 hr5'
      have hru := refRules_any A' l.length c' l A n c l w6 hr6.out (h'.out.below hx6.out)
      rw [decide_eq_true (rfl : l = l)] at hru
      go_wp2_with fail
      refine hru.mono ?_
      rintro e w7 ⟨rfl, hb7⟩
      have hx7 := Lib.hid (hx6.out.trans (hb7.mono hx6.out.size))
      clear hb7 hru hr6
      have hn1 : 1 ≤ n := by
        have h1 := hmb'.out
        unfold mayB at h1
        rw [Bool.and_eq_true, decide_eq_true_eq] at h1
        have := hl.out
        omega
      obtain ⟨m, rfl⟩ : ∃ m, n = m + 1 := ⟨n - 1, by omega⟩
      have hmc : m ≤ c := by omega
      have hcut : Rs w7 A m c l.dropLast := by
        have := Sq.cut (h'.out.below hx7.out) 0 m (by omega) (by omega) A (fun b' o' e _ => by rw [e]; simp) (fun h1 h2 => h1 h2)
        rw [Nat.sub_zero, Nat.sub_zero, List.drop_zero] at this
        rw [List.dropLast_eq_take, hl.out, Nat.add_sub_cancel]
        exact this
      have hms := May_any A m c l.dropLast w7 hcut (hU.below hx7.out) (fun r hr => smr_mono (hsm.out r ((List.dropLast_sublist l).subset hr)) (by decide))
      have hls := may_less hmb'.out
      rw [hls] at hms
      have hd : decide (1 < l.length) = decide (0 < m) := by rw [hl.out]; simp
      rw [hd] at hms
      obtain ⟨D, hD⟩ : ∃ D, decide (0 < m) = D := ⟨_, rfl⟩
      rw [hD] at hms
      have j1 : decide (((m + 1 : Nat) : Int) > 1) = D := by rw [← hD, decide_eq_decide]; omega
      clear hcut hls hd
      go_wp2_with fail
      refine hms.mono ?_
      rintro e w8 ⟨rfl, hb8⟩
      have hx8 := Lib.hid (hx7.out.trans (hb8.mono hx7.out.size))
      clear hb8 hms
      go_wp2_with fail
      go_ret
      have j5 : D = decide (1 < (m : Int) + 1) := by rw [← hD, decide_eq_decide]; omega
      exact ⟨by first | rfl | (simp; exact j5), hx8.out⟩
end Go.Proofs.YtjofkodncplhaaaGreatDoor.Ky
end

section
namespace Go.Proofs.YtjofkodncplhaaaGreatDoor.Ky
open Go.RowKit
section
variable {H : Type} {enc : TypeId × Value → H} {w : World}
open Go.ChangeShapes in
theorem ts_len {P : Program} {t e : TypeId} {a : Option Addr} {n c : Nat} {d : DataW H} {p : List MemPlace}
    (ht : P.underlying t = some (.slice e)) (he : P.underlying e = some .string) (hc : P.cellsOf e = 1) (hby : P.bytesOf e = 16)
    (h : DataW.Trod enc P w 0 (fun _ => true) true t (.slice a n c) d p) (hz : Sized P t d) : n ≤ 140737488351232 := by
  obtain ⟨fuel, hf⟩ := h
  rcases open_strings ht he hc hf with ⟨hcs, _⟩ | ⟨x, len, cap, zs, hcs, _, hl, hm, hzl, hx, hcell, hsz⟩
  · simp [Value.cells] at hcs
    obtain ⟨rfl, rfl, rfl⟩ := hcs
    omega
  · simp [Value.cells] at hcs
    obtain ⟨rfl, rfl, rfl⟩ := hcs
    simp only [if_true] at hzl
    injection hx with hx _
    subst hx
    have hr := hz.row ht
    rw [hby] at hr
    simp only [strs, List.length_map, List.length_take, List.length_drop] at hr
    omega
theorem ts_of_trod {P : Program} {t e : TypeId} {fuel : Nat} {v : Value} {d : DataW H} {p : List MemPlace} (ht : P.underlying t = some (.slice e)) (he : P.underlying e = some .string) (hc : P.cellsOf e = 1) (hby : P.bytesOf e = 16)
    (h : DataW.trod enc P w 0 (fun _ => true) true fuel t [v] = some (d, p)) (hz : Sized P t d) :
    ∃ A n c, ∃ l : List Tx, v = .slice A n c ∧ Ts w A n c l ∧ l.length ≤ 140737488351232 ∧ ∀ x ∈ l, x.length ≤ 140737488351232 := by
  have key : ∀ A n c, v = .slice A n c → ∃ A n c, ∃ l : List Tx, v = .slice A n c ∧ Ts w A n c l ∧ l.length ≤ 140737488351232 ∧ ∀ x ∈ l, x.length ≤ 140737488351232 := by
    rintro A n c rfl
    obtain ⟨ss, h1, h2⟩ := ss_of_trod (a := A) (n := n) (c := c) (d := d) (p := p) ht he hc ⟨fuel, h⟩ hz
    have hlen := ts_len (a := A) (n := n) (c := c) (d := d) (p := p) ht he hc hby ⟨fuel, h⟩ hz
    refine ⟨A, n, c, ss.map (·.data.toList), rfl, Ts.of_ss h1, by rw [(Ts.of_ss h1).len]; exact hlen, fun x hx => ?_⟩
    obtain ⟨s, hs, rfl⟩ := List.mem_map.1 hx
    have := h2 s hs
    rw [Array.length_toList]
    exact this
  rcases Go.ChangeShapes.open_strings ht he hc h with ⟨hcs, _⟩ | ⟨x, len, cap, zs, hcs, _⟩
  · injection hcs with hcs _
    exact key _ _ _ hcs
  · injection hcs with hcs _
    exact key _ _ _ hcs

def RlB (w : World) (vs : List Value) (r : Rl) : Prop := RlEl w vs r ∧ (r.1.length ≤ 140737488351232 ∧ r.2.length ≤ 140737488351232) ∧ (∀ x ∈ r.1, x.length ≤ 140737488351232) ∧ ∀ x ∈ r.2, x.length ≤ 140737488351232
set_option maxRecDepth 100000 in
theorem rule_each (m : Nat) (vs : List Value) {fs : Array Field} (hs : Tryz.prog.underlying 27 = some (.struct fs)) (h : Fields enc Tryz.prog w fs m vs) : ∃ x, RlB w vs x := by
  have e := Tryz.underlying27
  rw [hs] at e
  injection e with e
  injection e with e
  subst e
  obtain ⟨hl, hf⟩ := h
  obtain ⟨v0, y0, e0, t0, s0⟩ := hf 0 _ rfl
  obtain ⟨v1, y1, e1, t1, s1⟩ := hf 1 _ rfl
  obtain ⟨A, n, c, l, rfl, h1, k1, g1⟩ := ts_of_trod Tryz.underlying23 Tryz.underlying9 (by kernel_rfl) (by kernel_rfl) (d := y0.1) (p := y0.2) t0 s0
  obtain ⟨A', n', c', l', rfl, h2, k2, g2⟩ := ts_of_trod Tryz.underlying23 Tryz.underlying9 (by kernel_rfl) (by kernel_rfl) (d := y1.1) (p := y1.2) t1 s1
  have hvs : vs = [.slice A n c, .slice A' n' c'] := by
    match vs, hl with
    | [x, y], _ => simp at e0 e1; rw [e0, e1]
  exact ⟨(l, l'), ⟨A, n, c, A', n', c', hvs, h1, h2⟩, ⟨k1, k2⟩, g1, g2⟩
set_option maxRecDepth 100000 in
theorem rules_of_trod {a : Option Addr} {n c : Nat} {d : DataW H} {p : List MemPlace} (h : DataW.Trod enc Tryz.prog w 0 (fun _ => true) true 22 (.slice a n c) d p) (hz : Sized Tryz.prog 22 d) :
    ∃ l, Rs w a n c l ∧ Big l := by
  obtain ⟨l, hl, _⟩ := sq_of_trod (El := RlB) Tryz.underlying22 Tryz.underlying27 (by kernel_rfl) (by kernel_rfl) (by decide) (fun m vs h => rule_each m vs Tryz.underlying27 h) h hz
  refine ⟨l, ⟨hl.len, hl.le, hl.max, hl.nil, fun h0 => ?_⟩, fun r hr => ?_⟩
  · obtain ⟨b, off, e, hb, hc⟩ := hl.cell h0
    exact ⟨b, off, e, hb, fun i x hx => by
      obtain ⟨vs, g1, g2, g3⟩ := hc i x hx
      exact ⟨vs, g1, g2.1, g3⟩⟩
  · obtain ⟨i, hi⟩ := List.mem_iff_getElem?.1 hr
    have hlt := (List.getElem?_eq_some_iff.1 hi).1
    have hll := hl.len
    obtain ⟨b, off, e, hb, hc⟩ := hl.cell (by omega)
    obtain ⟨vs, g1, g2, g3⟩ := hc i r hi
    exact g2.2
end
end Go.Proofs.YtjofkodncplhaaaGreatDoor.Ky
end
