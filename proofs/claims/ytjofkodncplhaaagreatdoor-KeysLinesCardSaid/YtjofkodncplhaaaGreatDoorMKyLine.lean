/- keys.line. -/
import Derived.Test.YtjofkodncplhaaaGreatDoorMKyRule
import Derived.Lib.QuietBelow
section
namespace Go.Proofs.YtjofkodncplhaaaGreatDoor.Ky
open Go.RowKit Go.Shelf UtfW

theorem smr_len {l : List Rl} {M : Nat} (h : ∀ r ∈ l, Smr M r) (hM : M ≤ 999999) : ∀ r ∈ l, r.1.length ≤ 1000000000 ∧ r.2.length ≤ 1000000000 := fun r hr => by
  have := h r hr
  exact ⟨by have := this.1; omega, by have := this.2.1; omega⟩

set_option maxHeartbeats 1000000 in
set_option maxRecDepth 100000 in
/-- keys.placed. -/
theorem placed_any (A : Option Addr) (n c : Nat) (l : List Rl) (A1 : Option Addr) (n1 c1 : Nat) (A2 : Option Addr) (n2 c2 : Nat) (r : Rl) (w : World) (h : Rs w A n c l) (h1 : Ts w A1 n1 c1 r.1) (hne : r.1 ≠ []) (hS : ∀ r ∈ l, r.1.length ≤ 1000000000 ∧ r.2.length ≤ 1000000000) :
    Calls Tryz.prog 33 #[.slice A n c, .agg #[.slice A1 n1 c1, .slice A2 n2 c2]] w fun e w' => e = .returned (.bool (placedB l r)) ∧ Below w.heap.size w w' := by
  obtain ⟨p, q⟩ := r
  simp only at h1 hne
  have hl1 := h1.len
  have hl := h.len
  have hm1 := Rd.max h1
  have hle1 := Rd.le h1
  have hpos : 0 < n1 := by have := List.length_pos_iff.2 hne; omega
  have hP : placedB l (p, q) = (!hasB l p && (if n1 = 1 then decide (n = 0) else hasB l p.dropLast)) := by
    unfold placedB
    simp only
    rw [hl1, hl]
  obtain ⟨R, hR⟩ : ∃ R, placedB l (p, q) = R := ⟨_, rfl⟩
  rw [hR] at hP ⊢
  have hP' := Lib.hid hP
  have hn0 := kb_new w A1 n1 c1 A2 n2 c2
  have hb0 := below_alloc w (.cells #[.slice A1 n1 c1, .slice A2 n2 c2] 27)
  obtain ⟨T, hT⟩ : ∃ T, w.heap.size = T := ⟨_, rfl⟩
  obtain ⟨w0, hw0⟩ : ∃ w0, w.alloc (.cells #[.slice A1 n1 c1, .slice A2 n2 c2] 27) = w0 := ⟨_, rfl⟩
  have hs0 : w0.heap.size = T + 1 := by rw [← hw0, World.size_alloc, hT]
  rw [hw0] at hb0 hn0
  have h' := Lib.hid (h.below hb0)
  have h1' := Lib.hid (h1.below hb0)
  have hS' := Lib.hid hS
  have hT' := Lib.hid hT
  rw [hT] at hn0 hb0
  have hn0' := Lib.hid hn0
  have hb0' := Lib.hid (show Below w.heap.size w w0 by rw [hT]; exact hb0)
  obtain ⟨k0, k1⟩ := hn0.cells
  have hf1 := Lib.hid (Find_any A n c l A1 n1 c1 p w0 h'.out h1'.out hS)
  have hl1' := Lib.hid hl1
  clear h h1 hn0 hb0 hP hl1 hl hR hS hne
  go_enter Tryz.func33, Tryz.ntmps33
  go_wp2_with fail
  clear hw0 hT
  refine hf1.out.mono ?_
  rintro e w1 ⟨A3, n3, c3, A4, n4, c4, rfl, hb1, _⟩
  obtain ⟨H, hH⟩ : ∃ H, hasB l p = H := ⟨_, rfl⟩
  have hb1' := Lib.hid hb1
  rw [hH]
  have hH' := Lib.hid hH
  clear hH hb1
  have hb2 := below_alloc w1 (.cells #[.slice A3 n3 c3, .slice A4 n4 c4] 27)
  obtain ⟨w2, hw2⟩ : ∃ w2, w1.alloc (.cells #[.slice A3 n3 c3, .slice A4 n4 c4] 27) = w2 := ⟨_, rfl⟩
  rw [hw2] at hb2
  have hb2' := Lib.hid (hb1'.out.trans (hb2.mono hb1'.out.size))
  have hx2 := Lib.hid (hb0'.out.trans (hb2'.out.mono hb0'.out.size))
  clear hb2
  cases H with
  | true =>
    obtain rfl : R = false := by rw [hP'.out, hH'.out]; rfl
    go_wp2_with fail
    go_ret
    exact ⟨rfl, hx2.out⟩
  | false =>
    obtain ⟨k0, k1⟩ := (hn0'.out.below (hb2'.out.mono (by omega))).cells
    by_cases e1 : n1 = 1
    · subst e1
      obtain rfl : R = decide (n = 0) := by rw [hP'.out, hH'.out, if_pos rfl]; rfl
      go_wp2_with fail
      go_ret
      refine ⟨ret_bool ?_, hx2.out⟩
      rw [Bool.eq_iff_iff, beq_iff_eq, decide_eq_true_eq]
      omega
    · obtain ⟨m, rfl⟩ : ∃ m, n1 = m + 2 := ⟨n1 - 2, by omega⟩
      have hR : R = hasB l p.dropLast := by rw [hP'.out, hH'.out, if_neg e1]; rfl
      obtain ⟨b, off, t, rfl, hbl, _, _⟩ := h1'.out.at_ (k := 0) (by omega)
      have hcut := h1'.out.cut 0 (m + 1) (by omega) (by omega) (some ⟨b, off, none⟩) (fun b' o' e _ => by injection e with e; injection e with e1 e2; subst e1; subst e2; rfl) (fun h => by cases h) (fun _ h => by cases h)
      rw [Nat.sub_zero, Nat.sub_zero, List.drop_zero] at hcut
      have hdl : p.take (m + 1) = p.dropLast := by rw [List.dropLast_eq_take, hl1'.out]; rfl
      rw [hdl] at hcut
      have hcut' := Lib.hid hcut
      have hR' := Lib.hid hR
      have hf2 := Lib.hid (Find_any A n c l (some ⟨b, off, none⟩) (m + 1) c1 p.dropLast w2 (h'.out.below (hb2'.out)) (hcut.below hb2'.out) hS'.out)
      clear hcut hdl hR e1
      go_wp2_with fail
      refine hf2.out.mono ?_
      rintro e w3 ⟨A5, n5, c5, A6, n6, c6, rfl, hb3, _⟩
      obtain ⟨G, hG⟩ : ∃ G, hasB l p.dropLast = G := ⟨_, rfl⟩
      rw [hG]
      have hG' := Lib.hid hG
      have hb3' := Lib.hid (hx2.out.trans (hb3.mono hx2.out.size))
      clear hG hb3
      have hb4 := below_alloc w3 (.cells #[.slice A5 n5 c5, .slice A6 n6 c6] 27)
      have hb4' := Lib.hid (hb3'.out.trans (hb4.mono hb3'.out.size))
      clear hb4
      go_wp2_with fail
      go_ret
      exact ⟨ret_bool (by rw [hR'.out, hG'.out]), hb4'.out⟩

set_option maxHeartbeats 2000000 in
set_option maxRecDepth 100000 in
/-- keys.May. -/
theorem May_any (A : Option Addr) (n c : Nat) (l : List Rl) (w : World) (h : Rs w A n c l) (hU : Ut w) (hS : ∀ r ∈ l, Smr 999999 r) :
    Calls Tryz.prog 20 #[.slice A n c] w fun e w' => e = .returned (.bool (mayB nameR l)) ∧ Below w.heap.size w w' := by
  have hl := h.len
  have hm := h.max
  have hle := h.le
  have hP : mayB nameR l = (decide (1 ≤ n ∧ n ≤ 64) && mayP nameR [] l) := by
    unfold mayB
    rw [hl]
  obtain ⟨R, hR⟩ : ∃ R, mayB nameR l = R := ⟨_, rfl⟩
  rw [hR] at hP ⊢
  have hP' := Lib.hid hP
  have hl' := Lib.hid hl
  have h' := Lib.hid h
  have hU' := Lib.hid hU
  have hS' := Lib.hid hS
  clear hR hP hl h hU hS
  by_cases hn : n < 1
  · obtain rfl : R = false := by rw [hP'.out, decide_eq_false (by omega)]; rfl
    have j1 : decide ((n : Int) < 1) = true := by rw [decide_eq_true_eq]; omega
    go_enter Tryz.func20, Tryz.ntmps20
    go_wp2_with fail
    go_ret
    exact ⟨rfl, Below.refl _ _⟩
  · have j1 : decide ((n : Int) < 1) = false := by rw [decide_eq_false_iff_not]; omega
    by_cases hn2 : 64 < n
    · obtain rfl : R = false := by rw [hP'.out, decide_eq_false (by omega)]; rfl
      have j2 : decide ((n : Int) > 64) = true := by rw [decide_eq_true_eq]; omega
      have j3 : decide (64 < n) = true := by rw [decide_eq_true_eq]; omega
      go_enter Tryz.func20, Tryz.ntmps20
      go_wp2_with fail
      go_ret
      exact ⟨rfl, Below.refl _ _⟩
    · have j2 : decide ((n : Int) > 64) = false := by rw [decide_eq_false_iff_not]; omega
      have j3 : decide (64 < n) = false := by rw [decide_eq_false_iff_not]; omega
      have hR : Hid (R = mayP nameR [] l) := Lib.hid (by rw [hP'.out, decide_eq_true (by omega), Bool.true_and])
      clear hn hn2 hP'
      go_enter Tryz.func20, Tryz.ntmps20
      go_wp2_with fail
      clear j1 j2 j3
      go_loopw [15] (fun i wr => ∃ k : Nat, k ≤ n ∧ i = .int .i64 k ∧ Hid (mayP nameR [] (l.take k) = true) ∧ Hid (Below w.heap.size w wr)) (fun i _ => n - (intOf i).toNat)
      case atStart => exact ⟨0, by omega, rfl, Lib.hid rfl, Lib.hid (Below.refl _ _)⟩
      case round =>
        obtain ⟨k, hk, rfl, ho, hb⟩ := hrel
        by_cases hlt : k < n
        · have i1 : decide ((k : Int) < (n : Int)) = true := by rw [decide_eq_true_eq]; omega
          have i2 : decide (k < n) = true := by rw [decide_eq_true_eq]; omega
          have i3 : (k : Int) < (n : Int) := by omega
          have hrr := h'.out.below hb.out
          obtain ⟨b, off, r, A1, n1, c1, A2, n2, c2, rfl, hbl, hr, t1, t2, k0, k1⟩ := Rs.at_ hrr hlt
          have hn7 := kb_new wr A1 n1 c1 A2 n2 c2
          have hb7 := below_alloc wr (.cells #[.slice A1 n1 c1, .slice A2 n2 c2] 27)
          obtain ⟨p7, hp7⟩ : ∃ p7, wr.heap.size = p7 := ⟨_, rfl⟩
          obtain ⟨w7, hw7⟩ : ∃ w7, wr.alloc (.cells #[.slice A1 n1 c1, .slice A2 n2 c2] 27) = w7 := ⟨_, rfl⟩
          rw [hw7] at hn7 hb7
          rw [hp7] at hn7
          obtain ⟨q0, q1⟩ := hn7.cells
          have m0 := cell_regrown q0
          have m1 := cell_regrown q1
          have hx7 := Lib.hid (hb.out.trans (hb7.mono hb.out.size))
          have hrl := hS'.out r (List.mem_of_getElem? hr)
          have hcut : Rs w7 (some ⟨b, off, none⟩) k c (l.take k) := by
            have := Sq.cut (hrr.below hb7) 0 k (by omega) (by omega) (some ⟨b, off, none⟩) (fun b' o' e _ => by injection e with e; injection e with e1 e2; subst e1; subst e2; simp) (fun h1 h2 => by cases h2)
            rw [Nat.sub_zero, Nat.sub_zero, List.drop_zero] at this
            exact this
          have hsm := smr_len hS'.out (Nat.le_refl _)
          have cR : ∀ d os, Calls Tryz.prog 39 #[.agg #[.slice A1 n1 c1, .slice A2 n2 c2]] (Sort.grow (redrawn w7 d) os) fun e w'' => e = .returned (.bool (ruleB nameR r)) ∧ ∃ p : Regrown, w'' = Sort.grow (redrawn w7 p.d) p.os := fun d os =>
            Calls.regrown_of (rule_any A1 n1 c1 A2 n2 c2 r _ ((t1.below hb7).below (below_regrown w7 d os)) ((t2.below hb7).below (below_regrown w7 d os)) ((hU'.out.below hx7.out).below (below_regrown w7 d os)) hrl)
          have hstep : Hid (ruleB nameR r = true → placedB (l.take k) r = true → mayP nameR [] (l.take (k + 1)) = true) := Lib.hid fun g1 g2 => by
            rw [take_snoc hr, mayP_append, ho.out, List.nil_append]
            simp [mayP, g1, g2]
          have hbad : Hid (ruleB nameR r = false ∨ placedB (l.take k) r = false → R = false) := Lib.hid fun g => by
            have e : l = l.take (k + 1) ++ l.drop (k + 1) := (List.take_append_drop _ _).symm
            rw [hR.out, e, mayP_append, take_snoc hr, mayP_append, ho.out, List.nil_append]
            rcases g with g | g <;> simp [mayP, g]
          cases hru : ruleB nameR r with
          | false =>
            rw [hru] at cR
            obtain rfl : R = false := hbad.out (.inl hru)
            clear hrl hcut hsm hrr t1 t2 hn7 hb7 hr hru hstep hbad
            go_wp2_with fail
            refine wp_region_quiet_below (by kernel_rfl) (by kernel_rfl) ?_
            repeat (quiet_step (exact cR _ _))
            refine wpQuiet_nil ?_
            intro _ hw'
            obtain ⟨⟨dq, osq⟩, hw''⟩ := hw'
            subst hw''
            have hbQ := Lib.hid (hx7.out.trans ((below_regrown w7 dq osq).mono hx7.out.size))
            clear m0 m1 cR
            go_wp2_with fail
            go_ret
            exact ⟨rfl, hbQ.out⟩
          | true =>
            rw [hru] at cR
            have hkc : k ≤ c := by omega
            have hrne : r.1 ≠ [] := by
              intro e
              unfold ruleB at hru
              rw [e] at hru
              simp at hru
            have cP : ∀ d os, Calls Tryz.prog 33 #[.slice (some ⟨b, off, none⟩) k c, .agg #[.slice A1 n1 c1, .slice A2 n2 c2]] (Sort.grow (redrawn w7 d) os) fun e w'' => e = .returned (.bool (placedB (l.take k) r)) ∧ ∃ p : Regrown, w'' = Sort.grow (redrawn w7 p.d) p.os := fun d os =>
              Calls.regrown_of (placed_any (some ⟨b, off, none⟩) k c (l.take k) A1 n1 c1 A2 n2 c2 r _ (hcut.below (below_regrown w7 d os)) ((t1.below hb7).below (below_regrown w7 d os)) hrne (fun x hx => hsm x (List.mem_of_mem_take hx)))
            have hru' := Lib.hid hru
            cases hpl : placedB (l.take k) r with
            | false =>
              rw [hpl] at cP
              obtain rfl : R = false := hbad.out (.inr hpl)
              clear hrl hcut hsm hrr t1 t2 hn7 hb7 hr hru hstep hbad hpl hrne
              go_wp2_with fail
              refine wp_region_quiet_below (by kernel_rfl) (by kernel_rfl) ?_
              repeat (quiet_step (first | exact cR _ _ | exact cP _ _))
              refine wpQuiet_nil ?_
              intro _ hw'
              obtain ⟨⟨dq, osq⟩, hw''⟩ := hw'
              subst hw''
              have hbQ := Lib.hid (hx7.out.trans ((below_regrown w7 dq osq).mono hx7.out.size))
              clear m0 m1 cR cP
              go_wp2_with fail
              go_ret
              exact ⟨rfl, hbQ.out⟩
            | true =>
              rw [hpl] at cP
              have ho2 := Lib.hid (hstep.out hru hpl)
              clear hrl hcut hsm hrr t1 t2 hn7 hb7 hr hru hstep hbad hpl hrne
              go_wp2_with fail
              refine wp_region_quiet_below (by kernel_rfl) (by kernel_rfl) ?_
              repeat (quiet_step (first | exact cR _ _ | exact cP _ _))
              refine wpQuiet_nil ?_
              intro _ hw'
              obtain ⟨⟨dq, osq⟩, hw''⟩ := hw'
              subst hw''
              have hbQ := Lib.hid (hx7.out.trans ((below_regrown w7 dq osq).mono hx7.out.size))
              clear m0 m1 cR cP
              go_wp2_with fail
              go_roundw
              case rel => exact ⟨k + 1, by omega, by go_num, ho2, hbQ⟩
              case measure => simp [intOf]; omega
        · have i1 : decide ((k : Int) < (n : Int)) = false := by rw [decide_eq_false_iff_not]; omega
          have i2 : decide (k < n) = false := by rw [decide_eq_false_iff_not]; omega
          obtain rfl : R = true := by
            have := ho.out
            rw [List.take_of_length_le (by have := hl'.out; omega)] at this
            rw [hR.out, this]
          go_wp2_with fail
          go_ret
          exact ⟨rfl, hb.out⟩
end Go.Proofs.YtjofkodncplhaaaGreatDoor.Ky
end

section
namespace Go.Proofs.YtjofkodncplhaaaGreatDoor.Ky
open Go.RowKit Go.Shelf UtfW

theorem grown_trans {a b c : World} {r : Option Nat} (h : a.grownBy b r) (k : b.grownBy c r) : a.grownBy c r :=
  ⟨k.os.trans h.os, k.tape.trans h.tape, k.output.trans h.output, Nat.le_trans h.size k.size, fun i hi hne => (k.block i (Nat.lt_of_lt_of_le hi h.size) hne).trans (h.block i hi hne)⟩
theorem grown_b {b c : World} (r : Option Nat) (k : Below b.heap.size b c) : b.grownBy c r :=
  ⟨k.os, k.tape, k.output, k.size, fun i hi _ => k.block i hi⟩
theorem grown_low {a b c : World} {r : Option Nat} (h : a.grownBy b r) (k : Below a.heap.size b c) : a.grownBy c r :=
  ⟨k.os.trans h.os, k.tape.trans h.tape, k.output.trans h.output, Nat.le_trans h.size k.size, fun i hi hne => (k.block i hi).trans (h.block i hi hne)⟩
theorem grown_set (w : World) (p : Addr) (x : Value) : w.grownBy (w.setCell p x) (some p.block) := by
  refine ⟨rfl, rfl, rfl, by simp [World.setCell], fun k hk hne => ?_⟩
  have : p.block ≠ k := fun e => hne (by rw [e])
  simp [World.setCell, Array.getElem?_modify, this]
theorem str_info : (Tryz.prog.info? 9).map (fun i => (i.zero, i.size, i.bytes)) = some (some (.string ByteArray.empty), 1, 16) := by kernel_rfl
theorem OwX.grown {w w' : World} {B E : Nat} {v : Value} {ts : List Tx} {row : Option Nat} (h : OwX w B E v ts) (hg : w.grownBy w' row) (hne : v.ownBlock = none ∨ v.ownBlock ≠ row) : OwX w' B E v ts :=
  World.ownsRow.kept h hg hne
/-- A row of texts is no rule's block. -/
theorem OwX.ne_kb {w : World} {B : Nat} {v : Value} {ts : List Tx} {b : Nat} {A : Option Addr} {n c : Nat} {A' : Option Addr} {n' c' : Nat} (h : OwX w B 9 v ts) (hk : Kb w b A n c A' n' c') : v.ownBlock = none ∨ v.ownBlock ≠ some b := by
  rcases h.2 with ⟨rfl, _⟩ | ⟨g, cap, cur, rfl, _, hh, _⟩
  · exact .inl rfl
  · right
    intro e
    simp only [Value.ownBlock, Option.some.injEq] at e
    subst e
    unfold Kb at hk
    rw [hh] at hk
    injection hk with hk
    injection hk with _ hk
    exact absurd hk (by decide)

/-- What line answers. -/
def LineP (s : Tx) (w : World) (e : Ending) (w' : World) : Prop :=
  ∃ A1 n1 c1 A2 n2 c2, e = .returned (.tuple #[.agg #[.slice A1 n1 c1, .slice A2 n2 c2], .bool (lineR nameR s).isSome]) ∧ Below w.heap.size w w' ∧
    ∀ r, lineR nameR s = some r → OwX w' w.heap.size 9 (.slice A1 n1 c1) r.1 ∧ OwX w' w.heap.size 9 (.slice A2 n2 c2) r.2

theorem trim_any (s : ByteArray) (hs : s.size ≤ 281474976710656) (w : World) :
    Calls Tryz.prog 30 #[.string s] w fun e w' => e = .returned (.string (strOf (trim s.data.toList))) ∧ Below w.heap.size w w' := by
  have h := utfTrim_any s hs w
  have e : Lib.trimS s.data.toList Utf.cs = trim s.data.toList := trim_eq s.data.toList
  rw [e] at h
  exact h

theorem line_not {s : Tx} (h : (Lib.cut s [123]).2.2 = false ∨ Lib.hasSuffix (Lib.cut s [123]).2.1 [125] = false ∨ Lib.hasPrefix (trim (Lib.cut s [123]).1) [47] = false) : lineR nameR s = none := by
  unfold lineR
  rw [cut_eq] at h
  cases hc : cutAt 123 s with
  | mk a o =>
    rw [hc] at h
    cases o with
    | none => rfl
    | some k =>
      simp only at h ⊢
      rcases h with h | h | h
      · cases h
      · rcases shut_eq k with ⟨h1, _⟩ | ⟨_, h1⟩
        · rw [h] at h1; cases h1
        · rw [if_neg h1]
      · split
        · split
          · rename_i p hp
            rw [hp] at h
            exact absurd h (by simp [Lib.hasPrefix, List.isPrefixOf])
          · rfl
        · rfl
theorem line_yes {s : Tx} (h1 : (Lib.cut s [123]).2.2 = true) (h2 : Lib.hasSuffix (Lib.cut s [123]).2.1 [125] = true) (h3 : Lib.hasPrefix (trim (Lib.cut s [123]).1) [47] = true) :
    lineR nameR s = ruleO nameR (split 47 (Lib.trimPrefix (trim (Lib.cut s [123]).1) [47]), if trim (Lib.trimSuffix (Lib.cut s [123]).2.1 [125]) = [] then [] else (split 44 (trim (Lib.trimSuffix (Lib.cut s [123]).2.1 [125]))).map trim) := by
  unfold lineR
  rw [cut_eq] at *
  cases hc : cutAt 123 s with
  | mk a o =>
    rw [hc] at h1 h2 h3
    cases o with
    | none => cases h1
    | some k =>
      simp only at h2 h3 ⊢
      rcases shut_eq k with ⟨_, h4, h5⟩ | ⟨h4, _⟩
      · rw [if_pos h4, h5]
        rcases root_eq (trim a) with ⟨_, p, h6, h7⟩ | ⟨h6, _⟩
        · rw [h7, h6]
          rfl
        · rw [h6] at h3; cases h3
      · rw [h4] at h2; cases h2
theorem cut_lens (s : Tx) : (Lib.cut s [123]).1.length ≤ s.length ∧ (Lib.cut s [123]).2.1.length ≤ s.length := by
  unfold Lib.cut
  split
  · simp only [List.length_take, List.length_drop]; omega
  · simp
theorem trimP_len (s p : Tx) : (Lib.trimPrefix s p).length ≤ s.length := by
  unfold Lib.trimPrefix
  split
  · simp
  · exact Nat.le_refl _
theorem trimS_len (s p : Tx) : (Lib.trimSuffix s p).length ≤ s.length := by
  unfold Lib.trimSuffix
  split
  · simp
  · exact Nat.le_refl _

theorem smr_mono {M N : Nat} {r : Rl} (h : Smr M r) (hN : M ≤ N) : Smr N r :=
  ⟨by have := h.1; omega, by have := h.2.1; omega, fun t ht => by have := h.2.2.1 t ht; omega, fun t ht => by have := h.2.2.2 t ht; omega⟩

set_option maxHeartbeats 2000000 in
set_option maxRecDepth 100000 in
/-- keys.line. -/
theorem line_any (s : ByteArray) (hs : s.size ≤ 900000) (w : World) (hU : Ut w) :
    Calls Tryz.prog 31 #[.string s] w (LineP s.data.toList w) := by
  obtain ⟨t, ht⟩ : ∃ t, s.data.toList = t := ⟨_, rfl⟩
  have hsz : t.length ≤ 900000 := by rw [← ht, Array.length_toList]; exact hs
  have hn0 := kb_new w none 0 0 none 0 0
  have hb0 := below_alloc w (.cells #[.slice none 0 0, .slice none 0 0] 27)
  obtain ⟨T, hT⟩ : ∃ T, w.heap.size = T := ⟨_, rfl⟩
  obtain ⟨w0, hw0⟩ : ∃ w0, w.alloc (.cells #[.slice none 0 0, .slice none 0 0] 27) = w0 := ⟨_, rfl⟩
  have hs0 : w0.heap.size = T + 1 := by rw [← hw0, World.size_alloc, hT]
  rw [hw0] at hb0 hn0
  have hU0 := hU.below hb0
  rw [hT] at hn0 hb0
  have hn0' := Lib.hid hn0
  have hb0' := Lib.hid hb0
  have hT' := Lib.hid hT
  have hcut := cut_any 123 s (by omega) w0 hU0
  rw [ht] at hcut ⊢
  have hno := line_not (s := t)
  have hyes := line_yes (s := t)
  obtain ⟨g1, g2⟩ := cut_lens t
  obtain ⟨C, hC⟩ : ∃ C, Lib.cut t [123] = C := ⟨_, rfl⟩
  rw [hC] at hcut hno hyes g1 g2
  obtain ⟨a, k, ok⟩ := C
  simp only at hcut hno hyes g1 g2
  have hno' := Lib.hid hno
  have hyes' := Lib.hid hyes
  have hU' := Lib.hid hU0
  clear hC hno hyes hU hU0 ht hn0 hb0
  go_enter Tryz.func31, Tryz.ntmps31
  go_wp2_with fail
  refine hcut.mono ?_
  rintro e w1 ⟨rfl, q1, rfl⟩
  have hb1 : Below w0.heap.size w0 (w0.drewN q1) := Joins.below_draws _ w0 q1
  obtain ⟨w1, hw1⟩ : ∃ w1, w0.drewN q1 = w1 := ⟨_, rfl⟩
  rw [hw1] at hb1 ⊢
  have hb1' := Lib.hid hb1
  clear hcut hw0 hT hb1 hw1
  have hsuf := cutSuffix_any (strOf k) ⟨#[125]⟩ (by rw [strOf_size']; omega) w1
  rw [strOf_data', show (⟨#[125]⟩ : ByteArray).data.toList = [125] from rfl] at hsuf
  go_wp2_with fail
  refine hsuf.mono ?_
  rintro e w2 ⟨rfl, rfl⟩
  clear hsuf
  have htr := trim_any (strOf a) (by rw [strOf_size']; omega) w2
  rw [strOf_data'] at htr
  have g3 := trim_small a
  have g4 := trimS_len k [125]
  obtain ⟨z, hz⟩ : ∃ z, trim a = z := ⟨_, rfl⟩
  obtain ⟨y, hy⟩ : ∃ y, Lib.trimSuffix k [125] = y := ⟨_, rfl⟩
  obtain ⟨cl, hcl⟩ : ∃ cl, Lib.hasSuffix k [125] = cl := ⟨_, rfl⟩
  rw [hz] at htr g3 hno' hyes'
  rw [hy] at g4 hyes'
  rw [hcl] at hno' hyes'
  rw [hy, hcl]
  clear hz hy hcl
  go_wp2_with fail
  refine htr.mono ?_
  rintro e w3 ⟨rfl, hb3⟩
  have hb3' := Lib.hid (hb1'.out.trans (hb3.mono hb1'.out.size))
  clear htr hb3 hb1'
  have hpre := cutPrefix_any (strOf z) ⟨#[47]⟩ w3
  rw [strOf_data', show (⟨#[47]⟩ : ByteArray).data.toList = [47] from rfl] at hpre
  have g5 := trimP_len z [47]
  obtain ⟨x, hx⟩ : ∃ x, Lib.trimPrefix z [47] = x := ⟨_, rfl⟩
  obtain ⟨ro, hro⟩ : ∃ ro, Lib.hasPrefix z [47] = ro := ⟨_, rfl⟩
  rw [hx] at hpre g5 hyes'
  rw [hro] at hpre hno' hyes'
  clear hx hro
  go_wp2_with fail
  refine hpre.mono ?_
  rintro e w4 ⟨rfl, rfl⟩
  clear hpre
  have hs4 := hb3'.out.size
  by_cases hall : ok = true ∧ cl = true ∧ ro = true
  · obtain ⟨rfl, rfl, rfl⟩ := hall
    have hR := Lib.hid (hyes'.out rfl rfl rfl)
    clear hno' hyes'
    have hU4 := Lib.hid (hU'.out.below hb3'.out)
    have hsp := split_any 47 (strOf x) (by rw [strOf_size']; omega) w4 hU4.out
    rw [strOf_data'] at hsp
    have hl47 := split_len 47 x
    have hs47 := split_small 47 x
    obtain ⟨P, hP⟩ : ∃ P, split 47 x = P := ⟨_, rfl⟩
    rw [hP] at hsp hR hl47 hs47
    clear hP
    go_wp2_with fail
    refine hsp.mono ?_
    rintro e w5 ⟨n, hn, hn2, hn3, rfl, ho5, hb5⟩
    go_wp2_with fail
    obtain ⟨p5, hp5⟩ : ∃ p5, w4.heap.size = p5 := ⟨_, rfl⟩
    rw [hp5] at ho5 hb5 ⊢
    have hp5T : Hid (w.heap.size ≤ p5) := Lib.hid (by have := hT'.out; omega)
    have hb5' := Lib.hid (hb3'.out.trans (by rw [← hp5] at hb5; exact hb5.mono hs4))
    have hn6 := kb_new w5 (some ⟨p5, 0, none⟩) n n none 0 0
    have hb6 := below_alloc w5 (.cells #[.slice (some ⟨p5, 0, none⟩) n n, .slice none 0 0] 27)
    obtain ⟨p10, hp10⟩ : ∃ p10, w5.heap.size = p10 := ⟨_, rfl⟩
    obtain ⟨w6, hw6⟩ : ∃ w6, w5.alloc (.cells #[.slice (some ⟨p5, 0, none⟩) n n, .slice none 0 0] 27) = w6 := ⟨_, rfl⟩
    have hs6 : w6.heap.size = p10 + 1 := by rw [← hw6, World.size_alloc, hp10]
    rw [hw6] at hb6 hn6 ⊢
    have ho6 := Lib.hid (ho5.below hb6)
    have hb6' := Lib.hid (hb5'.out.trans (hb6.mono hb5'.out.size))
    have hs5 := hb5'.out.size
    have hp10T : Hid (w.heap.size ≤ p10 ∧ T < p10) := Lib.hid (by have := hT'.out; omega)
    rw [hp10] at hn6 ⊢
    have hn6' := Lib.hid hn6
    have hty := trim_any (strOf y) (by rw [strOf_size']; omega) w6
    rw [strOf_data'] at hty
    have g6 := trim_small y
    obtain ⟨K, hK⟩ : ∃ K, (if trim y = [] then [] else (split 44 (trim y)).map trim) = K := ⟨_, rfl⟩
    rw [hK] at hR
    have hK' := Lib.hid hK
    clear hsp ho5 hb5 hb6 hn6 hK
    obtain ⟨y2, hy2⟩ : ∃ y2, trim y = y2 := ⟨_, rfl⟩
    rw [hy2] at hty g6 hK'
    clear hw6 hp10 hp5
    refine hty.mono ?_
    rintro e w7 ⟨rfl, hb7⟩
    have ho7 := Lib.hid (ho6.out.below hb7)
    have hn7 := Lib.hid (hn6'.out.below hb7)
    have hb7' := Lib.hid (hb6'.out.trans (hb7.mono hb6'.out.size))
    have hs7 := hb7.size
    clear hty hb7 hy2 ho6 hn6' hb6'
    have emp : (strOf y2).toList.isEmpty = y2.isEmpty := strOf_empty y2
    go_upto_if 47 with fail
    go_cut [7] (fun v wx => v = .string (strOf y2) ∧ ∃ (A2 : Option Addr) (m c2 : Nat), Hid (Kb wx p10 (some ⟨p5, 0, none⟩) n n A2 m c2) ∧ Hid (OwX wx w.heap.size 9 (.slice A2 m c2) K) ∧ Hid (OwX wx w.heap.size 9 (.slice (some ⟨p5, 0, none⟩) n n) P) ∧ Hid (Below w0.heap.size w0 wx))
    case first =>
      by_cases h0 : y2 = []
      · subst h0
        obtain rfl : K = [] := by rw [← hK'.out, if_pos rfl]
        go_wp2_with fail
        go_meet
        exact ⟨rfl, none, 0, 0, hn7, Lib.hid (OwX.nil _ _ _), Lib.hid (ho7.out.down hp5T.out), hb7'⟩
      · have emp2 : (strOf y2).toList.isEmpty = false := by
          rw [emp]
          cases y2 with
          | nil => exact absurd rfl h0
          | cons _ _ => rfl
        rw [emp] at emp2
        have emp3 : (!List.isEmpty y2) = true := by rw [emp2]; rfl
        clear emp
        have hKe : Hid (K = (split 44 y2).map trim) := Lib.hid (by rw [← hK'.out, if_neg h0])
        have hsp := split_any 44 (strOf y2) (by rw [strOf_size']; omega) w7 (hU'.out.below hb7'.out)
        rw [strOf_data'] at hsp
        have hs44 := split_small 44 y2
        have hl44 := split_len 44 y2
        obtain ⟨L, hL⟩ : ∃ L, split 44 y2 = L := ⟨_, rfl⟩
        rw [hL] at hsp hKe hs44 hl44
        have hs44' := Lib.hid hs44
        clear hL hs44
        go_wp2_with fail
        rotate_left
        · rename_i hbad
          rw [emp3] at hbad
          cases hbad
        refine hsp.mono ?_
        rintro e w8 ⟨n2, hm, hm2, hm3, rfl, ho8, hb8⟩
        have hn9 : n2 ≤ 900001 := by omega
        obtain ⟨p8, hp8⟩ : ∃ p8, w7.heap.size = p8 := ⟨_, rfl⟩
        have hn8 := Lib.hid (hn7.out.below hb8)
        have ho78 := Lib.hid (ho7.out.below hb8)
        have hb8' := Lib.hid (hb7'.out.trans (hb8.mono hb7'.out.size))
        rw [hp8] at ho8 hb8 ⊢
        have ho8' := Lib.hid ho8
        have hm' := Lib.hid hm
        have hlt10 := hn8.out.lt
        have hs8 := hb8'.out.size
        clear hsp ho8 hb8 hm
        obtain ⟨B2, hB2⟩ : ∃ B2, w8.heap.size = B2 := ⟨_, rfl⟩
        have hB2' := Lib.hid hB2
        rw [hB2] at hlt10
        clear hB2
        go_wp2_with fail
        go_loopw [51] (fun i wr => ∃ (j : Nat) (A2 : Option Addr) (c2 : Nat), j ≤ n2 ∧ i = .int .i64 j ∧ Hid (Kb wr p10 (some ⟨p5, 0, none⟩) n n A2 j c2) ∧ Hid (OwX wr B2 9 (.slice A2 j c2) ((L.take j).map trim)) ∧ Hid (w8.grownBy wr (some p10))) (fun i _ => n2 - (intOf i).toNat)
        case atStart => exact ⟨0, none, 0, by omega, rfl, hn8, Lib.hid (OwX.nil _ _ _), Lib.hid (World.grownBy.refl _ _)⟩
        case round =>
          obtain ⟨j, A2, c2, hj, rfl, hKb, hoK, hg⟩ := hrel
          by_cases hlt : j < n2
          · have i1 : decide ((j : Int) < (n2 : Int)) = true := by rw [decide_eq_true_eq]; omega
            have i2 : decide (j < n2) = true := by rw [decide_eq_true_eq]; omega
            have i3 : (j : Int) < (n2 : Int) := by omega
            have hoL := ho8'.out.grown hg.out (ho8'.out.ne_kb hn8.out)
            obtain ⟨b, off, t1, e0, hbl, ht1, hc⟩ := hoL.rd.at_ hlt
            injection e0 with e0
            injection e0 with e0 e1 _
            subst e0; subst e1
            rw [Nat.zero_add] at hc
            have hsr : B2 ≤ wr.heap.size := by have := hg.out.size; have := hB2'.out; omega
            have htl := hs44'.out t1 (List.mem_of_getElem? ht1)
            have hct : Hid (∀ x, Calls Tryz.prog 30 #[.string (strOf t1)] x fun e w' => e = .returned (.string (strOf (trim t1))) ∧ Below x.heap.size x w') := Lib.hid fun x => by
              have := trim_any (strOf t1) (by rw [strOf_size']; omega) x
              rw [strOf_data'] at this
              exact this
            have hq0 : Hid (∀ x, Below wr.heap.size wr x → x.cell? ⟨p10, 1, none⟩ = some (.slice A2 j c2)) := Lib.hid fun x hbx => (hKb.out.below hbx).cells.2
            have hdr : Hid (Below wr.heap.size wr wr.drew) := Lib.hid (Joins.below_draws wr.heap.size wr 1)
            have hnext : Hid ((L.take (j + 1)).map trim = (L.take j).map trim ++ [trim t1]) := Lib.hid (by rw [take_snoc ht1, List.map_append]; rfl)
            have hjl : Hid (((L.take j).map trim).length = j) := Lib.hid (by rw [List.length_map, List.length_take]; have := hm'.out; omega)
            clear ht1 htl hoL
            go_wp2_with fail
            have q0 := hq0.out _ hdr.out
            refine Pl.wp_region_plan 5 (.take 0 (.take 1 (.take 2 (.run 3 (.run 4 .done))))) (fun x => x.cell? ⟨p10, 1, none⟩ = some (.slice A2 j c2)) (by kernel_rfl) (by kernel_rfl) (by exact q0) ?_
            simp only [Pl.fill, List.getElem?_cons_zero, List.getElem?_cons_succ, List.drop_succ_cons, List.drop_zero]
            iterate 3
              refine Pl.take_go ?_ (by rfl) (fun _ _ _ h => h) ?_ ?_
              rotate_left
              · (intro x hSw; (try dsimp only at hSw); go_simp; try with_reducible rfl)
              try simp only [Act.put, List.setIfInBounds_toArray, List.set_cons_zero, List.set_cons_succ]
            refine Pl.run_go (fun K hK => ?_)
            go_simp
            refine (hct.out _).mono ?_
            rintro e w9 ⟨rfl, hb9⟩
            have hb9' := Lib.hid (hdr.out.trans (hb9.mono hdr.out.size))
            have hs9 := hb9'.out.size
            clear hb9 q0
            have q0 := hq0.out _ hb9'.out
            dsimp only
            refine hK.out _ _ (Pl.more_go _ (fun _ h => h) (by exact q0) ?_)
            clear hK K q0
            try simp only [Act.put, List.setIfInBounds_toArray, List.set_cons_zero, List.set_cons_succ]
            refine Pl.run_go (fun K hK => ?_)
            go_simp
            have hbA := below_alloc w9 (.cells #[.string (strOf (trim t1))] 9)
            have hlit := ts_lit w9 (strOf (trim t1)) (trim t1) 9 (0, 0) rfl
            obtain ⟨pA, hpA⟩ : ∃ pA, w9.heap.size = pA := ⟨_, rfl⟩
            obtain ⟨wA, hwA⟩ : ∃ wA, w9.alloc (.cells #[.string (strOf (trim t1))] 9) = wA := ⟨_, rfl⟩
            rw [hwA] at hbA hlit ⊢
            rw [hpA] at hlit ⊢
            have hbA' := Lib.hid (hb9'.out.trans (hbA.mono hs9))
            have hlit' := Lib.hid hlit
            have q0 := hq0.out _ hbA'.out
            refine hK.out _ _ (Pl.more_go _ (fun _ h => h) (by exact q0) ?_)
            clear hK K q0 hbA hlit hwA hpA
            try simp only [Act.put, List.setIfInBounds_toArray, List.set_cons_zero, List.set_cons_succ]
            refine Pl.done_go ?_
            have hsA := hbA'.out.size
            go_wp2_with (at_builtin; apply stop_here)
            refine Stop.go (append_ts _ 23 9 Tryz.underlying23 str_info rfl _ _ rfl B2 _ ((L.take j).map trim) rfl (hoK.out.below hbA'.out) _ 1 1 [trim t1] rfl hlit'.out (j + 1) (by rw [hjl.out]) (by omega) (by omega) ?_)
            intro A3 c3 wB h1 h2 h3
            rw [← hnext.out] at h1
            have hKB := Lib.hid ((show Kb wB p10 (some ⟨p5, 0, none⟩) n n A2 j c2 from (h3.block p10 hlt10).trans (hKb.out.below hbA'.out)))
            have hgB := Lib.hid (grown_low (grown_low hg.out (by rw [hB2'.out]; exact hbA'.out.mono hsr)) (by rw [hB2'.out]; exact h3))
            have h1' := Lib.hid h1
            obtain ⟨q0, q1⟩ := hKB.out.cells
            have f1 := hKB.out.frozen 1
            clear h1 h2 h3 hlit'
            go_wp2_with fail
            go_roundw
            case rel =>
              refine ⟨j + 1, A3, c3, by omega, by go_num, Lib.hid ?_, Lib.hid ?_, Lib.hid ?_⟩
              · exact setCell_kb hKB.out (i := 1) (.slice A3 (j + 1) c3)
              · exact h1'.out.grown (grown_set wB ⟨p10, 1, none⟩ _) (h1'.out.ne_kb hKB.out)
              · exact grown_trans hgB.out (grown_set wB ⟨p10, 1, none⟩ _)
            case measure => simp [intOf]; omega
          · have i1 : decide ((j : Int) < (n2 : Int)) = false := by rw [decide_eq_false_iff_not]; omega
            have i2 : decide (j < n2) = false := by rw [decide_eq_false_iff_not]; omega
            have hKL : (L.take j).map trim = K := by rw [hKe.out, List.take_of_length_le (by have := hm'.out; omega)]
            rw [hKL] at hoK
            clear hKL
            go_wp2_with fail
            go_meet
            refine ⟨rfl, A2, j, c2, hKb, Lib.hid (hoK.out.down (by have := hT'.out; have := hB2'.out; omega)), Lib.hid ((ho78.out.grown hg.out (ho78.out.ne_kb hn8.out)).down hp5T.out), Lib.hid ?_⟩
            exact hb8'.out.grown hg.out hs8 (fun k hk => by injection hk with hk; have := hp10T.out; omega)
    case rest =>
      obtain ⟨rfl, A2, m, c2, hKb, hoK, hoP, hbw⟩ := hcut
      have hSm : Smr 999999 (P, K) := by
        have hKs : K.length ≤ 900001 ∧ ∀ t ∈ K, t.length ≤ 900000 := by
          rw [← hK'.out]
          split
          · exact ⟨by simp, fun t ht => by cases ht⟩
          · refine ⟨?_, fun t ht => ?_⟩
            · rw [List.length_map]
              have := split_len 44 y2
              omega
            · obtain ⟨u, hu, rfl⟩ := List.mem_map.1 ht
              have := split_small 44 _ u hu
              have := trim_small u
              omega
        exact ⟨by simp only; omega, by have := hKs.1; simp only; omega, fun t ht => by have := hs47 t ht; omega, fun t ht => by have := hKs.2 t ht; omega⟩
      have hru : Hid (∀ x, Below wc.heap.size wc x → Calls Tryz.prog 39 #[.agg #[.slice (some ⟨p5, 0, none⟩) n n, .slice A2 m c2]] x fun e w' => e = .returned (.bool (ruleB nameR (P, K))) ∧ Below x.heap.size x w') := Lib.hid fun x hbx =>
        rule_any _ n n A2 m c2 (P, K) x (hoP.out.rd.below hbx) (hoK.out.rd.below hbx) (hU'.out.below (hbw.out.trans (hbx.mono hbw.out.size))) hSm
      obtain ⟨R, hRe⟩ : ∃ R, ruleB nameR (P, K) = R := ⟨_, rfl⟩
      rw [hRe] at hru
      have hfin : Hid ((lineR nameR t).isSome = R ∧ ∀ r, lineR nameR t = some r → r = (P, K)) := Lib.hid (by
        rw [hR.out]
        unfold ruleO
        rw [hRe]
        cases R with
        | false => exact ⟨rfl, fun r hr => by cases hr⟩
        | true => exact ⟨rfl, fun r hr => by rw [if_pos rfl] at hr; injection hr with hr; exact hr.symm⟩)
      have hq0 : Hid (∀ x, Below wc.heap.size wc x → x.cell? ⟨p10, 0, none⟩ = some (.slice (some ⟨p5, 0, none⟩) n n) ∧ x.cell? ⟨p10, 1, none⟩ = some (.slice A2 m c2)) := Lib.hid fun x hbx => (hKb.out.below hbx).cells
      have hdr : Hid (Below wc.heap.size wc wc.drew) := Lib.hid (Joins.below_draws wc.heap.size wc 1)
      have hsc := hbw.out.size
      clear hSm hRe emp
      go_wp2_with fail
      obtain ⟨q0, q1⟩ := hq0.out _ hdr.out
      refine Pl.wp_region_plan 3 (.take 0 (.take 1 (.run 2 .done))) (fun x => x.cell? ⟨p10, 0, none⟩ = some (.slice (some ⟨p5, 0, none⟩) n n) ∧ x.cell? ⟨p10, 1, none⟩ = some (.slice A2 m c2)) (by kernel_rfl) (by kernel_rfl) (by exact ⟨q0, q1⟩) ?_
      simp only [Pl.fill, List.getElem?_cons_zero, List.getElem?_cons_succ, List.drop_succ_cons, List.drop_zero]
      iterate 2
        refine Pl.take_go ?_ (by rfl) (fun _ _ _ h => h) ?_ ?_
        rotate_left
        · (intro x hSw; (try dsimp only at hSw); go_simp; try with_reducible rfl)
        try simp only [Act.put, List.setIfInBounds_toArray, List.set_cons_zero, List.set_cons_succ]
      refine Pl.run_go (fun K hK => ?_)
      go_simp
      refine (hru.out _ hdr.out).mono ?_
      rintro e wD ⟨rfl, hbD⟩
      have hbD' := Lib.hid (hdr.out.trans (hbD.mono hdr.out.size))
      clear hbD q0 q1
      obtain ⟨q0, q1⟩ := hq0.out _ hbD'.out
      dsimp only
      refine hK.out _ _ (Pl.more_go _ (fun _ h => h) (by exact ⟨q0, q1⟩) ?_)
      clear hK K q0 q1
      try simp only [Act.put, List.setIfInBounds_toArray, List.set_cons_zero, List.set_cons_succ]
      refine Pl.done_go ?_
      have hxD := Lib.hid (hbw.out.trans (hbD'.out.mono hsc))
      have hnT : Kb wD T none 0 0 none 0 0 := (hxD.out.block T (by omega)).trans hn0'.out
      obtain ⟨c0, c1⟩ := hnT.cells
      have f0 := hnT.frozen 0
      have f1 := hnT.frozen 1
      have hnT' := Lib.hid hnT
      clear hnT
      go_wp2_with fail
      refine bodyPost_ret (res_kb rfl (kb_set hnT'.out (some ⟨p5, 0, none⟩) n n A2 m c2) rfl rfl) rfl ?_
      refine ⟨some ⟨p5, 0, none⟩, n, n, A2, m, c2, by rw [hfin.out.1]; rfl, ?_, fun r hr => ?_⟩
      · have hle2 := hT'.out
        exact below_set (below_set (by rw [hle2]; exact hb0'.out.trans (hxD.out.mono (by omega))) (by omega) _) (by omega) _
      · rw [hfin.out.2 r hr]
        have key : ∀ (v : Value) (ts : List Tx), OwX wc w.heap.size 9 v ts → OwX ((wD.setCell ⟨T, 0, none⟩ (.slice (some ⟨p5, 0, none⟩) n n)).setCell ⟨T, 1, none⟩ (.slice A2 m c2)) w.heap.size 9 v ts := fun v ts ho => by
          have h1 := ho.below hbD'.out
          have h2 := h1.grown (grown_set wD ⟨T, 0, none⟩ (.slice (some ⟨p5, 0, none⟩) n n)) (h1.ne_kb hnT'.out)
          exact h2.grown (grown_set _ ⟨T, 1, none⟩ (.slice A2 m c2)) (h1.ne_kb hnT'.out)
        exact ⟨key _ _ hoP.out, key _ _ hoK.out⟩
  · have hnone : lineR nameR t = none := hno'.out (by
      cases ok with
      | false => exact .inl rfl
      | true => cases cl with
        | false => exact .inr (.inl rfl)
        | true => cases ro with
          | false => exact .inr (.inr rfl)
          | true => exact absurd ⟨rfl, rfl, rfl⟩ hall)
    have hnT : Kb w4 T none 0 0 none 0 0 := (hb3'.out.block T (by omega)).trans hn0'.out
    obtain ⟨c0, c1⟩ := hnT.cells
    have f0 := hnT.frozen 0
    have f1 := hnT.frozen 1
    have hnT' := Lib.hid hnT
    have hnone' := Lib.hid hnone
    have hall' := Lib.hid hall
    clear hnT hnone hall
    have hfin : Hid (LineP t w (.returned (.tuple #[.agg #[.slice none 0 0, .slice none 0 0], .bool false])) ((w4.setCell ⟨T, 0, none⟩ (.slice none 0 0)).setCell ⟨T, 1, none⟩ (.slice none 0 0))) := Lib.hid
      ⟨none, 0, 0, none, 0, 0, by rw [hnone'.out]; rfl, by
        have hle2 := hT'.out
        exact below_set (below_set (by rw [hle2]; exact hb0'.out.trans (hb3'.out.mono (by omega))) (by omega) _) (by omega) _, fun r hr => by rw [hnone'.out] at hr; cases hr⟩
    cases ok with
    | false =>
      go_wp2_with fail
      refine bodyPost_ret (res_kb rfl (kb_set hnT'.out none 0 0 none 0 0) rfl rfl) rfl ?_
      exact hfin.out
    | true => cases cl with
      | false =>
        go_wp2_with fail
        refine bodyPost_ret (res_kb rfl (kb_set hnT'.out none 0 0 none 0 0) rfl rfl) rfl ?_
        exact hfin.out
      | true => cases ro with
        | false =>
          go_wp2_with fail
          refine bodyPost_ret (res_kb rfl (kb_set hnT'.out none 0 0 none 0 0) rfl rfl) rfl ?_
          exact hfin.out
        | true => exact absurd ⟨rfl, rfl, rfl⟩ hall'.out
end Go.Proofs.YtjofkodncplhaaaGreatDoor.Ky
end
