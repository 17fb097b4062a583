/- The law SegLasts. -/
import Derived.Test.YtfdpnjebhllpkaaGreatDoorMMnClean
import Derived.Test.YtfdpnjebhllpkaaGreatDoorMDkNew
import Derived.Test.YtfdpnjebhllpkaaGreatDoorMSgGd
section
namespace Go.Proofs.YtfdpnjebhllpkaaGreatDoor.Sg
open Go.RowKit Ma Dk

def AppP (B a mb sb : Nat) (n : Int) (X : (Int × S) × D) (w : World) (e : Ending) (w' : World) : Prop :=
  ∃ er, e = .returned er ∧ Sc B a mb X.2 w w' ∧ w'.heap[sb]? = some (SegB a n X.1.2) ∧ ((X.1.1 = 0 ∧ er = .nilIface) ∨ (X.1.1 ≠ 0 ∧ ErrB w' X.1.1 n segT er))

theorem UnP.app {B a mb sb : Nat} {n : Int} {X : (Int × S) × D} {w w1 w' : World} {e : Ending} (h : UnP B a mb sb n X w1 e w') (hc : X.1.1 ≠ 0) {d : D} (hS : Sc B a mb d w w1) : AppP B a mb sb n X w e w' := by
  obtain ⟨v, h1, h2, h3, h4⟩ := h
  exact ⟨v, h1, hS.then_ h2, h3, .inr ⟨hc, h4⟩⟩
theorem wrapN (n : Nat) (h : n < 9223372036854775808) : IntKind.i64.wrap (n : Int) = (n : Int) := by
  have e : (n : Int) % 2 ^ 64 = n := Int.emod_eq_of_lt (by omega) (by omega)
  simp only [IntKind.wrap, IntKind.bits, IntKind.signed, e]
  rw [if_neg]
  simp
  omega
theorem put_bad {r : List UInt8} (h : bad r = true) : Fr.put r = [] := by
  unfold bad at h
  rw [decide_eq_true_eq] at h
  unfold Fr.put
  rw [if_pos h]
theorem any_bad {ls : List (List UInt8)} {k : Nat} {r : List UInt8} (hk : ls[k]? = some r) (h : bad r = true) : (ls.isEmpty || ls.any bad) = true := by
  rw [Bool.or_eq_true]
  exact .inr (List.any_eq_true.2 ⟨r, List.mem_of_getElem? hk, h⟩)
theorem all_good {ls : List (List UInt8)} (h : ∀ (i : Nat) r, ls[i]? = some r → bad r = false) (hn : 0 < ls.length) : ¬ (ls.isEmpty || ls.any bad) = true := by
  rw [Bool.or_eq_true, not_or]
  refine ⟨?_, ?_⟩
  · cases ls with
    | nil => simp at hn
    | cons _ _ => simp
  · rw [List.any_eq_true]
    rintro ⟨r, hr, hb⟩
    obtain ⟨i, hi⟩ := List.mem_iff_getElem?.1 hr
    rw [h i r hi] at hb
    cases hb
theorem puts_pos {ls : List (List UInt8)} (h : ∀ (i : Nat) r, ls[i]? = some r → bad r = false) (hn : 0 < ls.length) : 0 < (Fr.puts ls).length := by
  cases ls with
  | nil => simp at hn
  | cons r l =>
    rw [puts_cons, put_good (h 0 r rfl), List.length_append, Fr.frame_length]
    omega

set_option maxHeartbeats 2000000 in
set_option maxRecDepth 100000 in
theorem Append_any (w w0 : World) (B a mb sb N U : Nat) (d : D) (h : Sd B a mb d w0 w) (hG : Bd d N U) (hN : N ≤ 800) (hU : U ≤ 800000) (n : Int) (hok : okN n = true) (hE : Te B w) (s : S) (hsz : s.size ≤ 900000)
    (hsb : w.heap[sb]? = some (SegB a n s)) (hB : B ≤ sb) (A : Option Addr) (m c : Nat) (ls : List (List UInt8)) (hR : BsL w A m c ls) (hput : (Fr.puts ls).length ≤ 90000) :
    Calls Tryz.prog 28 #[.pointer (some ⟨sb, 0, none⟩), .slice A m c] w (AppP B a mb sb n (append d (nameOf seg4 n) s ls) w) := by
  obtain ⟨sz, sk⟩ := s
  simp only at hsz
  obtain ⟨X, hX⟩ : ∃ X, append d (nameOf seg4 n) ⟨sz, sk⟩ ls = X := ⟨_, rfl⟩
  rw [hX]
  unfold Sg.append at hX
  have hlt : sb < w.heap.size := (Array.getElem?_eq_some_iff.1 hsb).1
  have hle := Sd.le h
  have k3 : w.cell? ⟨sb, 3, none⟩ = some (.bool sk) := cell_blk hsb rfl
  have k1 : w.cell? ⟨sb, 1, none⟩ = some (.int .i64 n) := cell_blk hsb rfl
  have hmle := hR.le
  have hmmx := hR.max
  have hrl := Lib.hid hR.len
  have hsb' := Lib.hid hsb
  have h' := Lib.hid (Sc.of (Sd.refl_ h))
  have hE' := Lib.hid hE
  have hR' := Lib.hid hR
  have k2 : w.cell? ⟨sb, 2, none⟩ = some (.int .i64 (sz : Nat)) := cell_blk hsb rfl
  cases sk with
  | true =>
    rw [if_pos rfl] at hX
    subst hX
    have h51 : (51 : Int) ≠ 0 := by decide
    clear h hE hR hsb k2
    go_enter Tryz.func28, Tryz.ntmps28
    go_wp2_with fail
    refine (fail_any 51 n h51 w).mono ?_
    rintro e w4 ⟨v, rfl, hb4, he4⟩
    have hS4 := Lib.hid (Sc.bel h'.out hb4)
    have hB4 := Lib.hid ((hb4.block sb hlt).trans hsb'.out)
    have he4' := Lib.hid he4
    clear hb4 he4
    go_wp2_with fail
    go_ret
    exact ⟨_, rfl, hS4.out, hB4.out, .inr ⟨h51, he4'.out⟩⟩
  | false =>
    rw [if_neg (show ¬ (false = true) by decide)] at hX
    have hX' := Lib.hid hX
    clear h hE hR hsb hX
    go_enter Tryz.func28, Tryz.ntmps28
    go_wp2_with fail
    clear k1 k3 k2
    go_loopw [5, 23] (fun v i wr => ∃ (k : Nat) (A' : Option Addr) (c' m' : Nat), k ≤ m ∧ i = .int .i64 k ∧ v = .slice A' m' c' ∧ Hid (m' = (Fr.puts (ls.take k)).length) ∧ Hid (∀ (i : Nat) r, i < k → ls[i]? = some r → bad r = false) ∧
      Hid (OwB wr w.heap.size 5 (.slice A' m' c') (Fr.puts (ls.take k))) ∧ Hid (Below w.heap.size w wr)) (fun _ i _ => m - (intOf i).toNat)
    case atStart => exact ⟨0, none, 0, 0, by omega, rfl, rfl, Lib.hid rfl, Lib.hid (fun i r h => absurd h (by omega)), Lib.hid (OwB.nil _ _ _), Lib.hid (Below.refl _ _)⟩
    case round =>
      obtain ⟨k, A', c', m', hk, rfl, rfl, hm', hgd, hO, hbw⟩ := hrel
      have hBr : Hid (wr.heap[sb]? = some (SegB a n ⟨sz, false⟩)) := Lib.hid ((hbw.out.block sb hlt).trans hsb'.out)
      have hSr := Lib.hid (Sc.bel h'.out hbw.out)
      by_cases hlt2 : k < m
      · have i1 : decide ((k : Int) < (m : Int)) = true := by rw [decide_eq_true_eq]; omega
        have i2 : decide (k < m) = true := by rw [decide_eq_true_eq]; omega
        have i3 : (k : Int) < (m : Int) := by omega
        obtain ⟨b, off, A1, n1, c1, r, rfl, hb, hr, hc1, hbs⟩ := BsL.at_ (hR'.out.below hbw.out) hlt2
        have hput1 := FrW.put_any A1 n1 c1 r wr hbs
        have hr' := Lib.hid hr
        have hpt : Hid (Fr.puts (ls.take (k + 1)) = Fr.puts (ls.take k) ++ Fr.put r) := Lib.hid (Fr.puts_take hr)
        have hpl : (Fr.puts (ls.take k)).length + (Fr.put r).length ≤ 90000 := by
          have h1 := Fr.puts_take_le ls (k + 1)
          rw [hpt.out, List.length_append] at h1
          omega
        clear hr hbs
        cases hbad : bad r with
        | true =>
          have hX2 := hX'.out
          rw [if_pos (any_bad hr'.out hbad)] at hX2
          subst hX2
          rw [put_bad hbad] at hput1
          have h80 : (80 : Int) ≠ 0 := by decide
          clear hbad
          go_wp2_with fail
          refine hput1.mono ?_
          rintro e w3 ⟨A3, c3, rfl, _, hb3⟩
          have hS3 := Lib.hid (Sc.bel hSr.out hb3)
          have hltr : sb < wr.heap.size := (Array.getElem?_eq_some_iff.1 hBr.out).1
          have hB3 := (hb3.block sb hltr).trans hBr.out
          have k1 : w3.cell? ⟨sb, 1, none⟩ = some (.int .i64 n) := cell_blk hB3 rfl
          clear hb3 hput1
          go_wp2_with fail
          refine (fail_any 80 n h80 w3).mono ?_
          rintro e w4 ⟨v, rfl, hb4, he4⟩
          have hS4 := Lib.hid (Sc.bel hS3.out hb4)
          have hB4 := Lib.hid ((hb4.block sb (Array.getElem?_eq_some_iff.1 hB3).1).trans hB3)
          have he4' := Lib.hid he4
          clear hb4 he4
          go_wp2_with fail
          go_ret
          exact ⟨_, rfl, hS4.out, hB4.out, .inr ⟨h80, he4'.out⟩⟩
        | false =>
          have hpp : 0 < (Fr.put r).length := by rw [put_good hbad, Fr.frame_length]; omega
          have hgd2 : Hid (∀ (i : Nat) r, i < k + 1 → ls[i]? = some r → bad r = false) := Lib.hid fun i r2 hi hr2 => by
            rcases Nat.lt_or_ge i k with h9 | h9
            · exact hgd.out i r2 h9 hr2
            · obtain rfl : i = k := by omega
              rw [hr'.out] at hr2
              injection hr2 with hr2
              rw [← hr2]
              exact hbad
          obtain ⟨q, hq⟩ : ∃ q, (Fr.put r).length = q := ⟨_, rfl⟩
          rw [hq] at hput1 hpp hpl
          have hq' := Lib.hid hq
          have i4 : ((q : Int) == 0) = false := by rw [beq_eq_false_iff_ne]; omega
          have i5 : (q == 0) = false := by rw [beq_eq_false_iff_ne]; omega
          clear hbad hq
          go_wp2_with fail
          refine hput1.mono ?_
          rintro e w3 ⟨A3, c3, rfl, ho3, hb3⟩
          have hbw3 := Lib.hid (hbw.out.trans (hb3.mono hbw.out.size))
          have hO3 := Lib.hid (hO.out.below hb3)
          have hbs3 := Lib.hid ho3.bs
          clear ho3 hb3 hput1 hO
          go_wp2_with (at_builtin; apply stop_here)
          refine Stop.go (append_bytes _ 22 5 Tryz.underlying22 (by kernel_rfl) rfl _ _ rfl w.heap.size _ _ rfl hO3.out _ q c3 _ rfl hbs3.out (m' + q) (by rw [hm'.out]) (by have := hm'.out; omega) hbw3.out.size ?_)
          intro A6 c6 w6 h6 _ hb6
          rw [← hpt.out] at h6
          have h6' := Lib.hid h6
          have hx6 := Lib.hid (hbw3.out.trans hb6)
          clear h6 hb6 hO3 hbs3
          go_wp2_with fail
          go_roundw
          case rel => exact ⟨k + 1, A6, c6, m' + q, by omega, by go_num, rfl, Lib.hid (by rw [hpt.out, List.length_append, hm'.out, hq'.out]), hgd2, h6', hx6⟩
          case measure => simp [intOf]; omega
      · have i1 : decide ((k : Int) < (m : Int)) = false := by rw [decide_eq_false_iff_not]; omega
        obtain rfl : k = m := by omega
        have hall : ∀ (i : Nat) r, ls[i]? = some r → bad r = false := fun i r hr => hgd.out i r (by have := (List.getElem?_eq_some_iff.1 hr).1; have := hrl.out; omega) hr
        have htk : ls.take k = ls := List.take_of_length_le (by rw [hrl.out]; exact Nat.le_refl _)
        rw [htk] at hm' hO
        obtain ⟨s, hs1, hs2, hs3⟩ := seg_nm hok
        rw [← hs2] at hX'
        have hs2' := Lib.hid hs2
        by_cases hk0 : k = 0
        · have hX2 := hX'.out
          have hls : ls = [] := List.eq_nil_of_length_eq_zero (by rw [hrl.out]; exact hk0)
          rw [if_pos (by rw [hls]; rfl)] at hX2
          subst hX2
          have hm0 : m' = 0 := by rw [hm'.out, hls]; rfl
          subst hm0
          have h80 : (80 : Int) ≠ 0 := by decide
          have k1 : wr.cell? ⟨sb, 1, none⟩ = some (.int .i64 n) := cell_blk hBr.out rfl
          have hltr : sb < wr.heap.size := (Array.getElem?_eq_some_iff.1 hBr.out).1
          clear hls hk0 hs1 hs2 hall htk
          go_wp2_with fail
          refine (fail_any 80 n h80 wr).mono ?_
          rintro e w4 ⟨v, rfl, hb4, he4⟩
          have hS4 := Lib.hid (Sc.bel hSr.out hb4)
          have hB4 := Lib.hid ((hb4.block sb hltr).trans hBr.out)
          have he4' := Lib.hid he4
          clear hb4 he4
          go_wp2_with fail
          go_ret
          exact ⟨_, rfl, hS4.out, hB4.out, .inr ⟨h80, he4'.out⟩⟩
        · have hpos := puts_pos hall (by rw [hrl.out]; omega)
          have hX2 := hX'.out
          rw [if_neg (all_good hall (by rw [hrl.out]; omega))] at hX2
          have i4 : ((m' : Int) == 0) = false := by rw [beq_eq_false_iff_ne]; have := hm'.out; omega
          have i5 : (m' == 0) = false := by rw [beq_eq_false_iff_ne]; have := hm'.out; omega
          have hm9 : m' ≤ 90000 := by have := hm'.out; omega
          have k1 : wr.cell? ⟨sb, 1, none⟩ = some (.int .i64 n) := cell_blk hBr.out rfl
          have hltr : sb < wr.heap.size := (Array.getElem?_eq_some_iff.1 hBr.out).1
          have hnm := segName_any n wr (hE'.out.sz hbw.out).tens
          rw [show strOf (nameOf [115, 101, 103, 46] n) = s from hs1] at hnm
          have hX3 := Lib.hid hX2
          clear hX2 hk0 hs1 hs2 hall htk hpos hX'
          go_wp2_with fail
          refine hnm.mono ?_
          rintro e w3 ⟨rfl, hb3⟩
          have hS3 := Lib.hid (Sc.bel hSr.out hb3)
          have hB3 := (hb3.block sb hltr).trans hBr.out
          have hO3 := Lib.hid (hO.out.below hb3).bs
          have k0 : w3.cell? ⟨sb, 0, none⟩ = some (.pointer (some ⟨a, 0, none⟩)) := cell_blk hB3 rfl
          clear hb3 hnm k1
          go_wp2_with fail
          refine (append_op (Sc.sd hS3.out) hG (by omega) (by omega) s (by omega) A' m' c' _ hO3.out (by omega)).mono ?_
          rintro e w4 ⟨rfl, hst4⟩
          have hS4 := Lib.hid (Sc.op hS3.out hst4)
          have hB4 : w4.heap[sb]? = some (SegB a n ⟨sz, false⟩) := hst4.2.1 sb _ _ _ hB3 (by decide) (by decide)
          have hG4 := hG.op 2 s.data.toList [] 0 (Fr.puts ls)
          clear hst4 k0 hB3
          unfold appB at hX3
          obtain ⟨Y, hY⟩ : ∃ Y, Dk.op d 2 s.data.toList [] 0 (Fr.puts ls) = Y := ⟨_, rfl⟩
          rw [hY] at hX3 hS4 hG4 ⊢
          obtain ⟨c1, d1⟩ := Y
          simp only at hS4 hG4 hX3 ⊢
          clear hY
          by_cases hc1 : c1 = 0
          · subst hc1
            rw [if_pos rfl] at hX3
            have k0 : w4.cell? ⟨sb, 0, none⟩ = some (.pointer (some ⟨a, 0, none⟩)) := cell_blk hB4 rfl
            go_wp2_with fail
            refine (sync_op (Sc.sd hS4.out) hG4 (by omega) s (by omega)).mono ?_
            rintro e w5 ⟨rfl, hst5⟩
            have hS5 := Lib.hid (Sc.op hS4.out hst5)
            have hB5 : w5.heap[sb]? = some (SegB a n ⟨sz, false⟩) := hst5.2.1 sb _ _ _ hB4 (by decide) (by decide)
            have hG5 := hG4.op0 4 s.data.toList [] 0
            clear hst5 k0 hB4
            obtain ⟨Y, hY⟩ : ∃ Y, Dk.op d1 4 s.data.toList [] 0 [] = Y := ⟨_, rfl⟩
            rw [hY] at hX3 hS5 hG5 ⊢
            obtain ⟨c2, d2⟩ := Y
            simp only at hS5 hG5 hX3 ⊢
            clear hY
            unfold appC at hX3
            simp only at hX3
            by_cases hc2 : c2 = 0
            · subst hc2
              rw [if_neg (by simp)] at hX3
              have hX4 := hX3.out
              rw [← hm'.out] at hX4
              subst hX4
              have k2 : w5.cell? ⟨sb, 2, none⟩ = some (.int .i64 (sz : Nat)) := cell_blk hB5 rfl
              have f2 : w5.frozen? ⟨sb, 2, none⟩ = false := frozen_of_row w5 sb 2 _ _ hB5
              have hw9 : IntKind.i64.wrap ((sz : Int) + (m' : Int)) = ((sz + m' : Nat) : Int) := by rw [show (sz : Int) + (m' : Int) = ((sz + m' : Nat) : Int) by omega]; exact wrapN _ (by omega)
              have hB6 : (w5.setCell ⟨sb, 2, none⟩ (.int .i64 (sz + m' : Nat))).heap[sb]? = some (SegB a n ⟨sz + m', false⟩) := setCell_blk hB5 _
              have hS6 := Lib.hid (Sc.seg (i := 2) hS5.out hB5 hB (.int .i64 (sz + m' : Nat)))
              have hB6' := Lib.hid hB6
              clear hB6
              go_wp2_with fail
              go_ret
              exact ⟨.nilIface, rfl, by simpa using hS6.out, by simpa using hB6'.out, .inl ⟨rfl, rfl⟩⟩
            · rw [if_pos hc2] at hX3
              have hX4 := hX3.out
              have hne : (c2 != 0) = true := by simpa using hc2
              go_wp2_with fail
              refine (undo_any w5 w5 B a mb sb _ _ d2 (Sc.sd hS5.out) hG5 (by omega) (by omega) n hok (hE'.out.on hS5.out.1) sz (by omega) (hB5) hB c2 hc2).mono ?_
              rintro e w9 hun
              rw [← hs2'.out, hX4] at hun
              have hun' := Lib.hid (UnP.app hun (by rw [← hX4]; exact hc2) hS5.out)
              clear hun
              obtain ⟨er, rfl, hSf, hBf, hef⟩ := hun'.out
              clear hun'
              have hf := Lib.hid (⟨er, rfl, hSf, hBf, hef⟩ : AppP B a mb sb n X w (.returned er) w9)
              clear hSf hBf hef
              go_wp2_with fail
              go_ret
              exact hf.out
          · rw [if_neg hc1] at hX3
            unfold appC at hX3
            rw [if_pos hc1] at hX3
            have hX4 := hX3.out
            have hne : (c1 != 0) = true := by simpa using hc1
            go_wp2_with fail
            refine (undo_any w4 w4 B a mb sb _ _ d1 (Sc.sd hS4.out) hG4 (by omega) (by omega) n hok (hE'.out.on hS4.out.1) sz (by omega) (hB4) hB c1 hc1).mono ?_
            rintro e w9 hun
            rw [← hs2'.out, hX4] at hun
            have hun' := Lib.hid (UnP.app hun (by rw [← hX4]; exact hc1) hS4.out)
            clear hun
            obtain ⟨er, rfl, hSf, hBf, hef⟩ := hun'.out
            clear hun'
            have hf := Lib.hid (⟨er, rfl, hSf, hBf, hef⟩ : AppP B a mb sb n X w (.returned er) w9)
            clear hSf hBf hef
            go_wp2_with fail
            go_ret
            exact hf.out
end Go.Proofs.YtfdpnjebhllpkaaGreatDoor.Sg
end

section
namespace Go.Proofs.YtfdpnjebhllpkaaGreatDoor.Sg
open Go.RowKit Ma Dk

abbrev nm7 : Name := nameOf seg4 7
abbrev one : List UInt8 := [111, 110, 101]
def a1 : Int × D := create (new 1000) nm7 (head 7)
def a2 : (Int × S) × D := append a1.2 nm7 ⟨12, false⟩ [one]
theorem a1_ok : a1.1 = 0 := by decide +kernel
theorem a2_ok : a2.1.1 = 0 := by decide +kernel
theorem a3_ok : (open_ a2.2 nm7 (head 7)).1 = (0, [one], 23) := by decide +kernel
theorem bad_one : (Fr.puts [one]).length = 11 := by decide +kernel
theorem name7 : strOf (nameOf [115, 101, 103, 46] 7) = ⟨#[115, 101, 103, 46, 48, 48, 48, 48, 48, 48, 48, 55]⟩ := by decide +kernel

theorem rd_one (w : World) (v : Value) (E : TypeId) (fr : Nat × Nat) : Rd (w.alloc (.cells #[v] E fr)) (some ⟨w.heap.size, 0, none⟩) 1 1 [v] := by
  refine ⟨rfl, Nat.le_refl _, by omega, fun h => by simp at h, fun _ => ⟨_, _, rfl, by simp, fun j u hu => ?_⟩⟩
  have hh : (w.alloc (.cells #[v] E fr)).heap[w.heap.size]? = some (.cells #[v] E fr) := heap_alloc_new w _
  cases j with
  | zero =>
    simp at hu
    subst hu
    simp only [World.cell?, Nat.add_zero, hh]
    rfl
  | succ j => simp at hu
theorem bsl_one (w : World) (A : Option Addr) (n c : Nat) (l : List UInt8) (h : Bs w A n c l) (E : TypeId) (fr : Nat × Nat) : BsL (w.alloc (.cells #[.slice A n c] E fr)) (some ⟨w.heap.size, 0, none⟩) 1 1 [l] := by
  refine ⟨_, rd_one w _ E fr, rfl, fun j u hu => ?_⟩
  cases j with
  | zero =>
    simp at hu
    subst hu
    exact ⟨l, rfl, El.of_bs (h.below (below_alloc w _))⟩
  | succ j => simp at hu

set_option maxHeartbeats 1000000 in
set_option maxRecDepth 100000 in
theorem awake_any (w : World) (hE : Te w.heap.size w) :
    Calls Tryz.prog 11 #[] w fun e w' => e = .returned (.bool true) ∧ Below w.heap.size w w' := by
  have kc := fun (w : World) (C : Array Value) (n c : Nat) => Lib.run_convert_bytes_const (P := Tryz.prog) w 22 5 C n c Tryz.underlying22 Tryz.underlying5
  have hok : okN 7 = true := by decide
  have hE' := Lib.hid hE
  clear hE
  go_enter Tryz.func11, Tryz.ntmps11
  go_wp2_with fail
  refine (New_any w 1000).mono ?_
  rintro e w1 ⟨a, mb, rfl, hD1, hb1⟩
  have hx1 := Lib.hid hb1
  have hS1 : Hid (Sd w.heap.size a mb (new 1000) w1 w1) := Lib.hid (Sd.refl' (hD1.out w.heap.size (fun _ => ⟨[], 0⟩) (Nat.le_refl _)))
  clear hb1 hD1
  go_wp2_with fail
  refine (Create_any w1 w.heap.size a mb 0 0 (new 1000) hS1.out (Bd.new 1000 (by decide)) (by omega) (by omega) 7 hok (hE'.out.on hx1.out)).mono ?_
  rintro e w2 ⟨p, er, rfl, hst2, hres2⟩
  have hc1 : (create (new 1000) (nameOf seg4 7) (head 7)).1 = 0 := a1_ok
  rcases hres2 with ⟨_, rfl, sb, rfl, hsb, hB2⟩ | ⟨hne, _⟩
  case inr => exact absurd hc1 hne
  have hS2 : Hid (Sd w.heap.size a mb a1.2 w1 w2) := Lib.hid hst2
  have hB2' := Lib.hid hB2
  have hsb' : Hid (w.heap.size ≤ sb) := Lib.hid (Nat.le_trans hx1.out.size hsb)
  have hx2 := Lib.hid (hx1.out.trans hst2.1)
  clear hst2 hc1 hsb hB2 hS1
  have hn3 := Lib.hid (bs_lit w2 #[.int .u8 111, .int .u8 110, .int .u8 101] 5 (3, 4) one 3 rfl (by omega) rfl)
  have hba := Lib.hid (below_alloc w2 (.cells #[.int .u8 111, .int .u8 110, .int .u8 101] 5 (3, 4)))
  have hbl := Lib.hid (bsl_one (w2.alloc (.cells #[.int .u8 111, .int .u8 110, .int .u8 101] 5 (3, 4))) _ 3 3 one hn3.out 22 (0, 0))
  have hbb := Lib.hid (hba.out.trans ((below_alloc (w2.alloc (.cells #[.int .u8 111, .int .u8 110, .int .u8 101] 5 (3, 4))) (.cells #[.slice (some ⟨w2.heap.size, 0, none⟩) 3 3] 22)).mono (by simp)))
  go_wp2_with fail
  have hG2 : Bd a1.2 4 12 := by
    have := (Bd.new 1000 (by decide)).create nm7 (head 7)
    exact this.mono (by omega) (by rw [head_len hok]; omega)
  have hlt2 : sb < w2.heap.size := (Array.getElem?_eq_some_iff.1 hB2'.out).1
  refine (Append_any _ _ w.heap.size a mb sb 4 12 a1.2 (Sd.bel hS2.out hbb.out) hG2 (by omega) (by omega) 7 hok ((hE'.out.on hx2.out).on (hbb.out.mono hx2.out.size)) ⟨12, false⟩ (by simp) ((hbb.out.block sb hlt2).trans hB2'.out) hsb'.out _ 1 1 [one] (by simpa using hbl.out) (by rw [bad_one]; omega)).mono ?_
  rintro e w3 ⟨er, rfl, hst3, _, hr3⟩
  have hc2 : (append a1.2 (nameOf seg4 7) ⟨12, false⟩ [one]).1.1 = 0 := a2_ok
  rcases hr3 with ⟨_, rfl⟩ | ⟨hne, _⟩
  case inr => exact absurd hc2 hne
  have hS3 : Hid (Sc w.heap.size a mb a2.2 _ w3) := Lib.hid hst3
  have hx3 := Lib.hid ((hx2.out.trans (hbb.out.mono hx2.out.size)).trans hst3.1)
  have hG3 : Bd a2.2 10 100 := ((hG2.append nm7 ⟨12, false⟩ [one]).1).mono (by omega) (by rw [bad_one]; omega)
  clear hst3 hc2 hba hbl hbb hn3 hlt2 kc
  go_wp2_with fail
  refine (Open_any w3 w.heap.size a mb 10 100 a2.2 (Sc.sd hS3.out) hG3 (by omega) (by omega) 7 hok (hE'.out.on hx3.out)).mono ?_
  rintro e w4 ⟨p, v, er, rfl, ⟨hst4, hr4⟩, A4, c4, hv, ho4⟩
  have hc3 : (open_ a2.2 (nameOf seg4 7) (head 7)).1 = (0, [one], 23) := a3_ok
  rw [hc3] at hr4 hv ho4
  rcases hr4 with ⟨_, rfl, sb2, rfl, _, _⟩ | ⟨hne, _⟩
  case inr => exact absurd rfl hne
  obtain rfl : v = .slice A4 1 c4 := hv
  have hx4 := Lib.hid (hx3.out.trans hst4.1)
  have hbl4 := OwR.bsl ho4
  have hle4 := hbl4.le
  have hmx4 := hbl4.max
  obtain ⟨b5, off5, A5, n5, c5, l5, rfl, hb5, hl5, hc5, hbs5⟩ := hbl4.at_ (k := 0) (by decide)
  obtain rfl : l5 = one := (Option.some.inj hl5).symm
  have k5 : w4.cell? ⟨b5, off5, none⟩ = some (.slice A5 n5 c5) := hc5
  have kcv := hbs5.conv (P := Tryz.prog) (src := 22) (dst := 9) Tryz.underlying22 Tryz.underlying5 Tryz.underlying9
  have hone : strOf one = ⟨#[111, 110, 101]⟩ := rfl
  rw [hone] at kcv
  have hnm := segName_any 7 w4 (hE'.out.on hx4.out).tens
  rw [name7] at hnm
  clear hst4 hc3 ho4 hbl4 hl5 hc5 hbs5 hone
  go_wp2_with fail
  refine hnm.mono ?_
  rintro e w5 ⟨rfl, hb⟩
  have hx5 := Lib.hid (hx4.out.trans (hb.mono hx4.out.size))
  clear hb hnm
  go_wp2_with fail
  go_ret
  exact ⟨rfl, hx5.out⟩
end Go.Proofs.YtfdpnjebhllpkaaGreatDoor.Sg
end

section
namespace Go.Proofs.YtfdpnjebhllpkaaGreatDoor.Sg
open Go.RowKit Ma Dk

/-- A step, plainly. -/
structure Sx where
  kind : Int
  recs : List (List UInt8)
  tails : List Int
  list : List Tr
def SdEl (w : World) (vs : List Value) (x : Sx) : Prop := ∃ Ar nr cr At nt ct Al nl cl, vs = [.int .i64 x.kind, .slice Ar nr cr, .slice At nt ct, .slice Al nl cl] ∧
  BsL w Ar nr cr x.recs ∧ Rd w At nt ct (x.tails.map (Value.int .i64)) ∧ Sq TrEl 3 w Al nl cl x.list
theorem SdEl.below {w w' : World} (hb : Below w.heap.size w w') : ∀ vs x, SdEl w vs x → SdEl w' vs x := by
  rintro vs x ⟨Ar, nr, cr, At, nt, ct, Al, nl, cl, rfl, h3, h4, h5⟩
  exact ⟨Ar, nr, cr, At, nt, ct, Al, nl, cl, rfl, h3.below hb, h4.below hb, h5.below (fun _ _ h => h) hb⟩
/-- A step that is small enough. -/
structure Sm (x : Sx) : Prop where
  recs : x.recs.length ≤ 50
  bytes : (cat x.recs).length ≤ 2000
  tails : x.tails.length ≤ 100
  list : x.list.length ≤ 100
theorem Sm.puts {x : Sx} (h : Sm x) : (Fr.puts x.recs).length ≤ 2400 := by
  have h1 := Fr.puts_le x.recs
  have h2 := h.recs
  have h3 : x.recs.flatten.length ≤ 2000 := h.bytes
  omega

def SmP (l : List Sx) (w : World) (e : Ending) (w' : World) : Prop := ∃ b, e = .returned (.bool b) ∧ (b = true → ∀ (i : Nat) x, l[i]? = some x → i < 30 → Sm x) ∧ w = w'

set_option maxHeartbeats 1000000 in
set_option maxRecDepth 100000 in
theorem small_any (A : Option Addr) (n c : Nat) (l : List Sx) (w : World) (h : Sq SdEl 4 w A n c l) (hz : ∀ x ∈ l, ∀ r ∈ x.recs, r.length ≤ 140737488351232) :
    Calls Tryz.prog 23 #[.slice A n c] w (SmP l w) := by
  have hl := Lib.hid h.len
  have hle := h.le
  have hmx := h.max
  have h' := Lib.hid h
  have hz' := Lib.hid hz
  clear h hz
  go_enter Tryz.func23, Tryz.ntmps23
  go_wp2_with fail
  go_loop [3] (fun i => ∃ (k : Nat), k ≤ n ∧ k ≤ 30 ∧ i = .int .i64 k ∧ Hid (∀ (i : Nat) x, l[i]? = some x → i < k → Sm x)) (fun i => n - (intOf i).toNat)
  case atStart => exact ⟨0, by omega, by omega, rfl, Lib.hid fun i x _ h => absurd h (by omega)⟩
  case round =>
    obtain ⟨k, hk, hk60, rfl, hrel⟩ := hrel
    by_cases hlt : k < n
    · by_cases h60 : k < 30
      · have d0 : decide ((k : Int) < (30 : Int)) = true := by rw [decide_eq_true_eq]; omega
        have d1 : decide (k < 30) = true := by rw [decide_eq_true_eq]; omega
        obtain ⟨b, off, x, vs, rfl, hb, hf, hvs, hel, hcs⟩ := h'.out.at_ hlt
        obtain ⟨Ar, nr, cr, At, nt, ct, Al, nl, cl, rfl, hbs, hrd, hsq⟩ := hel
        have k1 : w.cell? ⟨b, off + k * 4 + 1, none⟩ = some (.slice Ar nr cr) := hcs 1 _ rfl
        have k2 : w.cell? ⟨b, off + k * 4 + 2, none⟩ = some (.slice At nt ct) := hcs 2 _ rfl
        have k3 : w.cell? ⟨b, off + k * 4 + 3, none⟩ = some (.slice Al nl cl) := hcs 3 _ rfl
        have l1 : Hid (x.recs.length = nr) := Lib.hid hbs.len
        have l2 : Hid (x.tails.length = nt) := Lib.hid (by have := Rd.len hrd; simpa using this)
        have l3 : Hid (x.list.length = nl) := Lib.hid hsq.len
        have hf' := Lib.hid hf
        have hTot : Hid (nr ≤ 50 → Calls Tryz.prog 68 #[.slice Ar nr cr] w fun e w' => e = .returned (.int .i64 ((cat x.recs).length : Nat)) ∧ w = w') := Lib.hid fun h9 =>
          FrW.total_any Ar nr cr x.recs w hbs (cat_small (hz'.out x (List.mem_of_getElem? hf)) (by rw [l1.out]; omega))
        clear hcs hvs hbs hrd hsq hf
        obtain ⟨tt, htt⟩ : ∃ tt, (cat x.recs).length = tt := ⟨_, rfl⟩
        rw [htt] at hTot
        have htt' := Lib.hid htt
        clear htt
        by_cases t0 : 50 < nr
        · have p0 : decide ((50 : Int) < (nr : Int)) = true := by rw [decide_eq_true_eq]; omega
          have r0 : decide (50 < nr) = true := by rw [decide_eq_true_eq]; omega
          go_wp2_with fail
          go_ret
          exact ⟨false, rfl, fun h => (by cases h), rfl⟩
        have p0 : decide ((50 : Int) < (nr : Int)) = false := by rw [decide_eq_false_iff_not]; omega
        have r0 : decide (50 < nr) = false := by rw [decide_eq_false_iff_not]; omega
        have h50 : nr ≤ 50 := by omega
        by_cases t1 : 2000 < tt
        · have p1 : decide ((2000 : Int) < (tt : Int)) = true := by rw [decide_eq_true_eq]; omega
          have r1 : decide (2000 < tt) = true := by rw [decide_eq_true_eq]; omega
          go_wp2_with fail
          refine (hTot.out h50).mono ?_
          rintro e w' ⟨rfl, rfl⟩
          go_wp2_with fail
          go_ret
          exact ⟨false, rfl, fun h => (by cases h), rfl⟩
        have p1 : decide ((2000 : Int) < (tt : Int)) = false := by rw [decide_eq_false_iff_not]; omega
        have r1 : decide (2000 < tt) = false := by rw [decide_eq_false_iff_not]; omega
        by_cases t2 : 100 < nt
        · have p2 : decide ((100 : Int) < (nt : Int)) = true := by rw [decide_eq_true_eq]; omega
          have r2 : decide (100 < nt) = true := by rw [decide_eq_true_eq]; omega
          go_wp2_with fail
          refine (hTot.out h50).mono ?_
          rintro e w' ⟨rfl, rfl⟩
          go_wp2_with fail
          go_ret
          exact ⟨false, rfl, fun h => (by cases h), rfl⟩
        have p2 : decide ((100 : Int) < (nt : Int)) = false := by rw [decide_eq_false_iff_not]; omega
        have r2 : decide (100 < nt) = false := by rw [decide_eq_false_iff_not]; omega
        by_cases t3 : 100 < nl
        · have p3 : decide ((100 : Int) < (nl : Int)) = true := by rw [decide_eq_true_eq]; omega
          have r3 : decide (100 < nl) = true := by rw [decide_eq_true_eq]; omega
          go_wp2_with fail
          refine (hTot.out h50).mono ?_
          rintro e w' ⟨rfl, rfl⟩
          go_wp2_with fail
          go_ret
          exact ⟨false, rfl, fun h => (by cases h), rfl⟩
        have p3 : decide ((100 : Int) < (nl : Int)) = false := by rw [decide_eq_false_iff_not]; omega
        have r3 : decide (100 < nl) = false := by rw [decide_eq_false_iff_not]; omega
        go_wp2_with fail
        refine (hTot.out h50).mono ?_
        rintro e w' ⟨rfl, rfl⟩
        go_wp2_with fail
        go_round
        case rel =>
          refine ⟨k + 1, by omega, by omega, by go_num, Lib.hid fun i y hi hik => ?_⟩
          by_cases e : i = k
          · subst e
            rw [hf'.out] at hi
            injection hi with hi
            subst hi
            exact ⟨by rw [l1.out]; omega, by rw [htt'.out]; omega, by rw [l2.out]; omega, by rw [l3.out]; omega⟩
          · exact hrel.out i y hi (by omega)
        case measure => simp [intOf]; omega
      · have d0 : decide ((k : Int) < (30 : Int)) = false := by rw [decide_eq_false_iff_not]; omega
        have d1 : decide (k < 30) = false := by rw [decide_eq_false_iff_not]; omega
        go_wp2_with fail
        go_ret
        exact ⟨true, rfl, fun _ i x hi h => hrel.out i x hi (by omega), rfl⟩
    · go_wp2_with fail
      go_ret
      exact ⟨true, rfl, fun _ i x hi h => hrel.out i x hi (by have := (List.getElem?_eq_some_iff.1 hi).1; have := hl.out; omega), rfl⟩

theorem Sick_any (w : World) (a sb : Nat) (n : Int) (s : S) (h : w.heap[sb]? = some (SegB a n s)) :
    Calls Tryz.prog 27 #[.pointer (some ⟨sb, 0, none⟩)] w fun e w' => e = .returned (.bool s.sick) ∧ w = w' := by
  have k : w.cell? ⟨sb, 3, none⟩ = some (.bool s.sick) := cell_blk h rfl
  clear h
  go_enter Tryz.func27, Tryz.ntmps27
  go_wp2_with fail
  go_ret
  exact ⟨rfl, rfl⟩

/-- A record among the arguments: its bytes lie below block T. -/
def KeEl (T : Nat) (w : World) (vs : List Value) (r : List UInt8) : Prop := ∃ A n c, vs = [.slice A n c] ∧ Bs w A n c r ∧ ∀ b, A = some b → 0 < n → b.block < T
theorem KeEl.one {T : Nat} (w : World) : ∀ (vs : List Value) (t : List UInt8), KeEl T w vs t → ∀ u ∈ vs, u.oneCell' = true := by
  rintro vs t ⟨A, n, c, rfl, _⟩ u hu
  rw [List.mem_singleton.1 hu]
  rfl
theorem KeEl.below {T : Nat} {w w' : World} (hb : Below T w w') (hT : T ≤ w.heap.size) : ∀ vs x, KeEl T w vs x → KeEl T w' vs x := by
  rintro vs x ⟨A, n, c, rfl, h, hlt⟩
  refine ⟨A, n, c, rfl, ⟨Rd.len h, Rd.le h, Rd.max h, Rd.nil h, fun hn => ?_⟩, hlt⟩
  obtain ⟨b, off, e, hlt2, hc⟩ := Rd.cell h hn
  have hbT := hlt _ e hn
  exact ⟨b, off, e, Nat.lt_of_lt_of_le hlt2 hb.size, fun j u hu => (hb.cell (p := ⟨b, off + j, none⟩) hbT).trans (hc j u hu)⟩
theorem BsL.ke {w : World} {A : Option Addr} {n c : Nat} {ls : List (List UInt8)} (h : BsL w A n c ls) : Sq (KeEl w.heap.size) 1 w A n c ls := by
  obtain ⟨xs, h1, h2, h3⟩ := h
  refine ⟨h2, h1.le, h1.max, h1.nil, fun hn => ?_⟩
  obtain ⟨b, off, e, hb, hc⟩ := h1.cell hn
  refine ⟨b, off, e, hb, fun i x hx => ?_⟩
  have hi : i < xs.length := by have := (List.getElem?_eq_some_iff.1 hx).1; have := h1.len; omega
  obtain ⟨r, hr, A1, n1, c1, hu, hbs, _⟩ := h3 i xs[i] (List.getElem?_eq_getElem hi)
  rw [hx] at hr
  injection hr with hr
  subst hr
  refine ⟨[xs[i]], rfl, ⟨A1, n1, c1, by rw [hu], hbs, fun b1 e1 hn1 => ?_⟩, fun j v hj => ?_⟩
  · obtain ⟨b2, off2, e2, hb2, _⟩ := Rd.cell hbs hn1
    rw [e1] at e2
    injection e2 with e2
    rw [e2]
    exact hb2
  · cases j with
    | succ j => simp at hj
    | zero =>
      simp at hj
      subst hj
      rw [Nat.mul_one, Nat.add_zero]
      exact hc i _ (List.getElem?_eq_getElem hi)
theorem Sq.bsl {T : Nat} {w : World} {A : Option Addr} {n c : Nat} {ls : List (List UInt8)} (h : Sq (KeEl T) 1 w A n c ls) : BsL w A n c ls := by
  obtain ⟨xs, hr, hc⟩ := h.cells
  have hl := hr.len
  refine ⟨xs, ⟨by rw [hl, h.len, Nat.mul_one], h.le, h.max, h.nil, fun hn => ?_⟩, h.len, fun j u hu => ?_⟩
  · obtain ⟨b, off, e, hb, hc⟩ := hc hn
    exact ⟨b, off, e, hb, hc (by decide)⟩
  · have hj : j < ls.length := by have := (List.getElem?_eq_some_iff.1 hu).1; omega
    obtain ⟨vs, hk, ⟨A1, n1, c1, rfl, hbs, _⟩, hc1⟩ := hr.at_ (List.getElem?_eq_getElem hj)
    have h0 := hc1 0 _ rfl
    rw [Nat.mul_one, Nat.add_zero, hu] at h0
    injection h0 with h0
    subst h0
    exact ⟨_, List.getElem?_eq_getElem hj, El.of_bs hbs⟩
theorem BsL.cut {w : World} {A : Option Addr} {n c : Nat} {ls : List (List UInt8)} (h : BsL w A n c ls) (lo hi : Nat) (h1 : lo ≤ hi) (h2 : hi ≤ n) (A' : Option Addr)
    (hA : ∀ b off, A = some ⟨b, off, none⟩ → lo < c → A' = some ⟨b, off + lo, none⟩) (hA0 : A = none → A' = none) (hA1 : A ≠ none → A' ≠ none) : BsL w A' (hi - lo) (c - lo) ((ls.drop lo).take (hi - lo)) := by
  obtain ⟨xs, k1, k2, k3⟩ := h
  have hl := k1.len
  refine ⟨_, k1.cut lo hi h1 h2 A' hA hA0 hA1, by rw [List.length_take, List.length_drop]; omega, fun j u hu => ?_⟩
  have hj : j < hi - lo := by have := (List.getElem?_eq_some_iff.1 hu).1; rw [List.length_take] at this; omega
  rw [List.getElem?_take_of_lt hj, List.getElem?_drop] at hu ⊢
  exact k3 _ u hu
theorem BsL.to {w : World} {A : Option Addr} {n c q : Nat} {ls : List (List UInt8)} (h : BsL w A n c ls) (hq : q ≤ n) : BsL w A q c (ls.take q) := by
  have := BsL.cut h 0 q (by omega) hq A (by intro b off e _; rw [e]; rfl) (fun e => e) (fun e => e)
  rw [Nat.sub_zero, Nat.sub_zero, List.drop_zero] at this
  exact this
theorem BsL.from_ {w : World} {A : Option Addr} {n c g : Nat} {ls : List (List UInt8)} (h : BsL w A n c ls) (hg : g ≤ n) :
    (c = g → BsL w A (n - g) 0 (ls.drop g)) ∧ (¬ c = g → BsL w (A.map fun x => x.add g) (n - g) (c - g) (ls.drop g)) := by
  have hl := h.len
  have hcut : ∀ A1, (∀ b off, A = some ⟨b, off, none⟩ → g < c → A1 = some ⟨b, off + g, none⟩) → (A = none → A1 = none) → (A ≠ none → A1 ≠ none) → BsL w A1 (n - g) (c - g) (ls.drop g) := fun A1 h1 h2 h3 => by
    have h := BsL.cut h g n hg (Nat.le_refl _) A1 h1 h2 h3
    rw [List.take_of_length_le (by rw [List.length_drop]; omega)] at h
    exact h
  refine ⟨fun hcg => ?_, fun hcg => ?_⟩
  · have h := hcut A (fun b off _ hlt => by omega) (fun h => h) (fun h => h)
    rw [show c - g = 0 from by omega] at h
    exact h
  · exact hcut _ (fun b off hA _ => by subst hA; simp only [Option.map_some, Addr.add]; split <;> simp_all) (fun h => by subst h; rfl) (fun h1 h2 => h1 (by simpa using h2))
end Go.Proofs.YtfdpnjebhllpkaaGreatDoor.Sg
end

section
namespace Go.Proofs.YtfdpnjebhllpkaaGreatDoor.Sg
open Go.RowKit Ma Dk

abbrev nm3 : Name := nameOf seg4 3
theorem Te.up {B B' : Nat} {w : World} (h : Te B w) (hB : B ≤ B') (hle : B' ≤ w.heap.size) : Te B' w := ⟨hle, fun w'' hb => h.tab w'' (hb.mono hB)⟩
def c3 : Int × D := create (new 1048576) nm3 (head 3)
theorem c3_ok : c3.1 = 0 := by decide +kernel
theorem c3_file : (get c3.2.fs nm3).map (fun f => (f.data, f.safe)) = some (head 3, 12) := by decide +kernel
theorem kp3 : Kp c3.2 nm3 (head 3) ⟨12, false⟩ [] [] := by
  have h := c3_file
  cases hg : get c3.2.fs nm3 with
  | none => rw [hg] at h; cases h
  | some f =>
    rw [hg] at h
    simp only [Option.map_some, Option.some.injEq, Prod.mk.injEq] at h
    have hl : (head 3).length = 12 := head_len (by decide)
    refine ⟨?_, fun r hr => (by cases hr), fun r hr => (by cases hr), ⟨f, 0, hg, ?_, ?_, ?_⟩, fun _ => rfl⟩
    · rw [List.length_append, hl]; rfl
    · rw [h.1]; simp [Fr.puts]
    · rw [h.2, List.length_append, hl]; exact Nat.le_refl _
    · rw [h.1, h.2, hl]; exact Nat.le_refl _

theorem arm_op {B a mb N U : Nat} {d : D} {w0 w : World} (h : Sc B a mb d w0 w) (_hG : Bd d N U) (A : Option Addr) (n c : Nat) (l : List Tr) (hq : Sq TrEl 3 w A n c l) (hn : n ≤ 1000000) :
    Calls Tryz.prog 26 #[.pointer (some ⟨a, 0, none⟩), .slice A n c] w fun e w' => e = .returned (.tuple #[]) ∧ Sd B a mb (arm d l) w w' := by
  obtain ⟨_, _, L, F, tv, hD⟩ := h
  exact Arm_any w B a mb L F tv d hD A n c l hq hn
theorem crash_op {B a mb N U : Nat} {d : D} {w0 w : World} (h : Sc B a mb d w0 w) (hG : Bd d N U) (hU : U ≤ 1000000) (A : Option Addr) (n c : Nat) (l : List Int) (hT : ∀ w', Below B w w' → Fm w w' → Rd w' A n c (l.map (Value.int .i64))) :
    Calls Tryz.prog 30 #[.pointer (some ⟨a, 0, none⟩), .slice A n c] w fun e w' => e = .returned (.tuple #[]) ∧ Sd B a mb (crash d l) w w' := by
  obtain ⟨_, _, L, F, tv, hD⟩ := h
  have hfl := (hG.mono (Nat.le_refl N) hU : Bd d N 1000000)
  exact Crash_any w B a mb L F tv d hD (by have := hD.len_eq; have := hG.inv.most; omega) (fun p hp => by
    have h1 := may_len (hG.inv.names p hp)
    have h2 := hG.fl hU p hp
    exact ⟨by omega, by omega, hG.inv.safe p hp⟩) A n c l hT

/-- Behind k steps: the disk, the segment, what is kept, what may be; the row kr of what is kept, and that of what may be, in memory. -/
structure Li (T B a mb sb : Nat) (W w2 wr : World) (k : Nat) (d : D) (s : S) (kept kr maybe : List (List UInt8)) (Ak : Option Addr) (nk ck : Nat) (Am : Option Addr) (nm cm : Nat) : Prop where
  b2 : Below B w2 wr
  da : ∃ L F tv, Da wr B a mb L F tv d
  blk : wr.heap[sb]? = some (SegB a 3 s)
  kp : Kp d nm3 (head 3) s kept maybe
  bd : Bd d (100 + 4 * k) (100 + 2400 * k)
  sz : s.size ≤ 100 + 2400 * k
  lk : nk = kr.length ∧ nk ≤ 50 * k
  row : OwS (KeEl T) 1 wr B 22 (.slice Ak nk ck) kr
  may : ∀ w', Below T W w' → BsL w' Am nm cm maybe
  bel : Below T W wr
  tb : T ≤ B
  tw : T ≤ W.heap.size
theorem below_own {α : Type} {El : World → List Value → α → Prop} {k B E T : Nat} {w w' : World} {v : Value} {l : List α} (h : OwS El k w B E v l) (hg : w.grownBy w' v.ownBlock) (hT : T ≤ B) (hB : B ≤ w.heap.size) : Below T w w' := by
  cases hv : v.ownBlock with
  | none =>
    rw [hv] at hg
    exact ⟨hg.os, hg.tape, hg.output, hg.size, fun k hk => hg.block k (Nat.lt_of_lt_of_le hk (Nat.le_trans hT hB)) (by simp)⟩
  | some g =>
    rw [hv] at hg
    exact below_row hg (Nat.le_trans hT (h.lt g hv).1) (Nat.le_trans hT hB)
theorem keep_row {T B : Nat} {w w' : World} {v : Value} {l : List (List UInt8)} (h : OwS (KeEl T) 1 w B 22 v l) (hk : Kc w w') (hb : Below T w w') (hT : T ≤ w.heap.size) : OwS (KeEl T) 1 w' B 22 v l := by
  obtain ⟨xs, h3, h4⟩ := h
  exact ⟨xs, hk.row h3 (by decide) (by decide) (by decide), h4.mono (KeEl.below hb hT)⟩
theorem ows_own {α : Type} {El : World → List Value → α → Prop} {k : Nat} {w : World} {B E : Nat} {v : Value} {l : List α} (h : OwS El k w B E v l) {g : Nat} (hg : v.ownBlock = some g) : ∃ cs fr, w.heap[g]? = some (.cells cs E fr) := by
  obtain ⟨xs, ⟨_, h1⟩, _⟩ := h
  rcases h1 with ⟨rfl, _⟩ | ⟨g', cap, cur, rfl, _, hh, _⟩
  · cases hg
  · injection hg with hg
    subst hg
    exact ⟨_, _, hh⟩
theorem Da.row {w w' : World} {B a mb : Nat} {L : Al Nat} {F : Nat → Fl} {tv : Value} {d : D} (h : Da w B a mb L F tv d) {v : Value} {l : List (List UInt8)} {T : Nat} (ho : OwS (KeEl T) 1 w B 22 v l) (hg : w.grownBy w' v.ownBlock) : Da w' B a mb L F tv d := by
  refine h.kept hg (fun e => ?_) (fun e => ?_) (fun p hp e => ?_) (ows_noE ho (by decide)) (ows_noE ho (by decide))
  · obtain ⟨cs, fr, hh⟩ := ows_own ho e.symm
    rw [h.blk] at hh
    injection hh with hh
    injection hh with _ e2 _
    exact absurd e2 (by decide)
  · obtain ⟨cs, fr, hh⟩ := ows_own ho e.symm
    obtain ⟨es, cl, hm⟩ := h.mblk
    rw [hm] at hh
    cases hh
  · obtain ⟨cs, fr, hh⟩ := ows_own ho e.symm
    obtain ⟨_, v2, h2, _⟩ := h.files p hp
    rw [h2] at hh
    injection hh with hh
    injection hh with _ e2 _
    exact absurd e2 (by decide)
section
variable {T B a mb sb k : Nat} {W w2 wr w' : World} {d d' : D} {s s' : S} {kept kept' kr maybe maybe' : List (List UInt8)} {Ak Am Am' : Option Addr} {nk ck nm cm nm' cm' : Nat}
theorem Li.sd (h : Li T B a mb sb W w2 wr k d s kept kr maybe Ak nk ck Am nm cm) : Sd B a mb d wr wr := ⟨Below.refl _ _, Fm.refl _, h.da⟩
theorem Li.sc (h : Li T B a mb sb W w2 wr k d s kept kr maybe Ak nk ck Am nm cm) : Sc B a mb d wr wr := ⟨Below.refl _ _, Kc.refl _, h.da⟩
theorem Li.next (h : Li T B a mb sb W w2 wr k d s kept kr maybe Ak nk ck Am nm cm) : Li T B a mb sb W w2 wr (k + 1) d s kept kr maybe Ak nk ck Am nm cm :=
  ⟨h.b2, h.da, h.blk, h.kp, h.bd.mono (by omega) (by omega), by have := h.sz; omega, ⟨h.lk.1, by have := h.lk.2; omega⟩, h.row, h.may, h.bel, h.tb, h.tw⟩
theorem Li.sc_ (h : Li T B a mb sb W w2 wr k d s kept kr maybe Ak nk ck Am nm cm) (hst : Sc B a mb d' wr w') (hB : w'.heap[sb]? = some (SegB a 3 s')) (hkp : Kp d' nm3 (head 3) s' kept' maybe') (hmay : ∀ w', Below T W w' → BsL w' Am' nm' cm' maybe') {k' : Nat} (hbd : Bd d' (100 + 4 * k') (100 + 2400 * k')) (hsz : s'.size ≤ 100 + 2400 * k') (hk : k ≤ k') :
    Li T B a mb sb W w2 w' k' d' s' kept' kr maybe' Ak nk ck Am' nm' cm' :=
  ⟨h.b2.trans hst.1, hst.2.2, hB, hkp, hbd, hsz, ⟨h.lk.1, by have := h.lk.2; omega⟩, keep_row h.row hst.2.1 (hst.1.mono h.tb) (Nat.le_trans h.tw h.bel.size), hmay, h.bel.trans (hst.1.mono h.tb), h.tb, h.tw⟩
theorem Li.bel_ (h : Li T B a mb sb W w2 wr k d s kept kr maybe Ak nk ck Am nm cm) (hb : Below wr.heap.size wr w') : Li T B a mb sb W w2 w' k d s kept kr maybe Ak nk ck Am nm cm :=
  h.sc_ (Sc.bel h.sc hb) ((hb.block sb (Array.getElem?_eq_some_iff.1 h.blk).1).trans h.blk) h.kp h.may h.bd h.sz (Nat.le_refl _)
theorem Li.op_ (h : Li T B a mb sb W w2 wr k d s kept kr maybe Ak nk ck Am nm cm) (hst : Sd B a mb d' wr w') (hkp : Kp d' nm3 (head 3) s kept maybe) {k' : Nat} (hbd : Bd d' (100 + 4 * k') (100 + 2400 * k')) (hk : k ≤ k') :
    Li T B a mb sb W w2 w' k' d' s kept kr maybe Ak nk ck Am nm cm :=
  h.sc_ (Sc.of hst) (hst.2.1 sb _ _ _ h.blk (by decide) (by decide)) hkp h.may hbd (by have := h.sz; omega) hk
/-- The row of what is kept has grown. -/
theorem Li.grow (h : Li T B a mb sb W w2 wr k d s kept kr maybe Ak nk ck Am nm cm) {Ak' : Option Addr} {nk' ck' : Nat} {kr' : List (List UInt8)} (ho : OwS (KeEl T) 1 w' B 22 (.slice Ak' nk' ck') kr') (hg : wr.grownBy w' (Value.slice Ak nk ck).ownBlock) (hb : Below B wr w') (hl : nk' = kr'.length ∧ nk' ≤ 50 * k) :
    Li T B a mb sb W w2 w' k d s kept kr' maybe Ak' nk' ck' Am nm cm := by
  obtain ⟨L, F, tv, hD⟩ := h.da
  refine ⟨h.b2.trans hb, ⟨L, F, tv, Da.row hD h.row hg⟩, ?_, h.kp, h.bd, h.sz, hl, ho, h.may, h.bel.trans (hb.mono h.tb), h.tb, h.tw⟩
  refine (hg.block sb (Array.getElem?_eq_some_iff.1 h.blk).1 (fun e => ?_)).trans h.blk
  obtain ⟨cs, fr, hh⟩ := ows_own h.row e.symm
  rw [h.blk] at hh
  injection hh with hh
  injection hh with _ e2 _
  exact absurd e2 (by decide)
end

set_option maxHeartbeats 4000000 in
set_option maxRecDepth 100000 in
theorem lasts_law (A : Option Addr) (n c : Nat) (l : List Sx) (At : Option Addr) (nt ct : Nat) (tails : List Int) (W : World) (hE : Er.En W.heap.size W) (hS : Sq SdEl 4 W A n c l) (hz : ∀ x ∈ l, ∀ r ∈ x.recs, r.length ≤ 140737488351232)
    (ht : Rd W At nt ct (tails.map (Value.int .i64))) :
    Calls Tryz.prog 5 #[.slice A n c, .slice At nt ct] W fun e w' => e = .returned (.bool true) ∧ Below W.heap.size W w' := by
  have hle := hS.le
  have hmx := hS.max
  have htle := ht.le
  have htmx := ht.max
  have hS' := Lib.hid hS
  have ht' := Lib.hid ht
  have hz' := Lib.hid hz
  have hE' := Lib.hid hE
  obtain ⟨T, hT⟩ : ∃ T, W.heap.size = T := ⟨_, rfl⟩
  have hT' := Lib.hid hT
  have hok : okN 3 = true := by decide
  clear hS ht hz hE hT
  go_enter Tryz.func5, Tryz.ntmps5
  go_wp2_with fail
  refine (awake_any W (Te.of hE'.out)).mono ?_
  rintro e w1 ⟨rfl, hb1⟩
  have hx1 := Lib.hid hb1
  clear hb1
  go_wp2_with fail
  refine (small_any A n c l w1 (hS'.out.below (SdEl.below hx1.out) hx1.out) hz'.out).mono ?_
  rintro e w1' ⟨b, rfl, hsm, rfl⟩
  have hsm' := Lib.hid hsm
  clear hsm
  cases b with
  | false =>
    go_wp2_with fail
    go_ret
    exact ⟨rfl, hx1.out⟩
  | true =>
    have hSm := Lib.hid (hsm'.out rfl)
    clear hsm'
    by_cases hbig : 100 < nt
    · have i1 : decide ((100 : Int) < (nt : Int)) = true := by rw [decide_eq_true_eq]; omega
      have i2 : decide (100 < nt) = true := by rw [decide_eq_true_eq]; omega
      go_wp2_with fail
      go_ret
      exact ⟨rfl, hx1.out⟩
    · have i1 : decide ((100 : Int) < (nt : Int)) = false := by rw [decide_eq_false_iff_not]; omega
      have i2 : decide (100 < nt) = false := by rw [decide_eq_false_iff_not]; omega
      go_wp2_with fail
      refine (New_any w1 1048576).mono ?_
      rintro e w2 ⟨a, mb, rfl, hD2, hb2⟩
      obtain ⟨B, hB⟩ : ∃ B, w1.heap.size = B := ⟨_, rfl⟩
      have hTB : T ≤ B := by have := hx1.out.size; have := hT'.out; omega
      have hS2 : Hid (Sd B a mb (new 1048576) w2 w2) := Lib.hid (Sd.refl' (hD2.out B (fun _ => ⟨[], 0⟩) (by omega)))
      have hx2 : Hid (Below T W w2) := Lib.hid (by rw [← hT'.out]; exact hx1.out.trans (hb2.mono hx1.out.size))
      have hTe : Hid (∀ w', Below B w2 w' → Te B w') := Lib.hid fun w' hb => by
        have h1 : Te W.heap.size w2 := (Te.of hE'.out).on (by rw [hT'.out]; exact hx2.out)
        exact (h1.up (by rw [hT'.out]; exact hTB) (Sd.le hS2.out)).on hb
      clear hb2 hD2 hB
      go_wp2_with fail
      refine (Create_any w2 B a mb 0 0 (new 1048576) hS2.out (Bd.new 1048576 (by decide)) (by omega) (by omega) 3 hok (hTe.out _ (Below.refl _ _))).mono ?_
      rintro e w3 ⟨p, er, rfl, hst3, hres3⟩
      have hc1 : (create (new 1048576) (nameOf seg4 3) (head 3)).1 = 0 := c3_ok
      rcases hres3 with ⟨_, rfl, sb, rfl, hsb, hB3⟩ | ⟨hne, _⟩
      case inr => exact absurd hc1 hne
      have hS3 : Hid (Sc B a mb c3.2 w2 w3) := Lib.hid (Sc.of hst3)
      have hB3' := Lib.hid hB3
      have hsb' : Hid (B ≤ sb) := Lib.hid (Nat.le_trans (Sd.le hS2.out) hsb)
      have hx3 : Hid (Below T W w3) := Lib.hid (hx2.out.trans (hst3.1.mono hTB))
      have hG3 : Hid (Bd c3.2 100 100) := Lib.hid (by
        have := (Bd.new 1048576 (by decide)).create nm3 (head 3)
        exact this.mono (by omega) (by rw [head_len hok]; omega))
      clear hst3 hc1 hsb hB3
      go_wp2_with fail
      go_loopw [8, 9, 10] (fun kv mv i wr => ∃ (k : Nat) (d : D) (s : S) (kept maybe : List (List UInt8)) (Ak : Option Addr) (nk ck : Nat) (Am : Option Addr) (nm cm : Nat), k ≤ n ∧ k ≤ 30 ∧ i = .int .i64 k ∧ kv = .slice Ak nk ck ∧ mv = .slice Am nm cm ∧
        Hid (Li T B a mb sb W w2 wr k d s kept kept maybe Ak nk ck Am nm cm)) (fun _ _ i _ => n - (intOf i).toNat)
      case atStart => exact ⟨0, c3.2, ⟨12, false⟩, [], [], none, 0, 0, none, 0, 0, by omega, by omega, rfl, rfl, rfl, Lib.hid ⟨hS3.out.1, hS3.out.2.2, hB3'.out, kp3, hG3.out, by simp, ⟨rfl, by omega⟩, OwS.nil _ _ _, fun w' _ => BsL.nil w', hx3.out, hTB, by rw [hT'.out]; exact Nat.le_refl _⟩⟩
      case round =>
        obtain ⟨k, d, s, kept, maybe, Ak, nk, ck, Am, nm, cm, hk, hk30, rfl, rfl, rfl, hLi⟩ := hrel
        by_cases hend : k < n ∧ k < 30
        · obtain ⟨hlt, h30⟩ := hend
          have i1 : decide ((k : Int) < (n : Int)) = true := by rw [decide_eq_true_eq]; omega
          have i2 : decide (k < n) = true := by rw [decide_eq_true_eq]; omega
          have i3 : (k : Int) < (n : Int) := by omega
          have g1 : decide ((k : Int) < (30 : Int)) = true := by rw [decide_eq_true_eq]; omega
          have g2 : decide (k < 30) = true := by rw [decide_eq_true_eq]; omega
          obtain ⟨pb, off, x, vs, rfl, hpb, hf, hvs, hel, hcs⟩ := hS'.out.at_ hlt
          have hxm := Lib.hid (hSm.out k x hf h30)
          obtain ⟨Ar, nr, cr, At2, nt2, ct2, Al, nl, cl, rfl, hbs, hrd, hsq⟩ := hel
          have hpb' : pb < W.heap.size := hpb
          have hxW : Hid (Below W.heap.size W wr) := Lib.hid (by have := hLi.out.bel; rw [← hT'.out] at this; exact this)
          have m0 : wr.cell? ⟨pb, off + k * 4, none⟩ = some (.int .i64 x.kind) := (hxW.out.cell (p := ⟨pb, off + k * 4, none⟩) hpb').trans (hcs 0 _ rfl)
          have m1 : wr.cell? ⟨pb, off + k * 4 + 1, none⟩ = some (.slice Ar nr cr) := (hxW.out.cell (p := ⟨pb, off + k * 4 + 1, none⟩) hpb').trans (hcs 1 _ rfl)
          have m2 : wr.cell? ⟨pb, off + k * 4 + 2, none⟩ = some (.slice At2 nt2 ct2) := (hxW.out.cell (p := ⟨pb, off + k * 4 + 2, none⟩) hpb').trans (hcs 2 _ rfl)
          have m3 : wr.cell? ⟨pb, off + k * 4 + 3, none⟩ = some (.slice Al nl cl) := (hxW.out.cell (p := ⟨pb, off + k * 4 + 3, none⟩) hpb').trans (hcs 3 _ rfl)
          have hrecs : Hid (∀ w', Below T W w' → BsL w' Ar nr cr x.recs) := Lib.hid fun w' hb => hbs.below (by rw [hT'.out]; exact hb)
          have hke : Hid (Sq (KeEl T) 1 W Ar nr cr x.recs) := Lib.hid (by have := BsL.ke hbs; rw [hT'.out] at this; exact this)
          have hlist : Hid (∀ w', Below T W w' → Sq TrEl 3 w' Al nl cl x.list) := Lib.hid fun w' hb => hsq.below (fun _ _ h => h) (by rw [hT'.out]; exact hb)
          have hnr : Hid (x.recs.length = nr) := Lib.hid hbs.len
          have hnl : nl ≤ 1000000 := by have := hsq.len; have := hxm.out.list; omega
          have hba := Lib.hid (below_alloc wr (.cells #[.int .i64 x.kind, .slice Ar nr cr, .slice At2 nt2 ct2, .slice Al nl cl] 48))
          clear hcs hvs hbs hrd hsq hf hpb
          have hnew := Lib.hid (heap_alloc_new wr (.cells #[.int .i64 x.kind, .slice Ar nr cr, .slice At2 nt2 ct2, .slice Al nl cl] 48))
          obtain ⟨kd, hkd⟩ : ∃ kd, x.kind = kd := ⟨_, rfl⟩
          rw [hkd] at m0 hba hnew
          clear hkd
          by_cases hk1 : kd = 1
          · subst hk1
            go_wp2_with fail
            have hLa := Lib.hid (hLi.out.bel_ hba.out)
            generalize hwv : wr.alloc (.cells #[.int .i64 1, .slice Ar nr cr, .slice At2 nt2 ct2, .slice Al nl cl] 48) = wv at hba hnew hLa ⊢
            clear hwv
            refine (arm_op hLa.out.sc hLa.out.bd Al nl cl x.list (hlist.out _ hLa.out.bel) hnl).mono ?_
            rintro e w5 ⟨rfl, hst5⟩
            have hL5 := Lib.hid (hLa.out.op_ (k' := k + 1) hst5 (hLa.out.kp.tr 0 d.down x.list) ((hLa.out.bd.arm x.list (by have := hxm.out.list; omega)).mono (by omega) (by omega)) (by omega))
            have n5 : w5.cell? ⟨wr.heap.size, 0, none⟩ = some (.int .i64 1) := cell_blk (hst5.2.1 _ _ _ _ hnew.out (by decide) (by decide)) rfl
            clear hst5 hba hnew hLa
            go_wp2_with fail
            go_roundw
            case rel => exact ⟨k + 1, _, s, kept, maybe, Ak, nk, ck, Am, nm, cm, by omega, by omega, by go_num, rfl, rfl, hL5⟩
            case measure => simp [intOf]; omega
          · by_cases hk0 : kd = 0
            · subst hk0
              clear hk1
              go_wp2_with fail
              have hLa := Lib.hid (hLi.out.bel_ hba.out)
              generalize hwv : wr.alloc (.cells #[.int .i64 0, .slice Ar nr cr, .slice At2 nt2 ct2, .slice Al nl cl] 48) = wv at hba hnew hLa ⊢
              clear hwv
              obtain ⟨sz, sk⟩ := s
              refine (Sick_any wv a sb 3 _ hLa.out.blk).mono ?_
              rintro e w5 ⟨rfl, rfl⟩
              cases sk with
              | true =>
                go_wp2_with fail
                go_roundw
                case rel => exact ⟨k + 1, d, ⟨sz, true⟩, kept, maybe, Ak, nk, ck, Am, nm, cm, by omega, by omega, by go_num, rfl, rfl, Lib.hid hLa.out.next⟩
                case measure => simp [intOf]; omega
              | false =>
                have n1 : wv.cell? ⟨wr.heap.size, 1, none⟩ = some (.slice Ar nr cr) := cell_blk hnew.out rfl
                go_wp2_with fail
                refine (Append_any wv wv B a mb sb _ _ d hLa.out.sd hLa.out.bd (by omega) (by omega) 3 hok (hTe.out _ hLa.out.b2) ⟨sz, false⟩ (by have := hLa.out.sz; simp only at this ⊢; omega) hLa.out.blk hsb'.out Ar nr cr x.recs (hrecs.out _ hLa.out.bel) (by have := hxm.out.puts; omega)).mono ?_
                rintro e w5 ⟨er, rfl, hst5, hB5, hr5⟩
                obtain ⟨q1, q2, q3⟩ := hLa.out.kp.append rfl x.recs
                obtain ⟨p1, p2⟩ := hLa.out.bd.append nm3 ⟨sz, false⟩ x.recs
                obtain ⟨X, hX⟩ : ∃ X, append d nm3 ⟨sz, false⟩ x.recs = X := ⟨_, rfl⟩
                rw [hX] at q1 q2 q3 p1 p2 hst5 hB5 hr5
                obtain ⟨⟨cc, sz5, sk5⟩, d5⟩ := X
                simp only at q1 q2 q3 p1 p2 hst5 hB5 hr5
                have hpb := hxm.out.puts
                have hbd5 : Bd d5 (100 + 4 * (k + 1)) (100 + 2400 * (k + 1)) := p1.mono (by omega) (by omega)
                have hsz5 : sz5 ≤ 100 + 2400 * (k + 1) := by have := hLa.out.sz; simp only at this; omega
                have hn5 := hst5.2.1 _ _ _ _ hnew.out (by decide) (by decide) (by decide)
                have hn5' := Lib.hid hn5
                have hlk0 := Lib.hid hLi.out.lk
                rcases hr5 with ⟨hc0, rfl⟩ | ⟨hcn, herr⟩
                · have hL5 := Lib.hid (hLa.out.sc_ (s' := ⟨sz5, sk5⟩) (k' := k + 1) hst5 hB5 (q1 hc0) hLa.out.may hbd5 hsz5 (by omega))
                  clear q1 q2 q3 p1 p2 hst5 hB5 hpb hbd5 hsz5 hn5 hc0 hX hnew hLa hba n1
                  go_wp2_with fail
                  refine (Er.Code_ok w5).mono ?_
                  rintro e w6 ⟨rfl, hb6⟩
                  have hL6 := Lib.hid (hL5.out.bel_ hb6)
                  have hlt6 : wr.heap.size < w5.heap.size := (Array.getElem?_eq_some_iff.1 hn5'.out).1
                  have hn6 := (hb6.block _ hlt6).trans hn5'.out
                  have n6 : w6.cell? ⟨wr.heap.size, 1, none⟩ = some (.slice Ar nr cr) := cell_blk hn6 rfl
                  have hke6 := Lib.hid (Sq.below hke.out (KeEl.below hL6.out.bel hL6.out.tw) (by rw [hT'.out]; exact hL6.out.bel))
                  clear hb6 hn6 hlt6
                  go_wp2_with (at_builtin; apply stop_here)
                  refine Stop.go (append_sq (El := KeEl T) (k := 1) _ 24 22 (.slice none 0 0) 24 Tryz.underlying24 (by kernel_rfl) rfl (by omega) rfl _ _ rfl B _ kept rfl hL6.out.row _ nr cr x.recs rfl hke6.out (KeEl.one _) (fun w' hg => KeEl.below (below_own hL6.out.row hg hL6.out.tb (Sd.le hL6.out.sd)) (Nat.le_trans hL6.out.tw hL6.out.bel.size)) (nk + nr) (by have := hL6.out.lk.1; omega) ?h4 ?h5 (Sd.le hL6.out.sd) ?_)
                  case h4 => have := hL6.out.lk.2; have := hxm.out.recs; have := hnr.out; omega
                  case h5 => have := hL6.out.lk.2; have := hxm.out.recs; have := hnr.out; omega
                  intro A7 c7 w7 ho7 hg7 hb7 _
                  have hL7 := Lib.hid (hL6.out.grow ho7 hg7 hb7 ⟨by rw [List.length_append, hnr.out]; have := hL6.out.lk.1; omega, by have := hlk0.out.2; have := hxm.out.recs; have := hnr.out; omega⟩)
                  clear ho7 hg7 hb7 hL6 hke6 n6
                  go_wp2_with fail
                  go_roundw
                  case rel => exact ⟨k + 1, d5, ⟨sz5, sk5⟩, kept ++ x.recs, maybe, A7, nk + nr, c7, Am, nm, cm, by omega, by omega, by go_num, rfl, rfl, hL7⟩
                  case measure => simp [intOf]; omega
                · have hfe := herr.fe
                  have herr' := Lib.hid herr
                  have hEn5 : Er.En W.heap.size w5 := hE'.out.on (by rw [hT'.out]; exact hLa.out.bel.trans (hst5.1.mono hLa.out.tb))
                  have hcode := Lib.hid (Er.Code_any cc 3 [segT] er W.heap.size w5 hEn5 hfe)
                  have hne : (cc == 0) = false := by rw [beq_eq_false_iff_ne]; exact hcn
                  cases sk5 with
                  | true =>
                    have hL5 := Lib.hid (hLa.out.sc_ (s' := ⟨sz5, true⟩) (k' := k + 1) hst5 hB5 (q2 hcn rfl) (fun w' hb => hrecs.out w' hb) hbd5 hsz5 (by omega))
                    clear q1 q2 q3 p1 p2 hst5 hB5 hpb hbd5 hsz5 hn5 hcn hX hnew hLa hba n1 hfe herr hEn5
                    go_wp2_with fail
                    refine hcode.out.mono ?_
                    rintro e w6 ⟨rfl, hb6⟩
                    have hL6 := Lib.hid (hL5.out.bel_ hb6)
                    have hlt6 : wr.heap.size < w5.heap.size := (Array.getElem?_eq_some_iff.1 hn5'.out).1
                    have hn6 := (hb6.block _ hlt6).trans hn5'.out
                    have n6 : w6.cell? ⟨wr.heap.size, 1, none⟩ = some (.slice Ar nr cr) := cell_blk hn6 rfl
                    clear hb6 hn6 hlt6 hcode
                    go_wp2_with fail
                    refine (Sick_any w6 a sb 3 _ hL6.out.blk).mono ?_
                    rintro e w7 ⟨rfl, rfl⟩
                    go_wp2_with fail
                    go_roundw
                    case rel => exact ⟨k + 1, d5, ⟨sz5, true⟩, kept, x.recs, Ak, nk, ck, Ar, nr, cr, by omega, by omega, by go_num, rfl, rfl, hL6⟩
                    case measure => simp [intOf]; omega
                  | false =>
                    have hL5 := Lib.hid (hLa.out.sc_ (s' := ⟨sz5, false⟩) (k' := k + 1) hst5 hB5 (q3 hcn rfl) hLa.out.may hbd5 hsz5 (by omega))
                    clear q1 q2 q3 p1 p2 hst5 hB5 hpb hbd5 hsz5 hn5 hcn hX hnew hLa hba n1 hfe herr hEn5
                    go_wp2_with fail
                    refine hcode.out.mono ?_
                    rintro e w6 ⟨rfl, hb6⟩
                    have hL6 := Lib.hid (hL5.out.bel_ hb6)
                    clear hb6 hcode
                    go_wp2_with fail
                    refine (Sick_any w6 a sb 3 _ hL6.out.blk).mono ?_
                    rintro e w7 ⟨rfl, rfl⟩
                    go_wp2_with fail
                    go_roundw
                    case rel => exact ⟨k + 1, d5, ⟨sz5, false⟩, kept, maybe, Ak, nk, ck, Am, nm, cm, by omega, by omega, by go_num, rfl, rfl, hL6⟩
                    case measure => simp [intOf]; omega
            · have hne1 : (kd == 1) = false := by rw [beq_eq_false_iff_ne]; exact hk1
              have hne0 : (kd != 0) = true := by rw [bne_iff_ne]; exact hk0
              clear hk1 hk0
              go_wp2_with fail
              have hLa := Lib.hid (hLi.out.bel_ hba.out)
              go_roundw
              case rel => exact ⟨k + 1, d, s, kept, maybe, Ak, nk, ck, Am, nm, cm, by omega, by omega, by go_num, rfl, rfl, Lib.hid hLa.out.next⟩
              case measure => simp [intOf]; omega
        · by_cases hkn : k < n
          · have i1 : decide ((k : Int) < (n : Int)) = true := by rw [decide_eq_true_eq]; omega
            have i2 : decide (k < n) = true := by rw [decide_eq_true_eq]; omega
            have g1 : decide ((k : Int) < (30 : Int)) = false := by rw [decide_eq_false_iff_not]; omega
            have g2 : decide (k < 30) = false := by rw [decide_eq_false_iff_not]; omega
            have hbd := hLi.out.bd
            have hlk := hLi.out.lk
            have htb := hLi.out.tb
            go_wp2_with fail
            refine (crash_op hLi.out.sc hbd (by omega) At nt ct tails (fun w' hb _ => Rd.below ht'.out (by rw [hT'.out]; exact hLi.out.bel.trans (hb.mono htb)))).mono ?_
            rintro e w5 ⟨rfl, hst5⟩
            obtain ⟨hc0, i, hi, hrec⟩ := hLi.out.kp.opened (head_len hok) tails
            have hx5 := Lib.hid (hLi.out.bel.trans (hst5.1.mono htb))
            have hrow5 := Lib.hid (keep_row hLi.out.row (Kc.fm hst5.2.1) (hst5.1.mono htb) (Nat.le_trans hLi.out.tw hLi.out.bel.size))
            have hS5 := Lib.hid (Sd.refl_ hst5)
            have hT5 := Lib.hid (hTe.out _ (hLi.out.b2.trans hst5.1))
            have hmay := Lib.hid hLi.out.may
            have hG5 := hbd.crash tails
            have hmb5 := Lib.hid (hmay.out _ hx5.out)
            have hml := hmb5.out.len
            have hmle := hmb5.out.le
            have hmmx := hmb5.out.max
            obtain ⟨hlk1, hlk2⟩ := hlk
            have hlen : (kept ++ maybe.take i).length = nk + i := by rw [List.length_append, List.length_take, ← hlk1]; omega
            have htk : (kept ++ maybe.take i).take nk = kept := by rw [hlk1, List.take_left]
            have hdr : (kept ++ maybe.take i).drop nk = maybe.take i := by rw [hlk1, List.drop_left]
            have him : i ≤ nm := by omega
            clear hst5 hlk1 hbd
            go_wp2_with fail
            refine (Open_any w5 B a mb _ _ (crash d tails) hS5.out hG5 (by omega) (by omega) 3 hok hT5.out).mono ?_
            rintro e w6 ⟨p, v, er, rfl, ⟨hst6, hr6⟩, A6, c6, hv, ho6⟩
            obtain ⟨X, hX⟩ : ∃ X, open_ (crash d tails) nm3 (head 3) = X := ⟨_, rfl⟩
            rw [hX] at hc0 hrec hst6 hr6 hv ho6
            rcases hr6 with ⟨_, rfl, sb2, rfl, _, _⟩ | ⟨hne, _⟩
            case inr => exact absurd hc0 hne
            rw [hrec, hlen] at hv ho6
            subst hv
            obtain ⟨q, hq⟩ : ∃ q, nk + i = q := ⟨_, rfl⟩
            rw [hq] at ho6 ⊢
            have hx6 := Lib.hid (hx5.out.trans (hst6.1.mono htb))
            have hrow6 := Lib.hid (keep_row hrow5.out (Kc.fm hst6.2.1) (hst6.1.mono htb) (Nat.le_trans hLi.out.tw hx5.out.size))
            have ho6' := Lib.hid (OwR.bsl ho6)
            have hle6 := ho6'.out.le
            have hmx6 := ho6'.out.max
            have hTw := Lib.hid (Nat.le_trans hLi.out.tw hx6.out.size)
            clear hst6 hc0 hrec hX ho6 hrow5 hlen
            go_wp2_with fail
            refine (Er.Code_ok w6).mono ?_
            rintro e w7 ⟨rfl, hb7⟩
            have hx7 := Lib.hid (hx6.out.trans (hb7.mono hTw.out))
            have hl7 := Lib.hid (BsL.to (q := nk) (ho6'.out.below hb7) (by omega))
            rw [htk] at hl7
            have hk7 := Lib.hid (Sq.bsl (OwS.sq' (keep_row hrow6.out (Kc.below hb7) (hb7.mono hTw.out) hTw.out) (by decide)))
            have hkle := hk7.out.le
            have hkmx := hk7.out.max
            have ho7 := Lib.hid (ho6'.out.below hb7)
            have j1 : decide ((q : Int) < (nk : Int)) = false := by rw [decide_eq_false_iff_not]; omega
            have j2 : decide (q < nk) = false := by rw [decide_eq_false_iff_not]; omega
            clear hb7 hrow6 ho6'
            go_wp2_with fail
            refine (FrW.records_any _ _ _ kept _ _ _ kept w7 hl7.out hk7.out rfl).mono ?_
            rintro e w8 ⟨rfl, q8, rfl⟩
            have hbd8 : Below w7.heap.size w7 (w7.drewN q8) := Joins.below_draws _ w7 q8
            have hx8 := Lib.hid (hx7.out.trans (Joins.below_draws T w7 q8))
            have hmb8 := Lib.hid (BsL.to (q := i) (hmay.out _ hx8.out) him)
            obtain ⟨hfa, hfb⟩ := BsL.from_ (g := nk) (ho7.out.below hbd8) (by omega)
            rw [hdr] at hfa hfb
            generalize w7.drewN q8 = w8 at hx8 hmb8 hfa hfb ⊢
            have hqi : q - nk = i := by omega
            rw [hqi] at hfa hfb
            have j3 : decide ((i : Int) ≤ (nm : Int)) = true := by rw [decide_eq_true_eq]; omega
            have j4 : decide (i ≤ nm) = true := by rw [decide_eq_true_eq]; omega
            have j5 : (q : Int) - (nk : Int) = (i : Int) := by omega
            clear hbd8 hl7 hk7 ho7 htk hdr hq
            by_cases hcg : c6 = nk
            · have HR := Lib.hid (hfa hcg)
              subst hcg
              clear hfa hfb
              go_wp2_with fail
              refine (FrW.records_any _ _ _ (maybe.take i) _ _ _ (maybe.take i) w8 HR.out hmb8.out rfl).mono ?_
              rintro e w9 ⟨rfl, q9, rfl⟩
              have hx9 := Lib.hid (hx8.out.trans ((Joins.below_draws T w8 q9)))
              go_wp2_with fail
              go_ret
              exact ⟨rfl, by rw [hT'.out]; exact hx9.out⟩
            · have HR := Lib.hid (hfb hcg)
              clear hfa hfb
              go_wp2_with fail
              refine (FrW.records_any _ _ _ (maybe.take i) _ _ _ (maybe.take i) w8 HR.out hmb8.out rfl).mono ?_
              rintro e w9 ⟨rfl, q9, rfl⟩
              have hx9 := Lib.hid (hx8.out.trans ((Joins.below_draws T w8 q9)))
              go_wp2_with fail
              go_ret
              exact ⟨rfl, by rw [hT'.out]; exact hx9.out⟩
          · have i1 : decide ((k : Int) < (n : Int)) = false := by rw [decide_eq_false_iff_not]; omega
            have i2 : decide (k < n) = false := by rw [decide_eq_false_iff_not]; omega
            have hbd := hLi.out.bd
            have hlk := hLi.out.lk
            have htb := hLi.out.tb
            go_wp2_with fail
            refine (crash_op hLi.out.sc hbd (by omega) At nt ct tails (fun w' hb _ => Rd.below ht'.out (by rw [hT'.out]; exact hLi.out.bel.trans (hb.mono htb)))).mono ?_
            rintro e w5 ⟨rfl, hst5⟩
            obtain ⟨hc0, i, hi, hrec⟩ := hLi.out.kp.opened (head_len hok) tails
            have hx5 := Lib.hid (hLi.out.bel.trans (hst5.1.mono htb))
            have hrow5 := Lib.hid (keep_row hLi.out.row (Kc.fm hst5.2.1) (hst5.1.mono htb) (Nat.le_trans hLi.out.tw hLi.out.bel.size))
            have hS5 := Lib.hid (Sd.refl_ hst5)
            have hT5 := Lib.hid (hTe.out _ (hLi.out.b2.trans hst5.1))
            have hmay := Lib.hid hLi.out.may
            have hG5 := hbd.crash tails
            have hmb5 := Lib.hid (hmay.out _ hx5.out)
            have hml := hmb5.out.len
            have hmle := hmb5.out.le
            have hmmx := hmb5.out.max
            obtain ⟨hlk1, hlk2⟩ := hlk
            have hlen : (kept ++ maybe.take i).length = nk + i := by rw [List.length_append, List.length_take, ← hlk1]; omega
            have htk : (kept ++ maybe.take i).take nk = kept := by rw [hlk1, List.take_left]
            have hdr : (kept ++ maybe.take i).drop nk = maybe.take i := by rw [hlk1, List.drop_left]
            have him : i ≤ nm := by omega
            clear hst5 hlk1 hbd
            go_wp2_with fail
            refine (Open_any w5 B a mb _ _ (crash d tails) hS5.out hG5 (by omega) (by omega) 3 hok hT5.out).mono ?_
            rintro e w6 ⟨p, v, er, rfl, ⟨hst6, hr6⟩, A6, c6, hv, ho6⟩
            obtain ⟨X, hX⟩ : ∃ X, open_ (crash d tails) nm3 (head 3) = X := ⟨_, rfl⟩
            rw [hX] at hc0 hrec hst6 hr6 hv ho6
            rcases hr6 with ⟨_, rfl, sb2, rfl, _, _⟩ | ⟨hne, _⟩
            case inr => exact absurd hc0 hne
            rw [hrec, hlen] at hv ho6
            subst hv
            obtain ⟨q, hq⟩ : ∃ q, nk + i = q := ⟨_, rfl⟩
            rw [hq] at ho6 ⊢
            have hx6 := Lib.hid (hx5.out.trans (hst6.1.mono htb))
            have hrow6 := Lib.hid (keep_row hrow5.out (Kc.fm hst6.2.1) (hst6.1.mono htb) (Nat.le_trans hLi.out.tw hx5.out.size))
            have ho6' := Lib.hid (OwR.bsl ho6)
            have hle6 := ho6'.out.le
            have hmx6 := ho6'.out.max
            have hTw := Lib.hid (Nat.le_trans hLi.out.tw hx6.out.size)
            clear hst6 hc0 hrec hX ho6 hrow5 hlen
            go_wp2_with fail
            refine (Er.Code_ok w6).mono ?_
            rintro e w7 ⟨rfl, hb7⟩
            have hx7 := Lib.hid (hx6.out.trans (hb7.mono hTw.out))
            have hl7 := Lib.hid (BsL.to (q := nk) (ho6'.out.below hb7) (by omega))
            rw [htk] at hl7
            have hk7 := Lib.hid (Sq.bsl (OwS.sq' (keep_row hrow6.out (Kc.below hb7) (hb7.mono hTw.out) hTw.out) (by decide)))
            have hkle := hk7.out.le
            have hkmx := hk7.out.max
            have ho7 := Lib.hid (ho6'.out.below hb7)
            have j1 : decide ((q : Int) < (nk : Int)) = false := by rw [decide_eq_false_iff_not]; omega
            have j2 : decide (q < nk) = false := by rw [decide_eq_false_iff_not]; omega
            clear hb7 hrow6 ho6'
            go_wp2_with fail
            refine (FrW.records_any _ _ _ kept _ _ _ kept w7 hl7.out hk7.out rfl).mono ?_
            rintro e w8 ⟨rfl, q8, rfl⟩
            have hbd8 : Below w7.heap.size w7 (w7.drewN q8) := Joins.below_draws _ w7 q8
            have hx8 := Lib.hid (hx7.out.trans (Joins.below_draws T w7 q8))
            have hmb8 := Lib.hid (BsL.to (q := i) (hmay.out _ hx8.out) him)
            obtain ⟨hfa, hfb⟩ := BsL.from_ (g := nk) (ho7.out.below hbd8) (by omega)
            rw [hdr] at hfa hfb
            generalize w7.drewN q8 = w8 at hx8 hmb8 hfa hfb ⊢
            have hqi : q - nk = i := by omega
            rw [hqi] at hfa hfb
            have j3 : decide ((i : Int) ≤ (nm : Int)) = true := by rw [decide_eq_true_eq]; omega
            have j4 : decide (i ≤ nm) = true := by rw [decide_eq_true_eq]; omega
            have j5 : (q : Int) - (nk : Int) = (i : Int) := by omega
            clear hbd8 hl7 hk7 ho7 htk hdr hq
            by_cases hcg : c6 = nk
            · have HR := Lib.hid (hfa hcg)
              subst hcg
              clear hfa hfb
              go_wp2_with fail
              refine (FrW.records_any _ _ _ (maybe.take i) _ _ _ (maybe.take i) w8 HR.out hmb8.out rfl).mono ?_
              rintro e w9 ⟨rfl, q9, rfl⟩
              have hx9 := Lib.hid (hx8.out.trans ((Joins.below_draws T w8 q9)))
              go_wp2_with fail
              go_ret
              exact ⟨rfl, by rw [hT'.out]; exact hx9.out⟩
            · have HR := Lib.hid (hfb hcg)
              clear hfa hfb
              go_wp2_with fail
              refine (FrW.records_any _ _ _ (maybe.take i) _ _ _ (maybe.take i) w8 HR.out hmb8.out rfl).mono ?_
              rintro e w9 ⟨rfl, q9, rfl⟩
              have hx9 := Lib.hid (hx8.out.trans ((Joins.below_draws T w8 q9)))
              go_wp2_with fail
              go_ret
              exact ⟨rfl, by rw [hT'.out]; exact hx9.out⟩
end Go.Proofs.YtfdpnjebhllpkaaGreatDoor.Sg
end
