/- The scanner's name. -/
import Derived.Test.YthiikldjngamaaaDoorQxPut
import Derived.Lib.ConvBytes
namespace Go.Proofs.YthiikldjngamaaaDoor.Qx
open Go.RowKit UtfW

theorem nameF_end {f : Nat} {first : Bool} {S : List UInt8} {p : Nat} (h : S.length ≤ p) : nameF f first (S.drop p) = 0 := by
  have := nameF_le f first (S.drop p)
  rw [List.length_drop] at this
  omega
theorem nameF_stop {f : Nat} {first : Bool} {S : List UInt8} {p : Nat} (h : (first = true ∧ Begins (nx S p).1 = false) ∨ GoesOn (nx S p).1 = false) : nameF f first (S.drop p) = 0 := by
  cases f with
  | zero => rfl
  | succ f =>
    rw [nameF, ← nx_drop, if_pos]
    rcases h with ⟨rfl, h⟩ | h
    · simp [h]
    · simp [h]
theorem nameF_on {f : Nat} {first : Bool} {S : List UInt8} {p : Nat} (h1 : first = true → Begins (nx S p).1 = true) (h2 : GoesOn (nx S p).1 = true) : nameF (f + 1) first (S.drop p) = (nx S p).2 + nameF f false (S.drop (p + (nx S p).2)) := by
  rw [nameF, ← nx_drop, if_neg, List.drop_drop]
  cases first
  · simp [h2]
  · simp [h2, h1 rfl]
theorem goesOn_pos {S : List UInt8} {p : Nat} (h : GoesOn (nx S p).1 = true) : 1 ≤ (nx S p).2 := by
  rcases Nat.eq_zero_or_pos (nx S p).2 with h0 | h0
  · exfalso
    have : (nx S p).1 = 0 := by
      unfold nx at h0 ⊢
      split
      · rename_i hlt
        rw [if_pos hlt] at h0
        unfold Utf.nxt at h0 ⊢
        have hge := Lib.decodeN_ge1 (S.length - p) (bt S p) (bt S (p + 1)) (bt S (p + 2)) (bt S (p + 3))
        simp only at h0 ⊢
        split at h0
        · rename_i hb
          rw [if_pos hb]
        · omega
      · rfl
    rw [this] at h
    exact absurd h (by decide)
  · exact h0

/-- '[]byte(s)'. -/
theorem bs_convert (w : World) (s : ByteArray) (hs : s.size ≤ 281474976710656) :
    Bs (Lib.bytesWorld w 5 s) (some ⟨w.heap.size, 0, none⟩) s.size (grownCap w s.size 0 5) s.data.toList ∧ Below w.heap.size w (Lib.bytesWorld w 5 s) := by
  have hl : s.data.toList.length = s.size := by rw [Array.length_toList]; rfl
  refine ⟨{ len := by rw [bv_length, hl], le := grownCap_ge _ _ _ _, max := ?_, nil := (fun h => by cases h), cell := fun h0 => ⟨w.heap.size, 0, rfl, by rw [Lib.bytesWorld_size]; omega, ?_⟩ }, ?_⟩
  · have := grownCap_le_maxLen w s.size 0 5 (by unfold maxLen; omega)
    unfold maxLen at this
    omega
  · intro j u hu
    obtain ⟨x, hx, rfl⟩ := bv_get hu
    have hj : j < s.size := by rw [← hl]; exact (List.getElem?_eq_some_iff.1 hx).1
    rw [Nat.zero_add, Lib.bytesWorld_cell w 5 s j hj, List.getD_eq_getElem?_getD, hx]
    rfl
  · exact ⟨rfl, rfl, rfl, by rw [Lib.bytesWorld_size]; omega, fun k hk => Lib.bytesWorld_at_old w 5 s k hk⟩

set_option maxRecDepth 100000 in
theorem name_any (w : World) (b : Nat) (S : List UInt8) (k : Nat) (ts : List Tok) (A : Option Addr) (n c : Nat) (hk : k ≤ S.length) (hS : S.length ≤ 1000) (h : Sc w b S k ts A n c) :
    Calls Tryd.prog 35 #[.pointer (some ⟨b, 0, none⟩)] w fun e w' => e = .returned (.int .i64 (nameL (S.drop k) : Nat)) ∧ Below w.heap.size w w' := by
  have hsz : (strOf S).size = S.length := strOf_size' S
  have c0 := h.c0
  obtain ⟨hbs, hbw⟩ := bs_convert w (strOf S) (by omega)
  have hcv : (convert 9 37 (.string (strOf S))).run Tryd.prog w = .ok (.slice (some ⟨w.heap.size, 0, none⟩) (strOf S).size (grownCap w (strOf S).size 0 5)) (Lib.bytesWorld w 5 (strOf S)) :=
    Lib.run_convert_string_bytes w 9 37 5 (strOf S) Tryd.underlying9 Tryd.underlying37 Tryd.underlying5
  obtain ⟨cb, hcb⟩ : ∃ cb, grownCap w (strOf S).size 0 5 = cb := ⟨_, rfl⟩
  obtain ⟨wb, hwb⟩ : ∃ wb, Lib.bytesWorld w 5 (strOf S) = wb := ⟨_, rfl⟩
  rw [hcb, hwb] at hcv
  rw [hcb, hwb] at hbs
  rw [hwb] at hbw
  clear hcb hwb
  rw [hsz] at hcv hbs
  have hlst : (strOf S).data.toList = S := by simp [strOf]
  rw [hlst] at hbs
  clear hlst
  have hB := hbw.size
  have hsc : Sc wb b S k ts A n c := h.below hbw
  have hUt : Ut wb := hsc.us.ut
  have e1 := hsc.c1
  have hbw' := Lib.hid hbw
  have h' := Lib.hid hsc
  clear hbw h hsc
  obtain ⟨R, hR⟩ : ∃ R, nameL (S.drop k) = R := ⟨_, rfl⟩
  rw [hR]
  have hR' := Lib.hid hR
  clear hR
  go_enter Tryd.func35, Tryd.ntmps35
  go_wp2_with fail
  go_loopw [4] (fun v wr => ∃ p f : Nat, k ≤ p ∧ p ≤ S.length ∧ v = .int .i64 (p : Nat) ∧ Hid (S.length < p + f) ∧ Hid ((p - k) + nameF f (decide (p = k)) (S.drop p) = R) ∧ Hid (Below wb.heap.size wb wr)) (fun v _ => S.length - (intOf v).toNat)
  case atStart =>
    refine ⟨k, S.length - k + 1, Nat.le_refl _, hk, rfl, Lib.hid (by omega), Lib.hid ?_, Lib.hid (Below.refl _ _)⟩
    have := hR'.out
    unfold nameL at this
    rw [List.length_drop] at this
    simpa using this
  case round =>
    clear e1 c0
    obtain ⟨p, f, hkp, hpl, rfl, hf, hr, hb⟩ := hrel
    have c0 := (h'.out.below hb.out).c0
    have c1 := (h'.out.below hb.out).c1
    by_cases hlt : p < S.length
    · have i0 : decide ((p : Int) < (S.length : Int)) = true := by simp; omega
      have hle := nx_le hlt
      have hc := utfNext_any _ S.length cb S p (by omega) wr (hbs.below hb.out) (hUt.below hb.out)
      rw [nxI_nat] at hc
      have hpos := @goesOn_pos S p
      obtain ⟨P, hP⟩ : ∃ P, nx S p = P := ⟨_, rfl⟩
      rw [hP] at hc hle hpos
      have hP' := Lib.hid hP
      clear hP
      obtain ⟨r, m⟩ := P
      unfold nxV at hc
      simp only at hc hle hpos
      have hpos' := Lib.hid hpos
      clear hpos
      have hlt' := Lib.hid hlt
      go_wp2_with fail
      refine hc.mono ?_
      rintro e w1 ⟨rfl, hb1⟩
      have hx := Lib.hid (hb.out.trans (hb1.mono hb.out.size))
      have d0 := (h'.out.below hx.out).c0
      have d1 := (h'.out.below hx.out).c1
      clear hb1 hc c0 c1
      by_cases h0 : p = k
      · have e0 : ((p : Int) == (k : Int)) = true := by rw [beq_iff_eq]; omega
        have h0' := Lib.hid h0
        clear h0
        cases hbg : Begins (r : Nat) with
        | false =>
          go_wp2_with fail
          refine (utfBegins_any r w1).mono ?_
          rintro e w2 ⟨rfl, hb2⟩
          rw [hbg]
          have hx2 := Lib.hid (hx.out.trans (hb2.mono hx.out.size))
          have g1 := (h'.out.below hx2.out).c1
          clear hb2 d0 d1
          go_wp2_with fail
          go_ret
          refine ⟨ret_int ?_, hbw'.out.trans (hx2.out.mono hbw'.out.size)⟩
          have := hr.out
          rw [nameF_stop (Or.inl ⟨by simpa using h0'.out, by rw [hP'.out]; exact hbg⟩)] at this
          omega
        | true =>
          go_wp2_with fail
          refine (utfBegins_any r w1).mono ?_
          rintro e w2 ⟨rfl, hb2⟩
          rw [hbg]
          have hx2 := Lib.hid (hx.out.trans (hb2.mono hx.out.size))
          have hsz2 := hb2.size
          clear hb2 d0 d1
          go_wp2_with fail
          refine (utfGoesOn_any r w2).mono ?_
          rintro e w3 ⟨rfl, hb3⟩
          have hx3 := Lib.hid (hx2.out.trans (hb3.mono hx2.out.size))
          have g1 := (h'.out.below hx3.out).c1
          clear hb3
          cases hg : GoesOn (r : Nat) with
          | false =>
            go_wp2_with fail
            go_ret
            refine ⟨ret_int ?_, hbw'.out.trans (hx3.out.mono hbw'.out.size)⟩
            have := hr.out
            rw [nameF_stop (Or.inr (by rw [hP'.out]; exact hg))] at this
            omega
          | true =>
            have hm := hpos'.out hg
            go_wp2_with fail
            go_roundw
            case rel =>
              obtain ⟨g, rfl⟩ : ∃ g, f = g + 1 := ⟨f - 1, by have := hf.out; have := hlt'.out; omega⟩
              refine ⟨p + m, g, by omega, by omega, by go_num, Lib.hid (by have := hf.out; omega), Lib.hid ?_, hx3⟩
              have := hr.out
              rw [nameF_on (fun _ => by rw [hP'.out]; exact hbg) (by rw [hP'.out]; exact hg), hP'.out] at this
              rw [show decide (p + m = k) = false by simp; omega]
              simp only at this
              omega
            case measure => simp [intOf]; omega
      · have e0 : ((p : Int) == (k : Int)) = false := by rw [beq_eq_false_iff_ne]; omega
        have h0' := Lib.hid h0
        have hkp2 : k < p := by omega
        clear h0
        go_wp2_with fail
        refine (utfGoesOn_any r w1).mono ?_
        rintro e w3 ⟨rfl, hb3⟩
        have hx3 := Lib.hid (hx.out.trans (hb3.mono hx.out.size))
        have g1 := (h'.out.below hx3.out).c1
        clear hb3 d0 d1
        cases hg : GoesOn (r : Nat) with
        | false =>
          go_wp2_with fail
          go_ret
          refine ⟨ret_int ?_, hbw'.out.trans (hx3.out.mono hbw'.out.size)⟩
          have := hr.out
          rw [nameF_stop (Or.inr (by rw [hP'.out]; exact hg))] at this
          omega
        | true =>
          have hm := hpos'.out hg
          go_wp2_with fail
          go_roundw
          case rel =>
            obtain ⟨g, rfl⟩ : ∃ g, f = g + 1 := ⟨f - 1, by have := hf.out; have := hlt'.out; omega⟩
            refine ⟨p + m, g, by omega, by omega, by go_num, Lib.hid (by have := hf.out; omega), Lib.hid ?_, hx3⟩
            have := hr.out
            rw [nameF_on (fun hh => absurd (by simpa using hh) h0'.out) (by rw [hP'.out]; exact hg), hP'.out] at this
            rw [show decide (p + m = k) = false by simp; omega]
            simp only at this
            omega
          case measure => simp [intOf]; omega
    · have i0 : decide ((p : Int) < (S.length : Int)) = false := by simp; omega
      have hge : S.length ≤ p := by omega
      go_wp2_with fail
      go_ret
      refine ⟨ret_int ?_, hbw'.out.trans (hb.out.mono hbw'.out.size)⟩
      have := hr.out
      rw [nameF_end hge] at this
      omega
end Go.Proofs.YthiikldjngamaaaDoor.Qx
