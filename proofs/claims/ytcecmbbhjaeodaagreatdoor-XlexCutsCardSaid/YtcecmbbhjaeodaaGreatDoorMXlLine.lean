/- line and named of the scanner. -/
import Derived.Test.YtcecmbbhjaeodaaGreatDoorMXlNumber
import Derived.Test.YtcecmbbhjaeodaaGreatDoorMUtfEnc2
section
namespace Go.Proofs.YtcecmbbhjaeodaaGreatDoor.Xl
open Go.RowKit UtfW

theorem str_eqL (s t : Tx) : ((strOf s).toList == t) = decide (s = t) := by
  have h : (strOf s).data.toList = s := by simp [strOf]
  rw [Lib.toList_data, h, Bool.eq_iff_iff, beq_iff_eq, decide_eq_true_eq]
/-- What named hands back. -/
def runeV : Option Nat → Int
  | some v => (v : Nat)
  | none => -1
theorem numV_eq (base : Nat) (s : Tx) : numV base s = runeV (numR base s) := by
  unfold numV runeV
  cases numR base s <;> rfl

set_option maxRecDepth 100000 in
theorem named_any (w : World) (s : Tx) : Calls Tryz.prog 108 #[.string (strOf s)] w fun e w' => e = .returned (.int .i32 (runeV (named s))) ∧ w' = w := by
  have i0 := str_eqL s [97, 109, 112]
  have i1 := str_eqL s [108, 116]
  have i2 := str_eqL s [103, 116]
  have i3 := str_eqL s [113, 117, 111, 116]
  have i4 := str_eqL s [97, 112, 111, 115]
  obtain ⟨V, hV⟩ : ∃ V, runeV (named s) = V := ⟨_, rfl⟩
  rw [hV]
  have hV' := Lib.hid hV
  clear hV
  by_cases h0 : s = [97, 109, 112]
  · rw [decide_eq_true h0] at i0
    have hh : Hid (V = 38) := Lib.hid (by rw [← hV'.out, h0]; rfl)
    clear h0
    clear i1 i2 i3 i4
    go_enter Tryz.func108, Tryz.ntmps108
    go_wp2_with fail
    go_ret
    exact ⟨ret_int hh.out.symm, rfl⟩
  rw [decide_eq_false h0] at i0
  have h0' := Lib.hid h0
  clear h0
  by_cases h1 : s = [108, 116]
  · rw [decide_eq_true h1] at i1
    have hh : Hid (V = 60) := Lib.hid (by rw [← hV'.out, h1]; rfl)
    clear h1
    clear i2 i3 i4
    go_enter Tryz.func108, Tryz.ntmps108
    go_wp2_with fail
    go_ret
    exact ⟨ret_int hh.out.symm, rfl⟩
  rw [decide_eq_false h1] at i1
  have h1' := Lib.hid h1
  clear h1
  by_cases h2 : s = [103, 116]
  · rw [decide_eq_true h2] at i2
    have hh : Hid (V = 62) := Lib.hid (by rw [← hV'.out, h2]; rfl)
    clear h2
    clear i3 i4
    go_enter Tryz.func108, Tryz.ntmps108
    go_wp2_with fail
    go_ret
    exact ⟨ret_int hh.out.symm, rfl⟩
  rw [decide_eq_false h2] at i2
  have h2' := Lib.hid h2
  clear h2
  by_cases h3 : s = [113, 117, 111, 116]
  · rw [decide_eq_true h3] at i3
    have hh : Hid (V = 34) := Lib.hid (by rw [← hV'.out, h3]; rfl)
    clear h3
    clear i4
    go_enter Tryz.func108, Tryz.ntmps108
    go_wp2_with fail
    go_ret
    exact ⟨ret_int hh.out.symm, rfl⟩
  rw [decide_eq_false h3] at i3
  have h3' := Lib.hid h3
  clear h3
  by_cases h4 : s = [97, 112, 111, 115]
  · rw [decide_eq_true h4] at i4
    have hh : Hid (V = 39) := Lib.hid (by rw [← hV'.out, h4]; rfl)
    clear h4
    go_enter Tryz.func108, Tryz.ntmps108
    go_wp2_with fail
    go_ret
    exact ⟨ret_int hh.out.symm, rfl⟩
  rw [decide_eq_false h4] at i4
  have h4' := Lib.hid h4
  clear h4
  have hh : Hid (V = -1) := Lib.hid (by
    rw [← hV'.out]
    unfold named
    rw [if_neg h0'.out, if_neg h1'.out, if_neg h2'.out, if_neg h3'.out, if_neg h4'.out]
    rfl)
  go_enter Tryz.func108, Tryz.ntmps108
  go_wp2_with fail
  go_ret
  exact ⟨ret_int hh.out.symm, rfl⟩

theorem cutP_any (s p : Tx) (w : World) :
    Calls Tryz.prog 109 #[.string (strOf s), .string (strOf p)] w fun e w' => e = .returned (.tuple #[.string (strOf (Lib.trimPrefix s p)), .bool (Lib.hasPrefix s p)]) ∧ w' = w := by
  have := Any.strings_CutPrefix Tryz.lays103 (strOf s) (strOf p) w
  have h1 : (strOf s).data.toList = s := by simp [strOf]
  have h2 : (strOf p).data.toList = p := by simp [strOf]
  rw [h1, h2] at this
  exact this
theorem find_skip (t : Tx) : find [59] (38 :: t) = (find [59] t).map (· + 1) := by
  rw [find, if_neg (by simp [List.isPrefixOf])]
theorem char_top {v : Nat} (h : Utf.Char (v : Nat) = true) : v ≤ 1114111 := by
  unfold Utf.Char at h
  simp at h
  omega
theorem refV_top {t : Tx} {v : Nat} (h : refV t = some v) : v ≤ 1114111 := by
  have hn : ∀ {base : Nat} {d : Tx}, numR base d = some v → v ≤ 1114111 := by
    intro base d h
    unfold numR at h
    split at h
    · cases h
    · split at h
      · split at h
        · rename_i hc
          injection h with h
          subst h
          exact char_top hc
        · cases h
      · cases h
  unfold refV at h
  split at h
  · exact hn h
  · exact hn h
  · unfold named at h
    repeat' split at h
    all_goals (cases h <;> omega)
theorem refV_x {t : Tx} (h : Lib.hasPrefix t [35, 120] = true) : refV t = numR 16 (Lib.trimPrefix t [35, 120]) := by
  obtain ⟨d, rfl⟩ := List.isPrefixOf_iff_prefix.1 h
  rfl
theorem refV_d {t : Tx} (h1 : Lib.hasPrefix t [35, 120] = false) (h : Lib.hasPrefix t [35] = true) : refV t = numR 10 (Lib.trimPrefix t [35]) := by
  obtain ⟨d, rfl⟩ := List.isPrefixOf_iff_prefix.1 h
  cases d with
  | nil => rfl
  | cons a d =>
    have ha : a ≠ 120 := by
      rintro rfl
      simp [Lib.hasPrefix, List.isPrefixOf] at h1
    show refV (35 :: a :: d) = _
    unfold refV
    split
    · rename_i h2
      injection h2 with _ h2
      injection h2 with h2 _
      exact absurd h2 ha
    · rename_i h2
      injection h2 with _ h2
      subst h2
      rfl
    · rename_i h2
      exact absurd rfl (h2 _)
theorem refV_n {t : Tx} (h1 : Lib.hasPrefix t [35] = false) : refV t = named t := by
  unfold refV
  split
  · simp [Lib.hasPrefix, List.isPrefixOf] at h1
  · simp [Lib.hasPrefix, List.isPrefixOf] at h1
  · rfl

section
variable (w : World) (b : Nat) (S : Tx) (k : Nat) (A : Option Addr) (c : Nat) (vo : Value)
set_option maxHeartbeats 1000000 in
set_option maxRecDepth 100000 in
theorem reference_any (h : Xc w b S k A c vo) (hk : S[k]? = some 38) (hS : S.length ≤ 65536) :
    Calls Tryz.prog 84 #[.pointer (some ⟨b, 0, none⟩)] w fun e w' => Gives w b S k A c vo (fun v => .string (strOf v)) (refR (S.drop (k + 1))) e w' := by
  have hkl : k < S.length := (List.getElem?_eq_some_iff.1 hk).1
  have hlc := Rd.le h.bs
  have hcm := Rd.max h.bs
  have c0 := h.c0
  have c1 := h.c1
  have f1 := h.frozen 1
  have hf0 : find [59] (S.drop k) = (find [59] (S.drop (k + 1))).map (· + 1) := by rw [drop_at hk, find_skip]
  have h' := Lib.hid h
  clear h hk
  have hc : Hid (Calls Tryz.prog 98 #[.slice (offA A c k) (S.length - k) (c - k), .int .u8 59] w fun e w' => e = .returned (.int .i64 (idxV (find [59] (S.drop k)))) ∧ w' = w) := Lib.hid (by
    have hf := Bs.from h'.out.bs (Nat.le_of_lt hkl) (Nat.le_refl _)
    rw [List.take_of_length_le (by rw [List.length_drop]; omega)] at hf
    exact byteB_any 59 w hf)
  rw [hf0] at hc
  clear hf0
  unfold offA at hc
  obtain ⟨A1, hA1⟩ : ∃ A1, (if c = k then A else Option.map (fun x => x.add k) A) = A1 := ⟨_, rfl⟩
  rw [hA1] at hc
  cases hf : find [59] (S.drop (k + 1)) with
  | none =>
    have hf' := Lib.hid hf
    rw [hf] at hc
    clear hf
    have hc2 : Hid (Calls Tryz.prog 98 #[.slice A1 (S.length - k) (c - k), .int .u8 59] w fun e w' => e = .returned (.int .i64 (-1)) ∧ w' = w) := hc
    clear hc
    go_enter Tryz.func84, Tryz.ntmps84
    go_wp2_with fail
    refine hc2.out.mono ?_
    rintro e w1 ⟨rfl, rfl⟩
    go_wp2_with fail
    refine (fail_any _ 5 (k : Nat)).mono ?_
    rintro e w2 ⟨rfl, rfl⟩
    go_wp2_with fail
    refine ⟨rfl, World.grownBy.refl _ _, ?_⟩
    unfold refR
    rw [hf'.out]
    rfl
  | some n =>
    obtain ⟨hn1, _⟩ := find_len hf
    rw [List.length_drop] at hn1
    simp only [List.length_cons, List.length_nil] at hn1
    have hf' := Lib.hid hf
    rw [hf] at hc
    clear hf
    have hc2 : Hid (Calls Tryz.prog 98 #[.slice A1 (S.length - k) (c - k), .int .u8 59] w fun e w' => e = .returned (.int .i64 ((n + 1 : Nat) : Int)) ∧ w' = w) := hc
    clear hc
    obtain ⟨N, hN⟩ : ∃ N, n + 1 = N := ⟨_, rfl⟩
    rw [hN] at hc2
    have hNb : n = N - 1 := by omega
    have hN0 : 1 ≤ N := by omega
    have hNl : k + N < S.length := by omega
    have hN' := Lib.hid hN
    clear hN
    have i0 : decide ((N : Int) < 0) = false := by simp
    obtain ⟨M, hM⟩ : ∃ M, k + N = M := ⟨_, rfl⟩
    obtain ⟨L, hL⟩ : ∃ L, k + 1 = L := ⟨_, rfl⟩
    have hMI : (k : Int) + (N : Int) = (M : Int) := by omega
    have hLI : (k : Int) + 1 = (L : Int) := by omega
    have q1 : (0 : Int) ≤ (L : Int) ∧ (L : Int) ≤ (M : Int) := ⟨by omega, by omega⟩
    have q2 : L ≤ M := by omega
    have q3 : M < S.length := by omega
    have hcut : Bs w (offA A c L) (M - L) (c - L) ((S.drop L).take (M - L)) := Bs.from h'.out.bs q2 (by omega)
    unfold offA at hcut
    obtain ⟨A2, hA2⟩ : ∃ A2, (if c = L then A else Option.map (fun x => x.add L) A) = A2 := ⟨_, rfl⟩
    rw [hA2] at hcut
    obtain ⟨T, hT⟩ : ∃ T, (S.drop L).take (M - L) = T := ⟨_, rfl⟩
    rw [hT] at hcut
    have hTl : T.length ≤ 65536 := by rw [← hT, List.length_take]; omega
    have hcv2 : (convert 22 9 (.slice A2 (M - L) (c - L))).run Tryz.prog w = .ok (.string (strOf T)) w := Bs.conv hcut Tryz.underlying22 Tryz.underlying5 Tryz.underlying9
    have hres : Hid (refR (S.drop (k + 1)) = match refV T with | none => .bad 5 0 | some v => .ok (encB (v : Nat)) (n + 2)) := Lib.hid (by
      unfold refR
      rw [hf'.out]
      simp only
      rw [← hT, show M - L = n by have := hN'.out; omega, hL]
      cases refV (List.take n (List.drop L S)) <;> rfl)
    have hM' := Lib.hid hM
    have hL' := Lib.hid hL
    have hNb' := Lib.hid hNb
    clear hT hcut hM hL hNb hn1
    obtain ⟨V, hV⟩ : ∃ V, refV T = V := ⟨_, rfl⟩
    rw [hV] at hres
    cases hp : Lib.hasPrefix T [35, 120] with
    | true =>
      have hR : Hid (V = numR 16 (Lib.trimPrefix T [35, 120])) := Lib.hid (by rw [← hV, refV_x hp])
      have hp' := Lib.hid hp
      clear hp
      go_enter Tryz.func84, Tryz.ntmps84
      go_wp2_with fail
      refine hc2.out.mono ?_
      rintro e w1 ⟨rfl, rfl⟩
      go_wp2_with fail
      refine (named_any _ T).mono ?_
      rintro e w2 ⟨rfl, rfl⟩
      go_wp2_with fail
      refine (cutP_any T [35, 120] _).mono ?_
      rintro e w3 ⟨rfl, rfl⟩
      rw [hp'.out]
      go_wp2_with fail
      refine (number_any _ (Lib.trimPrefix T [35, 120]) 16 (.inr rfl) ?_).mono ?_
      · unfold Lib.trimPrefix
        split
        · rw [List.length_drop]; omega
        · exact hTl
      rintro e w4 ⟨rfl, hb4⟩
      rw [numV_eq, ← hR.out]
      have hs4 := Lib.hid (h'.out.below hb4)
      have hg4 := Lib.hid (grown_in (r := some b) hb4)
      clear hb4 c0 c1 f1 hcv2
      cases V with
      | none =>
        have hV2 : runeV none = -1 := rfl
        rw [hV2]
        clear hV2
        go_wp2_with fail
        refine (fail_any _ 5 (k : Nat)).mono ?_
        rintro e w8 ⟨rfl, rfl⟩
        go_wp2_with fail
        refine ⟨rfl, hg4.out, ?_⟩
        rw [hres.out]
        rfl
      | some v =>
        have hvt : v ≤ 1114111 := refV_top hV
        have hV2 : runeV (some v) = (v : Nat) := rfl
        rw [hV2]
        clear hV2
        have hv' := Lib.hid hV
        clear hV
        have j0 : decide ((v : Int) < 0) = false := by simp
        have g1 := hs4.out.c1
        have e1 := hs4.out.frozen 1
        go_wp2_with fail
        refine (utfEncode_any (v : Nat) (by omega) (by omega) _).mono ?_
        rintro e w9 ⟨A9, c9, rfl, ho9, hb9⟩
        have hset := hs4.out.set1 (M + 1)
        have hs9 := Lib.hid (hset.1.below hb9)
        have hg9 := Lib.hid ((hg4.out.trans hset.2).trans (grown_in hb9))
        have hcv9 : (convert 22 9 (.slice A9 (encB (v : Nat)).length c9)).run Tryz.prog w9 = .ok (.string (strOf (encB (v : Nat)))) w9 := Bs.conv ho9.bs Tryz.underlying22 Tryz.underlying5 Tryz.underlying9
        clear ho9 hb9 hset
        go_wp2_with fail
        go_ret
        rw [hres.out]
        refine ⟨hg9.out, rfl, ?_⟩
        rw [show k + (n + 2) = M + 1 by have := hM'.out; have := hN'.out; omega]
        exact hs9.out
    | false =>
      cases hq : Lib.hasPrefix T [35] with
      | true =>
        have hR : Hid (V = numR 10 (Lib.trimPrefix T [35])) := Lib.hid (by rw [← hV, refV_d hp hq])
        have hp' := Lib.hid hp
        have hq' := Lib.hid hq
        clear hp hq
        go_enter Tryz.func84, Tryz.ntmps84
        go_wp2_with fail
        refine hc2.out.mono ?_
        rintro e w1 ⟨rfl, rfl⟩
        go_wp2_with fail
        refine (named_any _ T).mono ?_
        rintro e w2 ⟨rfl, rfl⟩
        go_wp2_with fail
        refine (cutP_any T [35, 120] _).mono ?_
        rintro e w3 ⟨rfl, rfl⟩
        rw [hp'.out]
        go_wp2_with fail
        refine (cutP_any T [35] _).mono ?_
        rintro e w3 ⟨rfl, rfl⟩
        rw [hq'.out]
        go_wp2_with fail
        refine (number_any _ (Lib.trimPrefix T [35]) 10 (.inl rfl) ?_).mono ?_
        · unfold Lib.trimPrefix
          split
          · rw [List.length_drop]; omega
          · exact hTl
        rintro e w4 ⟨rfl, hb4⟩
        rw [numV_eq, ← hR.out]
        have hs4 := Lib.hid (h'.out.below hb4)
        have hg4 := Lib.hid (grown_in (r := some b) hb4)
        clear hb4 c0 c1 f1 hcv2
        cases V with
        | none =>
          have hV2 : runeV none = -1 := rfl
          rw [hV2]
          clear hV2
          go_wp2_with fail
          refine (fail_any _ 5 (k : Nat)).mono ?_
          rintro e w8 ⟨rfl, rfl⟩
          go_wp2_with fail
          refine ⟨rfl, hg4.out, ?_⟩
          rw [hres.out]
          rfl
        | some v =>
          have hvt : v ≤ 1114111 := refV_top hV
          have hV2 : runeV (some v) = (v : Nat) := rfl
          rw [hV2]
          clear hV2
          have hv' := Lib.hid hV
          clear hV
          have j0 : decide ((v : Int) < 0) = false := by simp
          have g1 := hs4.out.c1
          have e1 := hs4.out.frozen 1
          go_wp2_with fail
          refine (utfEncode_any (v : Nat) (by omega) (by omega) _).mono ?_
          rintro e w9 ⟨A9, c9, rfl, ho9, hb9⟩
          have hset := hs4.out.set1 (M + 1)
          have hs9 := Lib.hid (hset.1.below hb9)
          have hg9 := Lib.hid ((hg4.out.trans hset.2).trans (grown_in hb9))
          have hcv9 : (convert 22 9 (.slice A9 (encB (v : Nat)).length c9)).run Tryz.prog w9 = .ok (.string (strOf (encB (v : Nat)))) w9 := Bs.conv ho9.bs Tryz.underlying22 Tryz.underlying5 Tryz.underlying9
          clear ho9 hb9 hset
          go_wp2_with fail
          go_ret
          rw [hres.out]
          refine ⟨hg9.out, rfl, ?_⟩
          rw [show k + (n + 2) = M + 1 by have := hM'.out; have := hN'.out; omega]
          exact hs9.out
      | false =>
        have hR : Hid (V = named T) := Lib.hid (by rw [← hV, refV_n hq])
        have hg4 := Lib.hid (World.grownBy.refl w (some b))
        have hp' := Lib.hid hp
        have hq' := Lib.hid hq
        clear hp hq
        go_enter Tryz.func84, Tryz.ntmps84
        go_wp2_with fail
        refine hc2.out.mono ?_
        rintro e w1 ⟨rfl, rfl⟩
        go_wp2_with fail
        refine (named_any _ T).mono ?_
        rintro e w2 ⟨rfl, rfl⟩
        go_wp2_with fail
        refine (cutP_any T [35, 120] _).mono ?_
        rintro e w3 ⟨rfl, rfl⟩
        rw [hp'.out]
        go_wp2_with fail
        refine (cutP_any T [35] _).mono ?_
        rintro e w3 ⟨rfl, rfl⟩
        rw [hq'.out, ← hR.out]
        clear hcv2
        cases V with
        | none =>
          have hV2 : runeV none = -1 := rfl
          rw [hV2]
          clear hV2
          go_wp2_with fail
          refine (fail_any _ 5 (k : Nat)).mono ?_
          rintro e w8 ⟨rfl, rfl⟩
          go_wp2_with fail
          refine ⟨rfl, hg4.out, ?_⟩
          rw [hres.out]
          rfl
        | some v =>
          have hvt : v ≤ 1114111 := refV_top hV
          have hV2 : runeV (some v) = (v : Nat) := rfl
          rw [hV2]
          clear hV2
          have hv' := Lib.hid hV
          clear hV
          have j0 : decide ((v : Int) < 0) = false := by simp
          have g1 := h'.out.c1
          have e1 := h'.out.frozen 1
          go_wp2_with fail
          refine (utfEncode_any (v : Nat) (by omega) (by omega) _).mono ?_
          rintro e w9 ⟨A9, c9, rfl, ho9, hb9⟩
          have hset := h'.out.set1 (M + 1)
          have hs9 := Lib.hid (hset.1.below hb9)
          have hg9 := Lib.hid ((hg4.out.trans hset.2).trans (grown_in hb9))
          have hcv9 : (convert 22 9 (.slice A9 (encB (v : Nat)).length c9)).run Tryz.prog w9 = .ok (.string (strOf (encB (v : Nat)))) w9 := Bs.conv ho9.bs Tryz.underlying22 Tryz.underlying5 Tryz.underlying9
          clear ho9 hb9 hset
          go_wp2_with fail
          go_ret
          rw [hres.out]
          refine ⟨hg9.out, rfl, ?_⟩
          rw [show k + (n + 2) = M + 1 by have := hM'.out; have := hN'.out; omega]
          exact hs9.out
end
end Go.Proofs.YtcecmbbhjaeodaaGreatDoor.Xl
end

section
namespace Go.Proofs.YtcecmbbhjaeodaaGreatDoor.Xl
open Go.RowKit UtfW

section
variable (w : World) (b : Nat) (S : Tx) (k : Nat) (A : Option Addr) (c : Nat) (vo : Value)
set_option maxRecDepth 100000 in
theorem blanks_any (h : Xc w b S k A c vo) (hk : k ≤ S.length) (hS : S.length ≤ 65536) :
    Calls Tryz.prog 80 #[.pointer (some ⟨b, 0, none⟩)] w fun e w' => e = .returned (.bool (decide (0 < blanks (S.drop k)))) ∧ Xc w' b S (k + blanks (S.drop k)) A c vo ∧ w.grownBy w' (some b) := by
  have c1 := h.c1
  have h' := Lib.hid h
  clear h
  obtain ⟨R, hR⟩ : ∃ R, blanks (S.drop k) = R := ⟨_, rfl⟩
  rw [hR]
  have hR' := Lib.hid hR
  clear hR
  go_enter Tryz.func80, Tryz.ntmps80
  go_wp2_with fail
  go_loopg [] (S.length - k) (fun m wr => ∃ q : Nat, k ≤ q ∧ q ≤ S.length ∧ S.length - q ≤ m ∧ Hid (q - k + blanks (S.drop q) = R) ∧ Hid (Xc wr b S q A c vo) ∧ Hid (w.grownBy wr (some b)))
  case atStart => exact ⟨k, Nat.le_refl _, hk, Nat.le_refl _, Lib.hid (by rw [Nat.sub_self, Nat.zero_add]; exact hR'.out), h', Lib.hid (World.grownBy.refl _ _)⟩
  case round =>
    clear c1
    obtain ⟨q, hkq, hql, hm, hr, hs, hg⟩ := hrel
    have c0 := hs.out.c0
    have c1 := hs.out.c1
    have f1 := hs.out.frozen 1
    by_cases hlt : q < S.length
    · have i0 : decide ((q : Int) < (S.length : Int)) = true := by simp; omega
      obtain ⟨ba, off, rfl, hx, hcell⟩ := hs.out.at_ hlt
      generalize S[q] = x at hx hcell
      have hw := wrap32_byte x
      cases hbl : Qx.blank x with
      | true =>
        have hbl' : Blank (x.toNat : Int) = true := hbl
        have hx' := Lib.hid hx
        have hbh := Lib.hid hbl
        clear hx hbl
        go_wp2_with fail
        go_big_quiet ((go_at_call 97; exact Calls.quiet_of_same (blank_any _ _)))
        go_wp2_with fail
        have hs2 := hs.out.below (Joins.below_draws _ wr nq)
        have h3 := hs2.set1 (q + 1)
        go_roundg (S.length - (q + 1))
        case measure => omega
        case rel => exact ⟨q + 1, by omega, by omega, Nat.le_refl _, Lib.hid (by have := hr.out; rw [blanks_on hx'.out hbh.out] at this; rw [← this]; omega), h3.1, Lib.hid ((hg.out.trans (grown_in (Joins.below_draws _ wr nq))).trans h3.2)⟩
      | false =>
        have hbl' : Blank (x.toNat : Int) = false := hbl
        have hx' := Lib.hid hx
        have hbh := Lib.hid hbl
        clear hx hbl
        go_wp2_with fail
        go_big_quiet ((go_at_call 97; exact Calls.quiet_of_same (blank_any _ _)))
        go_wp2_with fail
        go_ret
        have hs2 := hs.out.below (Joins.below_draws _ wr nq)
        have := hr.out
        rw [blanks_off hx'.out hbh.out] at this
        rw [← this, Nat.add_zero, Nat.add_sub_cancel' hkq]
        exact ⟨ret_bool (by congr 1; simp; omega), hs2, hg.out.trans (grown_in (Joins.below_draws _ wr nq))⟩
    · have i0 : decide ((q : Int) < (S.length : Int)) = false := by simp; omega
      go_wp2_with fail
      go_big_quiet (fail)
      go_wp2_with fail
      go_ret
      have hs2 := hs.out.below (Joins.below_draws _ wr nq)
      have := hr.out
      rw [blanks_end (by omega)] at this
      rw [← this, Nat.add_zero, Nat.add_sub_cancel' hkq]
      exact ⟨ret_bool (by congr 1; simp; omega), hs2, hg.out.trans (grown_in (Joins.below_draws _ wr nq))⟩

set_option maxRecDepth 100000 in
theorem eat_any (h : Xc w b S k A c vo) (hk : k ≤ S.length) (hS : S.length ≤ 65536) (p : Tx) (hp : p.length ≤ 65536) :
    Calls Tryz.prog 91 #[.pointer (some ⟨b, 0, none⟩), .string (strOf p)] w fun e w' => Gives w b S k A c vo (fun _ => .tuple #[]) (eat p (S.drop k)) e w' := by
  have hsz : (strOf p).size = p.length := strOf_size' p
  have h' := Lib.hid h
  clear h
  obtain ⟨R, hR⟩ : ∃ R, eat p (S.drop k) = R := ⟨_, rfl⟩
  rw [hR]
  have hR' := Lib.hid hR
  clear hR
  go_enter Tryz.func91, Tryz.ntmps91
  go_wp2_with fail
  go_loopw [4, 7] (fun u v wr => ∃ j : Nat, j ≤ p.length ∧ v = .int .i64 (j : Nat) ∧ k + j ≤ S.length ∧ Hid ((eat (p.drop j) (S.drop (k + j))).shift j = R) ∧ Hid (Xc wr b S (k + j) A c vo) ∧ Hid (w.grownBy wr (some b))) (fun _ v _ => p.length - (intOf v).toNat)
  case atStart => exact ⟨0, by omega, rfl, hk, Lib.hid (by rw [Out.shift_zero]; exact hR'.out), h', Lib.hid (World.grownBy.refl _ _)⟩
  case round =>
    obtain ⟨j, hj, rfl, hkj, hr, hs, hg⟩ := hrel
    by_cases hlt : j < p.length
    · have i0 : decide ((j : Int) < (p.length : Int)) = true := by simp; omega
      have hy : p[j]? = some p[j] := List.getElem?_eq_getElem hlt
      generalize p[j] = y at hy
      have hlt' : j < (strOf p).size := by rw [hsz]; exact hlt
      have hgy := str_at hy hlt'
      have hy' := Lib.hid hy
      clear hy
      by_cases hend : k + j < S.length
      · go_wp2_with fail
        refine (need_ok wr b S (k + j) A c vo hs.out hend).mono ?_
        rintro e w1 ⟨rfl, hb1⟩
        have hs1 := Lib.hid (hs.out.below hb1)
        have hg1 := Lib.hid (hg.out.trans (grown_in hb1))
        clear hb1
        have c0 := hs1.out.c0
        have c1 := hs1.out.c1
        have f1 := hs1.out.frozen 1
        obtain ⟨ba, off, rfl, hx, hcell⟩ := hs1.out.at_ hend
        generalize S[k + j] = x at hx hcell
        have hx' := Lib.hid hx
        clear hx
        by_cases hxy : x = y
        · subst hxy
          go_wp2_with fail
          go_big_quiet (fail)
          go_wp2_with fail
          have hs2 := hs1.out.below (Joins.below_draws _ w1 nq)
          have h3 := hs2.set1 (k + (j + 1))
          go_roundw
          case rel => exact ⟨j + 1, by omega, by go_num, by omega, Lib.hid (by have := hr.out; rw [eat_on hy'.out hx'.out, Out.shift_shift] at this; exact this), h3.1, Lib.hid ((hg1.out.trans (grown_in (Joins.below_draws _ w1 nq))).trans h3.2)⟩
          case measure => simp [intOf]; omega
        · have hne : ((x.toNat : Int) == (y.toNat : Int)) = false := by
            rw [beq_eq_false_iff_ne]
            intro e
            exact hxy (UInt8.toNat_inj.1 (by omega))
          have hxy' := Lib.hid hxy
          clear hxy
          go_wp2_with fail
          go_big_quiet (fail)
          go_wp2_with fail
          refine (fail_any _ 2 ((k + j : Nat) : Int)).mono ?_
          rintro e w2 ⟨rfl, rfl⟩
          go_wp2_with fail
          refine ⟨rfl, hg1.out.trans (grown_in (Joins.below_draws _ w1 nq)), ?_⟩
          have := hr.out
          rw [eat_off hy'.out hx'.out hxy'.out] at this
          subst this
          rfl
      · go_wp2_with fail
        refine (need_bad wr b S (k + j) A c vo hs.out (by omega)).mono ?_
        rintro e w1 ⟨rfl, hb1⟩
        go_wp2_with fail
        refine ⟨rfl, hg.out.trans (grown_in hb1), ?_⟩
        have := hr.out
        rw [eat_end hy'.out (by omega)] at this
        subst this
        have e : S.length = k + (j + 0) := by omega
        rw [e]
        rfl
    · have i0 : decide ((j : Int) < (p.length : Int)) = false := by simp; omega
      go_wp2_with fail
      go_end0
      refine ⟨hg.out, ?_⟩
      have := hr.out
      rw [eat_done (by omega)] at this
      subst this
      exact ⟨rfl, hs.out⟩
end
end Go.Proofs.YtcecmbbhjaeodaaGreatDoor.Xl
end

section
namespace Go.Proofs.YtcecmbbhjaeodaaGreatDoor.Xl
open Go.RowKit UtfW

section
variable (w : World) (b : Nat) (S : Tx) (k : Nat) (A : Option Addr) (c : Nat) (vo : Value)
set_option maxRecDepth 100000 in
theorem line_any (h : Xc w b S k A c vo) (hk : k < S.length) (hS : S.length ≤ 65536) :
    Calls Tryz.prog 85 #[.pointer (some ⟨b, 0, none⟩)] w fun e w' => e = .returned (.tuple #[]) ∧ Xc w' b S (k + line (S.drop k)) A c vo ∧ w.grownBy w' (some b) := by
  have hh := has_any w b S k A c vo h (Nat.le_of_lt hk) hS [13, 10] (by decide)
  obtain ⟨B, hB⟩ : ∃ B, Lib.hasPrefix (S.drop k) [13, 10] = B := ⟨_, rfl⟩
  rw [hB] at hh
  have hB' := Lib.hid hB
  have h' := Lib.hid h
  have hh' := Lib.hid hh
  clear hB h hh
  cases B with
  | true =>
    have hl : Hid (line (S.drop k) = 2) := Lib.hid (by unfold line; rw [if_pos hB'.out])
    rw [hl.out]
    go_enter Tryz.func85, Tryz.ntmps85
    go_wp2_with fail
    refine hh'.out.mono ?_
    rintro e w1 ⟨rfl, hb1⟩
    have hs1 := Lib.hid (h'.out.below hb1)
    have hg1 := Lib.hid (grown_in (r := some b) hb1)
    have c1 := hs1.out.c1
    have f1 := hs1.out.frozen 1
    clear hb1
    go_wp2_with fail
    go_end0
    have h2 := hs1.out.set1 (k + 1)
    have h3 := h2.1.set1 (k + 1 + 1)
    exact ⟨rfl, h3.1, (hg1.out.trans h2.2).trans h3.2⟩
  | false =>
    have hl : Hid (line (S.drop k) = 1) := Lib.hid (by unfold line; rw [if_neg]; rw [hB'.out]; simp)
    rw [hl.out]
    go_enter Tryz.func85, Tryz.ntmps85
    go_wp2_with fail
    refine hh'.out.mono ?_
    rintro e w1 ⟨rfl, hb1⟩
    have hs1 := Lib.hid (h'.out.below hb1)
    have hg1 := Lib.hid (grown_in (r := some b) hb1)
    have c1 := hs1.out.c1
    have f1 := hs1.out.frozen 1
    clear hb1
    go_wp2_with fail
    go_end0
    have h2 := hs1.out.set1 (k + 1)
    exact ⟨rfl, h2.1, hg1.out.trans h2.2⟩
end
end Go.Proofs.YtcecmbbhjaeodaaGreatDoor.Xl
end
