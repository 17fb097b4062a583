/- The printer of trees: Nodes, Node. -/
import Derived.Test.YtokdnhdfmgfkeaaGreatDoorVXlPlaces
import Derived.Test.YtokdnhdfmgfkeaaGreatDoorVUtfEnc2
import Derived.Test.YtokdnhdfmgfkeaaGreatDoorVQxVal
import Derived.Lib.AppendStr
import Derived.Lib.Builder
import Derived.BigRegion
import Derived.Test.YtokdnhdfmgfkeaaGreatDoorVXpLib
import Derived.Carry
import Derived.Maps.Own
import Derived.Maps.Views
import Derived.StringKeys
import Derived.Test.YtokdnhdfmgfkeaaGreatDoorVXoMath
import Derived.Shelf.RegionOpenPlain
section
namespace Go.Proofs.YtokdnhdfmgfkeaaGreatDoor.Xl
open Go.RowKit UtfW

theorem str_eqL (s t : Tx) : ((strOf s).toList == t) = decide (s = t) := by
 have h : (strOf s).data.toList = s := by simp [strOf]
 rw [Lib.toList_data, h, Bool.eq_iff_iff, beq_iff_eq, decide_eq_true_eq]
def runeV : Option Nat → Int
 | some v => (v : Nat)
 | none => -1
theorem numV_eq (base : Nat) (s : Tx) : numV base s = runeV (numR base s) := by
 unfold numV runeV
 cases numR base s <;> rfl

set_option maxRecDepth 100000 in
theorem named_any (w : World) (s : Tx) : Calls Tryz.prog 200 #[.string (strOf s)] w fun e w' => e = .returned (.int .i32 (runeV (named s))) ∧ w' = w := by
 have i0 := str_eqL s [97, 109, 112]
 have i1 := str_eqL s [108, 116]
 have i2 := str_eqL s [103, 116]
 have i3 := str_eqL s [113, 117, 111, 116]
 have i4 := str_eqL s [97, 112, 111, 115]
 obtain ⟨V, hV⟩ : ∃ V, runeV (named s) = V := ⟨_, rfl⟩
 rw [hV]
 have hV' := Lib.hid hV
 clear hV
 by_cases h0 : s = [97, 109, 112]
 ·rw [decide_eq_true h0] at i0
  have hh : Hid (V = 38) := Lib.hid (by rw [← hV'.out, h0]; rfl)
  clear h0
  clear i1 i2 i3 i4
  go_enter Tryz.func200, Tryz.ntmps200
  go_wp2_with fail
  go_ret
  exact ⟨ret_int hh.out.symm, rfl⟩
 rw [decide_eq_false h0] at i0
 have h0' := Lib.hid h0
 clear h0
 by_cases h1 : s = [108, 116]
 ·rw [decide_eq_true h1] at i1
  have hh : Hid (V = 60) := Lib.hid (by rw [← hV'.out, h1]; rfl)
  clear h1
  clear i2 i3 i4
  go_enter Tryz.func200, Tryz.ntmps200
  go_wp2_with fail
  go_ret
  exact ⟨ret_int hh.out.symm, rfl⟩
 rw [decide_eq_false h1] at i1
 have h1' := Lib.hid h1
 clear h1
 by_cases h2 : s = [103, 116]
 ·rw [decide_eq_true h2] at i2
  have hh : Hid (V = 62) := Lib.hid (by rw [← hV'.out, h2]; rfl)
  clear h2
  clear i3 i4
  go_enter Tryz.func200, Tryz.ntmps200
  go_wp2_with fail
  go_ret
  exact ⟨ret_int hh.out.symm, rfl⟩
 rw [decide_eq_false h2] at i2
 have h2' := Lib.hid h2
 clear h2
 by_cases h3 : s = [113, 117, 111, 116]
 ·rw [decide_eq_true h3] at i3
  have hh : Hid (V = 34) := Lib.hid (by rw [← hV'.out, h3]; rfl)
  clear h3
  clear i4
  go_enter Tryz.func200, Tryz.ntmps200
  go_wp2_with fail
  go_ret
  exact ⟨ret_int hh.out.symm, rfl⟩
 rw [decide_eq_false h3] at i3
 have h3' := Lib.hid h3
 clear h3
 by_cases h4 : s = [97, 112, 111, 115]
 ·rw [decide_eq_true h4] at i4
  have hh : Hid (V = 39) := Lib.hid (by rw [← hV'.out, h4]; rfl)
  clear h4
  go_enter Tryz.func200, Tryz.ntmps200
  go_wp2_with fail
  go_ret
  exact ⟨ret_int hh.out.symm, rfl⟩
 rw [decide_eq_false h4] at i4
 have h4' := Lib.hid h4
 clear h4
 have hh : Hid (V = -1) := Lib.hid (by
  rw [← hV'.out]
  unfold named
  rw [if_neg h0'.out, if_neg h1'.out, if_neg h2'.out, if_neg h3'.out, if_neg h4'.out]
  rfl)
 go_enter Tryz.func200, Tryz.ntmps200
 go_wp2_with fail
 go_ret
 exact ⟨ret_int hh.out.symm, rfl⟩

theorem cutP_any (s p : Tx) (w : World) :
  Calls Tryz.prog 201 #[.string (strOf s), .string (strOf p)] w fun e w' => e = .returned (.tuple #[.string (strOf (Lib.trimPrefix s p)), .bool (Lib.hasPrefix s p)]) ∧ w' = w := by
 have := Any.strings_CutPrefix Tryz.lays103 (strOf s) (strOf p) w
 have h1 : (strOf s).data.toList = s := by simp [strOf]
 have h2 : (strOf p).data.toList = p := by simp [strOf]
 rw [h1, h2] at this
 exact this
theorem find_skip (t : Tx) : find [59] (38 :: t) = (find [59] t).map (· + 1) := by
 rw [find, if_neg (by simp [List.isPrefixOf])]
theorem char_top {v : Nat} (h : Utf.Char (v : Nat) = true) : v ≤ 1114111 := by
 unfold Utf.Char at h
 simp at h
 omega
theorem refV_top {t : Tx} {v : Nat} (h : refV t = some v) : v ≤ 1114111 := by
 have hn : ∀ {base : Nat} {d : Tx}, numR base d = some v → v ≤ 1114111 := by
  intro base d h
  unfold numR at h
  split at h
  ·cases h
  ·split at h
   ·split at h
    ·rename_i hc
     injection h with h
     subst h
     exact char_top hc
    ·cases h
   ·cases h
 unfold refV at h
 split at h
 ·exact hn h
 ·exact hn h
 ·unfold named at h
  repeat' split at h
  all_goals (cases h <;> omega)
theorem refV_x {t : Tx} (h : Lib.hasPrefix t [35, 120] = true) : refV t = numR 16 (Lib.trimPrefix t [35, 120]) := by
 obtain ⟨d, rfl⟩ := List.isPrefixOf_iff_prefix.1 h
 rfl
theorem refV_d {t : Tx} (h1 : Lib.hasPrefix t [35, 120] = false) (h : Lib.hasPrefix t [35] = true) : refV t = numR 10 (Lib.trimPrefix t [35]) := by
 obtain ⟨d, rfl⟩ := List.isPrefixOf_iff_prefix.1 h
 cases d with
 | nil => rfl
 | cons a d =>
  have ha : a ≠ 120 := by
   rintro rfl
   simp [Lib.hasPrefix, List.isPrefixOf] at h1
  show refV (35 :: a :: d) = _
  unfold refV
  split
  ·rename_i h2
   injection h2 with _ h2
   injection h2 with h2 _
   exact absurd h2 ha
  ·rename_i h2
   injection h2 with _ h2
   subst h2
   rfl
  ·rename_i h2
   exact absurd rfl (h2 _)
theorem refV_n {t : Tx} (h1 : Lib.hasPrefix t [35] = false) : refV t = named t := by
 unfold refV
 split
 ·simp [Lib.hasPrefix, List.isPrefixOf] at h1
 ·simp [Lib.hasPrefix, List.isPrefixOf] at h1
 ·rfl

section
variable (w : World) (b : Nat) (S : Tx) (k : Nat) (A : Option Addr) (c : Nat) (vo : Value)
set_option maxHeartbeats 1000000 in
set_option maxRecDepth 100000 in
theorem reference_any (h : Xc w b S k A c vo) (hk : S[k]? = some 38) (hS : S.length ≤ 65536) :
  Calls Tryz.prog 178 #[.pointer (some ⟨b, 0, none⟩)] w fun e w' => Gives w b S k A c vo (fun v => .string (strOf v)) (refR (S.drop (k + 1))) e w' := by
 have hkl : k < S.length := (List.getElem?_eq_some_iff.1 hk).1
 have hlc := Rd.le h.bs
 have hcm := Rd.max h.bs
 have c0 := h.c0
 have c1 := h.c1
 have f1 := h.frozen 1
 have hf0 : find [59] (S.drop k) = (find [59] (S.drop (k + 1))).map (· + 1) := by rw [drop_at hk, find_skip]
 have h' := Lib.hid h
 clear h hk
 have hc : Hid (Calls Tryz.prog 197 #[.slice (offA A c k) (S.length - k) (c - k), .int .u8 59] w fun e w' => e = .returned (.int .i64 (idxV (find [59] (S.drop k)))) ∧ w' = w) := Lib.hid (by
  have hf := Bs.from h'.out.bs (Nat.le_of_lt hkl) (Nat.le_refl _)
  rw [List.take_of_length_le (by rw [List.length_drop]; omega)] at hf
  exact byteB_any 59 w hf)
 rw [hf0] at hc
 clear hf0
 unfold offA at hc
 obtain ⟨A1, hA1⟩ : ∃ A1, (if c = k then A else Option.map (fun x => x.add k) A) = A1 := ⟨_, rfl⟩
 rw [hA1] at hc
 cases hf : find [59] (S.drop (k + 1)) with
 | none =>
  have hf' := Lib.hid hf
  rw [hf] at hc
  clear hf
  have hc2 : Hid (Calls Tryz.prog 197 #[.slice A1 (S.length - k) (c - k), .int .u8 59] w fun e w' => e = .returned (.int .i64 (-1)) ∧ w' = w) := hc
  clear hc
  go_enter Tryz.func178, Tryz.ntmps178
  go_wp2_with fail
  refine hc2.out.mono ?_
  rintro e w1 ⟨rfl, rfl⟩
  go_wp2_with fail
  refine (fail_any _ 5 (k : Nat)).mono ?_
  rintro e w2 ⟨rfl, rfl⟩
  go_wp2_with fail
  refine ⟨rfl, World.grownBy.refl _ _, ?_⟩
  unfold refR
  rw [hf'.out]
  rfl
 | some n =>
  obtain ⟨hn1, _⟩ := find_len hf
  rw [List.length_drop] at hn1
  simp only [List.length_cons, List.length_nil] at hn1
  have hf' := Lib.hid hf
  rw [hf] at hc
  clear hf
  have hc2 : Hid (Calls Tryz.prog 197 #[.slice A1 (S.length - k) (c - k), .int .u8 59] w fun e w' => e = .returned (.int .i64 ((n + 1 : Nat) : Int)) ∧ w' = w) := hc
  clear hc
  obtain ⟨N, hN⟩ : ∃ N, n + 1 = N := ⟨_, rfl⟩
  rw [hN] at hc2
  have hNb : n = N - 1 := by omega
  have hN0 : 1 ≤ N := by omega
  have hNl : k + N < S.length := by omega
  have hN' := Lib.hid hN
  clear hN
  have i0 : decide ((N : Int) < 0) = false := by simp
  obtain ⟨M, hM⟩ : ∃ M, k + N = M := ⟨_, rfl⟩
  obtain ⟨L, hL⟩ : ∃ L, k + 1 = L := ⟨_, rfl⟩
  have hMI : (k : Int) + (N : Int) = (M : Int) := by omega
  have hLI : (k : Int) + 1 = (L : Int) := by omega
  have q1 : (0 : Int) ≤ (L : Int) ∧ (L : Int) ≤ (M : Int) := ⟨by omega, by omega⟩
  have q2 : L ≤ M := by omega
  have q3 : M < S.length := by omega
  have hcut : Bs w (offA A c L) (M - L) (c - L) ((S.drop L).take (M - L)) := Bs.from h'.out.bs q2 (by omega)
  unfold offA at hcut
  obtain ⟨A2, hA2⟩ : ∃ A2, (if c = L then A else Option.map (fun x => x.add L) A) = A2 := ⟨_, rfl⟩
  rw [hA2] at hcut
  obtain ⟨T, hT⟩ : ∃ T, (S.drop L).take (M - L) = T := ⟨_, rfl⟩
  rw [hT] at hcut
  have hTl : T.length ≤ 65536 := by rw [← hT, List.length_take]; omega
  have hcv2 : (convert 41 9 (.slice A2 (M - L) (c - L))).run Tryz.prog w = .ok (.string (strOf T)) w := Bs.conv hcut Tryz.underlying41 Tryz.underlying5 Tryz.underlying9
  have hres : Hid (refR (S.drop (k + 1)) = match refV T with | none => .bad 5 0 | some v => .ok (encB (v : Nat)) (n + 2)) := Lib.hid (by
   unfold refR
   rw [hf'.out]
   simp only
   rw [← hT, show M - L = n by have := hN'.out; omega, hL]
   cases refV (List.take n (List.drop L S)) <;> rfl)
  have hM' := Lib.hid hM
  have hL' := Lib.hid hL
  have hNb' := Lib.hid hNb
  clear hT hcut hM hL hNb hn1
  obtain ⟨V, hV⟩ : ∃ V, refV T = V := ⟨_, rfl⟩
  rw [hV] at hres
  cases hp : Lib.hasPrefix T [35, 120] with
  | true =>
   have hR : Hid (V = numR 16 (Lib.trimPrefix T [35, 120])) := Lib.hid (by rw [← hV, refV_x hp])
   have hp' := Lib.hid hp
   clear hp
   go_enter Tryz.func178, Tryz.ntmps178
   go_wp2_with fail
   refine hc2.out.mono ?_
   rintro e w1 ⟨rfl, rfl⟩
   go_wp2_with fail
   refine (named_any _ T).mono ?_
   rintro e w2 ⟨rfl, rfl⟩
   go_wp2_with fail
   refine (cutP_any T [35, 120] _).mono ?_
   rintro e w3 ⟨rfl, rfl⟩
   rw [hp'.out]
   go_wp2_with fail
   refine (number_any _ (Lib.trimPrefix T [35, 120]) 16 (.inr rfl) ?_).mono ?_
   ·unfold Lib.trimPrefix
    split
    ·rw [List.length_drop]; omega
    ·exact hTl
   rintro e w4 ⟨rfl, hb4⟩
   rw [numV_eq, ← hR.out]
   have hs4 := Lib.hid (h'.out.below hb4)
   have hg4 := Lib.hid (grown_in (r := some b) hb4)
   clear hb4 c0 c1 f1 hcv2
   cases V with
   | none =>
    have hV2 : runeV none = -1 := rfl
    rw [hV2]
    clear hV2
    go_wp2_with fail
    refine (fail_any _ 5 (k : Nat)).mono ?_
    rintro e w8 ⟨rfl, rfl⟩
    go_wp2_with fail
    refine ⟨rfl, hg4.out, ?_⟩
    rw [hres.out]
    rfl
   | some v =>
    have hvt : v ≤ 1114111 := refV_top hV
    have hV2 : runeV (some v) = (v : Nat) := rfl
    rw [hV2]
    clear hV2
    have hv' := Lib.hid hV
    clear hV
    have j0 : decide ((v : Int) < 0) = false := by simp
    have g1 := hs4.out.c1
    have e1 := hs4.out.frozen 1
    go_wp2_with fail
    refine (utfEncode_any (v : Nat) (by omega) (by omega) _).mono ?_
    rintro e w9 ⟨A9, c9, rfl, ho9, hb9⟩
    have hset := hs4.out.set1 (M + 1)
    have hs9 := Lib.hid (hset.1.below hb9)
    have hg9 := Lib.hid ((hg4.out.trans hset.2).trans (grown_in hb9))
    have hcv9 : (convert 41 9 (.slice A9 (encB (v : Nat)).length c9)).run Tryz.prog w9 = .ok (.string (strOf (encB (v : Nat)))) w9 := Bs.conv ho9.bs Tryz.underlying41 Tryz.underlying5 Tryz.underlying9
    clear ho9 hb9 hset
    go_wp2_with fail
    go_ret
    rw [hres.out]
    refine ⟨hg9.out, rfl, ?_⟩
    rw [show k + (n + 2) = M + 1 by have := hM'.out; have := hN'.out; omega]
    exact hs9.out
  | false =>
   cases hq : Lib.hasPrefix T [35] with
   | true =>
    have hR : Hid (V = numR 10 (Lib.trimPrefix T [35])) := Lib.hid (by rw [← hV, refV_d hp hq])
    have hp' := Lib.hid hp
    have hq' := Lib.hid hq
    clear hp hq
    go_enter Tryz.func178, Tryz.ntmps178
    go_wp2_with fail
    refine hc2.out.mono ?_
    rintro e w1 ⟨rfl, rfl⟩
    go_wp2_with fail
    refine (named_any _ T).mono ?_
    rintro e w2 ⟨rfl, rfl⟩
    go_wp2_with fail
    refine (cutP_any T [35, 120] _).mono ?_
    rintro e w3 ⟨rfl, rfl⟩
    rw [hp'.out]
    go_wp2_with fail
    refine (cutP_any T [35] _).mono ?_
    rintro e w3 ⟨rfl, rfl⟩
    rw [hq'.out]
    go_wp2_with fail
    refine (number_any _ (Lib.trimPrefix T [35]) 10 (.inl rfl) ?_).mono ?_
    ·unfold Lib.trimPrefix
     split
     ·rw [List.length_drop]; omega
     ·exact hTl
    rintro e w4 ⟨rfl, hb4⟩
    rw [numV_eq, ← hR.out]
    have hs4 := Lib.hid (h'.out.below hb4)
    have hg4 := Lib.hid (grown_in (r := some b) hb4)
    clear hb4 c0 c1 f1 hcv2
    cases V with
    | none =>
     have hV2 : runeV none = -1 := rfl
     rw [hV2]
     clear hV2
     go_wp2_with fail
     refine (fail_any _ 5 (k : Nat)).mono ?_
     rintro e w8 ⟨rfl, rfl⟩
     go_wp2_with fail
     refine ⟨rfl, hg4.out, ?_⟩
     rw [hres.out]
     rfl
    | some v =>
     have hvt : v ≤ 1114111 := refV_top hV
     have hV2 : runeV (some v) = (v : Nat) := rfl
     rw [hV2]
     clear hV2
     have hv' := Lib.hid hV
     clear hV
     have j0 : decide ((v : Int) < 0) = false := by simp
     have g1 := hs4.out.c1
     have e1 := hs4.out.frozen 1
     go_wp2_with fail
     refine (utfEncode_any (v : Nat) (by omega) (by omega) _).mono ?_
     rintro e w9 ⟨A9, c9, rfl, ho9, hb9⟩
     have hset := hs4.out.set1 (M + 1)
     have hs9 := Lib.hid (hset.1.below hb9)
     have hg9 := Lib.hid ((hg4.out.trans hset.2).trans (grown_in hb9))
     have hcv9 : (convert 41 9 (.slice A9 (encB (v : Nat)).length c9)).run Tryz.prog w9 = .ok (.string (strOf (encB (v : Nat)))) w9 := Bs.conv ho9.bs Tryz.underlying41 Tryz.underlying5 Tryz.underlying9
     clear ho9 hb9 hset
     go_wp2_with fail
     go_ret
     rw [hres.out]
     refine ⟨hg9.out, rfl, ?_⟩
     rw [show k + (n + 2) = M + 1 by have := hM'.out; have := hN'.out; omega]
     exact hs9.out
   | false =>
    have hR : Hid (V = named T) := Lib.hid (by rw [← hV, refV_n hq])
    have hg4 := Lib.hid (World.grownBy.refl w (some b))
    have hp' := Lib.hid hp
    have hq' := Lib.hid hq
    clear hp hq
    go_enter Tryz.func178, Tryz.ntmps178
    go_wp2_with fail
    refine hc2.out.mono ?_
    rintro e w1 ⟨rfl, rfl⟩
    go_wp2_with fail
    refine (named_any _ T).mono ?_
    rintro e w2 ⟨rfl, rfl⟩
    go_wp2_with fail
    refine (cutP_any T [35, 120] _).mono ?_
    rintro e w3 ⟨rfl, rfl⟩
    rw [hp'.out]
    go_wp2_with fail
    refine (cutP_any T [35] _).mono ?_
    rintro e w3 ⟨rfl, rfl⟩
    rw [hq'.out, ← hR.out]
    clear hcv2
    cases V with
    | none =>
     have hV2 : runeV none = -1 := rfl
     rw [hV2]
     clear hV2
     go_wp2_with fail
     refine (fail_any _ 5 (k : Nat)).mono ?_
     rintro e w8 ⟨rfl, rfl⟩
     go_wp2_with fail
     refine ⟨rfl, hg4.out, ?_⟩
     rw [hres.out]
     rfl
    | some v =>
     have hvt : v ≤ 1114111 := refV_top hV
     have hV2 : runeV (some v) = (v : Nat) := rfl
     rw [hV2]
     clear hV2
     have hv' := Lib.hid hV
     clear hV
     have j0 : decide ((v : Int) < 0) = false := by simp
     have g1 := h'.out.c1
     have e1 := h'.out.frozen 1
     go_wp2_with fail
     refine (utfEncode_any (v : Nat) (by omega) (by omega) _).mono ?_
     rintro e w9 ⟨A9, c9, rfl, ho9, hb9⟩
     have hset := h'.out.set1 (M + 1)
     have hs9 := Lib.hid (hset.1.below hb9)
     have hg9 := Lib.hid ((hg4.out.trans hset.2).trans (grown_in hb9))
     have hcv9 : (convert 41 9 (.slice A9 (encB (v : Nat)).length c9)).run Tryz.prog w9 = .ok (.string (strOf (encB (v : Nat)))) w9 := Bs.conv ho9.bs Tryz.underlying41 Tryz.underlying5 Tryz.underlying9
     clear ho9 hb9 hset
     go_wp2_with fail
     go_ret
     rw [hres.out]
     refine ⟨hg9.out, rfl, ?_⟩
     rw [show k + (n + 2) = M + 1 by have := hM'.out; have := hN'.out; omega]
     exact hs9.out
end
end Go.Proofs.YtokdnhdfmgfkeaaGreatDoor.Xl
end

section
namespace Go.Proofs.YtokdnhdfmgfkeaaGreatDoor.Xl
open Go.RowKit UtfW

section
variable (w : World) (b : Nat) (S : Tx) (k : Nat) (A : Option Addr) (c : Nat) (vo : Value)
set_option maxRecDepth 100000 in
theorem line_any (h : Xc w b S k A c vo) (hk : k < S.length) (hS : S.length ≤ 65536) :
  Calls Tryz.prog 179 #[.pointer (some ⟨b, 0, none⟩)] w fun e w' => e = .returned (.tuple #[]) ∧ Xc w' b S (k + line (S.drop k)) A c vo ∧ w.grownBy w' (some b) := by
 have hh := has_any w b S k A c vo h (Nat.le_of_lt hk) hS [13, 10] (by decide)
 obtain ⟨B, hB⟩ : ∃ B, Lib.hasPrefix (S.drop k) [13, 10] = B := ⟨_, rfl⟩
 rw [hB] at hh
 have hB' := Lib.hid hB
 have h' := Lib.hid h
 have hh' := Lib.hid hh
 clear hB h hh
 cases B with
 | true =>
  have hl : Hid (line (S.drop k) = 2) := Lib.hid (by unfold line; rw [if_pos hB'.out])
  rw [hl.out]
  go_enter Tryz.func179, Tryz.ntmps179
  go_wp2_with fail
  refine hh'.out.mono ?_
  rintro e w1 ⟨rfl, hb1⟩
  have hs1 := Lib.hid (h'.out.below hb1)
  have hg1 := Lib.hid (grown_in (r := some b) hb1)
  have c1 := hs1.out.c1
  have f1 := hs1.out.frozen 1
  clear hb1
  go_wp2_with fail
  go_end0
  have h2 := hs1.out.set1 (k + 1)
  have h3 := h2.1.set1 (k + 1 + 1)
  exact ⟨rfl, h3.1, (hg1.out.trans h2.2).trans h3.2⟩
 | false =>
  have hl : Hid (line (S.drop k) = 1) := Lib.hid (by unfold line; rw [if_neg]; rw [hB'.out]; simp)
  rw [hl.out]
  go_enter Tryz.func179, Tryz.ntmps179
  go_wp2_with fail
  refine hh'.out.mono ?_
  rintro e w1 ⟨rfl, hb1⟩
  have hs1 := Lib.hid (h'.out.below hb1)
  have hg1 := Lib.hid (grown_in (r := some b) hb1)
  have c1 := hs1.out.c1
  have f1 := hs1.out.frozen 1
  clear hb1
  go_wp2_with fail
  go_end0
  have h2 := hs1.out.set1 (k + 1)
  exact ⟨rfl, h2.1, hg1.out.trans h2.2⟩
end
end Go.Proofs.YtokdnhdfmgfkeaaGreatDoor.Xl
end

section
namespace Go.Proofs.YtokdnhdfmgfkeaaGreatDoor.Xl
open Go.RowKit UtfW

theorem Xc.far {w wr w' : World} {b : Nat} {S : Tx} {k q : Nat} {A : Option Addr} {c : Nat} {vo vo' : Value} (h : Xc w b S k A c vo) (hg : w.grownBy wr (some b)) (hr : Xc wr b S q A c vo') (hb : Below w.heap.size wr w') : Xc w' b S q A c vo' ∧ w.grownBy w' (some b) := by
 have h2 : w.grownBy w' (some b) := ⟨hb.os.trans hg.os, hb.tape.trans hg.tape, hb.output.trans hg.output, Nat.le_trans hg.size hb.size, fun j hj hne => (hb.block j hj).trans (hg.block j hj hne)⟩
 exact ⟨h.on h2 ((hb.block b h.lt).trans hr.blk), h2⟩
theorem ow_kept {w w' : World} {B E b : Nat} {v : Value} {l : Tx} (h : OwB w B E v l) (hg : w.grownBy w' (some b)) (hb : b < B) : OwB w' B E v l :=
 World.ownsRow.kept h hg (by
  cases hv : v.ownBlock with
  | none => exact .inl rfl
  | some j =>
   right
   have := (OwB.lt h j hv).1
   intro e
   injection e with e
   omega)
theorem byte_eq (x y : UInt8) : ((x.toNat : Int) == (y.toNat : Int)) = decide (x = y) := by
 rw [Bool.eq_iff_iff, beq_iff_eq, decide_eq_true_eq]
 exact ⟨fun h => UInt8.toNat_inj.1 (by omega), fun h => by rw [h]⟩
theorem info_u8 : (Tryz.prog.info? 5).map (fun i => (i.zero, i.size, i.bytes)) = some (some (.int .u8 0), 1, 1) := by kernel_rfl
theorem append_string {ops : Array Oper} {rest : List Oper} {o : Oper} {a : Act} {Q : Exit → Act → World → Prop} (w : World) (hgd : o.guard = none) (s x : Operand)
  (ho : o.op = .call { callee := .builtin .append, args := #[s, x], argTypes := #[41, 9] })
  (B : Nat) (v : Value) (la : Tx) (hs : a.eval s = v) (hown : OwB w B 5 v la) (lb : Tx) (hx : a.eval x = .string (strOf lb))
  (hsz : la.length + lb.length ≤ 140737488355328) (hB : B ≤ w.heap.size)
  (h : ∀ v' w', OwB w' B 5 v' (la ++ lb) → Below B w w' → wpList Tryz.prog ops Q rest (a.put o.dst v') w') :
  wpList Tryz.prog ops Q (o :: rest) a w := by
 have hsl : (strOf lb).size = lb.length := strOf_size' lb
 obtain ⟨i, hi, hz, hs1, hb1⟩ := info_parts info_u8
 refine Lib.wpList_append_own_string w hgd s x 41 9 ho B 5 i Tryz.underlying41 Tryz.underlying9 hi hz hs1 hb1 v la.length (bv la) hs hown (strOf lb) hx (by unfold maxLen; omega) (by omega) hB ?_
 intro v' w' h1 h2 _
 refine h v' w' ?_ (below_of_grown hown hB h2)
 unfold OwB
 rw [bv_append, List.length_append, ← hsl]
 have e : Lib.strCells (strOf lb) = bv lb := by
  unfold Lib.strCells bv strOf
  simp
 rw [← e]
 exact h1

theorem pan_eq {c : Int} {x y : Nat} (h : x = y) : Ending.panicked [wr c (x : Nat)] = Ending.panicked [wr c (y : Nat)] := by rw [h]
theorem encB_le (v : Nat) : (encB (v : Nat)).length ≤ 4 := by
 cases h : isRune (v : Nat) with
 | true => exact (encB_pos h).2.1
 | false => rw [encB_none h]; simp
theorem refR_v {t v : Tx} {n : Nat} (h : refR t = .ok v n) : v.length ≤ 4 := by
 unfold refR at h
 split at h
 ·cases h
 ·split at h
  ·cases h
  ·injection h with h1 h2
   rw [← h1]
   exact encB_le _
section
variable (w : World) (b : Nat) (S : Tx) (k : Nat) (A : Option Addr) (c : Nat) (vo : Value)
set_option maxHeartbeats 2000000 in
set_option maxRecDepth 100000 in
theorem value_any (h : Xc w b S k A c vo) (hk : k ≤ S.length) (hS : S.length ≤ 65536) :
  Calls Tryz.prog 207 #[.pointer (some ⟨b, 0, none⟩)] w fun e w' => Gives w b S k A c vo (fun v => .string (strOf v)) (value (S.drop k)) e w' := by
 have hbw : b < w.heap.size := h.lt
 have h' := Lib.hid h
 clear h
 by_cases hend : S.length ≤ k
 ·go_enter Tryz.func207, Tryz.ntmps207
  go_wp2_with fail
  refine (need_bad w b S k A c vo h'.out hend).mono ?_
  rintro e w1 ⟨rfl, hb1⟩
  go_wp2_with fail
  refine ⟨rfl, grown_in hb1, ?_⟩
  rw [drop_end hend]
  have e : S.length = k + 0 := by omega
  rw [e]
  rfl
 have hkl : k < S.length := by omega
 clear hend
 obtain ⟨R, hR⟩ : ∃ R, value (S.drop k) = R := ⟨_, rfl⟩
 rw [hR]
 have hR' := Lib.hid hR
 clear hR
 go_enter Tryz.func207, Tryz.ntmps207
 go_wp2_with fail
 refine (need_ok w b S k A c vo h'.out hkl).mono ?_
 rintro e w1 ⟨rfl, hb1⟩
 have hs1 := Lib.hid (h'.out.below hb1)
 have hb1' := Lib.hid hb1
 clear hb1
 have c0 := hs1.out.c0
 have c1 := hs1.out.c1
 obtain ⟨ba, off, rfl, hx, hcell⟩ := hs1.out.at_ hkl
 generalize S[k] = x0 at hx hcell
 have hx0 := Lib.hid hx
 clear hx
 go_wp2_with fail
 go_big_quiet (fail)
 have hb2 := Lib.hid (hb1'.out.trans ((Joins.below_draws _ w1 nq).mono hb1'.out.size))
 have hs2 := Lib.hid (h'.out.below hb2.out)
 generalize w1.drewN nq = w2 at hb2 hs2 ⊢
 clear hs1 hb1' c0 c1 hcell
 have c1 := hs2.out.c1
 have f1 := hs2.out.frozen 1
 have j34 := byte_eq x0 34
 have j39 := byte_eq x0 39
 by_cases hqt : ¬ (x0 = 34 ∨ x0 = 39)
 ·have hqt' := Lib.hid hqt
  rw [decide_eq_false fun e => hqt (.inl e)] at j34
  rw [decide_eq_false fun e => hqt (.inr e)] at j39
  have j34' : ((x0.toNat : Int) == 34) = false := j34
  have j39' : ((x0.toNat : Int) == 39) = false := j39
  have m34 : ((x0.toNat : Int) != 34) = true := by unfold bne; rw [j34']; rfl
  have m39 : ((x0.toNat : Int) != 39) = true := by unfold bne; rw [j39']; rfl
  clear hqt j34 j39
  go_wp2_with fail
  refine (fail_any _ 2 (k : Nat)).mono ?_
  rintro e w3 ⟨rfl, rfl⟩
  go_wp2_with fail
  refine ⟨rfl, grown_in hb2.out, ?_⟩
  have := hR'.out
  rw [drop_at hx0.out, value, if_neg hqt'.out] at this
  rw [← this]
  rfl
 have hqt := Classical.not_not.1 hqt
 have hgo : Hid ((valF (S.length - k) x0 (S.drop (k + 1)) []).shift 1 = R) := Lib.hid (by
  have := hR'.out
  rw [drop_at hx0.out, value, if_pos hqt, List.length_drop] at this
  rw [← this, show S.length - k = S.length - (k + 1) + 1 by omega])
 have hall : Hid (x0 = 34 ∨ x0 = 39) := Lib.hid hqt
 clear hqt j34 j39
 have hset := hs2.out.set1 (k + 1)
 have HS2 := hset
 go_upto_region 3 with fail
 go_cut [23] (fun v wx => v = .bool false ∧ wx = w2)
 case first =>
  rcases hall.out with e | e
  ·have j1 : ((x0.toNat : Int) == 34) = true := by rw [e]; rfl
   go_wp2_with fail
   go_meet
   exact ⟨rfl, rfl⟩
  ·have j1 : ((x0.toNat : Int) == 34) = false := by rw [e]; rfl
   have j2 : ((x0.toNat : Int) == 39) = true := by rw [e]; rfl
   go_wp2_with fail
   go_meet
   exact ⟨rfl, rfl⟩
 obtain ⟨rfl, hwc⟩ := hcut
 subst hwc
 clear c1 f1 hset HS2
 have c1 := hs2.out.c1
 have f1 := hs2.out.frozen 1
 have hset := hs2.out.set1 (k + 1)
 have hss := Lib.hid hset.1
 have hgg := Lib.hid ((grown_in hb2.out).trans hset.2)
 have hszs : Hid (w.heap.size ≤ (wc.setCell ⟨b, 1, none⟩ (.int .i64 ((k + 1 : Nat) : Int))).heap.size) := Lib.hid hgg.out.size
 clear hset
 go_wp2_with fail
 go_loopg [4, 5] (S.length + 1) (fun m v4 v5 wr => ∃ (q f n c4 : Nat) (A4 : Option Addr) (o : Tx), k < q ∧ q ≤ S.length ∧ S.length - q < m ∧ v4 = .slice A4 n c4 ∧ o.length ≤ 4 * (q - k) ∧ Hid (S.length - q < f) ∧ Hid ((valF f x0 (S.drop q) o).shift (q - k) = R) ∧ Hid (Xc wr b S q (some ⟨ba, off, none⟩) c vo) ∧ Hid (w.grownBy wr (some b)) ∧ Hid (OwB wr w.heap.size 5 (.slice A4 n c4) o))
 case atStart =>
  refine ⟨k + 1, S.length - k, 0, 0, none, [], by omega, by omega, by omega, rfl, by simp, Lib.hid (by omega), Lib.hid ?_, hss, hgg, Lib.hid (OwB.nil _ _ _)⟩
  rw [show k + 1 - k = 1 by omega]
  exact hgo.out
 case round =>
  clear c1 f1 hss hgg hszs
  obtain ⟨q, f, n, c4, A4, o, hkq, hql, hms, rfl, hol, hf, hr, hs, hg, ho⟩ := hrel
  by_cases hge : S.length ≤ q
  ·go_wp2_with fail
   refine (need_bad wr b S q _ c vo hs.out hge).mono ?_
   rintro e w3 ⟨rfl, hb3⟩
   go_wp2_with fail
   refine ⟨rfl, hg.out.trans (grown_in hb3), ?_⟩
   have := hr.out
   rw [drop_end hge, show valF f x0 [] o = .bad 6 0 by cases f <;> rfl] at this
   rw [← this]
   exact pan_eq (by omega)
  have hlt : q < S.length := by omega
  clear hge
  go_wp2_with fail
  refine (need_ok wr b S q _ c vo hs.out hlt).mono ?_
  rintro e w3 ⟨rfl, hb3⟩
  have hs3 := Lib.hid (hs.out.below hb3)
  have hg3 := Lib.hid (hg.out.trans (grown_in hb3))
  have ho3 := Lib.hid (OwB.below ho.out hb3)
  clear hb3 hs hg ho
  have c0 := hs3.out.c0
  have c1 := hs3.out.c1
  obtain ⟨ba', off', he, hx, hcell⟩ := hs3.out.at_ hlt
  injection he with he
  injection he with e1 e2
  subst e1
  subst e2
  generalize S[q] = x at hx hcell
  have hx' := Lib.hid hx
  clear hx
  obtain ⟨f', rfl⟩ : ∃ f', f = f' + 1 := ⟨f - 1, by have := hf.out; omega⟩
  go_wp2_with fail
  go_big_quiet (fail)
  have hs4 := Lib.hid (hs3.out.below (Joins.below_draws _ w3 nq))
  have hg4 := Lib.hid (hg3.out.trans (grown_in (Joins.below_draws _ w3 nq)))
  have ho4 := Lib.hid (OwB.below ho3.out (Joins.below_draws _ w3 nq))
  generalize w3.drewN nq = w4 at hs4 hg4 ho4 ⊢
  clear hs3 hg3 ho3 c0 c1 hcell
  have c1 := hs4.out.c1
  have f1 := hs4.out.frozen 1
  have hon : o.length = n := (OwB.bs ho4.out).len
  by_cases jq : x = x0
  ·subst jq
   have hcv : ∀ u, (convert 41 9 (.slice A4 n c4)).run Tryz.prog (w4.setCell ⟨b, 1, none⟩ u) = .ok (.string (strOf o)) (w4.setCell ⟨b, 1, none⟩ u) := fun u => Bs.conv (ow_kept ho4.out (grown_set w4 ⟨b, 1, none⟩ u) hbw).bs Tryz.underlying41 Tryz.underlying5 Tryz.underlying9
   go_wp2_with fail
   go_ret
   have h5 := hs4.out.set1 (q + 1)
   refine ⟨hg4.out.trans h5.2, ?_⟩
   have := hr.out
   rw [drop_at hx'.out, valF, if_pos rfl] at this
   rw [← this]
   refine ⟨rfl, ?_⟩
   rw [show k + (q - k + 1) = q + 1 by omega]
   exact h5.1
  have jq0 : ((x.toNat : Int) == (x0.toNat : Int)) = false := by rw [byte_eq, decide_eq_false jq]
  have jq' := Lib.hid jq
  clear jq
  by_cases j6 : x = 60
  ·have j60 : ((x.toNat : Int) == 60) = true := by rw [j6]; rfl
   have j6' := Lib.hid j6
   clear j6
   go_wp2_with fail
   refine (fail_any _ 2 (q : Nat)).mono ?_
   rintro e w5 ⟨rfl, rfl⟩
   go_wp2_with fail
   refine ⟨rfl, hg4.out, ?_⟩
   have := hr.out
   rw [drop_at hx'.out, valF, if_neg jq'.out, if_pos j6'.out] at this
   rw [← this]
   exact pan_eq (by omega)
  have j60 : ((x.toNat : Int) == 60) = false := by rw [show (60 : Int) = ((60 : UInt8).toNat : Int) from rfl, byte_eq, decide_eq_false j6]
  have j6' := Lib.hid j6
  clear j6
  by_cases j3 : x = 38
  ·have j38 : ((x.toNat : Int) == 38) = true := by rw [j3]; rfl
   have hx38 : S[q]? = some 38 := by rw [← j3]; exact hx'.out
   have hx38' := Lib.hid hx38
   have j3' := Lib.hid j3
   clear hx38 j3
   go_wp2_with fail
   refine (reference_any w4 b S q _ c vo hs4.out hx38'.out hS).mono ?_
   rintro e w5 ⟨hg5, hG⟩
   cases hrf : refR (S.drop (q + 1)) with
   | bad ec eo =>
    rw [hrf] at hG
    subst hG
    go_wp2_with fail
    refine ⟨rfl, hg4.out.trans hg5, ?_⟩
    have := hr.out
    rw [drop_at hx'.out, valF, if_neg jq'.out, if_neg j6'.out, if_pos j3'.out, hrf] at this
    rw [← this]
    exact pan_eq (by omega)
   | ok v m =>
    rw [hrf] at hG
    obtain ⟨rfl, hs5⟩ := hG
    have hvl := refR_v hrf
    have hml := refR_len hrf
    rw [List.length_drop] at hml
    have hs5' := Lib.hid hs5
    have hg45 := Lib.hid (hg4.out.trans hg5)
    have ho5 := Lib.hid (ow_kept ho4.out hg5 hbw)
    have hrf' := Lib.hid hrf
    clear hs5 hg5 hrf c1 f1 hs4 hg4 ho4
    go_wp2_with (at_builtin; apply stop_here)
    refine Stop.go (append_string w5 rfl _ _ rfl w.heap.size _ o rfl ho5.out v rfl (by omega) hg45.out.size ?_)
    intro v6 w6 ho6 hb6
    obtain ⟨A6, c6, rfl⟩ := ownsRow_form ho6
    have hs6 := h'.out.far hg45.out hs5'.out hb6
    have hss6 := Lib.hid hs6.1
    have hgg6 := Lib.hid hs6.2
    have ho6' := Lib.hid ho6
    clear ho6 hb6 hs6 hs5' hg45 ho5
    go_wp2_with fail
    go_roundg (S.length - (q + m) + 1)
    case measure => omega
    case rel =>
     refine ⟨q + m, f', (o ++ v).length, c6, A6, o ++ v, by omega, by omega, by omega, by rw [List.length_append, hon], by rw [List.length_append]; omega, Lib.hid (by have := hf.out; omega), Lib.hid ?_, hss6, hgg6, ho6'⟩
     have := hr.out
     rw [drop_at hx'.out, valF, if_neg jq'.out, if_neg j6'.out, if_pos j3'.out, hrf'.out] at this
     simp only at this
     rw [Out.shift_shift, ← drop_at hx'.out, List.drop_drop] at this
     rw [show q + m - k = q - k + m by omega]
     exact this
  have j38 : ((x.toNat : Int) == 38) = false := by
   have hj : ¬ x = 38 := j3
   rw [show (38 : Int) = ((38 : UInt8).toNat : Int) from rfl, byte_eq, decide_eq_false hj]
  have j3' := Lib.hid j3
  clear j3
  have hlin : x = 9 ∨ x = 10 ∨ x = 13 → Hid ((valF f' x0 (S.drop (q + line (S.drop q))) (o ++ [32])).shift (q + line (S.drop q) - k) = R) := fun hj => Lib.hid (by
   have := hr.out
   rw [drop_at hx'.out, valF, if_neg jq'.out, if_neg j6'.out, if_neg j3'.out, if_pos hj, Out.shift_shift, ← drop_at hx'.out, List.drop_drop] at this
   rw [show q + line (S.drop q) - k = q - k + line (S.drop q) by omega]
   exact this)
  have hline : 1 ≤ line (S.drop q) ∧ q + line (S.drop q) ≤ S.length := by
   have := line_len (c := x) (S.drop (q + 1))
   rw [← drop_at hx'.out, List.length_drop] at this
   omega
  obtain ⟨LL, hLL⟩ : ∃ LL, line (S.drop q) = LL := ⟨_, rfl⟩
  rw [hLL] at hlin hline
  have hLL' := Lib.hid hLL
  clear hLL
  by_cases j9 : x = 9
  ·have hli := hlin (.inl j9)
   have k9 : ((x.toNat : Int) == 9) = true := by rw [j9]; rfl
   clear hlin j9
   go_wp2_with fail
   refine (line_any w4 b S q _ c vo hs4.out hlt hS).mono ?_
   rintro e w5 ⟨rfl, hs5, hg5⟩
   rw [hLL'.out] at hs5
   have hs5' := Lib.hid hs5
   have hg45 := Lib.hid (hg4.out.trans hg5)
   have ho5 := Lib.hid (ow_kept ho4.out hg5 hbw)
   clear hs5 hg5 c1 f1 hs4 hg4 ho4

   go_wp2_with (at_builtin; apply stop_here)
   refine Stop.go (append_bytes _ 41 5 Tryz.underlying41 info_u8 rfl _ _ rfl w.heap.size _ o rfl (OwB.below ho5.out (below_alloc _ _)) _ _ _ [32] rfl (bs_lit _ _ _ _ _ _ rfl (by decide) rfl) (n + 1) (by rw [hon]) (by omega) (Nat.le_trans hg45.out.size (below_alloc _ _).size) ?_)
   intro A6 c6 w6 ho6 _ hb6'
   have hb6 : Below w.heap.size w5 w6 := ((below_alloc w5 _).mono hg45.out.size).trans hb6'
   have hs6 := h'.out.far hg45.out hs5'.out hb6
   have hss6 := Lib.hid hs6.1
   have hgg6 := Lib.hid hs6.2
   have ho6' := Lib.hid ho6
   clear ho6 hb6 hb6' hs6

   go_wp2_with fail
   go_roundg (S.length - (q + LL) + 1)
   case measure => omega
   case rel => exact ⟨q + LL, f', n + 1, c6, A6, o ++ [32], by omega, by omega, by omega, rfl, by rw [List.length_append]; simp; omega, Lib.hid (by have := hf.out; omega), hli, hss6, hgg6, ho6'⟩
  have k9 : ((x.toNat : Int) == 9) = false := by rw [show (9 : Int) = ((9 : UInt8).toNat : Int) from rfl, byte_eq, decide_eq_false j9]
  by_cases j10 : x = 10
  ·have hli := hlin (.inr (.inl j10))
   have k10 : ((x.toNat : Int) == 10) = true := by rw [j10]; rfl
   clear hlin j10 j9
   go_wp2_with fail
   refine (line_any w4 b S q _ c vo hs4.out hlt hS).mono ?_
   rintro e w5 ⟨rfl, hs5, hg5⟩
   rw [hLL'.out] at hs5
   have hs5' := Lib.hid hs5
   have hg45 := Lib.hid (hg4.out.trans hg5)
   have ho5 := Lib.hid (ow_kept ho4.out hg5 hbw)
   clear hs5 hg5 c1 f1 hs4 hg4 ho4

   go_wp2_with (at_builtin; apply stop_here)
   refine Stop.go (append_bytes _ 41 5 Tryz.underlying41 info_u8 rfl _ _ rfl w.heap.size _ o rfl (OwB.below ho5.out (below_alloc _ _)) _ _ _ [32] rfl (bs_lit _ _ _ _ _ _ rfl (by decide) rfl) (n + 1) (by rw [hon]) (by omega) (Nat.le_trans hg45.out.size (below_alloc _ _).size) ?_)
   intro A6 c6 w6 ho6 _ hb6'
   have hb6 : Below w.heap.size w5 w6 := ((below_alloc w5 _).mono hg45.out.size).trans hb6'
   have hs6 := h'.out.far hg45.out hs5'.out hb6
   have hss6 := Lib.hid hs6.1
   have hgg6 := Lib.hid hs6.2
   have ho6' := Lib.hid ho6
   clear ho6 hb6 hb6' hs6

   go_wp2_with fail
   go_roundg (S.length - (q + LL) + 1)
   case measure => omega
   case rel => exact ⟨q + LL, f', n + 1, c6, A6, o ++ [32], by omega, by omega, by omega, rfl, by rw [List.length_append]; simp; omega, Lib.hid (by have := hf.out; omega), hli, hss6, hgg6, ho6'⟩
  have k10 : ((x.toNat : Int) == 10) = false := by rw [show (10 : Int) = ((10 : UInt8).toNat : Int) from rfl, byte_eq, decide_eq_false j10]
  by_cases j13 : x = 13
  ·have hli := hlin (.inr (.inr j13))
   have k13 : ((x.toNat : Int) == 13) = true := by rw [j13]; rfl
   clear hlin j13 j10 j9
   go_wp2_with fail
   refine (line_any w4 b S q _ c vo hs4.out hlt hS).mono ?_
   rintro e w5 ⟨rfl, hs5, hg5⟩
   rw [hLL'.out] at hs5
   have hs5' := Lib.hid hs5
   have hg45 := Lib.hid (hg4.out.trans hg5)
   have ho5 := Lib.hid (ow_kept ho4.out hg5 hbw)
   clear hs5 hg5 c1 f1 hs4 hg4 ho4

   go_wp2_with (at_builtin; apply stop_here)
   refine Stop.go (append_bytes _ 41 5 Tryz.underlying41 info_u8 rfl _ _ rfl w.heap.size _ o rfl (OwB.below ho5.out (below_alloc _ _)) _ _ _ [32] rfl (bs_lit _ _ _ _ _ _ rfl (by decide) rfl) (n + 1) (by rw [hon]) (by omega) (Nat.le_trans hg45.out.size (below_alloc _ _).size) ?_)
   intro A6 c6 w6 ho6 _ hb6'
   have hb6 : Below w.heap.size w5 w6 := ((below_alloc w5 _).mono hg45.out.size).trans hb6'
   have hs6 := h'.out.far hg45.out hs5'.out hb6
   have hss6 := Lib.hid hs6.1
   have hgg6 := Lib.hid hs6.2
   have ho6' := Lib.hid ho6
   clear ho6 hb6 hb6' hs6

   go_wp2_with fail
   go_roundg (S.length - (q + LL) + 1)
   case measure => omega
   case rel => exact ⟨q + LL, f', n + 1, c6, A6, o ++ [32], by omega, by omega, by omega, rfl, by rw [List.length_append]; simp; omega, Lib.hid (by have := hf.out; omega), hli, hss6, hgg6, ho6'⟩
  have k13 : ((x.toNat : Int) == 13) = false := by rw [show (13 : Int) = ((13 : UInt8).toNat : Int) from rfl, byte_eq, decide_eq_false j13]
  have hrr : Hid ((valF f' x0 (S.drop (q + 1)) (o ++ [x])).shift (q + 1 - k) = R) := Lib.hid (by
   have := hr.out
   rw [drop_at hx'.out, valF, if_neg jq'.out, if_neg j6'.out, if_neg j3'.out, if_neg (by rintro (h | h | h); exact j9 h; exact j10 h; exact j13 h), Out.shift_shift] at this
   rw [show q + 1 - k = q - k + 1 by omega]
   exact this)
  clear hlin j9 j10 j13
  go_wp2_with (at_builtin; apply stop_here)
  refine Stop.go (append_bytes _ 41 5 Tryz.underlying41 info_u8 rfl _ _ rfl w.heap.size _ o rfl (OwB.below ho4.out (below_alloc _ _)) _ _ _ [x] rfl (bs_lit _ _ _ _ _ _ rfl (by decide) rfl) (n + 1) (by rw [hon]) (by omega) (Nat.le_trans hg4.out.size (below_alloc _ _).size) ?_)
  intro A6 c6 w6 ho6 _ hb6'
  have hb6 : Below w.heap.size w4 w6 := ((below_alloc w4 _).mono hg4.out.size).trans hb6'
  have hs6 := h'.out.far hg4.out hs4.out hb6
  have hss6 := Lib.hid hs6.1
  have hgg6 := Lib.hid hs6.2
  have ho6' := Lib.hid ho6
  clear ho6 hb6 hb6' hs6

  have d1 := hss6.out.c1
  have e1 := hss6.out.frozen 1
  go_wp2_with fail
  have h7 := hss6.out.set1 (q + 1)
  have hg7 := hgg6.out.trans h7.2
  have ho7 := ow_kept ho6'.out (grown_set w6 ⟨b, 1, none⟩ (.int .i64 ((q + 1 : Nat) : Int))) hbw
  go_roundg (S.length - (q + 1) + 1)
  case measure => omega
  case rel => exact ⟨q + 1, f', n + 1, c6, A6, o ++ [x], by omega, by omega, by omega, rfl, by rw [List.length_append]; simp; omega, Lib.hid (by have := hf.out; omega), hrr, Lib.hid h7.1, Lib.hid hg7, Lib.hid ho7⟩
end
end Go.Proofs.YtokdnhdfmgfkeaaGreatDoor.Xl
end

section
namespace Go.Proofs.YtokdnhdfmgfkeaaGreatDoor.Xp
open Go.RowKit UtfW Xl

structure Pr (b : Nat) (v : Value) (l : Tx) (w : World) : Prop where
 blk : ∃ p, w.heap[b]? = some (.cells #[p, v] 71) ∧ (p = .pointer none ∨ p = .pointer (some ⟨b, 0, none⟩))
 own : OwB w b 5 v l
 ne : v.ownBlock ≠ some b
 nil : l = [] → v = .slice none 0 0
structure Wk (b : Nat) (v : Value) (w : World) (v' : Value) (w' : World) : Prop where
 bel : Below b w w'
 keep : ∀ k, k < w.heap.size → k ≠ b → v.ownBlock ≠ some k → w'.heap[k]? = w.heap[k]?
 row : v'.ownBlock = v.ownBlock ∨ ∀ k, v'.ownBlock = some k → w.heap.size ≤ k
section
variable {b : Nat} {v v' v'' : Value} {l : Tx} {w w' w'' : World}
theorem Pr.lt (h : Pr b v l w) : b < w.heap.size := by
 obtain ⟨p, h1, _⟩ := h.blk
 exact (Array.getElem?_eq_some_iff.1 h1).1
theorem Pr.below (h : Pr b v l w) (hb : Below w.heap.size w w') : Pr b v l w' := by
 obtain ⟨p, h1, h2⟩ := h.blk
 exact ⟨⟨p, (hb.block b h.lt).trans h1, h2⟩, h.own.below hb, h.ne, h.nil⟩
theorem Wk.refl (b : Nat) (v : Value) (w : World) : Wk b v w v w := ⟨Below.refl _ _, fun _ _ _ _ => rfl, .inl rfl⟩
theorem Wk.below (hb : Below w.heap.size w w') (hB : b ≤ w.heap.size) : Wk b v w v w' := ⟨hb.mono hB, fun k hk _ _ => hb.block k hk, .inl rfl⟩
theorem Wk.trans (h : Wk b v w v' w') (h' : Wk b v' w' v'' w'') : Wk b v w v'' w'' := by
 refine ⟨h.bel.trans h'.bel, fun k hk h1 h2 => ?_, ?_⟩
 ·rw [h'.keep k (Nat.lt_of_lt_of_le hk h.bel.size) h1 (fun e => ?_), h.keep k hk h1 h2]
  rcases h.row with e2 | e2
  ·exact h2 (e2 ▸ e)
  ·have := e2 k e
   omega
 ·rcases h'.row with e | e
  ·rcases h.row with e2 | e2
   ·exact .inl (e.trans e2)
   ·exact .inr fun k hk => e2 k (e ▸ hk)
  ·exact .inr fun k hk => Nat.le_trans h.bel.size (e k hk)
theorem Wk.box (h : Wk b v w v' w') {T : Nat} {x : Obj} (hT : w.heap[T]? = some x) (h1 : T ≠ b) (h2 : v.ownBlock ≠ some T) : w'.heap[T]? = some x :=
 (h.keep T (Array.getElem?_eq_some_iff.1 hT).1 h1 h2).trans hT
theorem Pr.row_lt (h : Pr b v l w) : ∀ k, v.ownBlock = some k → b ≤ k ∧ k < w.heap.size := h.own.lt
theorem Pr.ne_new (h : Pr b v l w) {T : Nat} (hT : w.heap.size ≤ T) : v.ownBlock ≠ some T ∧ T ≠ b := ⟨fun e => by have := (h.row_lt T e).2; omega, by have := h.lt; omega⟩
end
theorem pr_new (w : World) : Pr w.heap.size (.slice none 0 0) [] (w.alloc (.cells #[.pointer none, .slice none 0 0] 71)) :=
 ⟨⟨_, heap_alloc_new w _, .inl rfl⟩, OwB.nil _ _ _, by simp [Value.ownBlock], fun _ => rfl⟩

/-! ### The builder's methods at a printer -/
theorem sizeB : (Tryz.prog.info? 69).map (·.size) = some 2 := by kernel_rfl
theorem liesB : liesAt Tryz.prog Tryz.prog.depth 71 (2 / Tryz.prog.cellsOf 71) 0 69 1 = true := by kernel_rfl
set_option maxHeartbeats 1000000 in
set_option maxRecDepth 100000 in
theorem copy_used (b : Nat) (w : World) (h0 : w.cell? ⟨b, 0, none⟩ = some (.pointer (some ⟨b, 0, none⟩))) :
  Calls Tryz.prog 113 #[.pointer (some ⟨b, 0, none⟩)] w fun e w' => e = .returned (.tuple #[]) ∧ w' = w := by
 obtain ⟨j, hj, _⟩ := Option.map_eq_some_iff.1 sizeB
 go_enter Tryz.func113, Tryz.ntmps113
 go_wp2_with fail
 rw [Lib.run_neq_ptr_same w _ Tryz.underlying67 hj]
 go_wp2_with fail
 go_end0
 exact ⟨rfl, rfl⟩
set_option maxHeartbeats 1000000 in
set_option maxRecDepth 100000 in
theorem copy_fresh (b : Nat) (w : World) (h0 : w.cell? ⟨b, 0, none⟩ = some (.pointer none)) (hsh : w.shape? b = some (71, 2)) (hfz : w.frozen? ⟨b, 0, none⟩ = false) :
  Calls Tryz.prog 113 #[.pointer (some ⟨b, 0, none⟩)] w fun e w' => e = .returned (.tuple #[]) ∧ w' = w.setCell ⟨b, 0, none⟩ (.pointer (some ⟨b, 0, none⟩)) := by
 obtain ⟨j, hj, hjs⟩ := Option.map_eq_some_iff.1 sizeB
 have hj' := Lib.hid hj
 have hsh' := Lib.hid hsh
 clear hsh
 go_enter Tryz.func113, Tryz.ntmps113
 go_wp2_with fail
 rw [Lib.run_to_unsafe w ⟨b, 0, none⟩ Tryz.underlying67 Tryz.underlying119 hj'.out (by rw [hjs]; decide) hsh'.out (Nat.zero_lt_succ 1)]
 simp only [Result.andThen]
 rw [Oper.upon_value]
 go_wp2_with fail
 rw [run_callFunc_extern Tryz.func151 (by kernel_rfl) (by kernel_rfl) (by kernel_rfl) (e := Extern.AbiNoEscape.same) (by kernel_rfl)]
 rw [Lib.run_noEscape]
 simp only [Result.andThen]
 rw [Oper.upon_value]
 go_wp2_with fail
 rw [Lib.run_from_unsafe w ⟨b, 0, none⟩ Tryz.underlying119 Tryz.underlying67 hj'.out hsh'.out liesB]
 simp only [Result.andThen]
 rw [Oper.upon_value]
 go_wp2_with fail
 go_end0
 exact ⟨rfl, rfl⟩
end Go.Proofs.YtokdnhdfmgfkeaaGreatDoor.Xp
end

section
namespace Go.Proofs.YtokdnhdfmgfkeaaGreatDoor.Xp
open Go.RowKit UtfW Xl

theorem cell_blk {w : World} {b i : Nat} {cs : Array Value} {E : TypeId} {v : Value} (h : w.heap[b]? = some (.cells cs E)) (hi : cs[i]? = some v) : w.cell? ⟨b, i, none⟩ = some v := by
 simp only [World.cell?, h]
 simpa using hi
theorem run_append_str (w : World) (B : Nat) (v : Value) (la lb : Tx) (hown : OwB w B 5 v la) (hsz : la.length + lb.length ≤ 140737488355328) (hB : B ≤ w.heap.size) (ty : TypeId) :
  ∃ v' w', (Builtin.append_ #[41, 9] ty #[v, .string (strOf lb)]).run Tryz.prog w = .ok v' w' ∧ OwB w' B 5 v' (la ++ lb) ∧ w.grownBy w' v.ownBlock ∧ (v'.ownBlock = v.ownBlock ∨ v'.ownBlock = some w.heap.size) ∧ (v = .slice none 0 0 → lb = [] → v' = .slice none 0 0) := by
 have hsl : (strOf lb).size = lb.length := strOf_size' lb
 obtain ⟨i, hi, hz, hs1, hb1⟩ := info_parts info_u8
 obtain ⟨v', w', hr, h1, h2, h3⟩ := Lib.run_append_own_string (P := Tryz.prog) w B 41 9 ty 5 i Tryz.underlying41 Tryz.underlying9 hi hz hs1 hb1 v la.length (bv la) hown (strOf lb) (by unfold maxLen; omega) (by omega) hB
 refine ⟨v', w', hr, ?_, h2, ?_, fun e1 e2 => h3.2 ⟨e1, by rw [hsl, e2]; rfl⟩⟩
 ·unfold OwB
  rw [bv_append, List.length_append, ← hsl]
  have e : Lib.strCells (strOf lb) = bv lb := by
   unfold Lib.strCells bv strOf
   rfl
  rw [← e]
  exact h1
 ·rcases hown.2 with ⟨rfl, hn⟩ | ⟨g, cap, cur, rfl, hbg, hg, hnc, hcm, hcs, htake⟩
  ·obtain ⟨v2, w2, hr2, h4, _, _⟩ := Lib.run_append_own_string (P := Tryz.prog) w w.heap.size 41 9 ty 5 i Tryz.underlying41 Tryz.underlying9 hi hz hs1 hb1 (.slice none 0 0) 0 [] (World.ownsRow_nil w w.heap.size _ 1) (strOf lb) (by unfold maxLen; omega) (by omega) (Nat.le_refl _)
   rw [hr] at hr2
   injection hr2 with e1 e2
   subst e1 e2
   rcases h4.2 with ⟨rfl, _⟩ | ⟨g, cap, cur, rfl, hbg, hg, _⟩
   ·exact .inl rfl
   ·refine .inr ?_
    have hlt : g < w'.heap.size := (Array.getElem?_eq_some_iff.1 hg).1
    by_cases hm : (strOf lb).size = 0
    ·have := h3.2 ⟨rfl, hm⟩
     cases this
    ·have hrn := run_append_nil_string (P := Tryz.prog) w 41 9 ty 5 i (.int .u8 0) Tryz.underlying41 Tryz.underlying9 hi hz (strOf lb) (by omega) (by omega) (by rw [hb1]; omega)
     rw [hr] at hrn
     have e1 := congrArg (fun r : Result Value => match r with | .ok v _ => v.ownBlock | _ => none) hrn
     exact e1
  ·by_cases hroom : la.length + (strOf lb).size ≤ cap
   ·have hr2 := Lib.run_append_room_string (P := Tryz.prog) w 41 9 ty 5 i Tryz.underlying41 Tryz.underlying9 hi hs1 g la.length cap cur hg (strOf lb) hroom (by have : cur.size = cap * 1 := hcs; omega)
    rw [hr] at hr2
    injection hr2 with e1 e2
    rw [e1]
    exact .inl rfl
   ·have hr2 := Lib.run_append_grow_string (P := Tryz.prog) w 41 9 ty 5 i (.int .u8 0) Tryz.underlying41 Tryz.underlying9 hi hz ⟨g, 0, none⟩ la.length cap (bv la) (by rw [hs1]; exact hown.1) (World.ownsRow.cells (g := g) hown rfl) (strOf lb) (by omega) (by omega) (by rw [hb1]; exact growslice_fits (by omega) (by omega))
    rw [hr] at hr2
    injection hr2 with e1 e2
    rw [e1]
    exact .inr rfl
theorem append_str {ops : Array Oper} {rest : List Oper} {o : Oper} {a : Act} {Q : Exit → Act → World → Prop} (w : World) (hgd : o.guard = none) (s x : Operand)
  (ho : o.op = .call { callee := .builtin .append, args := #[s, x], argTypes := #[41, 9] })
  (B : Nat) (v : Value) (la : Tx) (hs : a.eval s = v) (hown : OwB w B 5 v la) (lb : Tx) (hx : a.eval x = .string (strOf lb))
  (hsz : la.length + lb.length ≤ 140737488355328) (hB : B ≤ w.heap.size)
  (h : ∀ v' w', OwB w' B 5 v' (la ++ lb) → w.grownBy w' v.ownBlock → (v'.ownBlock = v.ownBlock ∨ v'.ownBlock = some w.heap.size) → (v = .slice none 0 0 → lb = [] → v' = .slice none 0 0) → wpList Tryz.prog ops Q rest (a.put o.dst v') w') :
  wpList Tryz.prog ops Q (o :: rest) a w := by
 refine wpList_plain hgd fun K hK => ?_
 obtain ⟨v', w', hr, h1, h2, h3, h4⟩ := run_append_str w B v la lb hown hsz hB o.type
 unfold Oper.wp execOp
 simp only [ho, resolve, invoke, builtin, Sem.run_bind, Sem.run_pure, Result.andThen_ok, List.map_toArray, List.map_cons, List.map_nil, hs, hx, hr]
 exact hK _ _ (h v' w' h1 h2 h3 h4)
set_option maxHeartbeats 1000000 in
set_option maxRecDepth 100000 in
theorem write_any (b : Nat) (v : Value) (l s : Tx) (w : World) (h : Pr b v l w) (hlen : l.length + s.length ≤ 100000000000000) :
  Calls Tryz.prog 79 #[.pointer (some ⟨b, 0, none⟩), .string (strOf s)] w fun e w' => (∃ r, e = .returned r) ∧ ∃ v', Pr b v' (l ++ s) w' ∧ Wk b v w v' w' := by
 have hlt := h.lt
 have hcc : Calls Tryz.prog 113 #[.pointer (some ⟨b, 0, none⟩)] w fun e w' => e = .returned (.tuple #[]) ∧ (w'.heap[b]? = some (.cells #[.pointer (some ⟨b, 0, none⟩), v] 71) ∧ OwB w' b 5 v l ∧ Wk b v w v w') := by
  obtain ⟨p, h1, h2⟩ := h.blk
  rcases h2 with rfl | rfl
  ·refine (copy_fresh b w (cell_blk h1 (i := 0) rfl) (by simp [World.shape?, h1]) (frozen_of_row w b 0 _ _ h1)).mono ?_
   rintro e w' ⟨rfl, rfl⟩
   have hg := grown_set w ⟨b, 0, none⟩ (.pointer (some ⟨b, 0, none⟩))
   have hw : Wk b v w v (w.setCell ⟨b, 0, none⟩ (.pointer (some ⟨b, 0, none⟩))) := ⟨(Below.refl b w).grown hg (Nat.le_of_lt hlt) (fun k hk => by injection hk with hk; rw [← hk]; exact Nat.le_refl _), fun k hk h3 _ => hg.block k hk (fun e => by injection e with e; exact h3 e), .inl rfl⟩
   refine ⟨rfl, blk_setCell h1 _, ?_, hw⟩
   exact World.ownsRow.kept h.own hg (.inr h.ne)
  ·refine (copy_used b w (cell_blk h1 (i := 0) rfl)).mono ?_
   rintro e w' ⟨rfl, rfl⟩
   exact ⟨rfl, h1, h.own, Wk.refl _ _ _⟩
 have hne := h.ne
 have hnilH := Lib.hid h.nil
 have hcH := Lib.hid hcc
 have hneH := Lib.hid hne
 clear hcc h hne hlt
 go_enter Tryz.func79, Tryz.ntmps79
 go_wp2_with fail
 refine hcH.out.mono ?_
 rintro e w1 ⟨rfl, hbk, hown, hwk⟩
 have c1 : w1.cell? ⟨b, 1, none⟩ = some v := cell_blk hbk rfl
 have hlt := (Array.getElem?_eq_some_iff.1 hbk).1
 have hbkH := Lib.hid hbk
 have hwkH := Lib.hid hwk
 have hown := Lib.hid hown
 clear hbk hwk hcH
 go_wp2_with (at_builtin; apply stop_here)
 refine Stop.go (append_str w1 rfl _ _ rfl b v l rfl hown.out s rfl (by omega) (by omega) ?_)
 intro v' w2 ho hg hv hnl
 obtain ⟨ao, n', cap, rfl⟩ : ∃ ao n' cap, v' = .slice ao n' cap := by
  rcases ho.2 with ⟨h1, _⟩ | ⟨g, cap, cur, h1, _⟩
  ·exact ⟨_, _, _, h1⟩
  ·exact ⟨_, _, _, h1⟩
 have hb2 : w2.heap[b]? = some (.cells #[.pointer (some ⟨b, 0, none⟩), v] 71) := (hg.block b hlt (fun e => hneH.out e.symm)).trans hbkH.out
 have d1 : w2.cell? ⟨b, 1, none⟩ = some v := cell_blk hb2 rfl
 have f1 := frozen_of_row w2 b 1 _ _ hb2
 have hs2 := hg.size
 have hg3 := grown_set w2 ⟨b, 1, none⟩ (.slice ao n' cap)
 have ho' : OwB w2 b 5 (.slice ao n' cap) (l ++ s) := ho
 have hne' : (Value.slice ao n' cap).ownBlock ≠ some b := fun e => by
  rcases hv with hv | hv
  ·exact hneH.out (hv ▸ e)
  ·rw [hv] at e
   injection e with e
   omega
 have hfin : Hid (Pr b (.slice ao n' cap) (l ++ s) (w2.setCell ⟨b, 1, none⟩ (.slice ao n' cap)) ∧ Wk b v w (.slice ao n' cap) (w2.setCell ⟨b, 1, none⟩ (.slice ao n' cap))) := Lib.hid (by
  refine ⟨⟨⟨_, blk_setCell hb2 _, .inr rfl⟩, World.ownsRow.kept ho' hg3 (.inr hne'), hne', fun e => hnl (hnilH.out (List.append_eq_nil_iff.1 e).1) (List.append_eq_nil_iff.1 e).2⟩, hwkH.out.trans ?_⟩
  refine ⟨((Below.refl b w1).grown hg (Nat.le_of_lt hlt) (fun k hk => (hown.out.lt k hk).1)).grown hg3 (by omega) (fun k hk => by injection hk with hk; rw [← hk]; exact Nat.le_refl _), fun k hk h1 h2 => ?_, ?_⟩
  ·rw [hg3.block k (by omega) (fun e => by injection e with e; exact h1 e), hg.block k hk (fun e => h2 e.symm)]
  ·rcases hv with hv | hv
   ·exact .inl hv
   ·exact .inr fun k hk => by rw [hv] at hk; injection hk with hk; omega)
 clear ho hg hv hnl hnilH hb2 hs2 hg3 ho' hne' hown hwkH hbkH
 go_wp2_with fail
 go_ret2
 exact ⟨⟨_, rfl⟩, _, hfin.out⟩
end Go.Proofs.YtokdnhdfmgfkeaaGreatDoor.Xp
end

section
namespace Go.Proofs.YtokdnhdfmgfkeaaGreatDoor.Xp
open Go.RowKit UtfW Xl Xo Xt
open Go.Maps (Keyed)

def smA (as_ : List At) : Prop := as_.length ≤ 1000000 ∧ ∀ a ∈ as_, a.1.length ≤ 1000000 ∧ a.2.length ≤ 1000000
def Seen (w : World) (M n : Nat) (l : List Tx) : Prop := ∃ D : DataW Unit, w.ownsMap Tryz.prog 9 (plainElem Tryz.prog 3) M n D ∧ Maps.IsMap D ∧ ∀ s : Tx, D.atKey (.string s) (.lit (.int .i64 0)) = .lit (.int .i64 (if s ∈ l then 1 else 0))
theorem Seen.kept {w w' : World} {M n : Nat} {l : List Tx} (h : Seen w M n l) (hb : w'.heap[M]? = w.heap[M]?) : Seen w' M n l := by
 obtain ⟨D, ⟨es, ck, h1, h2, h3, h4⟩, h5, h6⟩ := h
 exact ⟨D, ⟨es, ck, hb.trans h1, h2, h3, h4⟩, h5, h6⟩
theorem Seen.lt {w : World} {M n : Nat} {l : List Tx} (h : Seen w M n l) : M < w.heap.size := by
 obtain ⟨D, h1, _⟩ := h
 exact h1.lt
theorem key_str (s : Tx) (hs : s.length ≤ 1000000) : keyOf Tryz.prog 9 (.string (strOf s)) = some (.string s) := by
 have := WideMaps.keyOf_string_mk (P := Tryz.prog) (k := 9) Tryz.underlying9 (s := strOf s) (by rw [strOf_size']; unfold maxLen; omega)
 rw [this]
 simp [strOf]
theorem keyedS : Keyed Tryz.prog 9 := Maps.string_keyed Tryz.underlying9
theorem zeroInt (w : World) : (zeroValue 3).run Tryz.prog w = .ok (.int .i64 0) w := by kernel_rfl
set_option maxRecDepth 100000 in
theorem Seen.look {w : World} {M n : Nat} {l : List Tx} (h : Seen w M n l) (s : Tx) (hs : s.length ≤ 1000000) : (Instr.lookup 102 (.map (some M)) (.string (strOf s)) false).run Tryz.prog w = .ok (.int .i64 (if s ∈ l then 1 else 0)) w := by
 obtain ⟨D, h1, h2, h3⟩ := h
 obtain ⟨c, hrun, hat, hwc⟩ := h1.lookup_int keyedS Tryz.underlying102 Tryz.underlying3 (zeroInt w) (key_str s hs)
 rw [h3] at hat
 injection hat with hat
 injection hat with _ hat
 rw [hrun, hat]
set_option maxRecDepth 100000 in
theorem Seen.put {w : World} {M n : Nat} {l : List Tx} (h : Seen w M n l) (s : Tx) (hs : s.length ≤ 1000000) (hn : n ≤ 1000000) (v : Int) (hv : (Lit.int .i64 v).wf = true) :
  ∃ w', (Instr.mapUpdate 102 (.map (some M)) (.string (strOf s)) (.int .i64 v)).run Tryz.prog w = .ok () w' ∧ w.grownBy w' (some M) ∧ (∀ x : Tx, x.length ≤ 1000000 → (Instr.lookup 102 (.map (some M)) (.string (strOf x)) false).run Tryz.prog w' = .ok (.int .i64 (if x = s then v else if x ∈ l then 1 else 0)) w') ∧
   (v = 1 → Seen w' M (n + 1) (l ++ [s])) := by
 obtain ⟨D, h1, h2, h3⟩ := h
 obtain ⟨w', hrun, ho, hg⟩ := h1.update (val := .int .i64 v) keyedS Tryz.underlying102 (by unfold maxLen; omega) (key_str s hs) (plainElem_int Tryz.underlying3 hv)
 have hat : ∀ x : Tx, (D.put (.string s) (.lit (.int .i64 v))).atKey (.string x) (.lit (.int .i64 0)) = .lit (.int .i64 (if x = s then v else if x ∈ l then 1 else 0)) := fun x => by
  by_cases hx : x = s
  ·subst hx
   rw [if_pos rfl, Maps.atKey_put_same h2 (by simp [WideAt.IsKeyLit])]
  ·rw [if_neg hx, Maps.atKey_put_other (by intro e; injection e with e; exact hx e), h3]
 refine ⟨w', hrun, hg, fun x hx => ?_, fun e => ⟨_, ho, h2.put _ _, fun x => ?_⟩⟩
 ·obtain ⟨c, hrun2, hat2, _⟩ := ho.lookup_int keyedS Tryz.underlying102 Tryz.underlying3 (zeroInt w') (key_str x hx)
  rw [hat] at hat2
  injection hat2 with hat2
  injection hat2 with _ hat2
  rw [hrun2, hat2]
 ·rw [hat, e]
  congr 2
  by_cases hx : x = s
  ·subst hx
   simp
  ·rw [if_neg hx]
   simp [hx]
theorem seen_new (w : World) : Seen (w.alloc (.map #[] 0)) w.heap.size 0 [] :=
 ⟨.map [], World.ownsMap_made w _ _ _, Maps.isMap_empty, fun s => rfl⟩
theorem attrsOk_at {seen : List Tx} {l : List At} {i : Nat} {a : At} (h : l[i]? = some a) : attrsOk seen (l.drop i) = (nameR a.1 && good a.2 && decide (a.1 ∉ seen) && attrsOk (seen ++ [a.1]) (l.drop (i + 1))) := by
 obtain ⟨hl, e⟩ := List.getElem?_eq_some_iff.1 h
 rw [List.drop_eq_getElem_cons hl, e, attrsOk]
set_option maxHeartbeats 4000000 in
set_option maxRecDepth 100000 in
theorem attrs_any (w : World) (hU : Un w) (A : Option Addr) (n c : Nat) (as_ : List At) (hS : Sq AtEl 2 w A n c as_) (hsm : smA as_) :
  Calls Tryz.prog 43 #[.slice A n c] w fun e w' => e = .returned (.bool (attrsOk [] as_)) ∧ Below w.heap.size w w' := by
 have hln := hS.len
 have hn9 : n ≤ 1000000 := by rw [← hln]; exact hsm.1
 have hmm := @run_makeMap Tryz.prog
 obtain ⟨M, hM⟩ : ∃ M, w.heap.size = M := ⟨_, rfl⟩
 obtain ⟨w1, hw1⟩ : ∃ w1, w.alloc (.map #[] 0) = w1 := ⟨_, rfl⟩
 have hs0 := seen_new w
 have hba := below_alloc w (.map #[] 0)
 rw [hw1] at hs0 hba
 rw [hM] at hs0
 have hM' := Lib.hid hM
 have hs0' := Lib.hid hs0
 have hba' := Lib.hid hba
 have hU' := Lib.hid hU
 have hS' := Lib.hid hS
 have hsm' := Lib.hid hsm
 have hln' := Lib.hid hln
 obtain ⟨R, hR⟩ : ∃ R, attrsOk [] as_ = R := ⟨_, rfl⟩
 rw [hR]
 have hR' := Lib.hid hR
 clear hs0 hba hU hS hsm hln hR
 go_enter Tryz.func43, Tryz.ntmps43
 go_wp2_with fail
 clear hM hw1 hmm
 go_loopw [9] (fun vi wr => ∃ i : Nat, i ≤ n ∧ vi = .int .i64 (i : Nat) ∧ Hid (Seen wr M i ((as_.take i).map (·.1)) ∧ attrsOk ((as_.take i).map (·.1)) (as_.drop i) = R) ∧ Hid (Below w.heap.size w wr)) (fun vi _ => n - (intOf vi).toNat)
 case atStart => exact ⟨0, Nat.zero_le _, rfl, Lib.hid ⟨hs0'.out, hR'.out⟩, hba'⟩
 case round =>
  obtain ⟨i, hi, rfl, hst, hb⟩ := hrel
  by_cases hlt : i < n
  ·have i1 : decide ((i : Int) < (n : Int)) = true := by simp; omega
   have q1 : (i : Int) < (n : Int) := by omega
   have hi9 : i ≤ 1000000 := by omega
   obtain ⟨hseen, hok⟩ := hst.out
   obtain ⟨b1, off1, ax, vs1, rfl, _, hx1, _, hv1, hc1⟩ := (hS'.out.below AtEl.to hb.out).at_ hlt
   unfold AtEl at hv1
   subst hv1
   obtain ⟨z1, z2⟩ := hsm'.out.2 ax (List.mem_of_getElem? hx1)
   rw [attrsOk_at hx1] at hok
   have htk : (as_.take (i + 1)).map (·.1) = (as_.take i).map (·.1) ++ [ax.1] := by rw [take_snoc hx1, List.map_append]; rfl
   obtain ⟨a1, a2⟩ := ax
   simp only at hok htk z1 z2
   obtain ⟨L, hL⟩ : ∃ L, (as_.take i).map (·.1) = L := ⟨_, rfl⟩
   rw [hL] at hok htk hseen
   have m0 := hc1 0 _ rfl
   have m1 := hc1 1 _ rfl
   rw [Nat.add_zero] at m0
   have hbt := below_alloc wr (.cells #[.string (strOf a1), .string (strOf a2)] 55)
   have hnt := heap_alloc_new wr (.cells #[.string (strOf a1), .string (strOf a2)] 55)
   have hMl := hseen.lt
   obtain ⟨T5, hT5⟩ : ∃ T5, wr.heap.size = T5 := ⟨_, rfl⟩
   obtain ⟨wa, hwa⟩ : ∃ wa, wr.alloc (.cells #[.string (strOf a1), .string (strOf a2)] 55) = wa := ⟨_, rfl⟩
   rw [hwa] at hbt hnt
   rw [hT5] at hnt hMl
   have hsa : Seen wa M i L := hseen.kept (hbt.block M (by rw [hT5]; exact hMl))
   have y0 : wa.cell? ⟨T5, 0, none⟩ = some (.string (strOf a1)) := Xp.cell_blk hnt rfl
   have hlk := hsa.look a1 z1
   have hba5 := hb.out.trans (hbt.mono hb.out.size)
   by_cases hin : a1 ∈ L
   ·obtain ⟨w5, hup, hg, hl2, _⟩ := hsa.put a1 z1 hi9 2 (by decide)
    have hl3 := hl2 a1 z1
    rw [if_pos rfl] at hl3
    rw [if_pos hin] at hlk
    have hT : w5.heap[T5]? = some (.cells #[.string (strOf a1), .string (strOf a2)] 55) := (hg.block T5 (Array.getElem?_eq_some_iff.1 hnt).1 (fun e => by injection e with e; omega)).trans hnt
    have u0 : w5.cell? ⟨T5, 0, none⟩ = some (.string (strOf a1)) := Xp.cell_blk hT rfl
    have hRf : Hid (R = false) := Lib.hid (by rw [← hok]; simp [hin])
    have hfin : Hid (Below w.heap.size w w5) := Lib.hid (hba5.grown hg hba5.size (fun k hk => by injection hk with hk; rw [← hk, hM'.out]; exact Nat.le_refl _))
    clear hst hseen hok hc1 hx1 htk hbt hnt hsa hl2 hT hg hba5 hin z1 z2 hL
    go_wp2_with fail
    (try simp only [Exit.inBlock, Exit.then])
    go_ret
    exact ⟨by rw [hRf.out]; rfl, hfin.out⟩
   ·obtain ⟨w5, hup, hg, hl2, hs2⟩ := hsa.put a1 z1 hi9 1 (by decide)
    have hl3 := hl2 a1 z1
    rw [if_pos rfl] at hl3
    rw [if_neg hin] at hlk
    have hT : w5.heap[T5]? = some (.cells #[.string (strOf a1), .string (strOf a2)] 55) := (hg.block T5 (Array.getElem?_eq_some_iff.1 hnt).1 (fun e => by injection e with e; omega)).trans hnt
    have u0 : w5.cell? ⟨T5, 0, none⟩ = some (.string (strOf a1)) := Xp.cell_blk hT rfl
    have hb5 : Below w.heap.size w w5 := hba5.grown hg hba5.size (fun k hk => by injection hk with hk; rw [← hk, hM'.out]; exact Nat.le_refl _)
    have hs5 : Hid (Seen w5 M (i + 1) ((as_.take (i + 1)).map (·.1))) := Lib.hid (by rw [htk]; exact hs2 rfl)
    have hnc := Lib.hid (utfName_any (strOf a1) (by rw [strOf_size']; omega) w5 (hU'.out.below hb5).ut)
    have e1 : (strOf a1).data.toList = a1 := by simp [strOf]
    rw [e1, name_eq] at hnc
    have hgc := Lib.hid (fun (x : World) (hx : Below w5.heap.size w5 x) => good_any x (hU'.out.below (hb5.trans (hx.mono hb5.size))).ut a2 (by omega))
    rw [show decide (a1 ∉ L) = true by simpa using hin, Bool.and_true] at hok
    rw [← htk] at hok
    replace hok := Lib.hid hok
    replace hb5 := Lib.hid hb5
    have hTH := Lib.hid hT
    obtain ⟨NM, hNM⟩ : ∃ b, nameR a1 = b := ⟨_, rfl⟩
    obtain ⟨GD, hGD⟩ : ∃ b, good a2 = b := ⟨_, rfl⟩
    rw [hNM] at hok hnc
    rw [hGD] at hok hgc
    clear hst hseen hc1 hx1 htk hbt hnt hsa hl2 hs2 hT hg hba5 hin z1 z2 hL hNM hGD e1
    go_wp2_with fail
    refine hnc.out.mono ?_
    rintro e w6 ⟨rfl, hb6⟩
    have hx6 := Lib.hid (hb5.out.trans (hb6.mono hb5.out.size))
    have hT6 := (hb6.block T5 (Array.getElem?_eq_some_iff.1 hTH.out).1).trans hTH.out
    have v1 : w6.cell? ⟨T5, 1, none⟩ = some (.string (strOf a2)) := Xp.cell_blk hT6 rfl
    have hg6 := Lib.hid (hgc.out w6 hb6)
    have hd6 := Lib.hid hb6
    clear hb6 hT6 hnc hgc y0 u0 hlk hl3 hup
    cases NM with
    | false =>
     have hRf : Hid (R = false) := Lib.hid (by rw [← hok.out]; simp)
     clear hok
     go_wp2_with fail
     (try simp only [Exit.inBlock, Exit.then])
     go_ret
     exact ⟨by rw [hRf.out]; rfl, hx6.out⟩
    | true =>
     go_wp2_with fail
     refine hg6.out.mono ?_
     rintro e w7 ⟨rfl, hb7⟩
     have hx7 := Lib.hid (hx6.out.trans (hb7.mono hx6.out.size))
     have hs7 := Lib.hid (hs5.out.kept ((hd6.out.trans (hb7.mono hd6.out.size)).block M hs5.out.lt))
     clear hb7 hg6 v1
     cases GD with
     | false =>
      have hRf : Hid (R = false) := Lib.hid (by rw [← hok.out]; simp)
      clear hok
      go_wp2_with fail
      (try simp only [Exit.inBlock, Exit.then])
      go_ret
      exact ⟨by rw [hRf.out]; rfl, hx7.out⟩
     | true =>
      have hnext : Hid (Seen w7 M (i + 1) ((as_.take (i + 1)).map (·.1)) ∧ attrsOk ((as_.take (i + 1)).map (·.1)) (as_.drop (i + 1)) = R) := Lib.hid ⟨hs7.out, by rw [← hok.out]; simp⟩
      clear hok hs7
      go_wp2_with fail
      go_roundw
      case rel => exact ⟨i + 1, by omega, by go_num, hnext, hx7⟩
      case measure => simp [intOf]; omega
  ·have hie : i = n := by omega
   subst hie
   have i1 : decide ((i : Int) < (i : Int)) = false := by simp
   have hRt : Hid (R = true) := Lib.hid (by
    have h9 := hst.out.2
    rw [List.drop_eq_nil_of_le (by rw [hln'.out]; exact Nat.le_refl _)] at h9
    rw [← h9]
    rfl)
   clear hst
   go_wp2_with fail
   (try simp only [Exit.inBlock, Exit.then])
   go_ret
   exact ⟨by rw [hRt.out]; rfl, hb.out⟩
end Go.Proofs.YtokdnhdfmgfkeaaGreatDoor.Xp
end

section
namespace Go.Proofs.YtokdnhdfmgfkeaaGreatDoor.Xp
open Go.RowKit UtfW Xl Xo Xt

mutual
def smN : Nd → Prop
 | .mk _ nm tx as_ ks => nm.length ≤ 1000000 ∧ tx.length ≤ 1000000 ∧ smA as_ ∧ smL ks
def smL : List Nd → Prop
 | [] => True
 | x :: xs => smN x ∧ smL xs
end
theorem smL_mem : ∀ {l : List Nd} {i : Nat} {x : Nd}, smL l → l[i]? = some x → smN x
 | [], i, x, _, h => by simp at h
 | y :: l, 0, x, hb, h => by
  rw [smL] at hb
  injection h with h
  rw [← h]
  exact hb.1
 | y :: l, i + 1, x, hb, h => by
  rw [smL] at hb
  exact smL_mem hb.2 h
theorem smL_of : ∀ {l : List Nd}, (∀ (i : Nat) x, l[i]? = some x → smN x) → smL l
 | [], _ => by rw [smL]; trivial
 | y :: l, h => by
  rw [smL]
  exact ⟨h 0 y rfl, smL_of fun i x hi => h (i + 1) x hi⟩
theorem fairL_at {was : Int} {l : List Nd} {i : Nat} {x : Nd} (h : l[i]? = some x) : fairL was (l.drop i) = (fairN x && !(decide (was = 2) && decide (x.kind = 2)) && fairL x.kind (l.drop (i + 1))) := by
 obtain ⟨hl, e⟩ := List.getElem?_eq_some_iff.1 h
 rw [List.drop_eq_getElem_cons hl, e, fairL]
theorem sq_keep {α : Type} {El : World → List Value → α → Prop} {k : Nat} {w w' : World} {A : Option Addr} {n c : Nat} {l : List α} (h : Sq El k w A n c l) (hb : Below w.heap.size w w') (hE : ∀ vs x, El w vs x → El w' vs x) : Sq El k w' A n c l :=
 Sq.stay h (fun ad e hn => by
  obtain ⟨b, off, e2, hbl, _⟩ := h.cell hn
  rw [e] at e2
  injection e2 with e2
  rw [e2]
  exact hb.block b hbl) hE
theorem len_zero {α : Type} (l : List α) : (((l.length : Nat) : Int) == 0) = l.isEmpty := by
 cases l with
 | nil => rfl
 | cons a l =>
  rw [List.isEmpty_cons, beq_eq_false_iff_ne, List.length_cons]
  omega
set_option maxHeartbeats 1000000 in
set_option maxRecDepth 100000 in
theorem bare_any (w : World) (kd : Int) (S1 S2 : ByteArray) (A : Option Addr) (ca : Nat) (A2 : Option Addr) (c2 : Nat) (as_ : List At) (ks : List Nd) :
  Calls Tryz.prog 45 #[.agg #[.int .i64 kd, .string S1, .string S2, .slice A as_.length ca, .slice A2 ks.length c2]] w fun e w' => e = .returned (.bool (as_.isEmpty && ks.isEmpty)) ∧ Below w.heap.size w w' := by
 have hba := below_alloc w (.cells #[.int .i64 kd, .string S1, .string S2, .slice A as_.length ca, .slice A2 ks.length c2] 25)
 have hnb := heap_alloc_new w (.cells #[.int .i64 kd, .string S1, .string S2, .slice A as_.length ca, .slice A2 ks.length c2] 25)
 have l1 := len_zero as_
 have l2 := len_zero ks
 obtain ⟨T, hT⟩ : ∃ T, w.heap.size = T := ⟨_, rfl⟩
 obtain ⟨w1, hw1⟩ : ∃ w1, w.alloc (.cells #[.int .i64 kd, .string S1, .string S2, .slice A as_.length ca, .slice A2 ks.length c2] 25) = w1 := ⟨_, rfl⟩
 rw [hw1] at hba hnb
 rw [hT] at hnb
 have x3 : w1.cell? ⟨T, 3, none⟩ = some (.slice A as_.length ca) := Xp.cell_blk hnb rfl
 have x4 : w1.cell? ⟨T, 4, none⟩ = some (.slice A2 ks.length c2) := Xp.cell_blk hnb rfl
 obtain ⟨E1, hE1⟩ : ∃ E, as_.isEmpty = E := ⟨_, rfl⟩
 obtain ⟨E2, hE2⟩ : ∃ E, ks.isEmpty = E := ⟨_, rfl⟩
 rw [hE1] at l1
 rw [hE2] at l2
 rw [hE1, hE2]
 have hbaH := Lib.hid hba
 clear hnb hba hE1 hE2
 cases E1 <;> cases E2 <;>
 ·go_enter Tryz.func45, Tryz.ntmps45
  go_wp2_with fail
  go_ret
  exact ⟨rfl, hbaH.out⟩
def FairAt (X : Nat → Prop) (x : Nd) : Prop := ∀ (vs : List Value) (w' : World), Un w' → NdI X w' vs x → (∀ j, X j → j < w'.heap.size) →
 Calls Tryz.prog 16 #[.agg vs.toArray] w' fun e w'' => e = .returned (.bool (fairN x)) ∧ Below w'.heap.size w' w''
set_option maxHeartbeats 4000000 in
set_option maxRecDepth 100000 in
theorem kids_any (X : Nat → Prop) (w : World) (hU : Un w) (A : Option Addr) (n c : Nat) (l : List Nd) (hS : Sq (NdE X) 5 w A n c l) (hX : ∀ j, X j → j < w.heap.size) (hF : ∀ (i : Nat) x, l[i]? = some x → FairAt X x) :
  Calls Tryz.prog 44 #[.slice A n c] w fun e w' => e = .returned (.bool (fairL 0 l)) ∧ Below w.heap.size w w' := by
 have hln := Lib.hid hS.len
 have hlm : n ≤ 9223372036854775807 := Nat.le_trans hS.le hS.max
 have hS' := Lib.hid hS
 have hX' := Lib.hid hX
 have hU' := Lib.hid hU
 have hF' := Lib.hid hF
 obtain ⟨R, hR⟩ : ∃ R, fairL 0 l = R := ⟨_, rfl⟩
 rw [hR]
 have hR' := Lib.hid hR
 clear hS hX hU hF hR
 go_enter Tryz.func44, Tryz.ntmps44
 go_wp2_with fail
 go_loopw [3, 8] (fun v3 vi wr => ∃ (i : Nat) (was : Int), i ≤ n ∧ vi = .int .i64 (i : Nat) ∧ v3 = .int .i64 was ∧ Hid (fairL was (l.drop i) = R) ∧ Hid (Below w.heap.size w wr)) (fun _ vi _ => n - (intOf vi).toNat)
 case atStart => exact ⟨0, 0, Nat.zero_le _, rfl, rfl, hR', Lib.hid (Below.refl _ _)⟩
 case round =>
  obtain ⟨i, was, hi, rfl, rfl, hok, hb⟩ := hrel
  by_cases hlt : i < n
  ·have i1 : decide ((i : Int) < (n : Int)) = true := by simp; omega
   have q1 : (i : Int) < (n : Int) := by omega
   have hX1 : ∀ j, X j → j < wr.heap.size := fun j hj => Nat.lt_of_lt_of_le (hX'.out j hj) hb.out.size
   have hKr := sq_keep hS'.out hb.out (fun vs x h => NdI.later h hX'.out hb.out)
   obtain ⟨b1, off1, x, vs1, rfl, _, hx1, _, hv1, hc1⟩ := hKr.at_ hlt
   have hfx := hF'.out i x hx1
   have hok9 := hok.out
   rw [fairL_at hx1] at hok9
   obtain ⟨kx, nx_, tx_, ax, kx_⟩ := x
   obtain ⟨Ax, cax, A2x, c2x, rfl, -⟩ := hv1.cells
   have m0 := hc1 0 _ rfl
   have m1 := hc1 1 _ rfl
   have m2 := hc1 2 _ rfl
   have m3 := hc1 3 _ rfl
   have m4 := hc1 4 _ rfl
   rw [Nat.add_zero] at m0
   have hbt := below_alloc wr (.cells #[.int .i64 kx, .string (strOf nx_), .string (strOf tx_), .slice Ax ax.length cax, .slice A2x kx_.length c2x] 25)
   have hnt := Lib.hid (heap_alloc_new wr (.cells #[.int .i64 kx, .string (strOf nx_), .string (strOf tx_), .slice Ax ax.length cax, .slice A2x kx_.length c2x] 25))
   have hrec := Lib.hid (hfx _ (wr.alloc (.cells #[.int .i64 kx, .string (strOf nx_), .string (strOf tx_), .slice Ax ax.length cax, .slice A2x kx_.length c2x] 25)) (hU'.out.below (hb.out.trans (hbt.mono hb.out.size))) (NdI.later hv1 hX1 hbt) (fun j hj => Nat.lt_of_lt_of_le (hX1 j hj) hbt.size))
   have hbb := Lib.hid (hb.out.trans (hbt.mono hb.out.size))
   obtain ⟨FX, hFX⟩ : ∃ b, fairN (.mk kx nx_ tx_ ax kx_) = b := ⟨_, rfl⟩
   rw [hFX] at hok9 hrec
   have hok9 : Hid ((FX && !(decide (was = 2) && decide (kx = 2)) && fairL kx (l.drop (i + 1))) = R) := Lib.hid hok9
   clear hok hX1 hKr hc1 hx1 hfx hv1 hbt hFX
   go_wp2_with fail
   refine hrec.out.mono ?_
   rintro e w5 ⟨rfl, hb5⟩
   have hw5 := Lib.hid (hbb.out.trans (hb5.mono hbb.out.size))
   have hT5 := (hb5.block wr.heap.size (Array.getElem?_eq_some_iff.1 hnt.out).1).trans hnt.out
   have y0 := Xp.cell_blk hT5 (i := 0) rfl
   clear hb5 m0 m1 m2 m3 m4 hT5 hrec hnt hbb
   cases FX with
   | false =>
    have hRf : Hid (R = false) := Lib.hid (by rw [← hok9.out]; simp)
    clear hok9 y0
    go_wp2_with fail
    (try simp only [Exit.inBlock, Exit.then])
    go_ret
    exact ⟨by rw [hRf.out]; rfl, hw5.out⟩
   | true =>
    by_cases h1 : was = 2
    ·have k1 : (was == 2) = true := by rw [h1]; rfl
     by_cases h2 : kx = 2
     ·have k2 : (kx == 2) = true := by rw [h2]; rfl
      have hRf : Hid (R = false) := Lib.hid (by rw [← hok9.out]; simp [h1, h2])
      clear hok9 h1 h2
      go_wp2_with fail
      (try simp only [Exit.inBlock, Exit.then])
      go_ret
      exact ⟨by rw [hRf.out]; rfl, hw5.out⟩
     ·have k2 : (kx == 2) = false := by simpa using h2
      have hnext : Hid (fairL kx (l.drop (i + 1)) = R) := Lib.hid (by rw [← hok9.out]; simp [h2])
      clear hok9 h1 h2
      go_wp2_with fail
      go_roundw
      case rel => exact ⟨i + 1, kx, by omega, by go_num, rfl, hnext, hw5⟩
      case measure => simp [intOf]; omega
    ·have k1 : (was == 2) = false := by simpa using h1
     have hnext : Hid (fairL kx (l.drop (i + 1)) = R) := Lib.hid (by rw [← hok9.out]; simp [h1])
     clear hok9 h1
     go_wp2_with fail
     go_roundw
     case rel => exact ⟨i + 1, kx, by omega, by go_num, rfl, hnext, hw5⟩
     case measure => simp [intOf]; omega
  ·have hie : i = n := by omega
   subst hie
   have i1 : decide ((i : Int) < (i : Int)) = false := by simp
   have hRt : Hid (R = true) := Lib.hid (by
    have h9 := hok.out
    rw [List.drop_eq_nil_of_le (by rw [hln.out]; exact Nat.le_refl _)] at h9
    rw [← h9]
    rfl)
   clear hok
   go_wp2_with fail
   (try simp only [Exit.inBlock, Exit.then])
   go_ret
   exact ⟨by rw [hRt.out]; rfl, hb.out⟩
end Go.Proofs.YtokdnhdfmgfkeaaGreatDoor.Xp
end

section
namespace Go.Proofs.YtokdnhdfmgfkeaaGreatDoor.Xp
open Go.RowKit UtfW Xl Xo Xt

set_option maxHeartbeats 16000000 in
set_option maxRecDepth 100000 in
theorem Fair_any : ∀ (k : Nat) (X : Nat → Prop) (n : Nd), SizeOf.sizeOf n ≤ k → smN n → FairAt X n := by
 intro k
 induction k with
 | zero =>
  intro X n hk
  obtain ⟨kd, nm, tx, as_, ks⟩ := n
  simp at hk
 | succ k ih =>
  intro X n hk hsm vs w hU hn hX
  obtain ⟨kd, nm, tx, as_, ks⟩ := n
  obtain ⟨A, ca, A2, c2, rfl, hA, hKs, hXA, hXK⟩ := hn.cells
  rw [smN] at hsm
  obtain ⟨z1, z2, z3, z4⟩ := hsm
  have hF : ∀ (i : Nat) x, ks[i]? = some x → FairAt X x := fun i x hx => ih X x (by
   have := kid_lt (k := kd) (nm := nm) (tx := tx) (as_ := as_) hx
   omega) (smL_mem z4 hx)
  clear ih hk z4
  obtain ⟨S1, hS1⟩ : ∃ S, strOf nm = S := ⟨_, rfl⟩
  obtain ⟨S2, hS2⟩ : ∃ S, strOf tx = S := ⟨_, rfl⟩
  rw [hS1, hS2]
  have hba := below_alloc w (.cells #[.int .i64 kd, .string S1, .string S2, .slice A as_.length ca, .slice A2 ks.length c2] 25)
  have hnb := heap_alloc_new w (.cells #[.int .i64 kd, .string S1, .string S2, .slice A as_.length ca, .slice A2 ks.length c2] 25)
  obtain ⟨T, hT⟩ : ∃ T, w.heap.size = T := ⟨_, rfl⟩
  obtain ⟨w1, hw1⟩ : ∃ w1, w.alloc (.cells #[.int .i64 kd, .string S1, .string S2, .slice A as_.length ca, .slice A2 ks.length c2] 25) = w1 := ⟨_, rfl⟩
  rw [hw1] at hba hnb
  rw [hT] at hnb
  have hTb : Hid (∀ x, Below w1.heap.size w1 x → x.heap[T]? = some (.cells #[.int .i64 kd, .string S1, .string S2, .slice A as_.length ca, .slice A2 ks.length c2] 25)) := Lib.hid fun x hx => (hx.block T (Array.getElem?_eq_some_iff.1 hnb).1).trans hnb
  have hqw1 : Hid (Below w1.heap.size w1 w1) := Lib.hid (Below.refl _ _)
  have hlow : ∀ x, Below w1.heap.size w1 x → Below w.heap.size w x := fun x hx => hba.trans (hx.mono hba.size)
  have hnc := Lib.hid (fun (x : World) (hx : Below w1.heap.size w1 x) => utfName_any S1 (by rw [← hS1, strOf_size']; omega) x (hU.below (hlow x hx)).ut)
  have e1 : S1.data.toList = nm := by rw [← hS1]; simp [strOf]
  rw [e1, name_eq] at hnc
  have hac := Lib.hid (fun (x : World) (hx : Below w1.heap.size w1 x) => attrs_any x (hU.below (hlow x hx)) A as_.length ca as_ (hA.below AtEl.to (hlow x hx)) z3)
  have hkc := Lib.hid (fun (x : World) (hx : Below w1.heap.size w1 x) => kids_any X x (hU.below (hlow x hx)) A2 ks.length c2 ks (sq_keep hKs (hlow x hx) (fun vs y h => NdI.later h hX (hlow x hx))) (fun j hj => Nat.lt_of_lt_of_le (hX j hj) (hlow x hx).size) hF)
  have hbc := Lib.hid (fun (x : World) (_hx : Below w1.heap.size w1 x) => bare_any x kd S1 S2 A ca A2 c2 as_ ks)
  have hgc := Lib.hid (fun (x : World) (hx : Below w1.heap.size w1 x) => good_any x (hU.below (hlow x hx)).ut tx (by omega))
  have hpc := Lib.hid (fun (x : World) (hx : Below w1.heap.size w1 x) => plain_any x (hU.below (hlow x hx)).ut tx (by omega))
  have hcc3 := Lib.hid (fun (x : World) (hx : Below w1.heap.size w1 x) => contains_any x (hU.below (hlow x hx)).ut tx [45, 45] (by omega))
  have hcc4 := Lib.hid (fun (x : World) (hx : Below w1.heap.size w1 x) => contains_any x (hU.below (hlow x hx)).ut tx [63, 62] (by omega))
  have hsc := Lib.hid (fun (x : World) (_hx : Below w1.heap.size w1 x) => suffix_any x tx [45] (by omega))
  have hlc := Lib.hid (fun (x : World) (hx : Below w1.heap.size w1 x) => lowX_any x (hU.below (hlow x hx)) nm (by omega))
  rw [hS2] at hgc hpc hcc3 hcc4 hsc
  rw [hS1] at hlc
  have y0 : w1.cell? ⟨T, 0, none⟩ = some (.int .i64 kd) := Xp.cell_blk hnb rfl
  have y1 : w1.cell? ⟨T, 1, none⟩ = some (.string S1) := Xp.cell_blk hnb rfl
  have y2 : w1.cell? ⟨T, 2, none⟩ = some (.string S2) := Xp.cell_blk hnb rfl
  have y3 : w1.cell? ⟨T, 3, none⟩ = some (.slice A as_.length ca) := Xp.cell_blk hnb rfl
  have y4 : w1.cell? ⟨T, 4, none⟩ = some (.slice A2 ks.length c2) := Xp.cell_blk hnb rfl
  have hbaH := Lib.hid hba
  have ez1 : S1.toList.isEmpty = nm.isEmpty := by rw [← hS1, strOf_empty]
  have ez2 : S2.toList.isEmpty = tx.isEmpty := by rw [← hS2, strOf_empty]
  have hS1H := Lib.hid hS1
  have hS2H := Lib.hid hS2
  have hz2H := Lib.hid z2
  clear hn hA hKs hXA hXK hX hF hU hlow hnb hba e1 z1 z2 z3 hS1 hS2
  obtain ⟨BA, hBA⟩ : ∃ b, (as_.isEmpty && ks.isEmpty) = b := ⟨_, rfl⟩
  obtain ⟨NM, hNM⟩ : ∃ b, nameR nm = b := ⟨_, rfl⟩
  obtain ⟨AO, hAO⟩ : ∃ b, attrsOk [] as_ = b := ⟨_, rfl⟩
  obtain ⟨FL, hFL⟩ : ∃ b, fairL 0 ks = b := ⟨_, rfl⟩
  obtain ⟨GD, hGD⟩ : ∃ b, good tx = b := ⟨_, rfl⟩
  obtain ⟨PL, hPL⟩ : ∃ b, plainT tx = b := ⟨_, rfl⟩
  obtain ⟨C3, hC3⟩ : ∃ b, (find [45, 45] tx).isSome = b := ⟨_, rfl⟩
  obtain ⟨C4, hC4⟩ : ∃ b, (find [63, 62] tx).isSome = b := ⟨_, rfl⟩
  obtain ⟨SX, hSX⟩ : ∃ b, [(45 : UInt8)].isSuffixOf tx = b := ⟨_, rfl⟩
  obtain ⟨LX, hLX⟩ : ∃ b, decide (nm.map low = xml3) = b := ⟨_, rfl⟩
  have f3 : (find [45, 45] tx).isNone = !C3 := by rw [← hC3]; cases find [45, 45] tx <;> rfl
  have f4 : (find [63, 62] tx).isNone = !C4 := by rw [← hC4]; cases find [63, 62] tx <;> rfl
  have fs : decide (tx.getLast? ≠ some 45) = !SX := by rw [← hSX, suffix_last]; simp
  have fl : decide (nm.map low ≠ xml3) = !LX := by rw [← hLX]; simp
  rw [hNM] at hnc
  rw [hAO] at hac
  rw [hFL] at hkc
  rw [hBA] at hbc
  rw [hGD] at hgc
  rw [hPL] at hpc
  rw [hC3] at hcc3
  rw [hC4] at hcc4
  rw [hSX] at hsc
  rw [hLX] at hlc
  obtain ⟨R, hRe⟩ : ∃ R, fairN (.mk kd nm tx as_ ks) = R := ⟨_, rfl⟩
  rw [hRe]
  rw [fairN] at hRe
  by_cases h1 : kd = 1
  ·subst h1
   rw [if_pos rfl, hNM, hAO, hFL] at hRe
   clear hBA hNM hAO hFL hGD hPL hC3 hC4 hSX hLX f3 f4 fs fl hbc hgc hpc hcc3 hcc4 hsc hlc
   have k1 : ((1 : Int) == 1) = true := rfl
   cases tx with
   | nil =>
    have e2 : S2.toList.isEmpty = true := ez2
    rw [decide_eq_true rfl] at hRe
    have hR := Lib.hid hRe
    clear hRe ez1 ez2
    go_enter Tryz.func16, Tryz.ntmps16
    go_wp2_with fail
    refine (hnc.out w1 hqw1.out).mono ?_
    rintro e w11 ⟨rfl, hbw11⟩
    have hqw11 := Lib.hid (hqw1.out.trans (hbw11.mono hqw1.out.size))
    clear hbw11 y0 y1 y2 y3 y4
    have hTb9 := hTb.out w11 hqw11.out
    have y0 := Xp.cell_blk hTb9 (i := 0) rfl
    have y1 := Xp.cell_blk hTb9 (i := 1) rfl
    have y2 := Xp.cell_blk hTb9 (i := 2) rfl
    have y3 := Xp.cell_blk hTb9 (i := 3) rfl
    have y4 := Xp.cell_blk hTb9 (i := 4) rfl
    clear hTb9
    cases NM with
    | false =>
     have hRf : Hid (R = false) := Lib.hid (by rw [← hR.out]; simp)
     have hfin := Lib.hid (hbaH.out.trans (hqw11.out.mono hbaH.out.size))
     clear hR
     go_wp2_with fail
     (try simp only [Exit.inBlock, Exit.then])
     go_ret
     exact ⟨by rw [hRf.out]; rfl, hfin.out⟩
    | true =>
     go_wp2_with fail
     refine (hac.out w11 hqw11.out).mono ?_
     rintro e w12 ⟨rfl, hbw12⟩
     have hqw12 := Lib.hid (hqw11.out.trans (hbw12.mono hqw11.out.size))
     clear hbw12 y0 y1 y2 y3 y4
     have hTb9 := hTb.out w12 hqw12.out
     have y0 := Xp.cell_blk hTb9 (i := 0) rfl
     have y1 := Xp.cell_blk hTb9 (i := 1) rfl
     have y2 := Xp.cell_blk hTb9 (i := 2) rfl
     have y3 := Xp.cell_blk hTb9 (i := 3) rfl
     have y4 := Xp.cell_blk hTb9 (i := 4) rfl
     clear hTb9
     cases AO with
     | false =>
      have hRf : Hid (R = false) := Lib.hid (by rw [← hR.out]; simp)
      have hfin := Lib.hid (hbaH.out.trans (hqw12.out.mono hbaH.out.size))
      clear hR
      go_wp2_with fail
      (try simp only [Exit.inBlock, Exit.then])
      go_ret
      exact ⟨by rw [hRf.out]; rfl, hfin.out⟩
     | true =>
      go_wp2_with fail
      refine (hkc.out w12 hqw12.out).mono ?_
      rintro e w13 ⟨rfl, hbw13⟩
      have hqw13 := Lib.hid (hqw12.out.trans (hbw13.mono hqw12.out.size))
      clear hbw13 y0 y1 y2 y3 y4
      have hTb9 := hTb.out w13 hqw13.out
      have y0 := Xp.cell_blk hTb9 (i := 0) rfl
      have y1 := Xp.cell_blk hTb9 (i := 1) rfl
      have y2 := Xp.cell_blk hTb9 (i := 2) rfl
      have y3 := Xp.cell_blk hTb9 (i := 3) rfl
      have y4 := Xp.cell_blk hTb9 (i := 4) rfl
      clear hTb9
      cases FL with
      | false =>
       have hRf : Hid (R = false) := Lib.hid (by rw [← hR.out]; simp)
       have hfin := Lib.hid (hbaH.out.trans (hqw13.out.mono hbaH.out.size))
       clear hR
       go_wp2_with fail
       (try simp only [Exit.inBlock, Exit.then])
       go_ret
       exact ⟨by rw [hRf.out]; rfl, hfin.out⟩
      | true =>
       have hRf : Hid (R = true) := Lib.hid (by rw [← hR.out]; simp)
       have hfin := Lib.hid (hbaH.out.trans (hqw13.out.mono hbaH.out.size))
       clear hR
       go_wp2_with fail
       (try simp only [Exit.inBlock, Exit.then])
       go_ret
       exact ⟨by rw [hRf.out]; rfl, hfin.out⟩
   | cons c0 r0 =>
    have e2 : S2.toList.isEmpty = false := ez2
    rw [decide_eq_false (by simp)] at hRe
    have hR := Lib.hid hRe
    clear hRe ez1 ez2
    go_enter Tryz.func16, Tryz.ntmps16
    go_wp2_with fail
    refine (hnc.out w1 hqw1.out).mono ?_
    rintro e w14 ⟨rfl, hbw14⟩
    have hqw14 := Lib.hid (hqw1.out.trans (hbw14.mono hqw1.out.size))
    clear hbw14 y0 y1 y2 y3 y4
    have hTb9 := hTb.out w14 hqw14.out
    have y0 := Xp.cell_blk hTb9 (i := 0) rfl
    have y1 := Xp.cell_blk hTb9 (i := 1) rfl
    have y2 := Xp.cell_blk hTb9 (i := 2) rfl
    have y3 := Xp.cell_blk hTb9 (i := 3) rfl
    have y4 := Xp.cell_blk hTb9 (i := 4) rfl
    clear hTb9
    cases NM with
    | false =>
     have hRf : Hid (R = false) := Lib.hid (by rw [← hR.out]; simp)
     have hfin := Lib.hid (hbaH.out.trans (hqw14.out.mono hbaH.out.size))
     clear hR
     go_wp2_with fail
     (try simp only [Exit.inBlock, Exit.then])
     go_ret
     exact ⟨by rw [hRf.out]; rfl, hfin.out⟩
    | true =>
     have hRf : Hid (R = false) := Lib.hid (by rw [← hR.out]; simp)
     have hfin := Lib.hid (hbaH.out.trans (hqw14.out.mono hbaH.out.size))
     clear hR
     go_wp2_with fail
     (try simp only [Exit.inBlock, Exit.then])
     go_ret
     exact ⟨by rw [hRf.out]; rfl, hfin.out⟩
  rw [if_neg h1] at hRe
  have k1 : (kd == 1) = false := by simpa using h1
  by_cases h2 : kd = 2
  ·subst h2
   rw [if_pos rfl, hBA, hGD] at hRe
   clear hBA hNM hAO hFL hGD hPL hC3 hC4 hSX hLX f3 f4 fs fl hnc hac hkc hpc hcc3 hcc4 hsc hlc h1
   have k2 : ((2 : Int) == 2) = true := rfl
   cases nm with
   | nil =>
    cases tx with
    | nil =>
     have e1 : S1.toList.isEmpty = true := ez1
     have e2 : S2.toList.isEmpty = true := ez2
     rw [decide_eq_true (rfl), decide_eq_false (by simp)] at hRe
     have hR := Lib.hid hRe
     clear hRe ez1 ez2
     go_enter Tryz.func16, Tryz.ntmps16
     go_wp2_with fail
     refine (hbc.out w1 hqw1.out).mono ?_
     rintro e w15 ⟨rfl, hbw15⟩
     have hqw15 := Lib.hid (hqw1.out.trans (hbw15.mono hqw1.out.size))
     clear hbw15 y0 y1 y2 y3 y4
     have hTb9 := hTb.out w15 hqw15.out
     have y0 := Xp.cell_blk hTb9 (i := 0) rfl
     have y1 := Xp.cell_blk hTb9 (i := 1) rfl
     have y2 := Xp.cell_blk hTb9 (i := 2) rfl
     have y3 := Xp.cell_blk hTb9 (i := 3) rfl
     have y4 := Xp.cell_blk hTb9 (i := 4) rfl
     clear hTb9
     cases BA with
     | false =>
      have hRf : Hid (R = false) := Lib.hid (by rw [← hR.out]; simp)
      have hfin := Lib.hid (hbaH.out.trans (hqw15.out.mono hbaH.out.size))
      clear hR
      go_wp2_with fail
      (try simp only [Exit.inBlock, Exit.then])
      go_ret
      exact ⟨by rw [hRf.out]; rfl, hfin.out⟩
     | true =>
      have hRf : Hid (R = false) := Lib.hid (by rw [← hR.out]; simp)
      have hfin := Lib.hid (hbaH.out.trans (hqw15.out.mono hbaH.out.size))
      clear hR
      go_wp2_with fail
      (try simp only [Exit.inBlock, Exit.then])
      go_ret
      exact ⟨by rw [hRf.out]; rfl, hfin.out⟩
    | cons c0 r0 =>
     have e1 : S1.toList.isEmpty = true := ez1
     have e2 : S2.toList.isEmpty = false := ez2
     rw [decide_eq_true (rfl), decide_eq_true (by simp)] at hRe
     have hR := Lib.hid hRe
     clear hRe ez1 ez2
     go_enter Tryz.func16, Tryz.ntmps16
     go_wp2_with fail
     refine (hbc.out w1 hqw1.out).mono ?_
     rintro e w16 ⟨rfl, hbw16⟩
     have hqw16 := Lib.hid (hqw1.out.trans (hbw16.mono hqw1.out.size))
     clear hbw16 y0 y1 y2 y3 y4
     have hTb9 := hTb.out w16 hqw16.out
     have y0 := Xp.cell_blk hTb9 (i := 0) rfl
     have y1 := Xp.cell_blk hTb9 (i := 1) rfl
     have y2 := Xp.cell_blk hTb9 (i := 2) rfl
     have y3 := Xp.cell_blk hTb9 (i := 3) rfl
     have y4 := Xp.cell_blk hTb9 (i := 4) rfl
     clear hTb9
     cases BA with
     | false =>
      have hRf : Hid (R = false) := Lib.hid (by rw [← hR.out]; simp)
      have hfin := Lib.hid (hbaH.out.trans (hqw16.out.mono hbaH.out.size))
      clear hR
      go_wp2_with fail
      (try simp only [Exit.inBlock, Exit.then])
      go_ret
      exact ⟨by rw [hRf.out]; rfl, hfin.out⟩
     | true =>
      go_wp2_with fail
      refine (hgc.out w16 hqw16.out).mono ?_
      rintro e w17 ⟨rfl, hbw17⟩
      have hqw17 := Lib.hid (hqw16.out.trans (hbw17.mono hqw16.out.size))
      clear hbw17 y0 y1 y2 y3 y4
      have hTb9 := hTb.out w17 hqw17.out
      have y0 := Xp.cell_blk hTb9 (i := 0) rfl
      have y1 := Xp.cell_blk hTb9 (i := 1) rfl
      have y2 := Xp.cell_blk hTb9 (i := 2) rfl
      have y3 := Xp.cell_blk hTb9 (i := 3) rfl
      have y4 := Xp.cell_blk hTb9 (i := 4) rfl
      clear hTb9
      cases GD with
      | false =>
       have hRf : Hid (R = false) := Lib.hid (by rw [← hR.out]; simp)
       have hfin := Lib.hid (hbaH.out.trans (hqw17.out.mono hbaH.out.size))
       clear hR
       go_wp2_with fail
       (try simp only [Exit.inBlock, Exit.then])
       go_ret
       exact ⟨by rw [hRf.out]; rfl, hfin.out⟩
      | true =>
       have hRf : Hid (R = true) := Lib.hid (by rw [← hR.out]; simp)
       have hfin := Lib.hid (hbaH.out.trans (hqw17.out.mono hbaH.out.size))
       clear hR
       go_wp2_with fail
       (try simp only [Exit.inBlock, Exit.then])
       go_ret
       exact ⟨by rw [hRf.out]; rfl, hfin.out⟩
   | cons c1 r1 =>
    cases tx with
    | nil =>
     have e1 : S1.toList.isEmpty = false := ez1
     have e2 : S2.toList.isEmpty = true := ez2
     rw [decide_eq_false (by simp), decide_eq_false (by simp)] at hRe
     have hR := Lib.hid hRe
     clear hRe ez1 ez2
     go_enter Tryz.func16, Tryz.ntmps16
     go_wp2_with fail
     refine (hbc.out w1 hqw1.out).mono ?_
     rintro e w18 ⟨rfl, hbw18⟩
     have hqw18 := Lib.hid (hqw1.out.trans (hbw18.mono hqw1.out.size))
     clear hbw18 y0 y1 y2 y3 y4
     have hTb9 := hTb.out w18 hqw18.out
     have y0 := Xp.cell_blk hTb9 (i := 0) rfl
     have y1 := Xp.cell_blk hTb9 (i := 1) rfl
     have y2 := Xp.cell_blk hTb9 (i := 2) rfl
     have y3 := Xp.cell_blk hTb9 (i := 3) rfl
     have y4 := Xp.cell_blk hTb9 (i := 4) rfl
     clear hTb9
     cases BA with
     | false =>
      have hRf : Hid (R = false) := Lib.hid (by rw [← hR.out]; simp)
      have hfin := Lib.hid (hbaH.out.trans (hqw18.out.mono hbaH.out.size))
      clear hR
      go_wp2_with fail
      (try simp only [Exit.inBlock, Exit.then])
      go_ret
      exact ⟨by rw [hRf.out]; rfl, hfin.out⟩
     | true =>
      have hRf : Hid (R = false) := Lib.hid (by rw [← hR.out]; simp)
      have hfin := Lib.hid (hbaH.out.trans (hqw18.out.mono hbaH.out.size))
      clear hR
      go_wp2_with fail
      (try simp only [Exit.inBlock, Exit.then])
      go_ret
      exact ⟨by rw [hRf.out]; rfl, hfin.out⟩
    | cons c0 r0 =>
     have e1 : S1.toList.isEmpty = false := ez1
     have e2 : S2.toList.isEmpty = false := ez2
     rw [decide_eq_false (by simp), decide_eq_true (by simp)] at hRe
     have hR := Lib.hid hRe
     clear hRe ez1 ez2
     go_enter Tryz.func16, Tryz.ntmps16
     go_wp2_with fail
     refine (hbc.out w1 hqw1.out).mono ?_
     rintro e w19 ⟨rfl, hbw19⟩
     have hqw19 := Lib.hid (hqw1.out.trans (hbw19.mono hqw1.out.size))
     clear hbw19 y0 y1 y2 y3 y4
     have hTb9 := hTb.out w19 hqw19.out
     have y0 := Xp.cell_blk hTb9 (i := 0) rfl
     have y1 := Xp.cell_blk hTb9 (i := 1) rfl
     have y2 := Xp.cell_blk hTb9 (i := 2) rfl
     have y3 := Xp.cell_blk hTb9 (i := 3) rfl
     have y4 := Xp.cell_blk hTb9 (i := 4) rfl
     clear hTb9
     cases BA with
     | false =>
      have hRf : Hid (R = false) := Lib.hid (by rw [← hR.out]; simp)
      have hfin := Lib.hid (hbaH.out.trans (hqw19.out.mono hbaH.out.size))
      clear hR
      go_wp2_with fail
      (try simp only [Exit.inBlock, Exit.then])
      go_ret
      exact ⟨by rw [hRf.out]; rfl, hfin.out⟩
     | true =>
      have hRf : Hid (R = false) := Lib.hid (by rw [← hR.out]; simp)
      have hfin := Lib.hid (hbaH.out.trans (hqw19.out.mono hbaH.out.size))
      clear hR
      go_wp2_with fail
      (try simp only [Exit.inBlock, Exit.then])
      go_ret
      exact ⟨by rw [hRf.out]; rfl, hfin.out⟩
  rw [if_neg h2] at hRe
  have k2 : (kd == 2) = false := by simpa using h2
  by_cases h3 : kd = 3
  ·subst h3
   rw [if_pos rfl, hBA, hPL, f3, fs] at hRe
   clear hBA hNM hAO hFL hGD hPL hC3 hC4 hSX hLX f3 f4 fs fl hnc hac hkc hgc hcc4 hlc h1 h2
   have k3 : ((3 : Int) == 3) = true := rfl
   cases nm with
   | nil =>
    have e1 : S1.toList.isEmpty = true := ez1
    rw [decide_eq_true (rfl)] at hRe
    have hR := Lib.hid hRe
    clear hRe ez1 ez2
    go_enter Tryz.func16, Tryz.ntmps16
    go_wp2_with fail
    refine (hbc.out w1 hqw1.out).mono ?_
    rintro e w20 ⟨rfl, hbw20⟩
    have hqw20 := Lib.hid (hqw1.out.trans (hbw20.mono hqw1.out.size))
    clear hbw20 y0 y1 y2 y3 y4
    have hTb9 := hTb.out w20 hqw20.out
    have y0 := Xp.cell_blk hTb9 (i := 0) rfl
    have y1 := Xp.cell_blk hTb9 (i := 1) rfl
    have y2 := Xp.cell_blk hTb9 (i := 2) rfl
    have y3 := Xp.cell_blk hTb9 (i := 3) rfl
    have y4 := Xp.cell_blk hTb9 (i := 4) rfl
    clear hTb9
    cases BA with
    | false =>
     have hRf : Hid (R = false) := Lib.hid (by rw [← hR.out]; simp)
     have hfin := Lib.hid (hbaH.out.trans (hqw20.out.mono hbaH.out.size))
     clear hR
     go_wp2_with fail
     (try simp only [Exit.inBlock, Exit.then])
     go_ret
     exact ⟨by rw [hRf.out]; rfl, hfin.out⟩
    | true =>
     go_wp2_with fail
     refine (hpc.out w20 hqw20.out).mono ?_
     rintro e w21 ⟨rfl, hbw21⟩
     have hqw21 := Lib.hid (hqw20.out.trans (hbw21.mono hqw20.out.size))
     clear hbw21 y0 y1 y2 y3 y4
     have hTb9 := hTb.out w21 hqw21.out
     have y0 := Xp.cell_blk hTb9 (i := 0) rfl
     have y1 := Xp.cell_blk hTb9 (i := 1) rfl
     have y2 := Xp.cell_blk hTb9 (i := 2) rfl
     have y3 := Xp.cell_blk hTb9 (i := 3) rfl
     have y4 := Xp.cell_blk hTb9 (i := 4) rfl
     clear hTb9
     cases PL with
     | false =>
      have hRf : Hid (R = false) := Lib.hid (by rw [← hR.out]; simp)
      have hfin := Lib.hid (hbaH.out.trans (hqw21.out.mono hbaH.out.size))
      clear hR
      go_wp2_with fail
      (try simp only [Exit.inBlock, Exit.then])
      go_ret
      exact ⟨by rw [hRf.out]; rfl, hfin.out⟩
     | true =>
      go_wp2_with fail
      refine (hcc3.out w21 hqw21.out).mono ?_
      rintro e wq ⟨rfl, hwq⟩
      replace hwq := hwq.symm
      subst hwq
      cases C3 with
      | true =>
       have hRf : Hid (R = false) := Lib.hid (by rw [← hR.out]; simp)
       have hfin := Lib.hid (hbaH.out.trans (hqw21.out.mono hbaH.out.size))
       clear hR
       go_wp2_with fail
       (try simp only [Exit.inBlock, Exit.then])
       go_ret
       exact ⟨by rw [hRf.out]; rfl, hfin.out⟩
      | false =>
       go_wp2_with fail
       refine (hsc.out w21 hqw21.out).mono ?_
       rintro e wq ⟨rfl, hwq⟩
       replace hwq := hwq.symm
       subst hwq
       cases SX with
       | true =>
        have hRf : Hid (R = false) := Lib.hid (by rw [← hR.out]; simp)
        have hfin := Lib.hid (hbaH.out.trans (hqw21.out.mono hbaH.out.size))
        clear hR
        go_wp2_with fail
        (try simp only [Exit.inBlock, Exit.then])
        go_ret
        exact ⟨by rw [hRf.out]; rfl, hfin.out⟩
       | false =>
        have hRf : Hid (R = true) := Lib.hid (by rw [← hR.out]; simp)
        have hfin := Lib.hid (hbaH.out.trans (hqw21.out.mono hbaH.out.size))
        clear hR
        go_wp2_with fail
        (try simp only [Exit.inBlock, Exit.then])
        go_ret
        exact ⟨by rw [hRf.out]; rfl, hfin.out⟩
   | cons c1 r1 =>
    have e1 : S1.toList.isEmpty = false := ez1
    rw [decide_eq_false (by simp)] at hRe
    have hR := Lib.hid hRe
    clear hRe ez1 ez2
    go_enter Tryz.func16, Tryz.ntmps16
    go_wp2_with fail
    refine (hbc.out w1 hqw1.out).mono ?_
    rintro e w24 ⟨rfl, hbw24⟩
    have hqw24 := Lib.hid (hqw1.out.trans (hbw24.mono hqw1.out.size))
    clear hbw24 y0 y1 y2 y3 y4
    have hTb9 := hTb.out w24 hqw24.out
    have y0 := Xp.cell_blk hTb9 (i := 0) rfl
    have y1 := Xp.cell_blk hTb9 (i := 1) rfl
    have y2 := Xp.cell_blk hTb9 (i := 2) rfl
    have y3 := Xp.cell_blk hTb9 (i := 3) rfl
    have y4 := Xp.cell_blk hTb9 (i := 4) rfl
    clear hTb9
    cases BA with
    | false =>
     have hRf : Hid (R = false) := Lib.hid (by rw [← hR.out]; simp)
     have hfin := Lib.hid (hbaH.out.trans (hqw24.out.mono hbaH.out.size))
     clear hR
     go_wp2_with fail
     (try simp only [Exit.inBlock, Exit.then])
     go_ret
     exact ⟨by rw [hRf.out]; rfl, hfin.out⟩
    | true =>
     have hRf : Hid (R = false) := Lib.hid (by rw [← hR.out]; simp)
     have hfin := Lib.hid (hbaH.out.trans (hqw24.out.mono hbaH.out.size))
     clear hR
     go_wp2_with fail
     (try simp only [Exit.inBlock, Exit.then])
     go_ret
     exact ⟨by rw [hRf.out]; rfl, hfin.out⟩
  rw [if_neg h3] at hRe
  have k3 : (kd == 3) = false := by simpa using h3
  by_cases h4 : kd = 4
  ·subst h4
   rw [if_pos rfl, hBA, hNM, hPL, f4, fl] at hRe
   clear hBA hNM hAO hFL hGD hPL hC3 hC4 hSX hLX f3 f4 fs fl hac hkc hgc hcc3 hsc h1 h2 h3
   have k4 : ((4 : Int) == 4) = true := rfl
   cases tx with
   | nil =>
    have e2 : S2.toList.isEmpty = true := ez2
    have hR := Lib.hid hRe
    clear hRe ez1 ez2
    go_enter Tryz.func16, Tryz.ntmps16
    go_wp2_with fail
    refine (hbc.out w1 hqw1.out).mono ?_
    rintro e w25 ⟨rfl, hbw25⟩
    have hqw25 := Lib.hid (hqw1.out.trans (hbw25.mono hqw1.out.size))
    clear hbw25 y0 y1 y2 y3 y4
    have hTb9 := hTb.out w25 hqw25.out
    have y0 := Xp.cell_blk hTb9 (i := 0) rfl
    have y1 := Xp.cell_blk hTb9 (i := 1) rfl
    have y2 := Xp.cell_blk hTb9 (i := 2) rfl
    have y3 := Xp.cell_blk hTb9 (i := 3) rfl
    have y4 := Xp.cell_blk hTb9 (i := 4) rfl
    clear hTb9
    cases BA with
    | false =>
     have hRf : Hid (R = false) := Lib.hid (by rw [← hR.out]; simp [headOk])
     have hfin := Lib.hid (hbaH.out.trans (hqw25.out.mono hbaH.out.size))
     clear hR
     go_wp2_with fail
     (try simp only [Exit.inBlock, Exit.then])
     go_ret
     exact ⟨by rw [hRf.out]; rfl, hfin.out⟩
    | true =>
     go_wp2_with fail
     refine (hnc.out w25 hqw25.out).mono ?_
     rintro e w26 ⟨rfl, hbw26⟩
     have hqw26 := Lib.hid (hqw25.out.trans (hbw26.mono hqw25.out.size))
     clear hbw26 y0 y1 y2 y3 y4
     have hTb9 := hTb.out w26 hqw26.out
     have y0 := Xp.cell_blk hTb9 (i := 0) rfl
     have y1 := Xp.cell_blk hTb9 (i := 1) rfl
     have y2 := Xp.cell_blk hTb9 (i := 2) rfl
     have y3 := Xp.cell_blk hTb9 (i := 3) rfl
     have y4 := Xp.cell_blk hTb9 (i := 4) rfl
     clear hTb9
     cases NM with
     | false =>
      have hRf : Hid (R = false) := Lib.hid (by rw [← hR.out]; simp [headOk])
      have hfin := Lib.hid (hbaH.out.trans (hqw26.out.mono hbaH.out.size))
      clear hR
      go_wp2_with fail
      (try simp only [Exit.inBlock, Exit.then])
      go_ret
      exact ⟨by rw [hRf.out]; rfl, hfin.out⟩
     | true =>
      go_wp2_with fail
      refine (hlc.out w26 hqw26.out).mono ?_
      rintro e w27 ⟨tl, rfl, htl, hbw27⟩
      have hqw27 := Lib.hid (hqw26.out.trans (hbw27.mono hqw26.out.size))
      clear hbw27 y0 y1 y2 y3 y4
      have hTb9 := hTb.out w27 hqw27.out
      have y0 := Xp.cell_blk hTb9 (i := 0) rfl
      have y1 := Xp.cell_blk hTb9 (i := 1) rfl
      have y2 := Xp.cell_blk hTb9 (i := 2) rfl
      have y3 := Xp.cell_blk hTb9 (i := 3) rfl
      have y4 := Xp.cell_blk hTb9 (i := 4) rfl
      clear hTb9
      have s2 := str_eqL tl [120, 109, 108]
      have htl' : decide (tl = [120, 109, 108]) = LX := htl
      rw [htl'] at s2
      clear htl htl'
      cases LX with
      | true =>
       have hRf : Hid (R = false) := Lib.hid (by rw [← hR.out]; simp [headOk])
       have hfin := Lib.hid (hbaH.out.trans (hqw27.out.mono hbaH.out.size))
       clear hR
       go_wp2_with fail
       (try simp only [Exit.inBlock, Exit.then])
       go_ret
       exact ⟨by rw [hRf.out]; rfl, hfin.out⟩
      | false =>
       go_wp2_with fail
       refine (hpc.out w27 hqw27.out).mono ?_
       rintro e w28 ⟨rfl, hbw28⟩
       have hqw28 := Lib.hid (hqw27.out.trans (hbw28.mono hqw27.out.size))
       clear hbw28 y0 y1 y2 y3 y4
       have hTb9 := hTb.out w28 hqw28.out
       have y0 := Xp.cell_blk hTb9 (i := 0) rfl
       have y1 := Xp.cell_blk hTb9 (i := 1) rfl
       have y2 := Xp.cell_blk hTb9 (i := 2) rfl
       have y3 := Xp.cell_blk hTb9 (i := 3) rfl
       have y4 := Xp.cell_blk hTb9 (i := 4) rfl
       clear hTb9
       cases PL with
       | false =>
        have hRf : Hid (R = false) := Lib.hid (by rw [← hR.out]; simp [headOk])
        have hfin := Lib.hid (hbaH.out.trans (hqw28.out.mono hbaH.out.size))
        clear hR
        go_wp2_with fail
        (try simp only [Exit.inBlock, Exit.then])
        go_ret
        exact ⟨by rw [hRf.out]; rfl, hfin.out⟩
       | true =>
        go_wp2_with fail
        refine (hcc4.out w28 hqw28.out).mono ?_
        rintro e wq ⟨rfl, hwq⟩
        replace hwq := hwq.symm
        subst hwq
        cases C4 with
        | true =>
         have hRf : Hid (R = false) := Lib.hid (by rw [← hR.out]; simp [headOk])
         have hfin := Lib.hid (hbaH.out.trans (hqw28.out.mono hbaH.out.size))
         clear hR
         go_wp2_with fail
         (try simp only [Exit.inBlock, Exit.then])
         go_ret
         exact ⟨by rw [hRf.out]; rfl, hfin.out⟩
        | false =>
         have hRf : Hid (R = true) := Lib.hid (by rw [← hR.out]; simp [headOk])
         have hfin := Lib.hid (hbaH.out.trans (hqw28.out.mono hbaH.out.size))
         clear hR
         go_wp2_with fail
         (try simp only [Exit.inBlock, Exit.then])
         go_ret
         exact ⟨by rw [hRf.out]; rfl, hfin.out⟩
   | cons c0 r0 =>
    have e2 : S2.toList.isEmpty = false := ez2
    obtain ⟨BL, hBL⟩ : ∃ b, Qx.blank c0 = b := ⟨_, rfl⟩
    have hho : headOk (c0 :: r0) = !BL := by rw [← hBL]; rfl
    rw [hho] at hRe
    have hR := Lib.hid hRe
    have hz2 := hz2H.out
    have hsz : S2.size = (c0 :: r0).length := by rw [← hS2H.out]; exact strOf_size' _
    rw [List.length_cons] at hsz hz2
    have hlt0 : 0 < S2.size := by omega
    have hgx : S2[0]'hlt0 = c0 := by
     have h9 := hS2H.out
     subst h9
     exact str_at rfl hlt0
    have hc9 := c0.toNat_lt
    have hbk := Lib.hid (fun x => blank_any (c0.toNat : Int) x)
    have hbl' : Blank (c0.toNat : Int) = BL := hBL
    rw [hbl'] at hbk
    clear hRe ez1 ez2 hho hBL hbl' hz2
    go_enter Tryz.func16, Tryz.ntmps16
    go_wp2_with fail
    refine (hbk.out w1).mono ?_
    rintro e wq ⟨rfl, hwq⟩
    replace hwq := hwq.symm
    subst hwq
    go_wp2_with fail
    refine (hbc.out w1 hqw1.out).mono ?_
    rintro e w30 ⟨rfl, hbw30⟩
    have hqw30 := Lib.hid (hqw1.out.trans (hbw30.mono hqw1.out.size))
    clear hbw30 y0 y1 y2 y3 y4
    have hTb9 := hTb.out w30 hqw30.out
    have y0 := Xp.cell_blk hTb9 (i := 0) rfl
    have y1 := Xp.cell_blk hTb9 (i := 1) rfl
    have y2 := Xp.cell_blk hTb9 (i := 2) rfl
    have y3 := Xp.cell_blk hTb9 (i := 3) rfl
    have y4 := Xp.cell_blk hTb9 (i := 4) rfl
    clear hTb9
    cases BA with
    | false =>
     have hRf : Hid (R = false) := Lib.hid (by rw [← hR.out]; simp)
     have hfin := Lib.hid (hbaH.out.trans (hqw30.out.mono hbaH.out.size))
     clear hR
     go_wp2_with fail
     (try simp only [Exit.inBlock, Exit.then])
     go_ret
     exact ⟨by rw [hRf.out]; rfl, hfin.out⟩
    | true =>
     go_wp2_with fail
     refine (hnc.out w30 hqw30.out).mono ?_
     rintro e w31 ⟨rfl, hbw31⟩
     have hqw31 := Lib.hid (hqw30.out.trans (hbw31.mono hqw30.out.size))
     clear hbw31 y0 y1 y2 y3 y4
     have hTb9 := hTb.out w31 hqw31.out
     have y0 := Xp.cell_blk hTb9 (i := 0) rfl
     have y1 := Xp.cell_blk hTb9 (i := 1) rfl
     have y2 := Xp.cell_blk hTb9 (i := 2) rfl
     have y3 := Xp.cell_blk hTb9 (i := 3) rfl
     have y4 := Xp.cell_blk hTb9 (i := 4) rfl
     clear hTb9
     cases NM with
     | false =>
      have hRf : Hid (R = false) := Lib.hid (by rw [← hR.out]; simp)
      have hfin := Lib.hid (hbaH.out.trans (hqw31.out.mono hbaH.out.size))
      clear hR
      go_wp2_with fail
      (try simp only [Exit.inBlock, Exit.then])
      go_ret
      exact ⟨by rw [hRf.out]; rfl, hfin.out⟩
     | true =>
      go_wp2_with fail
      refine (hlc.out w31 hqw31.out).mono ?_
      rintro e w32 ⟨tl, rfl, htl, hbw32⟩
      have hqw32 := Lib.hid (hqw31.out.trans (hbw32.mono hqw31.out.size))
      clear hbw32 y0 y1 y2 y3 y4
      have hTb9 := hTb.out w32 hqw32.out
      have y0 := Xp.cell_blk hTb9 (i := 0) rfl
      have y1 := Xp.cell_blk hTb9 (i := 1) rfl
      have y2 := Xp.cell_blk hTb9 (i := 2) rfl
      have y3 := Xp.cell_blk hTb9 (i := 3) rfl
      have y4 := Xp.cell_blk hTb9 (i := 4) rfl
      clear hTb9
      have s2 := str_eqL tl [120, 109, 108]
      have htl' : decide (tl = [120, 109, 108]) = LX := htl
      rw [htl'] at s2
      clear htl htl'
      cases LX with
      | true =>
       have hRf : Hid (R = false) := Lib.hid (by rw [← hR.out]; simp)
       have hfin := Lib.hid (hbaH.out.trans (hqw32.out.mono hbaH.out.size))
       clear hR
       go_wp2_with fail
       (try simp only [Exit.inBlock, Exit.then])
       go_ret
       exact ⟨by rw [hRf.out]; rfl, hfin.out⟩
      | false =>
       go_wp2_with fail
       refine (hpc.out w32 hqw32.out).mono ?_
       rintro e w33 ⟨rfl, hbw33⟩
       have hqw33 := Lib.hid (hqw32.out.trans (hbw33.mono hqw32.out.size))
       clear hbw33 y0 y1 y2 y3 y4
       have hTb9 := hTb.out w33 hqw33.out
       have y0 := Xp.cell_blk hTb9 (i := 0) rfl
       have y1 := Xp.cell_blk hTb9 (i := 1) rfl
       have y2 := Xp.cell_blk hTb9 (i := 2) rfl
       have y3 := Xp.cell_blk hTb9 (i := 3) rfl
       have y4 := Xp.cell_blk hTb9 (i := 4) rfl
       clear hTb9
       cases PL with
       | false =>
        have hRf : Hid (R = false) := Lib.hid (by rw [← hR.out]; simp)
        have hfin := Lib.hid (hbaH.out.trans (hqw33.out.mono hbaH.out.size))
        clear hR
        go_wp2_with fail
        (try simp only [Exit.inBlock, Exit.then])
        go_ret
        exact ⟨by rw [hRf.out]; rfl, hfin.out⟩
       | true =>
        go_wp2_with fail
        refine (hcc4.out w33 hqw33.out).mono ?_
        rintro e wq ⟨rfl, hwq⟩
        replace hwq := hwq.symm
        subst hwq
        cases C4 with
        | true =>
         have hRf : Hid (R = false) := Lib.hid (by rw [← hR.out]; simp)
         have hfin := Lib.hid (hbaH.out.trans (hqw33.out.mono hbaH.out.size))
         clear hR
         go_wp2_with fail
         (try simp only [Exit.inBlock, Exit.then])
         go_ret
         exact ⟨by rw [hRf.out]; rfl, hfin.out⟩
        | false =>
         cases BL with
         | true =>
          have hRf : Hid (R = false) := Lib.hid (by rw [← hR.out]; simp)
          have hfin := Lib.hid (hbaH.out.trans (hqw33.out.mono hbaH.out.size))
          clear hR
          go_wp2_with fail
          (try simp only [Exit.inBlock, Exit.then])
          go_ret
          exact ⟨by rw [hRf.out]; rfl, hfin.out⟩
         | false =>
          have hRf : Hid (R = true) := Lib.hid (by rw [← hR.out]; simp)
          have hfin := Lib.hid (hbaH.out.trans (hqw33.out.mono hbaH.out.size))
          clear hR
          go_wp2_with fail
          (try simp only [Exit.inBlock, Exit.then])
          go_ret
          exact ⟨by rw [hRf.out]; rfl, hfin.out⟩
  rw [if_neg h4] at hRe
  have k4 : (kd == 4) = false := by simpa using h4
  subst hRe
  clear hBA hNM hAO hFL hGD hPL hC3 hC4 hSX hLX f3 f4 fs fl hnc hac hkc hgc hcc3 hsc h1 h2 h3 h4 hbc hpc hcc4 hlc
  go_enter Tryz.func16, Tryz.ntmps16
  go_wp2_with fail
  go_ret
  exact ⟨rfl, hbaH.out⟩
end Go.Proofs.YtokdnhdfmgfkeaaGreatDoor.Xp
end

section
namespace Go.Proofs.YtokdnhdfmgfkeaaGreatDoor.Xp
open Go.RowKit UtfW Xl Xo Xt

theorem miscOk_at {l : List Nd} {i : Nat} {x : Nd} (h : l[i]? = some x) : miscOk (l.drop i) = ((decide (x.kind = 3) || decide (x.kind = 4)) && fairN x && miscOk (l.drop (i + 1))) := by
 obtain ⟨hl, e⟩ := List.getElem?_eq_some_iff.1 h
 rw [List.drop_eq_getElem_cons hl, e, miscOk]
set_option maxHeartbeats 4000000 in
set_option maxRecDepth 100000 in
theorem misc_any (X : Nat → Prop) (w : World) (hU : Un w) (A : Option Addr) (n c : Nat) (l : List Nd) (hS : Sq (NdE X) 5 w A n c l) (hX : ∀ j, X j → j < w.heap.size) (hsm : smL l) :
  Calls Tryz.prog 41 #[.slice A n c] w fun e w' => e = .returned (.bool (miscOk l)) ∧ Below w.heap.size w w' := by
 have hln := Lib.hid hS.len
 have hlm : n ≤ 9223372036854775807 := Nat.le_trans hS.le hS.max
 have hS' := Lib.hid hS
 have hX' := Lib.hid hX
 have hU' := Lib.hid hU
 have hF' := Lib.hid (fun (i : Nat) x (hx : l[i]? = some x) => Fair_any _ X x (Nat.le_refl _) (smL_mem hsm hx))
 obtain ⟨R, hR⟩ : ∃ R, miscOk l = R := ⟨_, rfl⟩
 rw [hR]
 have hR' := Lib.hid hR
 clear hS hX hU hR hsm
 go_enter Tryz.func41, Tryz.ntmps41
 go_wp2_with fail
 go_loopw [7] (fun vi wr => ∃ (i : Nat), i ≤ n ∧ vi = .int .i64 (i : Nat) ∧ Hid (miscOk (l.drop i) = R) ∧ Hid (Below w.heap.size w wr)) (fun vi _ => n - (intOf vi).toNat)
 case atStart => exact ⟨0, Nat.zero_le _, rfl, hR', Lib.hid (Below.refl _ _)⟩
 case round =>
  obtain ⟨i, hi, rfl, hok, hb⟩ := hrel
  by_cases hlt : i < n
  ·have i1 : decide ((i : Int) < (n : Int)) = true := by simp; omega
   have q1 : (i : Int) < (n : Int) := by omega
   have hX1 : ∀ j, X j → j < wr.heap.size := fun j hj => Nat.lt_of_lt_of_le (hX'.out j hj) hb.out.size
   have hKr := sq_keep hS'.out hb.out (fun vs x h => NdI.later h hX'.out hb.out)
   obtain ⟨b1, off1, x, vs1, rfl, _, hx1, _, hv1, hc1⟩ := hKr.at_ hlt
   have hfx := hF'.out i x hx1
   have hok9 := hok.out
   rw [miscOk_at hx1] at hok9
   obtain ⟨kx, nx_, tx_, ax, kx_⟩ := x
   obtain ⟨Ax, cax, A2x, c2x, rfl, -⟩ := hv1.cells
   have m0 := hc1 0 _ rfl
   have m1 := hc1 1 _ rfl
   have m2 := hc1 2 _ rfl
   have m3 := hc1 3 _ rfl
   have m4 := hc1 4 _ rfl
   rw [Nat.add_zero] at m0
   have hbt := below_alloc wr (.cells #[.int .i64 kx, .string (strOf nx_), .string (strOf tx_), .slice Ax ax.length cax, .slice A2x kx_.length c2x] 25)
   have hrec := Lib.hid (hfx _ (wr.alloc (.cells #[.int .i64 kx, .string (strOf nx_), .string (strOf tx_), .slice Ax ax.length cax, .slice A2x kx_.length c2x] 25)) (hU'.out.below (hb.out.trans (hbt.mono hb.out.size))) (NdI.later hv1 hX1 hbt) (fun j hj => Nat.lt_of_lt_of_le (hX1 j hj) hbt.size))
   have hbb := Lib.hid (hb.out.trans (hbt.mono hb.out.size))
   obtain ⟨FX, hFX⟩ : ∃ b, fairN (.mk kx nx_ tx_ ax kx_) = b := ⟨_, rfl⟩
   rw [hFX] at hok9 hrec
   have hok9 : Hid (((decide (kx = 3) || decide (kx = 4)) && FX && miscOk (l.drop (i + 1))) = R) := Lib.hid hok9
   clear hok hX1 hKr hc1 hx1 hfx hv1 hbt hFX
   by_cases h3 : kx = 3
   ·have k3 : (kx != 3) = false := by rw [h3]; rfl
    have hok8 : Hid ((FX && miscOk (l.drop (i + 1))) = R) := Lib.hid (by rw [← hok9.out]; simp [h3])
    clear hok9 h3
    go_wp2_with fail
    refine hrec.out.mono ?_
    rintro e w5 ⟨rfl, hb5⟩
    have hw5 := Lib.hid (hbb.out.trans (hb5.mono hbb.out.size))
    clear hb5 m0 m1 m2 m3 m4 hrec hbb
    cases FX with
    | false =>
     have hRf : Hid (R = false) := Lib.hid (by rw [← hok8.out]; simp)
     clear hok8
     go_wp2_with fail
     (try simp only [Exit.inBlock, Exit.then])
     go_ret
     exact ⟨by rw [hRf.out]; rfl, hw5.out⟩
    | true =>
     have hnext : Hid (miscOk (l.drop (i + 1)) = R) := Lib.hid (by rw [← hok8.out]; simp)
     clear hok8
     go_wp2_with fail
     go_roundw
     case rel => exact ⟨i + 1, by omega, by go_num, hnext, hw5⟩
     case measure => simp [intOf]; omega
   ·have k3 : (kx != 3) = true := by simpa using h3
    by_cases h4 : kx = 4
    ·have k4 : (kx != 4) = false := by rw [h4]; rfl
     have hok8 : Hid ((FX && miscOk (l.drop (i + 1))) = R) := Lib.hid (by rw [← hok9.out]; simp [h4])
     clear hok9 h3 h4
     go_wp2_with fail
     refine hrec.out.mono ?_
     rintro e w5 ⟨rfl, hb5⟩
     have hw5 := Lib.hid (hbb.out.trans (hb5.mono hbb.out.size))
     clear hb5 m0 m1 m2 m3 m4 hrec hbb
     cases FX with
     | false =>
      have hRf : Hid (R = false) := Lib.hid (by rw [← hok8.out]; simp)
      clear hok8
      go_wp2_with fail
      (try simp only [Exit.inBlock, Exit.then])
      go_ret
      exact ⟨by rw [hRf.out]; rfl, hw5.out⟩
     | true =>
      have hnext : Hid (miscOk (l.drop (i + 1)) = R) := Lib.hid (by rw [← hok8.out]; simp)
      clear hok8
      go_wp2_with fail
      go_roundw
      case rel => exact ⟨i + 1, by omega, by go_num, hnext, hw5⟩
      case measure => simp [intOf]; omega
    ·have k4 : (kx != 4) = true := by simpa using h4
     have hRf : Hid (R = false) := Lib.hid (by rw [← hok9.out]; simp [h3, h4])
     clear hok9 h3 h4 hrec
     go_wp2_with fail
     (try simp only [Exit.inBlock, Exit.then])
     go_ret
     exact ⟨by rw [hRf.out]; rfl, hbb.out⟩
  ·have hie : i = n := by omega
   subst hie
   have i1 : decide ((i : Int) < (i : Int)) = false := by simp
   have hRt : Hid (R = true) := Lib.hid (by
    have h9 := hok.out
    rw [List.drop_eq_nil_of_le (by rw [hln.out]; exact Nat.le_refl _)] at h9
    rw [← h9]
    rfl)
   clear hok
   go_wp2_with fail
   (try simp only [Exit.inBlock, Exit.then])
   go_ret
   exact ⟨by rw [hRt.out]; rfl, hb.out⟩
end Go.Proofs.YtokdnhdfmgfkeaaGreatDoor.Xp
end

section
namespace Go.Proofs.YtokdnhdfmgfkeaaGreatDoor.Xp
open Go.RowKit UtfW Xl Xo

set_option maxHeartbeats 2000000 in
set_option maxRecDepth 100000 in
theorem string_any (b : Nat) (v : Value) (l : Tx) (w : World) (h : Pr b v l w) (hlen : l.length ≤ 100000000000000) :
  Calls Tryz.prog 59 #[.pointer (some ⟨b, 0, none⟩)] w fun e w' => e = .returned (.string (strOf l)) ∧ Below b w w' := by
 obtain ⟨p, hbk, -⟩ := h.blk
 have hlt := h.lt
 by_cases h0 : l = []
 ·have hv := h.nil h0
  subst hv
  subst h0
  have hUS : ∀ W : World, (Builtin.unsafeString_ #[118, 3] 9 #[.pointer none, .int .i64 0]).run Tryz.prog W = .ok (.string .empty) W := fun W => Lib.run_unsafeString_none W _ _ _ none
  have hSD : ∀ W : World, (Builtin.unsafeSliceData_ #[41] 118 #[.slice none 0 0]).run Tryz.prog W = .ok (.pointer none) W := fun W => rfl
  have c1 : w.drew.cell? ⟨b, 1, none⟩ = some (.slice none 0 0) := cell_blk (w := w.drew) hbk rfl
  clear h hbk
  go_enter Tryz.func59, Tryz.ntmps59
  go_wp2_with fail
  have mixed : Tryz.prog.follows Departure.mixedOrders = true := by kernel_rfl
  go_region_o
  all_goals (go_wp2_with fail; go_ret; exact ⟨rfl, Below.drew (Below.refl b w)⟩)
 ·have hown := h.own
  have hl0 : l.length ≠ 0 := by simpa using h0
  obtain ⟨g, cap, cur, rfl, hbg, hg, hnc, hcm, hcs, htake⟩ : ∃ g cap cur, v = .slice (some ⟨g, 0, none⟩) l.length cap ∧ b ≤ g ∧ w.heap[g]? = some (.cells cur 5 (0, 0)) ∧ l.length ≤ cap ∧ cap ≤ maxLen ∧ cur.size = cap * 1 ∧ cur.toList.take (l.length * 1) = bv l := by
   rcases hown.2 with ⟨_, hz⟩ | ⟨g, cap, cur, hv, r⟩
   ·exact absurd hz hl0
   ·exact ⟨g, cap, cur, hv, r⟩
  have c1 : w.drew.cell? ⟨b, 1, none⟩ = some (.slice (some ⟨g, 0, none⟩) l.length cap) := cell_blk (w := w.drew) hbk rfl
  have hSD : (Builtin.unsafeSliceData_ #[41] 118 #[.slice (some ⟨g, 0, none⟩) l.length cap]).run Tryz.prog w.drew = .ok (.pointer (some ⟨g, 0, none⟩)) w.drew :=
   Lib.run_unsafeSliceData_row _ _ _ _ _ _ (by omega)
  have hUS : (Builtin.unsafeString_ #[118, 3] 9 #[.pointer (some ⟨g, 0, none⟩), .int .i64 l.length]).run Tryz.prog w.drew = .ok (.string (strOf l)) (w.drew.freeze ⟨g, 0, none⟩ l.length) := by
   refine Lib.run_unsafeString_row w.drew 118 3 9 5 Tryz.underlying118 (by kernel_rfl) g cur.size (by have hg' : w.drew.heap[g]? = some (.cells cur 5 (0, 0)) := hg; simp [World.shape?, hg']) l h0 (by omega) (by unfold maxLen at hcm; omega) ?_
   intro j x hx
   have := World.ownsRow.cells (g := g) hown rfl j (.int .u8 x.toNat) (by unfold bv; simp [hx])
   exact this
  have hlg : Hid (b ≤ g) := Lib.hid hbg
  clear h hbk hown hg hnc hcm hcs htake hbg h0 hl0
  go_enter Tryz.func59, Tryz.ntmps59
  go_wp2_with fail
  have mixed : Tryz.prog.follows Departure.mixedOrders = true := by kernel_rfl
  go_region_o
  all_goals (go_wp2_with fail; go_ret; exact ⟨rfl, Lib.below_freeze (Below.drew (Below.refl b w)) (p := ⟨g, 0, none⟩) hlg.out _⟩)
end Go.Proofs.YtokdnhdfmgfkeaaGreatDoor.Xp
end

section
namespace Go.Proofs.YtokdnhdfmgfkeaaGreatDoor.Xp
open Go.RowKit UtfW Xl Xo

theorem rd_new (w : World) (xs : List Value) (E : TypeId) (n : Nat) (hn : xs.length = n) (hm : n ≤ 9223372036854775807) : Rd (w.alloc (.cells xs.toArray E)) (some ⟨w.heap.size, 0, none⟩) n n xs := by
 have h := heap_alloc_new w (.cells xs.toArray E)
 refine ⟨hn, Nat.le_refl _, hm, fun h => (by cases h), fun hp => ⟨w.heap.size, 0, rfl, (Array.getElem?_eq_some_iff.1 h).1, fun i x hx => ?_⟩⟩
 simp only [World.cell?, h, Nat.zero_add]
 simpa using hx
def PrP (b : Nat) (v : Value) (w : World) (l : Tx) (e : Ending) (w' : World) : Prop := (∃ r, e = .returned r) ∧ ∃ v', Pr b v' l w' ∧ Wk b v w v' w'
set_option maxHeartbeats 2000000 in
set_option maxRecDepth 100000 in
theorem put_any (b : Nat) (v : Value) (l : Tx) (w : World) (A : Option Addr) (n c : Nat) (ss : List Tx) (h : Pr b v l w) (hS : Rd w A n c (ss.map fun s => .string (strOf s))) (hA : ∀ a, A = some a → 0 < n → a.block ≠ b ∧ v.ownBlock ≠ some a.block) (hlen : (l ++ ss.flatten).length ≤ 100000000000000) :
  Calls Tryz.prog 89 #[.pointer (some ⟨b, 0, none⟩), .slice A n c] w (PrP b v w (l ++ ss.flatten)) := by
 have hln := hS.len
 rw [List.length_map] at hln
 have hle := hS.le
 have hmx := hS.max
 have hl := Lib.hid hln
 have hS' := Lib.hid hS
 have h' := Lib.hid h
 have hA' := Lib.hid hA
 have hlen' := Lib.hid hlen
 clear hS h hA hlen hln
 go_enter Tryz.func89, Tryz.ntmps89
 go_wp2_with fail
 go_loopw [8] (fun vi wr => ∃ i : Nat, i ≤ n ∧ vi = .int .i64 (i : Nat) ∧ Hid (∃ v1, Pr b v1 (l ++ (ss.take i).flatten) wr ∧ Wk b v w v1 wr)) (fun vi _ => n - (intOf vi).toNat)
 case atStart => exact ⟨0, Nat.zero_le _, rfl, Lib.hid ⟨v, by simpa using h'.out, Wk.refl _ _ _⟩⟩
 case round =>
  obtain ⟨i, hi, rfl, hst⟩ := hrel
  by_cases hlt : i < n
  ·have i1 : decide ((i : Int) < (n : Int)) = true := by simp; omega
   have q1 : (i : Int) < (n : Int) := by omega
   obtain ⟨v1, hp1, hw1⟩ := hst.out
   obtain ⟨bk, off, u, rfl, hbk, hu, hc⟩ := hS'.out.at_ hlt
   obtain ⟨n1, n2⟩ := hA'.out _ rfl (by omega)
   have hsame : wr.heap[bk]? = w.heap[bk]? := hw1.keep bk hbk n1 n2
   have hc' : wr.cell? ⟨bk, off + i, none⟩ = some u := (Xt.cell_same hsame).trans hc
   rw [List.getElem?_map, Option.map_eq_some_iff] at hu
   obtain ⟨s, hs, rfl⟩ := hu
   have hnext : (ss.take (i + 1)).flatten = (ss.take i).flatten ++ s := by rw [take_snoc hs, List.flatten_append]; simp
   have hl9 : (l ++ (ss.take i).flatten).length + s.length ≤ 100000000000000 := by
    have e : ss.flatten = (ss.take (i + 1)).flatten ++ (ss.drop (i + 1)).flatten := by rw [← List.flatten_append, List.take_append_drop]
    have h9 := hlen'.out
    rw [e, hnext] at h9
    simp only [List.length_append] at h9 ⊢
    omega
   have hwr := Lib.hid (write_any b v1 (l ++ (ss.take i).flatten) s wr hp1 hl9)
   have hw1' := Lib.hid hw1
   have hnext' := Lib.hid hnext
   clear hp1 hw1 hst hnext hl9 hc hs hsame n1 n2 hbk
   go_wp2_with fail
   refine hwr.out.mono ?_
   rintro e w5 ⟨⟨r, rfl⟩, v2, hp2, hw2⟩
   have hfin : Hid (∃ v1, Pr b v1 (l ++ (ss.take (i + 1)).flatten) w5 ∧ Wk b v w v1 w5) := Lib.hid ⟨v2, by rw [hnext'.out, ← List.append_assoc]; exact hp2, hw1'.out.trans hw2⟩
   clear hp2 hw2 hc'
   go_wp2_with fail
   go_roundw
   case rel => exact ⟨i + 1, by omega, by go_num, hfin⟩
   case measure => simp [intOf]; omega
  ·have hie : i = n := by omega
   subst hie
   have i1 : decide ((i : Int) < (i : Int)) = false := by simp
   have hfin : Hid (∃ v1, Pr b v1 (l ++ ss.flatten) wr ∧ Wk b v w v1 wr) := Lib.hid (by
    have h9 := hst.out
    rwa [List.take_of_length_le (by rw [hl.out]; exact Nat.le_refl _)] at h9)
   go_wp2_with fail
   go_end0
   exact ⟨⟨_, rfl⟩, hfin.out⟩
set_option maxHeartbeats 2000000 in
set_option maxRecDepth 100000 in
theorem escaped_any (c : UInt8) (value : Bool) (w : World) :
  Calls Tryz.prog 123 #[.int .u8 (c.toNat : Nat), .bool value] w fun e w' => e = .returned (.string (strOf (esc1 value c))) ∧ Below w.heap.size w w' := by
 cases value with
 | false =>
  by_cases h38 : c = 38
  ·have j38 : ((c.toNat : Int) == 38) = true := by rw [h38]; rfl
   have j60 : ((c.toNat : Int) == 60) = false := by rw [h38]; rfl
   have j13 : ((c.toNat : Int) == 13) = false := by rw [h38]; rfl
   have j62 : ((c.toNat : Int) == 62) = false := by rw [h38]; rfl
   have j34 : ((c.toNat : Int) == 34) = false := by rw [h38]; rfl
   have j9 : ((c.toNat : Int) == 9) = false := by rw [h38]; rfl
   have j10 : ((c.toNat : Int) == 10) = false := by rw [h38]; rfl
   have he : Hid (esc1 false c = esc1 false 38) := Lib.hid (by rw [h38])
   clear h38
   go_enter Tryz.func123, Tryz.ntmps123
   go_wp2_with fail
   go_ret
   exact ⟨by rw [he.out]; rfl, Below.refl _ _⟩
  by_cases h60 : c = 60
  ·have j38 : ((c.toNat : Int) == 38) = false := by rw [show (38 : Int) = ((38 : UInt8).toNat : Int) from rfl, byte_eq, decide_eq_false h38]
   have j60 : ((c.toNat : Int) == 60) = true := by rw [h60]; rfl
   have j13 : ((c.toNat : Int) == 13) = false := by rw [h60]; rfl
   have j62 : ((c.toNat : Int) == 62) = false := by rw [h60]; rfl
   have j34 : ((c.toNat : Int) == 34) = false := by rw [h60]; rfl
   have j9 : ((c.toNat : Int) == 9) = false := by rw [h60]; rfl
   have j10 : ((c.toNat : Int) == 10) = false := by rw [h60]; rfl
   have he : Hid (esc1 false c = esc1 false 60) := Lib.hid (by rw [h60])
   clear h38 h60
   go_enter Tryz.func123, Tryz.ntmps123
   go_wp2_with fail
   go_ret
   exact ⟨by rw [he.out]; rfl, Below.refl _ _⟩
  by_cases h13 : c = 13
  ·have j38 : ((c.toNat : Int) == 38) = false := by rw [show (38 : Int) = ((38 : UInt8).toNat : Int) from rfl, byte_eq, decide_eq_false h38]
   have j60 : ((c.toNat : Int) == 60) = false := by rw [show (60 : Int) = ((60 : UInt8).toNat : Int) from rfl, byte_eq, decide_eq_false h60]
   have j13 : ((c.toNat : Int) == 13) = true := by rw [h13]; rfl
   have j62 : ((c.toNat : Int) == 62) = false := by rw [h13]; rfl
   have j34 : ((c.toNat : Int) == 34) = false := by rw [h13]; rfl
   have j9 : ((c.toNat : Int) == 9) = false := by rw [h13]; rfl
   have j10 : ((c.toNat : Int) == 10) = false := by rw [h13]; rfl
   have he : Hid (esc1 false c = esc1 false 13) := Lib.hid (by rw [h13])
   clear h38 h60 h13
   go_enter Tryz.func123, Tryz.ntmps123
   go_wp2_with fail
   go_ret
   exact ⟨by rw [he.out]; rfl, Below.refl _ _⟩
  by_cases h62 : c = 62
  ·have j38 : ((c.toNat : Int) == 38) = false := by rw [show (38 : Int) = ((38 : UInt8).toNat : Int) from rfl, byte_eq, decide_eq_false h38]
   have j60 : ((c.toNat : Int) == 60) = false := by rw [show (60 : Int) = ((60 : UInt8).toNat : Int) from rfl, byte_eq, decide_eq_false h60]
   have j13 : ((c.toNat : Int) == 13) = false := by rw [show (13 : Int) = ((13 : UInt8).toNat : Int) from rfl, byte_eq, decide_eq_false h13]
   have j62 : ((c.toNat : Int) == 62) = true := by rw [h62]; rfl
   have j34 : ((c.toNat : Int) == 34) = false := by rw [h62]; rfl
   have j9 : ((c.toNat : Int) == 9) = false := by rw [h62]; rfl
   have j10 : ((c.toNat : Int) == 10) = false := by rw [h62]; rfl
   have he : Hid (esc1 false c = esc1 false 62) := Lib.hid (by rw [h62])
   clear h38 h60 h13 h62
   go_enter Tryz.func123, Tryz.ntmps123
   go_wp2_with fail
   go_ret
   exact ⟨by rw [he.out]; rfl, Below.refl _ _⟩
  by_cases h34 : c = 34
  ·have j38 : ((c.toNat : Int) == 38) = false := by rw [show (38 : Int) = ((38 : UInt8).toNat : Int) from rfl, byte_eq, decide_eq_false h38]
   have j60 : ((c.toNat : Int) == 60) = false := by rw [show (60 : Int) = ((60 : UInt8).toNat : Int) from rfl, byte_eq, decide_eq_false h60]
   have j13 : ((c.toNat : Int) == 13) = false := by rw [show (13 : Int) = ((13 : UInt8).toNat : Int) from rfl, byte_eq, decide_eq_false h13]
   have j62 : ((c.toNat : Int) == 62) = false := by rw [show (62 : Int) = ((62 : UInt8).toNat : Int) from rfl, byte_eq, decide_eq_false h62]
   have j34 : ((c.toNat : Int) == 34) = true := by rw [h34]; rfl
   have j9 : ((c.toNat : Int) == 9) = false := by rw [h34]; rfl
   have j10 : ((c.toNat : Int) == 10) = false := by rw [h34]; rfl
   have he : Hid (esc1 false c = [c]) := Lib.hid (by rw [h34]; rfl)
   have hbs : Bs (w.alloc (.cells #[.int .u8 (c.toNat : Nat)] 5)) (some ⟨w.heap.size, 0, none⟩) 1 1 [c] := rd_new w [.int .u8 (c.toNat : Nat)] 5 1 rfl (by decide)
   have hcv := Bs.conv hbs Tryz.underlying41 Tryz.underlying5 Tryz.underlying9
   have hba := Lib.hid (below_alloc w (.cells #[.int .u8 (c.toNat : Nat)] 5))
   clear hbs h38 h60 h13 h62 h34
   go_enter Tryz.func123, Tryz.ntmps123
   go_wp2_with fail
   go_ret
   exact ⟨by rw [he.out]; rfl, hba.out⟩
  by_cases h9 : c = 9
  ·have j38 : ((c.toNat : Int) == 38) = false := by rw [show (38 : Int) = ((38 : UInt8).toNat : Int) from rfl, byte_eq, decide_eq_false h38]
   have j60 : ((c.toNat : Int) == 60) = false := by rw [show (60 : Int) = ((60 : UInt8).toNat : Int) from rfl, byte_eq, decide_eq_false h60]
   have j13 : ((c.toNat : Int) == 13) = false := by rw [show (13 : Int) = ((13 : UInt8).toNat : Int) from rfl, byte_eq, decide_eq_false h13]
   have j62 : ((c.toNat : Int) == 62) = false := by rw [show (62 : Int) = ((62 : UInt8).toNat : Int) from rfl, byte_eq, decide_eq_false h62]
   have j34 : ((c.toNat : Int) == 34) = false := by rw [show (34 : Int) = ((34 : UInt8).toNat : Int) from rfl, byte_eq, decide_eq_false h34]
   have j9 : ((c.toNat : Int) == 9) = true := by rw [h9]; rfl
   have j10 : ((c.toNat : Int) == 10) = false := by rw [h9]; rfl
   have he : Hid (esc1 false c = [c]) := Lib.hid (by rw [h9]; rfl)
   have hbs : Bs (w.alloc (.cells #[.int .u8 (c.toNat : Nat)] 5)) (some ⟨w.heap.size, 0, none⟩) 1 1 [c] := rd_new w [.int .u8 (c.toNat : Nat)] 5 1 rfl (by decide)
   have hcv := Bs.conv hbs Tryz.underlying41 Tryz.underlying5 Tryz.underlying9
   have hba := Lib.hid (below_alloc w (.cells #[.int .u8 (c.toNat : Nat)] 5))
   clear hbs h38 h60 h13 h62 h34 h9
   go_enter Tryz.func123, Tryz.ntmps123
   go_wp2_with fail
   go_ret
   exact ⟨by rw [he.out]; rfl, hba.out⟩
  by_cases h10 : c = 10
  ·have j38 : ((c.toNat : Int) == 38) = false := by rw [show (38 : Int) = ((38 : UInt8).toNat : Int) from rfl, byte_eq, decide_eq_false h38]
   have j60 : ((c.toNat : Int) == 60) = false := by rw [show (60 : Int) = ((60 : UInt8).toNat : Int) from rfl, byte_eq, decide_eq_false h60]
   have j13 : ((c.toNat : Int) == 13) = false := by rw [show (13 : Int) = ((13 : UInt8).toNat : Int) from rfl, byte_eq, decide_eq_false h13]
   have j62 : ((c.toNat : Int) == 62) = false := by rw [show (62 : Int) = ((62 : UInt8).toNat : Int) from rfl, byte_eq, decide_eq_false h62]
   have j34 : ((c.toNat : Int) == 34) = false := by rw [show (34 : Int) = ((34 : UInt8).toNat : Int) from rfl, byte_eq, decide_eq_false h34]
   have j9 : ((c.toNat : Int) == 9) = false := by rw [show (9 : Int) = ((9 : UInt8).toNat : Int) from rfl, byte_eq, decide_eq_false h9]
   have j10 : ((c.toNat : Int) == 10) = true := by rw [h10]; rfl
   have he : Hid (esc1 false c = [c]) := Lib.hid (by rw [h10]; rfl)
   have hbs : Bs (w.alloc (.cells #[.int .u8 (c.toNat : Nat)] 5)) (some ⟨w.heap.size, 0, none⟩) 1 1 [c] := rd_new w [.int .u8 (c.toNat : Nat)] 5 1 rfl (by decide)
   have hcv := Bs.conv hbs Tryz.underlying41 Tryz.underlying5 Tryz.underlying9
   have hba := Lib.hid (below_alloc w (.cells #[.int .u8 (c.toNat : Nat)] 5))
   clear hbs h38 h60 h13 h62 h34 h9 h10
   go_enter Tryz.func123, Tryz.ntmps123
   go_wp2_with fail
   go_ret
   exact ⟨by rw [he.out]; rfl, hba.out⟩
  have j38 : ((c.toNat : Int) == 38) = false := by rw [show (38 : Int) = ((38 : UInt8).toNat : Int) from rfl, byte_eq, decide_eq_false h38]
  have j60 : ((c.toNat : Int) == 60) = false := by rw [show (60 : Int) = ((60 : UInt8).toNat : Int) from rfl, byte_eq, decide_eq_false h60]
  have j13 : ((c.toNat : Int) == 13) = false := by rw [show (13 : Int) = ((13 : UInt8).toNat : Int) from rfl, byte_eq, decide_eq_false h13]
  have j62 : ((c.toNat : Int) == 62) = false := by rw [show (62 : Int) = ((62 : UInt8).toNat : Int) from rfl, byte_eq, decide_eq_false h62]
  have j34 : ((c.toNat : Int) == 34) = false := by rw [show (34 : Int) = ((34 : UInt8).toNat : Int) from rfl, byte_eq, decide_eq_false h34]
  have j9 : ((c.toNat : Int) == 9) = false := by rw [show (9 : Int) = ((9 : UInt8).toNat : Int) from rfl, byte_eq, decide_eq_false h9]
  have j10 : ((c.toNat : Int) == 10) = false := by rw [show (10 : Int) = ((10 : UInt8).toNat : Int) from rfl, byte_eq, decide_eq_false h10]
  have he : Hid (esc1 false c = [c]) := Lib.hid (by unfold esc1; simp [h38, h60, h13, h62, h34, h9, h10])
  have hbs : Bs (w.alloc (.cells #[.int .u8 (c.toNat : Nat)] 5)) (some ⟨w.heap.size, 0, none⟩) 1 1 [c] := rd_new w [.int .u8 (c.toNat : Nat)] 5 1 rfl (by decide)
  have hcv := Bs.conv hbs Tryz.underlying41 Tryz.underlying5 Tryz.underlying9
  have hba := Lib.hid (below_alloc w (.cells #[.int .u8 (c.toNat : Nat)] 5))
  clear hbs h38 h60 h13 h62 h34 h9 h10
  go_enter Tryz.func123, Tryz.ntmps123
  go_wp2_with fail
  go_ret
  exact ⟨by rw [he.out]; rfl, hba.out⟩
 | true =>
  by_cases h38 : c = 38
  ·have j38 : ((c.toNat : Int) == 38) = true := by rw [h38]; rfl
   have j60 : ((c.toNat : Int) == 60) = false := by rw [h38]; rfl
   have j13 : ((c.toNat : Int) == 13) = false := by rw [h38]; rfl
   have j62 : ((c.toNat : Int) == 62) = false := by rw [h38]; rfl
   have j34 : ((c.toNat : Int) == 34) = false := by rw [h38]; rfl
   have j9 : ((c.toNat : Int) == 9) = false := by rw [h38]; rfl
   have j10 : ((c.toNat : Int) == 10) = false := by rw [h38]; rfl
   have he : Hid (esc1 true c = esc1 true 38) := Lib.hid (by rw [h38])
   clear h38
   go_enter Tryz.func123, Tryz.ntmps123
   go_wp2_with fail
   go_ret
   exact ⟨by rw [he.out]; rfl, Below.refl _ _⟩
  by_cases h60 : c = 60
  ·have j38 : ((c.toNat : Int) == 38) = false := by rw [show (38 : Int) = ((38 : UInt8).toNat : Int) from rfl, byte_eq, decide_eq_false h38]
   have j60 : ((c.toNat : Int) == 60) = true := by rw [h60]; rfl
   have j13 : ((c.toNat : Int) == 13) = false := by rw [h60]; rfl
   have j62 : ((c.toNat : Int) == 62) = false := by rw [h60]; rfl
   have j34 : ((c.toNat : Int) == 34) = false := by rw [h60]; rfl
   have j9 : ((c.toNat : Int) == 9) = false := by rw [h60]; rfl
   have j10 : ((c.toNat : Int) == 10) = false := by rw [h60]; rfl
   have he : Hid (esc1 true c = esc1 true 60) := Lib.hid (by rw [h60])
   clear h38 h60
   go_enter Tryz.func123, Tryz.ntmps123
   go_wp2_with fail
   go_ret
   exact ⟨by rw [he.out]; rfl, Below.refl _ _⟩
  by_cases h13 : c = 13
  ·have j38 : ((c.toNat : Int) == 38) = false := by rw [show (38 : Int) = ((38 : UInt8).toNat : Int) from rfl, byte_eq, decide_eq_false h38]
   have j60 : ((c.toNat : Int) == 60) = false := by rw [show (60 : Int) = ((60 : UInt8).toNat : Int) from rfl, byte_eq, decide_eq_false h60]
   have j13 : ((c.toNat : Int) == 13) = true := by rw [h13]; rfl
   have j62 : ((c.toNat : Int) == 62) = false := by rw [h13]; rfl
   have j34 : ((c.toNat : Int) == 34) = false := by rw [h13]; rfl
   have j9 : ((c.toNat : Int) == 9) = false := by rw [h13]; rfl
   have j10 : ((c.toNat : Int) == 10) = false := by rw [h13]; rfl
   have he : Hid (esc1 true c = esc1 true 13) := Lib.hid (by rw [h13])
   clear h38 h60 h13
   go_enter Tryz.func123, Tryz.ntmps123
   go_wp2_with fail
   go_ret
   exact ⟨by rw [he.out]; rfl, Below.refl _ _⟩
  by_cases h62 : c = 62
  ·have j38 : ((c.toNat : Int) == 38) = false := by rw [show (38 : Int) = ((38 : UInt8).toNat : Int) from rfl, byte_eq, decide_eq_false h38]
   have j60 : ((c.toNat : Int) == 60) = false := by rw [show (60 : Int) = ((60 : UInt8).toNat : Int) from rfl, byte_eq, decide_eq_false h60]
   have j13 : ((c.toNat : Int) == 13) = false := by rw [show (13 : Int) = ((13 : UInt8).toNat : Int) from rfl, byte_eq, decide_eq_false h13]
   have j62 : ((c.toNat : Int) == 62) = true := by rw [h62]; rfl
   have j34 : ((c.toNat : Int) == 34) = false := by rw [h62]; rfl
   have j9 : ((c.toNat : Int) == 9) = false := by rw [h62]; rfl
   have j10 : ((c.toNat : Int) == 10) = false := by rw [h62]; rfl
   have he : Hid (esc1 true c = [c]) := Lib.hid (by rw [h62]; rfl)
   have hbs : Bs (w.alloc (.cells #[.int .u8 (c.toNat : Nat)] 5)) (some ⟨w.heap.size, 0, none⟩) 1 1 [c] := rd_new w [.int .u8 (c.toNat : Nat)] 5 1 rfl (by decide)
   have hcv := Bs.conv hbs Tryz.underlying41 Tryz.underlying5 Tryz.underlying9
   have hba := Lib.hid (below_alloc w (.cells #[.int .u8 (c.toNat : Nat)] 5))
   clear hbs h38 h60 h13 h62
   go_enter Tryz.func123, Tryz.ntmps123
   go_wp2_with fail
   go_ret
   exact ⟨by rw [he.out]; rfl, hba.out⟩
  by_cases h34 : c = 34
  ·have j38 : ((c.toNat : Int) == 38) = false := by rw [show (38 : Int) = ((38 : UInt8).toNat : Int) from rfl, byte_eq, decide_eq_false h38]
   have j60 : ((c.toNat : Int) == 60) = false := by rw [show (60 : Int) = ((60 : UInt8).toNat : Int) from rfl, byte_eq, decide_eq_false h60]
   have j13 : ((c.toNat : Int) == 13) = false := by rw [show (13 : Int) = ((13 : UInt8).toNat : Int) from rfl, byte_eq, decide_eq_false h13]
   have j62 : ((c.toNat : Int) == 62) = false := by rw [show (62 : Int) = ((62 : UInt8).toNat : Int) from rfl, byte_eq, decide_eq_false h62]
   have j34 : ((c.toNat : Int) == 34) = true := by rw [h34]; rfl
   have j9 : ((c.toNat : Int) == 9) = false := by rw [h34]; rfl
   have j10 : ((c.toNat : Int) == 10) = false := by rw [h34]; rfl
   have he : Hid (esc1 true c = esc1 true 34) := Lib.hid (by rw [h34])
   clear h38 h60 h13 h62 h34
   go_enter Tryz.func123, Tryz.ntmps123
   go_wp2_with fail
   go_ret
   exact ⟨by rw [he.out]; rfl, Below.refl _ _⟩
  by_cases h9 : c = 9
  ·have j38 : ((c.toNat : Int) == 38) = false := by rw [show (38 : Int) = ((38 : UInt8).toNat : Int) from rfl, byte_eq, decide_eq_false h38]
   have j60 : ((c.toNat : Int) == 60) = false := by rw [show (60 : Int) = ((60 : UInt8).toNat : Int) from rfl, byte_eq, decide_eq_false h60]
   have j13 : ((c.toNat : Int) == 13) = false := by rw [show (13 : Int) = ((13 : UInt8).toNat : Int) from rfl, byte_eq, decide_eq_false h13]
   have j62 : ((c.toNat : Int) == 62) = false := by rw [show (62 : Int) = ((62 : UInt8).toNat : Int) from rfl, byte_eq, decide_eq_false h62]
   have j34 : ((c.toNat : Int) == 34) = false := by rw [show (34 : Int) = ((34 : UInt8).toNat : Int) from rfl, byte_eq, decide_eq_false h34]
   have j9 : ((c.toNat : Int) == 9) = true := by rw [h9]; rfl
   have j10 : ((c.toNat : Int) == 10) = false := by rw [h9]; rfl
   have he : Hid (esc1 true c = esc1 true 9) := Lib.hid (by rw [h9])
   clear h38 h60 h13 h62 h34 h9
   go_enter Tryz.func123, Tryz.ntmps123
   go_wp2_with fail
   go_ret
   exact ⟨by rw [he.out]; rfl, Below.refl _ _⟩
  by_cases h10 : c = 10
  ·have j38 : ((c.toNat : Int) == 38) = false := by rw [show (38 : Int) = ((38 : UInt8).toNat : Int) from rfl, byte_eq, decide_eq_false h38]
   have j60 : ((c.toNat : Int) == 60) = false := by rw [show (60 : Int) = ((60 : UInt8).toNat : Int) from rfl, byte_eq, decide_eq_false h60]
   have j13 : ((c.toNat : Int) == 13) = false := by rw [show (13 : Int) = ((13 : UInt8).toNat : Int) from rfl, byte_eq, decide_eq_false h13]
   have j62 : ((c.toNat : Int) == 62) = false := by rw [show (62 : Int) = ((62 : UInt8).toNat : Int) from rfl, byte_eq, decide_eq_false h62]
   have j34 : ((c.toNat : Int) == 34) = false := by rw [show (34 : Int) = ((34 : UInt8).toNat : Int) from rfl, byte_eq, decide_eq_false h34]
   have j9 : ((c.toNat : Int) == 9) = false := by rw [show (9 : Int) = ((9 : UInt8).toNat : Int) from rfl, byte_eq, decide_eq_false h9]
   have j10 : ((c.toNat : Int) == 10) = true := by rw [h10]; rfl
   have he : Hid (esc1 true c = esc1 true 10) := Lib.hid (by rw [h10])
   clear h38 h60 h13 h62 h34 h9 h10
   go_enter Tryz.func123, Tryz.ntmps123
   go_wp2_with fail
   go_ret
   exact ⟨by rw [he.out]; rfl, Below.refl _ _⟩
  have j38 : ((c.toNat : Int) == 38) = false := by rw [show (38 : Int) = ((38 : UInt8).toNat : Int) from rfl, byte_eq, decide_eq_false h38]
  have j60 : ((c.toNat : Int) == 60) = false := by rw [show (60 : Int) = ((60 : UInt8).toNat : Int) from rfl, byte_eq, decide_eq_false h60]
  have j13 : ((c.toNat : Int) == 13) = false := by rw [show (13 : Int) = ((13 : UInt8).toNat : Int) from rfl, byte_eq, decide_eq_false h13]
  have j62 : ((c.toNat : Int) == 62) = false := by rw [show (62 : Int) = ((62 : UInt8).toNat : Int) from rfl, byte_eq, decide_eq_false h62]
  have j34 : ((c.toNat : Int) == 34) = false := by rw [show (34 : Int) = ((34 : UInt8).toNat : Int) from rfl, byte_eq, decide_eq_false h34]
  have j9 : ((c.toNat : Int) == 9) = false := by rw [show (9 : Int) = ((9 : UInt8).toNat : Int) from rfl, byte_eq, decide_eq_false h9]
  have j10 : ((c.toNat : Int) == 10) = false := by rw [show (10 : Int) = ((10 : UInt8).toNat : Int) from rfl, byte_eq, decide_eq_false h10]
  have he : Hid (esc1 true c = [c]) := Lib.hid (by unfold esc1; simp [h38, h60, h13, h62, h34, h9, h10])
  have hbs : Bs (w.alloc (.cells #[.int .u8 (c.toNat : Nat)] 5)) (some ⟨w.heap.size, 0, none⟩) 1 1 [c] := rd_new w [.int .u8 (c.toNat : Nat)] 5 1 rfl (by decide)
  have hcv := Bs.conv hbs Tryz.underlying41 Tryz.underlying5 Tryz.underlying9
  have hba := Lib.hid (below_alloc w (.cells #[.int .u8 (c.toNat : Nat)] 5))
  clear hbs h38 h60 h13 h62 h34 h9 h10
  go_enter Tryz.func123, Tryz.ntmps123
  go_wp2_with fail
  go_ret
  exact ⟨by rw [he.out]; rfl, hba.out⟩
theorem esc_append (value : Bool) : ∀ a b : Tx, esc value (a ++ b) = esc value a ++ esc value b
 | [], b => rfl
 | x :: a, b => by rw [List.cons_append, esc, esc_append value a b, esc, List.append_assoc]
theorem esc_next {value : Bool} {s : Tx} {i : Nat} {x : UInt8} (h : s[i]? = some x) : esc value (s.take (i + 1)) = esc value (s.take i) ++ esc1 value x := by
 rw [take_snoc h, esc_append]
 simp [esc]
theorem esc_take (value : Bool) (s : Tx) (i : Nat) : (esc value (s.take i)).length ≤ (esc value s).length := by
 have e : esc value s = esc value (s.take i) ++ esc value (s.drop i) := by rw [← esc_append, List.take_append_drop]
 rw [e, List.length_append]
 omega
set_option maxHeartbeats 2000000 in
set_option maxRecDepth 100000 in
theorem chars_any (b : Nat) (v : Value) (l s : Tx) (value : Bool) (w : World) (h : Pr b v l w) (hlen : (l ++ esc value s).length ≤ 100000000000000) (hs9 : s.length ≤ 100000000000000) :
  Calls Tryz.prog 88 #[.pointer (some ⟨b, 0, none⟩), .string (strOf s), .bool value] w (PrP b v w (l ++ esc value s)) := by
 have hsz : (strOf s).size = s.length := strOf_size' s
 obtain ⟨n, hn⟩ : ∃ n, s.length = n := ⟨_, rfl⟩
 rw [hn] at hsz hs9
 have h' := Lib.hid h
 have hn' := Lib.hid hn
 have hlen' := Lib.hid hlen
 clear h hn hlen
 go_enter Tryz.func88, Tryz.ntmps88
 go_wp2_with fail
 go_loopw [9] (fun vi wr => ∃ i : Nat, i ≤ n ∧ vi = .int .i64 (i : Nat) ∧ Hid (∃ v1, Pr b v1 (l ++ esc value (s.take i)) wr ∧ Wk b v w v1 wr)) (fun vi _ => n - (intOf vi).toNat)
 case atStart => exact ⟨0, Nat.zero_le _, rfl, Lib.hid ⟨v, by simpa [esc] using h'.out, Wk.refl _ _ _⟩⟩
 case round =>
  obtain ⟨i, hi, rfl, hst⟩ := hrel
  by_cases hlt : i < n
  ·have i1 : decide ((i : Int) < (n : Int)) = true := by simp; omega
   have q1 : (i : Int) < (n : Int) := by omega
   obtain ⟨v1, hp1, hw1⟩ := hst.out
   have hx : s[i]? = some (s[i]'(by rw [hn'.out]; exact hlt)) := List.getElem?_eq_getElem _
   generalize s[i]'(by rw [hn'.out]; exact hlt) = x at hx
   have hlt' : i < (strOf s).size := by omega
   have hgx := str_at hx hlt'
   have hnext := Lib.hid (esc_next (value := value) hx)
   have hl9 : Hid ((l ++ esc value (s.take i) ++ esc1 value x).length ≤ 100000000000000) := Lib.hid (by
    have h8 := esc_take value s (i + 1)
    rw [hnext.out] at h8
    have h9 := hlen'.out
    simp only [List.length_append] at h8 h9 ⊢
    omega)
   have hp1' := Lib.hid hp1
   have hw1' := Lib.hid hw1
   clear hp1 hw1 hst hx
   go_wp2_with fail
   refine (escaped_any x value wr).mono ?_
   rintro e w5 ⟨rfl, hb5⟩
   obtain ⟨E1, hE1⟩ : ∃ E, esc1 value x = E := ⟨_, rfl⟩
   rw [hE1] at hnext hl9 ⊢
   have hp5 := hp1'.out.below hb5
   have hba := below_alloc w5 (.cells #[.string (strOf E1)] 9)
   have hp6 := hp5.below hba
   have hnn := hp6.ne_new (T := w5.heap.size)
   have hrd := rd_new w5 [.string (strOf E1)] 9 1 rfl (by decide)
   have hne5 := hp5.ne_new (Nat.le_refl _)
   have hpc := Lib.hid (put_any b v1 (l ++ esc value (s.take i)) (w5.alloc (.cells #[.string (strOf E1)] 9)) (some ⟨w5.heap.size, 0, none⟩) 1 1 [E1] hp6 hrd (fun a e _ => by injection e with e; rw [← e]; exact ⟨hne5.2, hne5.1⟩) (by simpa using hl9.out))
   have hw6 := Lib.hid (hw1'.out.trans ((Wk.below (v := v1) hb5 (Nat.le_of_lt hp1'.out.lt)).trans (Wk.below hba (Nat.le_of_lt hp5.lt))))
   clear hb5 hp5 hp6 hba hnn hrd hne5 hE1
   go_wp2_with fail
   refine hpc.out.mono ?_
   rintro e w7 ⟨⟨r, rfl⟩, v2, hp2, hw2⟩
   have hfin : Hid (∃ v1, Pr b v1 (l ++ esc value (s.take (i + 1))) w7 ∧ Wk b v w v1 w7) := Lib.hid ⟨v2, by rw [hnext.out]; simpa using hp2, hw6.out.trans hw2⟩
   clear hp2 hw2
   go_wp2_with fail
   go_roundw
   case rel => exact ⟨i + 1, by omega, by go_num, hfin⟩
   case measure => simp [intOf]; omega
  ·have hie : i = n := by omega
   subst hie
   have i1 : decide ((i : Int) < (i : Int)) = false := by simp
   have hfin : Hid (∃ v1, Pr b v1 (l ++ esc value s) wr ∧ Wk b v w v1 wr) := Lib.hid (by
    have h9 := hst.out
    rwa [List.take_of_length_le (by rw [hn'.out]; exact Nat.le_refl _)] at h9)
   go_wp2_with fail
   go_end0
   exact ⟨⟨_, rfl⟩, hfin.out⟩
end Go.Proofs.YtokdnhdfmgfkeaaGreatDoor.Xp
end

section
namespace Go.Proofs.YtokdnhdfmgfkeaaGreatDoor.Xp
open Go.RowKit UtfW Xl Xo Xt

theorem put_lit (b : Nat) (v : Value) (l : Tx) (w : World) (ss : List Tx) (n : Nat) (hn : ss.length = n) (hn9 : n ≤ 1000) (h : Pr b v l w) (hlen : (l ++ ss.flatten).length ≤ 100000000000000) :
  Calls Tryz.prog 89 #[.pointer (some ⟨b, 0, none⟩), .slice (some ⟨w.heap.size, 0, none⟩) n n] (w.alloc (.cells (ss.map fun s => Value.string (strOf s)).toArray 9)) (PrP b v w (l ++ ss.flatten)) := by
 have hba := below_alloc w (.cells (ss.map fun s => Value.string (strOf s)).toArray 9)
 have hp := h.below hba
 have hne := h.ne_new (Nat.le_refl _)
 refine (put_any b v l _ (some ⟨w.heap.size, 0, none⟩) n n ss hp (rd_new w _ _ n (by rw [List.length_map, hn]) (by omega)) (fun a e _ => by injection e with e; rw [← e]; exact ⟨hne.2, hne.1⟩) hlen).mono ?_
 rintro e w' ⟨hr, v', h1, h2⟩
 exact ⟨hr, v', h1, (Wk.below hba (Nat.le_of_lt h.lt)).trans h2⟩
theorem writeA_append : ∀ a b : List At, writeA (a ++ b) = writeA a ++ writeA b
 | [], b => rfl
 | x :: a, b => by simp [writeA, writeA_append a b]
theorem writeL_append : ∀ a b : List Nd, writeL (a ++ b) = writeL a ++ writeL b
 | [], b => by rw [writeL]; rfl
 | x :: a, b => by rw [List.cons_append, writeL, writeL_append a b, writeL, List.append_assoc]
theorem writeA_next {l : List At} {i : Nat} {a : At} (h : l[i]? = some a) : writeA (l.take (i + 1)) = writeA (l.take i) ++ ((32 :: a.1 ++ [61, 34]) ++ esc true a.2 ++ [34]) := by
 rw [take_snoc h, writeA_append]
 simp [writeA]
theorem writeL_next {l : List Nd} {i : Nat} {x : Nd} (h : l[i]? = some x) : writeL (l.take (i + 1)) = writeL (l.take i) ++ writeN x := by
 rw [take_snoc h, writeL_append]
 simp [writeL]
theorem writeA_take (l : List At) (i : Nat) : (writeA (l.take i)).length ≤ (writeA l).length := by
 have e : writeA l = writeA (l.take i) ++ writeA (l.drop i) := by rw [← writeA_append, List.take_append_drop]
 rw [e, List.length_append]
 omega
theorem writeL_take (l : List Nd) (i : Nat) : (writeL (l.take i)).length ≤ (writeL l).length := by
 have e : writeL l = writeL (l.take i) ++ writeL (l.drop i) := by rw [← writeL_append, List.take_append_drop]
 rw [e, List.length_append]
 omega
theorem esc1_pos (v : Bool) (c : UInt8) : 1 ≤ (esc1 v c).length := by
 unfold esc1
 repeat (first | split | simp)
theorem esc_ge (v : Bool) : ∀ s : Tx, s.length ≤ (esc v s).length
 | [] => Nat.le_refl _
 | c :: s => by
  have := esc_ge v s
  have := esc1_pos v c
  rw [esc, List.length_cons, List.length_append]
  omega
theorem sq_low {α : Type} {El : World → List Value → α → Prop} {k : Nat} {w w' : World} {A : Option Addr} {n c b : Nat} {l : List α} {X : Nat → Prop} (h : Sq El k w A n c l) (hX : ∀ a, A = some a → 0 < n → X a.block) (hb : ∀ j, X j → j < b) (hbel : Below b w w') (hE : ∀ vs x, El w vs x → El w' vs x) : Sq El k w' A n c l :=
 Sq.stay h (fun a e hn => hbel.block _ (hb _ (hX a e hn))) hE
def elT (nm : Tx) (as_ : List At) (ks : List Nd) : Tx := 60 :: nm ++ writeA as_ ++ (if ks.isEmpty then [47, 62] else [62] ++ writeL ks ++ ([60, 47] ++ nm ++ [62]))
section
variable (b : Nat) (X : Nat → Prop) (hX : ∀ j, X j → j < b)
include hX
set_option maxHeartbeats 8000000 in
set_option maxRecDepth 100000 in
theorem element_any (v : Value) (l : Tx) (w : World) (vs : List Value) (kd : Int) (nm tx : Tx) (as_ : List At) (ks : List Nd) (h : Pr b v l w) (hn : NdI X w vs (.mk kd nm tx as_ ks)) (hlen : (l ++ elT nm as_ ks).length ≤ 100000000000000)
  (hK : ∀ (i : Nat) x, ks[i]? = some x → ∀ (v : Value) (l : Tx) (w : World) (vs : List Value), Pr b v l w → NdI X w vs x → (l ++ writeN x).length ≤ 100000000000000 → Calls Tryz.prog 58 #[.pointer (some ⟨b, 0, none⟩), .agg vs.toArray] w (PrP b v w (l ++ writeN x))) :
  Calls Tryz.prog 87 #[.pointer (some ⟨b, 0, none⟩), .agg vs.toArray] w (PrP b v w (l ++ elT nm as_ ks)) := by
 obtain ⟨A, ca, A2, c2, rfl, hA, hKs, hXA, hXK⟩ := hn.cells
 have hlm : ks.length ≤ 9223372036854775807 := Nat.le_trans hKs.le hKs.max
 have hll : as_.length ≤ 9223372036854775807 := Nat.le_trans hA.le hA.max
 obtain ⟨m, hm⟩ : ∃ m, ks.length = m := ⟨_, rfl⟩
 obtain ⟨la, hla⟩ : ∃ la, as_.length = la := ⟨_, rfl⟩
 rw [hm] at hKs hXK hlm
 rw [hla] at hA hXA hll
 rw [hm, hla]
 have hba := below_alloc w (.cells #[.int .i64 kd, .string (strOf nm), .string (strOf tx), .slice A la ca, .slice A2 m c2] 25)
 have hnb := heap_alloc_new w (.cells #[.int .i64 kd, .string (strOf nm), .string (strOf tx), .slice A la ca, .slice A2 m c2] 25)
 have hne := h.ne_new (Nat.le_refl _)
 obtain ⟨T, hT⟩ : ∃ T, w.heap.size = T := ⟨_, rfl⟩
 obtain ⟨w1, hw1⟩ : ∃ w1, w.alloc (.cells #[.int .i64 kd, .string (strOf nm), .string (strOf tx), .slice A la ca, .slice A2 m c2] 25) = w1 := ⟨_, rfl⟩
 rw [hw1] at hba hnb
 rw [hT] at hnb hne
 have hp1 := Lib.hid (h.below hba)
 have hw01 : Hid (Wk b v w v w1) := Lib.hid (Wk.below hba (Nat.le_of_lt h.lt))
 have hw1r : Hid (Wk b v w1 v w1) := Lib.hid (Wk.refl _ _ _)
 have hTl : T < w1.heap.size := (Array.getElem?_eq_some_iff.1 hnb).1
 have hbox : Hid (∀ v' w', Wk b v w1 v' w' → w'.heap[T]? = some (.cells #[.int .i64 kd, .string (strOf nm), .string (strOf tx), .slice A la ca, .slice A2 m c2] 25)) := Lib.hid fun v' w' hk => hk.box hnb hne.2 hne.1
 have hlow : Hid (∀ v' w', Wk b v w1 v' w' → Below b w w') := Lib.hid fun v' w' hk => (hba.mono (Nat.le_of_lt h.lt)).trans hk.bel
 have hAH := Lib.hid hA
 have hKH := Lib.hid hKs
 have hXAH := Lib.hid hXA
 have hXKH := Lib.hid hXK
 have hKK := Lib.hid hK
 have hXH := Lib.hid hX
 have hlenH := Lib.hid hlen
 have hnmH := Lib.hid hm
 have hlaH := Lib.hid hla
 have x1 : w1.cell? ⟨T, 1, none⟩ = some (.string (strOf nm)) := Xp.cell_blk hnb rfl
 clear h hn hA hKs hXA hXK hK hX hlen hm hla hba hnb hne
 have hl0 : Hid ((l ++ 60 :: nm).length + (writeA as_).length ≤ 100000000000000) := Lib.hid (by
  have h9 := hlenH.out
  unfold elT at h9
  simp only [List.length_append, List.length_cons] at h9 ⊢
  omega)
 go_enter Tryz.func87, Tryz.ntmps87
 have hpc := Lib.hid (show Calls Tryz.prog 89 #[.pointer (some ⟨b, 0, none⟩), .slice (some ⟨w1.heap.size, 0, none⟩) 2 2] (w1.alloc (.cells #[.string ⟨#[60]⟩, .string (strOf nm)] 9)) (PrP b v w1 (l ++ ([[60], nm] : List Tx).flatten)) from put_lit b v (l) w1 [[60], nm] 2 rfl (by decide) hp1.out (by have h9 := hl0.out; simp only [List.length_append, List.flatten_cons, List.flatten_nil, List.length_cons, List.length_nil] at h9 ⊢; omega))
 go_wp2_with fail
 refine hpc.out.mono ?_
 rintro e w2 ⟨⟨r, rfl⟩, v2, hp9, hw9⟩
 have hp2 := Lib.hid hp9
 have hw2 := Lib.hid (hw1r.out.trans hw9)
 clear hp9 hw9 hpc
 have hf2 : ([[60], nm] : List Tx).flatten = 60 :: nm := by simp
 rw [hf2] at hp2
 clear hf2
 have hT2 := hbox.out _ _ hw2.out
 have x3 : w2.cell? ⟨T, 3, none⟩ = some (.slice A la ca) := Xp.cell_blk hT2 rfl
 clear hT2 x1
 go_wp2_with fail
 go_loopw [16] (fun vi wr => ∃ i : Nat, i ≤ la ∧ vi = .int .i64 (i : Nat) ∧ Hid (∃ v1, Pr b v1 (l ++ 60 :: nm ++ writeA (as_.take i)) wr ∧ Wk b v w1 v1 wr)) (fun vi _ => la - (intOf vi).toNat)
 case atStart => exact ⟨0, Nat.zero_le _, rfl, Lib.hid ⟨v2, by simpa [writeA] using hp2.out, hw2.out⟩⟩
 case round =>
  clear x3 hp2 hw2
  obtain ⟨i, hi, rfl, hst⟩ := hrel
  by_cases hlt : i < la
  ·have i1 : decide ((i : Int) < (la : Int)) = true := by simp; omega
   have q1 : (i : Int) < (la : Int) := by omega
   obtain ⟨v3, hp3, hw3⟩ := hst.out
   have hAr := sq_low hAH.out hXAH.out hXH.out (hlow.out _ _ hw3) (fun _ _ h => h)
   obtain ⟨b1, off1, ax, vs1, rfl, _, hx1, _, hv1, hc1⟩ := hAr.at_ hlt
   unfold AtEl at hv1
   subst hv1
   obtain ⟨a1, a2⟩ := ax
   have m0 := hc1 0 _ rfl
   have m1 := hc1 1 _ rfl
   rw [Nat.add_zero] at m0
   have hnx := Lib.hid (writeA_next hx1)
   have hl9 : Hid ((l ++ 60 :: nm ++ writeA (as_.take i) ++ ((32 :: a1 ++ [61, 34]) ++ esc true a2 ++ [34])).length ≤ 100000000000000) := Lib.hid (by
    have h8 := writeA_take as_ (i + 1)
    rw [hnx.out] at h8
    have h9 := hl0.out
    simp only [List.length_append] at h8 h9 ⊢
    omega)
   have hbt := below_alloc wr (.cells #[.string (strOf a1), .string (strOf a2)] 55)
   have hnt := heap_alloc_new wr (.cells #[.string (strOf a1), .string (strOf a2)] 55)
   have hne3 := hp3.ne_new (Nat.le_refl _)
   obtain ⟨T5, hT5⟩ : ∃ T5, wr.heap.size = T5 := ⟨_, rfl⟩
   have hp4 := Lib.hid (hp3.below hbt)
   have hw4 := Lib.hid (hw3.trans (Wk.below hbt (Nat.le_of_lt hp3.lt)))
   obtain ⟨wa, hwa⟩ : ∃ wa, wr.alloc (.cells #[.string (strOf a1), .string (strOf a2)] 55) = wa := ⟨_, rfl⟩
   rw [hwa] at hp4 hw4 hnt hbt
   rw [hT5] at hnt hne3
   have y0 : wa.cell? ⟨T5, 0, none⟩ = some (.string (strOf a1)) := Xp.cell_blk hnt rfl
   have hbox5 : Hid (∀ v' w', Wk b v3 wa v' w' → w'.heap[T5]? = some (.cells #[.string (strOf a1), .string (strOf a2)] 55)) := Lib.hid fun v' w' hk => hk.box hnt hne3.2 hne3.1
   have hwar : Hid (Wk b v3 wa v3 wa) := Lib.hid (Wk.refl _ _ _)
   clear hst hp3 hw3 hAr hc1 hx1 hbt hnt hne3
   have hpc := Lib.hid (show Calls Tryz.prog 89 #[.pointer (some ⟨b, 0, none⟩), .slice (some ⟨wa.heap.size, 0, none⟩) 3 3] (wa.alloc (.cells #[.string ⟨#[32]⟩, .string (strOf a1), .string ⟨#[61, 34]⟩] 9)) (PrP b v3 wa (l ++ 60 :: nm ++ writeA (as_.take i) ++ ([[32], a1, [61, 34]] : List Tx).flatten)) from put_lit b v3 (l ++ 60 :: nm ++ writeA (as_.take i)) wa [[32], a1, [61, 34]] 3 rfl (by decide) hp4.out (by have h9 := hl9.out; simp only [List.length_append, List.flatten_cons, List.flatten_nil, List.length_cons, List.length_nil] at h9 ⊢; omega))
   go_wp2_with fail
   refine hpc.out.mono ?_
   rintro e w5 ⟨⟨r, rfl⟩, v5, hp9, hw9⟩
   have hp5 := Lib.hid hp9
   have hw5 := Lib.hid (hwar.out.trans hw9)
   clear hp9 hw9 hpc
   have hT6 := hbox5.out _ _ hw5.out
   have y1 : w5.cell? ⟨T5, 1, none⟩ = some (.string (strOf a2)) := Xp.cell_blk hT6 rfl
   have hch := Lib.hid (chars_any b v5 _ a2 true w5 hp5.out (by have h9 := hl9.out; simp only [List.length_append, List.flatten_cons, List.flatten_nil, List.length_cons, List.length_nil] at h9 ⊢; omega) (by have h9 := hl9.out; have h8 := esc_ge true a2; simp only [List.length_append] at h9; omega))
   clear hT6 y0
   go_wp2_with fail
   refine hch.out.mono ?_
   rintro e w6 ⟨⟨r, rfl⟩, v6, hp9, hw9⟩
   have hp6 := Lib.hid hp9
   have hw6 := Lib.hid (hw5.out.trans hw9)
   clear hp9 hw9 hch y1
   have hpc := Lib.hid (show Calls Tryz.prog 89 #[.pointer (some ⟨b, 0, none⟩), .slice (some ⟨w6.heap.size, 0, none⟩) 1 1] (w6.alloc (.cells #[.string ⟨#[34]⟩] 9)) (PrP b v6 w6 (l ++ 60 :: nm ++ writeA (as_.take i) ++ ([[32], a1, [61, 34]] : List Tx).flatten ++ esc true a2 ++ ([[34]] : List Tx).flatten)) from put_lit b v6 (l ++ 60 :: nm ++ writeA (as_.take i) ++ ([[32], a1, [61, 34]] : List Tx).flatten ++ esc true a2) w6 [[34]] 1 rfl (by decide) hp6.out (by have h9 := hl9.out; simp only [List.length_append, List.flatten_cons, List.flatten_nil, List.length_cons, List.length_nil] at h9 ⊢; omega))
   go_wp2_with fail
   refine hpc.out.mono ?_
   rintro e w7 ⟨⟨r, rfl⟩, v7, hp9, hw9⟩
   have hp7 := Lib.hid hp9
   have hw7 := Lib.hid (hw6.out.trans hw9)
   clear hp9 hw9 hpc
   have hfin : Hid (∃ v1, Pr b v1 (l ++ 60 :: nm ++ writeA (as_.take (i + 1))) w7 ∧ Wk b v w1 v1 w7) := Lib.hid ⟨v7, by
    have h9 := hp7.out
    rw [hnx.out]
    simpa using h9, hw4.out.trans hw7.out⟩
   clear hp7 hw7 hp6 hw6 hp5 hw5
   go_wp2_with fail
   go_roundw
   case rel => exact ⟨i + 1, by omega, by go_num, hfin⟩
   case measure => simp [intOf]; omega
  ·have hie : i = la := by omega
   subst hie
   have i1 : decide ((i : Int) < (i : Int)) = false := by simp
   obtain ⟨v3, hp3, hw3⟩ := hst.out
   rw [List.take_of_length_le (by rw [hlaH.out]; exact Nat.le_refl _)] at hp3
   have hT3 := hbox.out _ _ hw3
   have x4 : wr.cell? ⟨T, 4, none⟩ = some (.slice A2 m c2) := Xp.cell_blk hT3 rfl
   have x1 : wr.cell? ⟨T, 1, none⟩ = some (.string (strOf nm)) := Xp.cell_blk hT3 rfl
   replace hp3 := Lib.hid hp3
   replace hw3 := Lib.hid hw3
   clear hst hT3
   by_cases hm0 : m = 0
   ·subst hm0
    have hel : elT nm as_ ks = 60 :: nm ++ writeA as_ ++ [47, 62] := by
     unfold elT
     rw [if_pos (by rw [List.isEmpty_iff]; exact List.eq_nil_of_length_eq_zero hnmH.out)]
    have hlen9 := hlenH.out
    rw [hel] at hlen9
    replace hel := Lib.hid hel
    replace hlen9 := Lib.hid hlen9
    have hpc := Lib.hid (show Calls Tryz.prog 89 #[.pointer (some ⟨b, 0, none⟩), .slice (some ⟨wr.heap.size, 0, none⟩) 1 1] (wr.alloc (.cells #[.string ⟨#[47, 62]⟩] 9)) (PrP b v3 wr (l ++ 60 :: nm ++ writeA as_ ++ ([[47, 62]] : List Tx).flatten)) from put_lit b v3 (l ++ 60 :: nm ++ writeA as_) wr [[47, 62]] 1 rfl (by decide) hp3.out (by have h9 := hlen9.out; simp only [List.length_append, List.flatten_cons, List.flatten_nil, List.length_cons, List.length_nil] at h9 ⊢; omega))
    go_wp2_with fail
    refine hpc.out.mono ?_
    rintro e w4 ⟨⟨r, rfl⟩, v4, hp9, hw9⟩
    have hp4 := Lib.hid hp9
    have hw4 := Lib.hid (hw3.out.trans hw9)
    clear hp9 hw9 hpc
    clear x4 x1
    go_wp2_with fail
    go_end0
    exact ⟨⟨_, rfl⟩, v4, by rw [hel.out]; simpa using hp4.out, hw01.out.trans hw4.out⟩
   ·have i2 : ((m : Int) == 0) = false := by simp; omega
    have hel : elT nm as_ ks = 60 :: nm ++ writeA as_ ++ ([62] ++ writeL ks ++ ([60, 47] ++ nm ++ [62])) := by
     unfold elT
     rw [if_neg (by rw [List.isEmpty_iff]; intro e; rw [e] at hnmH; exact hm0 hnmH.out.symm)]
    have hlen9 := hlenH.out
    rw [hel] at hlen9
    replace hel := Lib.hid hel
    replace hlen9 := Lib.hid hlen9
    replace hm0 := Lib.hid hm0
    have hpc := Lib.hid (show Calls Tryz.prog 89 #[.pointer (some ⟨b, 0, none⟩), .slice (some ⟨wr.heap.size, 0, none⟩) 1 1] (wr.alloc (.cells #[.string ⟨#[62]⟩] 9)) (PrP b v3 wr (l ++ 60 :: nm ++ writeA as_ ++ ([[62]] : List Tx).flatten)) from put_lit b v3 (l ++ 60 :: nm ++ writeA as_) wr [[62]] 1 rfl (by decide) hp3.out (by have h9 := hlen9.out; simp only [List.length_append, List.flatten_cons, List.flatten_nil, List.length_cons, List.length_nil] at h9 ⊢; omega))
    go_wp2_with fail
    refine hpc.out.mono ?_
    rintro e w4 ⟨⟨r, rfl⟩, v4, hp9, hw9⟩
    have hp4 := Lib.hid hp9
    have hw4 := Lib.hid (hw3.out.trans hw9)
    clear hp9 hw9 hpc
    have hT4 := hbox.out _ _ hw4.out
    have x4' : w4.cell? ⟨T, 4, none⟩ = some (.slice A2 m c2) := Xp.cell_blk hT4 rfl
    clear x4 x1 hT4
    have hl1 : Hid ((l ++ 60 :: nm ++ writeA as_ ++ [62]).length + (writeL ks).length ≤ 100000000000000) := Lib.hid (by
     have h9 := hlen9.out
     simp only [List.length_append, List.length_cons, List.length_nil] at h9 ⊢
     omega)
    go_wp2_with fail
    go_loopw [46] (fun vi wr => ∃ j : Nat, j ≤ m ∧ vi = .int .i64 (j : Nat) ∧ Hid (∃ v1, Pr b v1 (l ++ 60 :: nm ++ writeA as_ ++ [62] ++ writeL (ks.take j)) wr ∧ Wk b v w1 v1 wr)) (fun vi _ => m - (intOf vi).toNat)
    case atStart => exact ⟨0, Nat.zero_le _, rfl, Lib.hid ⟨v4, by simpa [writeL] using hp4.out, hw4.out⟩⟩
    case round =>
     clear x4' hp4 hw4 hp3 hw3
     obtain ⟨j, hj, rfl, hst⟩ := hrel
     by_cases hlt : j < m
     ·have i1 : decide ((j : Int) < (m : Int)) = true := by simp; omega
      have q1 : (j : Int) < (m : Int) := by omega
      obtain ⟨v5, hp5, hw5⟩ := hst.out
      have hKr := sq_low hKH.out hXKH.out hXH.out (hlow.out _ _ hw5) (fun vs x h => NdI.stay h fun k hk => ⟨hk, (hlow.out _ _ hw5).block k (hXH.out k hk)⟩)
      obtain ⟨b1, off1, x, vs1, rfl, _, hx1, _, hv1, hc1⟩ := hKr.at_ hlt
      have hkk := hKK.out j x hx1
      have hnx := Lib.hid (writeL_next hx1)
      have hl9 : (l ++ 60 :: nm ++ writeA as_ ++ [62] ++ writeL (ks.take j) ++ writeN x).length ≤ 100000000000000 := by
       have h8 := writeL_take ks (j + 1)
       rw [hnx.out] at h8
       have h9 := hl1.out
       simp only [List.length_append] at h8 h9 ⊢
       omega
      obtain ⟨kx, nx_, tx_, ax, kx_⟩ := x
      obtain ⟨Ax, cax, A2x, c2x, rfl, -⟩ := hv1.cells
      have m0 := hc1 0 _ rfl
      have m1 := hc1 1 _ rfl
      have m2 := hc1 2 _ rfl
      have m3 := hc1 3 _ rfl
      have m4 := hc1 4 _ rfl
      rw [Nat.add_zero] at m0
      have hbt := below_alloc wr (.cells #[.int .i64 kx, .string (strOf nx_), .string (strOf tx_), .slice Ax ax.length cax, .slice A2x kx_.length c2x] 25)
      have hp6 := hp5.below hbt
      have hw6 := Lib.hid (hw5.trans (Wk.below hbt (Nat.le_of_lt hp5.lt)))
      have hrec := Lib.hid (hkk v5 _ (wr.alloc (.cells #[.int .i64 kx, .string (strOf nx_), .string (strOf tx_), .slice Ax ax.length cax, .slice A2x kx_.length c2x] 25)) _ hp6 (NdI.stay hv1 fun k hk => ⟨hk, hbt.block k (Nat.lt_trans (hXH.out k hk) hp5.lt)⟩) hl9)
      clear hst hp5 hw5 hKr hc1 hx1 hbt hp6 hkk hl9 hv1
      go_wp2_with fail
      refine hrec.out.mono ?_
      rintro e w7 ⟨⟨r, rfl⟩, v7, hp9, hw9⟩
      have hfin : Hid (∃ v1, Pr b v1 (l ++ 60 :: nm ++ writeA as_ ++ [62] ++ writeL (ks.take (j + 1))) w7 ∧ Wk b v w1 v1 w7) := Lib.hid ⟨v7, by
       rw [hnx.out]
       simpa using hp9, hw6.out.trans hw9⟩
      clear hp9 hw9 m0 m1 m2 m3 m4
      go_wp2_with fail
      go_roundw
      case rel => exact ⟨j + 1, by omega, by go_num, hfin⟩
      case measure => simp [intOf]; omega
     ·have hie : j = m := by omega
      subst hie
      have i1 : decide ((j : Int) < (j : Int)) = false := by simp
      obtain ⟨v5, hp5, hw5⟩ := hst.out
      rw [List.take_of_length_le (by rw [hnmH.out]; exact Nat.le_refl _)] at hp5
      have hT5 := hbox.out _ _ hw5
      have x1 : wr.cell? ⟨T, 1, none⟩ = some (.string (strOf nm)) := Xp.cell_blk hT5 rfl
      replace hp5 := Lib.hid hp5
      replace hw5 := Lib.hid hw5
      clear hst hT5
      have hpc := Lib.hid (show Calls Tryz.prog 89 #[.pointer (some ⟨b, 0, none⟩), .slice (some ⟨wr.heap.size, 0, none⟩) 3 3] (wr.alloc (.cells #[.string ⟨#[60, 47]⟩, .string (strOf nm), .string ⟨#[62]⟩] 9)) (PrP b v5 wr (l ++ 60 :: nm ++ writeA as_ ++ [62] ++ writeL ks ++ ([[60, 47], nm, [62]] : List Tx).flatten)) from put_lit b v5 (l ++ 60 :: nm ++ writeA as_ ++ [62] ++ writeL ks) wr [[60, 47], nm, [62]] 3 rfl (by decide) hp5.out (by have h9 := hlen9.out; simp only [List.length_append, List.flatten_cons, List.flatten_nil, List.length_cons, List.length_nil] at h9 ⊢; omega))
      go_wp2_with fail
      refine hpc.out.mono ?_
      rintro e w8 ⟨⟨r, rfl⟩, v8, hp9, hw9⟩
      have hp8 := Lib.hid hp9
      have hw8 := Lib.hid (hw5.out.trans hw9)
      clear hp9 hw9 hpc
      clear x1
      go_wp2_with fail
      go_end0
      exact ⟨⟨_, rfl⟩, v8, by rw [hel.out]; simpa using hp8.out, hw01.out.trans hw8.out⟩
end
end Go.Proofs.YtokdnhdfmgfkeaaGreatDoor.Xp
end

section
namespace Go.Proofs.YtokdnhdfmgfkeaaGreatDoor.Xp
open Go.RowKit UtfW Xl Xo Xt

set_option maxHeartbeats 8000000 in
set_option maxRecDepth 100000 in
theorem node_any (b : Nat) (X : Nat → Prop) (hX : ∀ j, X j → j < b) : ∀ (k : Nat) (n : Nd) (v : Value) (l : Tx) (w : World) (vs : List Value), SizeOf.sizeOf n ≤ k → Pr b v l w → NdI X w vs n → (l ++ writeN n).length ≤ 100000000000000 →
  Calls Tryz.prog 58 #[.pointer (some ⟨b, 0, none⟩), .agg vs.toArray] w (PrP b v w (l ++ writeN n)) := by
 intro k
 induction k with
 | zero =>
  intro n v l w vs hk
  obtain ⟨kd, nm, tx, as_, ks⟩ := n
  simp at hk
 | succ k ih =>
  intro n v l w vs hk h hn hlen
  obtain ⟨kd, nm, tx, as_, ks⟩ := n
  obtain ⟨A, ca, A2, c2, rfl, -⟩ := hn.cells
  obtain ⟨S1, hS1⟩ : ∃ S, strOf nm = S := ⟨_, rfl⟩
  obtain ⟨S2, hS2⟩ : ∃ S, strOf tx = S := ⟨_, rfl⟩
  rw [hS1, hS2] at hn ⊢
  have hba := below_alloc w (.cells #[.int .i64 kd, .string S1, .string S2, .slice A as_.length ca, .slice A2 ks.length c2] 25)
  have hnb := heap_alloc_new w (.cells #[.int .i64 kd, .string S1, .string S2, .slice A as_.length ca, .slice A2 ks.length c2] 25)
  have hne := h.ne_new (Nat.le_refl _)
  obtain ⟨T, hT⟩ : ∃ T, w.heap.size = T := ⟨_, rfl⟩
  obtain ⟨w1, hw1⟩ : ∃ w1, w.alloc (.cells #[.int .i64 kd, .string S1, .string S2, .slice A as_.length ca, .slice A2 ks.length c2] 25) = w1 := ⟨_, rfl⟩
  rw [hw1] at hba hnb
  rw [hT] at hnb hne
  have hp1 := Lib.hid (h.below hba)
  have hw01 : Hid (Wk b v w v w1) := Lib.hid (Wk.below hba (Nat.le_of_lt h.lt))
  have hw1r : Hid (Wk b v w1 v w1) := Lib.hid (Wk.refl _ _ _)
  have hbox : Hid (∀ v' w', Wk b v w1 v' w' → w'.heap[T]? = some (.cells #[.int .i64 kd, .string S1, .string S2, .slice A as_.length ca, .slice A2 ks.length c2] 25)) := Lib.hid fun v' w' hk => hk.box hnb hne.2 hne.1
  have x0 : w1.cell? ⟨T, 0, none⟩ = some (.int .i64 kd) := Xp.cell_blk hnb rfl
  have x1 : w1.cell? ⟨T, 1, none⟩ = some (.string S1) := Xp.cell_blk hnb rfl
  have x2 : w1.cell? ⟨T, 2, none⟩ = some (.string S2) := Xp.cell_blk hnb rfl
  have x3 : w1.cell? ⟨T, 3, none⟩ = some (.slice A as_.length ca) := Xp.cell_blk hnb rfl
  have x4 : w1.cell? ⟨T, 4, none⟩ = some (.slice A2 ks.length c2) := Xp.cell_blk hnb rfl
  have hn1 := Lib.hid (NdI.stay hn fun k hk => ⟨hk, hba.block k (Nat.lt_trans (hX k hk) h.lt)⟩)
  have hkid : Hid (∀ (i : Nat) x, ks[i]? = some x → SizeOf.sizeOf x ≤ k) := Lib.hid fun i x hx => by
   have := kid_lt (k := kd) (nm := nm) (tx := tx) (as_ := as_) hx
   omega
  have hlenH := Lib.hid hlen
  have ihH := Lib.hid ih
  clear h hn hlen hba hnb hne hk ih
  by_cases h1 : kd = 1
  ·subst h1
   have he : writeN (.mk 1 nm tx as_ ks) = elT nm as_ ks := by
    rw [writeN, if_pos rfl]
    rfl
   have hlen9 := hlenH.out
   rw [he] at hlen9 ⊢
   have hec := Lib.hid (element_any b X hX v l w1 _ 1 nm tx as_ ks hp1.out (by have h9 := hn1.out; rw [← hS1, ← hS2] at h9; exact h9) hlen9 (fun i x hx v l w vs h1 h2 h3 => ihH.out x v l w vs (hkid.out i x hx) h1 h2 h3))
   rw [hS1, hS2] at hec
   have k0 : ((1 : Int) == 1) = true := rfl
   clear hlen9 he hS1 hS2
   go_enter Tryz.func58, Tryz.ntmps58
   go_wp2_with fail
   refine hec.out.mono ?_
   rintro e w5 ⟨⟨r, rfl⟩, v5, hp9, hw9⟩
   have hfin : Hid (Pr b v5 (l ++ elT nm as_ ks) w5 ∧ Wk b v w v5 w5) := Lib.hid ⟨hp9, hw01.out.trans hw9⟩
   clear hp9 hw9
   go_wp2_with fail
   go_end0
   exact ⟨⟨_, rfl⟩, v5, hfin.out⟩
  have k1 : (kd == 1) = false := by simpa using h1
  by_cases h2 : kd = 2
  ·subst h2
   have he : writeN (.mk 2 nm tx as_ ks) = esc false tx := by
    rw [writeN, if_neg (by decide), if_pos rfl]
   have hlen9 := hlenH.out
   rw [he] at hlen9 ⊢
   have hec := Lib.hid (chars_any b v l tx false w1 hp1.out hlen9 (by have h9 := hlen9; have h8 := esc_ge false tx; rw [List.length_append] at h9; omega))
   rw [hS2] at hec
   have k0 : ((2 : Int) == 2) = true := rfl
   clear hlen9 he hS1 hS2 h1
   go_enter Tryz.func58, Tryz.ntmps58
   go_wp2_with fail
   refine hec.out.mono ?_
   rintro e w5 ⟨⟨r, rfl⟩, v5, hp9, hw9⟩
   have hfin : Hid (Pr b v5 (l ++ esc false tx) w5 ∧ Wk b v w v5 w5) := Lib.hid ⟨hp9, hw01.out.trans hw9⟩
   clear hp9 hw9
   go_wp2_with fail
   go_end0
   exact ⟨⟨_, rfl⟩, v5, hfin.out⟩
  have k2 : (kd == 2) = false := by simpa using h2
  by_cases h3 : kd = 3
  ·subst h3
   have he : writeN (.mk 3 nm tx as_ ks) = [60, 33, 45, 45] ++ tx ++ [45, 45, 62] := by
    rw [writeN, if_neg (by decide), if_neg (by decide), if_pos rfl]
   have hlen9 := hlenH.out
   rw [he] at hlen9 ⊢
   have k0 : ((3 : Int) == 3) = true := rfl
   replace hlen9 := Lib.hid hlen9
   rw [← hS2] at x2 hbox
   clear he hS1 hS2 h1 h2
   go_enter Tryz.func58, Tryz.ntmps58
   have hpc := Lib.hid (show Calls Tryz.prog 89 #[.pointer (some ⟨b, 0, none⟩), .slice (some ⟨w1.heap.size, 0, none⟩) 3 3] (w1.alloc (.cells #[.string ⟨#[60, 33, 45, 45]⟩, .string (strOf tx), .string ⟨#[45, 45, 62]⟩] 9)) (PrP b v w1 (l ++ ([[60, 33, 45, 45], tx, [45, 45, 62]] : List Tx).flatten)) from put_lit b v (l) w1 [[60, 33, 45, 45], tx, [45, 45, 62]] 3 rfl (by decide) hp1.out (by have h9 := hlen9.out; simp only [List.length_append, List.flatten_cons, List.flatten_nil, List.length_cons, List.length_nil] at h9 ⊢; omega))
   go_wp2_with fail
   refine hpc.out.mono ?_
   rintro e w5 ⟨⟨r, rfl⟩, v5, hp9, hw9⟩
   have hp5 := Lib.hid hp9
   have hw5 := Lib.hid (hw1r.out.trans hw9)
   clear hp9 hw9 hpc
   clear x0 x1 x2 x3 x4
   go_wp2_with fail
   go_end0
   exact ⟨⟨_, rfl⟩, v5, by simpa using hp5.out, hw01.out.trans hw5.out⟩
  have k3 : (kd == 3) = false := by simpa using h3
  by_cases h4 : kd = 4
  ·subst h4
   have he : writeN (.mk 4 nm tx as_ ks) = [60, 63] ++ nm ++ (if tx = [] then [] else 32 :: tx) ++ [63, 62] := by
    rw [writeN, if_neg (by decide), if_neg (by decide), if_neg (by decide), if_pos rfl]
   have hlen9 := hlenH.out
   rw [he] at hlen9 ⊢
   have k0 : ((4 : Int) == 4) = true := rfl
   replace hlen9 := Lib.hid hlen9
   rw [← hS1] at x1 hbox
   clear he h1 h2 h3
   have hl1 : Hid ((l ++ ([60, 63] ++ nm)).length ≤ 100000000000000) := Lib.hid (by
    have h9 := hlen9.out
    simp only [List.length_append] at h9 ⊢
    omega)
   by_cases ht : tx = []
   ·have e9 : S2.toList.isEmpty = true := by rw [← hS2, strOf_empty, ht]; rfl
    rw [if_pos ht] at hlen9 ⊢
    replace ht := Lib.hid ht
    clear hS1 hS2
    go_enter Tryz.func58, Tryz.ntmps58
    have hpc := Lib.hid (show Calls Tryz.prog 89 #[.pointer (some ⟨b, 0, none⟩), .slice (some ⟨w1.heap.size, 0, none⟩) 2 2] (w1.alloc (.cells #[.string ⟨#[60, 63]⟩, .string (strOf nm)] 9)) (PrP b v w1 (l ++ ([[60, 63], nm] : List Tx).flatten)) from put_lit b v (l) w1 [[60, 63], nm] 2 rfl (by decide) hp1.out (by have h9 := hl1.out; simp only [List.length_append, List.flatten_cons, List.flatten_nil, List.length_cons, List.length_nil] at h9 ⊢; omega))
    go_wp2_with fail
    refine hpc.out.mono ?_
    rintro e w5 ⟨⟨r, rfl⟩, v5, hp9, hw9⟩
    have hp5 := Lib.hid hp9
    have hw5 := Lib.hid (hw1r.out.trans hw9)
    clear hp9 hw9 hpc
    have hT5 := hbox.out _ _ hw5.out
    have y2 : w5.cell? ⟨T, 2, none⟩ = some (.string S2) := Xp.cell_blk hT5 rfl
    clear x0 x1 x2 x3 x4 hT5
    have hpc := Lib.hid (show Calls Tryz.prog 89 #[.pointer (some ⟨b, 0, none⟩), .slice (some ⟨w5.heap.size, 0, none⟩) 1 1] (w5.alloc (.cells #[.string ⟨#[63, 62]⟩] 9)) (PrP b v5 w5 (l ++ ([[60, 63], nm] : List Tx).flatten ++ ([[63, 62]] : List Tx).flatten)) from put_lit b v5 (l ++ ([[60, 63], nm] : List Tx).flatten) w5 [[63, 62]] 1 rfl (by decide) hp5.out (by have h9 := hlen9.out; simp only [List.length_append, List.flatten_cons, List.flatten_nil, List.length_cons, List.length_nil] at h9 ⊢; omega))
    go_wp2_with fail
    refine hpc.out.mono ?_
    rintro e w6 ⟨⟨r, rfl⟩, v6, hp9, hw9⟩
    have hp6 := Lib.hid hp9
    have hw6 := Lib.hid (hw5.out.trans hw9)
    clear hp9 hw9 hpc
    clear y2
    go_wp2_with fail
    go_end0
    exact ⟨⟨_, rfl⟩, v6, by simpa using hp6.out, hw01.out.trans hw6.out⟩
   ·have e9 : S2.toList.isEmpty = false := by
     rw [← hS2, strOf_empty]
     cases tx with
     | nil => exact absurd rfl ht
     | cons _ _ => rfl
    rw [if_neg ht] at hlen9 ⊢
    replace ht := Lib.hid ht
    have hS2H := Lib.hid hS2
    clear hS1 hS2
    go_enter Tryz.func58, Tryz.ntmps58
    have hpc := Lib.hid (show Calls Tryz.prog 89 #[.pointer (some ⟨b, 0, none⟩), .slice (some ⟨w1.heap.size, 0, none⟩) 2 2] (w1.alloc (.cells #[.string ⟨#[60, 63]⟩, .string (strOf nm)] 9)) (PrP b v w1 (l ++ ([[60, 63], nm] : List Tx).flatten)) from put_lit b v (l) w1 [[60, 63], nm] 2 rfl (by decide) hp1.out (by have h9 := hl1.out; simp only [List.length_append, List.flatten_cons, List.flatten_nil, List.length_cons, List.length_nil] at h9 ⊢; omega))
    go_wp2_with fail
    refine hpc.out.mono ?_
    rintro e w5 ⟨⟨r, rfl⟩, v5, hp9, hw9⟩
    have hp5 := Lib.hid hp9
    have hw5 := Lib.hid (hw1r.out.trans hw9)
    clear hp9 hw9 hpc
    have hT5 := hbox.out _ _ hw5.out
    have y2 : w5.cell? ⟨T, 2, none⟩ = some (.string S2) := Xp.cell_blk hT5 rfl
    clear x0 x1 x2 x3 x4 hT5
    have hpc := Lib.hid (show Calls Tryz.prog 89 #[.pointer (some ⟨b, 0, none⟩), .slice (some ⟨w5.heap.size, 0, none⟩) 2 2] (w5.alloc (.cells #[.string ⟨#[32]⟩, .string S2] 9)) (PrP b v5 w5 (l ++ ([[60, 63], nm] : List Tx).flatten ++ ([[32], tx] : List Tx).flatten)) from hS2H.out ▸ put_lit b v5 (l ++ ([[60, 63], nm] : List Tx).flatten) w5 [[32], tx] 2 rfl (by decide) hp5.out (by have h9 := hlen9.out; simp only [List.length_append, List.flatten_cons, List.flatten_nil, List.length_cons, List.length_nil] at h9 ⊢; omega))
    go_wp2_with fail
    refine hpc.out.mono ?_
    rintro e w6 ⟨⟨r, rfl⟩, v6, hp9, hw9⟩
    have hp6 := Lib.hid hp9
    have hw6 := Lib.hid (hw5.out.trans hw9)
    clear hp9 hw9 hpc
    clear y2
    have hpc := Lib.hid (show Calls Tryz.prog 89 #[.pointer (some ⟨b, 0, none⟩), .slice (some ⟨w6.heap.size, 0, none⟩) 1 1] (w6.alloc (.cells #[.string ⟨#[63, 62]⟩] 9)) (PrP b v6 w6 (l ++ ([[60, 63], nm] : List Tx).flatten ++ ([[32], tx] : List Tx).flatten ++ ([[63, 62]] : List Tx).flatten)) from put_lit b v6 (l ++ ([[60, 63], nm] : List Tx).flatten ++ ([[32], tx] : List Tx).flatten) w6 [[63, 62]] 1 rfl (by decide) hp6.out (by have h9 := hlen9.out; simp only [List.length_append, List.flatten_cons, List.flatten_nil, List.length_cons, List.length_nil] at h9 ⊢; omega))
    go_wp2_with fail
    refine hpc.out.mono ?_
    rintro e w7 ⟨⟨r, rfl⟩, v7, hp9, hw9⟩
    have hp7 := Lib.hid hp9
    have hw7 := Lib.hid (hw6.out.trans hw9)
    clear hp9 hw9 hpc
    go_wp2_with fail
    go_end0
    exact ⟨⟨_, rfl⟩, v7, by simpa using hp7.out, hw01.out.trans hw7.out⟩
  have k4 : (kd == 4) = false := by simpa using h4
  have he : writeN (.mk kd nm tx as_ ks) = [] := by
   rw [writeN, if_neg h1, if_neg h2, if_neg h3, if_neg h4]
  rw [he]
  clear he h1 h2 h3 h4 hS1 hS2
  go_enter Tryz.func58, Tryz.ntmps58
  go_wp2_with fail
  go_end0
  exact ⟨⟨_, rfl⟩, v, by simpa using hp1.out, hw01.out⟩
end Go.Proofs.YtokdnhdfmgfkeaaGreatDoor.Xp
end

section
namespace Go.Proofs.YtokdnhdfmgfkeaaGreatDoor.Xp
open Go.RowKit UtfW Xl Xo Xt

set_option maxHeartbeats 4000000 in
set_option maxRecDepth 100000 in
theorem Nodes_any (X : Nat → Prop) (w : World) (A : Option Addr) (n c : Nat) (l : List Nd) (hS : Sq (NdE X) 5 w A n c l) (hXA : ∀ a, A = some a → 0 < n → X a.block) (hX : ∀ j, X j → j < w.heap.size) (hlen : (writeL l).length ≤ 100000000000000) :
  Calls Tryz.prog 20 #[.slice A n c] w fun e w' => e = .returned (.string (strOf (writeL l))) ∧ Below w.heap.size w w' := by
 have hln := hS.len
 have hlm : n ≤ 9223372036854775807 := Nat.le_trans hS.le hS.max
 have hba := below_alloc w (.cells #[.pointer none, .slice none 0 0] 71)
 have hp1 := pr_new w
 obtain ⟨b, hb⟩ : ∃ b, w.heap.size = b := ⟨_, rfl⟩
 obtain ⟨w1, hw1⟩ : ∃ w1, w.alloc (.cells #[.pointer none, .slice none 0 0] 71) = w1 := ⟨_, rfl⟩
 rw [hw1] at hba hp1
 rw [hb] at hp1 hX
 have hb' := Lib.hid hb
 have hp1' := Lib.hid hp1
 have hba' := Lib.hid hba
 have hlow : Hid (∀ v' w', Wk b (.slice none 0 0) w1 v' w' → Below b w w') := Lib.hid fun v' w' hk => by
  rw [← hb'.out]
  exact hba.trans (by rw [hb'.out]; exact hk.bel)
 have hS' := Lib.hid hS
 have hXA' := Lib.hid hXA
 have hX' := Lib.hid hX
 have hln' := Lib.hid hln
 have hlen' := Lib.hid hlen
 clear hS hXA hX hln hlen hba hp1
 go_enter Tryz.func20, Tryz.ntmps20
 go_wp2_with fail
 clear hb
 go_loopw [10] (fun vi wr => ∃ j : Nat, j ≤ n ∧ vi = .int .i64 (j : Nat) ∧ Hid (∃ v1, Pr b v1 (writeL (l.take j)) wr ∧ Wk b (.slice none 0 0) w1 v1 wr)) (fun vi _ => n - (intOf vi).toNat)
 case atStart => exact ⟨0, Nat.zero_le _, rfl, Lib.hid ⟨_, by simpa [writeL] using hp1'.out, Wk.refl _ _ _⟩⟩
 case round =>
  obtain ⟨j, hj, rfl, hst⟩ := hrel
  by_cases hlt : j < n
  ·have i1 : decide ((j : Int) < (n : Int)) = true := by simp; omega
   have q1 : (j : Int) < (n : Int) := by omega
   obtain ⟨v5, hp5, hw5⟩ := hst.out
   have hKr := sq_low hS'.out hXA'.out hX'.out (hlow.out _ _ hw5) (fun vs x h => NdI.stay h fun k hk => ⟨hk, (hlow.out _ _ hw5).block k (hX'.out k hk)⟩)
   obtain ⟨b1, off1, x, vs1, rfl, _, hx1, _, hv1, hc1⟩ := hKr.at_ hlt
   have hnx := Lib.hid (writeL_next hx1)
   have hl9 : (writeL (l.take j) ++ writeN x).length ≤ 100000000000000 := by
    have h8 := writeL_take l (j + 1)
    rw [hnx.out] at h8
    have h9 := hlen'.out
    omega
   obtain ⟨kx, nx_, tx_, ax, kx_⟩ := x
   obtain ⟨Ax, cax, A2x, c2x, rfl, -⟩ := hv1.cells
   have m0 := hc1 0 _ rfl
   have m1 := hc1 1 _ rfl
   have m2 := hc1 2 _ rfl
   have m3 := hc1 3 _ rfl
   have m4 := hc1 4 _ rfl
   rw [Nat.add_zero] at m0
   have hbt := below_alloc wr (.cells #[.int .i64 kx, .string (strOf nx_), .string (strOf tx_), .slice Ax ax.length cax, .slice A2x kx_.length c2x] 25)
   have hp6 := hp5.below hbt
   have hw6 := Lib.hid (hw5.trans (Wk.below hbt (Nat.le_of_lt hp5.lt)))
   have hrec := Lib.hid (node_any b X hX'.out _ _ v5 _ (wr.alloc (.cells #[.int .i64 kx, .string (strOf nx_), .string (strOf tx_), .slice Ax ax.length cax, .slice A2x kx_.length c2x] 25)) _ (Nat.le_refl _) hp6 (NdI.stay hv1 fun k hk => ⟨hk, hbt.block k (Nat.lt_trans (hX'.out k hk) hp5.lt)⟩) hl9)
   clear hst hp5 hw5 hKr hc1 hx1 hbt hp6 hl9 hv1
   go_wp2_with fail
   refine hrec.out.mono ?_
   rintro e w7 ⟨⟨r, rfl⟩, v7, hp9, hw9⟩
   have hfin : Hid (∃ v1, Pr b v1 (writeL (l.take (j + 1))) w7 ∧ Wk b (.slice none 0 0) w1 v1 w7) := Lib.hid ⟨v7, by
    rw [hnx.out]
    exact hp9, hw6.out.trans hw9⟩
   clear hp9 hw9 m0 m1 m2 m3 m4
   go_wp2_with fail
   go_roundw
   case rel => exact ⟨j + 1, by omega, by go_num, hfin⟩
   case measure => simp [intOf]; omega
  ·have hie : j = n := by omega
   subst hie
   have i1 : decide ((j : Int) < (j : Int)) = false := by simp
   obtain ⟨v5, hp5, hw5⟩ := hst.out
   rw [List.take_of_length_le (by rw [hln'.out]; exact Nat.le_refl _)] at hp5
   have hsc := Lib.hid (string_any b v5 _ wr hp5 hlen'.out)
   have hbb := Lib.hid (hlow.out _ _ hw5)
   clear hst hp5 hw5
   go_wp2_with fail
   refine hsc.out.mono ?_
   rintro e w7 ⟨rfl, hb7⟩
   have hfin : Hid (Below w.heap.size w w7) := Lib.hid (by rw [hb'.out]; exact hbb.out.trans hb7)
   clear hb7
   go_wp2_with fail
   go_ret
   exact ⟨rfl, hfin.out⟩
set_option maxHeartbeats 4000000 in
set_option maxRecDepth 100000 in
theorem Node_any (X : Nat → Prop) (w : World) (vs : List Value) (n : Nd) (hn : NdI X w vs n) (hX : ∀ j, X j → j < w.heap.size) (hlen : (writeN n).length ≤ 100000000000000) :
  Calls Tryz.prog 18 #[.agg vs.toArray] w fun e w' => e = .returned (.string (strOf (writeN n))) ∧ Below w.heap.size w w' := by
 have hw0 : writeL [n] = writeN n := by simp [writeL]
 obtain ⟨N, hN⟩ : ∃ N, n = N := ⟨_, rfl⟩
 have hn' := hn
 rw [hN] at hn'
 obtain ⟨kd, nm, tx, as_, ks⟩ := n
 obtain ⟨A, ca, A2, c2, rfl, -⟩ := hn.cells
 rw [hN] at hw0 hlen ⊢
 clear hn hN
 have hba := below_alloc w (.cells #[.int .i64 kd, .string (strOf nm), .string (strOf tx), .slice A as_.length ca, .slice A2 ks.length c2] 25)
 have hnb := heap_alloc_new w (.cells #[.int .i64 kd, .string (strOf nm), .string (strOf tx), .slice A as_.length ca, .slice A2 ks.length c2] 25)
 obtain ⟨T, hT⟩ : ∃ T, w.heap.size = T := ⟨_, rfl⟩
 obtain ⟨w1, hw1⟩ : ∃ w1, w.alloc (.cells #[.int .i64 kd, .string (strOf nm), .string (strOf tx), .slice A as_.length ca, .slice A2 ks.length c2] 25) = w1 := ⟨_, rfl⟩
 rw [hw1] at hba hnb
 rw [hT] at hnb
 have x0 : w1.cell? ⟨T, 0, none⟩ = some _ := Xp.cell_blk hnb rfl
 have x1 : w1.cell? ⟨T, 1, none⟩ = some _ := Xp.cell_blk hnb rfl
 have x2 : w1.cell? ⟨T, 2, none⟩ = some _ := Xp.cell_blk hnb rfl
 have x3 : w1.cell? ⟨T, 3, none⟩ = some _ := Xp.cell_blk hnb rfl
 have x4 : w1.cell? ⟨T, 4, none⟩ = some _ := Xp.cell_blk hnb rfl
 have hbb := below_alloc w1 (.cells #[.int .i64 kd, .string (strOf nm), .string (strOf tx), .slice A as_.length ca, .slice A2 ks.length c2] 25)
 have h02 := hba.trans (hbb.mono hba.size)
 have hsq2 : Sq (NdE (fun j => j < (w1.alloc (.cells #[.int .i64 kd, .string (strOf nm), .string (strOf tx), .slice A as_.length ca, .slice A2 ks.length c2] 25)).heap.size)) 5 (w1.alloc (.cells #[.int .i64 kd, .string (strOf nm), .string (strOf tx), .slice A as_.length ca, .slice A2 ks.length c2] 25)) (some ⟨w1.heap.size, 0, none⟩) 1 1 [N] :=
  sq_one w1 [.int .i64 kd, .string (strOf nm), .string (strOf tx), .slice A as_.length ca, .slice A2 ks.length c2] N 25 (0, 0) rfl (NdI.stay hn' fun k hk => ⟨Nat.lt_of_lt_of_le (hX k hk) h02.size, h02.block k (hX k hk)⟩)
 have hc := Lib.hid (Nodes_any _ _ _ 1 1 [N] hsq2 (fun a e _ => by injection e with e; rw [← e]; exact (Array.getElem?_eq_some_iff.1 (heap_alloc_new w1 _)).1) (fun j hj => hj) (by rw [hw0]; exact hlen))
 rw [hw0] at hc
 have h02H := Lib.hid h02
 clear hba hnb hbb h02 hsq2 hn' hX hw0 hlen
 go_enter Tryz.func18, Tryz.ntmps18
 go_wp2_with fail
 refine hc.out.mono ?_
 rintro e w5 ⟨rfl, hb5⟩
 have hfin := Lib.hid (h02H.out.trans (hb5.mono h02H.out.size))
 clear hb5 hc
 go_wp2_with fail
 go_ret
 exact ⟨rfl, hfin.out⟩
end Go.Proofs.YtokdnhdfmgfkeaaGreatDoor.Xp
end
