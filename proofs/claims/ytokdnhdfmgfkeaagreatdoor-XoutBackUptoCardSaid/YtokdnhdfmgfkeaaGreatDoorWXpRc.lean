/- Fair of the document. Printed by xp_rfair1.py. -/
import Derived.Test.YtokdnhdfmgfkeaaGreatDoorWUtfMath
import Derived.Test.YtokdnhdfmgfkeaaGreatDoorWXlPlaces
import Derived.Test.YtokdnhdfmgfkeaaGreatDoorWUtfEnc2
import Derived.Test.YtokdnhdfmgfkeaaGreatDoorWQxVal
import Derived.Lib.AppendStr
import Derived.Lib.Builder
import Derived.BigRegion
import Derived.Test.YtokdnhdfmgfkeaaGreatDoorWXpLib
import Derived.Carry
import Derived.Maps.Own
import Derived.Maps.Views
import Derived.StringKeys
import Derived.Deep.QuietTactic
import Derived.BigQuiet
import Derived.Test.YtokdnhdfmgfkeaaGreatDoorWUtfEnc
import Derived.Lib.OthersKept
import Derived.Lib.ConvBytes
set_option linter.unusedVariables false
set_option linter.unusedSimpArgs false
section
namespace Go.Proofs.YtokdnhdfmgfkeaaGreatDoor.Xl
open Go.RowKit UtfW
theorem str_eqL (s t : Tx) : ((strOf s).toList == t) = decide (s = t) := by
 have h : (strOf s).data.toList = s := by simp [strOf]
 rw [Lib.toList_data, h, Bool.eq_iff_iff, beq_iff_eq, decide_eq_true_eq]
def runeV : Option Nat -> Int
 | some v => (v : Nat)
 | none => -1
theorem numV_eq (base : Nat) (s : Tx) : numV base s = runeV (numR base s) := by
 unfold numV runeV
 cases numR base s <;> rfl
set_option maxRecDepth 100000 in
theorem named_any (w : World) (s : Tx) : Calls Tryz.prog 200 #[.string (strOf s)] w fun e w' => e = .returned (.int .i32 (runeV (named s))) /\ w' = w := by
 have i0 := str_eqL s [97, 109, 112];have i1 := str_eqL s [108, 116];have i2 := str_eqL s [103, 116];have i3 := str_eqL s [113, 117, 111, 116];have i4 := str_eqL s [97, 112, 111, 115];obtain ⟨V, hV⟩ : ∃ V, runeV (named s) = V := ⟨_, rfl⟩;rw [hV];have hV' := Hd hV;clear hV
 by_cases h0 : s = [97, 109, 112]
 ·rw [decide_eq_true h0] at i0;have hh : Hid (V = 38) := Hd (by rw [<- hV'.out, h0]; rfl);clear h0;clear i1 i2 i3 i4
  go_enter Tryz.func200, Tryz.ntmps200
  go_wp2_with fail;go_ret;exact ⟨ret_int hh.out.symm, rfl⟩
 rw [decide_eq_false h0] at i0;have h0' := Hd h0;clear h0
 by_cases h1 : s = [108, 116]
 ·rw [decide_eq_true h1] at i1;have hh : Hid (V = 60) := Hd (by rw [<- hV'.out, h1]; rfl);clear h1;clear i2 i3 i4
  go_enter Tryz.func200, Tryz.ntmps200
  go_wp2_with fail;go_ret;exact ⟨ret_int hh.out.symm, rfl⟩
 rw [decide_eq_false h1] at i1;have h1' := Hd h1;clear h1
 by_cases h2 : s = [103, 116]
 ·rw [decide_eq_true h2] at i2;have hh : Hid (V = 62) := Hd (by rw [<- hV'.out, h2]; rfl);clear h2;clear i3 i4
  go_enter Tryz.func200, Tryz.ntmps200
  go_wp2_with fail;go_ret;exact ⟨ret_int hh.out.symm, rfl⟩
 rw [decide_eq_false h2] at i2;have h2' := Hd h2;clear h2
 by_cases h3 : s = [113, 117, 111, 116]
 ·rw [decide_eq_true h3] at i3;have hh : Hid (V = 34) := Hd (by rw [<- hV'.out, h3]; rfl);clear h3;clear i4
  go_enter Tryz.func200, Tryz.ntmps200
  go_wp2_with fail;go_ret;exact ⟨ret_int hh.out.symm, rfl⟩
 rw [decide_eq_false h3] at i3;have h3' := Hd h3;clear h3
 by_cases h4 : s = [97, 112, 111, 115]
 ·rw [decide_eq_true h4] at i4;have hh : Hid (V = 39) := Hd (by rw [<- hV'.out, h4]; rfl);clear h4
  go_enter Tryz.func200, Tryz.ntmps200
  go_wp2_with fail;go_ret;exact ⟨ret_int hh.out.symm, rfl⟩
 rw [decide_eq_false h4] at i4;have h4' := Hd h4;clear h4
 have hh : Hid (V = -1) := Hd (by
  rw [<- hV'.out];unfold named;rw [if_neg h0'.out, if_neg h1'.out, if_neg h2'.out, if_neg h3'.out, if_neg h4'.out]
  rfl)
 go_enter Tryz.func200, Tryz.ntmps200
 go_wp2_with fail;go_ret;exact ⟨ret_int hh.out.symm, rfl⟩
theorem cutP_any (s p : Tx) (w : World) :
  Calls Tryz.prog 201 #[.string (strOf s), .string (strOf p)] w fun e w' => e = .returned (.tuple #[.string (strOf (Lib.trimPrefix s p)), .bool (Lib.hasPrefix s p)]) /\ w' = w := by
 have := Any.strings_CutPrefix Tryz.lays103 (strOf s) (strOf p) w;have h1 : (strOf s).data.toList = s := by simp [strOf]
 have h2 : (strOf p).data.toList = p := by simp [strOf]
 rw [h1, h2] at this;exact this
theorem find_skip (t : Tx) : find [59] (38 :: t) = (find [59] t).map (· + 1) := by
 rw [find, if_neg (by simp [List.isPrefixOf])]
theorem char_top {v : Nat} (h : Utf.Char (v : Nat) = true) : v <= 1114111 := by
 unfold Utf.Char at h;simp at h;omega
theorem refV_top {t : Tx} {v : Nat} (h : refV t = some v) : v <= 1114111 := by
 have hn : ∀ {base : Nat} {d : Tx}, numR base d = some v -> v <= 1114111 := by
  intro base d h;unfold numR at h
  split at h
  ·cases h
  ·split at h
   ·split at h
    ·rename_i hc
     injection h with h;subst h;exact char_top hc
    ·cases h
   ·cases h
 unfold refV at h
 split at h
 ·exact hn h
 ·exact hn h
 ·unfold named at h
  repeat' split at h
  all_goals (cases h <;> omega)
theorem refV_x {t : Tx} (h : Lib.hasPrefix t [35, 120] = true) : refV t = numR 16 (Lib.trimPrefix t [35, 120]) := by
 obtain ⟨d, rfl⟩ := List.isPrefixOf_iff_prefix.1 h;rfl
theorem refV_d {t : Tx} (h1 : Lib.hasPrefix t [35, 120] = false) (h : Lib.hasPrefix t [35] = true) : refV t = numR 10 (Lib.trimPrefix t [35]) := by
 obtain ⟨d, rfl⟩ := List.isPrefixOf_iff_prefix.1 h
 cases d with
 | nil => rfl
 | cons a d =>
  have ha : a ≠ 120 := by
   rintro rfl;simp [Lib.hasPrefix, List.isPrefixOf] at h1
  show refV (35 :: a :: d) = _
  unfold refV
  split
  ·rename_i h2
   injection h2 with _ h2;injection h2 with h2 _;exact absurd h2 ha
  ·rename_i h2
   injection h2 with _ h2;subst h2;rfl
  ·rename_i h2
   exact absurd rfl (h2 _)
theorem refV_n {t : Tx} (h1 : Lib.hasPrefix t [35] = false) : refV t = named t := by
 unfold refV
 split
 ·simp [Lib.hasPrefix, List.isPrefixOf] at h1
 ·simp [Lib.hasPrefix, List.isPrefixOf] at h1
 ·rfl
section
variable (w : World) (b : Nat) (S : Tx) (k : Nat) (A : Option Addr) (c : Nat) (vo : Value)
set_option maxHeartbeats 1000000 in
set_option maxRecDepth 100000 in
theorem reference_any (h : Xc w b S k A c vo) (hk : S[k]? = some 38) (hS : S.length <= 65536) :
  Calls Tryz.prog 178 #[.pointer (some ⟨b, 0, none⟩)] w fun e w' => Gives w b S k A c vo (fun v => .string (strOf v)) (refR (S.drop (k + 1))) e w' := by
 have hkl : k < S.length := (List.getElem?_eq_some_iff.1 hk).1;have hlc := Rd.le h.bs;have hcm := Rd.max h.bs;have c0 := h.c0;have c1 := h.c1;have f1 := h.frozen 1;have hf0 : find [59] (S.drop k) = (find [59] (S.drop (k + 1))).map (· + 1) := by rw [drop_at hk, find_skip]
 have h' := Hd h;clear h hk
 have hc : Hid (Calls Tryz.prog 197 #[.slice (offA A c k) (S.length - k) (c - k), .int .u8 59] w fun e w' => e = .returned (.int .i64 (idxV (find [59] (S.drop k)))) /\ w' = w) := Hd (by
  have hf := Bs.from h'.out.bs (Nat.le_of_lt hkl) (Nat.le_refl _);rw [List.take_of_length_le (by rw [List.length_drop]; omega)] at hf
  exact byteB_any 59 w hf)
 rw [hf0] at hc;clear hf0;unfold offA at hc;obtain ⟨A1, hA1⟩ : ∃ A1, (if c = k then A else Option.map (fun x => x.add k) A) = A1 := ⟨_, rfl⟩;rw [hA1] at hc
 cases hf : find [59] (S.drop (k + 1)) with
 | none =>
  have hf' := Hd hf;rw [hf] at hc;clear hf;have hc2 : Hid (Calls Tryz.prog 197 #[.slice A1 (S.length - k) (c - k), .int .u8 59] w fun e w' => e = .returned (.int .i64 (-1)) /\ w' = w) := hc;clear hc
  go_enter Tryz.func178, Tryz.ntmps178
  go_wp2_with fail;refine hc2.out.mono ?_;rintro e w1 ⟨rfl, rfl⟩;go_wp2_with fail;refine (fail_any _ 5 (k : Nat)).mono ?_;rintro e w2 ⟨rfl, rfl⟩;go_wp2_with fail;refine ⟨rfl, World.grownBy.refl _ _, ?_⟩;unfold refR;rw [hf'.out];rfl
 | some n =>
  obtain ⟨hn1, _⟩ := find_len hf;rw [List.length_drop] at hn1;simp only [List.length_cons, List.length_nil] at hn1;have hf' := Hd hf;rw [hf] at hc;clear hf;have hc2 : Hid (Calls Tryz.prog 197 #[.slice A1 (S.length - k) (c - k), .int .u8 59] w fun e w' => e = .returned (.int .i64 ((n + 1 : Nat) : Int)) /\ w' = w) := hc;clear hc;obtain ⟨N, hN⟩ : ∃ N, n + 1 = N := ⟨_, rfl⟩;rw [hN] at hc2;have hNb : n = N - 1 := by omega
  have hN0 : 1 <= N := by omega
  have hNl : k + N < S.length := by omega
  have hN' := Hd hN;clear hN;have i0 : decide ((N : Int) < 0) = false := by simp
  obtain ⟨M, hM⟩ : ∃ M, k + N = M := ⟨_, rfl⟩;obtain ⟨L, hL⟩ : ∃ L, k + 1 = L := ⟨_, rfl⟩;have hMI : (k : Int) + (N : Int) = (M : Int) := by omega
  have hLI : (k : Int) + 1 = (L : Int) := by omega
  have q1 : (0 : Int) <= (L : Int) /\ (L : Int) <= (M : Int) := ⟨by omega, by omega⟩;have q2 : L <= M := by omega
  have q3 : M < S.length := by omega
  have hcut : Bs w (offA A c L) (M - L) (c - L) ((S.drop L).take (M - L)) := Bs.from h'.out.bs q2 (by omega);unfold offA at hcut;obtain ⟨A2, hA2⟩ : ∃ A2, (if c = L then A else Option.map (fun x => x.add L) A) = A2 := ⟨_, rfl⟩;rw [hA2] at hcut;obtain ⟨T, hT⟩ : ∃ T, (S.drop L).take (M - L) = T := ⟨_, rfl⟩;rw [hT] at hcut;have hTl : T.length <= 65536 := by rw [<- hT, List.length_take]; omega
  have hcv2 : (convert 41 9 (.slice A2 (M - L) (c - L))).run Tryz.prog w = .ok (.string (strOf T)) w := Bs.conv hcut Tryz.underlying41 Tryz.underlying5 Tryz.underlying9
  have hres : Hid (refR (S.drop (k + 1)) = match refV T with | none => .bad 5 0 | some v => .ok (encB (v : Nat)) (n + 2)) := Hd (by
   unfold refR;rw [hf'.out];simp only;rw [<- hT, show M - L = n by have := hN'.out; omega, hL]
   cases refV (List.take n (List.drop L S)) <;> rfl)
  have hM' := Hd hM;have hL' := Hd hL;have hNb' := Hd hNb;clear hT hcut hM hL hNb hn1;obtain ⟨V, hV⟩ : ∃ V, refV T = V := ⟨_, rfl⟩;rw [hV] at hres
  cases hp : Lib.hasPrefix T [35, 120] with
  | true =>
   have hR : Hid (V = numR 16 (Lib.trimPrefix T [35, 120])) := Hd (by rw [<- hV, refV_x hp]);have hp' := Hd hp;clear hp
   go_enter Tryz.func178, Tryz.ntmps178
   go_wp2_with fail;refine hc2.out.mono ?_;rintro e w1 ⟨rfl, rfl⟩;go_wp2_with fail;refine (named_any _ T).mono ?_;rintro e w2 ⟨rfl, rfl⟩;go_wp2_with fail;refine (cutP_any T [35, 120] _).mono ?_;rintro e w3 ⟨rfl, rfl⟩;rw [hp'.out];go_wp2_with fail;refine (number_any _ (Lib.trimPrefix T [35, 120]) 16 (.inr rfl) ?_).mono ?_
   ·unfold Lib.trimPrefix
    split
    ·rw [List.length_drop]; omega
    ·exact hTl
   rintro e w4 ⟨rfl, hb4⟩;rw [numV_eq, <- hR.out];have hs4 := Hd (h'.out.below hb4);have hg4 := Hd (grown_in (r := some b) hb4);clear hb4 c0 c1 f1 hcv2
   cases V with
   | none =>
    have hV2 : runeV none = -1 := rfl;rw [hV2];clear hV2;go_wp2_with fail;refine (fail_any _ 5 (k : Nat)).mono ?_;rintro e w8 ⟨rfl, rfl⟩;go_wp2_with fail;refine ⟨rfl, hg4.out, ?_⟩;rw [hres.out];rfl
   | some v =>
    have hvt : v <= 1114111 := refV_top hV;have hV2 : runeV (some v) = (v : Nat) := rfl;rw [hV2];clear hV2;have hv' := Hd hV;clear hV;have j0 : decide ((v : Int) < 0) = false := (by simp);have g1 := hs4.out.c1;have e1 := hs4.out.frozen 1;go_wp2_with fail;refine (utfEncode_any (v : Nat) (by omega) (by omega) _).mono ?_;rintro e w9 ⟨A9, c9, rfl, ho9, hb9⟩;have hset := hs4.out.set1 (M + 1);have hs9 := Hd (hset.1.below hb9);have hg9 := Hd ((hg4.out.trans hset.2).trans (grown_in hb9));have hcv9 : (convert 41 9 (.slice A9 (encB (v : Nat)).length c9)).run Tryz.prog w9 = .ok (.string (strOf (encB (v : Nat)))) w9 := Bs.conv ho9.bs Tryz.underlying41 Tryz.underlying5 Tryz.underlying9;clear ho9 hb9 hset;go_wp2_with fail;go_ret;rw [hres.out];refine ⟨hg9.out, rfl, ?_⟩;rw [show k + (n + 2) = M + 1 by have := hM'.out; have := hN'.out; omega];exact hs9.out
  | false =>
   cases hq : Lib.hasPrefix T [35] with
   | true =>
    have hR : Hid (V = numR 10 (Lib.trimPrefix T [35])) := Hd (by rw [<- hV, refV_d hp hq]);have hp' := Hd hp;have hq' := Hd hq;clear hp hq
    go_enter Tryz.func178, Tryz.ntmps178
    go_wp2_with fail;refine hc2.out.mono ?_;rintro e w1 ⟨rfl, rfl⟩;go_wp2_with fail;refine (named_any _ T).mono ?_;rintro e w2 ⟨rfl, rfl⟩;go_wp2_with fail;refine (cutP_any T [35, 120] _).mono ?_;rintro e w3 ⟨rfl, rfl⟩;rw [hp'.out];go_wp2_with fail;refine (cutP_any T [35] _).mono ?_;rintro e w3 ⟨rfl, rfl⟩;rw [hq'.out];go_wp2_with fail;refine (number_any _ (Lib.trimPrefix T [35]) 10 (.inl rfl) ?_).mono ?_
    ·unfold Lib.trimPrefix
     split
     ·rw [List.length_drop]; omega
     ·exact hTl
    rintro e w4 ⟨rfl, hb4⟩;rw [numV_eq, <- hR.out];have hs4 := Hd (h'.out.below hb4);have hg4 := Hd (grown_in (r := some b) hb4);clear hb4 c0 c1 f1 hcv2
    cases V with
    | none =>
     have hV2 : runeV none = -1 := rfl;rw [hV2];clear hV2;go_wp2_with fail;refine (fail_any _ 5 (k : Nat)).mono ?_;rintro e w8 ⟨rfl, rfl⟩;go_wp2_with fail;refine ⟨rfl, hg4.out, ?_⟩;rw [hres.out];rfl
    | some v =>
     have hvt : v <= 1114111 := refV_top hV;have hV2 : runeV (some v) = (v : Nat) := rfl;rw [hV2];clear hV2;have hv' := Hd hV;clear hV;have j0 : decide ((v : Int) < 0) = false := (by simp);have g1 := hs4.out.c1;have e1 := hs4.out.frozen 1;go_wp2_with fail;refine (utfEncode_any (v : Nat) (by omega) (by omega) _).mono ?_;rintro e w9 ⟨A9, c9, rfl, ho9, hb9⟩;have hset := hs4.out.set1 (M + 1);have hs9 := Hd (hset.1.below hb9);have hg9 := Hd ((hg4.out.trans hset.2).trans (grown_in hb9));have hcv9 : (convert 41 9 (.slice A9 (encB (v : Nat)).length c9)).run Tryz.prog w9 = .ok (.string (strOf (encB (v : Nat)))) w9 := Bs.conv ho9.bs Tryz.underlying41 Tryz.underlying5 Tryz.underlying9;clear ho9 hb9 hset;go_wp2_with fail;go_ret;rw [hres.out];refine ⟨hg9.out, rfl, ?_⟩;rw [show k + (n + 2) = M + 1 by have := hM'.out; have := hN'.out; omega];exact hs9.out
   | false =>
    have hR : Hid (V = named T) := Hd (by rw [<- hV, refV_n hq]);have hg4 := Hd (World.grownBy.refl w (some b));have hp' := Hd hp;have hq' := Hd hq;clear hp hq
    go_enter Tryz.func178, Tryz.ntmps178
    go_wp2_with fail;refine hc2.out.mono ?_;rintro e w1 ⟨rfl, rfl⟩;go_wp2_with fail;refine (named_any _ T).mono ?_;rintro e w2 ⟨rfl, rfl⟩;go_wp2_with fail;refine (cutP_any T [35, 120] _).mono ?_;rintro e w3 ⟨rfl, rfl⟩;rw [hp'.out];go_wp2_with fail;refine (cutP_any T [35] _).mono ?_;rintro e w3 ⟨rfl, rfl⟩;rw [hq'.out, <- hR.out];clear hcv2
    cases V with
    | none =>
     have hV2 : runeV none = -1 := rfl;rw [hV2];clear hV2;go_wp2_with fail;refine (fail_any _ 5 (k : Nat)).mono ?_;rintro e w8 ⟨rfl, rfl⟩;go_wp2_with fail;refine ⟨rfl, hg4.out, ?_⟩;rw [hres.out];rfl
    | some v =>
     have hvt : v <= 1114111 := refV_top hV;have hV2 : runeV (some v) = (v : Nat) := rfl;rw [hV2];clear hV2;have hv' := Hd hV;clear hV;have j0 : decide ((v : Int) < 0) = false := (by simp);have g1 := h'.out.c1;have e1 := h'.out.frozen 1;go_wp2_with fail;refine (utfEncode_any (v : Nat) (by omega) (by omega) _).mono ?_;rintro e w9 ⟨A9, c9, rfl, ho9, hb9⟩;have hset := h'.out.set1 (M + 1);have hs9 := Hd (hset.1.below hb9);have hg9 := Hd ((hg4.out.trans hset.2).trans (grown_in hb9));have hcv9 : (convert 41 9 (.slice A9 (encB (v : Nat)).length c9)).run Tryz.prog w9 = .ok (.string (strOf (encB (v : Nat)))) w9 := Bs.conv ho9.bs Tryz.underlying41 Tryz.underlying5 Tryz.underlying9;clear ho9 hb9 hset;go_wp2_with fail;go_ret;rw [hres.out];refine ⟨hg9.out, rfl, ?_⟩;rw [show k + (n + 2) = M + 1 by have := hM'.out; have := hN'.out; omega];exact hs9.out
end
end Go.Proofs.YtokdnhdfmgfkeaaGreatDoor.Xl
end

section
namespace Go.Proofs.YtokdnhdfmgfkeaaGreatDoor.Xl
open Go.RowKit UtfW
section
variable (w : World) (b : Nat) (S : Tx) (k : Nat) (A : Option Addr) (c : Nat) (vo : Value)
set_option maxRecDepth 100000 in
theorem line_any (h : Xc w b S k A c vo) (hk : k < S.length) (hS : S.length <= 65536) :
  Calls Tryz.prog 179 #[.pointer (some ⟨b, 0, none⟩)] w fun e w' => e = .returned (.tuple #[]) /\ Xc w' b S (k + line (S.drop k)) A c vo /\ w.grownBy w' (some b) := by
 have hh := has_any w b S k A c vo h (Nat.le_of_lt hk) hS [13, 10] (by decide);obtain ⟨B, hB⟩ : ∃ B, Lib.hasPrefix (S.drop k) [13, 10] = B := ⟨_, rfl⟩;rw [hB] at hh;have hB' := Hd hB;have h' := Hd h;have hh' := Hd hh;clear hB h hh
 cases B with
 | true =>
  have hl : Hid (line (S.drop k) = 2) := Hd (by unfold line; rw [if_pos hB'.out]);rw [hl.out]
  go_enter Tryz.func179, Tryz.ntmps179
  go_wp2_with fail;refine hh'.out.mono ?_;rintro e w1 ⟨rfl, hb1⟩;have hs1 := Hd (h'.out.below hb1);have hg1 := Hd (grown_in (r := some b) hb1);have c1 := hs1.out.c1;have f1 := hs1.out.frozen 1;clear hb1;go_wp2_with fail
  go_end0
  have h2 := hs1.out.set1 (k + 1);have h3 := h2.1.set1 (k + 1 + 1);exact ⟨rfl, h3.1, (hg1.out.trans h2.2).trans h3.2⟩
 | false =>
  have hl : Hid (line (S.drop k) = 1) := Hd (by unfold line; rw [if_neg]; rw [hB'.out]; simp);rw [hl.out]
  go_enter Tryz.func179, Tryz.ntmps179
  go_wp2_with fail;refine hh'.out.mono ?_;rintro e w1 ⟨rfl, hb1⟩;have hs1 := Hd (h'.out.below hb1);have hg1 := Hd (grown_in (r := some b) hb1);have c1 := hs1.out.c1;have f1 := hs1.out.frozen 1;clear hb1;go_wp2_with fail
  go_end0
  have h2 := hs1.out.set1 (k + 1);exact ⟨rfl, h2.1, hg1.out.trans h2.2⟩
end
end Go.Proofs.YtokdnhdfmgfkeaaGreatDoor.Xl
end

section
namespace Go.Proofs.YtokdnhdfmgfkeaaGreatDoor.Xl
open Go.RowKit UtfW
theorem Xc.far {w wr w' : World} {b : Nat} {S : Tx} {k q : Nat} {A : Option Addr} {c : Nat} {vo vo' : Value} (h : Xc w b S k A c vo) (hg : w.grownBy wr (some b)) (hr : Xc wr b S q A c vo') (hb : Below w.heap.size wr w') : Xc w' b S q A c vo' /\ w.grownBy w' (some b) := by
 have h2 : w.grownBy w' (some b) := ⟨hb.os.trans hg.os, hb.tape.trans hg.tape, hb.output.trans hg.output, Nat.le_trans hg.size hb.size, fun j hj hne => (hb.block j hj).trans (hg.block j hj hne)⟩;exact ⟨h.on h2 ((hb.block b h.lt).trans hr.blk), h2⟩
theorem ow_kept {w w' : World} {B E b : Nat} {v : Value} {l : Tx} (h : OwB w B E v l) (hg : w.grownBy w' (some b)) (hb : b < B) : OwB w' B E v l :=
 World.ownsRow.kept h hg (by
  cases hv : v.ownBlock with
  | none => exact .inl rfl
  | some j =>
   right;have := (OwB.lt h j hv).1;intro e;injection e with e
   omega)
theorem byte_eq (x y : UInt8) : ((x.toNat : Int) == (y.toNat : Int)) = decide (x = y) := by
 rw [Bool.eq_iff_iff, beq_iff_eq, decide_eq_true_eq];exact ⟨fun h => UInt8.toNat_inj.1 (by omega), fun h => by rw [h]⟩
theorem info_u8 : (Tryz.prog.info? 5).map (fun i => (i.zero, i.size, i.bytes)) = some (some (.int .u8 0), 1, 1) := by kernel_rfl
theorem append_string {ops : Array Oper} {rest : List Oper} {o : Oper} {a : Act} {Q : Exit -> Act -> World -> Prop} (w : World) (hgd : o.guard = none) (s x : Operand)
  (ho : o.op = .call { callee := .builtin .append, args := #[s, x], argTypes := #[41, 9] })
  (B : Nat) (v : Value) (la : Tx) (hs : a.eval s = v) (hown : OwB w B 5 v la) (lb : Tx) (hx : a.eval x = .string (strOf lb))
  (hsz : la.length + lb.length <= 140737488355328) (hB : B <= w.heap.size)
  (h : ∀ v' w', OwB w' B 5 v' (la ++ lb) -> Below B w w' -> wpList Tryz.prog ops Q rest (a.put o.dst v') w') :
  wpList Tryz.prog ops Q (o :: rest) a w := by
 have hsl : (strOf lb).size = lb.length := strOf_size' lb;obtain ⟨i, hi, hz, hs1, hb1⟩ := info_parts info_u8;refine Lib.wpList_append_own_string w hgd s x 41 9 ho B 5 i Tryz.underlying41 Tryz.underlying9 hi hz hs1 hb1 v la.length (bv la) hs hown (strOf lb) hx (by unfold maxLen; omega) (by omega) hB ?_;intro v' w' h1 h2 _;refine h v' w' ?_ (below_of_grown hown hB h2);unfold OwB;rw [bv_append, List.length_append, <- hsl]
 have e : Lib.strCells (strOf lb) = bv lb := by
  unfold Lib.strCells bv strOf;simp
 rw [<- e];exact h1
theorem pan_eq {c : Int} {x y : Nat} (h : x = y) : Ending.panicked [wr c (x : Nat)] = Ending.panicked [wr c (y : Nat)] := by rw [h]
theorem encB_le (v : Nat) : (encB (v : Nat)).length <= 4 := by
 cases h : isRune (v : Nat) with
 | true => exact (encB_pos h).2.1
 | false => rw [encB_none h]; simp
theorem refR_v {t v : Tx} {n : Nat} (h : refR t = .ok v n) : v.length <= 4 := by
 unfold refR at h
 split at h
 ·cases h
 ·split at h
  ·cases h
  ·injection h with h1 h2;rw [<- h1];exact encB_le _
section
variable (w : World) (b : Nat) (S : Tx) (k : Nat) (A : Option Addr) (c : Nat) (vo : Value)
set_option maxHeartbeats 2000000 in
set_option maxRecDepth 100000 in
theorem value_any (h : Xc w b S k A c vo) (hk : k <= S.length) (hS : S.length <= 65536) :
  Calls Tryz.prog 207 #[.pointer (some ⟨b, 0, none⟩)] w fun e w' => Gives w b S k A c vo (fun v => .string (strOf v)) (value (S.drop k)) e w' := by
 have hbw : b < w.heap.size := h.lt;have h' := Hd h;clear h
 by_cases hend : S.length <= k
 ·go_enter Tryz.func207, Tryz.ntmps207
  go_wp2_with fail;refine (need_bad w b S k A c vo h'.out hend).mono ?_;rintro e w1 ⟨rfl, hb1⟩;go_wp2_with fail;refine ⟨rfl, grown_in hb1, ?_⟩;rw [drop_end hend];have e : S.length = k + 0 := by omega
  rw [e];rfl
 have hkl : k < S.length := by omega
 clear hend;obtain ⟨R, hR⟩ : ∃ R, value (S.drop k) = R := ⟨_, rfl⟩;rw [hR];have hR' := Hd hR;clear hR
 go_enter Tryz.func207, Tryz.ntmps207
 go_wp2_with fail;refine (need_ok w b S k A c vo h'.out hkl).mono ?_;rintro e w1 ⟨rfl, hb1⟩;have hs1 := Hd (h'.out.below hb1);have hb1' := Hd hb1;clear hb1;have c0 := hs1.out.c0;have c1 := hs1.out.c1;obtain ⟨ba, off, rfl, hx, hcell⟩ := hs1.out.at_ hkl;generalize S[k] = x0 at hx hcell;have hx0 := Hd hx;clear hx;go_wp2_with fail
 go_big_quiet (fail)
 have hb2 := Hd (hb1'.out.trans ((Joins.below_draws _ w1 nq).mono hb1'.out.size));have hs2 := Hd (h'.out.below hb2.out);generalize w1.drewN nq = w2 at hb2 hs2 ⊢;clear hs1 hb1' c0 c1 hcell;have c1 := hs2.out.c1;have f1 := hs2.out.frozen 1;have j34 := byte_eq x0 34;have j39 := byte_eq x0 39
 by_cases hqt : ¬ (x0 = 34 \/ x0 = 39)
 ·have hqt' := Hd hqt;rw [decide_eq_false fun e => hqt (.inl e)] at j34;rw [decide_eq_false fun e => hqt (.inr e)] at j39;have j34' : ((x0.toNat : Int) == 34) = false := j34;have j39' : ((x0.toNat : Int) == 39) = false := j39;have m34 : ((x0.toNat : Int) != 34) = true := by unfold bne; rw [j34']; rfl
  have m39 : ((x0.toNat : Int) != 39) = true := by unfold bne; rw [j39']; rfl
  clear hqt j34 j39;go_wp2_with fail;refine (fail_any _ 2 (k : Nat)).mono ?_;rintro e w3 ⟨rfl, rfl⟩;go_wp2_with fail;refine ⟨rfl, grown_in hb2.out, ?_⟩;have := hR'.out;rw [drop_at hx0.out, value, if_neg hqt'.out] at this;rw [<- this];rfl
 have hqt := Classical.not_not.1 hqt
 have hgo : Hid ((valF (S.length - k) x0 (S.drop (k + 1)) []).shift 1 = R) := Hd (by
  have := hR'.out;rw [drop_at hx0.out, value, if_pos hqt, List.length_drop] at this
  rw [<- this, show S.length - k = S.length - (k + 1) + 1 by omega])
 have hall : Hid (x0 = 34 \/ x0 = 39) := Hd hqt;clear hqt j34 j39;have hset := hs2.out.set1 (k + 1);have HS2 := hset
 go_upto_region 3 with fail
 go_cut [23] (fun v wx => v = .bool false /\ wx = w2)
 case first =>
  rcases hall.out with e | e
  ·have j1 : ((x0.toNat : Int) == 34) = true := by rw [e]; rfl
   go_wp2_with fail
   go_meet
   exact ⟨rfl, rfl⟩
  ·have j1 : ((x0.toNat : Int) == 34) = false := by rw [e]; rfl
   have j2 : ((x0.toNat : Int) == 39) = true := by rw [e]; rfl
   go_wp2_with fail
   go_meet
   exact ⟨rfl, rfl⟩
 obtain ⟨rfl, hwc⟩ := hcut;subst hwc;clear c1 f1 hset HS2;have c1 := hs2.out.c1;have f1 := hs2.out.frozen 1;have hset := hs2.out.set1 (k + 1);have hss := Hd hset.1;have hgg := Hd ((grown_in hb2.out).trans hset.2);have hszs : Hid (w.heap.size <= (wc.setCell ⟨b, 1, none⟩ (.int .i64 ((k + 1 : Nat) : Int))).heap.size) := Hd hgg.out.size;clear hset;go_wp2_with fail
 go_loopg [4, 5] (S.length + 1) (fun m v4 v5 wr => ∃ (q f n c4 : Nat) (A4 : Option Addr) (o : Tx), k < q /\ q <= S.length /\ S.length - q < m /\ v4 = .slice A4 n c4 /\ o.length <= 4 * (q - k) /\ Hid (S.length - q < f) /\ Hid ((valF f x0 (S.drop q) o).shift (q - k) = R) /\ Hid (Xc wr b S q (some ⟨ba, off, none⟩) c vo) /\ Hid (w.grownBy wr (some b)) /\ Hid (OwB wr w.heap.size 5 (.slice A4 n c4) o))
 case atStart =>
  refine ⟨k + 1, S.length - k, 0, 0, none, [], by omega, by omega, by omega, rfl, by simp, Hd (by omega), Hd ?_, hss, hgg, Hd (OwB.nil _ _ _)⟩;rw [show k + 1 - k = 1 by omega];exact hgo.out
 case round =>
  clear c1 f1 hss hgg hszs;obtain ⟨q, f, n, c4, A4, o, hkq, hql, hms, rfl, hol, hf, hr, hs, hg, ho⟩ := hrel
  by_cases hge : S.length <= q
  ·go_wp2_with fail;refine (need_bad wr b S q _ c vo hs.out hge).mono ?_;rintro e w3 ⟨rfl, hb3⟩;go_wp2_with fail;refine ⟨rfl, hg.out.trans (grown_in hb3), ?_⟩;have := hr.out;rw [drop_end hge, show valF f x0 [] o = .bad 6 0 by cases f <;> rfl] at this;rw [<- this];exact pan_eq (by omega)
  have hlt : q < S.length := by omega
  clear hge;go_wp2_with fail;refine (need_ok wr b S q _ c vo hs.out hlt).mono ?_;rintro e w3 ⟨rfl, hb3⟩;have hs3 := Hd (hs.out.below hb3);have hg3 := Hd (hg.out.trans (grown_in hb3));have ho3 := Hd (OwB.below ho.out hb3);clear hb3 hs hg ho;have c0 := hs3.out.c0;have c1 := hs3.out.c1;obtain ⟨ba', off', he, hx, hcell⟩ := hs3.out.at_ hlt;injection he with he;injection he with e1 e2;subst e1;subst e2;generalize S[q] = x at hx hcell;have hx' := Hd hx;clear hx;obtain ⟨f', rfl⟩ : ∃ f', f = f' + 1 := ⟨f - 1, by have := hf.out; omega⟩;go_wp2_with fail
  go_big_quiet (fail)
  have hs4 := Hd (hs3.out.below (Joins.below_draws _ w3 nq));have hg4 := Hd (hg3.out.trans (grown_in (Joins.below_draws _ w3 nq)));have ho4 := Hd (OwB.below ho3.out (Joins.below_draws _ w3 nq));generalize w3.drewN nq = w4 at hs4 hg4 ho4 ⊢;clear hs3 hg3 ho3 c0 c1 hcell;have c1 := hs4.out.c1;have f1 := hs4.out.frozen 1;have hon : o.length = n := (OwB.bs ho4.out).len
  by_cases jq : x = x0
  ·subst jq;have hcv : ∀ u, (convert 41 9 (.slice A4 n c4)).run Tryz.prog (w4.setCell ⟨b, 1, none⟩ u) = .ok (.string (strOf o)) (w4.setCell ⟨b, 1, none⟩ u) := fun u => Bs.conv (ow_kept ho4.out (grown_set w4 ⟨b, 1, none⟩ u) hbw).bs Tryz.underlying41 Tryz.underlying5 Tryz.underlying9
   go_wp2_with fail;go_ret;have h5 := hs4.out.set1 (q + 1);refine ⟨hg4.out.trans h5.2, ?_⟩;have := hr.out;rw [drop_at hx'.out, valF, if_pos rfl] at this;rw [<- this];refine ⟨rfl, ?_⟩;rw [show k + (q - k + 1) = q + 1 by omega];exact h5.1
  have jq0 : ((x.toNat : Int) == (x0.toNat : Int)) = false := by rw [byte_eq, decide_eq_false jq]
  have jq' := Hd jq;clear jq
  by_cases j6 : x = 60
  ·have j60 : ((x.toNat : Int) == 60) = true := by rw [j6]; rfl
   have j6' := Hd j6;clear j6;go_wp2_with fail;refine (fail_any _ 2 (q : Nat)).mono ?_;rintro e w5 ⟨rfl, rfl⟩;go_wp2_with fail;refine ⟨rfl, hg4.out, ?_⟩;have := hr.out;rw [drop_at hx'.out, valF, if_neg jq'.out, if_pos j6'.out] at this;rw [<- this];exact pan_eq (by omega)
  have j60 : ((x.toNat : Int) == 60) = false := by rw [show (60 : Int) = ((60 : UInt8).toNat : Int) from rfl, byte_eq, decide_eq_false j6]
  have j6' := Hd j6;clear j6
  by_cases j3 : x = 38
  ·have j38 : ((x.toNat : Int) == 38) = true := by rw [j3]; rfl
   have hx38 : S[q]? = some 38 := by rw [<- j3]; exact hx'.out
   have hx38' := Hd hx38;have j3' := Hd j3;clear hx38 j3;go_wp2_with fail;refine (reference_any w4 b S q _ c vo hs4.out hx38'.out hS).mono ?_;rintro e w5 ⟨hg5, hG⟩
   cases hrf : refR (S.drop (q + 1)) with
   | bad ec eo =>
    rw [hrf] at hG;subst hG;go_wp2_with fail;refine ⟨rfl, hg4.out.trans hg5, ?_⟩;have := hr.out;rw [drop_at hx'.out, valF, if_neg jq'.out, if_neg j6'.out, if_pos j3'.out, hrf] at this;rw [<- this];exact pan_eq (by omega)
   | ok v m =>
    rw [hrf] at hG;obtain ⟨rfl, hs5⟩ := hG;have hvl := refR_v hrf;have hml := refR_len hrf;rw [List.length_drop] at hml;have hs5' := Hd hs5;have hg45 := Hd (hg4.out.trans hg5);have ho5 := Hd (ow_kept ho4.out hg5 hbw);have hrf' := Hd hrf;clear hs5 hg5 hrf c1 f1 hs4 hg4 ho4
    go_wp2_with (at_builtin; apply stop_here)
    refine Stop.go (append_string w5 rfl _ _ rfl w.heap.size _ o rfl ho5.out v rfl (by omega) hg45.out.size ?_);intro v6 w6 ho6 hb6;obtain ⟨A6, c6, rfl⟩ := ownsRow_form ho6;have hs6 := h'.out.far hg45.out hs5'.out hb6;have hss6 := Hd hs6.1;have hgg6 := Hd hs6.2;have ho6' := Hd ho6;clear ho6 hb6 hs6 hs5' hg45 ho5;go_wp2_with fail
    go_roundg (S.length - (q + m) + 1)
    case measure => omega
    case rel =>
     refine ⟨q + m, f', (o ++ v).length, c6, A6, o ++ v, by omega, by omega, by omega, by rw [List.length_append, hon], by rw [List.length_append]; omega, Hd (by have := hf.out; omega), Hd ?_, hss6, hgg6, ho6'⟩;have := hr.out;rw [drop_at hx'.out, valF, if_neg jq'.out, if_neg j6'.out, if_pos j3'.out, hrf'.out] at this;simp only at this;rw [Out.shift_shift, <- drop_at hx'.out, List.drop_drop] at this;rw [show q + m - k = q - k + m by omega];exact this
  have j38 : ((x.toNat : Int) == 38) = false := by
   have hj : ¬ x = 38 := j3;rw [show (38 : Int) = ((38 : UInt8).toNat : Int) from rfl, byte_eq, decide_eq_false hj]
  have j3' := Hd j3;clear j3
  have hlin : x = 9 \/ x = 10 \/ x = 13 -> Hid ((valF f' x0 (S.drop (q + line (S.drop q))) (o ++ [32])).shift (q + line (S.drop q) - k) = R) := fun hj => Hd (by
   have := hr.out;rw [drop_at hx'.out, valF, if_neg jq'.out, if_neg j6'.out, if_neg j3'.out, if_pos hj, Out.shift_shift, <- drop_at hx'.out, List.drop_drop] at this;rw [show q + line (S.drop q) - k = q - k + line (S.drop q) by omega]
   exact this)
  have hline : 1 <= line (S.drop q) /\ q + line (S.drop q) <= S.length := by
   have := line_len (c := x) (S.drop (q + 1));rw [<- drop_at hx'.out, List.length_drop] at this;omega
  obtain ⟨LL, hLL⟩ : ∃ LL, line (S.drop q) = LL := ⟨_, rfl⟩;rw [hLL] at hlin hline;have hLL' := Hd hLL;clear hLL
  by_cases j9 : x = 9
  ·have hli := hlin (.inl j9);have k9 : ((x.toNat : Int) == 9) = true := by rw [j9]; rfl
   clear hlin j9;go_wp2_with fail;refine (line_any w4 b S q _ c vo hs4.out hlt hS).mono ?_;rintro e w5 ⟨rfl, hs5, hg5⟩;rw [hLL'.out] at hs5;have hs5' := Hd hs5;have hg45 := Hd (hg4.out.trans hg5);have ho5 := Hd (ow_kept ho4.out hg5 hbw);clear hs5 hg5 c1 f1 hs4 hg4 ho4
   go_wp2_with (at_builtin; apply stop_here)
   refine Stop.go (append_bytes _ 41 5 Tryz.underlying41 info_u8 rfl _ _ rfl w.heap.size _ o rfl (OwB.below ho5.out (below_alloc _ _)) _ _ _ [32] rfl (bs_lit _ _ _ _ _ _ rfl (by decide) rfl) (n + 1) (by rw [hon]) (by omega) (Nat.le_trans hg45.out.size (below_alloc _ _).size) ?_);intro A6 c6 w6 ho6 _ hb6';have hb6 : Below w.heap.size w5 w6 := ((below_alloc w5 _).mono hg45.out.size).trans hb6';have hs6 := h'.out.far hg45.out hs5'.out hb6;have hss6 := Hd hs6.1;have hgg6 := Hd hs6.2;have ho6' := Hd ho6;clear ho6 hb6 hb6' hs6;go_wp2_with fail
   go_roundg (S.length - (q + LL) + 1)
   case measure => omega
   case rel => exact ⟨q + LL, f', n + 1, c6, A6, o ++ [32], by omega, by omega, by omega, rfl, by rw [List.length_append]; simp; omega, Hd (by have := hf.out; omega), hli, hss6, hgg6, ho6'⟩
  have k9 : ((x.toNat : Int) == 9) = false := by rw [show (9 : Int) = ((9 : UInt8).toNat : Int) from rfl, byte_eq, decide_eq_false j9]
  by_cases j10 : x = 10
  ·have hli := hlin (.inr (.inl j10));have k10 : ((x.toNat : Int) == 10) = true := by rw [j10]; rfl
   clear hlin j10 j9;go_wp2_with fail;refine (line_any w4 b S q _ c vo hs4.out hlt hS).mono ?_;rintro e w5 ⟨rfl, hs5, hg5⟩;rw [hLL'.out] at hs5;have hs5' := Hd hs5;have hg45 := Hd (hg4.out.trans hg5);have ho5 := Hd (ow_kept ho4.out hg5 hbw);clear hs5 hg5 c1 f1 hs4 hg4 ho4
   go_wp2_with (at_builtin; apply stop_here)
   refine Stop.go (append_bytes _ 41 5 Tryz.underlying41 info_u8 rfl _ _ rfl w.heap.size _ o rfl (OwB.below ho5.out (below_alloc _ _)) _ _ _ [32] rfl (bs_lit _ _ _ _ _ _ rfl (by decide) rfl) (n + 1) (by rw [hon]) (by omega) (Nat.le_trans hg45.out.size (below_alloc _ _).size) ?_);intro A6 c6 w6 ho6 _ hb6';have hb6 : Below w.heap.size w5 w6 := ((below_alloc w5 _).mono hg45.out.size).trans hb6';have hs6 := h'.out.far hg45.out hs5'.out hb6;have hss6 := Hd hs6.1;have hgg6 := Hd hs6.2;have ho6' := Hd ho6;clear ho6 hb6 hb6' hs6;go_wp2_with fail
   go_roundg (S.length - (q + LL) + 1)
   case measure => omega
   case rel => exact ⟨q + LL, f', n + 1, c6, A6, o ++ [32], by omega, by omega, by omega, rfl, by rw [List.length_append]; simp; omega, Hd (by have := hf.out; omega), hli, hss6, hgg6, ho6'⟩
  have k10 : ((x.toNat : Int) == 10) = false := by rw [show (10 : Int) = ((10 : UInt8).toNat : Int) from rfl, byte_eq, decide_eq_false j10]
  by_cases j13 : x = 13
  ·have hli := hlin (.inr (.inr j13));have k13 : ((x.toNat : Int) == 13) = true := by rw [j13]; rfl
   clear hlin j13 j10 j9;go_wp2_with fail;refine (line_any w4 b S q _ c vo hs4.out hlt hS).mono ?_;rintro e w5 ⟨rfl, hs5, hg5⟩;rw [hLL'.out] at hs5;have hs5' := Hd hs5;have hg45 := Hd (hg4.out.trans hg5);have ho5 := Hd (ow_kept ho4.out hg5 hbw);clear hs5 hg5 c1 f1 hs4 hg4 ho4
   go_wp2_with (at_builtin; apply stop_here)
   refine Stop.go (append_bytes _ 41 5 Tryz.underlying41 info_u8 rfl _ _ rfl w.heap.size _ o rfl (OwB.below ho5.out (below_alloc _ _)) _ _ _ [32] rfl (bs_lit _ _ _ _ _ _ rfl (by decide) rfl) (n + 1) (by rw [hon]) (by omega) (Nat.le_trans hg45.out.size (below_alloc _ _).size) ?_);intro A6 c6 w6 ho6 _ hb6';have hb6 : Below w.heap.size w5 w6 := ((below_alloc w5 _).mono hg45.out.size).trans hb6';have hs6 := h'.out.far hg45.out hs5'.out hb6;have hss6 := Hd hs6.1;have hgg6 := Hd hs6.2;have ho6' := Hd ho6;clear ho6 hb6 hb6' hs6;go_wp2_with fail
   go_roundg (S.length - (q + LL) + 1)
   case measure => omega
   case rel => exact ⟨q + LL, f', n + 1, c6, A6, o ++ [32], by omega, by omega, by omega, rfl, by rw [List.length_append]; simp; omega, Hd (by have := hf.out; omega), hli, hss6, hgg6, ho6'⟩
  have k13 : ((x.toNat : Int) == 13) = false := by rw [show (13 : Int) = ((13 : UInt8).toNat : Int) from rfl, byte_eq, decide_eq_false j13]
  have hrr : Hid ((valF f' x0 (S.drop (q + 1)) (o ++ [x])).shift (q + 1 - k) = R) := Hd (by
   have := hr.out;rw [drop_at hx'.out, valF, if_neg jq'.out, if_neg j6'.out, if_neg j3'.out, if_neg (by rintro (h | h | h); exact j9 h; exact j10 h; exact j13 h), Out.shift_shift] at this;rw [show q + 1 - k = q - k + 1 by omega]
   exact this)
  clear hlin j9 j10 j13
  go_wp2_with (at_builtin; apply stop_here)
  refine Stop.go (append_bytes _ 41 5 Tryz.underlying41 info_u8 rfl _ _ rfl w.heap.size _ o rfl (OwB.below ho4.out (below_alloc _ _)) _ _ _ [x] rfl (bs_lit _ _ _ _ _ _ rfl (by decide) rfl) (n + 1) (by rw [hon]) (by omega) (Nat.le_trans hg4.out.size (below_alloc _ _).size) ?_);intro A6 c6 w6 ho6 _ hb6';have hb6 : Below w.heap.size w4 w6 := ((below_alloc w4 _).mono hg4.out.size).trans hb6';have hs6 := h'.out.far hg4.out hs4.out hb6;have hss6 := Hd hs6.1;have hgg6 := Hd hs6.2;have ho6' := Hd ho6;clear ho6 hb6 hb6' hs6;have d1 := hss6.out.c1;have e1 := hss6.out.frozen 1;go_wp2_with fail;have h7 := hss6.out.set1 (q + 1);have hg7 := hgg6.out.trans h7.2;have ho7 := ow_kept ho6'.out (grown_set w6 ⟨b, 1, none⟩ (.int .i64 ((q + 1 : Nat) : Int))) hbw
  go_roundg (S.length - (q + 1) + 1)
  case measure => omega
  case rel => exact ⟨q + 1, f', n + 1, c6, A6, o ++ [x], by omega, by omega, by omega, rfl, by rw [List.length_append]; simp; omega, Hd (by have := hf.out; omega), hrr, Hd h7.1, Hd hg7, Hd ho7⟩
end
end Go.Proofs.YtokdnhdfmgfkeaaGreatDoor.Xl
end

section
namespace Go.Proofs.YtokdnhdfmgfkeaaGreatDoor.Xp
open Go.RowKit UtfW Xl
structure Pr (b : Nat) (v : Value) (l : Tx) (w : World) : Prop where
 blk : ∃ p, w.heap[b]? = some (.cells #[p, v] 71) /\ (p = .pointer none \/ p = .pointer (some ⟨b, 0, none⟩))
 own : OwB w b 5 v l
 ne : v.ownBlock ≠ some b
 nil : l = [] -> v = .slice none 0 0
structure Wk (b : Nat) (v : Value) (w : World) (v' : Value) (w' : World) : Prop where
 bel : Below b w w'
 keep : ∀ k, k < w.heap.size -> k ≠ b -> v.ownBlock ≠ some k -> w'.heap[k]? = w.heap[k]?
 row : v'.ownBlock = v.ownBlock \/ ∀ k, v'.ownBlock = some k -> w.heap.size <= k
section
variable {b : Nat} {v v' v'' : Value} {l : Tx} {w w' w'' : World}
theorem Pr.lt (h : Pr b v l w) : b < w.heap.size := by
 obtain ⟨p, h1, _⟩ := h.blk;exact (Array.getElem?_eq_some_iff.1 h1).1
theorem Pr.below (h : Pr b v l w) (hb : Below w.heap.size w w') : Pr b v l w' := by
 obtain ⟨p, h1, h2⟩ := h.blk;exact ⟨⟨p, (hb.block b h.lt).trans h1, h2⟩, h.own.below hb, h.ne, h.nil⟩
theorem Wk.refl (b : Nat) (v : Value) (w : World) : Wk b v w v w := ⟨Below.refl _ _, fun _ _ _ _ => rfl, .inl rfl⟩
theorem Wk.below (hb : Below w.heap.size w w') (hB : b <= w.heap.size) : Wk b v w v w' := ⟨hb.mono hB, fun k hk _ _ => hb.block k hk, .inl rfl⟩
theorem Wk.trans (h : Wk b v w v' w') (h' : Wk b v' w' v'' w'') : Wk b v w v'' w'' := by
 refine ⟨h.bel.trans h'.bel, fun k hk h1 h2 => ?_, ?_⟩
 ·rw [h'.keep k (Nat.lt_of_lt_of_le hk h.bel.size) h1 (fun e => ?_), h.keep k hk h1 h2];rcases h.row with e2 | e2
  ·exact h2 (e2 ▸ e)
  ·have := e2 k e;omega
 ·rcases h'.row with e | e
  ·rcases h.row with e2 | e2
   ·exact .inl (e.trans e2)
   ·exact .inr fun k hk => e2 k (e ▸ hk)
  ·exact .inr fun k hk => Nat.le_trans h.bel.size (e k hk)
theorem Wk.box (h : Wk b v w v' w') {T : Nat} {x : Obj} (hT : w.heap[T]? = some x) (h1 : T ≠ b) (h2 : v.ownBlock ≠ some T) : w'.heap[T]? = some x :=
 (h.keep T (Array.getElem?_eq_some_iff.1 hT).1 h1 h2).trans hT
theorem Pr.row_lt (h : Pr b v l w) : ∀ k, v.ownBlock = some k -> b <= k /\ k < w.heap.size := h.own.lt
theorem Pr.ne_new (h : Pr b v l w) {T : Nat} (hT : w.heap.size <= T) : v.ownBlock ≠ some T /\ T ≠ b := ⟨fun e => by have := (h.row_lt T e).2; omega, by have := h.lt; omega⟩
end
theorem pr_new (w : World) : Pr w.heap.size (.slice none 0 0) [] (w.alloc (.cells #[.pointer none, .slice none 0 0] 71)) :=
 ⟨⟨_, heap_alloc_new w _, .inl rfl⟩, OwB.nil _ _ _, by simp [Value.ownBlock], fun _ => rfl⟩
/-! ### The builder's methods at a printer -/
theorem sizeB : (Tryz.prog.info? 69).map (·.size) = some 2 := by kernel_rfl
theorem liesB : liesAt Tryz.prog Tryz.prog.depth 71 (2 / Tryz.prog.cellsOf 71) 0 69 1 = true := by kernel_rfl
set_option maxHeartbeats 1000000 in
set_option maxRecDepth 100000 in
theorem copy_used (b : Nat) (w : World) (h0 : w.cell? ⟨b, 0, none⟩ = some (.pointer (some ⟨b, 0, none⟩))) :
  Calls Tryz.prog 113 #[.pointer (some ⟨b, 0, none⟩)] w fun e w' => e = .returned (.tuple #[]) /\ w' = w := by
 obtain ⟨j, hj, _⟩ := Option.map_eq_some_iff.1 sizeB
 go_enter Tryz.func113, Tryz.ntmps113
 go_wp2_with fail;rw [Lib.run_neq_ptr_same w _ Tryz.underlying67 hj];go_wp2_with fail
 go_end0
 exact ⟨rfl, rfl⟩
set_option maxHeartbeats 1000000 in
set_option maxRecDepth 100000 in
theorem copy_fresh (b : Nat) (w : World) (h0 : w.cell? ⟨b, 0, none⟩ = some (.pointer none)) (hsh : w.shape? b = some (71, 2)) (hfz : w.frozen? ⟨b, 0, none⟩ = false) :
  Calls Tryz.prog 113 #[.pointer (some ⟨b, 0, none⟩)] w fun e w' => e = .returned (.tuple #[]) /\ w' = w.setCell ⟨b, 0, none⟩ (.pointer (some ⟨b, 0, none⟩)) := by
 obtain ⟨j, hj, hjs⟩ := Option.map_eq_some_iff.1 sizeB;have hj' := Hd hj;have hsh' := Hd hsh;clear hsh
 go_enter Tryz.func113, Tryz.ntmps113
 go_wp2_with fail;rw [Lib.run_to_unsafe w ⟨b, 0, none⟩ Tryz.underlying67 Tryz.underlying119 hj'.out (by rw [hjs]; decide) hsh'.out (Nat.zero_lt_succ 1)];simp only [Result.andThen];rw [Oper.upon_value];go_wp2_with fail;rw [run_callFunc_extern Tryz.func151 (by kernel_rfl) (by kernel_rfl) (by kernel_rfl) (e := Extern.AbiNoEscape.same) (by kernel_rfl)];rw [Lib.run_noEscape];simp only [Result.andThen];rw [Oper.upon_value];go_wp2_with fail;rw [Lib.run_from_unsafe w ⟨b, 0, none⟩ Tryz.underlying119 Tryz.underlying67 hj'.out hsh'.out liesB];simp only [Result.andThen];rw [Oper.upon_value];go_wp2_with fail
 go_end0
 exact ⟨rfl, rfl⟩
end Go.Proofs.YtokdnhdfmgfkeaaGreatDoor.Xp
end

section
namespace Go.Proofs.YtokdnhdfmgfkeaaGreatDoor.Xp
open Go.RowKit UtfW Xl
theorem cell_blk {w : World} {b i : Nat} {cs : Array Value} {E : TypeId} {v : Value} (h : w.heap[b]? = some (.cells cs E)) (hi : cs[i]? = some v) : w.cell? ⟨b, i, none⟩ = some v := by
 simp only [World.cell?, h]
 simpa using hi
theorem tr_ {a b c : World} (h : RowKit.Hid (Below a.heap.size a b)) (g : Below b.heap.size b c) : RowKit.Hid (Below a.heap.size a c) := Hd (h.out.trans (g.mono h.out.size))
theorem tu_ {a b c : World} (h : RowKit.Hid (Below a.heap.size a b)) (g : RowKit.Hid (Below b.heap.size b c)) : RowKit.Hid (Below a.heap.size a c) := tr_ h g.out
theorem cz5 {w : World} {b : Nat} {a0 a1 a2 a3 a4 : Value} {E : TypeId} (h : w.heap[b]? = some (.cells #[a0, a1, a2, a3, a4] E)) : w.cell? ⟨b, 0, none⟩ = some a0 /\ w.cell? ⟨b, 1, none⟩ = some a1 /\ w.cell? ⟨b, 2, none⟩ = some a2 /\ w.cell? ⟨b, 3, none⟩ = some a3 /\ w.cell? ⟨b, 4, none⟩ = some a4 := ⟨Xp.cell_blk h rfl, Xp.cell_blk h rfl, Xp.cell_blk h rfl, Xp.cell_blk h rfl, Xp.cell_blk h rfl⟩
theorem cz7 {w : World} {b : Nat} {a0 a1 a2 a3 a4 a5 a6 : Value} {E : TypeId} (h : w.heap[b]? = some (.cells #[a0, a1, a2, a3, a4, a5, a6] E)) : w.cell? ⟨b, 0, none⟩ = some a0 /\ w.cell? ⟨b, 1, none⟩ = some a1 /\ w.cell? ⟨b, 2, none⟩ = some a2 /\ w.cell? ⟨b, 3, none⟩ = some a3 /\ w.cell? ⟨b, 4, none⟩ = some a4 /\ w.cell? ⟨b, 5, none⟩ = some a5 /\ w.cell? ⟨b, 6, none⟩ = some a6 := ⟨Xp.cell_blk h rfl, Xp.cell_blk h rfl, Xp.cell_blk h rfl, Xp.cell_blk h rfl, Xp.cell_blk h rfl, Xp.cell_blk h rfl, Xp.cell_blk h rfl⟩
theorem run_append_str (w : World) (B : Nat) (v : Value) (la lb : Tx) (hown : OwB w B 5 v la) (hsz : la.length + lb.length <= 140737488355328) (hB : B <= w.heap.size) (ty : TypeId) :
  ∃ v' w', (Builtin.append_ #[41, 9] ty #[v, .string (strOf lb)]).run Tryz.prog w = .ok v' w' /\ OwB w' B 5 v' (la ++ lb) /\ w.grownBy w' v.ownBlock /\ (v'.ownBlock = v.ownBlock \/ v'.ownBlock = some w.heap.size) /\ (v = .slice none 0 0 -> lb = [] -> v' = .slice none 0 0) := by
 have hsl : (strOf lb).size = lb.length := strOf_size' lb;obtain ⟨i, hi, hz, hs1, hb1⟩ := info_parts info_u8;obtain ⟨v', w', hr, h1, h2, h3⟩ := Lib.run_append_own_string (P := Tryz.prog) w B 41 9 ty 5 i Tryz.underlying41 Tryz.underlying9 hi hz hs1 hb1 v la.length (bv la) hown (strOf lb) (by unfold maxLen; omega) (by omega) hB;refine ⟨v', w', hr, ?_, h2, ?_, fun e1 e2 => h3.2 ⟨e1, by rw [hsl, e2]; rfl⟩⟩
 ·unfold OwB;rw [bv_append, List.length_append, <- hsl]
  have e : Lib.strCells (strOf lb) = bv lb := by
   unfold Lib.strCells bv strOf;rfl
  rw [<- e];exact h1
 ·rcases hown.2 with ⟨rfl, hn⟩ | ⟨g, cap, cur, rfl, hbg, hg, hnc, hcm, hcs, htake⟩
  ·obtain ⟨v2, w2, hr2, h4, _, _⟩ := Lib.run_append_own_string (P := Tryz.prog) w w.heap.size 41 9 ty 5 i Tryz.underlying41 Tryz.underlying9 hi hz hs1 hb1 (.slice none 0 0) 0 [] (World.ownsRow_nil w w.heap.size _ 1) (strOf lb) (by unfold maxLen; omega) (by omega) (Nat.le_refl _);rw [hr] at hr2;injection hr2 with e1 e2;subst e1 e2;rcases h4.2 with ⟨rfl, _⟩ | ⟨g, cap, cur, rfl, hbg, hg, _⟩
   ·exact .inl rfl
   ·refine .inr ?_;have hlt : g < w'.heap.size := (Array.getElem?_eq_some_iff.1 hg).1
    by_cases hm : (strOf lb).size = 0
    ·have := h3.2 ⟨rfl, hm⟩
     cases this
    ·have hrn := run_append_nil_string (P := Tryz.prog) w 41 9 ty 5 i (.int .u8 0) Tryz.underlying41 Tryz.underlying9 hi hz (strOf lb) (by omega) (by omega) (by rw [hb1]; omega);rw [hr] at hrn;have e1 := congrArg (fun r : Result Value => match r with | .ok v _ => v.ownBlock | _ => none) hrn;exact e1
  ·by_cases hroom : la.length + (strOf lb).size <= cap
   ·have hr2 := Lib.run_append_room_string (P := Tryz.prog) w 41 9 ty 5 i Tryz.underlying41 Tryz.underlying9 hi hs1 g la.length cap cur hg (strOf lb) hroom (by have : cur.size = cap * 1 := hcs; omega);rw [hr] at hr2;injection hr2 with e1 e2;rw [e1];exact .inl rfl
   ·have hr2 := Lib.run_append_grow_string (P := Tryz.prog) w 41 9 ty 5 i (.int .u8 0) Tryz.underlying41 Tryz.underlying9 hi hz ⟨g, 0, none⟩ la.length cap (bv la) (by rw [hs1]; exact hown.1) (World.ownsRow.cells (g := g) hown rfl) (strOf lb) (by omega) (by omega) (by rw [hb1]; exact growslice_fits (by omega) (by omega));rw [hr] at hr2;injection hr2 with e1 e2;rw [e1];exact .inr rfl
theorem append_str {ops : Array Oper} {rest : List Oper} {o : Oper} {a : Act} {Q : Exit -> Act -> World -> Prop} (w : World) (hgd : o.guard = none) (s x : Operand)
  (ho : o.op = .call { callee := .builtin .append, args := #[s, x], argTypes := #[41, 9] })
  (B : Nat) (v : Value) (la : Tx) (hs : a.eval s = v) (hown : OwB w B 5 v la) (lb : Tx) (hx : a.eval x = .string (strOf lb))
  (hsz : la.length + lb.length <= 140737488355328) (hB : B <= w.heap.size)
  (h : ∀ v' w', OwB w' B 5 v' (la ++ lb) -> w.grownBy w' v.ownBlock -> (v'.ownBlock = v.ownBlock \/ v'.ownBlock = some w.heap.size) -> (v = .slice none 0 0 -> lb = [] -> v' = .slice none 0 0) -> wpList Tryz.prog ops Q rest (a.put o.dst v') w') :
  wpList Tryz.prog ops Q (o :: rest) a w := by
 refine wpList_plain hgd fun K hK => ?_
 obtain ⟨v', w', hr, h1, h2, h3, h4⟩ := run_append_str w B v la lb hown hsz hB o.type;unfold Oper.wp execOp;simp only [ho, resolve, invoke, builtin, Sem.run_bind, Sem.run_pure, Result.andThen_ok, List.map_toArray, List.map_cons, List.map_nil, hs, hx, hr];exact hK _ _ (h v' w' h1 h2 h3 h4)
set_option maxHeartbeats 1000000 in
set_option maxRecDepth 100000 in
theorem write_any (b : Nat) (v : Value) (l s : Tx) (w : World) (h : Pr b v l w) (hlen : l.length + s.length <= 100000000000000) :
  Calls Tryz.prog 79 #[.pointer (some ⟨b, 0, none⟩), .string (strOf s)] w fun e w' => (∃ r, e = .returned r) /\ ∃ v', Pr b v' (l ++ s) w' /\ Wk b v w v' w' := by
 have hlt := h.lt
 have hcc : Calls Tryz.prog 113 #[.pointer (some ⟨b, 0, none⟩)] w fun e w' => e = .returned (.tuple #[]) /\ (w'.heap[b]? = some (.cells #[.pointer (some ⟨b, 0, none⟩), v] 71) /\ OwB w' b 5 v l /\ Wk b v w v w') := by
  obtain ⟨p, h1, h2⟩ := h.blk;rcases h2 with rfl | rfl
  ·refine (copy_fresh b w (cell_blk h1 (i := 0) rfl) (by simp [World.shape?, h1]) (frozen_of_row w b 0 _ _ h1)).mono ?_;rintro e w' ⟨rfl, rfl⟩;have hg := grown_set w ⟨b, 0, none⟩ (.pointer (some ⟨b, 0, none⟩));have hw : Wk b v w v (w.setCell ⟨b, 0, none⟩ (.pointer (some ⟨b, 0, none⟩))) := ⟨(Below.refl b w).grown hg (Nat.le_of_lt hlt) (fun k hk => by injection hk with hk; rw [<- hk]; exact Nat.le_refl _), fun k hk h3 _ => hg.block k hk (fun e => by injection e with e; exact h3 e), .inl rfl⟩;refine ⟨rfl, blk_setCell h1 _, ?_, hw⟩;exact World.ownsRow.kept h.own hg (.inr h.ne)
  ·refine (copy_used b w (cell_blk h1 (i := 0) rfl)).mono ?_;rintro e w' ⟨rfl, rfl⟩;exact ⟨rfl, h1, h.own, Wk.refl _ _ _⟩
 have hne := h.ne;have hnilH := Hd h.nil;have hcH := Hd hcc;have hneH := Hd hne;clear hcc h hne hlt
 go_enter Tryz.func79, Tryz.ntmps79
 go_wp2_with fail;refine hcH.out.mono ?_;rintro e w1 ⟨rfl, hbk, hown, hwk⟩;have c1 : w1.cell? ⟨b, 1, none⟩ = some v := cell_blk hbk rfl;have hlt := (Array.getElem?_eq_some_iff.1 hbk).1;have hbkH := Hd hbk;have hwkH := Hd hwk;have hown := Hd hown;clear hbk hwk hcH
 go_wp2_with (at_builtin; apply stop_here)
 refine Stop.go (append_str w1 rfl _ _ rfl b v l rfl hown.out s rfl (by omega) (by omega) ?_);intro v' w2 ho hg hv hnl
 obtain ⟨ao, n', cap, rfl⟩ : ∃ ao n' cap, v' = .slice ao n' cap := by
  rcases ho.2 with ⟨h1, _⟩ | ⟨g, cap, cur, h1, _⟩
  ·exact ⟨_, _, _, h1⟩
  ·exact ⟨_, _, _, h1⟩
 have hb2 : w2.heap[b]? = some (.cells #[.pointer (some ⟨b, 0, none⟩), v] 71) := (hg.block b hlt (fun e => hneH.out e.symm)).trans hbkH.out;have d1 : w2.cell? ⟨b, 1, none⟩ = some v := cell_blk hb2 rfl;have f1 := frozen_of_row w2 b 1 _ _ hb2;have hs2 := hg.size;have hg3 := grown_set w2 ⟨b, 1, none⟩ (.slice ao n' cap);have ho' : OwB w2 b 5 (.slice ao n' cap) (l ++ s) := ho
 have hne' : (Value.slice ao n' cap).ownBlock ≠ some b := fun e => by
  rcases hv with hv | hv
  ·exact hneH.out (hv ▸ e)
  ·rw [hv] at e;injection e with e;omega
 have hfin : Hid (Pr b (.slice ao n' cap) (l ++ s) (w2.setCell ⟨b, 1, none⟩ (.slice ao n' cap)) /\ Wk b v w (.slice ao n' cap) (w2.setCell ⟨b, 1, none⟩ (.slice ao n' cap))) := Hd (by
  refine ⟨⟨⟨_, blk_setCell hb2 _, .inr rfl⟩, World.ownsRow.kept ho' hg3 (.inr hne'), hne', fun e => hnl (hnilH.out (List.append_eq_nil_iff.1 e).1) (List.append_eq_nil_iff.1 e).2⟩, hwkH.out.trans ?_⟩;refine ⟨((Below.refl b w1).grown hg (Nat.le_of_lt hlt) (fun k hk => (hown.out.lt k hk).1)).grown hg3 (by omega) (fun k hk => by injection hk with hk; rw [<- hk]; exact Nat.le_refl _), fun k hk h1 h2 => ?_, ?_⟩
  ·rw [hg3.block k (by omega) (fun e => by injection e with e; exact h1 e), hg.block k hk (fun e => h2 e.symm)]
  ·rcases hv with hv | hv
   ·exact .inl hv
   ·exact .inr fun k hk => by rw [hv] at hk; injection hk with hk; omega)
 clear ho hg hv hnl hnilH hb2 hs2 hg3 ho' hne' hown hwkH hbkH;go_wp2_with fail
 go_ret2
 exact ⟨⟨_, rfl⟩, _, hfin.out⟩
end Go.Proofs.YtokdnhdfmgfkeaaGreatDoor.Xp
end

section
namespace Go.Proofs.YtokdnhdfmgfkeaaGreatDoor.Xp
open Go.RowKit UtfW Xl Xo Xt
open Go.Maps (Keyed)
def smA (as_ : List At) : Prop := as_.length <= 1000000 /\ ∀ a ∈ as_, a.1.length <= 1000000 /\ a.2.length <= 1000000
def Seen (w : World) (M n : Nat) (l : List Tx) : Prop := ∃ D : DataW Unit, w.ownsMap Tryz.prog 9 (plainElem Tryz.prog 3) M n D /\ Maps.IsMap D /\ ∀ s : Tx, D.atKey (.string s) (.lit (.int .i64 0)) = .lit (.int .i64 (if s ∈ l then 1 else 0))
theorem Seen.kept {w w' : World} {M n : Nat} {l : List Tx} (h : Seen w M n l) (hb : w'.heap[M]? = w.heap[M]?) : Seen w' M n l := by
 obtain ⟨D, ⟨es, ck, h1, h2, h3, h4⟩, h5, h6⟩ := h;exact ⟨D, ⟨es, ck, hb.trans h1, h2, h3, h4⟩, h5, h6⟩
theorem Seen.lt {w : World} {M n : Nat} {l : List Tx} (h : Seen w M n l) : M < w.heap.size := by
 obtain ⟨D, h1, _⟩ := h;exact h1.lt
theorem key_str (s : Tx) (hs : s.length <= 1000000) : keyOf Tryz.prog 9 (.string (strOf s)) = some (.string s) := by
 have := WideMaps.keyOf_string_mk (P := Tryz.prog) (k := 9) Tryz.underlying9 (s := strOf s) (by rw [strOf_size']; unfold maxLen; omega);rw [this];simp [strOf]
theorem keyedS : Keyed Tryz.prog 9 := Maps.string_keyed Tryz.underlying9
theorem zeroInt (w : World) : (zeroValue 3).run Tryz.prog w = .ok (.int .i64 0) w := by kernel_rfl
set_option maxRecDepth 100000 in
theorem Seen.look {w : World} {M n : Nat} {l : List Tx} (h : Seen w M n l) (s : Tx) (hs : s.length <= 1000000) : (Instr.lookup 102 (.map (some M)) (.string (strOf s)) false).run Tryz.prog w = .ok (.int .i64 (if s ∈ l then 1 else 0)) w := by
 obtain ⟨D, h1, h2, h3⟩ := h;obtain ⟨c, hrun, hat, hwc⟩ := h1.lookup_int keyedS Tryz.underlying102 Tryz.underlying3 (zeroInt w) (key_str s hs);rw [h3] at hat;injection hat with hat;injection hat with _ hat;rw [hrun, hat]
set_option maxRecDepth 100000 in
theorem Seen.put {w : World} {M n : Nat} {l : List Tx} (h : Seen w M n l) (s : Tx) (hs : s.length <= 1000000) (hn : n <= 1000000) (v : Int) (hv : (Lit.int .i64 v).wf = true) :
  ∃ w', (Instr.mapUpdate 102 (.map (some M)) (.string (strOf s)) (.int .i64 v)).run Tryz.prog w = .ok () w' /\ w.grownBy w' (some M) /\ (∀ x : Tx, x.length <= 1000000 -> (Instr.lookup 102 (.map (some M)) (.string (strOf x)) false).run Tryz.prog w' = .ok (.int .i64 (if x = s then v else if x ∈ l then 1 else 0)) w') ∧
   (v = 1 -> Seen w' M (n + 1) (l ++ [s])) := by
 obtain ⟨D, h1, h2, h3⟩ := h;obtain ⟨w', hrun, ho, hg⟩ := h1.update (val := .int .i64 v) keyedS Tryz.underlying102 (by unfold maxLen; omega) (key_str s hs) (plainElem_int Tryz.underlying3 hv)
 have hat : ∀ x : Tx, (D.put (.string s) (.lit (.int .i64 v))).atKey (.string x) (.lit (.int .i64 0)) = .lit (.int .i64 (if x = s then v else if x ∈ l then 1 else 0)) := fun x => by
  by_cases hx : x = s
  ·subst hx;rw [if_pos rfl, Maps.atKey_put_same h2 (by simp [WideAt.IsKeyLit])]
  ·rw [if_neg hx, Maps.atKey_put_other (by intro e; injection e with e; exact hx e), h3]
 refine ⟨w', hrun, hg, fun x hx => ?_, fun e => ⟨_, ho, h2.put _ _, fun x => ?_⟩⟩
 ·obtain ⟨c, hrun2, hat2, _⟩ := ho.lookup_int keyedS Tryz.underlying102 Tryz.underlying3 (zeroInt w') (key_str x hx);rw [hat] at hat2;injection hat2 with hat2;injection hat2 with _ hat2;rw [hrun2, hat2]
 ·rw [hat, e]
  congr 2
  by_cases hx : x = s
  ·subst hx;simp
  ·rw [if_neg hx];simp [hx]
theorem seen_new (w : World) : Seen (w.alloc (.map #[] 0)) w.heap.size 0 [] :=
 ⟨.map [], World.ownsMap_made w _ _ _, Maps.isMap_empty, fun s => rfl⟩
theorem attrsOk_at {seen : List Tx} {l : List At} {i : Nat} {a : At} (h : l[i]? = some a) : attrsOk seen (l.drop i) = (nameR a.1 && good a.2 && decide (a.1 ∉ seen) && attrsOk (seen ++ [a.1]) (l.drop (i + 1))) := by
 obtain ⟨hl, e⟩ := List.getElem?_eq_some_iff.1 h;rw [List.drop_eq_getElem_cons hl, e, attrsOk]
set_option maxHeartbeats 4000000 in
set_option maxRecDepth 100000 in
theorem attrs_any (w : World) (hU : Uv w) (A : Option Addr) (n c : Nat) (as_ : List At) (hS : Sq AtEl 2 w A n c as_) (hsm : smA as_) :
  Calls Tryz.prog 43 #[.slice A n c] w fun e w' => e = .returned (.bool (attrsOk [] as_)) /\ Below w.heap.size w w' := by
 have hln := hS.len;have hn9 : n <= 1000000 := by rw [<- hln]; exact hsm.1
 have hmm := @run_makeMap Tryz.prog;obtain ⟨M, hM⟩ : ∃ M, w.heap.size = M := ⟨_, rfl⟩;obtain ⟨w1, hw1⟩ : ∃ w1, w.alloc (.map #[] 0) = w1 := ⟨_, rfl⟩;have hs0 := seen_new w;have hba := below_alloc w (.map #[] 0);rw [hw1] at hs0 hba;rw [hM] at hs0;have hM' := Hd hM;have hs0' := Hd hs0;have hba' := Hd hba;have hU' := Hd hU;have hS' := Hd hS;have hsm' := Hd hsm;have hln' := Hd hln;obtain ⟨R, hR⟩ : ∃ R, attrsOk [] as_ = R := ⟨_, rfl⟩;rw [hR];have hR' := Hd hR;clear hs0 hba hU hS hsm hln hR
 go_enter Tryz.func43, Tryz.ntmps43
 go_wp2_with fail;clear hM hw1 hmm
 go_loopw [9] (fun vi wr => ∃ i : Nat, i <= n /\ vi = .int .i64 (i : Nat) /\ Hid (Seen wr M i ((as_.take i).map (·.1)) /\ attrsOk ((as_.take i).map (·.1)) (as_.drop i) = R) /\ Hid (Below w.heap.size w wr)) (fun vi _ => n - (intOf vi).toNat)
 case atStart => exact ⟨0, Nat.zero_le _, rfl, Hd ⟨hs0'.out, hR'.out⟩, hba'⟩
 case round =>
  obtain ⟨i, hi, rfl, hst, hb⟩ := hrel
  by_cases hlt : i < n
  ·have i1 : decide ((i : Int) < (n : Int)) = true := by simp; omega
   have q1 : (i : Int) < (n : Int) := by omega
   have hi9 : i <= 1000000 := by omega
   obtain ⟨hseen, hok⟩ := hst.out;obtain ⟨b1, off1, ax, vs1, rfl, _, hx1, _, hv1, hc1⟩ := (hS'.out.below AtEl.to hb.out).at_ hlt;unfold AtEl at hv1;subst hv1;obtain ⟨z1, z2⟩ := hsm'.out.2 ax (List.mem_of_getElem? hx1);rw [attrsOk_at hx1] at hok;have htk : (as_.take (i + 1)).map (·.1) = (as_.take i).map (·.1) ++ [ax.1] := by rw [take_snoc hx1, List.map_append]; rfl
   obtain ⟨a1, a2⟩ := ax;simp only at hok htk z1 z2;obtain ⟨L, hL⟩ : ∃ L, (as_.take i).map (·.1) = L := ⟨_, rfl⟩;rw [hL] at hok htk hseen;have m0 := hc1 0 _ rfl;have m1 := hc1 1 _ rfl;rw [Nat.add_zero] at m0;have hbt := below_alloc wr (.cells #[.string (strOf a1), .string (strOf a2)] 55);have hnt := heap_alloc_new wr (.cells #[.string (strOf a1), .string (strOf a2)] 55);have hMl := hseen.lt;obtain ⟨T5, hT5⟩ : ∃ T5, wr.heap.size = T5 := ⟨_, rfl⟩;obtain ⟨wa, hwa⟩ : ∃ wa, wr.alloc (.cells #[.string (strOf a1), .string (strOf a2)] 55) = wa := ⟨_, rfl⟩;rw [hwa] at hbt hnt;rw [hT5] at hnt hMl;have hsa : Seen wa M i L := hseen.kept (hbt.block M (by rw [hT5]; exact hMl));have y0 : wa.cell? ⟨T5, 0, none⟩ = some (.string (strOf a1)) := Xp.cell_blk hnt rfl;have hlk := hsa.look a1 z1;have hba5 := hb.out.trans (hbt.mono hb.out.size)
   by_cases hin : a1 ∈ L
   ·obtain ⟨w5, hup, hg, hl2, _⟩ := hsa.put a1 z1 hi9 2 (by decide);have hl3 := hl2 a1 z1;rw [if_pos rfl] at hl3;rw [if_pos hin] at hlk;have hT : w5.heap[T5]? = some (.cells #[.string (strOf a1), .string (strOf a2)] 55) := (hg.block T5 (Array.getElem?_eq_some_iff.1 hnt).1 (fun e => by injection e with e; omega)).trans hnt;have u0 : w5.cell? ⟨T5, 0, none⟩ = some (.string (strOf a1)) := Xp.cell_blk hT rfl;have hRf : Hid (R = false) := Hd (by rw [<- hok]; simp [hin]);have hfin : Hid (Below w.heap.size w w5) := Hd (hba5.grown hg hba5.size (fun k hk => by injection hk with hk; rw [<- hk, hM'.out]; exact Nat.le_refl _));clear hst hseen hok hc1 hx1 htk hbt hnt hsa hl2 hT hg hba5 hin z1 z2 hL;go_wp2_with fail
    (try simp only [Exit.inBlock, Exit.then])
    go_ret;exact ⟨by rw [hRf.out]; rfl, hfin.out⟩
   ·obtain ⟨w5, hup, hg, hl2, hs2⟩ := hsa.put a1 z1 hi9 1 (by decide);have hl3 := hl2 a1 z1;rw [if_pos rfl] at hl3;rw [if_neg hin] at hlk;have hT : w5.heap[T5]? = some (.cells #[.string (strOf a1), .string (strOf a2)] 55) := (hg.block T5 (Array.getElem?_eq_some_iff.1 hnt).1 (fun e => by injection e with e; omega)).trans hnt;have u0 : w5.cell? ⟨T5, 0, none⟩ = some (.string (strOf a1)) := Xp.cell_blk hT rfl;have hb5 : Below w.heap.size w w5 := hba5.grown hg hba5.size (fun k hk => by injection hk with hk; rw [<- hk, hM'.out]; exact Nat.le_refl _);have hs5 : Hid (Seen w5 M (i + 1) ((as_.take (i + 1)).map (·.1))) := Hd (by rw [htk]; exact hs2 rfl);have hnc := Hd (utfName_any (strOf a1) (by rw [strOf_size']; omega) w5 (hU'.out.below hb5).ut);have e1 : (strOf a1).data.toList = a1 := (by simp [strOf]);rw [e1, name_eq] at hnc;have hgc := Hd (fun (x : World) (hx : Below w5.heap.size w5 x) => good_any x (hU'.out.below (hb5.trans (hx.mono hb5.size))).ut a2 (by omega));rw [show decide (a1 ∉ L) = true by simpa using hin, Bool.and_true] at hok;rw [<- htk] at hok;replace hok := Hd hok;replace hb5 := Hd hb5;have hTH := Hd hT;obtain ⟨NM, hNM⟩ : ∃ b, nameR a1 = b := ⟨_, rfl⟩;obtain ⟨GD, hGD⟩ : ∃ b, good a2 = b := ⟨_, rfl⟩;rw [hNM] at hok hnc;rw [hGD] at hok hgc;clear hst hseen hc1 hx1 htk hbt hnt hsa hl2 hs2 hT hg hba5 hin z1 z2 hL hNM hGD e1;go_wp2_with fail;refine hnc.out.mono ?_;rintro e w6 ⟨rfl, hb6⟩;have hx6 := Xp.tr_ hb5 hb6;have hT6 := (hb6.block T5 (Array.getElem?_eq_some_iff.1 hTH.out).1).trans hTH.out;have v1 : w6.cell? ⟨T5, 1, none⟩ = some (.string (strOf a2)) := Xp.cell_blk hT6 rfl;have hg6 := Hd (hgc.out w6 hb6);have hd6 := Hd hb6;clear hb6 hT6 hnc hgc y0 u0 hlk hl3 hup
    cases NM with
    | false =>
     have hRf : Hid (R = false) := Hd (by rw [<- hok.out]; simp);clear hok;go_wp2_with fail
     (try simp only [Exit.inBlock, Exit.then])
     go_ret;exact ⟨by rw [hRf.out]; rfl, hx6.out⟩
    | true =>
     go_wp2_with fail;refine hg6.out.mono ?_;rintro e w7 ⟨rfl, hb7⟩;have hx7 := Xp.tr_ hx6 hb7;have hs7 := Hd (hs5.out.kept ((hd6.out.trans (hb7.mono hd6.out.size)).block M hs5.out.lt));clear hb7 hg6 v1
     cases GD with
     | false =>
      have hRf : Hid (R = false) := Hd (by rw [<- hok.out]; simp);clear hok;go_wp2_with fail
      (try simp only [Exit.inBlock, Exit.then])
      go_ret;exact ⟨by rw [hRf.out]; rfl, hx7.out⟩
     | true =>
      have hnext : Hid (Seen w7 M (i + 1) ((as_.take (i + 1)).map (·.1)) /\ attrsOk ((as_.take (i + 1)).map (·.1)) (as_.drop (i + 1)) = R) := Hd ⟨hs7.out, by rw [<- hok.out]; simp⟩;clear hok hs7;go_wp2_with fail;go_roundw
      case rel => exact ⟨i + 1, by omega, by go_num, hnext, hx7⟩
      case measure => simp [intOf]; omega
  ·have hie : i = n := by omega
   subst hie;have i1 : decide ((i : Int) < (i : Int)) = false := by simp
   have hRt : Hid (R = true) := Hd (by
    have h9 := hst.out.2;rw [List.drop_eq_nil_of_le (by rw [hln'.out]; exact Nat.le_refl _)] at h9;rw [<- h9]
    rfl)
   clear hst;go_wp2_with fail
   (try simp only [Exit.inBlock, Exit.then])
   go_ret;exact ⟨by rw [hRt.out]; rfl, hb.out⟩
end Go.Proofs.YtokdnhdfmgfkeaaGreatDoor.Xp
end

section
namespace Go.Proofs.YtokdnhdfmgfkeaaGreatDoor.Xp
open Go.RowKit UtfW Xl Xo Xt
mutual
def smN : Nd -> Prop
 | .mk _ nm tx as_ ks => nm.length <= 1000000 /\ tx.length <= 1000000 /\ smA as_ /\ smL ks
def smL : List Nd -> Prop
 | [] => True
 | x :: xs => smN x /\ smL xs
end
theorem smL_mem : ∀ {l : List Nd} {i : Nat} {x : Nd}, smL l -> l[i]? = some x -> smN x
 | [], i, x, _, h => by simp at h
 | y :: l, 0, x, hb, h => by
  rw [smL] at hb;injection h with h;rw [<- h];exact hb.1
 | y :: l, i + 1, x, hb, h => by
  rw [smL] at hb;exact smL_mem hb.2 h
theorem smL_of : ∀ {l : List Nd}, (∀ (i : Nat) x, l[i]? = some x -> smN x) -> smL l
 | [], _ => by rw [smL]; trivial
 | y :: l, h => by
  rw [smL];exact ⟨h 0 y rfl, smL_of fun i x hi => h (i + 1) x hi⟩
theorem fairL_at {was : Int} {l : List Nd} {i : Nat} {x : Nd} (h : l[i]? = some x) : fairL was (l.drop i) = (fairN x && !(decide (was = 2) && decide (x.kind = 2)) && fairL x.kind (l.drop (i + 1))) := by
 obtain ⟨hl, e⟩ := List.getElem?_eq_some_iff.1 h;rw [List.drop_eq_getElem_cons hl, e, fairL]
theorem sq_keep {α : Type} {El : World -> List Value -> α -> Prop} {k : Nat} {w w' : World} {A : Option Addr} {n c : Nat} {l : List α} (h : Sq El k w A n c l) (hb : Below w.heap.size w w') (hE : ∀ vs x, El w vs x -> El w' vs x) : Sq El k w' A n c l :=
 Sq.stay h (fun ad e hn => by
  obtain ⟨b, off, e2, hbl, _⟩ := h.cell hn;rw [e] at e2;injection e2 with e2;rw [e2]
  exact hb.block b hbl) hE
theorem len_zero {α : Type} (l : List α) : (((l.length : Nat) : Int) == 0) = l.isEmpty := by
 cases l with
 | nil => rfl
 | cons a l =>
  rw [List.isEmpty_cons, beq_eq_false_iff_ne, List.length_cons];omega
set_option maxHeartbeats 1000000 in
set_option maxRecDepth 100000 in
theorem bare_any (w : World) (kd : Int) (S1 S2 : ByteArray) (A : Option Addr) (ca : Nat) (A2 : Option Addr) (c2 : Nat) (as_ : List At) (ks : List Nd) :
  Calls Tryz.prog 45 #[.agg #[.int .i64 kd, .string S1, .string S2, .slice A as_.length ca, .slice A2 ks.length c2]] w fun e w' => e = .returned (.bool (as_.isEmpty && ks.isEmpty)) /\ Below w.heap.size w w' := by
 have hba := below_alloc w (.cells #[.int .i64 kd, .string S1, .string S2, .slice A as_.length ca, .slice A2 ks.length c2] 25);have hnb := heap_alloc_new w (.cells #[.int .i64 kd, .string S1, .string S2, .slice A as_.length ca, .slice A2 ks.length c2] 25);have l1 := len_zero as_;have l2 := len_zero ks;obtain ⟨T, hT⟩ : ∃ T, w.heap.size = T := ⟨_, rfl⟩;obtain ⟨w1, hw1⟩ : ∃ w1, w.alloc (.cells #[.int .i64 kd, .string S1, .string S2, .slice A as_.length ca, .slice A2 ks.length c2] 25) = w1 := ⟨_, rfl⟩;rw [hw1] at hba hnb;rw [hT] at hnb;have x3 : w1.cell? ⟨T, 3, none⟩ = some (.slice A as_.length ca) := Xp.cell_blk hnb rfl;have x4 : w1.cell? ⟨T, 4, none⟩ = some (.slice A2 ks.length c2) := Xp.cell_blk hnb rfl;obtain ⟨E1, hE1⟩ : ∃ E, as_.isEmpty = E := ⟨_, rfl⟩;obtain ⟨E2, hE2⟩ : ∃ E, ks.isEmpty = E := ⟨_, rfl⟩;rw [hE1] at l1;rw [hE2] at l2;rw [hE1, hE2];have hbaH := Hd hba;clear hnb hba hE1 hE2
 cases E1 <;> cases E2 <;>
 ·go_enter Tryz.func45, Tryz.ntmps45
  go_wp2_with fail;go_ret;exact ⟨rfl, hbaH.out⟩
def FairAt (X : Nat -> Prop) (x : Nd) : Prop := ∀ (vs : List Value) (w' : World), Uv w' -> NdI X w' vs x -> (∀ j, X j -> j < w'.heap.size) →
 Calls Tryz.prog 16 #[.agg vs.toArray] w' fun e w'' => e = .returned (.bool (fairN x)) /\ Below w'.heap.size w' w''
set_option maxHeartbeats 4000000 in
set_option maxRecDepth 100000 in
theorem kids_any (X : Nat -> Prop) (w : World) (hU : Uv w) (A : Option Addr) (n c : Nat) (l : List Nd) (hS : Sq (NdE X) 5 w A n c l) (hX : ∀ j, X j -> j < w.heap.size) (hF : ∀ (i : Nat) x, l[i]? = some x -> FairAt X x) :
  Calls Tryz.prog 44 #[.slice A n c] w fun e w' => e = .returned (.bool (fairL 0 l)) /\ Below w.heap.size w w' := by
 have hln := Hd hS.len;have hlm : n <= 9223372036854775807 := Nat.le_trans hS.le hS.max;have hS' := Hd hS;have hX' := Hd hX;have hU' := Hd hU;have hF' := Hd hF;obtain ⟨R, hR⟩ : ∃ R, fairL 0 l = R := ⟨_, rfl⟩;rw [hR];have hR' := Hd hR;clear hS hX hU hF hR
 go_enter Tryz.func44, Tryz.ntmps44
 go_wp2_with fail
 go_loopw [3, 8] (fun v3 vi wr => ∃ (i : Nat) (was : Int), i <= n /\ vi = .int .i64 (i : Nat) /\ v3 = .int .i64 was /\ Hid (fairL was (l.drop i) = R) /\ Hid (Below w.heap.size w wr)) (fun _ vi _ => n - (intOf vi).toNat)
 case atStart => exact ⟨0, 0, Nat.zero_le _, rfl, rfl, hR', Hd (Below.refl _ _)⟩
 case round =>
  obtain ⟨i, was, hi, rfl, rfl, hok, hb⟩ := hrel
  by_cases hlt : i < n
  ·have i1 : decide ((i : Int) < (n : Int)) = true := by simp; omega
   have q1 : (i : Int) < (n : Int) := by omega
   have hX1 : ∀ j, X j -> j < wr.heap.size := fun j hj => Nat.lt_of_lt_of_le (hX'.out j hj) hb.out.size
   have hKr := sq_keep hS'.out hb.out (fun vs x h => NdI.later h hX'.out hb.out);obtain ⟨b1, off1, x, vs1, rfl, _, hx1, _, hv1, hc1⟩ := hKr.at_ hlt;have hfx := hF'.out i x hx1;have hok9 := hok.out;rw [fairL_at hx1] at hok9;obtain ⟨kx, nx_, tx_, ax, kx_⟩ := x;obtain ⟨Ax, cax, A2x, c2x, rfl, -⟩ := hv1.cells;have m0 := hc1 0 _ rfl;have m1 := hc1 1 _ rfl;have m2 := hc1 2 _ rfl;have m3 := hc1 3 _ rfl;have m4 := hc1 4 _ rfl;rw [Nat.add_zero] at m0;have hbt := below_alloc wr (.cells #[.int .i64 kx, .string (strOf nx_), .string (strOf tx_), .slice Ax ax.length cax, .slice A2x kx_.length c2x] 25);have hnt := Hd (heap_alloc_new wr (.cells #[.int .i64 kx, .string (strOf nx_), .string (strOf tx_), .slice Ax ax.length cax, .slice A2x kx_.length c2x] 25));have hrec := Hd (hfx _ (wr.alloc (.cells #[.int .i64 kx, .string (strOf nx_), .string (strOf tx_), .slice Ax ax.length cax, .slice A2x kx_.length c2x] 25)) (hU'.out.below (hb.out.trans (hbt.mono hb.out.size))) (NdI.later hv1 hX1 hbt) (fun j hj => Nat.lt_of_lt_of_le (hX1 j hj) hbt.size));have hbb := Xp.tr_ hb hbt;obtain ⟨FX, hFX⟩ : ∃ b, fairN (.mk kx nx_ tx_ ax kx_) = b := ⟨_, rfl⟩;rw [hFX] at hok9 hrec;have hok9 : Hid ((FX && !(decide (was = 2) && decide (kx = 2)) && fairL kx (l.drop (i + 1))) = R) := Hd hok9;clear hok hX1 hKr hc1 hx1 hfx hv1 hbt hFX;go_wp2_with fail;refine hrec.out.mono ?_;rintro e w5 ⟨rfl, hb5⟩;have hw5 := Xp.tr_ hbb hb5;have hT5 := (hb5.block wr.heap.size (Array.getElem?_eq_some_iff.1 hnt.out).1).trans hnt.out;have y0 := Xp.cell_blk hT5 (i := 0) rfl;clear hb5 m0 m1 m2 m3 m4 hT5 hrec hnt hbb
   cases FX with
   | false =>
    have hRf : Hid (R = false) := Hd (by rw [<- hok9.out]; simp);clear hok9 y0;go_wp2_with fail
    (try simp only [Exit.inBlock, Exit.then])
    go_ret;exact ⟨by rw [hRf.out]; rfl, hw5.out⟩
   | true =>
    by_cases h1 : was = 2
    ·have k1 : (was == 2) = true := by rw [h1]; rfl
     by_cases h2 : kx = 2
     ·have k2 : (kx == 2) = true := by rw [h2]; rfl
      have hRf : Hid (R = false) := Hd (by rw [<- hok9.out]; simp [h1, h2]);clear hok9 h1 h2;go_wp2_with fail
      (try simp only [Exit.inBlock, Exit.then])
      go_ret;exact ⟨by rw [hRf.out]; rfl, hw5.out⟩
     ·have k2 : (kx == 2) = false := (by simpa using h2);have hnext : Hid (fairL kx (l.drop (i + 1)) = R) := Hd (by rw [<- hok9.out]; simp [h2]);clear hok9 h1 h2;go_wp2_with fail;go_roundw
      case rel => exact ⟨i + 1, kx, by omega, by go_num, rfl, hnext, hw5⟩
      case measure => simp [intOf]; omega
    ·have k1 : (was == 2) = false := (by simpa using h1);have hnext : Hid (fairL kx (l.drop (i + 1)) = R) := Hd (by rw [<- hok9.out]; simp [h1]);clear hok9 h1;go_wp2_with fail;go_roundw
     case rel => exact ⟨i + 1, kx, by omega, by go_num, rfl, hnext, hw5⟩
     case measure => simp [intOf]; omega
  ·have hie : i = n := by omega
   subst hie;have i1 : decide ((i : Int) < (i : Int)) = false := by simp
   have hRt : Hid (R = true) := Hd (by
    have h9 := hok.out;rw [List.drop_eq_nil_of_le (by rw [hln.out]; exact Nat.le_refl _)] at h9;rw [<- h9]
    rfl)
   clear hok;go_wp2_with fail
   (try simp only [Exit.inBlock, Exit.then])
   go_ret;exact ⟨by rw [hRt.out]; rfl, hb.out⟩
end Go.Proofs.YtokdnhdfmgfkeaaGreatDoor.Xp
end

section
namespace Go.Proofs.YtokdnhdfmgfkeaaGreatDoor.Xp
open Go.RowKit UtfW Xl Xo Xt
set_option maxHeartbeats 16000000 in
set_option maxRecDepth 100000 in
theorem Fair_any : ∀ (k : Nat) (X : Nat -> Prop) (n : Nd), SizeOf.sizeOf n <= k -> smN n -> FairAt X n := by
 intro k
 induction k with
 | zero =>
  intro X n hk;obtain ⟨kd, nm, tx, as_, ks⟩ := n;simp at hk
 | succ k ih =>
  intro X n hk hsm vs w hU hn hX;obtain ⟨kd, nm, tx, as_, ks⟩ := n;obtain ⟨A, ca, A2, c2, rfl, hA, hKs, hXA, hXK⟩ := hn.cells;rw [smN] at hsm;obtain ⟨z1, z2, z3, z4⟩ := hsm
  have hF : ∀ (i : Nat) x, ks[i]? = some x -> FairAt X x := fun i x hx => ih X x (by
   have := kid_lt (k := kd) (nm := nm) (tx := tx) (as_ := as_) hx
   omega) (smL_mem z4 hx)
  clear ih hk z4;obtain ⟨S1, hS1⟩ : ∃ S, strOf nm = S := ⟨_, rfl⟩;obtain ⟨S2, hS2⟩ : ∃ S, strOf tx = S := ⟨_, rfl⟩;rw [hS1, hS2];have hba := below_alloc w (.cells #[.int .i64 kd, .string S1, .string S2, .slice A as_.length ca, .slice A2 ks.length c2] 25);have hnb := heap_alloc_new w (.cells #[.int .i64 kd, .string S1, .string S2, .slice A as_.length ca, .slice A2 ks.length c2] 25);obtain ⟨T, hT⟩ : ∃ T, w.heap.size = T := ⟨_, rfl⟩;obtain ⟨w1, hw1⟩ : ∃ w1, w.alloc (.cells #[.int .i64 kd, .string S1, .string S2, .slice A as_.length ca, .slice A2 ks.length c2] 25) = w1 := ⟨_, rfl⟩;rw [hw1] at hba hnb;rw [hT] at hnb;have hTb : Hid (∀ x, Below w1.heap.size w1 x -> x.heap[T]? = some (.cells #[.int .i64 kd, .string S1, .string S2, .slice A as_.length ca, .slice A2 ks.length c2] 25)) := Hd fun x hx => (hx.block T (Array.getElem?_eq_some_iff.1 hnb).1).trans hnb
  have hqw1 : Hid (Below w1.heap.size w1 w1) := Hd (Below.refl _ _);have hlow : ∀ x, Below w1.heap.size w1 x -> Below w.heap.size w x := fun x hx => hba.trans (hx.mono hba.size)
  have hnc := Hd (fun (x : World) (hx : Below w1.heap.size w1 x) => utfName_any S1 (by rw [<- hS1, strOf_size']; omega) x (hU.below (hlow x hx)).ut);have e1 : S1.data.toList = nm := by rw [<- hS1]; simp [strOf]
  rw [e1, name_eq] at hnc;have hac := Hd (fun (x : World) (hx : Below w1.heap.size w1 x) => attrs_any x (hU.below (hlow x hx)) A as_.length ca as_ (hA.below AtEl.to (hlow x hx)) z3);have hkc := Hd (fun (x : World) (hx : Below w1.heap.size w1 x) => kids_any X x (hU.below (hlow x hx)) A2 ks.length c2 ks (sq_keep hKs (hlow x hx) (fun vs y h => NdI.later h hX (hlow x hx))) (fun j hj => Nat.lt_of_lt_of_le (hX j hj) (hlow x hx).size) hF);have hbc := Hd (fun (x : World) (_hx : Below w1.heap.size w1 x) => bare_any x kd S1 S2 A ca A2 c2 as_ ks);have hgc := Hd (fun (x : World) (hx : Below w1.heap.size w1 x) => good_any x (hU.below (hlow x hx)).ut tx (by omega));have hpc := Hd (fun (x : World) (hx : Below w1.heap.size w1 x) => plain_any x (hU.below (hlow x hx)).ut tx (by omega));have hcc3 := Hd (fun (x : World) (hx : Below w1.heap.size w1 x) => contains_any x (hU.below (hlow x hx)).ut tx [45, 45] (by omega));have hcc4 := Hd (fun (x : World) (hx : Below w1.heap.size w1 x) => contains_any x (hU.below (hlow x hx)).ut tx [63, 62] (by omega));have hsc := Hd (fun (x : World) (_hx : Below w1.heap.size w1 x) => suffix_any x tx [45] (by omega));have hlc := Hd (fun (x : World) (hx : Below w1.heap.size w1 x) => lowX_any x (hU.below (hlow x hx)) nm (by omega));rw [hS2] at hgc hpc hcc3 hcc4 hsc;rw [hS1] at hlc;have y0 : w1.cell? ⟨T, 0, none⟩ = some (.int .i64 kd) := Xp.cell_blk hnb rfl;have y1 : w1.cell? ⟨T, 1, none⟩ = some (.string S1) := Xp.cell_blk hnb rfl;have y2 : w1.cell? ⟨T, 2, none⟩ = some (.string S2) := Xp.cell_blk hnb rfl;have y3 : w1.cell? ⟨T, 3, none⟩ = some (.slice A as_.length ca) := Xp.cell_blk hnb rfl;have y4 : w1.cell? ⟨T, 4, none⟩ = some (.slice A2 ks.length c2) := Xp.cell_blk hnb rfl;have hbaH := Hd hba;have ez1 : S1.toList.isEmpty = nm.isEmpty := by rw [<- hS1, strOf_empty]
  have ez2 : S2.toList.isEmpty = tx.isEmpty := by rw [<- hS2, strOf_empty]
  have hS1H := Hd hS1;have hS2H := Hd hS2;have hz2H := Hd z2;clear hn hA hKs hXA hXK hX hF hU hlow hnb hba e1 z1 z2 z3 hS1 hS2;obtain ⟨BA, hBA⟩ : ∃ b, (as_.isEmpty && ks.isEmpty) = b := ⟨_, rfl⟩;obtain ⟨NM, hNM⟩ : ∃ b, nameR nm = b := ⟨_, rfl⟩;obtain ⟨AO, hAO⟩ : ∃ b, attrsOk [] as_ = b := ⟨_, rfl⟩;obtain ⟨FL, hFL⟩ : ∃ b, fairL 0 ks = b := ⟨_, rfl⟩;obtain ⟨GD, hGD⟩ : ∃ b, good tx = b := ⟨_, rfl⟩;obtain ⟨PL, hPL⟩ : ∃ b, plainT tx = b := ⟨_, rfl⟩;obtain ⟨C3, hC3⟩ : ∃ b, (find [45, 45] tx).isSome = b := ⟨_, rfl⟩;obtain ⟨C4, hC4⟩ : ∃ b, (find [63, 62] tx).isSome = b := ⟨_, rfl⟩;obtain ⟨SX, hSX⟩ : ∃ b, [(45 : UInt8)].isSuffixOf tx = b := ⟨_, rfl⟩;obtain ⟨LX, hLX⟩ : ∃ b, decide (nm.map low = xml3) = b := ⟨_, rfl⟩;have f3 : (find [45, 45] tx).isNone = !C3 := by rw [<- hC3]; cases find [45, 45] tx <;> rfl
  have f4 : (find [63, 62] tx).isNone = !C4 := by rw [<- hC4]; cases find [63, 62] tx <;> rfl
  have fs : decide (tx.getLast? ≠ some 45) = !SX := by rw [<- hSX, suffix_last]; simp
  have fl : decide (nm.map low ≠ xml3) = !LX := by rw [<- hLX]; simp
  rw [hNM] at hnc;rw [hAO] at hac;rw [hFL] at hkc;rw [hBA] at hbc;rw [hGD] at hgc;rw [hPL] at hpc;rw [hC3] at hcc3;rw [hC4] at hcc4;rw [hSX] at hsc;rw [hLX] at hlc;obtain ⟨R, hRe⟩ : ∃ R, fairN (.mk kd nm tx as_ ks) = R := ⟨_, rfl⟩;rw [hRe];rw [fairN] at hRe
  by_cases h1 : kd = 1
  ·subst h1;rw [if_pos rfl, hNM, hAO, hFL] at hRe;clear hBA hNM hAO hFL hGD hPL hC3 hC4 hSX hLX f3 f4 fs fl hbc hgc hpc hcc3 hcc4 hsc hlc;have k1 : ((1 : Int) == 1) = true := rfl
   cases tx with
   | nil =>
    have e2 : S2.toList.isEmpty = true := ez2;rw [decide_eq_true rfl] at hRe;have hR := Hd hRe;clear hRe ez1 ez2
    go_enter Tryz.func16, Tryz.ntmps16
    go_wp2_with fail;refine (hnc.out w1 hqw1.out).mono ?_;rintro e w11 ⟨rfl, hbw11⟩;have hqw11 := Xp.tr_ hqw1 hbw11;clear hbw11 y0 y1 y2 y3 y4;obtain ⟨y0, y1, y2, y3, y4⟩ := Xp.cz5 (hTb.out w11 hqw11.out)
    cases NM with
    | false =>
     have hRf : Hid (R = false) := Hd (by rw [<- hR.out]; simp);have hfin := Xp.tu_ hbaH hqw11;clear hR;go_wp2_with fail
     (try simp only [Exit.inBlock, Exit.then])
     go_ret;exact ⟨by rw [hRf.out]; rfl, hfin.out⟩
    | true =>
     go_wp2_with fail;refine (hac.out w11 hqw11.out).mono ?_;rintro e w12 ⟨rfl, hbw12⟩;have hqw12 := Xp.tr_ hqw11 hbw12;clear hbw12 y0 y1 y2 y3 y4;obtain ⟨y0, y1, y2, y3, y4⟩ := Xp.cz5 (hTb.out w12 hqw12.out)
     cases AO with
     | false =>
      have hRf : Hid (R = false) := Hd (by rw [<- hR.out]; simp);have hfin := Xp.tu_ hbaH hqw12;clear hR;go_wp2_with fail
      (try simp only [Exit.inBlock, Exit.then])
      go_ret;exact ⟨by rw [hRf.out]; rfl, hfin.out⟩
     | true =>
      go_wp2_with fail;refine (hkc.out w12 hqw12.out).mono ?_;rintro e w13 ⟨rfl, hbw13⟩;have hqw13 := Xp.tr_ hqw12 hbw13;clear hbw13 y0 y1 y2 y3 y4;obtain ⟨y0, y1, y2, y3, y4⟩ := Xp.cz5 (hTb.out w13 hqw13.out)
      cases FL with
      | false =>
       have hRf : Hid (R = false) := Hd (by rw [<- hR.out]; simp);have hfin := Xp.tu_ hbaH hqw13;clear hR;go_wp2_with fail
       (try simp only [Exit.inBlock, Exit.then])
       go_ret;exact ⟨by rw [hRf.out]; rfl, hfin.out⟩
      | true =>
       have hRf : Hid (R = true) := Hd (by rw [<- hR.out]; simp);have hfin := Xp.tu_ hbaH hqw13;clear hR;go_wp2_with fail
       (try simp only [Exit.inBlock, Exit.then])
       go_ret;exact ⟨by rw [hRf.out]; rfl, hfin.out⟩
   | cons c0 r0 =>
    have e2 : S2.toList.isEmpty = false := ez2;rw [decide_eq_false (by simp)] at hRe;have hR := Hd hRe;clear hRe ez1 ez2
    go_enter Tryz.func16, Tryz.ntmps16
    go_wp2_with fail;refine (hnc.out w1 hqw1.out).mono ?_;rintro e w14 ⟨rfl, hbw14⟩;have hqw14 := Xp.tr_ hqw1 hbw14;clear hbw14 y0 y1 y2 y3 y4;obtain ⟨y0, y1, y2, y3, y4⟩ := Xp.cz5 (hTb.out w14 hqw14.out)
    cases NM with
    | false =>
     have hRf : Hid (R = false) := Hd (by rw [<- hR.out]; simp);have hfin := Xp.tu_ hbaH hqw14;clear hR;go_wp2_with fail
     (try simp only [Exit.inBlock, Exit.then])
     go_ret;exact ⟨by rw [hRf.out]; rfl, hfin.out⟩
    | true =>
     have hRf : Hid (R = false) := Hd (by rw [<- hR.out]; simp);have hfin := Xp.tu_ hbaH hqw14;clear hR;go_wp2_with fail
     (try simp only [Exit.inBlock, Exit.then])
     go_ret;exact ⟨by rw [hRf.out]; rfl, hfin.out⟩
  rw [if_neg h1] at hRe;have k1 : (kd == 1) = false := by simpa using h1
  by_cases h2 : kd = 2
  ·subst h2;rw [if_pos rfl, hBA, hGD] at hRe;clear hBA hNM hAO hFL hGD hPL hC3 hC4 hSX hLX f3 f4 fs fl hnc hac hkc hpc hcc3 hcc4 hsc hlc h1;have k2 : ((2 : Int) == 2) = true := rfl
   cases nm with
   | nil =>
    cases tx with
    | nil =>
     have e1 : S1.toList.isEmpty = true := ez1;have e2 : S2.toList.isEmpty = true := ez2;rw [decide_eq_true (rfl), decide_eq_false (by simp)] at hRe;have hR := Hd hRe;clear hRe ez1 ez2
     go_enter Tryz.func16, Tryz.ntmps16
     go_wp2_with fail;refine (hbc.out w1 hqw1.out).mono ?_;rintro e w15 ⟨rfl, hbw15⟩;have hqw15 := Xp.tr_ hqw1 hbw15;clear hbw15 y0 y1 y2 y3 y4;obtain ⟨y0, y1, y2, y3, y4⟩ := Xp.cz5 (hTb.out w15 hqw15.out)
     cases BA with
     | false =>
      have hRf : Hid (R = false) := Hd (by rw [<- hR.out]; simp);have hfin := Xp.tu_ hbaH hqw15;clear hR;go_wp2_with fail
      (try simp only [Exit.inBlock, Exit.then])
      go_ret;exact ⟨by rw [hRf.out]; rfl, hfin.out⟩
     | true =>
      have hRf : Hid (R = false) := Hd (by rw [<- hR.out]; simp);have hfin := Xp.tu_ hbaH hqw15;clear hR;go_wp2_with fail
      (try simp only [Exit.inBlock, Exit.then])
      go_ret;exact ⟨by rw [hRf.out]; rfl, hfin.out⟩
    | cons c0 r0 =>
     have e1 : S1.toList.isEmpty = true := ez1;have e2 : S2.toList.isEmpty = false := ez2;rw [decide_eq_true (rfl), decide_eq_true (by simp)] at hRe;have hR := Hd hRe;clear hRe ez1 ez2
     go_enter Tryz.func16, Tryz.ntmps16
     go_wp2_with fail;refine (hbc.out w1 hqw1.out).mono ?_;rintro e w16 ⟨rfl, hbw16⟩;have hqw16 := Xp.tr_ hqw1 hbw16;clear hbw16 y0 y1 y2 y3 y4;obtain ⟨y0, y1, y2, y3, y4⟩ := Xp.cz5 (hTb.out w16 hqw16.out)
     cases BA with
     | false =>
      have hRf : Hid (R = false) := Hd (by rw [<- hR.out]; simp);have hfin := Xp.tu_ hbaH hqw16;clear hR;go_wp2_with fail
      (try simp only [Exit.inBlock, Exit.then])
      go_ret;exact ⟨by rw [hRf.out]; rfl, hfin.out⟩
     | true =>
      go_wp2_with fail;refine (hgc.out w16 hqw16.out).mono ?_;rintro e w17 ⟨rfl, hbw17⟩;have hqw17 := Xp.tr_ hqw16 hbw17;clear hbw17 y0 y1 y2 y3 y4;obtain ⟨y0, y1, y2, y3, y4⟩ := Xp.cz5 (hTb.out w17 hqw17.out)
      cases GD with
      | false =>
       have hRf : Hid (R = false) := Hd (by rw [<- hR.out]; simp);have hfin := Xp.tu_ hbaH hqw17;clear hR;go_wp2_with fail
       (try simp only [Exit.inBlock, Exit.then])
       go_ret;exact ⟨by rw [hRf.out]; rfl, hfin.out⟩
      | true =>
       have hRf : Hid (R = true) := Hd (by rw [<- hR.out]; simp);have hfin := Xp.tu_ hbaH hqw17;clear hR;go_wp2_with fail
       (try simp only [Exit.inBlock, Exit.then])
       go_ret;exact ⟨by rw [hRf.out]; rfl, hfin.out⟩
   | cons c1 r1 =>
    cases tx with
    | nil =>
     have e1 : S1.toList.isEmpty = false := ez1;have e2 : S2.toList.isEmpty = true := ez2;rw [decide_eq_false (by simp), decide_eq_false (by simp)] at hRe;have hR := Hd hRe;clear hRe ez1 ez2
     go_enter Tryz.func16, Tryz.ntmps16
     go_wp2_with fail;refine (hbc.out w1 hqw1.out).mono ?_;rintro e w18 ⟨rfl, hbw18⟩;have hqw18 := Xp.tr_ hqw1 hbw18;clear hbw18 y0 y1 y2 y3 y4;obtain ⟨y0, y1, y2, y3, y4⟩ := Xp.cz5 (hTb.out w18 hqw18.out)
     cases BA with
     | false =>
      have hRf : Hid (R = false) := Hd (by rw [<- hR.out]; simp);have hfin := Xp.tu_ hbaH hqw18;clear hR;go_wp2_with fail
      (try simp only [Exit.inBlock, Exit.then])
      go_ret;exact ⟨by rw [hRf.out]; rfl, hfin.out⟩
     | true =>
      have hRf : Hid (R = false) := Hd (by rw [<- hR.out]; simp);have hfin := Xp.tu_ hbaH hqw18;clear hR;go_wp2_with fail
      (try simp only [Exit.inBlock, Exit.then])
      go_ret;exact ⟨by rw [hRf.out]; rfl, hfin.out⟩
    | cons c0 r0 =>
     have e1 : S1.toList.isEmpty = false := ez1;have e2 : S2.toList.isEmpty = false := ez2;rw [decide_eq_false (by simp), decide_eq_true (by simp)] at hRe;have hR := Hd hRe;clear hRe ez1 ez2
     go_enter Tryz.func16, Tryz.ntmps16
     go_wp2_with fail;refine (hbc.out w1 hqw1.out).mono ?_;rintro e w19 ⟨rfl, hbw19⟩;have hqw19 := Xp.tr_ hqw1 hbw19;clear hbw19 y0 y1 y2 y3 y4;obtain ⟨y0, y1, y2, y3, y4⟩ := Xp.cz5 (hTb.out w19 hqw19.out)
     cases BA with
     | false =>
      have hRf : Hid (R = false) := Hd (by rw [<- hR.out]; simp);have hfin := Xp.tu_ hbaH hqw19;clear hR;go_wp2_with fail
      (try simp only [Exit.inBlock, Exit.then])
      go_ret;exact ⟨by rw [hRf.out]; rfl, hfin.out⟩
     | true =>
      have hRf : Hid (R = false) := Hd (by rw [<- hR.out]; simp);have hfin := Xp.tu_ hbaH hqw19;clear hR;go_wp2_with fail
      (try simp only [Exit.inBlock, Exit.then])
      go_ret;exact ⟨by rw [hRf.out]; rfl, hfin.out⟩
  rw [if_neg h2] at hRe;have k2 : (kd == 2) = false := by simpa using h2
  by_cases h3 : kd = 3
  ·subst h3;rw [if_pos rfl, hBA, hPL, f3, fs] at hRe;clear hBA hNM hAO hFL hGD hPL hC3 hC4 hSX hLX f3 f4 fs fl hnc hac hkc hgc hcc4 hlc h1 h2;have k3 : ((3 : Int) == 3) = true := rfl
   cases nm with
   | nil =>
    have e1 : S1.toList.isEmpty = true := ez1;rw [decide_eq_true (rfl)] at hRe;have hR := Hd hRe;clear hRe ez1 ez2
    go_enter Tryz.func16, Tryz.ntmps16
    go_wp2_with fail;refine (hbc.out w1 hqw1.out).mono ?_;rintro e w20 ⟨rfl, hbw20⟩;have hqw20 := Xp.tr_ hqw1 hbw20;clear hbw20 y0 y1 y2 y3 y4;obtain ⟨y0, y1, y2, y3, y4⟩ := Xp.cz5 (hTb.out w20 hqw20.out)
    cases BA with
    | false =>
     have hRf : Hid (R = false) := Hd (by rw [<- hR.out]; simp);have hfin := Xp.tu_ hbaH hqw20;clear hR;go_wp2_with fail
     (try simp only [Exit.inBlock, Exit.then])
     go_ret;exact ⟨by rw [hRf.out]; rfl, hfin.out⟩
    | true =>
     go_wp2_with fail;refine (hpc.out w20 hqw20.out).mono ?_;rintro e w21 ⟨rfl, hbw21⟩;have hqw21 := Xp.tr_ hqw20 hbw21;clear hbw21 y0 y1 y2 y3 y4;obtain ⟨y0, y1, y2, y3, y4⟩ := Xp.cz5 (hTb.out w21 hqw21.out)
     cases PL with
     | false =>
      have hRf : Hid (R = false) := Hd (by rw [<- hR.out]; simp);have hfin := Xp.tu_ hbaH hqw21;clear hR;go_wp2_with fail
      (try simp only [Exit.inBlock, Exit.then])
      go_ret;exact ⟨by rw [hRf.out]; rfl, hfin.out⟩
     | true =>
      go_wp2_with fail;refine (hcc3.out w21 hqw21.out).mono ?_;rintro e wq ⟨rfl, hwq⟩;replace hwq := hwq.symm;subst hwq
      cases C3 with
      | true =>
       have hRf : Hid (R = false) := Hd (by rw [<- hR.out]; simp);have hfin := Xp.tu_ hbaH hqw21;clear hR;go_wp2_with fail
       (try simp only [Exit.inBlock, Exit.then])
       go_ret;exact ⟨by rw [hRf.out]; rfl, hfin.out⟩
      | false =>
       go_wp2_with fail;refine (hsc.out w21 hqw21.out).mono ?_;rintro e wq ⟨rfl, hwq⟩;replace hwq := hwq.symm;subst hwq
       cases SX with
       | true =>
        have hRf : Hid (R = false) := Hd (by rw [<- hR.out]; simp);have hfin := Xp.tu_ hbaH hqw21;clear hR;go_wp2_with fail
        (try simp only [Exit.inBlock, Exit.then])
        go_ret;exact ⟨by rw [hRf.out]; rfl, hfin.out⟩
       | false =>
        have hRf : Hid (R = true) := Hd (by rw [<- hR.out]; simp);have hfin := Xp.tu_ hbaH hqw21;clear hR;go_wp2_with fail
        (try simp only [Exit.inBlock, Exit.then])
        go_ret;exact ⟨by rw [hRf.out]; rfl, hfin.out⟩
   | cons c1 r1 =>
    have e1 : S1.toList.isEmpty = false := ez1;rw [decide_eq_false (by simp)] at hRe;have hR := Hd hRe;clear hRe ez1 ez2
    go_enter Tryz.func16, Tryz.ntmps16
    go_wp2_with fail;refine (hbc.out w1 hqw1.out).mono ?_;rintro e w24 ⟨rfl, hbw24⟩;have hqw24 := Xp.tr_ hqw1 hbw24;clear hbw24 y0 y1 y2 y3 y4;obtain ⟨y0, y1, y2, y3, y4⟩ := Xp.cz5 (hTb.out w24 hqw24.out)
    cases BA with
    | false =>
     have hRf : Hid (R = false) := Hd (by rw [<- hR.out]; simp);have hfin := Xp.tu_ hbaH hqw24;clear hR;go_wp2_with fail
     (try simp only [Exit.inBlock, Exit.then])
     go_ret;exact ⟨by rw [hRf.out]; rfl, hfin.out⟩
    | true =>
     have hRf : Hid (R = false) := Hd (by rw [<- hR.out]; simp);have hfin := Xp.tu_ hbaH hqw24;clear hR;go_wp2_with fail
     (try simp only [Exit.inBlock, Exit.then])
     go_ret;exact ⟨by rw [hRf.out]; rfl, hfin.out⟩
  rw [if_neg h3] at hRe;have k3 : (kd == 3) = false := by simpa using h3
  by_cases h4 : kd = 4
  ·subst h4;rw [if_pos rfl, hBA, hNM, hPL, f4, fl] at hRe;clear hBA hNM hAO hFL hGD hPL hC3 hC4 hSX hLX f3 f4 fs fl hac hkc hgc hcc3 hsc h1 h2 h3;have k4 : ((4 : Int) == 4) = true := rfl
   cases tx with
   | nil =>
    have e2 : S2.toList.isEmpty = true := ez2;have hR := Hd hRe;clear hRe ez1 ez2
    go_enter Tryz.func16, Tryz.ntmps16
    go_wp2_with fail;refine (hbc.out w1 hqw1.out).mono ?_;rintro e w25 ⟨rfl, hbw25⟩;have hqw25 := Xp.tr_ hqw1 hbw25;clear hbw25 y0 y1 y2 y3 y4;obtain ⟨y0, y1, y2, y3, y4⟩ := Xp.cz5 (hTb.out w25 hqw25.out)
    cases BA with
    | false =>
     have hRf : Hid (R = false) := Hd (by rw [<- hR.out]; simp [headOk]);have hfin := Xp.tu_ hbaH hqw25;clear hR;go_wp2_with fail
     (try simp only [Exit.inBlock, Exit.then])
     go_ret;exact ⟨by rw [hRf.out]; rfl, hfin.out⟩
    | true =>
     go_wp2_with fail;refine (hnc.out w25 hqw25.out).mono ?_;rintro e w26 ⟨rfl, hbw26⟩;have hqw26 := Xp.tr_ hqw25 hbw26;clear hbw26 y0 y1 y2 y3 y4;obtain ⟨y0, y1, y2, y3, y4⟩ := Xp.cz5 (hTb.out w26 hqw26.out)
     cases NM with
     | false =>
      have hRf : Hid (R = false) := Hd (by rw [<- hR.out]; simp [headOk]);have hfin := Xp.tu_ hbaH hqw26;clear hR;go_wp2_with fail
      (try simp only [Exit.inBlock, Exit.then])
      go_ret;exact ⟨by rw [hRf.out]; rfl, hfin.out⟩
     | true =>
      go_wp2_with fail;refine (hlc.out w26 hqw26.out).mono ?_;rintro e w27 ⟨tl, rfl, htl, hbw27⟩;have hqw27 := Xp.tr_ hqw26 hbw27;clear hbw27 y0 y1 y2 y3 y4;obtain ⟨y0, y1, y2, y3, y4⟩ := Xp.cz5 (hTb.out w27 hqw27.out);have s2 := str_eqL tl [120, 109, 108];have htl' : decide (tl = [120, 109, 108]) = LX := htl;rw [htl'] at s2;clear htl htl'
      cases LX with
      | true =>
       have hRf : Hid (R = false) := Hd (by rw [<- hR.out]; simp [headOk]);have hfin := Xp.tu_ hbaH hqw27;clear hR;go_wp2_with fail
       (try simp only [Exit.inBlock, Exit.then])
       go_ret;exact ⟨by rw [hRf.out]; rfl, hfin.out⟩
      | false =>
       go_wp2_with fail;refine (hpc.out w27 hqw27.out).mono ?_;rintro e w28 ⟨rfl, hbw28⟩;have hqw28 := Xp.tr_ hqw27 hbw28;clear hbw28 y0 y1 y2 y3 y4;obtain ⟨y0, y1, y2, y3, y4⟩ := Xp.cz5 (hTb.out w28 hqw28.out)
       cases PL with
       | false =>
        have hRf : Hid (R = false) := Hd (by rw [<- hR.out]; simp [headOk]);have hfin := Xp.tu_ hbaH hqw28;clear hR;go_wp2_with fail
        (try simp only [Exit.inBlock, Exit.then])
        go_ret;exact ⟨by rw [hRf.out]; rfl, hfin.out⟩
       | true =>
        go_wp2_with fail;refine (hcc4.out w28 hqw28.out).mono ?_;rintro e wq ⟨rfl, hwq⟩;replace hwq := hwq.symm;subst hwq
        cases C4 with
        | true =>
         have hRf : Hid (R = false) := Hd (by rw [<- hR.out]; simp [headOk]);have hfin := Xp.tu_ hbaH hqw28;clear hR;go_wp2_with fail
         (try simp only [Exit.inBlock, Exit.then])
         go_ret;exact ⟨by rw [hRf.out]; rfl, hfin.out⟩
        | false =>
         have hRf : Hid (R = true) := Hd (by rw [<- hR.out]; simp [headOk]);have hfin := Xp.tu_ hbaH hqw28;clear hR;go_wp2_with fail
         (try simp only [Exit.inBlock, Exit.then])
         go_ret;exact ⟨by rw [hRf.out]; rfl, hfin.out⟩
   | cons c0 r0 =>
    have e2 : S2.toList.isEmpty = false := ez2;obtain ⟨BL, hBL⟩ : ∃ b, Qx.blank c0 = b := ⟨_, rfl⟩;have hho : headOk (c0 :: r0) = !BL := by rw [<- hBL]; rfl
    rw [hho] at hRe;have hR := Hd hRe;have hz2 := hz2H.out;have hsz : S2.size = (c0 :: r0).length := by rw [<- hS2H.out]; exact strOf_size' _
    rw [List.length_cons] at hsz hz2;have hlt0 : 0 < S2.size := by omega
    have hgx : S2[0]'hlt0 = c0 := by
     have h9 := hS2H.out;subst h9;exact str_at rfl hlt0
    have hc9 := c0.toNat_lt;have hbk := Hd (fun x => blank_any (c0.toNat : Int) x);have hbl' : Blank (c0.toNat : Int) = BL := hBL;rw [hbl'] at hbk;clear hRe ez1 ez2 hho hBL hbl' hz2
    go_enter Tryz.func16, Tryz.ntmps16
    go_wp2_with fail;refine (hbk.out w1).mono ?_;rintro e wq ⟨rfl, hwq⟩;replace hwq := hwq.symm;subst hwq;go_wp2_with fail;refine (hbc.out w1 hqw1.out).mono ?_;rintro e w30 ⟨rfl, hbw30⟩;have hqw30 := Xp.tr_ hqw1 hbw30;clear hbw30 y0 y1 y2 y3 y4;obtain ⟨y0, y1, y2, y3, y4⟩ := Xp.cz5 (hTb.out w30 hqw30.out)
    cases BA with
    | false =>
     have hRf : Hid (R = false) := Hd (by rw [<- hR.out]; simp);have hfin := Xp.tu_ hbaH hqw30;clear hR;go_wp2_with fail
     (try simp only [Exit.inBlock, Exit.then])
     go_ret;exact ⟨by rw [hRf.out]; rfl, hfin.out⟩
    | true =>
     go_wp2_with fail;refine (hnc.out w30 hqw30.out).mono ?_;rintro e w31 ⟨rfl, hbw31⟩;have hqw31 := Xp.tr_ hqw30 hbw31;clear hbw31 y0 y1 y2 y3 y4;obtain ⟨y0, y1, y2, y3, y4⟩ := Xp.cz5 (hTb.out w31 hqw31.out)
     cases NM with
     | false =>
      have hRf : Hid (R = false) := Hd (by rw [<- hR.out]; simp);have hfin := Xp.tu_ hbaH hqw31;clear hR;go_wp2_with fail
      (try simp only [Exit.inBlock, Exit.then])
      go_ret;exact ⟨by rw [hRf.out]; rfl, hfin.out⟩
     | true =>
      go_wp2_with fail;refine (hlc.out w31 hqw31.out).mono ?_;rintro e w32 ⟨tl, rfl, htl, hbw32⟩;have hqw32 := Xp.tr_ hqw31 hbw32;clear hbw32 y0 y1 y2 y3 y4;obtain ⟨y0, y1, y2, y3, y4⟩ := Xp.cz5 (hTb.out w32 hqw32.out);have s2 := str_eqL tl [120, 109, 108];have htl' : decide (tl = [120, 109, 108]) = LX := htl;rw [htl'] at s2;clear htl htl'
      cases LX with
      | true =>
       have hRf : Hid (R = false) := Hd (by rw [<- hR.out]; simp);have hfin := Xp.tu_ hbaH hqw32;clear hR;go_wp2_with fail
       (try simp only [Exit.inBlock, Exit.then])
       go_ret;exact ⟨by rw [hRf.out]; rfl, hfin.out⟩
      | false =>
       go_wp2_with fail;refine (hpc.out w32 hqw32.out).mono ?_;rintro e w33 ⟨rfl, hbw33⟩;have hqw33 := Xp.tr_ hqw32 hbw33;clear hbw33 y0 y1 y2 y3 y4;obtain ⟨y0, y1, y2, y3, y4⟩ := Xp.cz5 (hTb.out w33 hqw33.out)
       cases PL with
       | false =>
        have hRf : Hid (R = false) := Hd (by rw [<- hR.out]; simp);have hfin := Xp.tu_ hbaH hqw33;clear hR;go_wp2_with fail
        (try simp only [Exit.inBlock, Exit.then])
        go_ret;exact ⟨by rw [hRf.out]; rfl, hfin.out⟩
       | true =>
        go_wp2_with fail;refine (hcc4.out w33 hqw33.out).mono ?_;rintro e wq ⟨rfl, hwq⟩;replace hwq := hwq.symm;subst hwq
        cases C4 with
        | true =>
         have hRf : Hid (R = false) := Hd (by rw [<- hR.out]; simp);have hfin := Xp.tu_ hbaH hqw33;clear hR;go_wp2_with fail
         (try simp only [Exit.inBlock, Exit.then])
         go_ret;exact ⟨by rw [hRf.out]; rfl, hfin.out⟩
        | false =>
         cases BL with
         | true =>
          have hRf : Hid (R = false) := Hd (by rw [<- hR.out]; simp);have hfin := Xp.tu_ hbaH hqw33;clear hR;go_wp2_with fail
          (try simp only [Exit.inBlock, Exit.then])
          go_ret;exact ⟨by rw [hRf.out]; rfl, hfin.out⟩
         | false =>
          have hRf : Hid (R = true) := Hd (by rw [<- hR.out]; simp);have hfin := Xp.tu_ hbaH hqw33;clear hR;go_wp2_with fail
          (try simp only [Exit.inBlock, Exit.then])
          go_ret;exact ⟨by rw [hRf.out]; rfl, hfin.out⟩
  rw [if_neg h4] at hRe;have k4 : (kd == 4) = false := by simpa using h4
  subst hRe;clear hBA hNM hAO hFL hGD hPL hC3 hC4 hSX hLX f3 f4 fs fl hnc hac hkc hgc hcc3 hsc h1 h2 h3 h4 hbc hpc hcc4 hlc
  go_enter Tryz.func16, Tryz.ntmps16
  go_wp2_with fail;go_ret;exact ⟨rfl, hbaH.out⟩
end Go.Proofs.YtokdnhdfmgfkeaaGreatDoor.Xp
end

section
namespace Go.Proofs.YtokdnhdfmgfkeaaGreatDoor.Xp
open Go.RowKit UtfW Xl Xo Xt
theorem find_none_iff {p : Tx} (hp : p ≠ []) : ∀ {s : Tx}, find p s = none ↔ ∀ i, p.isPrefixOf (s.drop i) = false
 | [] => by
  rw [find, if_neg hp];refine ⟨fun _ i => ?_, fun _ => rfl⟩;rw [List.drop_nil]
  cases p with
  | nil => exact absurd rfl hp
  | cons a b => rfl
 | b :: r => by
  rw [find];constructor
  ·intro h i
   by_cases hh : p.isPrefixOf (b :: r) = true
   ·rw [if_pos hh] at h; cases h
   ·rw [if_neg hh, Option.map_eq_none_iff] at h
    cases i with
    | zero => rw [List.drop_zero]; exact Bool.eq_false_iff.2 hh
    | succ i => exact (find_none_iff hp).1 h i
  ·intro h;have h0 := h 0;rw [List.drop_zero] at h0;rw [if_neg (by rw [h0]; decide), Option.map_eq_none_iff];exact (find_none_iff hp).2 fun i => h (i + 1)
theorem find_one {s : Tx} {c : UInt8} : (find [c] s).isSome = decide (c ∈ s) := by
 rw [Bool.eq_iff_iff, decide_eq_true_eq];constructor
 ·intro h
  by_cases hc : c ∈ s
  ·exact hc
  exfalso
  have : find [c] s = none := (find_none_iff (by simp)).2 fun i => by
   cases hd : s.drop i with
   | nil => rfl
   | cons x y =>
    have hx : x ∈ s := List.mem_of_mem_drop (i := i) (by rw [hd]; simp);have : c ≠ x := fun e => hc (e ▸ hx)
    simp [List.isPrefixOf, this]
  rw [this] at h;cases h
 ·intro hc
  cases hf : find [c] s with
  | some k => rfl
  | none =>
   exfalso;obtain ⟨i, hi⟩ := List.mem_iff_getElem?.1 hc;have := (find_none_iff (by simp)).1 hf i;obtain ⟨hl, e⟩ := List.getElem?_eq_some_iff.1 hi;rw [List.drop_eq_getElem_cons hl, e] at this;simp [List.isPrefixOf] at this
theorem str_eq_iff (a b : Tx) : ((strOf a).toList == (strOf b).toList) = decide (a = b) := by
 rw [Lib.toList_data, Lib.toList_data, strOf_data', strOf_data', Bool.eq_iff_iff, beq_iff_eq, decide_eq_true_eq]
theorem pre_slice {p s : Tx} {i : Nat} (h : i + p.length <= s.length) : p.isPrefixOf (s.drop i) = decide ((s.drop i).take p.length = p) := by
 rw [Bool.eq_iff_iff, List.isPrefixOf_iff_prefix, decide_eq_true_eq, List.prefix_iff_eq_take];exact ⟨fun h => h.symm, fun h => h.symm⟩
theorem pre_long {p s : Tx} {i : Nat} (hp : p ≠ []) (h : s.length < i + p.length) : p.isPrefixOf (s.drop i) = false := by
 rw [Bool.eq_false_iff];intro hc;have := (List.isPrefixOf_iff_prefix.1 hc).length_le;rw [List.length_drop] at this;have : 0 < p.length := List.length_pos_iff.2 hp;omega
theorem extract_str (s : Tx) (i j : Nat) : (strOf s).extract i j = strOf ((s.drop i).take (j - i)) := by
 apply ByteArray.ext;simp [strOf, ByteArray.data_extract, List.extract_toArray]
set_option maxHeartbeats 2000000 in
set_option maxRecDepth 100000 in
theorem rhas_any (s p : Tx) (hs : s.length <= 1000000) (hp : p.length <= 1000000) (hp0 : p ≠ []) (w : World) :
  Calls Tryz.prog 53 #[.string (strOf s), .string (strOf p)] w fun e w' => e = .returned (.bool (find p s).isSome) /\ Below w.heap.size w w' := by
 have hsz : (strOf s).size = s.length := strOf_size' s;have hpz : (strOf p).size = p.length := strOf_size' p;obtain ⟨R, hR⟩ : ∃ R, (find p s).isSome = R := ⟨_, rfl⟩;rw [hR];have hR' := Hd hR;have hp0' := Hd hp0;clear hR hp0;obtain ⟨n, hn⟩ : ∃ n, s.length = n := ⟨_, rfl⟩;obtain ⟨m, hm⟩ : ∃ m, p.length = m := ⟨_, rfl⟩;rw [hn] at hsz hs;rw [hm] at hpz hp;have hn' := Hd hn;have hm' := Hd hm;clear hn hm
 go_enter Tryz.func53, Tryz.ntmps53
 go_wp2_with fail
 go_loopw [5] (fun v5 wr => ∃ i : Nat, i <= n + 1 /\ v5 = .int .i64 (i : Nat) /\ Hid (∀ k, k < i -> p.isPrefixOf (s.drop k) = false) /\ Hid (Below w.heap.size w wr)) (fun v5 _ => n + 1 - (intOf v5).toNat)
 case atStart => exact ⟨0, by omega, rfl, Hd (fun m hm => absurd hm (by omega)), Hd (Below.refl _ _)⟩
 case round =>
  obtain ⟨i, hi, rfl, hok, hb⟩ := hrel
  by_cases hlt : i + m <= n
  ·have i1 : decide ((i : Int) + (m : Int) <= (n : Int)) = true := by rw [decide_eq_true_eq]; omega
   have q1 : (i : Int) + (m : Int) <= (n : Int) := by omega
   have hex : (strOf s).extract i (i + m) = strOf ((s.drop i).take m) := by rw [extract_str, Nat.add_sub_cancel_left]
   have heq := str_eq_iff ((s.drop i).take m) p;have hpre : Hid (p.isPrefixOf (s.drop i) = decide ((s.drop i).take m = p)) := Hd (by rw [<- hm'.out]; exact pre_slice (by rw [hm'.out, hn'.out]; exact hlt))
   by_cases hq : (s.drop i).take m = p
   ·rw [decide_eq_true hq] at heq
    have hRt : Hid (R = true) := Hd (by
     rw [<- hR'.out]
     cases hf : find p s with
     | some k => rfl
     | none =>
      have := (find_none_iff hp0'.out).1 hf i;rw [hpre.out, decide_eq_true hq] at this
      cases this)
    clear hq hpre;go_wp2_with fail
    (try simp only [Exit.inBlock, Exit.then])
    go_ret;exact ⟨by rw [hRt.out]; rfl, hb.out⟩
   ·rw [decide_eq_false hq] at heq
    have hnext : Hid (∀ k, k < i + 1 -> p.isPrefixOf (s.drop k) = false) := Hd fun k hk => by
     by_cases hki : k = i
     ·rw [hki, hpre.out, decide_eq_false hq]
     ·exact hok.out k (by omega)
    clear hq hpre;go_wp2_with fail;go_roundw
    case rel => exact ⟨i + 1, by omega, by go_num, hnext, hb⟩
    case measure => simp [intOf]; omega
  ·have i1 : decide ((i : Int) + (m : Int) <= (n : Int)) = false := by rw [decide_eq_false_iff_not]; omega
   have q1 : ¬ (i : Int) + (m : Int) <= (n : Int) := by omega
   have hRf : Hid (R = false) := Hd (by
    rw [<- hR'.out, (find_none_iff hp0'.out).2 fun k => ?_]
    ·rfl
    ·by_cases hk : k < i
     ·exact hok.out k hk
     ·exact pre_long hp0'.out (by rw [hn'.out, hm'.out]; omega))
   go_wp2_with fail
   (try simp only [Exit.inBlock, Exit.then])
   go_ret;exact ⟨by rw [hRf.out]; rfl, hb.out⟩
def Lw (w wr : World) (T : Nat) (L : Tx) : Prop := Below w.heap.size w wr /\ w.heap.size <= T /\ T < wr.heap.size /\ ∀ (j : Nat) x, L[j]? = some x -> wr.cell? ⟨T, j, none⟩ = some (.int .u8 (x.toNat : Int)) /\ wr.frozen? ⟨T, j, none⟩ = false
theorem lw_new (w : World) (s : Tx) (hs : s.length <= 1000000) : Lw w (Lib.bytesWorld w 5 (strOf s)) w.heap.size s := by
 have hsz : (strOf s).size = s.length := strOf_size' s;have hd : (strOf s).data.toList = s := strOf_data' s;refine ⟨(bs_convert w (strOf s) (by omega)).2, Nat.le_refl _, by rw [Lib.bytesWorld_size]; omega, fun j x hx => ?_⟩;have hj : j < (strOf s).size := by rw [hsz]; exact (List.getElem?_eq_some_iff.1 hx).1
 constructor
 ·rw [Lib.bytesWorld_cell w 5 (strOf s) j hj, hd, List.getD_eq_getElem?_getD, hx];rfl
 ·have hc : (Lib.bytesCells w 5 (strOf s)).size ≥ (strOf s).size := by
   have h1 := Lib.bytesWorld_cell w 5 (strOf s) ((strOf s).size - 1) (by omega);simp only [World.cell?, Lib.bytesWorld_at_new] at h1;have h2 := (Array.getElem?_eq_some_iff.1 h1).1;omega
  simp only [World.frozen?, Lib.bytesWorld_at_new];simp;omega
theorem Lw.set {w wr : World} {T : Nat} {L : Tx} (h : Lw w wr T L) {i : Nat} (x : UInt8) (hi : i < L.length) : Lw w (wr.setCell ⟨T, i, none⟩ (.int .u8 (x.toNat : Int))) T (L.set i x) := by
 obtain ⟨h1, h2, h3, h4⟩ := h;refine ⟨h1.setCell h2 _, h2, by simpa using h3, fun j y hy => ?_⟩
 by_cases hij : i = j
 ·subst hij;rw [List.getElem?_set_self hi] at hy;injection hy with hy;subst hy;obtain ⟨c1, c2⟩ := h4 i _ (List.getElem?_eq_getElem hi);exact ⟨World.cell?_setCell_same' _ _ _ (by rw [c1]; rfl), by simpa using c2⟩
 ·rw [List.getElem?_set_ne hij] at hy;obtain ⟨c1, c2⟩ := h4 j _ hy;exact ⟨by rw [World.cell?_setCell_other _ _ _ _ (by intro e; injection e with _ e; exact hij e)]; exact c1, by simpa using c2⟩
theorem Lw.bs {w wr : World} {T : Nat} {L : Tx} (h : Lw w wr T L) {c : Nat} (hc : L.length <= c) (hm : c <= 9223372036854775807) : Bs wr (some ⟨T, 0, none⟩) L.length c L :=
 { len := by rw [bv_length], le := hc, max := hm, nil := (fun h => by cases h), cell := fun _ => ⟨T, 0, rfl, h.2.2.1, fun j u hu => by
   obtain ⟨x, hx, rfl⟩ := bv_get hu;rw [Nat.zero_add]
   exact (h.2.2.2 j x hx).1⟩ }
theorem _root_.List.set_getElem?_self' {α : Type} {l : List α} {i : Nat} {x : α} (h : l[i]? = some x) : l.set i x = l := by
 obtain ⟨hl, rfl⟩ := List.getElem?_eq_some_iff.1 h;exact List.set_getElem_self hl
theorem low_add {x : UInt8} (h1 : 65 <= x.toNat) (h2 : x.toNat <= 90) : low x = x + 32 /\ (low x).toNat = x.toNat + 32 := by
 have : low x = x + 32 := by
  unfold low;rw [if_pos ⟨h1, h2⟩]
 rw [this];refine ⟨rfl, ?_⟩;rw [UInt8.toNat_add];simp;omega
theorem low_out {x : UInt8} (h : ¬ (65 <= x.toNat /\ x.toNat <= 90)) : low x = x := by
 unfold low;rw [if_neg h]
theorem low_step {s : Tx} {i : Nat} {x : UInt8} (hx : s[i]? = some x) : ((s.take i).map low ++ s.drop i).set i (low x) = (s.take (i + 1)).map low ++ s.drop (i + 1) := by
 obtain ⟨hl, rfl⟩ := List.getElem?_eq_some_iff.1 hx;have hlen : ((s.take i).map low).length = i := by simp; omega
 rw [List.set_append_right _ _ (by omega), hlen, Nat.sub_self, List.drop_eq_getElem_cons hl, List.set_cons_zero, take_snoc hx, List.map_append];simp
set_option maxHeartbeats 2000000 in
set_option maxRecDepth 100000 in
theorem rlower_any (s : Tx) (hs : s.length <= 1000000) (w : World) :
  Calls Tryz.prog 55 #[.string (strOf s)] w fun e w' => e = .returned (.string (strOf (s.map low))) /\ Below w.heap.size w w' := by
 have hsz : (strOf s).size = s.length := strOf_size' s;have hcv := Lib.run_convert_string_bytes (P := Tryz.prog) w 9 41 5 (strOf s) Tryz.underlying9 Tryz.underlying41 Tryz.underlying5;have hl0 := Hd (lw_new w s hs);have hg1 := grownCap_ge w (strOf s).size 0 5;have hg2 := grownCap_le_maxLen w (strOf s).size 0 5 (by unfold maxLen; omega);obtain ⟨c, hc⟩ : ∃ c, grownCap w (strOf s).size 0 5 = c := ⟨_, rfl⟩;rw [hc] at hcv hg1 hg2;obtain ⟨n, hn⟩ : ∃ n, s.length = n := ⟨_, rfl⟩;rw [hn] at hs hsz;rw [hsz] at hcv hg1;have hn' := Hd hn;have hg2' : c <= 9223372036854775807 := by unfold maxLen at hg2; omega
 obtain ⟨T, hT⟩ : ∃ T, w.heap.size = T := ⟨_, rfl⟩;obtain ⟨w1, hw1⟩ : ∃ w1, Lib.bytesWorld w 5 (strOf s) = w1 := ⟨_, rfl⟩;rw [hw1] at hcv hl0;rw [hT] at hcv hl0;clear hc hn hg2 hsz
 go_enter Tryz.func55, Tryz.ntmps55
 go_wp2_with fail;clear hcv hw1
 go_loopw [4] (fun v4 wr => ∃ i : Nat, i <= n /\ v4 = .int .i64 (i : Nat) /\ Hid (Lw w wr T ((s.take i).map low ++ s.drop i))) (fun v4 _ => n - (intOf v4).toNat)
 case atStart => exact ⟨0, by omega, rfl, Hd (by simpa using hl0.out)⟩
 case round =>
  obtain ⟨i, hi, rfl, hlw⟩ := hrel
  by_cases hlt : i < n
  ·have i1 : decide ((i : Int) < (n : Int)) = true := by simp; omega
   have q1 : (i : Int) < (n : Int) := by omega
   obtain ⟨x, hx⟩ : ∃ x, s[i]? = some x := ⟨_, List.getElem?_eq_getElem (by rw [hn'.out]; exact hlt)⟩
   have hLi : ((s.take i).map low ++ s.drop i)[i]? = some x := by
    rw [List.getElem?_append_right (by simp; omega)];simp only [List.length_map, List.length_take, List.getElem?_drop];rw [show i + (i - min i s.length) = i from by rw [hn'.out]; omega];exact hx
   obtain ⟨hc1, hf1⟩ := hlw.out.2.2.2 i x hLi;have hx9 := x.toNat_lt
   have hnext : Hid (Lw w (wr.setCell ⟨T, i, none⟩ (.int .u8 ((low x).toNat : Int))) T ((s.take (i + 1)).map low ++ s.drop (i + 1))) := Hd (by
    rw [<- low_step hx]
    exact hlw.out.set (low x) (List.getElem?_eq_some_iff.1 hLi).1)
   by_cases h1 : 65 <= x.toNat
   ·by_cases h2 : x.toNat <= 90
    ·have j1 : decide ((65 : Int) <= (x.toNat : Int)) = true := by simp; omega
     have j2 : decide ((x.toNat : Int) <= 90) = true := by simp; omega
     have e2 := (low_add h1 h2).2;rw [e2] at hnext;have e3 : ((x.toNat + 32 : Nat) : Int) = (x.toNat : Int) + 32 := (by omega);rw [e3] at hnext;clear hLi hx e2 e3;go_wp2_with fail;go_roundw
     case rel => exact ⟨i + 1, by omega, by go_num, hnext⟩
     case measure => simp [intOf]; omega
    ·have j1 : decide ((65 : Int) <= (x.toNat : Int)) = true := by simp; omega
     have j2 : decide ((x.toNat : Int) <= 90) = false := by simp; omega
     have hnext2 : Hid (Lw w wr T ((s.take (i + 1)).map low ++ s.drop (i + 1))) := Hd (by
      rw [<- low_step hx, low_out (by omega), List.set_getElem?_self' hLi]
      exact hlw.out)
     clear hLi hx hnext;go_wp2_with fail;go_roundw
     case rel => exact ⟨i + 1, by omega, by go_num, hnext2⟩
     case measure => simp [intOf]; omega
   ·have j1 : decide ((65 : Int) <= (x.toNat : Int)) = false := by simp; omega
    have hnext2 : Hid (Lw w wr T ((s.take (i + 1)).map low ++ s.drop (i + 1))) := Hd (by
     rw [<- low_step hx, low_out (by omega), List.set_getElem?_self' hLi]
     exact hlw.out)
    clear hLi hx hnext;go_wp2_with fail;go_roundw
    case rel => exact ⟨i + 1, by omega, by go_num, hnext2⟩
    case measure => simp [intOf]; omega
  ·have hie : i = n := by omega
   subst hie;have i1 : decide ((i : Int) < (i : Int)) = false := by simp
   have hlw2 : Lw w wr T (s.map low) := by
    have := hlw.out
    rwa [List.drop_eq_nil_of_le (by rw [hn'.out]; exact Nat.le_refl _), List.append_nil, List.take_of_length_le (by rw [hn'.out]; exact Nat.le_refl _)] at this
   have hbs := hlw2.bs (c := c) (by rw [List.length_map, hn'.out]; exact hg1) hg2';rw [List.length_map, hn'.out] at hbs;have hcb := hbs.conv (P := Tryz.prog) (src := 41) (dst := 9) Tryz.underlying41 Tryz.underlying5 Tryz.underlying9;have hfin := Hd hlw2.1;clear hlw2 hbs hlw;go_wp2_with fail
   (try simp only [Exit.inBlock, Exit.then])
   go_ret;exact ⟨rfl, hfin.out⟩
end Go.Proofs.YtokdnhdfmgfkeaaGreatDoor.Xp
end

section
namespace Go.Proofs.YtokdnhdfmgfkeaaGreatDoor.UtfW
open Go.RowKit
theorem rd_one (w : World) (v : Value) (E : TypeId) : Rd (w.alloc (.cells #[v] E)) (some ⟨w.heap.size, 0, none⟩) 1 1 [v] :=
 { len := rfl, le := Nat.le_refl _, max := by omega, nil := (fun h => by cases h), cell := fun _ => ⟨w.heap.size, 0, rfl, by simp, fun j u hu => by
  obtain rfl : j = 0 := by have := (List.getElem?_eq_some_iff.1 hu).1; simp at this; omega
  simp at hu;subst hu
  exact World.cell?_alloc_at _ _ _ _ rfl⟩ }
end Go.Proofs.YtokdnhdfmgfkeaaGreatDoor.UtfW
end

section
namespace Go.Proofs.YtokdnhdfmgfkeaaGreatDoor.UtfW
open Go.RowKit
def OwI (w : World) (B E : Nat) (v : Value) (rs : List Nat) : Prop := w.ownsRow B E 1 v rs.length (rs.map fun r => Value.int .i32 (r : Nat))
theorem OwI.nil (w : World) (B E : Nat) : OwI w B E (.slice none 0 0) [] := World.ownsRow_nil w B E 1
theorem OwI.below {w w' : World} {B E : Nat} {v : Value} {rs : List Nat} (h1 : OwI w B E v rs) (hb : Below w.heap.size w w') : OwI w' B E v rs :=
 World.ownsRow.kept (row := none) h1 ⟨hb.os, hb.tape, hb.output, hb.size, fun k hk _ => hb.block k hk⟩ (by
  rcases h1.2 with ⟨rfl, _⟩ | ⟨g, cap, cur, rfl, _⟩
  ·exact .inl rfl
  ·right; simp [Value.ownBlock])
theorem OwI.rd {w : World} {B E : Nat} {A : Option Addr} {n c : Nat} {rs : List Nat} (h : OwI w B E (.slice A n c) rs) : Rd w A n c (rs.map fun r => Value.int .i32 (r : Nat)) := by
 have hn : n = rs.length := by
  rcases h.2 with ⟨hv, h0⟩ | ⟨g, cap, cur, hv, _⟩
  ·injection hv with _ h2 _; omega
  ·injection hv
 subst hn;exact rd_of_own h
section
variable {P : Program} {ops : Array Oper} {rest : List Oper} {o : Oper} {a : Act} {Q : Exit -> Act -> World -> Prop}
theorem append_rune (w : World) (t e : TypeId) (ht : P.underlying t = some (.slice e))
  (hinfo : (P.info? e).map (fun i => (i.zero, i.size, i.bytes)) = some (some (.int .i32 0), 1, 4))
  (hgd : o.guard = none) (s x : Operand)
  (ho : o.op = .call { callee := .builtin .append, args := #[s, x], argTypes := #[t, t] })
  (B : Nat) (v : Value) (la : List Nat) (hs : a.eval s = v) (hown : OwI w B e v la)
  (A : Option Addr) (c : Nat) (r : Nat) (hx : a.eval x = .slice A 1 c) (hr : Rd w A 1 c [.int .i32 (r : Nat)])
  (N : Nat) (hN : la.length + 1 = N) (hsz : N <= 35184372088832) (hB : B <= w.heap.size)
  (h : ∀ A' c' w', OwI w' B e (.slice A' N c') (la ++ [r]) -> w.grownBy w' v.ownBlock -> Below B w w' -> wpList P ops Q rest (a.put o.dst (.slice A' N c')) w') :
  wpList P ops Q (o :: rest) a w := by
 refine wpList_append_rd w hgd s x t ho B e (.int .i32 0) 4 ht hinfo rfl v la.length (la.map fun r => Value.int .i32 (r : Nat)) hs hown A 1 c [.int .i32 (r : Nat)] hx hr (fun u hu => ?_) (by omega) (by omega) hB ?_
 ·rw [List.mem_singleton.1 hu];rfl
 intro A' c' w' h1 h2 h3 _;rw [hN] at h1 ⊢;refine h A' c' w' ?_ h2 h3;unfold OwI;rw [List.map_append, List.length_append, show la.length + [r].length = N from hN];exact h1
end
theorem i32_info : (Tryz.prog.info? 21).map (fun i => (i.zero, i.size, i.bytes)) = some (some (.int .i32 0), 1, 4) := by kernel_rfl
theorem bs_convert (w : World) (s : ByteArray) (hs : s.size <= 281474976710656) :
  Bs (Lib.bytesWorld w 5 s) (some ⟨w.heap.size, 0, none⟩) s.size (grownCap w s.size 0 5) s.data.toList /\ Below w.heap.size w (Lib.bytesWorld w 5 s) := by
 have hl : s.data.toList.length = s.size := by rw [Array.length_toList]; rfl
 refine ⟨{ len := by rw [bv_length, hl], le := grownCap_ge _ _ _ _, max := ?_, nil := (fun h => by cases h), cell := fun h0 => ⟨w.heap.size, 0, rfl, by rw [Lib.bytesWorld_size]; omega, ?_⟩ }, ?_⟩
 ·have := grownCap_le_maxLen w s.size 0 5 (by unfold maxLen; omega);unfold maxLen at this;omega
 ·intro j u hu;obtain ⟨x, hx, rfl⟩ := bv_get hu;have hj : j < s.size := by rw [<- hl]; exact (List.getElem?_eq_some_iff.1 hx).1
  rw [Nat.zero_add, Lib.bytesWorld_cell w 5 s j hj, List.getD_eq_getElem?_getD, hx];rfl
 ·exact ⟨rfl, rfl, rfl, by rw [Lib.bytesWorld_size]; omega, fun k hk => Lib.bytesWorld_at_old w 5 s k hk⟩
set_option maxHeartbeats 2000000 in
set_option maxRecDepth 100000 in
theorem refRunes_any (s : ByteArray) (hs : s.size <= 35184372088832) (w : World) :
  Calls Tryz.prog 84 #[.string s] w fun e w' => ∃ A n c ok, e = .returned (.tuple #[.slice A n c, .bool ok]) ∧
   ((ok = false /\ runesW s.data.toList 0 = none) \/ (ok = true /\ ∃ rs, runesW s.data.toList 0 = some rs /\ rs.length = n /\ OwI w' w.heap.size 21 (.slice A n c) rs)) /\ Below w.heap.size w w' := by
 obtain ⟨hbs, hbw⟩ := bs_convert w s (by omega)
 have hcv : (convert 9 41 (.string s)).run Tryz.prog w = .ok (.slice (some ⟨w.heap.size, 0, none⟩) s.size (grownCap w s.size 0 5)) (Lib.bytesWorld w 5 s) :=
  Lib.run_convert_string_bytes w 9 41 5 s Tryz.underlying9 Tryz.underlying41 Tryz.underlying5
 obtain ⟨cb, hcb⟩ : ∃ cb, grownCap w s.size 0 5 = cb := ⟨_, rfl⟩;obtain ⟨wb, hwb⟩ : ∃ wb, Lib.bytesWorld w 5 s = wb := ⟨_, rfl⟩;rw [hcb, hwb] at hcv;rw [hcb, hwb] at hbs;rw [hwb] at hbw;clear hcb hwb;obtain ⟨n, hn⟩ : ∃ n, s.size = n := ⟨_, rfl⟩;rw [hn] at hs hcv hbs;obtain ⟨l, hl⟩ : ∃ l, s.data.toList = l := ⟨_, rfl⟩;rw [hl] at hbs ⊢;clear hl hn;have HL : Hid (l.length = n) := hbs.len;have hB := hbw.size;have hbw' := Hd hbw;clear hbw
 go_enter Tryz.func84, Tryz.ntmps84
 go_wp2_with fail
 go_loopw [5, 6] (fun out v wr => ∃ (k : Nat) (A : Option Addr) (c m : Nat) (rs : List Nat), k <= n /\ m <= k /\ v = .int .i64 (k : Nat) /\ out = .slice A m c /\ rs.length = m /\ Hid (runesW l 0 = (runesW l k).map (rs ++ ·)) /\ Hid (OwI wr wb.heap.size 21 out rs) /\ Hid (Below wb.heap.size wb wr)) (fun _ v _ => n - (intOf v).toNat)
 case atStart => exact ⟨0, none, 0, 0, [], by omega, by omega, rfl, rfl, rfl, Hd (by cases runesW l 0 <;> simp), Hd (OwI.nil _ _ _), Hd (Below.refl _ _)⟩
 case round =>
  obtain ⟨k, A, c, m, rs, hk, hmk, rfl, rfl, hm, hr, ho, hbb⟩ := hrel
  by_cases hlt : k < n
  ·have i0 : decide ((k : Int) < (n : Int)) = true := by simp; omega
   have hl : k < l.length := by rw [HL.out]; exact hlt
   have hle := nx_le hl;rw [HL.out] at hle;have hc := refNext_any _ n cb l k (by omega) wr (hbs.below hbb.out);rw [nxI_nat] at hc;obtain ⟨P, hP⟩ : ∃ P, nx l k = P := ⟨_, rfl⟩;rw [hP] at hc hle;have hP' := Hd hP;clear hP;obtain ⟨r, d⟩ := P;unfold nxV at hc;simp only at hc hle;go_wp2_with fail;refine hc.mono ?_;rintro e w1 ⟨rfl, hb1⟩;have hxb := Hd (hbb.out.trans (hb1.mono hbb.out.size));have ho1 := Hd (ho.out.below hb1);have hsz1 := hb1.size;have hB0 := hbb.out.size;clear hb1 hc;have hl' := Hd hl;clear hl
   by_cases hd : d = 0
   ·subst hd;go_wp2_with fail
    go_ret2
    refine ⟨_, _, _, _, rfl, .inl ⟨rfl, ?_⟩, hbw'.out.trans (hxb.out.mono hB)⟩;rw [hr.out, runesW_stop hl'.out (by rw [hP'.out])];rfl
   ·have j1 : ((d : Int) == 0) = false := by rw [beq_eq_false_iff_ne]; omega
    have j2 : decide ((d : Int) = 0) = false := by simp; omega
    go_wp2_with (at_builtin; apply stop_here)
    refine Stop.go (append_rune _ 113 21 Tryz.underlying113 i32_info rfl _ _ rfl wb.heap.size _ rs rfl (ho1.out.below (below_alloc _ _)) _ 1 r rfl ?_ (m + 1) (by omega) (by omega) (by simp; omega) ?_)
    ·exact rd_one _ _ _
    intro A' c' w' h1 h2 h3;have h1' := Hd h1;have hxb3 := Hd ((hxb.out.trans ((below_alloc _ _).mono hxb.out.size)).trans h3);clear h1 h2 h3;go_wp2_with fail;go_roundw
    case rel =>
     refine ⟨k + d, A', c', m + 1, rs ++ [r], by omega, by omega, by go_num, rfl, by simp; omega, Hd ?_, h1', hxb3⟩;have := runesW_on hl'.out (by rw [hP'.out]; exact hd);rw [hP'.out] at this;rw [hr.out, this]
     cases runesW l (k + d) <;> simp
    case measure => simp [intOf]; omega
  ·have i0 : decide ((k : Int) < (n : Int)) = false := by simp; omega
   go_wp2_with fail
   go_ret2
   refine ⟨_, _, _, _, rfl, .inr ⟨rfl, rs, ?_, hm, ownsRow_base ho.out hB⟩, hbw'.out.trans (hbb.out.mono hB)⟩;rw [hr.out, runesW_end (by rw [HL.out]; omega)];simp
set_option maxHeartbeats 2000000 in
set_option maxRecDepth 100000 in
theorem refName_any (s : ByteArray) (hs : s.size <= 35184372088832) (w : World) :
  Calls Tryz.prog 54 #[.string s] w fun e w' => e = .returned (.bool (nameR s.data.toList)) /\ Below w.heap.size w w' := by
 obtain ⟨R, hR⟩ : ∃ R, nameR s.data.toList = R := ⟨_, rfl⟩;rw [hR];have hR' := Hd hR;clear hR
 go_enter Tryz.func54, Tryz.ntmps54
 go_wp2_with fail;refine (refRunes_any s hs w).mono ?_;rintro e w1 ⟨A, n, c, ok, rfl, hok, hb⟩;have hb' := Hd hb;clear hb;rcases hok with ⟨rfl, hno⟩ | ⟨rfl, rs, hrs, hn, ho⟩
 ·have hr : R = false := by rw [<- hR'.out, nameR, hno]
  subst hr;clear hno;go_wp2_with fail;go_ret;exact ⟨rfl, hb'.out⟩
 ·have hrd := ho.rd;have hm := hrd.max;have hle := hrd.le;have ho' := Hd ho;have hrs' := Hd hrs;have hn' := Hd hn;clear ho hrs
  cases rs with
  | nil =>
   have hr : R = false := by rw [<- hR'.out, nameR, hrs'.out]
   subst hr;simp at hn;subst hn;go_wp2_with fail;go_ret;exact ⟨rfl, hb'.out⟩
  | cons r rs' =>
   have hR2 : R = (Begins (r : Nat) && ((r :: rs').all fun x => GoesOn (x : Nat))) := by rw [<- hR'.out, nameR, hrs'.out]; simp
   have hn0 : 0 < n := by rw [<- hn'.out]; simp
   clear hn;obtain ⟨b, off, u, rfl, hbl, hu, hc⟩ := hrd.at_ hn0;simp at hu;subst hu;rw [Nat.add_zero] at hc;have hR2' := Hd hR2;clear hR2;have j1 : ((n : Int) == 0) = false := by rw [beq_eq_false_iff_ne]; omega
   have j2 : decide ((n : Int) = 0) = false := by simp; omega
   have j3 : (0 : Int) < (n : Int) := by omega
   cases hbg : Begins (r : Nat)
   ·have hr : R = false := (by rw [hR2'.out, hbg, Bool.false_and]);subst hr;go_wp2_with fail;refine (refbegins_any r w1).mono ?_;rintro e w2 ⟨rfl, rfl⟩;rw [hbg];go_wp2_with fail;go_ret;exact ⟨rfl, hb'.out⟩
   ·have hr : R = ((r :: rs').all fun x => GoesOn (x : Nat)) := (by rw [hR2'.out, hbg, Bool.true_and]);have hr' := Hd hr;clear hr;go_wp2_with fail;refine (refbegins_any r w1).mono ?_;rintro e w2 ⟨rfl, rfl⟩;rw [hbg];go_wp2_with fail
    go_loop [5] (fun v => ∃ k : Nat, k <= n /\ v = .int .i64 (k : Nat) /\ Hid (((r :: rs').take k).all fun x => GoesOn (x : Nat))) (fun v => n - (intOf v).toNat)
    case atStart => exact ⟨0, by omega, rfl, Hd rfl⟩
    case round =>
     obtain ⟨k, hk, rfl, ha⟩ := hrel
     by_cases hlt : k < n
     ·have i0 : decide ((k : Int) < (n : Int)) = true := by simp; omega
      obtain ⟨b', off', u, he, _, hu, hck⟩ := hrd.at_ hlt;simp only [Option.some.injEq, Addr.mk.injEq, and_true] at he;obtain ⟨rfl, rfl⟩ := he;rw [List.getElem?_map, Option.map_eq_some_iff] at hu;obtain ⟨x, hx, rfl⟩ := hu;have hx' := Hd hx;clear hx;have i1 : (k : Int) < (n : Int) := (by omega);go_wp2_with fail;refine (refgoeson_any x w2).mono ?_;rintro e w3 ⟨rfl, rfl⟩
      cases hg : GoesOn (x : Nat)
      ·have hr : R = false := by
        rw [hr'.out, List.all_eq_false];exact ⟨x, List.mem_of_getElem? hx'.out, by rw [hg]; simp⟩
       subst hr;go_wp2_with fail;go_ret;exact ⟨rfl, hb'.out⟩
      ·go_wp2_with fail
       go_round
       case rel =>
        refine ⟨k + 1, by omega, by go_num, Hd ?_⟩;rw [take_snoc hx'.out, List.all_append, ha.out];simp [hg]
       case measure => simp [intOf]; omega
     ·have i0 : decide ((k : Int) < (n : Int)) = false := by simp; omega
      have hr : R = true := by
       have := ha.out;rw [List.take_of_length_le (by have := hn'.out; omega)] at this;rw [hr'.out, this]
      subst hr;go_wp2_with fail;go_ret;exact ⟨rfl, hb'.out⟩
end Go.Proofs.YtokdnhdfmgfkeaaGreatDoor.UtfW
end

section
namespace Go.Proofs.YtokdnhdfmgfkeaaGreatDoor.Xp
open Go.RowKit UtfW Xl Xo Xt
theorem fair_good {kd : Int} {nm tx : Tx} {as_ : List At} {ks : List Nd} (h : fairN (.mk kd nm tx as_ ks) = true) : good tx = true := by
 rw [fairN] at h
 split at h
 ·simp only [Bool.and_eq_true, decide_eq_true_eq] at h;rw [h.1.1.2];exact V_good Qx.V.nil
 ·split at h
  ·simp only [Bool.and_eq_true] at h;exact h.2
  ·split at h
   ·simp only [Bool.and_eq_true] at h;have := h.1.1.2;unfold plainT at this;simp only [Bool.and_eq_true] at this;exact this.1
   ·split at h
    ·simp only [Bool.and_eq_true] at h;have := h.1.1.2;unfold plainT at this;simp only [Bool.and_eq_true] at this;exact this.1
    ·cases h
set_option maxHeartbeats 16000000 in
set_option maxRecDepth 100000 in
theorem rfair_rest (w : World) (kd : Int) (nm tx : Tx) (as_ : List At) (ks : List Nd) (A : Option Addr) (ca : Nat) (A2 : Option Addr) (c2 : Nat) (h1 : kd ≠ 1) (z1 : nm.length <= 1000000) (z2 : tx.length <= 1000000) :
  Calls Tryz.prog 17 #[.agg #[.int .i64 kd, .string (strOf nm), .string (strOf tx), .slice A as_.length ca, .slice A2 ks.length c2]] w fun e w' => e = .returned (.bool (fairN (.mk kd nm tx as_ ks))) /\ Below w.heap.size w w' := by
 obtain ⟨n1, hn1⟩ : ∃ n, as_.length = n := ⟨_, rfl⟩;obtain ⟨n2, hn2⟩ : ∃ n, ks.length = n := ⟨_, rfl⟩;rw [hn1, hn2];obtain ⟨S1, hS1⟩ : ∃ S, strOf nm = S := ⟨_, rfl⟩;obtain ⟨S2, hS2⟩ : ∃ S, strOf tx = S := ⟨_, rfl⟩;rw [hS1, hS2];have hba := below_alloc w (.cells #[.int .i64 kd, .string S1, .string S2, .slice A n1 ca, .slice A2 n2 c2] 25);have hnb := heap_alloc_new w (.cells #[.int .i64 kd, .string S1, .string S2, .slice A n1 ca, .slice A2 n2 c2] 25);obtain ⟨T, hT⟩ : ∃ T, w.heap.size = T := ⟨_, rfl⟩;obtain ⟨w1, hw1⟩ : ∃ w1, w.alloc (.cells #[.int .i64 kd, .string S1, .string S2, .slice A n1 ca, .slice A2 n2 c2] 25) = w1 := ⟨_, rfl⟩;rw [hw1] at hba hnb;rw [hT] at hnb;have hTb : Hid (∀ x, Below w1.heap.size w1 x -> x.heap[T]? = some (.cells #[.int .i64 kd, .string S1, .string S2, .slice A n1 ca, .slice A2 n2 c2] 25)) := Hd fun x hx => (hx.block T (Array.getElem?_eq_some_iff.1 hnb).1).trans hnb
 have hnc := Hd (fun (x : World) (_hx : Below w1.heap.size w1 x) => refName_any S1 (by rw [<- hS1, strOf_size']; omega) x);have e1 : S1.data.toList = nm := by rw [<- hS1]; simp [strOf]
 rw [e1] at hnc;have hcc1 := Hd (fun (x : World) (_hx : Below w1.heap.size w1 x) => rhas_any tx [13] (by omega) (by decide) (by decide) x);have hcc3 := Hd (fun (x : World) (_hx : Below w1.heap.size w1 x) => rhas_any tx [45, 45] (by omega) (by decide) (by decide) x);have hcc4 := Hd (fun (x : World) (_hx : Below w1.heap.size w1 x) => rhas_any tx [63, 62] (by omega) (by decide) (by decide) x);have hlc := Hd (fun (x : World) (_hx : Below w1.heap.size w1 x) => rlower_any nm (by omega) x);rw [hS2] at hcc1 hcc3 hcc4;rw [hS1] at hlc;have hz : S2.size = tx.length := by rw [<- hS2]; exact strOf_size' tx
 obtain ⟨hbs, hbl⟩ := bs_convert w1 S2 (by omega);have e2 : S2.data.toList = tx := by rw [<- hS2]; simp [strOf]
 rw [e2] at hbs;have hcv := Lib.run_convert_string_bytes (P := Tryz.prog) w1 9 41 5 S2 Tryz.underlying9 Tryz.underlying41 Tryz.underlying5;have hbd := Hd (refBad_any _ _ _ tx (by omega) (Lib.bytesWorld w1 5 S2) hbs);have hblH := Hd hbl;have y0 : w1.cell? ⟨T, 0, none⟩ = some (.int .i64 kd) := Xp.cell_blk hnb rfl;have y1 : w1.cell? ⟨T, 1, none⟩ = some (.string S1) := Xp.cell_blk hnb rfl;have y2 : w1.cell? ⟨T, 2, none⟩ = some (.string S2) := Xp.cell_blk hnb rfl;have y3 : w1.cell? ⟨T, 3, none⟩ = some (.slice A n1 ca) := Xp.cell_blk hnb rfl;have y4 : w1.cell? ⟨T, 4, none⟩ = some (.slice A2 n2 c2) := Xp.cell_blk hnb rfl;have hbaH := Hd hba;have ez1 : S1.toList.isEmpty = nm.isEmpty := by rw [<- hS1, strOf_empty]
 have ez2 : S2.toList.isEmpty = tx.isEmpty := by rw [<- hS2, strOf_empty]
 have hS2H := Hd hS2;have hz2H := Hd z2;have l1 : as_.isEmpty = decide (n1 = 0) := by rw [<- hn1]; cases as_ <;> simp
 have l2 : ks.isEmpty = decide (n2 = 0) := by rw [<- hn2]; cases ks <;> simp
 clear hn1 hn2;have k1 : (kd == 1) = false := by simpa using h1
 have k1' : (kd != 1) = true := by simpa using h1
 clear hnb hba e1 z1 z2 hS1 hS2 hbs hbl e2 hz;obtain ⟨C1, hC1⟩ : ∃ b, (find [13] tx).isSome = b := ⟨_, rfl⟩;obtain ⟨C3, hC3⟩ : ∃ b, (find [45, 45] tx).isSome = b := ⟨_, rfl⟩;obtain ⟨C4, hC4⟩ : ∃ b, (find [63, 62] tx).isSome = b := ⟨_, rfl⟩;obtain ⟨LX, hLX⟩ : ∃ b, decide (nm.map low = xml3) = b := ⟨_, rfl⟩;obtain ⟨NM, hNM⟩ : ∃ b, nameR nm = b := ⟨_, rfl⟩;have f1 : decide (13 ∉ tx) = !C1 := by rw [<- hC1, find_one]; simp
 have f3 : (find [45, 45] tx).isNone = !C3 := by rw [<- hC3]; cases find [45, 45] tx <;> rfl
 have f4 : (find [63, 62] tx).isNone = !C4 := by rw [<- hC4]; cases find [63, 62] tx <;> rfl
 have fl : decide (nm.map low ≠ xml3) = !LX := by rw [<- hLX]; simp
 rw [hC1] at hcc1;rw [hC3] at hcc3;rw [hC4] at hcc4;rw [hNM] at hnc;replace hLX := Hd hLX;obtain ⟨BW, hBW⟩ : ∃ b, badW tx 0 = b := ⟨_, rfl⟩;rw [hBW] at hbd;obtain ⟨R, hRe⟩ : ∃ R, fairN (.mk kd nm tx as_ ks) = R := ⟨_, rfl⟩;rw [hRe]
 by_cases hg : 0 <= BW
 ·have g1 : decide (0 <= BW) = true := decide_eq_true hg
  have hR : Hid (R = false) := Hd (by
   rw [<- hRe, Bool.eq_false_iff];intro hc;have := fair_good hc;unfold good at this;rw [hBW, decide_eq_true_eq] at this
   omega)
  clear l1 l2 hRe hBW hC1 hC3 hC4 hNM f1 f3 f4 fl hnc hcc1 hcc3 hcc4 hlc ez1 ez2
  go_enter Tryz.func17, Tryz.ntmps17
  go_wp2_with fail;refine hbd.out.mono ?_;rintro e w2 ⟨rfl, hbw2⟩;have hqw2 := Xp.tr_ hblH hbw2;clear hbw2 y0 y1 y2 y3 y4 hcv;obtain ⟨y0, y1, y2, y3, y4⟩ := Xp.cz5 (hTb.out w2 hqw2.out);have hRf : Hid (R = false) := Hd (by rw [hR.out]);have hfin := Xp.tu_ hbaH hqw2;clear hR;go_wp2_with fail
  (try simp only [Exit.inBlock, Exit.then])
  go_ret;exact ⟨by rw [hRf.out]; rfl, hfin.out⟩
 have g1 : decide (0 <= BW) = false := decide_eq_false hg
 have hGD : good tx = true := by
  unfold good;rw [hBW, decide_eq_true_eq];omega
 have hPL : plainT tx = !C1 := by
  unfold plainT;rw [hGD, f1];rfl
 clear hBW f1;rw [fairN, if_neg h1] at hRe;rw [l1, l2, hGD, hNM, hPL, f3, f4, fl] at hRe;clear l1 l2 hGD hNM hPL hC1 hC3 hC4 f3 f4 fl h1
 by_cases hEE : n1 = 0 /\ n2 = 0
 ·obtain ⟨rfl, rfl⟩ := hEE
  by_cases h2 : kd = 2
  ·subst h2;rw [if_pos rfl, decide_eq_true (rfl : (0 : Nat) = 0), Bool.true_and, Bool.true_and] at hRe;clear hnc hcc1 hcc3 hcc4 hlc
   cases nm with
   | nil =>
    cases tx with
    | nil =>
     have e1 : S1.toList.isEmpty = true := ez1;have e2 : S2.toList.isEmpty = true := ez2;rw [decide_eq_true (rfl), decide_eq_false (by simp)] at hRe;have hR := Hd hRe;clear hRe ez1 ez2
     go_enter Tryz.func17, Tryz.ntmps17
     go_wp2_with fail;refine hbd.out.mono ?_;rintro e w2 ⟨rfl, hbw2⟩;have hqw2 := Xp.tr_ hblH hbw2;clear hbw2 y0 y1 y2 y3 y4 hcv;obtain ⟨y0, y1, y2, y3, y4⟩ := Xp.cz5 (hTb.out w2 hqw2.out);have hRf : Hid (R = false) := Hd (by rw [<- hR.out]; simp);have hfin := Xp.tu_ hbaH hqw2;clear hR;go_wp2_with fail
     (try simp only [Exit.inBlock, Exit.then])
     go_ret;exact ⟨by rw [hRf.out]; rfl, hfin.out⟩
    | cons c0 r0 =>
     have e1 : S1.toList.isEmpty = true := ez1;have e2 : S2.toList.isEmpty = false := ez2;rw [decide_eq_true (rfl), decide_eq_true (by simp)] at hRe;have hR := Hd hRe;clear hRe ez1 ez2
     go_enter Tryz.func17, Tryz.ntmps17
     go_wp2_with fail;refine hbd.out.mono ?_;rintro e w2 ⟨rfl, hbw2⟩;have hqw2 := Xp.tr_ hblH hbw2;clear hbw2 y0 y1 y2 y3 y4 hcv;obtain ⟨y0, y1, y2, y3, y4⟩ := Xp.cz5 (hTb.out w2 hqw2.out);have hRf : Hid (R = true) := Hd (by rw [<- hR.out]; simp);have hfin := Xp.tu_ hbaH hqw2;clear hR;go_wp2_with fail
     (try simp only [Exit.inBlock, Exit.then])
     go_ret;exact ⟨by rw [hRf.out]; rfl, hfin.out⟩
   | cons c1 r1 =>
    cases tx with
    | nil =>
     have e1 : S1.toList.isEmpty = false := ez1;have e2 : S2.toList.isEmpty = true := ez2;rw [decide_eq_false (by simp), decide_eq_false (by simp)] at hRe;have hR := Hd hRe;clear hRe ez1 ez2
     go_enter Tryz.func17, Tryz.ntmps17
     go_wp2_with fail;refine hbd.out.mono ?_;rintro e w2 ⟨rfl, hbw2⟩;have hqw2 := Xp.tr_ hblH hbw2;clear hbw2 y0 y1 y2 y3 y4 hcv;obtain ⟨y0, y1, y2, y3, y4⟩ := Xp.cz5 (hTb.out w2 hqw2.out);have hRf : Hid (R = false) := Hd (by rw [<- hR.out]; simp);have hfin := Xp.tu_ hbaH hqw2;clear hR;go_wp2_with fail
     (try simp only [Exit.inBlock, Exit.then])
     go_ret;exact ⟨by rw [hRf.out]; rfl, hfin.out⟩
    | cons c0 r0 =>
     have e1 : S1.toList.isEmpty = false := ez1;have e2 : S2.toList.isEmpty = false := ez2;rw [decide_eq_false (by simp), decide_eq_true (by simp)] at hRe;have hR := Hd hRe;clear hRe ez1 ez2
     go_enter Tryz.func17, Tryz.ntmps17
     go_wp2_with fail;refine hbd.out.mono ?_;rintro e w2 ⟨rfl, hbw2⟩;have hqw2 := Xp.tr_ hblH hbw2;clear hbw2 y0 y1 y2 y3 y4 hcv;obtain ⟨y0, y1, y2, y3, y4⟩ := Xp.cz5 (hTb.out w2 hqw2.out);have hRf : Hid (R = false) := Hd (by rw [<- hR.out]; simp);have hfin := Xp.tu_ hbaH hqw2;clear hR;go_wp2_with fail
     (try simp only [Exit.inBlock, Exit.then])
     go_ret;exact ⟨by rw [hRf.out]; rfl, hfin.out⟩
  rw [if_neg h2] at hRe;have k2 : (kd == 2) = false := by simpa using h2
  by_cases h3 : kd = 3
  ·subst h3;rw [if_pos rfl, decide_eq_true (rfl : (0 : Nat) = 0), Bool.true_and, Bool.true_and] at hRe;clear hnc hcc4 hlc h2
   cases nm with
   | nil =>
    have e1 : S1.toList.isEmpty = true := ez1;rw [decide_eq_true (rfl)] at hRe
    cases hlast : tx.getLast? with
    | none =>
     have e2 : S2.toList.isEmpty = true := by
      rw [ez2, List.getLast?_eq_none_iff.1 hlast];rfl
     rw [hlast] at hRe;have hR := Hd hRe;clear hRe ez1 ez2 hlast
     go_enter Tryz.func17, Tryz.ntmps17
     go_wp2_with fail;refine hbd.out.mono ?_;rintro e w2 ⟨rfl, hbw2⟩;have hqw2 := Xp.tr_ hblH hbw2;clear hbw2 y0 y1 y2 y3 y4 hcv;obtain ⟨y0, y1, y2, y3, y4⟩ := Xp.cz5 (hTb.out w2 hqw2.out);go_wp2_with fail;refine (hcc1.out w2 hqw2.out).mono ?_;rintro e w11 ⟨rfl, hbw11⟩;have hqw11 := Xp.tr_ hqw2 hbw11;clear hbw11 y0 y1 y2 y3 y4;obtain ⟨y0, y1, y2, y3, y4⟩ := Xp.cz5 (hTb.out w11 hqw11.out)
     cases C1 with
     | true =>
      have hRf : Hid (R = false) := Hd (by rw [<- hR.out]; simp);have hfin := Xp.tu_ hbaH hqw11;clear hR;go_wp2_with fail
      (try simp only [Exit.inBlock, Exit.then])
      go_ret;exact ⟨by rw [hRf.out]; rfl, hfin.out⟩
     | false =>
      go_wp2_with fail;refine (hcc3.out w11 hqw11.out).mono ?_;rintro e w12 ⟨rfl, hbw12⟩;have hqw12 := Xp.tr_ hqw11 hbw12;clear hbw12 y0 y1 y2 y3 y4;obtain ⟨y0, y1, y2, y3, y4⟩ := Xp.cz5 (hTb.out w12 hqw12.out)
      cases C3 with
      | true =>
       have hRf : Hid (R = false) := Hd (by rw [<- hR.out]; simp);have hfin := Xp.tu_ hbaH hqw12;clear hR;go_wp2_with fail
       (try simp only [Exit.inBlock, Exit.then])
       go_ret;exact ⟨by rw [hRf.out]; rfl, hfin.out⟩
      | false =>
       have hRf : Hid (R = true) := Hd (by rw [<- hR.out]; simp);have hfin := Xp.tu_ hbaH hqw12;clear hR;go_wp2_with fail
       (try simp only [Exit.inBlock, Exit.then])
       go_ret;exact ⟨by rw [hRf.out]; rfl, hfin.out⟩
    | some x =>
     obtain ⟨N, hN⟩ : ∃ N, tx.length = N + 1 := by
      cases tx with
      | nil => simp at hlast
      | cons a l => exact ⟨l.length, rfl⟩
     have e2 : S2.toList.isEmpty = false := by
      rw [ez2]
      cases tx with
      | nil => simp at hlast
      | cons a l => rfl
     have hxN : tx[N]? = some x := by
      rw [List.getLast?_eq_getElem?, hN, Nat.add_sub_cancel] at hlast;exact hlast
     have hszH := Hd (show S2.size = N + 1 by rw [<- hS2H.out, strOf_size', hN]);replace hz2H := hz2H.out;rw [hN] at hz2H;replace hz2H := Hd hz2H;have hxNH := Hd hxN;rw [hlast] at hRe;obtain ⟨SX, hSX⟩ : ∃ b, decide (x = 45) = b := ⟨_, rfl⟩;have hsx : decide (some x ≠ some (45 : UInt8)) = !SX := by rw [<- hSX]; simp
     have hsy : (((x.toNat : Nat) : Int) != 45) = !SX := by
      rw [<- hSX, <- decide_not, Bool.eq_iff_iff, bne_iff_ne, decide_eq_true_eq];constructor
      ·intro h e;rw [e] at h;exact h rfl
      ·intro h e;apply h;apply UInt8.toNat_inj.1;have : x.toNat = 45 := (by omega);rw [this];rfl
     rw [hsx] at hRe;have hR := Hd hRe;clear hRe ez1 ez2 hlast hsx hSX hxN hN
     go_enter Tryz.func17, Tryz.ntmps17
     go_wp2_with fail;refine hbd.out.mono ?_;rintro e w2 ⟨rfl, hbw2⟩;have hqw2 := Xp.tr_ hblH hbw2;clear hbw2 y0 y1 y2 y3 y4 hcv;obtain ⟨y0, y1, y2, y3, y4⟩ := Xp.cz5 (hTb.out w2 hqw2.out);have hsz := hszH.out;have hz2 := hz2H.out;have hlt0 : N < S2.size := by omega
     have hgx : S2[N]'hlt0 = x := by
      have h9 := hS2H.out;have hxN := hxNH.out;subst h9;exact str_at hxN hlt0
     have hc9 := x.toNat_lt;go_wp2_with fail;refine (hcc1.out w2 hqw2.out).mono ?_;rintro e w13 ⟨rfl, hbw13⟩;have hqw13 := Xp.tr_ hqw2 hbw13;clear hbw13 y0 y1 y2 y3 y4;obtain ⟨y0, y1, y2, y3, y4⟩ := Xp.cz5 (hTb.out w13 hqw13.out)
     cases C1 with
     | true =>
      have hRf : Hid (R = false) := Hd (by rw [<- hR.out]; simp);have hfin := Xp.tu_ hbaH hqw13;clear hR;go_wp2_with fail
      (try simp only [Exit.inBlock, Exit.then])
      go_ret;exact ⟨by rw [hRf.out]; rfl, hfin.out⟩
     | false =>
      go_wp2_with fail;refine (hcc3.out w13 hqw13.out).mono ?_;rintro e w14 ⟨rfl, hbw14⟩;have hqw14 := Xp.tr_ hqw13 hbw14;clear hbw14 y0 y1 y2 y3 y4;obtain ⟨y0, y1, y2, y3, y4⟩ := Xp.cz5 (hTb.out w14 hqw14.out)
      cases C3 with
      | true =>
       have hRf : Hid (R = false) := Hd (by rw [<- hR.out]; simp);have hfin := Xp.tu_ hbaH hqw14;clear hR;go_wp2_with fail
       (try simp only [Exit.inBlock, Exit.then])
       go_ret;exact ⟨by rw [hRf.out]; rfl, hfin.out⟩
      | false =>
       cases SX with
       | true =>
        have hRf : Hid (R = false) := Hd (by rw [<- hR.out]; simp);have hfin := Xp.tu_ hbaH hqw14;clear hR;go_wp2_with fail
        (try simp only [Exit.inBlock, Exit.then])
        go_ret;exact ⟨by rw [hRf.out]; rfl, hfin.out⟩
       | false =>
        have hRf : Hid (R = true) := Hd (by rw [<- hR.out]; simp);have hfin := Xp.tu_ hbaH hqw14;clear hR;go_wp2_with fail
        (try simp only [Exit.inBlock, Exit.then])
        go_ret;exact ⟨by rw [hRf.out]; rfl, hfin.out⟩
   | cons c1 r1 =>
    have e1 : S1.toList.isEmpty = false := ez1;rw [decide_eq_false (by simp)] at hRe;have hR := Hd hRe;clear hRe ez1 ez2 hcc1 hcc3
    go_enter Tryz.func17, Tryz.ntmps17
    go_wp2_with fail;refine hbd.out.mono ?_;rintro e w2 ⟨rfl, hbw2⟩;have hqw2 := Xp.tr_ hblH hbw2;clear hbw2 y0 y1 y2 y3 y4 hcv;obtain ⟨y0, y1, y2, y3, y4⟩ := Xp.cz5 (hTb.out w2 hqw2.out);have hRf : Hid (R = false) := Hd (by rw [<- hR.out]; simp);have hfin := Xp.tu_ hbaH hqw2;clear hR;go_wp2_with fail
    (try simp only [Exit.inBlock, Exit.then])
    go_ret;exact ⟨by rw [hRf.out]; rfl, hfin.out⟩
  rw [if_neg h3] at hRe;have k3 : (kd == 3) = false := by simpa using h3
  by_cases h4 : kd = 4
  ·subst h4;rw [if_pos rfl, decide_eq_true (rfl : (0 : Nat) = 0), Bool.true_and, Bool.true_and] at hRe;clear hcc3 h2 h3
   cases tx with
   | nil =>
    have e2 : S2.toList.isEmpty = true := ez2;have hR := Hd hRe;clear hRe ez1 ez2
    go_enter Tryz.func17, Tryz.ntmps17
    go_wp2_with fail;refine hbd.out.mono ?_;rintro e w2 ⟨rfl, hbw2⟩;have hqw2 := Xp.tr_ hblH hbw2;clear hbw2 y0 y1 y2 y3 y4 hcv;obtain ⟨y0, y1, y2, y3, y4⟩ := Xp.cz5 (hTb.out w2 hqw2.out);go_wp2_with fail;refine (hnc.out w2 hqw2.out).mono ?_;rintro e w15 ⟨rfl, hbw15⟩;have hqw15 := Xp.tr_ hqw2 hbw15;clear hbw15 y0 y1 y2 y3 y4;obtain ⟨y0, y1, y2, y3, y4⟩ := Xp.cz5 (hTb.out w15 hqw15.out)
    cases NM with
    | false =>
     have hRf : Hid (R = false) := Hd (by rw [<- hR.out]; simp [headOk]);have hfin := Xp.tu_ hbaH hqw15;clear hR;go_wp2_with fail
     (try simp only [Exit.inBlock, Exit.then])
     go_ret;exact ⟨by rw [hRf.out]; rfl, hfin.out⟩
    | true =>
     go_wp2_with fail;refine (hlc.out w15 hqw15.out).mono ?_;rintro e w16 ⟨rfl, hbw16⟩;have hqw16 := Xp.tr_ hqw15 hbw16;clear hbw16 y0 y1 y2 y3 y4;obtain ⟨y0, y1, y2, y3, y4⟩ := Xp.cz5 (hTb.out w16 hqw16.out);have s2 := str_eqL (nm.map low) [120, 109, 108];have htl' : decide (nm.map low = [120, 109, 108]) = LX := hLX.out;rw [htl'] at s2;clear htl'
     cases LX with
     | true =>
      have hRf : Hid (R = false) := Hd (by rw [<- hR.out]; simp [headOk]);have hfin := Xp.tu_ hbaH hqw16;clear hR;go_wp2_with fail
      (try simp only [Exit.inBlock, Exit.then])
      go_ret;exact ⟨by rw [hRf.out]; rfl, hfin.out⟩
     | false =>
      go_wp2_with fail;refine (hcc1.out w16 hqw16.out).mono ?_;rintro e w17 ⟨rfl, hbw17⟩;have hqw17 := Xp.tr_ hqw16 hbw17;clear hbw17 y0 y1 y2 y3 y4;obtain ⟨y0, y1, y2, y3, y4⟩ := Xp.cz5 (hTb.out w17 hqw17.out)
      cases C1 with
      | true =>
       have hRf : Hid (R = false) := Hd (by rw [<- hR.out]; simp [headOk]);have hfin := Xp.tu_ hbaH hqw17;clear hR;go_wp2_with fail
       (try simp only [Exit.inBlock, Exit.then])
       go_ret;exact ⟨by rw [hRf.out]; rfl, hfin.out⟩
      | false =>
       go_wp2_with fail;refine (hcc4.out w17 hqw17.out).mono ?_;rintro e w18 ⟨rfl, hbw18⟩;have hqw18 := Xp.tr_ hqw17 hbw18;clear hbw18 y0 y1 y2 y3 y4;obtain ⟨y0, y1, y2, y3, y4⟩ := Xp.cz5 (hTb.out w18 hqw18.out)
       cases C4 with
       | true =>
        have hRf : Hid (R = false) := Hd (by rw [<- hR.out]; simp [headOk]);have hfin := Xp.tu_ hbaH hqw18;clear hR;go_wp2_with fail
        (try simp only [Exit.inBlock, Exit.then])
        go_ret;exact ⟨by rw [hRf.out]; rfl, hfin.out⟩
       | false =>
        have hRf : Hid (R = true) := Hd (by rw [<- hR.out]; simp [headOk]);have hfin := Xp.tu_ hbaH hqw18;clear hR;go_wp2_with fail
        (try simp only [Exit.inBlock, Exit.then])
        go_ret;exact ⟨by rw [hRf.out]; rfl, hfin.out⟩
   | cons c0 r0 =>
    have e2 : S2.toList.isEmpty = false := ez2;obtain ⟨BL, hBL⟩ : ∃ b, Qx.blank c0 = b := ⟨_, rfl⟩;have hho : headOk (c0 :: r0) = !BL := by rw [<- hBL]; rfl
    rw [hho] at hRe;have hR := Hd hRe;have hbk := Hd (fun (x : World) (_hx : Below w1.heap.size w1 x) => refblank_any (c0.toNat : Int) x);have hbl' : Blank (c0.toNat : Int) = BL := hBL;rw [hbl'] at hbk;clear hRe ez1 ez2 hho hBL hbl'
    go_enter Tryz.func17, Tryz.ntmps17
    go_wp2_with fail;refine hbd.out.mono ?_;rintro e w2 ⟨rfl, hbw2⟩;have hqw2 := Xp.tr_ hblH hbw2;clear hbw2 y0 y1 y2 y3 y4 hcv;obtain ⟨y0, y1, y2, y3, y4⟩ := Xp.cz5 (hTb.out w2 hqw2.out);have hz2 := hz2H.out;have hsz : S2.size = (c0 :: r0).length := by rw [<- hS2H.out]; exact strOf_size' _
    rw [List.length_cons] at hsz hz2;have hlt0 : 0 < S2.size := by omega
    have hgx : S2[0]'hlt0 = c0 := by
     have h9 := hS2H.out;subst h9;exact str_at rfl hlt0
    have hc9 := c0.toNat_lt;clear hz2;go_wp2_with fail;refine (hnc.out w2 hqw2.out).mono ?_;rintro e w19 ⟨rfl, hbw19⟩;have hqw19 := Xp.tr_ hqw2 hbw19;clear hbw19 y0 y1 y2 y3 y4;obtain ⟨y0, y1, y2, y3, y4⟩ := Xp.cz5 (hTb.out w19 hqw19.out)
    cases NM with
    | false =>
     have hRf : Hid (R = false) := Hd (by rw [<- hR.out]; simp);have hfin := Xp.tu_ hbaH hqw19;clear hR;go_wp2_with fail
     (try simp only [Exit.inBlock, Exit.then])
     go_ret;exact ⟨by rw [hRf.out]; rfl, hfin.out⟩
    | true =>
     go_wp2_with fail;refine (hlc.out w19 hqw19.out).mono ?_;rintro e w20 ⟨rfl, hbw20⟩;have hqw20 := Xp.tr_ hqw19 hbw20;clear hbw20 y0 y1 y2 y3 y4;obtain ⟨y0, y1, y2, y3, y4⟩ := Xp.cz5 (hTb.out w20 hqw20.out);have s2 := str_eqL (nm.map low) [120, 109, 108];have htl' : decide (nm.map low = [120, 109, 108]) = LX := hLX.out;rw [htl'] at s2;clear htl'
     cases LX with
     | true =>
      have hRf : Hid (R = false) := Hd (by rw [<- hR.out]; simp);have hfin := Xp.tu_ hbaH hqw20;clear hR;go_wp2_with fail
      (try simp only [Exit.inBlock, Exit.then])
      go_ret;exact ⟨by rw [hRf.out]; rfl, hfin.out⟩
     | false =>
      go_wp2_with fail;refine (hcc1.out w20 hqw20.out).mono ?_;rintro e w21 ⟨rfl, hbw21⟩;have hqw21 := Xp.tr_ hqw20 hbw21;clear hbw21 y0 y1 y2 y3 y4;obtain ⟨y0, y1, y2, y3, y4⟩ := Xp.cz5 (hTb.out w21 hqw21.out)
      cases C1 with
      | true =>
       have hRf : Hid (R = false) := Hd (by rw [<- hR.out]; simp);have hfin := Xp.tu_ hbaH hqw21;clear hR;go_wp2_with fail
       (try simp only [Exit.inBlock, Exit.then])
       go_ret;exact ⟨by rw [hRf.out]; rfl, hfin.out⟩
      | false =>
       go_wp2_with fail;refine (hcc4.out w21 hqw21.out).mono ?_;rintro e w22 ⟨rfl, hbw22⟩;have hqw22 := Xp.tr_ hqw21 hbw22;clear hbw22 y0 y1 y2 y3 y4;obtain ⟨y0, y1, y2, y3, y4⟩ := Xp.cz5 (hTb.out w22 hqw22.out)
       cases C4 with
       | true =>
        have hRf : Hid (R = false) := Hd (by rw [<- hR.out]; simp);have hfin := Xp.tu_ hbaH hqw22;clear hR;go_wp2_with fail
        (try simp only [Exit.inBlock, Exit.then])
        go_ret;exact ⟨by rw [hRf.out]; rfl, hfin.out⟩
       | false =>
        go_wp2_with fail;refine (hbk.out w22 hqw22.out).mono ?_;rintro e wq ⟨rfl, hwq⟩;replace hwq := hwq.symm;subst hwq
        cases BL with
        | true =>
         have hRf : Hid (R = false) := Hd (by rw [<- hR.out]; simp);have hfin := Xp.tu_ hbaH hqw22;clear hR;go_wp2_with fail
         (try simp only [Exit.inBlock, Exit.then])
         go_ret;exact ⟨by rw [hRf.out]; rfl, hfin.out⟩
        | false =>
         have hRf : Hid (R = true) := Hd (by rw [<- hR.out]; simp);have hfin := Xp.tu_ hbaH hqw22;clear hR;go_wp2_with fail
         (try simp only [Exit.inBlock, Exit.then])
         go_ret;exact ⟨by rw [hRf.out]; rfl, hfin.out⟩
  rw [if_neg h4] at hRe;have k4 : (kd == 4) = false := by simpa using h4
  have hR := Hd hRe;clear hnc hcc1 hcc3 hcc4 hlc h2 h3 h4 ez1 ez2 hRe
  go_enter Tryz.func17, Tryz.ntmps17
  go_wp2_with fail;refine hbd.out.mono ?_;rintro e w2 ⟨rfl, hbw2⟩;have hqw2 := Xp.tr_ hblH hbw2;clear hbw2 y0 y1 y2 y3 y4 hcv;obtain ⟨y0, y1, y2, y3, y4⟩ := Xp.cz5 (hTb.out w2 hqw2.out);have hRf : Hid (R = false) := Hd (by rw [<- hR.out]);have hfin := Xp.tu_ hbaH hqw2;clear hR;go_wp2_with fail
  (try simp only [Exit.inBlock, Exit.then])
  go_ret;exact ⟨by rw [hRf.out]; rfl, hfin.out⟩
 ·have hR : Hid (R = false) := Hd (by
   rw [<- hRe]
   cases n1 <;> cases n2 <;> simp at hEE ⊢)
  clear hnc hcc1 hcc3 hcc4 hlc hRe ez1 ez2
  cases n1 with
  | succ n1 =>
   go_enter Tryz.func17, Tryz.ntmps17
   go_wp2_with fail;refine hbd.out.mono ?_;rintro e w2 ⟨rfl, hbw2⟩;have hqw2 := Xp.tr_ hblH hbw2;clear hbw2 y0 y1 y2 y3 y4 hcv;obtain ⟨y0, y1, y2, y3, y4⟩ := Xp.cz5 (hTb.out w2 hqw2.out);have hRf : Hid (R = false) := Hd (by rw [hR.out]);have hfin := Xp.tu_ hbaH hqw2;clear hR;go_wp2_with fail
   (try simp only [Exit.inBlock, Exit.then])
   go_ret;exact ⟨by rw [hRf.out]; rfl, hfin.out⟩
  | zero =>
   cases n2 with
   | succ n2 =>
    go_enter Tryz.func17, Tryz.ntmps17
    go_wp2_with fail;refine hbd.out.mono ?_;rintro e w2 ⟨rfl, hbw2⟩;have hqw2 := Xp.tr_ hblH hbw2;clear hbw2 y0 y1 y2 y3 y4 hcv;obtain ⟨y0, y1, y2, y3, y4⟩ := Xp.cz5 (hTb.out w2 hqw2.out);have hRf : Hid (R = false) := Hd (by rw [hR.out]);have hfin := Xp.tu_ hbaH hqw2;clear hR;go_wp2_with fail
    (try simp only [Exit.inBlock, Exit.then])
    go_ret;exact ⟨by rw [hRf.out]; rfl, hfin.out⟩
   | zero => exact absurd ⟨rfl, rfl⟩ hEE
end Go.Proofs.YtokdnhdfmgfkeaaGreatDoor.Xp
end

section
namespace Go.Proofs.YtokdnhdfmgfkeaaGreatDoor.Xp
open Go.RowKit UtfW Xl Xo Xt
theorem attrsOk_snoc : ∀ (l : List At) (seen : List Tx) (a : At), attrsOk seen (l ++ [a]) = (attrsOk seen l && (nameR a.1 && good a.2 && decide (a.1 ∉ seen ++ l.map (·.1))))
 | [], seen, a => by simp [attrsOk]
 | b :: l, seen, a => by
  rw [List.cons_append, attrsOk, attrsOk, attrsOk_snoc l, show seen ++ [b.1] ++ l.map (·.1) = seen ++ (b :: l).map (·.1) from by simp];simp only [Bool.and_assoc]
def lastK (was : Int) (l : List Nd) : Int := (l.getLast?.map (·.kind)).getD was
theorem fairL_snoc : ∀ (l : List Nd) (was : Int) (x : Nd), fairL was (l ++ [x]) = (fairL was l && (fairN x && !(decide (lastK was l = 2) && decide (x.kind = 2))))
 | [], was, x => by
  rw [List.nil_append, fairL, fairL, fairL, Bool.and_true, Bool.true_and];rfl
 | b :: l, was, x => by
  rw [List.cons_append, fairL, fairL, fairL_snoc l]
  have : lastK b.kind l = lastK was (b :: l) := by
   unfold lastK;rw [List.getLast?_cons]
   cases l.getLast? <;> rfl
  rw [this];simp [Bool.and_assoc]
theorem mem_snoc_dec {a : Tx} {l : List Tx} {b : Tx} : decide (a ∉ l ++ [b]) = (decide (a ∉ l) && decide (a ≠ b)) := by
 rw [<- Bool.decide_and, decide_eq_decide];simp [not_or]
theorem sq_some {α : Type} {El : World -> List Value -> α -> Prop} {k : Nat} {w : World} {A : Option Addr} {n c : Nat} {l : List α} (h : Sq El k w A n c l) (hn : 0 < n) : ∃ b off, A = some ⟨b, off, none⟩ := by
 obtain ⟨b, off, e, _⟩ := h.cell hn;exact ⟨b, off, e⟩
theorem at_attr {w : World} {b off n c i : Nat} {l : List At} (h : Sq AtEl 2 w (some ⟨b, off, none⟩) n c l) (hi : i < n) :
  ∃ a, l[i]? = some a /\ w.cell? ⟨b, off + i * 2, none⟩ = some (.string (strOf a.1)) /\ w.cell? ⟨b, off + i * 2 + 1, none⟩ = some (.string (strOf a.2)) := by
 obtain ⟨b1, off1, ax, vs1, e, _, hx1, _, hv1, hc1⟩ := h.at_ hi;injection e with e;injection e with e1 e2;subst e1;subst e2;unfold AtEl at hv1;subst hv1;exact ⟨ax, hx1, hc1 0 _ rfl, hc1 1 _ rfl⟩
theorem at_attr_ {w : World} {b off n c i : Nat} {l : List At} {a : At} (h : Sq AtEl 2 w (some ⟨b, off, none⟩) n c l) (hx : l[i]? = some a) :
  w.cell? ⟨b, off + i * 2, none⟩ = some (.string (strOf a.1)) /\ w.cell? ⟨b, off + i * 2 + 1, none⟩ = some (.string (strOf a.2)) := by
 have hi : i < n := by rw [<- h.len]; exact (List.getElem?_eq_some_iff.1 hx).1
 obtain ⟨a', h1, h2⟩ := at_attr h hi;rw [hx] at h1;injection h1 with h1;subst h1;exact h2
theorem at_kind {X : Nat -> Prop} {w : World} {b off n c i : Nat} {l : List Nd} {x : Nd} (h : Sq (NdE X) 5 w (some ⟨b, off, none⟩) n c l) (hi : i < n) (hx : l[i]? = some x) : w.cell? ⟨b, off + i * 5, none⟩ = some (.int .i64 x.kind) := by
 obtain ⟨b1, off1, y, vs1, e, _, hx1, _, hv1, hc1⟩ := h.at_ hi;injection e with e;injection e with e1 e2;subst e1;subst e2;rw [hx1] at hx;injection hx with hx;subst hx;obtain ⟨kx, nx_, tx_, ax, kx_⟩ := y;obtain ⟨Ax, cax, A2x, c2x, rfl, -⟩ := hv1.cells;exact hc1 0 _ rfl
def RFairAt (X : Nat -> Prop) (x : Nd) : Prop := ∀ (vs : List Value) (w' : World), NdI X w' vs x -> (∀ j, X j -> j < w'.heap.size) →
 Calls Tryz.prog 17 #[.agg vs.toArray] w' fun e w'' => e = .returned (.bool (fairN x)) /\ Below w'.heap.size w' w''
set_option maxHeartbeats 32000000 in
set_option maxRecDepth 100000 in
theorem rFair_any : ∀ (k : Nat) (X : Nat -> Prop) (n : Nd), SizeOf.sizeOf n <= k -> smN n -> RFairAt X n := by
  intro k
  induction k with
  | zero =>
    intro X n hk;obtain ⟨kd, nm, tx, as_, ks⟩ := n;simp at hk
  | succ k ih =>
    intro X n hk hsm vs w hn hX;obtain ⟨kd, nm, tx, as_, ks⟩ := n;obtain ⟨A, ca, A2, c2, rfl, hA, hKs, hXA, hXK⟩ := hn.cells;rw [smN] at hsm;obtain ⟨z1, z2, z3, z4⟩ := hsm
    by_cases h1 : kd ≠ 1
    · exact rfair_rest w kd nm tx as_ ks A ca A2 c2 h1 z1 z2
    obtain rfl : kd = 1 := Classical.not_not.1 h1
    have hF := Hd (show ∀ (i : Nat) x, ks[i]? = some x -> RFairAt X x from fun i x hx => ih X x (by
      have := kid_lt (k := 1) (nm := nm) (tx := tx) (as_ := as_) hx
      omega) (smL_mem z4 hx))
    clear ih hk z4 h1;obtain ⟨n1, hn1⟩ : ∃ n, as_.length = n := ⟨_, rfl⟩;obtain ⟨n2, hn2⟩ : ∃ n, ks.length = n := ⟨_, rfl⟩;rw [hn1] at hA;rw [hn2] at hKs;rw [hn1, hn2];have hn1H := Hd hn1;have hn2H := Hd hn2;have hsA := Hd z3.2;have hm1 : n1 <= 1000000 := by rw [<- hn1]; exact z3.1
    have hm2 : n2 <= 9223372036854775807 := Nat.le_trans hKs.le hKs.max;clear hn1 hn2;obtain ⟨S1, hS1⟩ : ∃ S, strOf nm = S := ⟨_, rfl⟩;obtain ⟨S2, hS2⟩ : ∃ S, strOf tx = S := ⟨_, rfl⟩;rw [hS1, hS2];have hba := below_alloc w (.cells #[.int .i64 1, .string S1, .string S2, .slice A n1 ca, .slice A2 n2 c2] 25);have hnb := heap_alloc_new w (.cells #[.int .i64 1, .string S1, .string S2, .slice A n1 ca, .slice A2 n2 c2] 25);obtain ⟨T, hT⟩ : ∃ T, w.heap.size = T := ⟨_, rfl⟩;obtain ⟨w1, hw1⟩ : ∃ w1, w.alloc (.cells #[.int .i64 1, .string S1, .string S2, .slice A n1 ca, .slice A2 n2 c2] 25) = w1 := ⟨_, rfl⟩;rw [hw1] at hba hnb;rw [hT] at hnb;have hTb : Hid (∀ x, Below w1.heap.size w1 x -> x.heap[T]? = some (.cells #[.int .i64 1, .string S1, .string S2, .slice A n1 ca, .slice A2 n2 c2] 25)) := Hd fun x hx => (hx.block T (Array.getElem?_eq_some_iff.1 hnb).1).trans hnb
    have hlow : ∀ x, Below w1.heap.size w1 x -> Below w.heap.size w x := fun x hx => hba.trans (hx.mono hba.size)
    replace hA : Hid (∀ z, Below w1.heap.size w1 z -> Sq AtEl 2 z A n1 ca as_) := Hd fun z hz => hA.below AtEl.to (hlow z hz)
    have hK : Hid (∀ z, Below w1.heap.size w1 z -> Sq (NdE X) 5 z A2 n2 c2 ks) := Hd fun z hz => sq_keep hKs (hlow z hz) (fun vs y h => NdI.later h hX (hlow z hz))
    have hXb : Hid (∀ j, X j -> j < w1.heap.size) := Hd fun j hj => Nat.lt_of_lt_of_le (hX j hj) hba.size
    have hnc := Hd (fun (x : World) (_hx : Below w1.heap.size w1 x) => refName_any S1 (by rw [<- hS1, strOf_size']; omega) x);have e1 : S1.data.toList = nm := by rw [<- hS1]; simp [strOf]
    rw [e1] at hnc;have hz : S2.size = tx.length := by rw [<- hS2]; exact strOf_size' tx
    obtain ⟨hbs, hbl⟩ := bs_convert w1 S2 (by omega);have e2 : S2.data.toList = tx := by rw [<- hS2]; simp [strOf]
    rw [e2] at hbs;have hcv := Lib.run_convert_string_bytes (P := Tryz.prog) w1 9 41 5 S2 Tryz.underlying9 Tryz.underlying41 Tryz.underlying5;have hbd := Hd (refBad_any _ _ _ tx (by omega) (Lib.bytesWorld w1 5 S2) hbs);have hblH := Hd hbl;have y0 : w1.cell? ⟨T, 0, none⟩ = some (.int .i64 1) := Xp.cell_blk hnb rfl;have y1 : w1.cell? ⟨T, 1, none⟩ = some (.string S1) := Xp.cell_blk hnb rfl;have y2 : w1.cell? ⟨T, 2, none⟩ = some (.string S2) := Xp.cell_blk hnb rfl;have y3 : w1.cell? ⟨T, 3, none⟩ = some (.slice A n1 ca) := Xp.cell_blk hnb rfl;have y4 : w1.cell? ⟨T, 4, none⟩ = some (.slice A2 n2 c2) := Xp.cell_blk hnb rfl;have hbaH := Hd hba;have ez2 : S2.toList.isEmpty = tx.isEmpty := (by rw [<- hS2, strOf_empty]);clear hn hKs hXA hXK hX hlow hnb hba e1 e2 z1 z2 z3 hS1 hS2 hbs hbl hz;obtain ⟨NM, hNM⟩ : ∃ b, nameR nm = b := ⟨_, rfl⟩;rw [hNM] at hnc;obtain ⟨BW, hBW⟩ : ∃ b, badW tx 0 = b := ⟨_, rfl⟩;rw [hBW] at hbd;obtain ⟨R, hRe⟩ : ∃ R, fairN (.mk 1 nm tx as_ ks) = R := ⟨_, rfl⟩;rw [hRe]
    by_cases hg : 0 <= BW
    · have g1 : decide (0 <= BW) = true := decide_eq_true hg
      have hRf : Hid (R = false) := Hd (by
        rw [<- hRe, Bool.eq_false_iff];intro hc;have := fair_good hc;unfold good at this;rw [hBW, decide_eq_true_eq] at this
        omega)
      clear hRe hBW hNM ez2 hnc hF hA hK hXb hn1H hn2H hsA
      go_enter Tryz.func17, Tryz.ntmps17
      go_wp2_with fail;refine hbd.out.mono ?_;rintro e w2 ⟨rfl, hbw2⟩;have hqw2 := Xp.tr_ hblH hbw2;clear hbw2 y0 y1 y2 y3 y4 hcv;obtain ⟨y0, y1, y2, y3, y4⟩ := Xp.cz5 (hTb.out w2 hqw2.out);have hfin := Xp.tu_ hbaH hqw2;go_wp2_with fail
      (try simp only [Exit.inBlock, Exit.then])
      go_ret;exact ⟨by rw [hRf.out]; rfl, hfin.out⟩
    have g1 : decide (0 <= BW) = false := decide_eq_false hg;obtain ⟨B0, hB0⟩ : ∃ b, (NM && decide (tx = [])) = b := ⟨_, rfl⟩
    have hR : Hid (R = (B0 && attrsOk [] as_ && fairL 0 ks)) := Hd (by
      rw [<- hRe, fairN, if_pos rfl, hNM, hB0])
    clear hBW hNM hRe;have hB0H := Hd hB0;clear hB0
    go_enter Tryz.func17, Tryz.ntmps17
    go_wp2_with fail;refine hbd.out.mono ?_;rintro e w2 ⟨rfl, hbw2⟩;have hqw2 := Xp.tr_ hblH hbw2;clear hbw2 y0 y1 y2 y3 y4 hcv;obtain ⟨y0, y1, y2, y3, y4⟩ := Xp.cz5 (hTb.out w2 hqw2.out);go_wp2_with fail;refine (hnc.out w2 hqw2.out).mono ?_;rintro e w3 ⟨rfl, hbw3⟩;have hqw3 := Xp.tr_ hqw2 hbw3;clear hbw3 y0 y1 y2 y3 y4 hnc hbd hblH hqw2;obtain ⟨y0, y1, y2, y3, y4⟩ := Xp.cz5 (hTb.out w3 hqw3.out);rcases Bool.eq_false_or_eq_true NM with rfl | rfl
    · cases tx with
      | nil =>
        have e2 : S2.toList.isEmpty = true := ez2;have hbv : Hid (B0 = true) := Hd (by rw [<- hB0H.out]; rfl);clear ez2;go_wp2_with fail;clear y0 y1 y2 y3 y4
        go_loopw [3, 4] (fun v3 v4 wr => ∃ (i : Nat) (OK : Bool), i <= n1 /\ v4 = .int .i64 (i : Nat) /\ v3 = .bool OK /\ Hid (OK = (B0 && attrsOk [] (as_.take i))) /\ Hid (Below w1.heap.size w1 wr)) (fun _ v4 _ => n1 - (intOf v4).toNat)
        case atStart => exact ⟨0, _, by omega, rfl, rfl, Hd (by rw [hbv.out]; rfl), hqw3⟩
        case round =>
          obtain ⟨i, OK, hi, rfl, rfl, hok, hqwr⟩ := hrel;obtain ⟨y0, y1, y2, y3, y4⟩ := Xp.cz5 (hTb.out wr hqwr.out)
          by_cases hlt : i < n1
          · have i1 : decide ((i : Int) < (n1 : Int)) = true := by simp; omega
            have q1 : (i : Int) < (n1 : Int) := (by omega);obtain ⟨b1, off1, rfl⟩ := sq_some (hA.out wr hqwr.out) (show 0 < n1 by omega);obtain ⟨ax, hx1, m0, m1⟩ := at_attr (hA.out wr hqwr.out) hlt;have hxH := Hd hx1;obtain ⟨hs1, hs2⟩ := hsA.out ax (List.mem_of_getElem? hx1);clear hx1
            cases OK with
            | false =>
              clear hs1 hs2;have hnow : Hid (false = (B0 && attrsOk [] (as_.take i) && (nameR ax.1 && good ax.2))) := Hd (by rw [<- hok.out]; rfl);clear hok;go_wp2_with fail;clear y0 y1 y2 y3 y4
              go_loopw [3, 5] (fun v3 v5 wq => ∃ k : Nat, k <= i /\ v5 = .int .i64 (k : Nat) /\ v3 = .bool false /\ Hid (Below w1.heap.size w1 wq)) (fun _ v5 _ => i - (intOf v5).toNat)
              case atStart => exact ⟨0, by omega, rfl, rfl, hqwr⟩
              case round =>
                obtain ⟨k, hk, rfl, rfl, hqwq⟩ := hrel
                by_cases hkl : k < i
                · have j1 : decide ((k : Int) < (i : Int)) = true := by simp; omega
                  have hbd9 := Hd (hqwq.out.trans ((Joins.below_draws _ _ 1).mono hqwq.out.size));go_wp2_with fail;refine Pl.wp_region_plan 14 (.take 0 (.take 1 (.take 2 (.take 3 (.take 4 (.take 5 (.take 6 (.take 7 (.take 8 (.take 9 (.take 10 (.take 11 (.take 12 (.take 13 .done)))))))))))))) (fun _ => True) (by kernel_rfl) (by kernel_rfl) (trivial) ?_;simp only [Pl.fill, Al_4, Al_5, Al_6, Al_7]
                  iterate 14
                    first
                    | (refine Pl.take_go ?_ (by rfl) (fun _ _ _ h => h) ?_ ?_
                       rotate_left
                       · (intro x hSw; (try dsimp only at hSw); go_simp; try with_reducible rfl)
                       (try simp only [Act.put, Al_1, Al_2, Al_3]))
                    | (refine Pl.take_skip (by rfl) (fun _ _ _ h => h) ?_
                       (try simp only [Act.put, Al_1, Al_2, Al_3]))
                  refine Pl.done_go ?_;go_wp2_with fail;go_roundw
                  case rel => exact ⟨k + 1, by omega, by go_num, rfl, hbd9⟩
                  case measure => simp [intOf]; omega
                · have hki : k = i := by omega
                  subst hki;have j1 : decide ((k : Int) < (k : Int)) = false := by simp
                  have hnext : Hid (false = (B0 && attrsOk [] (as_.take (k + 1)))) := Hd (by
                    rw [take_snoc hxH.out, attrsOk_snoc, List.nil_append, <- Bool.and_assoc, <- Bool.and_assoc, <- hnow.out, Bool.false_and])
                  clear hnow;go_wp2_with fail;go_roundw
                  case rel => exact ⟨k + 1, false, by omega, by go_num, rfl, hnext, hqwq⟩
                  case measure => simp [intOf]; omega
            | true =>
              have hna := Hd (refName_any (strOf ax.1) (by rw [strOf_size']; omega) wr);rw [strOf_data'] at hna;obtain ⟨NA, hNA⟩ : ∃ b, nameR ax.1 = b := ⟨_, rfl⟩;rw [hNA] at hna;have hNAH := Hd hNA;clear hNA;obtain ⟨SV, hSV⟩ : ∃ S, strOf ax.2 = S := ⟨_, rfl⟩;rw [hSV] at m1;have hSVH := Hd hSV;have hs2H := Hd hs2;clear hSV hs1 hs2;go_wp2_with fail;refine hna.out.mono ?_;rintro e w4 ⟨rfl, hb4⟩;have hqw4 := Xp.tr_ hqwr hb4;clear hb4 hna m0 m1 y0 y1 y2 y3 y4;obtain ⟨y0, y1, y2, y3, y4⟩ := Xp.cz5 (hTb.out w4 hqw4.out)
              cases NA with
              | false =>
                have hnow : Hid (false = (B0 && attrsOk [] (as_.take i) && (nameR ax.1 && good ax.2))) := Hd (by rw [hNAH.out]; simp);clear hok;go_wp2_with fail;clear y0 y1 y2 y3 y4
                go_loopw [3, 5] (fun v3 v5 wq => ∃ k : Nat, k <= i /\ v5 = .int .i64 (k : Nat) /\ v3 = .bool false /\ Hid (Below w1.heap.size w1 wq)) (fun _ v5 _ => i - (intOf v5).toNat)
                case atStart => exact ⟨0, by omega, rfl, rfl, hqw4⟩
                case round =>
                  obtain ⟨k, hk, rfl, rfl, hqwq⟩ := hrel
                  by_cases hkl : k < i
                  · have j1 : decide ((k : Int) < (i : Int)) = true := by simp; omega
                    have hbd9 := Hd (hqwq.out.trans ((Joins.below_draws _ _ 1).mono hqwq.out.size));go_wp2_with fail;refine Pl.wp_region_plan 14 (.take 0 (.take 1 (.take 2 (.take 3 (.take 4 (.take 5 (.take 6 (.take 7 (.take 8 (.take 9 (.take 10 (.take 11 (.take 12 (.take 13 .done)))))))))))))) (fun _ => True) (by kernel_rfl) (by kernel_rfl) (trivial) ?_;simp only [Pl.fill, Al_4, Al_5, Al_6, Al_7]
                    iterate 14
                      first
                      | (refine Pl.take_go ?_ (by rfl) (fun _ _ _ h => h) ?_ ?_
                         rotate_left
                         · (intro x hSw; (try dsimp only at hSw); go_simp; try with_reducible rfl)
                         (try simp only [Act.put, Al_1, Al_2, Al_3]))
                      | (refine Pl.take_skip (by rfl) (fun _ _ _ h => h) ?_
                         (try simp only [Act.put, Al_1, Al_2, Al_3]))
                    refine Pl.done_go ?_;go_wp2_with fail;go_roundw
                    case rel => exact ⟨k + 1, by omega, by go_num, rfl, hbd9⟩
                    case measure => simp [intOf]; omega
                  · have hki : k = i := by omega
                    subst hki;have j1 : decide ((k : Int) < (k : Int)) = false := by simp
                    have hnext : Hid (false = (B0 && attrsOk [] (as_.take (k + 1)))) := Hd (by
                      rw [take_snoc hxH.out, attrsOk_snoc, List.nil_append, <- Bool.and_assoc, <- Bool.and_assoc, <- hnow.out, Bool.false_and])
                    clear hnow;go_wp2_with fail;go_roundw
                    case rel => exact ⟨k + 1, false, by omega, by go_num, rfl, hnext, hqwq⟩
                    case measure => simp [intOf]; omega
              | true =>
                have m1 := (at_attr_ (hA.out w4 hqw4.out) hxH.out).2;rw [hSVH.out] at m1;have hz : SV.size = ax.2.length := by rw [<- hSVH.out]; exact strOf_size' _
                obtain ⟨hbs, hbl⟩ := bs_convert w4 SV (by have := hs2H.out; omega);have e9 : SV.data.toList = ax.2 := (by rw [<- hSVH.out, strOf_data']);rw [e9] at hbs;have hcv := Lib.run_convert_string_bytes (P := Tryz.prog) w4 9 41 5 SV Tryz.underlying9 Tryz.underlying41 Tryz.underlying5;have hbd := Hd (refBad_any _ _ _ ax.2 (by have := hs2H.out; omega) (Lib.bytesWorld w4 5 SV) hbs);have hblH := Hd hbl;obtain ⟨BA, hBA⟩ : ∃ b, badW ax.2 0 = b := ⟨_, rfl⟩;rw [hBA] at hbd;have hgd : Hid (good ax.2 = decide (BA < 0)) := Hd (by unfold good; rw [hBA]);clear hbs hbl e9 hz hBA;go_wp2_with fail;refine hbd.out.mono ?_;rintro e w5 ⟨rfl, hb5⟩;have hqw5 := Hd (hqw4.out.trans ((hblH.out.trans (hb5.mono hblH.out.size)).mono hqw4.out.size));clear hb5 hcv m1 hbd hblH y0 y1 y2 y3 y4;obtain ⟨y0, y1, y2, y3, y4⟩ := Xp.cz5 (hTb.out w5 hqw5.out)
                by_cases hbz : BA < 0
                · have g1 : decide (BA < 0) = true := decide_eq_true hbz
                  have hnow : Hid (true = (B0 && attrsOk [] (as_.take i) && (nameR ax.1 && good ax.2))) := Hd (by rw [<- hok.out, hNAH.out, hgd.out, g1]; rfl);clear hok hgd;go_wp2_with fail;clear y0 y1 y2 y3 y4
                  go_loopw [3, 5] (fun v3 v5 wq => ∃ (k : Nat) (OK2 : Bool), k <= i /\ v5 = .int .i64 (k : Nat) /\ v3 = .bool OK2 /\ Hid (OK2 = (true && decide (ax.1 ∉ (as_.take k).map (·.1)))) /\ Hid (Below w1.heap.size w1 wq)) (fun _ v5 _ => i - (intOf v5).toNat)
                  case atStart => exact ⟨0, true, by omega, rfl, rfl, Hd (by simp), hqw5⟩
                  case round =>
                    obtain ⟨k, OK2, hk, rfl, rfl, hok2, hqwq⟩ := hrel;obtain ⟨y0, y1, y2, y3, y4⟩ := Xp.cz5 (hTb.out _ hqwq.out)
                    by_cases hkl : k < i
                    · have j1 : decide ((k : Int) < (i : Int)) = true := by simp; omega
                      have j2 : (k : Int) < (i : Int) := (by omega);have j3 : (k : Int) < (n1 : Int) := (by omega);obtain ⟨ay, hy1, p0, -⟩ := at_attr (hA.out _ hqwq.out) (show k < n1 by omega);have p1 := (at_attr_ (hA.out _ hqwq.out) hxH.out).1;have hbd9 := Hd (hqwq.out.trans ((Joins.below_draws _ _ 1).mono hqwq.out.size));have hst := (⟨y3, p0, p1⟩ : _ /\ _ /\ _);have hyH := Hd hy1;have heq := str_eq_iff ay.1 ax.1;clear hy1
                      cases OK2 with
                      | false =>
                        have hnext : Hid (false = (true && decide (ax.1 ∉ (as_.take (k + 1)).map (·.1)))) := Hd (by
                          rw [take_snoc hyH.out, List.map_append, List.map_cons, List.map_nil, mem_snoc_dec, <- Bool.and_assoc, <- hok2.out, Bool.false_and])
                        clear hok2;go_wp2_with fail;refine Pl.wp_region_plan 14 (.take 0 (.take 1 (.take 2 (.take 3 (.take 4 (.take 5 (.take 6 (.take 7 (.take 8 (.take 9 (.take 10 (.take 11 (.take 12 (.take 13 .done)))))))))))))) (fun x => x.cell? ⟨T, 3, none⟩ = some (.slice (some ⟨b1, off1, none⟩) n1 ca) /\ x.cell? ⟨b1, off1 + k * 2, none⟩ = some (.string (strOf ay.1)) /\ x.cell? ⟨b1, off1 + i * 2, none⟩ = some (.string (strOf ax.1))) (by kernel_rfl) (by kernel_rfl) (by exact hst) ?_;simp only [Pl.fill, Al_4, Al_5, Al_6, Al_7]
                        iterate 14
                          first
                          | (refine Pl.take_go ?_ (by rfl) (fun _ _ _ h => h) ?_ ?_
                             rotate_left
                             · (intro x hSw; (try dsimp only at hSw); go_simp; try with_reducible rfl)
                             (try simp only [Act.put, Al_1, Al_2, Al_3]))
                          | (refine Pl.take_skip (by rfl) (fun _ _ _ h => h) ?_
                             (try simp only [Act.put, Al_1, Al_2, Al_3]))
                        refine Pl.done_go ?_;clear hst;go_wp2_with fail;go_roundw
                        case rel => exact ⟨k + 1, false, by omega, by go_num, rfl, hnext, hbd9⟩
                        case measure => simp [intOf]; omega
                      | true =>
                        have hnext : Hid (decide (ax.1 ≠ ay.1) = (true && decide (ax.1 ∉ (as_.take (k + 1)).map (·.1)))) := Hd (by
                          rw [take_snoc hyH.out, List.map_append, List.map_cons, List.map_nil, mem_snoc_dec, <- Bool.and_assoc, <- hok2.out, Bool.true_and])
                        clear hok2
                        by_cases hxy : ay.1 = ax.1
                        · rw [decide_eq_true hxy] at heq
                          rw [decide_eq_false (show ¬ (ax.1 ≠ ay.1) from fun h => h hxy.symm)] at hnext;go_wp2_with fail;refine Pl.wp_region_plan 14 (.take 0 (.take 1 (.take 2 (.take 3 (.take 4 (.take 5 (.take 6 (.take 7 (.take 8 (.take 9 (.take 10 (.take 11 (.take 12 (.take 13 .done)))))))))))))) (fun x => x.cell? ⟨T, 3, none⟩ = some (.slice (some ⟨b1, off1, none⟩) n1 ca) /\ x.cell? ⟨b1, off1 + k * 2, none⟩ = some (.string (strOf ay.1)) /\ x.cell? ⟨b1, off1 + i * 2, none⟩ = some (.string (strOf ax.1))) (by kernel_rfl) (by kernel_rfl) (by exact hst) ?_;simp only [Pl.fill, Al_4, Al_5, Al_6, Al_7]
                          iterate 14
                            first
                            | (refine Pl.take_go ?_ (by rfl) (fun _ _ _ h => h) ?_ ?_
                               rotate_left
                               · (intro x hSw; (try dsimp only at hSw); go_simp; try with_reducible rfl)
                               (try simp only [Act.put, Al_1, Al_2, Al_3]))
                            | (refine Pl.take_skip (by rfl) (fun _ _ _ h => h) ?_
                               (try simp only [Act.put, Al_1, Al_2, Al_3]))
                          refine Pl.done_go ?_;clear hst hxy;go_wp2_with fail;go_roundw
                          case rel => exact ⟨k + 1, false, by omega, by go_num, rfl, hnext, hbd9⟩
                          case measure => simp [intOf]; omega
                        · rw [decide_eq_false hxy] at heq
                          rw [decide_eq_true (show ax.1 ≠ ay.1 from fun h => hxy h.symm)] at hnext;go_wp2_with fail;refine Pl.wp_region_plan 14 (.take 0 (.take 1 (.take 2 (.take 3 (.take 4 (.take 5 (.take 6 (.take 7 (.take 8 (.take 9 (.take 10 (.take 11 (.take 12 (.take 13 .done)))))))))))))) (fun x => x.cell? ⟨T, 3, none⟩ = some (.slice (some ⟨b1, off1, none⟩) n1 ca) /\ x.cell? ⟨b1, off1 + k * 2, none⟩ = some (.string (strOf ay.1)) /\ x.cell? ⟨b1, off1 + i * 2, none⟩ = some (.string (strOf ax.1))) (by kernel_rfl) (by kernel_rfl) (by exact hst) ?_;simp only [Pl.fill, Al_4, Al_5, Al_6, Al_7]
                          iterate 14
                            first
                            | (refine Pl.take_go ?_ (by rfl) (fun _ _ _ h => h) ?_ ?_
                               rotate_left
                               · (intro x hSw; (try dsimp only at hSw); go_simp; try with_reducible rfl)
                               (try simp only [Act.put, Al_1, Al_2, Al_3]))
                            | (refine Pl.take_skip (by rfl) (fun _ _ _ h => h) ?_
                               (try simp only [Act.put, Al_1, Al_2, Al_3]))
                          refine Pl.done_go ?_;clear hst hxy;go_wp2_with fail;go_roundw
                          case rel => exact ⟨k + 1, true, by omega, by go_num, rfl, hnext, hbd9⟩
                          case measure => simp [intOf]; omega
                    · have hki : k = i := by omega
                      subst hki;have j1 : decide ((k : Int) < (k : Int)) = false := by simp
                      have hnext : Hid (OK2 = (B0 && attrsOk [] (as_.take (k + 1)))) := Hd (by
                        rw [take_snoc hxH.out, attrsOk_snoc, List.nil_append, hok2.out, hnow.out]
                        simp [Bool.and_assoc])
                      clear hok2 hnow;go_wp2_with fail;go_roundw
                      case rel => exact ⟨k + 1, OK2, by omega, by go_num, rfl, hnext, hqwq⟩
                      case measure => simp [intOf]; omega
                · have g1 : decide (BA < 0) = false := decide_eq_false hbz
                  have hnow : Hid (false = (B0 && attrsOk [] (as_.take i) && (nameR ax.1 && good ax.2))) := Hd (by rw [hgd.out, g1]; simp);clear hok hgd;go_wp2_with fail;clear y0 y1 y2 y3 y4
                  go_loopw [3, 5] (fun v3 v5 wq => ∃ k : Nat, k <= i /\ v5 = .int .i64 (k : Nat) /\ v3 = .bool false /\ Hid (Below w1.heap.size w1 wq)) (fun _ v5 _ => i - (intOf v5).toNat)
                  case atStart => exact ⟨0, by omega, rfl, rfl, hqw5⟩
                  case round =>
                    obtain ⟨k, hk, rfl, rfl, hqwq⟩ := hrel
                    by_cases hkl : k < i
                    · have j1 : decide ((k : Int) < (i : Int)) = true := by simp; omega
                      have hbd9 := Hd (hqwq.out.trans ((Joins.below_draws _ _ 1).mono hqwq.out.size));go_wp2_with fail;refine Pl.wp_region_plan 14 (.take 0 (.take 1 (.take 2 (.take 3 (.take 4 (.take 5 (.take 6 (.take 7 (.take 8 (.take 9 (.take 10 (.take 11 (.take 12 (.take 13 .done)))))))))))))) (fun _ => True) (by kernel_rfl) (by kernel_rfl) (trivial) ?_;simp only [Pl.fill, Al_4, Al_5, Al_6, Al_7]
                      iterate 14
                        first
                        | (refine Pl.take_go ?_ (by rfl) (fun _ _ _ h => h) ?_ ?_
                           rotate_left
                           · (intro x hSw; (try dsimp only at hSw); go_simp; try with_reducible rfl)
                           (try simp only [Act.put, Al_1, Al_2, Al_3]))
                        | (refine Pl.take_skip (by rfl) (fun _ _ _ h => h) ?_
                           (try simp only [Act.put, Al_1, Al_2, Al_3]))
                      refine Pl.done_go ?_;go_wp2_with fail;go_roundw
                      case rel => exact ⟨k + 1, by omega, by go_num, rfl, hbd9⟩
                      case measure => simp [intOf]; omega
                    · have hki : k = i := by omega
                      subst hki;have j1 : decide ((k : Int) < (k : Int)) = false := by simp
                      have hnext : Hid (false = (B0 && attrsOk [] (as_.take (k + 1)))) := Hd (by
                        rw [take_snoc hxH.out, attrsOk_snoc, List.nil_append, <- Bool.and_assoc, <- Bool.and_assoc, <- hnow.out, Bool.false_and])
                      clear hnow;go_wp2_with fail;go_roundw
                      case rel => exact ⟨k + 1, false, by omega, by go_num, rfl, hnext, hqwq⟩
                      case measure => simp [intOf]; omega
          · have hie : i = n1 := by omega
            subst hie;have i1 : decide ((i : Int) < (i : Int)) = false := by simp
            have hB1 : Hid (OK = (B0 && attrsOk [] as_)) := Hd (by
              have h9 := hok.out
              rwa [List.take_of_length_le (Nat.le_of_eq hn1H.out)] at h9)
            clear hok hA;go_wp2_with fail;clear y0 y1 y2 y3 y4
            go_loopw [3, 6] (fun v3 v6 wq => ∃ (i : Nat) (OK2 : Bool), i <= n2 /\ v6 = .int .i64 (i : Nat) /\ v3 = .bool OK2 /\ Hid (OK2 = (OK && fairL 0 (ks.take i))) /\ Hid (Below w1.heap.size w1 wq)) (fun _ v6 _ => n2 - (intOf v6).toNat)
            case atStart => exact ⟨0, OK, by omega, rfl, rfl, Hd (by simp [fairL]), hqwr⟩
            case round =>
              obtain ⟨q, OK2, hq, rfl, rfl, hok2, hqws⟩ := hrel;obtain ⟨y0, y1, y2, y3, y4⟩ := Xp.cz5 (hTb.out _ hqws.out)
              by_cases hlt3 : q < n2
              · have i3 : decide ((q : Int) < (n2 : Int)) = true := by simp; omega
                have q3 : (q : Int) < (n2 : Int) := by omega
                cases OK2 with
                | false =>
                  have hnext : Hid (false = (OK && fairL 0 (ks.take (q + 1)))) := Hd (by
                    obtain ⟨x, hx⟩ : ∃ x, ks[q]? = some x := ⟨_, List.getElem?_eq_getElem (by rw [hn2H.out]; exact hlt3)⟩
                    rw [take_snoc hx, fairL_snoc, <- Bool.and_assoc, <- hok2.out, Bool.false_and])
                  clear hok2;go_wp2_with fail;go_roundw
                  case rel => exact ⟨q + 1, false, by omega, by go_num, rfl, hnext, hqws⟩
                  case measure => simp [intOf]; omega
                | true =>
                  obtain ⟨b3, off3, x, vs3, rfl, _, hx3, _, hv3, hc3⟩ := (hK.out _ hqws.out).at_ hlt3;have hfx := hF.out q x hx3;have hxH3 := Hd hx3;have hbX := fun j (hj : X j) => Nat.lt_of_lt_of_le (hXb.out j hj) hqws.out.size
                  obtain ⟨kx, nx_, tx_, ax_, kx_⟩ := x;have hrec := Hd (hfx _ _ hv3 hbX);obtain ⟨Ax, cax, A2x, c2x, rfl, -⟩ := hv3.cells;have m0 := hc3 0 _ rfl;have m1 := hc3 1 _ rfl;have m2 := hc3 2 _ rfl;have m3 := hc3 3 _ rfl;have m4 := hc3 4 _ rfl;rw [Nat.add_zero] at m0;obtain ⟨FX, hFX⟩ : ∃ b, fairN (.mk kx nx_ tx_ ax_ kx_) = b := ⟨_, rfl⟩;rw [hFX] at hrec;have hFXH := Hd hFX;clear hc3 hx3 hfx hv3 hbX hFX;go_wp2_with fail;refine hrec.out.mono ?_;rintro e w6 ⟨rfl, hb6⟩;have hqw6 := Xp.tr_ hqws hb6;clear hb6 hrec m0 m1 m2 m3 m4 y0 y1 y2 y3 y4;obtain ⟨y0, y1, y2, y3, y4⟩ := Xp.cz5 (hTb.out w6 hqw6.out);have k0 := at_kind (hK.out w6 hqw6.out) hlt3 hxH3.out;change w6.cell? _ = some (.int .i64 kx) at k0
                  have hval : Hid ((OK && fairL 0 (ks.take (q + 1))) = (FX && !(decide (lastK 0 (ks.take q) = 2) && decide (kx = 2)))) := Hd (by
                    rw [take_snoc hxH3.out, fairL_snoc, <- Bool.and_assoc, <- hok2.out, hFXH.out]
                    rfl)
                  clear hok2 hFXH
                  cases FX with
                  | false =>
                    have hnext : Hid (false = (OK && fairL 0 (ks.take (q + 1)))) := Hd (by rw [hval.out]; rfl);clear hval;go_wp2_with fail;go_roundw
                    case rel => exact ⟨q + 1, false, by omega, by go_num, rfl, hnext, hqw6⟩
                    case measure => simp [intOf]; omega
                  | true =>
                    by_cases hq0 : q = 0
                    · subst hq0
                      have hnext : Hid (true = (OK && fairL 0 (ks.take (0 + 1)))) := Hd (by rw [hval.out]; simp [lastK]);clear hval;go_wp2_with fail;go_roundw
                      case rel => exact ⟨0 + 1, true, by omega, by go_num, rfl, hnext, hqw6⟩
                      case measure => simp [intOf]; omega
                    · have r0 : ((q : Int) == 0) = false := by rw [beq_eq_false_iff_ne]; omega
                      by_cases h2 : kx = 2
                      · have r1 : (kx != 2) = false := by rw [h2]; rfl
                        obtain ⟨x5, hx5⟩ : ∃ x5, ks[q - 1]? = some x5 := ⟨_, List.getElem?_eq_getElem (by rw [hn2H.out]; omega)⟩;have k5 := at_kind (hK.out w6 hqw6.out) (show q - 1 < n2 by omega) hx5;obtain ⟨p, rfl⟩ : ∃ p, q = p + 1 := ⟨q - 1, by omega⟩;rw [Nat.add_sub_cancel] at k5 hx5;have hlk : lastK 0 (ks.take (p + 1)) = x5.kind := by rw [take_snoc hx5]; simp [lastK]
                        obtain ⟨kz, hkz⟩ : ∃ kz, x5.kind = kz := ⟨_, rfl⟩;rw [hkz] at k5 hlk;have p3 : (p : Int) < (n2 : Int) := by omega
                        by_cases h5 : kz = 2
                        · have r5 : (kz != 2) = false := by rw [h5]; rfl
                          have hnext : Hid (false = (OK && fairL 0 (ks.take (p + 1 + 1)))) := Hd (by rw [hval.out, hlk, h5, h2]; simp);clear hval h5 h2 hlk hkz hx5;go_wp2_with fail;go_roundw
                          case rel => exact ⟨p + 1 + 1, false, by omega, by go_num, rfl, hnext, hqw6⟩
                          case measure => simp [intOf]; omega
                        · have r5 : (kz != 2) = true := by simpa using h5
                          have hnext : Hid (true = (OK && fairL 0 (ks.take (p + 1 + 1)))) := Hd (by rw [hval.out, hlk, decide_eq_false h5]; simp);clear hval h5 h2 hlk hkz hx5;go_wp2_with fail;go_roundw
                          case rel => exact ⟨p + 1 + 1, true, by omega, by go_num, rfl, hnext, hqw6⟩
                          case measure => simp [intOf]; omega
                      · have r1 : (kx != 2) = true := by simpa using h2
                        have hnext : Hid (true = (OK && fairL 0 (ks.take (q + 1)))) := Hd (by rw [hval.out, decide_eq_false h2]; simp);clear hval h2;go_wp2_with fail;go_roundw
                        case rel => exact ⟨q + 1, true, by omega, by go_num, rfl, hnext, hqw6⟩
                        case measure => simp [intOf]; omega
              · have hie : q = n2 := by omega
                subst hie;have i3 : decide ((q : Int) < (q : Int)) = false := by simp
                have hRf : Hid (R = OK2) := Hd (by
                  have h9 := hok2.out;rw [List.take_of_length_le (Nat.le_of_eq hn2H.out)] at h9
                  rw [h9, hB1.out, hR.out])
                have hfin := Xp.tu_ hbaH hqws;clear hok2;go_wp2_with fail
                (try simp only [Exit.inBlock, Exit.then])
                go_ret;exact ⟨by rw [hRf.out]; rfl, hfin.out⟩
      | cons c0 r0 =>
        have e2 : S2.toList.isEmpty = false := ez2;have hbv : Hid (B0 = false) := Hd (by rw [<- hB0H.out]; simp);clear ez2;go_wp2_with fail;clear y0 y1 y2 y3 y4
        go_loopw [3, 4] (fun v3 v4 wr => ∃ i : Nat, i <= n1 /\ v4 = .int .i64 (i : Nat) /\ v3 = .bool false /\ Hid (Below w1.heap.size w1 wr)) (fun _ v4 _ => n1 - (intOf v4).toNat)
        case atStart => exact ⟨0, by omega, rfl, rfl, hqw3⟩
        case round =>
          obtain ⟨i, hi, rfl, rfl, hqwr⟩ := hrel;obtain ⟨y0, y1, y2, y3, y4⟩ := Xp.cz5 (hTb.out wr hqwr.out)
          by_cases hlt : i < n1
          · have i1 : decide ((i : Int) < (n1 : Int)) = true := by simp; omega
            go_wp2_with fail;clear y0 y1 y2 y3 y4
            go_loopw [3, 5] (fun v3 v5 wq => ∃ k : Nat, k <= i /\ v5 = .int .i64 (k : Nat) /\ v3 = .bool false /\ Hid (Below w1.heap.size w1 wq)) (fun _ v5 _ => i - (intOf v5).toNat)
            case atStart => exact ⟨0, by omega, rfl, rfl, hqwr⟩
            case round =>
              obtain ⟨k, hk, rfl, rfl, hqwq⟩ := hrel
              by_cases hkl : k < i
              · have j1 : decide ((k : Int) < (i : Int)) = true := by simp; omega
                have hbd9 := Hd (hqwq.out.trans ((Joins.below_draws _ _ 1).mono hqwq.out.size));go_wp2_with fail;refine Pl.wp_region_plan 14 (.take 0 (.take 1 (.take 2 (.take 3 (.take 4 (.take 5 (.take 6 (.take 7 (.take 8 (.take 9 (.take 10 (.take 11 (.take 12 (.take 13 .done)))))))))))))) (fun _ => True) (by kernel_rfl) (by kernel_rfl) (trivial) ?_;simp only [Pl.fill, Al_4, Al_5, Al_6, Al_7]
                iterate 14
                  first
                  | (refine Pl.take_go ?_ (by rfl) (fun _ _ _ h => h) ?_ ?_
                     rotate_left
                     · (intro x hSw; (try dsimp only at hSw); go_simp; try with_reducible rfl)
                     (try simp only [Act.put, Al_1, Al_2, Al_3]))
                  | (refine Pl.take_skip (by rfl) (fun _ _ _ h => h) ?_
                     (try simp only [Act.put, Al_1, Al_2, Al_3]))
                refine Pl.done_go ?_;go_wp2_with fail;go_roundw
                case rel => exact ⟨k + 1, by omega, by go_num, rfl, hbd9⟩
                case measure => simp [intOf]; omega
              · have hki : k = i := by omega
                subst hki;have j1 : decide ((k : Int) < (k : Int)) = false := (by simp);go_wp2_with fail;go_roundw
                case rel => exact ⟨k + 1, by omega, by go_num, rfl, hqwq⟩
                case measure => simp [intOf]; omega
          · have hie : i = n1 := by omega
            subst hie;have i1 : decide ((i : Int) < (i : Int)) = false := (by simp);go_wp2_with fail;clear y0 y1 y2 y3 y4
            go_loopw [3, 6] (fun v3 v6 wq => ∃ q : Nat, q <= n2 /\ v6 = .int .i64 (q : Nat) /\ v3 = .bool false /\ Hid (Below w1.heap.size w1 wq)) (fun _ v6 _ => n2 - (intOf v6).toNat)
            case atStart => exact ⟨0, by omega, rfl, rfl, hqwr⟩
            case round =>
              obtain ⟨q, hq, rfl, rfl, hqws⟩ := hrel;obtain ⟨y0, y1, y2, y3, y4⟩ := Xp.cz5 (hTb.out _ hqws.out)
              by_cases hlt3 : q < n2
              · have i3 : decide ((q : Int) < (n2 : Int)) = true := by simp; omega
                go_wp2_with fail;go_roundw
                case rel => exact ⟨q + 1, by omega, by go_num, rfl, hqws⟩
                case measure => simp [intOf]; omega
              · have hie : q = n2 := by omega
                subst hie;have i3 : decide ((q : Int) < (q : Int)) = false := (by simp);have hRf : Hid (R = false) := Hd (by rw [hR.out, hbv.out]; rfl);have hfin := Xp.tu_ hbaH hqws;go_wp2_with fail
                (try simp only [Exit.inBlock, Exit.then])
                go_ret;exact ⟨by rw [hRf.out]; rfl, hfin.out⟩
    · have hbv : Hid (B0 = false) := Hd (by rw [<- hB0H.out]; rfl)
      go_wp2_with fail;clear y0 y1 y2 y3 y4
      go_loopw [3, 4] (fun v3 v4 wr => ∃ i : Nat, i <= n1 /\ v4 = .int .i64 (i : Nat) /\ v3 = .bool false /\ Hid (Below w1.heap.size w1 wr)) (fun _ v4 _ => n1 - (intOf v4).toNat)
      case atStart => exact ⟨0, by omega, rfl, rfl, hqw3⟩
      case round =>
        obtain ⟨i, hi, rfl, rfl, hqwr⟩ := hrel;obtain ⟨y0, y1, y2, y3, y4⟩ := Xp.cz5 (hTb.out wr hqwr.out)
        by_cases hlt : i < n1
        · have i1 : decide ((i : Int) < (n1 : Int)) = true := by simp; omega
          go_wp2_with fail;clear y0 y1 y2 y3 y4
          go_loopw [3, 5] (fun v3 v5 wq => ∃ k : Nat, k <= i /\ v5 = .int .i64 (k : Nat) /\ v3 = .bool false /\ Hid (Below w1.heap.size w1 wq)) (fun _ v5 _ => i - (intOf v5).toNat)
          case atStart => exact ⟨0, by omega, rfl, rfl, hqwr⟩
          case round =>
            obtain ⟨k, hk, rfl, rfl, hqwq⟩ := hrel
            by_cases hkl : k < i
            · have j1 : decide ((k : Int) < (i : Int)) = true := by simp; omega
              have hbd9 := Hd (hqwq.out.trans ((Joins.below_draws _ _ 1).mono hqwq.out.size));go_wp2_with fail;refine Pl.wp_region_plan 14 (.take 0 (.take 1 (.take 2 (.take 3 (.take 4 (.take 5 (.take 6 (.take 7 (.take 8 (.take 9 (.take 10 (.take 11 (.take 12 (.take 13 .done)))))))))))))) (fun _ => True) (by kernel_rfl) (by kernel_rfl) (trivial) ?_;simp only [Pl.fill, Al_4, Al_5, Al_6, Al_7]
              iterate 14
                first
                | (refine Pl.take_go ?_ (by rfl) (fun _ _ _ h => h) ?_ ?_
                   rotate_left
                   · (intro x hSw; (try dsimp only at hSw); go_simp; try with_reducible rfl)
                   (try simp only [Act.put, Al_1, Al_2, Al_3]))
                | (refine Pl.take_skip (by rfl) (fun _ _ _ h => h) ?_
                   (try simp only [Act.put, Al_1, Al_2, Al_3]))
              refine Pl.done_go ?_;go_wp2_with fail;go_roundw
              case rel => exact ⟨k + 1, by omega, by go_num, rfl, hbd9⟩
              case measure => simp [intOf]; omega
            · have hki : k = i := by omega
              subst hki;have j1 : decide ((k : Int) < (k : Int)) = false := (by simp);go_wp2_with fail;go_roundw
              case rel => exact ⟨k + 1, by omega, by go_num, rfl, hqwq⟩
              case measure => simp [intOf]; omega
        · have hie : i = n1 := by omega
          subst hie;have i1 : decide ((i : Int) < (i : Int)) = false := (by simp);go_wp2_with fail;clear y0 y1 y2 y3 y4
          go_loopw [3, 6] (fun v3 v6 wq => ∃ q : Nat, q <= n2 /\ v6 = .int .i64 (q : Nat) /\ v3 = .bool false /\ Hid (Below w1.heap.size w1 wq)) (fun _ v6 _ => n2 - (intOf v6).toNat)
          case atStart => exact ⟨0, by omega, rfl, rfl, hqwr⟩
          case round =>
            obtain ⟨q, hq, rfl, rfl, hqws⟩ := hrel;obtain ⟨y0, y1, y2, y3, y4⟩ := Xp.cz5 (hTb.out _ hqws.out)
            by_cases hlt3 : q < n2
            · have i3 : decide ((q : Int) < (n2 : Int)) = true := by simp; omega
              go_wp2_with fail;go_roundw
              case rel => exact ⟨q + 1, by omega, by go_num, rfl, hqws⟩
              case measure => simp [intOf]; omega
            · have hie : q = n2 := by omega
              subst hie;have i3 : decide ((q : Int) < (q : Int)) = false := (by simp);have hRf : Hid (R = false) := Hd (by rw [hR.out, hbv.out]; rfl);have hfin := Xp.tu_ hbaH hqws;go_wp2_with fail
              (try simp only [Exit.inBlock, Exit.then])
              go_ret;exact ⟨by rw [hRf.out]; rfl, hfin.out⟩
end Go.Proofs.YtokdnhdfmgfkeaaGreatDoor.Xp
end
