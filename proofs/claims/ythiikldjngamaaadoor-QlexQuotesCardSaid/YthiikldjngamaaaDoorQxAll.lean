/- scan and All. -/
import Derived.Test.YthiikldjngamaaaDoorQxTok
import Derived.Test.YthiikldjngamaaaDoorErrWalk2
namespace Go.Proofs.YthiikldjngamaaaDoor.Qx
open Go.RowKit UtfW Er

def ScanP (b : Nat) (S : List UInt8) (R : Int × Int × List Tok) (w : World) (e : Ending) (w' : World) : Prop :=
  e = .returned (.tuple #[.int .i64 R.1, .int .i64 R.2.1]) ∧ (R.1 = 0 → ∃ k A n c, Sc w' b S k R.2.2 A n c) ∧ Below b w w'

theorem runF_end {f k : Nat} {S : List UInt8} {ts : List Tok} (h : S.length ≤ k) : runF f S k ts = (0, 0, ts) := by
  cases f with
  | zero => rfl
  | succ f => rw [runF, if_pos h]
theorem runF_bad {f k : Nat} {S : List UInt8} {ts : List Tok} {cd : Int} (h : k < S.length) (ht : token (opd ts) (S.drop k) = .bad cd) : runF (f + 1) S k ts = (cd, (k : Int), ts) := by
  rw [runF, if_neg (by omega), ht]
theorem runF_tok {f k m : Nat} {S tx : List UInt8} {ts : List Tok} {kd : Int} (h : k < S.length) (ht : token (opd ts) (S.drop k) = .tok kd tx m) : runF (f + 1) S k ts = runF f S (sk S (k + m)) (ts ++ [(kd, (k : Int), tx)]) := by
  rw [runF, if_neg (by omega), ht]

set_option maxHeartbeats 1000000 in
set_option maxRecDepth 100000 in
theorem scan_any (w : World) (b : Nat) (S : List UInt8) (hS : S.length ≤ 1000) (h : Sc w b S 0 [] none 0 0) :
    Calls Tryd.prog 13 #[.pointer (some ⟨b, 0, none⟩)] w (ScanP b S (runF (S.length + 1) S (sk S 0) []) w) := by
  have hsz : (strOf S).size = S.length := strOf_size' S
  have h' := Lib.hid h
  clear h
  have hle0 := sk_le S 0 (by omega)
  obtain ⟨R, hR⟩ : ∃ R, runF (S.length + 1) S (sk S 0) [] = R := ⟨_, rfl⟩
  rw [hR]
  have hR' := Lib.hid hR
  clear hR
  go_enter Tryd.func13, Tryd.ntmps13
  go_wp2_with fail
  refine (skip_any w b S 0 [] none 0 0 (by omega) hS h'.out).mono ?_
  rintro e w1 ⟨rfl, hs1, hb1⟩
  have hs1' := Lib.hid hs1
  have hb1' := Lib.hid hb1
  clear hs1 hb1
  go_wp2_with fail
  go_loopg [] (S.length - sk S 0) (fun g wr => ∃ (f k : Nat) (ts : List Tok) (A : Option Addr) (n c : Nat), k ≤ S.length ∧ n ≤ k ∧ S.length - k ≤ g ∧ Hid (S.length < k + f) ∧ Hid (runF f S k ts = R) ∧ Hid (Sc wr b S k ts A n c) ∧ Hid (Below b w wr))
  case atStart => exact ⟨S.length + 1, sk S 0, [], none, 0, 0, hle0, by omega, Nat.le_refl _, Lib.hid (by omega), hR', hs1', hb1'⟩
  case round =>
    obtain ⟨f, k, ts, A, n, c, hk, hnk, hm, hf, hr, hs, hb⟩ := hrel
    have c0 := hs.out.c0
    have c1 := hs.out.c1
    by_cases hlt : k < S.length
    · have i0 : decide ((k : Int) < (S.length : Int)) = true := by simp; omega
      obtain ⟨g, hg⟩ : ∃ g, f = g + 1 := ⟨f - 1, by have := hf.out; omega⟩
      have hg' := Lib.hid hg
      clear hg
      go_wp2_with fail
      go_big_quiet (fail)
      have hs2 := Lib.hid (hs.out.below (Joins.below_draws _ wr nq))
      have hb2 := Lib.hid (hb.out.trans ((Joins.below_draws _ wr nq).mono (Nat.le_of_lt hs.out.lt)))
      generalize wr.drewN nq = w2 at hs2 hb2 ⊢
      clear c0 c1
      go_wp2_with fail
      refine (token_any w2 b S k ts A n c hlt hS (by omega) hs2.out).mono ?_
      intro e w3 hst
      obtain ⟨hb3, hst⟩ := hst
      have hb3' := Lib.hid (hb2.out.trans hb3)
      clear hb3
      cases ht : token (opd ts) (S.drop k) with
      | bad cd =>
        rw [ht] at hst
        obtain ⟨rfl, hs3⟩ := hst
        have hs3' := Lib.hid hs3
        have hcd := token_bad ht
        have hne : (cd != 0) = true := by rw [bne_iff_ne]; omega
        have hne' := Lib.hid hcd
        have c1 := hs3.c1
        have hrr : Hid (R = (cd, (k : Int), ts)) := Lib.hid (by rw [← hr.out, hg'.out]; exact runF_bad hlt ht)
        clear hs3 ht hcd
        go_wp2_with fail
        go_big_quiet (fail)
        go_wp2_with fail
        go_ret2
        refine ⟨by rw [hrr.out]; rfl, fun h0 => ?_, hb3'.out.trans ((Joins.below_draws _ _ _).mono (Nat.le_of_lt hs3'.out.lt))⟩
        rw [hrr.out] at h0
        have := hne'.out
        simp only at h0
        omega
      | tok kd tx m =>
        rw [ht] at hst
        obtain ⟨rfl, A', c', hs3⟩ := hst
        have hs3' := Lib.hid hs3
        have hlen := token_len ht
        rw [List.length_drop] at hlen
        have hrr : Hid (runF g S (sk S (k + m)) (ts ++ [(kd, (k : Int), tx)]) = R) := Lib.hid (by rw [← hr.out, hg'.out]; exact (runF_tok hlt ht).symm)
        clear hs3 ht
        go_wp2_with fail
        refine (skip_any w3 b S (k + m) _ A' (n + 1) c' (by omega) hS hs3'.out).mono ?_
        rintro e w4 ⟨rfl, hs4, hb4⟩
        have hs4' := Lib.hid hs4
        have hb4' := Lib.hid (hb3'.out.trans hb4)
        have hge := sk_ge S (k + m)
        have hle := sk_le S (k + m) (by omega)
        obtain ⟨k2, hk2⟩ : ∃ k2, sk S (k + m) = k2 := ⟨_, rfl⟩
        rw [hk2] at hrr hge hle hs4'
        clear hs4 hb4 hk2
        go_wp2_with fail
        go_roundg (S.length - k2)
        case measure => omega
        case rel => exact ⟨g, k2, _, A', n + 1, c', hle, by omega, Nat.le_refl _, Lib.hid (by have := hf.out; have := hg'.out; omega), hrr, hs4', hb4'⟩
    · have i0 : decide ((k : Int) < (S.length : Int)) = false := by simp; omega
      go_wp2_with fail
      go_big_quiet (fail)
      go_wp2_with fail
      go_ret2
      have hr2 := hr.out
      rw [runF_end (by omega)] at hr2
      refine ⟨by rw [← hr2]; rfl, fun _ => ?_, hb.out.trans ((Joins.below_draws _ _ _).mono (Nat.le_of_lt hs.out.lt))⟩
      rw [← hr2]
      exact ⟨k, A, n, c, hs.out.below (Joins.below_draws _ _ _)⟩

/-- What All gives. -/
def AllP (S : List UInt8) (w : World) (e : Ending) (w' : World) : Prop :=
  Below w.heap.size w w' ∧ ((allF S).1 = 0 → ∃ A n c, e = .returned (.tuple #[.slice A n c, .nilIface]) ∧ OwT w' w.heap.size 31 (.slice A n c) (allF S).2.2) ∧
    ((allF S).1 ≠ 0 → ∃ v ws, e = .returned (.tuple #[.slice none 0 0, v]) ∧ Fe w' w'.heap.size (allF S).1 (allF S).2.1 ws v)

theorem sc_new (w : World) (S : List UInt8) (hU : Ut w) : Sc (w.alloc (.cells #[.string (strOf S), .int .i64 0, .slice none 0 0] 43)) w.heap.size S 0 [] none 0 0 :=
  ⟨⟨w, hU, Nat.le_refl _, below_alloc _ _⟩, heap_alloc_new w _, OwT.nil _ _ _⟩

set_option maxHeartbeats 2000000 in
set_option maxRecDepth 100000 in
theorem All_any (w : World) (S : List UInt8) (hS : S.length ≤ 1000) (hU : Ut w) :
    Calls Tryd.prog 7 #[.string (strOf S)] w (AllP S w) := by
  have hsz : (strOf S).size = S.length := strOf_size' S
  have hnew := sc_new w S hU
  have hbn := below_alloc w (.cells #[.string (strOf S), .int .i64 0, .slice none 0 0] 43)
  obtain ⟨w1, hw1⟩ : ∃ w1, w.alloc (.cells #[.string (strOf S), .int .i64 0, .slice none 0 0] 43) = w1 := ⟨_, rfl⟩
  rw [hw1] at hnew hbn
  obtain ⟨hbs, hbw⟩ := bs_convert w1 (strOf S) (by omega)
  have hcv : (convert 9 37 (.string (strOf S))).run Tryd.prog w1 = .ok (.slice (some ⟨w1.heap.size, 0, none⟩) (strOf S).size (grownCap w1 (strOf S).size 0 5)) (Lib.bytesWorld w1 5 (strOf S)) :=
    Lib.run_convert_string_bytes w1 9 37 5 (strOf S) Tryd.underlying9 Tryd.underlying37 Tryd.underlying5
  obtain ⟨cb, hcb⟩ : ∃ cb, grownCap w1 (strOf S).size 0 5 = cb := ⟨_, rfl⟩
  obtain ⟨wb, hwb⟩ : ∃ wb, Lib.bytesWorld w1 5 (strOf S) = wb := ⟨_, rfl⟩
  rw [hcb, hwb] at hcv
  rw [hcb, hwb] at hbs
  rw [hwb] at hbw
  clear hcb hwb
  rw [hsz] at hcv hbs
  have hlst : (strOf S).data.toList = S := by simp [strOf]
  rw [hlst] at hbs
  have hs1 := Lib.hid (hnew.below hbw)
  have hb1 := Lib.hid (hbn.trans (hbw.mono hbn.size))
  have hu1 := hs1.out.us.ut
  have hdef : allF S = if 0 ≤ badW S 0 then (1, badW S 0, []) else runF (S.length + 1) S (sk S 0) [] := by
    unfold allF
    rw [if_neg (by omega)]
  obtain ⟨B, hB⟩ : ∃ B, badW S 0 = B := ⟨_, rfl⟩
  rw [hB] at hdef
  have hB' := Lib.hid hB
  have hdef' := Lib.hid hdef
  clear hnew hbn hbw hlst hdef hB
  go_enter Tryd.func7, Tryd.ntmps7
  go_wp2_with fail
  refine (utfBad_any _ _ cb S (by omega) wb hbs hu1).mono ?_
  rintro e w2 ⟨rfl, hb2⟩
  rw [hB'.out]
  have hs2 := Lib.hid (hs1.out.below hb2)
  have hb2' := Lib.hid (hb1.out.trans (hb2.mono hb1.out.size))
  clear hb2 hcv hw1
  have i0 : decide ((1000 : Int) < (S.length : Int)) = false := by simp; omega
  have i1 : ¬ (1000 < S.length) := by omega
  by_cases hneg : B < 0
  · have i2 : decide (0 ≤ B) = false := by simp; omega
    have hal : Hid (allF S = runF (S.length + 1) S (sk S 0) []) := Lib.hid (by rw [hdef'.out, if_neg (by omega)])
    have hsc := scan_any w2 w.heap.size S hS hs2.out
    rw [← hal.out] at hsc
    obtain ⟨R, hR⟩ : ∃ R, allF S = R := ⟨_, rfl⟩
    rw [hR] at hsc
    have hR' := Lib.hid hR
    clear hR hal hneg
    obtain ⟨cd, pl, ts⟩ := R
    go_wp2_with fail
    refine hsc.mono ?_
    rintro e w3 ⟨rfl, h3, hb3⟩
    have hb3' := Lib.hid (hb2'.out.trans hb3)
    simp only at h3
    by_cases hcd : cd = 0
    · subst hcd
      obtain ⟨k, A, n, c, hs3⟩ := h3 rfl
      have hs3' := Lib.hid hs3
      have c2 := hs3.c2
      clear hb3 h3 hs3
      go_wp2_with fail
      go_ret2
      refine ⟨hb3'.out, fun _ => ⟨A, n, c, rfl, ?_⟩, fun h => absurd (by rw [hR'.out]) h⟩
      rw [hR'.out]
      exact hs3'.out.row.mono (Nat.le_succ _)
    · have i3 : (cd != 0) = true := by rw [bne_iff_ne]; exact hcd
      have hcd' := Lib.hid hcd
      clear hb3 h3 hcd
      go_wp2_with fail
      refine (New_any cd pl hcd'.out w3).mono ?_
      rintro e w4 ⟨v, rfl, hb4, hfe⟩
      have hb4' := Lib.hid (hb3'.out.trans (hb4.mono hb3'.out.size))
      have hfe' := Lib.hid hfe
      clear hb4 hfe
      go_wp2_with fail
      refine (Wrap_any _ cd pl [] v w4 hfe'.out).mono ?_
      rintro e w5 ⟨v5, rfl, hb5, hfe5⟩
      have hb5' := Lib.hid (hb4'.out.trans (hb5.mono hb4'.out.size))
      have hfe5' := Lib.hid hfe5
      clear hb5 hfe5
      go_wp2_with fail
      go_ret2
      refine ⟨hb5'.out, fun h => absurd (by rw [hR'.out] at h; exact h) hcd'.out, fun _ => ⟨v5, [⟨#[113, 117, 101, 114, 121]⟩], rfl, ?_⟩⟩
      rw [hR'.out]
      exact hfe5'.out
  · have i2 : decide (0 ≤ B) = true := by simp; omega
    have hal : Hid (allF S = (1, B, [])) := Lib.hid (by rw [hdef'.out, if_pos (by omega)])
    go_wp2_with fail
    refine (New_any 1 B (by decide) w2).mono ?_
    rintro e w4 ⟨v, rfl, hb4, hfe⟩
    have hb4' := Lib.hid (hb2'.out.trans (hb4.mono hb2'.out.size))
    have hfe' := Lib.hid hfe
    clear hb4 hfe
    go_wp2_with fail
    refine (Wrap_any _ 1 B [] v w4 hfe'.out).mono ?_
    rintro e w5 ⟨v5, rfl, hb5, hfe5⟩
    have hb5' := Lib.hid (hb4'.out.trans (hb5.mono hb4'.out.size))
    have hfe5' := Lib.hid hfe5
    clear hb5 hfe5
    go_wp2_with fail
    go_ret2
    refine ⟨hb5'.out, fun h => by rw [hal.out] at h; simp at h, fun _ => ⟨v5, [⟨#[113, 117, 101, 114, 121]⟩], rfl, ?_⟩⟩
    rw [hal.out]
    exact hfe5'.out
end Go.Proofs.YthiikldjngamaaaDoor.Qx
