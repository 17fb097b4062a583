/- The records of a segment's bytes: the document's. -/
import Derived.Test.YtfdpnjebhllpkaaGreatDoorMSgGd
import Derived.Test.YtfdpnjebhllpkaaGreatDoorMDkRa
import Derived.Test.YtfdpnjebhllpkaaGreatDoorMFrameOps2
import Derived.Test.YtfdpnjebhllpkaaGreatDoorMSgHead
section
namespace Go.Proofs.YtfdpnjebhllpkaaGreatDoor.Sg
open Go.RowKit Dk

/-- A record's cell, its bytes in memory of the call's own. -/
def RcEl (B : Nat) (w : World) (vs : List Value) (r : List UInt8) : Prop := ∃ v, vs = [v] ∧ OwB w B 5 v r
theorem RcEl.one {B : Nat} (w : World) : ∀ (vs : List Value) (t : List UInt8), RcEl B w vs t → ∀ u ∈ vs, u.oneCell' = true := by
  rintro vs t ⟨v, rfl, h⟩ u hu
  obtain ⟨A, c, rfl, _⟩ := OwB.slice h
  rw [List.mem_singleton.1 hu]
  rfl
theorem RcEl.kept {B : Nat} {w w' : World} {row : Option Nat} (hg : w.grownBy w' row) (hn : NoE 5 w row) : ∀ vs x, RcEl B w vs x → RcEl B w' vs x := by
  rintro vs x ⟨v, rfl, h2⟩
  exact ⟨v, rfl, row_kept h2 hg hn⟩
theorem RcEl.below {B : Nat} {w w' : World} (hb : Below w.heap.size w w') : ∀ vs x, RcEl B w vs x → RcEl B w' vs x := RcEl.kept (grown_of_below hb) NoE.none
theorem RcEl.fm {B : Nat} {w w' : World} (hb : Fm w w') : ∀ vs x, RcEl B w vs x → RcEl B w' vs x := by
  rintro vs x ⟨v, rfl, h2⟩
  exact ⟨v, rfl, hb.owb h2⟩
theorem RcEl.rm {B : Nat} {w w' : World} (hb : Rm w w') : ∀ vs x, RcEl B w vs x → RcEl B w' vs x := by
  rintro vs x ⟨v, rfl, h2⟩
  exact ⟨v, rfl, hb.row h2 (by decide) (by decide)⟩
theorem RcEl.base {B B' : Nat} {w : World} (hB : B' ≤ B) : ∀ vs x, RcEl B w vs x → RcEl B' w vs x := by
  rintro vs x ⟨v, rfl, h2⟩
  exact ⟨v, rfl, OwB.base h2 hB⟩
abbrev OwR (w : World) (B : Nat) (v : Value) (ls : List (List UInt8)) : Prop := OwS (RcEl B) 1 w B 22 v ls
theorem OwR.below {w w' : World} {B : Nat} {v : Value} {l : List (List UInt8)} (h : OwR w B v l) (hb : Below w.heap.size w w') : OwR w' B v l := OwS.below h hb (RcEl.below hb)
theorem OwR.fm {w w' : World} {B : Nat} {v : Value} {l : List (List UInt8)} (h : OwR w B v l) (hb : Fm w w') : OwR w' B v l := ows_fm h hb (by decide) (by decide) (RcEl.fm hb)
theorem OwR.rm {w w' : World} {B : Nat} {v : Value} {l : List (List UInt8)} (h : OwR w B v l) (hb : Rm w w') : OwR w' B v l := by
  obtain ⟨xs, h3, h4⟩ := h
  exact ⟨xs, hb.row h3 (by decide) (by decide), h4.mono (RcEl.rm hb)⟩
theorem OwR.base {w : World} {B B' : Nat} {v : Value} {l : List (List UInt8)} (h : OwR w B v l) (hB : B' ≤ B) : OwR w B' v l := by
  obtain ⟨xs, h1, h2⟩ := h
  exact ⟨xs, ownsRow_base h1 hB, h2.mono (RcEl.base hB)⟩
theorem OwR.bsl {w : World} {B n c : Nat} {A : Option Addr} {ls : List (List UInt8)} (h : OwR w B (.slice A n c) ls) : BsL w A n c ls := by
  obtain ⟨xs, h1, h2⟩ := h
  have hn : n = ls.length := by
    rcases h1.2 with ⟨hv, h0⟩ | ⟨g, cap, cur, hv, _⟩
    · injection hv with _ h2 _; omega
    · injection hv
  subst hn
  refine ⟨xs, rd_of_own h1, rfl, fun j u hu => ?_⟩
  have hj : j < ls.length := by
    have := (List.getElem?_eq_some_iff.1 hu).1
    have := h2.len
    omega
  obtain ⟨vs, hk, ⟨v, rfl, ho⟩, hc⟩ := h2.at_ (List.getElem?_eq_getElem hj)
  have h0 := hc 0 v rfl
  rw [Nat.mul_one, Nat.add_zero, hu] at h0
  injection h0 with h0
  subst h0
  obtain ⟨A', c', rfl, hbs⟩ := OwB.slice ho
  exact ⟨_, List.getElem?_eq_getElem hj, El.of_bs hbs⟩
end Go.Proofs.YtfdpnjebhllpkaaGreatDoor.Sg
end

section
namespace Go.Proofs.YtfdpnjebhllpkaaGreatDoor.Sg
open Go.RowKit Dk

set_option maxHeartbeats 1000000 in
theorem all_own (A : Option Addr) (n c : Nat) (l : List UInt8) (w : World) (hBs : Bs w A n c l) (hsz : n ≤ 4294967295) :
    Calls Tryz.prog 60 #[.slice A n c] w fun e w' => ∃ A' c', e = .returned (.tuple #[.slice A' (Fr.all l).1.length c', .int .i64 ((Fr.all l).2.1 : Nat), .int .i64 ((Fr.all l).2.2 : Nat)]) ∧ OwR w' w.heap.size (.slice A' (Fr.all l).1.length c') (Fr.all l).1 ∧ Below w.heap.size w w' := by
  have hlc := Rd.le hBs
  have hcm := Rd.max hBs
  have HL : Hid (l.length = n) := hBs.len
  go_enter Tryz.func60, Tryz.ntmps60
  go_wp2_with fail
  go_loopw [5, 6] (fun v i wr => ∃ g A' c' ls, Hid (Fr.Upto l ls g) ∧ g ≤ n ∧ i = .int .i64 (g : Nat) ∧ v = .slice A' ls.length c' ∧ ls.length ≤ g ∧ OwR wr w.heap.size (.slice A' ls.length c') ls ∧ Below w.heap.size w wr) (fun _ i _ => n - (intOf i).toNat)
  case atStart => exact ⟨0, none, 0, [], Fr.upto_start l, by omega, rfl, rfl, by simp, OwS.nil _ _ _, Below.refl _ _⟩
  case round =>
    obtain ⟨g, A', c', ls, hu, hg, rfl, rfl, hlg, ho, hbw⟩ := hrel
    have hBw := hBs.below hbw
    have hcut : ∀ A1, (∀ b off, A = some ⟨b, off, none⟩ → g < c → A1 = some ⟨b, off + g, none⟩) → (A = none → A1 = none) → (A ≠ none → A1 ≠ none) → Bs wr A1 (n - g) (c - g) (l.drop g) := fun A1 h1 h2 h3 => by
      have h := hBw.cut g n hg (Nat.le_refl _) A1 h1 h2 h3
      rw [List.take_of_length_le (by rw [List.length_drop, HL.out]; omega)] at h
      exact h
    have hcA : c = g → Bs wr A (n - g) 0 (l.drop g) := fun hcg => by
      have h := hcut A (fun b off _ hlt => by omega) (fun h => h) (fun h => h)
      rw [show c - g = 0 from by omega] at h
      exact h
    have hcB : ¬ c = g → Bs wr (A.map fun x => x.add g) (n - g) (c - g) (l.drop g) := fun hcg =>
      hcut _ (fun b off hA _ => by subst hA; simp only [Option.map_some, Addr.add]; split <;> simp_all) (fun h => by subst h; rfl) (fun h1 h2 => h1 (by simpa using h2))
    have HA := Lib.hid hcA
    have HB := Lib.hid hcB
    have hnc := Fr.next_cases (l.drop g)
    rw [List.length_drop, HL.out] at hnc
    have HS : Hid _ := @Fr.upto_step l ls g hu.out
    have HE : Hid _ := @Fr.upto_end l ls g hu.out
    clear hcA hcB hcut
    generalize hX : Fr.next (l.drop g) = X at *
    have HX := Lib.hid hX
    clear hX
    obtain ⟨r, k, s⟩ := X
    simp only at hnc
    have HS' : Hid (s = 1 → Fr.Upto l (ls ++ [r]) (g + k)) := HS
    have HE' : Hid (s ≠ 1 → Fr.all l = (ls, g, s)) := HE
    clear HS HE
    by_cases hcg : c = g
    · have h1 : s ≠ 1 := by omega
      have hb : ((s : Int) != 1) = true := by rw [bne_iff_ne]; omega
      have hcA := HA.out hcg
      clear hnc
      go_wp2_with fail
      refine (FrW.next_any _ _ _ (l.drop g) _ hcA).mono ?_
      rw [HX.out]
      rintro e w2 ⟨A2, c2, rfl, ho2, hb2⟩
      have hbw2 : Below w.heap.size w w2 := hbw.trans (hb2.mono hbw.size)
      have hoo := OwR.below ho hb2
      go_wp2_with fail
      go_ret3
      rw [HE'.out h1]
      exact ⟨A', c', rfl, hoo, hbw2⟩
    · go_wp2_with fail
      refine (FrW.next_any _ _ _ (l.drop g) _ (HB.out hcg)).mono ?_
      rw [HX.out]
      rintro e w2 ⟨A2, c2, rfl, ho2, hb2⟩
      have hbw2 : Below w.heap.size w w2 := hbw.trans (hb2.mono hbw.size)
      have hoo := OwR.below ho hb2
      by_cases h1 : s = 1
      · subst h1
        have hk : k ≤ n - g ∧ 9 ≤ k := by omega
        obtain ⟨hk1, hk2⟩ := hk
        clear hnc
        go_wp2_with (at_builtin; apply stop_here)
        have hba := below_alloc w2 (.cells #[.slice A2 r.length c2] 22)
        have hel : RcEl w.heap.size (w2.alloc (.cells [.slice A2 r.length c2].toArray 22)) [.slice A2 r.length c2] r := ⟨_, rfl, OwB.below (OwB.base ho2 hbw.size) hba⟩
        have hsq := sq_one (El := RcEl w.heap.size) (k := 1) w2 [.slice A2 r.length c2] r 22 (0, 0) rfl hel
        refine Stop.go (append_sq (El := RcEl w.heap.size) (k := 1) _ 24 22 (.slice none 0 0) 24 Tryz.underlying24 (by kernel_rfl) rfl (by omega) rfl _ _ rfl w.heap.size _ ls rfl (OwR.below hoo hba) _ 1 1 [r] rfl hsq (RcEl.one _) (fun w' hg => RcEl.kept hg (ows_noE (OwR.below hoo hba) (by decide))) (ls.length + 1) rfl (by omega) (by omega) (by have := hbw2.size; simp; omega) ?_)
        intro A3 c3 w3 ho3 hg3 hb3 _
        have hbw3 : Below w.heap.size w w3 := hbw2.trans ((hba.mono hbw2.size).trans hb3)
        clear hg3 hb3 hsq hel hba
        go_wp2_with fail
        go_roundw
        case rel => exact ⟨g + k, A3, c3, ls ++ [r], HS'.out (by trivial), by omega, by go_num, by simp, by simp; omega, by simpa using ho3, hbw3⟩
        case measure => simp [intOf]; omega
      · have hb : ((s : Int) != 1) = true := by rw [bne_iff_ne]; omega
        clear hnc
        go_wp2_with fail
        go_ret3
        rw [HE'.out h1]
        exact ⟨A', c', rfl, hoo, hbw2⟩

set_option maxHeartbeats 1000000 in
theorem refall_own (A : Option Addr) (n c : Nat) (l : List UInt8) (w : World) (hBs : Bs w A n c l) (hsz : n ≤ 4294967295) :
    Calls Tryz.prog 61 #[.slice A n c] w fun e w' => ∃ A' c', e = .returned (.tuple #[.slice A' (Fr.all l).1.length c', .int .i64 ((Fr.all l).2.1 : Nat), .int .i64 ((Fr.all l).2.2 : Nat)]) ∧ OwR w' w.heap.size (.slice A' (Fr.all l).1.length c') (Fr.all l).1 ∧ Below w.heap.size w w' := by
  have hlc := Rd.le hBs
  have hcm := Rd.max hBs
  have HL : Hid (l.length = n) := hBs.len
  go_enter Tryz.func61, Tryz.ntmps61
  go_wp2_with fail
  go_loopw [5, 6] (fun v i wr => ∃ g A' c' ls, Hid (Fr.Upto l ls g) ∧ g ≤ n ∧ i = .int .i64 (g : Nat) ∧ v = .slice A' ls.length c' ∧ ls.length ≤ g ∧ OwR wr w.heap.size (.slice A' ls.length c') ls ∧ Below w.heap.size w wr) (fun _ i _ => n - (intOf i).toNat)
  case atStart => exact ⟨0, none, 0, [], Fr.upto_start l, by omega, rfl, rfl, by simp, OwS.nil _ _ _, Below.refl _ _⟩
  case round =>
    obtain ⟨g, A', c', ls, hu, hg, rfl, rfl, hlg, ho, hbw⟩ := hrel
    have hBw := hBs.below hbw
    have hcut : ∀ A1, (∀ b off, A = some ⟨b, off, none⟩ → g < c → A1 = some ⟨b, off + g, none⟩) → (A = none → A1 = none) → (A ≠ none → A1 ≠ none) → Bs wr A1 (n - g) (c - g) (l.drop g) := fun A1 h1 h2 h3 => by
      have h := hBw.cut g n hg (Nat.le_refl _) A1 h1 h2 h3
      rw [List.take_of_length_le (by rw [List.length_drop, HL.out]; omega)] at h
      exact h
    have hcA : c = g → Bs wr A (n - g) 0 (l.drop g) := fun hcg => by
      have h := hcut A (fun b off _ hlt => by omega) (fun h => h) (fun h => h)
      rw [show c - g = 0 from by omega] at h
      exact h
    have hcB : ¬ c = g → Bs wr (A.map fun x => x.add g) (n - g) (c - g) (l.drop g) := fun hcg =>
      hcut _ (fun b off hA _ => by subst hA; simp only [Option.map_some, Addr.add]; split <;> simp_all) (fun h => by subst h; rfl) (fun h1 h2 => h1 (by simpa using h2))
    have HA := Lib.hid hcA
    have HB := Lib.hid hcB
    have hnc := Fr.next_cases (l.drop g)
    rw [List.length_drop, HL.out] at hnc
    have HS : Hid _ := @Fr.upto_step l ls g hu.out
    have HE : Hid _ := @Fr.upto_end l ls g hu.out
    clear hcA hcB hcut
    generalize hX : Fr.next (l.drop g) = X at *
    have HX := Lib.hid hX
    clear hX
    obtain ⟨r, k, s⟩ := X
    simp only at hnc
    have HS' : Hid (s = 1 → Fr.Upto l (ls ++ [r]) (g + k)) := HS
    have HE' : Hid (s ≠ 1 → Fr.all l = (ls, g, s)) := HE
    clear HS HE
    by_cases hcg : c = g
    · have h1 : s ≠ 1 := by omega
      have hb : ((s : Int) != 1) = true := by rw [bne_iff_ne]; omega
      have hcA := HA.out hcg
      clear hnc
      go_wp2_with fail
      refine (FrW.refnext_any _ _ _ (l.drop g) _ hcA).mono ?_
      rw [HX.out]
      rintro e w2 ⟨A2, c2, rfl, ho2, hb2⟩
      have hbw2 : Below w.heap.size w w2 := hbw.trans (hb2.mono hbw.size)
      have hoo := OwR.below ho hb2
      go_wp2_with fail
      go_ret3
      rw [HE'.out h1]
      exact ⟨A', c', rfl, hoo, hbw2⟩
    · go_wp2_with fail
      refine (FrW.refnext_any _ _ _ (l.drop g) _ (HB.out hcg)).mono ?_
      rw [HX.out]
      rintro e w2 ⟨A2, c2, rfl, ho2, hb2⟩
      have hbw2 : Below w.heap.size w w2 := hbw.trans (hb2.mono hbw.size)
      have hoo := OwR.below ho hb2
      by_cases h1 : s = 1
      · subst h1
        have hk : k ≤ n - g ∧ 9 ≤ k := by omega
        obtain ⟨hk1, hk2⟩ := hk
        clear hnc
        go_wp2_with (at_builtin; apply stop_here)
        have hba := below_alloc w2 (.cells #[.slice A2 r.length c2] 22)
        have hel : RcEl w.heap.size (w2.alloc (.cells [.slice A2 r.length c2].toArray 22)) [.slice A2 r.length c2] r := ⟨_, rfl, OwB.below (OwB.base ho2 hbw.size) hba⟩
        have hsq := sq_one (El := RcEl w.heap.size) (k := 1) w2 [.slice A2 r.length c2] r 22 (0, 0) rfl hel
        refine Stop.go (append_sq (El := RcEl w.heap.size) (k := 1) _ 24 22 (.slice none 0 0) 24 Tryz.underlying24 (by kernel_rfl) rfl (by omega) rfl _ _ rfl w.heap.size _ ls rfl (OwR.below hoo hba) _ 1 1 [r] rfl hsq (RcEl.one _) (fun w' hg => RcEl.kept hg (ows_noE (OwR.below hoo hba) (by decide))) (ls.length + 1) rfl (by omega) (by omega) (by have := hbw2.size; simp; omega) ?_)
        intro A3 c3 w3 ho3 hg3 hb3 _
        have hbw3 : Below w.heap.size w w3 := hbw2.trans ((hba.mono hbw2.size).trans hb3)
        clear hg3 hb3 hsq hel hba
        go_wp2_with fail
        go_roundw
        case rel => exact ⟨g + k, A3, c3, ls ++ [r], HS'.out (by trivial), by omega, by go_num, by simp, by simp; omega, by simpa using ho3, hbw3⟩
        case measure => simp [intOf]; omega
      · have hb : ((s : Int) != 1) = true := by rw [bne_iff_ne]; omega
        clear hnc
        go_wp2_with fail
        go_ret3
        rw [HE'.out h1]
        exact ⟨A', c', rfl, hoo, hbw2⟩

end Go.Proofs.YtfdpnjebhllpkaaGreatDoor.Sg
end

section
namespace Go.Proofs.YtfdpnjebhllpkaaGreatDoor.Sg
open Go.RowKit Ma Dk

/-- What Scan tells, of any number. -/
def scanN (n : Int) (b : List UInt8) : List (List UInt8) × Nat × Nat := if okN n = true then scan (head n) b else ([], 0, 4)
def ScanP (w : World) (s : List (List UInt8) × Nat × Nat) (e : Ending) (w' : World) : Prop :=
  ∃ A c, e = .returned (.tuple #[.slice A s.1.length c, .int .i64 (s.2.1 : Nat), .int .i64 (s.2.2 : Nat)]) ∧ OwR w' w.heap.size (.slice A s.1.length c) s.1 ∧ Below w.heap.size w w'

theorem str_same (l l2 : List UInt8) : ((strOf l).toList == (strOf l2).toList) = decide (l = l2) := by
  rw [str_beq]
  by_cases e : l = l2
  · subst e
    simp
  · rw [decide_eq_false e, decide_eq_false]
    intro h
    exact e (congrArg (fun x : ByteArray => x.data.toList) h)

set_option maxHeartbeats 1000000 in
theorem equal_any (A : Option Addr) (n c : Nat) (l : List UInt8) (A2 : Option Addr) (n2 c2 : Nat) (l2 : List UInt8) (w : World) (h : Bs w A n c l) (h2 : Bs w A2 n2 c2 l2) :
    Calls Tryz.prog 59 #[.slice A n c, .slice A2 n2 c2] w fun e w' => e = .returned (.bool (decide (l = l2))) ∧ w' = w := by
  have k1 := h.conv (P := Tryz.prog) (src := 22) (dst := 9) Tryz.underlying22 Tryz.underlying5 Tryz.underlying9
  have k2 := h2.conv (P := Tryz.prog) (src := 22) (dst := 9) Tryz.underlying22 Tryz.underlying5 Tryz.underlying9
  have hs := Lib.hid (str_same l l2)
  clear h h2
  go_enter Tryz.func59, Tryz.ntmps59
  go_wp2_with fail
  go_ret
  rw [← hs.out]
  exact ⟨rfl, rfl⟩

theorem bs_to {w : World} {A : Option Addr} {n c q : Nat} {l : List UInt8} (h : Bs w A n c l) (hq : q ≤ n) : Bs w A q c (l.take q) := by
  have := h.cut 0 q (by omega) hq A (by intro b off e _; rw [e]; rfl) (fun e => e) (fun e => e)
  rw [Nat.sub_zero, Nat.sub_zero, List.drop_zero] at this
  exact this
theorem bs_from {w : World} {A : Option Addr} {n c g : Nat} {l : List UInt8} (h : Bs w A n c l) (hg : g ≤ n) :
    (c = g → Bs w A (n - g) 0 (l.drop g)) ∧ (¬ c = g → Bs w (A.map fun x => x.add g) (n - g) (c - g) (l.drop g)) := by
  have hl := h.len
  have hcut : ∀ A1, (∀ b off, A = some ⟨b, off, none⟩ → g < c → A1 = some ⟨b, off + g, none⟩) → (A = none → A1 = none) → (A ≠ none → A1 ≠ none) → Bs w A1 (n - g) (c - g) (l.drop g) := fun A1 h1 h2 h3 => by
    have h := h.cut g n hg (Nat.le_refl _) A1 h1 h2 h3
    rw [List.take_of_length_le (by rw [List.length_drop]; omega)] at h
    exact h
  refine ⟨fun hcg => ?_, fun hcg => ?_⟩
  · have h := hcut A (fun b off _ hlt => by omega) (fun h => h) (fun h => h)
    rw [show c - g = 0 from by omega] at h
    exact h
  · exact hcut _ (fun b off hA _ => by subst hA; simp only [Option.map_some, Addr.add]; split <;> simp_all) (fun h => by subst h; rfl) (fun h1 h2 => h1 (by simpa using h2))

theorem bs_from12 {w : World} {A : Option Addr} {n c : Nat} {l : List UInt8} (h : Bs w A n c l) (hg : 12 ≤ n) :
    (c = 12 → Bs w A 0 0 (l.drop 12)) ∧ (¬ c = 12 → Bs w (A.map fun x => ({ block := x.block, off := x.off + 12 } : Addr)) (n - 12) (c - 12) (l.drop 12)) := by
  have hl := h.len
  have hle := Rd.le h
  have hcut : ∀ A1, (∀ b off, A = some ⟨b, off, none⟩ → 12 < c → A1 = some ⟨b, off + 12, none⟩) → (A = none → A1 = none) → (A ≠ none → A1 ≠ none) → Bs w A1 (n - 12) (c - 12) (l.drop 12) := fun A1 h1 h2 h3 => by
    have h := h.cut 12 n hg (Nat.le_refl _) A1 h1 h2 h3
    rw [List.take_of_length_le (by rw [List.length_drop]; omega)] at h
    exact h
  refine ⟨fun hcg => ?_, fun hcg => ?_⟩
  · have h := hcut A (fun b off _ hlt => by omega) (fun h => h) (fun h => h)
    rw [show c - 12 = 0 from by omega, show n - 12 = 0 from by omega] at h
    exact h
  · exact hcut _ (fun b off hA _ => by subst hA; rfl) (fun h => by subst h; rfl) (fun h1 h2 => h1 (by simpa using h2))

theorem scan_no {n : Int} {l : List UInt8} (h : okN n = false) : scanN n l = ([], 0, 4) := by
  unfold scanN
  rw [h, if_neg (by simp)]
theorem scan_bad {n : Int} {l : List UInt8} (h : okN n = true) (hb : l.take 12 ≠ (head n).take l.length) : scanN n l = ([], 0, 4) := by
  unfold scanN scan
  rw [if_pos h, if_pos hb]
theorem scan_torn {n : Int} {l : List UInt8} (h : okN n = true) (hb : l.take 12 = (head n).take l.length) (hl : l.length < 12) : scanN n l = ([], 0, 3) := by
  unfold scanN scan
  rw [if_pos h, if_neg (by rw [hb]; simp), if_pos hl]
theorem scan_all {n : Int} {l : List UInt8} (h : okN n = true) (hb : l.take 12 = (head n).take l.length) (hl : 12 ≤ l.length) :
    scanN n l = ((Fr.all (l.drop 12)).1, 12 + (Fr.all (l.drop 12)).2.1, (Fr.all (l.drop 12)).2.2) := by
  unfold scanN scan
  rw [if_pos h, if_neg (by rw [hb]; simp), if_neg (by omega)]

set_option maxHeartbeats 2000000 in
set_option maxRecDepth 100000 in
theorem Scan_any (n : Int) (A : Option Addr) (nb cb : Nat) (l : List UInt8) (w : World) (hBs : Bs w A nb cb l) (hsz : nb ≤ 4294967295) :
    Calls Tryz.prog 12 #[.int .i64 n, .slice A nb cb] w (ScanP w (scanN n l)) := by
  have hle := Rd.le hBs
  have hmx := Rd.max hBs
  have hlen := Lib.hid hBs.len
  have hBs' := Lib.hid hBs
  clear hBs
  obtain ⟨R, hR⟩ : ∃ R, scanN n l = R := ⟨_, rfl⟩
  rw [hR]
  have hR' := Lib.hid hR
  clear hR
  go_enter Tryz.func12, Tryz.ntmps12
  go_wp2_with fail
  refine (Head_any n w).mono ?_
  rintro e w1 ⟨Ah, ch, rfl, ho, hb1⟩
  have ho' := Lib.hid ho.bs
  have hb1' := Lib.hid hb1
  have hB1 := Lib.hid (hBs'.out.below hb1)
  have hlh := Rd.le ho.bs
  have hmh := Rd.max ho.bs
  clear ho hb1
  cases hok : okN n
  · have hR2 := hR'.out
    rw [scan_no hok] at hR2
    subst hR2
    obtain ⟨q, hq⟩ : ∃ q, (head n).length = q := ⟨_, rfl⟩
    rw [hq] at hlh ho' ⊢
    clear hq
    have hm : ∀ w', Calls Tryz.prog 58 #[.int .i64 n] w' fun e w'' => e = .returned (.bool false) ∧ w'' = w' := fun w' => by
      have := segmay_any n w'
      rw [hok] at this
      exact this
    clear hok
    go_wp2_with fail
    go_quiet ((go_at_call 58; exact Calls.quiet_of_same (hm _)))
    go_wp2_with fail
    go_ret3
    exact ⟨none, 0, rfl, OwS.nil _ _ _, hb1'.out.trans ((Joins.below_draws _ _ _).mono hb1'.out.size)⟩
  · have hl12 := head_len hok
    rw [hl12] at hlh ho' ⊢
    have hhl := Lib.hid hl12
    have hm : ∀ w', Calls Tryz.prog 58 #[.int .i64 n] w' fun e w'' => e = .returned (.bool true) ∧ w'' = w' := fun w' => by
      have := segmay_any n w'
      rw [hok] at this
      exact this
    obtain ⟨q, hq⟩ : ∃ q : Nat, min (nb : Int) 12 = q := ⟨min nb 12, by omega⟩
    have hq1 : q ≤ nb := by omega
    have hq2 : q ≤ 12 := by omega
    have hq3 : Hid (q = min nb 12) := Lib.hid (by omega)
    have he : ∀ w', Below w1.heap.size w1 w' → Calls Tryz.prog 59 #[.slice A q cb, .slice Ah q ch] w' fun e w'' => e = .returned (.bool (decide (l.take 12 = (head n).take l.length))) ∧ w'' = w' := fun w' hb => by
      have h := equal_any A q cb _ Ah q ch _ w' (bs_to (hB1.out.below hb) hq1) (bs_to (ho'.out.below hb) hq2)
      have e1 : l.take q = l.take 12 := by
        rcases Nat.lt_or_ge nb 12 with h9 | h9
        · rw [List.take_of_length_le (by rw [hlen.out]; omega), List.take_of_length_le (by rw [hlen.out]; omega)]
        · rw [show q = 12 by omega]
      have e2 : (head n).take q = (head n).take l.length := by
        rw [hlen.out]
        rcases Nat.lt_or_ge nb 12 with h9 | h9
        · rw [show q = nb by omega]
        · rw [List.take_of_length_le (by rw [hl12]; omega), List.take_of_length_le (by rw [hl12]; omega)]
      rw [e1, e2] at h
      exact h
    have he' := Lib.hid he
    have hok' := Lib.hid hok
    clear hl12 hok he
    cases hpre : decide (l.take 12 = (head n).take l.length)
    · have hR2 := hR'.out
      rw [scan_bad hok'.out (of_decide_eq_false hpre)] at hR2
      subst hR2
      rw [hpre] at he'
      clear hpre
      go_wp2_with fail
      go_quiet ((first | (go_at_call 58; exact Calls.quiet_of_same (hm _)) | (go_at_call 59; exact Calls.quiet_of_same (he'.out _ (Joins.below_draws _ _ _)))))
      go_wp2_with fail
      go_ret3
      exact ⟨none, 0, rfl, OwS.nil _ _ _, hb1'.out.trans ((Joins.below_draws _ _ _).mono hb1'.out.size)⟩
    · have hpre' := Lib.hid (of_decide_eq_true hpre)
      rw [hpre] at he'
      clear hpre
      by_cases h12 : nb < 12
      · have hR2 := hR'.out
        rw [scan_torn hok'.out hpre'.out (by rw [hlen.out]; exact h12)] at hR2
        subst hR2
        have i1 : decide ((q : Int) < 12) = true := by rw [decide_eq_true_eq]; have := hq3.out; omega
        have i2 : decide (q < 12) = true := by rw [decide_eq_true_eq]; have := hq3.out; omega
        go_wp2_with fail
        go_quiet ((first | (go_at_call 58; exact Calls.quiet_of_same (hm _)) | (go_at_call 59; exact Calls.quiet_of_same (he'.out _ (Joins.below_draws _ _ _)))))
        go_wp2_with fail
        go_ret3
        exact ⟨none, 0, rfl, OwS.nil _ _ _, hb1'.out.trans ((Joins.below_draws _ _ _).mono hb1'.out.size)⟩
      · have hR2 := hR'.out
        rw [scan_all hok'.out hpre'.out (by rw [hlen.out]; omega)] at hR2
        have i1 : decide ((q : Int) < 12) = false := by rw [decide_eq_false_iff_not]; have := hq3.out; omega
        have i2 : decide (q < 12) = false := by rw [decide_eq_false_iff_not]; have := hq3.out; omega
        have hR2' := Lib.hid hR2
        clear hR2
        go_wp2_with fail
        go_quiet ((first | (go_at_call 58; exact Calls.quiet_of_same (hm _)) | (go_at_call 59; exact Calls.quiet_of_same (he'.out _ (Joins.below_draws _ _ _)))))
        have hbd := Lib.hid (hb1'.out.trans ((Joins.below_draws w1.heap.size w1 nq).mono hb1'.out.size))
        have hB3 := Lib.hid (hB1.out.below (Joins.below_draws w1.heap.size w1 nq))
        generalize w1.drewN nq = w3 at hbd hB3 ⊢
        obtain ⟨hcA, hcB⟩ := bs_from12 hB3.out (by omega)
        have hgl : Hid ((Fr.all (l.drop 12)).2.1 ≤ nb) := Lib.hid (by have := Fr.all_le (l.drop 12); rw [List.length_drop, hlen.out] at this; omega)
        have hAl := fun A1 n1 c1 h9 h8 => all_own A1 n1 c1 (l.drop 12) w3 h9 h8
        obtain ⟨X, hX⟩ : ∃ X, Fr.all (l.drop 12) = X := ⟨_, rfl⟩
        rw [hX] at hAl hR2' hgl
        obtain ⟨ls, g, st⟩ := X
        simp only at hAl hR2' hgl
        have hg9 : g ≤ 4294967295 := by have := hgl.out; omega
        have hAl' := Lib.hid hAl
        clear hAl hX he' hm hq ho' hB1 hBs'
        by_cases hc12 : cb = 12
        · have hcA' := Lib.hid (hcA hc12)
          subst hc12
          clear hcA hcB
          go_wp2_with fail
          refine (hAl'.out _ _ _ hcA'.out (by omega)).mono ?_
          rintro e w4 ⟨A4, c4, rfl, ho4, hb4⟩
          have ho4' := Lib.hid (OwR.base ho4 hbd.out.size)
          have hx4 := Lib.hid (hbd.out.trans (hb4.mono hbd.out.size))
          clear ho4 hb4 hAl' hcA'
          go_wp2_with fail
          go_ret3
          rw [← hR2'.out]
          exact ⟨A4, c4, by go_num, ho4'.out, hx4.out⟩
        · have hcB' := Lib.hid (hcB hc12)
          clear hcA hcB
          go_wp2_with fail
          refine (hAl'.out _ _ _ hcB'.out (by omega)).mono ?_
          rintro e w4 ⟨A4, c4, rfl, ho4, hb4⟩
          have ho4' := Lib.hid (OwR.base ho4 hbd.out.size)
          have hx4 := Lib.hid (hbd.out.trans (hb4.mono hbd.out.size))
          clear ho4 hb4 hAl' hcB'
          go_wp2_with fail
          go_ret3
          rw [← hR2'.out]
          exact ⟨A4, c4, by go_num, ho4'.out, hx4.out⟩
end Go.Proofs.YtfdpnjebhllpkaaGreatDoor.Sg
end

section
namespace Go.Proofs.YtfdpnjebhllpkaaGreatDoor.Sg
open Go.RowKit Ma Dk

theorem take_same {l h : List UInt8} {k : Nat} {x : UInt8} (ht : l.take k = h.take k) (h1 : l[k]? = some x) (h2 : h[k]? = some x) : l.take (k + 1) = h.take (k + 1) := by
  rw [take_snoc h1, take_snoc h2, ht]
theorem take_other {l h : List UInt8} {k : Nat} {x y : UInt8} (hk : k < 12) (h1 : l[k]? = some x) (h2 : h[k]? = some y) (hne : x ≠ y) : l.take 12 ≠ h.take l.length := by
  intro e
  have hl := (List.getElem?_eq_some_iff.1 h1).1
  have e2 := congrArg (fun z : List UInt8 => z[k]?) e

  rw [List.getElem?_take_of_lt hk, List.getElem?_take_of_lt hl, h1, h2] at e2
  injection e2 with e2
  exact hne e2

set_option maxHeartbeats 1000000 in
set_option maxRecDepth 100000 in
theorem refScan_any (n : Int) (A : Option Addr) (nb cb : Nat) (l : List UInt8) (w : World) (hBs : Bs w A nb cb l) (hsz : nb ≤ 4294967295) :
    Calls Tryz.prog 13 #[.int .i64 n, .slice A nb cb] w (ScanP w (scanN n l)) := by
  have hle := Rd.le hBs
  have hmx := Rd.max hBs
  have hlen := Lib.hid hBs.len
  have hBs' := Lib.hid hBs
  clear hBs
  obtain ⟨R, hR⟩ : ∃ R, scanN n l = R := ⟨_, rfl⟩
  rw [hR]
  have hR' := Lib.hid hR
  clear hR
  go_enter Tryz.func13, Tryz.ntmps13
  go_wp2_with fail
  refine (refHead_any n w).mono ?_
  rintro e w1 ⟨Ah, ch, rfl, ho, hb1⟩
  have ho' := Lib.hid ho.bs
  have hb1' := Lib.hid hb1
  have hB1 := Lib.hid (hBs'.out.below hb1)
  have hlh := Rd.le ho.bs
  have hmh := Rd.max ho.bs
  clear ho hb1
  cases hok : okN n
  · have hR2 := hR'.out
    rw [scan_no hok] at hR2
    subst hR2
    obtain ⟨q, hq⟩ : ∃ q, (head n).length = q := ⟨_, rfl⟩
    rw [hq] at hlh ho' ⊢
    clear hq
    have hm := may7_any n w1
    rw [hok] at hm
    clear hok
    go_wp2_with fail
    refine hm.mono ?_
    rintro e w2 ⟨rfl, rfl⟩
    go_wp2_with fail
    go_ret3
    exact ⟨none, 0, rfl, OwS.nil _ _ _, hb1'.out⟩
  · have hl12 := head_len hok
    rw [hl12] at hlh ho' ⊢
    have hhl := Lib.hid hl12
    have hm := may7_any n w1
    rw [hok] at hm
    have hok' := Lib.hid hok
    clear hl12 hok
    go_wp2_with fail
    refine hm.mono ?_
    rintro e w2 ⟨rfl, rfl⟩
    clear hm
    go_wp2_with fail
    go_loopw [8] (fun i wr => ∃ k : Nat, k ≤ 12 ∧ k ≤ nb ∧ i = .int .i64 k ∧ Hid (l.take k = (head n).take k) ∧ Hid (Below w2.heap.size w2 wr)) (fun i _ => 12 - (intOf i).toNat)
    case atStart => exact ⟨0, by omega, by omega, rfl, Lib.hid rfl, Lib.hid (Below.refl _ _)⟩
    case round =>
      obtain ⟨k, hk, hkn, rfl, hpre, hbw⟩ := hrel
      by_cases hlt : k < 12 ∧ k < nb
      · obtain ⟨hlt, hlt2⟩ := hlt
        have i1 : decide ((k : Int) < 12) = true := by rw [decide_eq_true_eq]; omega
        have i2 : decide (k < 12) = true := by rw [decide_eq_true_eq]; omega
        have i3 : decide ((k : Int) < (nb : Int)) = true := by rw [decide_eq_true_eq]; omega
        have i4 : decide (k < nb) = true := by rw [decide_eq_true_eq]; omega
        have i5 : (k : Int) < (nb : Int) := by omega
        have i6 : (k : Int) < 12 := by omega
        obtain ⟨b, off, x, rfl, hb, hx, _, c1⟩ := (hB1.out.below hbw.out).at_ hlt2
        obtain ⟨bh, offh, y, rfl, hbh, hy, _, c2⟩ := (ho'.out.below hbw.out).at_ hlt
        by_cases hxy : x = y
        · subst hxy
          have hne : ((x.toNat : Int) != (x.toNat : Int)) = false := by simp
          have hpre2 := Lib.hid (take_same hpre.out hx hy)
          clear hx hy hpre
          go_wp2_with fail
          go_quiet (fail)
          go_wp2_with fail
          go_roundw
          case rel => exact ⟨k + 1, by omega, by omega, by go_num, hpre2, Lib.hid (hbw.out.trans ((Joins.below_draws _ wr _).mono hbw.out.size))⟩
          case measure => simp [intOf]; omega
        · have hne : ((x.toNat : Int) != (y.toNat : Int)) = true := by
            rw [bne_iff_ne]
            intro e
            exact hxy (UInt8.toNat_inj.1 (by omega))
          have hR2 := hR'.out
          rw [scan_bad hok'.out (take_other hlt hx hy hxy)] at hR2
          subst hR2
          clear hx hy hpre hxy
          go_wp2_with fail
          go_quiet (fail)
          go_wp2_with fail
          go_ret3
          exact ⟨none, 0, rfl, OwS.nil _ _ _, (hb1'.out.trans (hbw.out.mono hb1'.out.size)).trans ((Joins.below_draws _ wr _).mono (by have := hb1'.out.size; have := hbw.out.size; omega))⟩
      · by_cases h12 : nb < 12
        · have hR2 := hR'.out
          obtain rfl : k = nb := by omega
          rw [scan_torn hok'.out (by have := hpre.out; rw [List.take_of_length_le (by rw [hlen.out]; exact Nat.le_refl _)] at this; rw [List.take_of_length_le (by rw [hlen.out]; omega), hlen.out]; exact this) (by rw [hlen.out]; exact h12)] at hR2
          subst hR2
          have i1 : decide ((k : Int) < 12) = true := by rw [decide_eq_true_eq]; omega
          have i2 : decide (k < 12) = true := by rw [decide_eq_true_eq]; omega
          go_wp2_with fail
          go_ret3
          exact ⟨none, 0, rfl, OwS.nil _ _ _, hb1'.out.trans (hbw.out.mono hb1'.out.size)⟩
        · have hR2 := hR'.out
          obtain rfl : k = 12 := by omega
          rw [scan_all hok'.out (by have := hpre.out; rw [this, List.take_of_length_le (by rw [hhl.out]; exact Nat.le_refl _), List.take_of_length_le (by rw [hhl.out, hlen.out]; omega)]) (by rw [hlen.out]; omega)] at hR2
          have hR2' := Lib.hid hR2
          clear hR2
          have i1 : decide ((nb : Int) < 12) = false := by rw [decide_eq_false_iff_not]; omega
          have i2 : decide (nb < 12) = false := by rw [decide_eq_false_iff_not]; omega
          have hbd := Lib.hid (hb1'.out.trans (hbw.out.mono hb1'.out.size))
          have hB3 := Lib.hid (hB1.out.below hbw.out)
          obtain ⟨hcA, hcB⟩ := bs_from12 hB3.out (by omega)
          have hgl : Hid ((Fr.all (l.drop 12)).2.1 ≤ nb) := Lib.hid (by have := Fr.all_le (l.drop 12); rw [List.length_drop, hlen.out] at this; omega)
          have hAl := fun A1 n1 c1 h9 h8 => refall_own A1 n1 c1 (l.drop 12) wr h9 h8
          obtain ⟨X, hX⟩ : ∃ X, Fr.all (l.drop 12) = X := ⟨_, rfl⟩
          rw [hX] at hAl hR2' hgl
          obtain ⟨ls, g, st⟩ := X
          simp only at hAl hR2' hgl
          have hg9 : g ≤ 4294967295 := by have := hgl.out; omega
          have hAl' := Lib.hid hAl
          clear hAl hX hB1 hBs' hpre
          by_cases hc12 : cb = 12
          · have hcA' := Lib.hid (hcA hc12)
            subst hc12
            clear hcA hcB
            go_wp2_with fail
            refine (hAl'.out _ _ _ hcA'.out (by omega)).mono ?_
            rintro e w4 ⟨A4, c4, rfl, ho4, hb4⟩
            have ho4' := Lib.hid (OwR.base ho4 hbd.out.size)
            have hx4 := Lib.hid (hbd.out.trans (hb4.mono hbd.out.size))
            clear ho4 hb4 hAl' hcA'
            go_wp2_with fail
            go_ret3
            rw [← hR2'.out]
            exact ⟨A4, c4, by go_num, ho4'.out, hx4.out⟩
          · have hcB' := Lib.hid (hcB hc12)
            clear hcA hcB
            go_wp2_with fail
            refine (hAl'.out _ _ _ hcB'.out (by omega)).mono ?_
            rintro e w4 ⟨A4, c4, rfl, ho4, hb4⟩
            have ho4' := Lib.hid (OwR.base ho4 hbd.out.size)
            have hx4 := Lib.hid (hbd.out.trans (hb4.mono hbd.out.size))
            clear ho4 hb4 hAl' hcB'
            go_wp2_with fail
            go_ret3
            rw [← hR2'.out]
            exact ⟨A4, c4, by go_num, ho4'.out, hx4.out⟩
end Go.Proofs.YtfdpnjebhllpkaaGreatDoor.Sg
end
