/- The frames of a row of bytes, the records in rows that stay (printed by wip/gen/sg_all.py). -/
import Derived.Test.YtfdpnjebhllpkaaGreatDoorMSgGd
import Derived.Test.YtfdpnjebhllpkaaGreatDoorMDkRa
import Derived.Test.YtfdpnjebhllpkaaGreatDoorMFrameOps2
section
namespace Go.Proofs.YtfdpnjebhllpkaaGreatDoor.Sg
open Go.RowKit Dk

/-- A record's cell, its bytes in memory of the call's own. -/
def RcEl (B : Nat) (w : World) (vs : List Value) (r : List UInt8) : Prop := ∃ v, vs = [v] ∧ OwB w B 5 v r
theorem RcEl.one {B : Nat} (w : World) : ∀ (vs : List Value) (t : List UInt8), RcEl B w vs t → ∀ u ∈ vs, u.oneCell' = true := by
  rintro vs t ⟨v, rfl, h⟩ u hu
  obtain ⟨A, c, rfl, _⟩ := OwB.slice h
  rw [List.mem_singleton.1 hu]
  rfl
theorem RcEl.kept {B : Nat} {w w' : World} {row : Option Nat} (hg : w.grownBy w' row) (hn : NoE 5 w row) : ∀ vs x, RcEl B w vs x → RcEl B w' vs x := by
  rintro vs x ⟨v, rfl, h2⟩
  exact ⟨v, rfl, row_kept h2 hg hn⟩
theorem RcEl.below {B : Nat} {w w' : World} (hb : Below w.heap.size w w') : ∀ vs x, RcEl B w vs x → RcEl B w' vs x := RcEl.kept (grown_of_below hb) NoE.none
theorem RcEl.fm {B : Nat} {w w' : World} (hb : Fm w w') : ∀ vs x, RcEl B w vs x → RcEl B w' vs x := by
  rintro vs x ⟨v, rfl, h2⟩
  exact ⟨v, rfl, hb.owb h2⟩
theorem RcEl.rm {B : Nat} {w w' : World} (hb : Rm w w') : ∀ vs x, RcEl B w vs x → RcEl B w' vs x := by
  rintro vs x ⟨v, rfl, h2⟩
  exact ⟨v, rfl, hb.row h2 (by decide) (by decide)⟩
theorem RcEl.base {B B' : Nat} {w : World} (hB : B' ≤ B) : ∀ vs x, RcEl B w vs x → RcEl B' w vs x := by
  rintro vs x ⟨v, rfl, h2⟩
  exact ⟨v, rfl, OwB.base h2 hB⟩
abbrev OwR (w : World) (B : Nat) (v : Value) (ls : List (List UInt8)) : Prop := OwS (RcEl B) 1 w B 22 v ls
theorem OwR.below {w w' : World} {B : Nat} {v : Value} {l : List (List UInt8)} (h : OwR w B v l) (hb : Below w.heap.size w w') : OwR w' B v l := OwS.below h hb (RcEl.below hb)
theorem OwR.fm {w w' : World} {B : Nat} {v : Value} {l : List (List UInt8)} (h : OwR w B v l) (hb : Fm w w') : OwR w' B v l := ows_fm h hb (by decide) (by decide) (RcEl.fm hb)
theorem OwR.rm {w w' : World} {B : Nat} {v : Value} {l : List (List UInt8)} (h : OwR w B v l) (hb : Rm w w') : OwR w' B v l := by
  obtain ⟨xs, h3, h4⟩ := h
  exact ⟨xs, hb.row h3 (by decide) (by decide), h4.mono (RcEl.rm hb)⟩
theorem OwR.base {w : World} {B B' : Nat} {v : Value} {l : List (List UInt8)} (h : OwR w B v l) (hB : B' ≤ B) : OwR w B' v l := by
  obtain ⟨xs, h1, h2⟩ := h
  exact ⟨xs, ownsRow_base h1 hB, h2.mono (RcEl.base hB)⟩
theorem OwR.bsl {w : World} {B n c : Nat} {A : Option Addr} {ls : List (List UInt8)} (h : OwR w B (.slice A n c) ls) : BsL w A n c ls := by
  obtain ⟨xs, h1, h2⟩ := h
  have hn : n = ls.length := by
    rcases h1.2 with ⟨hv, h0⟩ | ⟨g, cap, cur, hv, _⟩
    · injection hv with _ h2 _; omega
    · injection hv
  subst hn
  refine ⟨xs, rd_of_own h1, rfl, fun j u hu => ?_⟩
  have hj : j < ls.length := by
    have := (List.getElem?_eq_some_iff.1 hu).1
    have := h2.len
    omega
  obtain ⟨vs, hk, ⟨v, rfl, ho⟩, hc⟩ := h2.at_ (List.getElem?_eq_getElem hj)
  have h0 := hc 0 v rfl
  rw [Nat.mul_one, Nat.add_zero, hu] at h0
  injection h0 with h0
  subst h0
  obtain ⟨A', c', rfl, hbs⟩ := OwB.slice ho
  exact ⟨_, List.getElem?_eq_getElem hj, El.of_bs hbs⟩
end Go.Proofs.YtfdpnjebhllpkaaGreatDoor.Sg
end

section
namespace Go.Proofs.YtfdpnjebhllpkaaGreatDoor.Sg
open Go.RowKit Dk

set_option maxHeartbeats 1000000 in
theorem all_own (A : Option Addr) (n c : Nat) (l : List UInt8) (w : World) (hBs : Bs w A n c l) (hsz : n ≤ 4294967295) :
    Calls Tryz.prog 60 #[.slice A n c] w fun e w' => ∃ A' c', e = .returned (.tuple #[.slice A' (Fr.all l).1.length c', .int .i64 ((Fr.all l).2.1 : Nat), .int .i64 ((Fr.all l).2.2 : Nat)]) ∧ OwR w' w.heap.size (.slice A' (Fr.all l).1.length c') (Fr.all l).1 ∧ Below w.heap.size w w' := by
  have hlc := Rd.le hBs
  have hcm := Rd.max hBs
  have HL : Hid (l.length = n) := hBs.len
  go_enter Tryz.func60, Tryz.ntmps60
  go_wp2_with fail
  go_loopw [5, 6] (fun v i wr => ∃ g A' c' ls, Hid (Fr.Upto l ls g) ∧ g ≤ n ∧ i = .int .i64 (g : Nat) ∧ v = .slice A' ls.length c' ∧ ls.length ≤ g ∧ OwR wr w.heap.size (.slice A' ls.length c') ls ∧ Below w.heap.size w wr) (fun _ i _ => n - (intOf i).toNat)
  case atStart => exact ⟨0, none, 0, [], Fr.upto_start l, by omega, rfl, rfl, by simp, OwS.nil _ _ _, Below.refl _ _⟩
  case round =>
    obtain ⟨g, A', c', ls, hu, hg, rfl, rfl, hlg, ho, hbw⟩ := hrel
    have hBw := hBs.below hbw
    have hcut : ∀ A1, (∀ b off, A = some ⟨b, off, none⟩ → g < c → A1 = some ⟨b, off + g, none⟩) → (A = none → A1 = none) → (A ≠ none → A1 ≠ none) → Bs wr A1 (n - g) (c - g) (l.drop g) := fun A1 h1 h2 h3 => by
      have h := hBw.cut g n hg (Nat.le_refl _) A1 h1 h2 h3
      rw [List.take_of_length_le (by rw [List.length_drop, HL.out]; omega)] at h
      exact h
    have hcA : c = g → Bs wr A (n - g) 0 (l.drop g) := fun hcg => by
      have h := hcut A (fun b off _ hlt => by omega) (fun h => h) (fun h => h)
      rw [show c - g = 0 from by omega] at h
      exact h
    have hcB : ¬ c = g → Bs wr (A.map fun x => x.add g) (n - g) (c - g) (l.drop g) := fun hcg =>
      hcut _ (fun b off hA _ => by subst hA; simp only [Option.map_some, Addr.add]; split <;> simp_all) (fun h => by subst h; rfl) (fun h1 h2 => h1 (by simpa using h2))
    have HA := Lib.hid hcA
    have HB := Lib.hid hcB
    have hnc := Fr.next_cases (l.drop g)
    rw [List.length_drop, HL.out] at hnc
    have HS : Hid _ := @Fr.upto_step l ls g hu.out
    have HE : Hid _ := @Fr.upto_end l ls g hu.out
    clear hcA hcB hcut
    generalize hX : Fr.next (l.drop g) = X at *
    have HX := Lib.hid hX
    clear hX
    obtain ⟨r, k, s⟩ := X
    simp only at hnc
    have HS' : Hid (s = 1 → Fr.Upto l (ls ++ [r]) (g + k)) := HS
    have HE' : Hid (s ≠ 1 → Fr.all l = (ls, g, s)) := HE
    clear HS HE
    by_cases hcg : c = g
    · have h1 : s ≠ 1 := by omega
      have hb : ((s : Int) != 1) = true := by rw [bne_iff_ne]; omega
      have hcA := HA.out hcg
      clear hnc
      go_wp2_with fail
      refine (FrW.next_any _ _ _ (l.drop g) _ hcA).mono ?_
      rw [HX.out]
      rintro e w2 ⟨A2, c2, rfl, ho2, hb2⟩
      have hbw2 : Below w.heap.size w w2 := hbw.trans (hb2.mono hbw.size)
      have hoo := OwR.below ho hb2
      go_wp2_with fail
      go_ret3
      rw [HE'.out h1]
      exact ⟨A', c', rfl, hoo, hbw2⟩
    · go_wp2_with fail
      refine (FrW.next_any _ _ _ (l.drop g) _ (HB.out hcg)).mono ?_
      rw [HX.out]
      rintro e w2 ⟨A2, c2, rfl, ho2, hb2⟩
      have hbw2 : Below w.heap.size w w2 := hbw.trans (hb2.mono hbw.size)
      have hoo := OwR.below ho hb2
      by_cases h1 : s = 1
      · subst h1
        have hk : k ≤ n - g ∧ 9 ≤ k := by omega
        obtain ⟨hk1, hk2⟩ := hk
        clear hnc
        go_wp2_with (at_builtin; apply stop_here)
        have hba := below_alloc w2 (.cells #[.slice A2 r.length c2] 22)
        have hel : RcEl w.heap.size (w2.alloc (.cells [.slice A2 r.length c2].toArray 22)) [.slice A2 r.length c2] r := ⟨_, rfl, OwB.below (OwB.base ho2 hbw.size) hba⟩
        have hsq := sq_one (El := RcEl w.heap.size) (k := 1) w2 [.slice A2 r.length c2] r 22 (0, 0) rfl hel
        refine Stop.go (append_sq (El := RcEl w.heap.size) (k := 1) _ 24 22 (.slice none 0 0) 24 Tryz.underlying24 (by kernel_rfl) rfl (by omega) rfl _ _ rfl w.heap.size _ ls rfl (OwR.below hoo hba) _ 1 1 [r] rfl hsq (RcEl.one _) (fun w' hg => RcEl.kept hg (ows_noE (OwR.below hoo hba) (by decide))) (ls.length + 1) rfl (by omega) (by omega) (by have := hbw2.size; simp; omega) ?_)
        intro A3 c3 w3 ho3 hg3 hb3 _
        have hbw3 : Below w.heap.size w w3 := hbw2.trans ((hba.mono hbw2.size).trans hb3)
        clear hg3 hb3 hsq hel hba
        go_wp2_with fail
        go_roundw
        case rel => exact ⟨g + k, A3, c3, ls ++ [r], HS'.out (by trivial), by omega, by go_num, by simp, by simp; omega, by simpa using ho3, hbw3⟩
        case measure => simp [intOf]; omega
      · have hb : ((s : Int) != 1) = true := by rw [bne_iff_ne]; omega
        clear hnc
        go_wp2_with fail
        go_ret3
        rw [HE'.out h1]
        exact ⟨A', c', rfl, hoo, hbw2⟩

set_option maxHeartbeats 1000000 in
theorem refall_own (A : Option Addr) (n c : Nat) (l : List UInt8) (w : World) (hBs : Bs w A n c l) (hsz : n ≤ 4294967295) :
    Calls Tryz.prog 61 #[.slice A n c] w fun e w' => ∃ A' c', e = .returned (.tuple #[.slice A' (Fr.all l).1.length c', .int .i64 ((Fr.all l).2.1 : Nat), .int .i64 ((Fr.all l).2.2 : Nat)]) ∧ OwR w' w.heap.size (.slice A' (Fr.all l).1.length c') (Fr.all l).1 ∧ Below w.heap.size w w' := by
  have hlc := Rd.le hBs
  have hcm := Rd.max hBs
  have HL : Hid (l.length = n) := hBs.len
  go_enter Tryz.func61, Tryz.ntmps61
  go_wp2_with fail
  go_loopw [5, 6] (fun v i wr => ∃ g A' c' ls, Hid (Fr.Upto l ls g) ∧ g ≤ n ∧ i = .int .i64 (g : Nat) ∧ v = .slice A' ls.length c' ∧ ls.length ≤ g ∧ OwR wr w.heap.size (.slice A' ls.length c') ls ∧ Below w.heap.size w wr) (fun _ i _ => n - (intOf i).toNat)
  case atStart => exact ⟨0, none, 0, [], Fr.upto_start l, by omega, rfl, rfl, by simp, OwS.nil _ _ _, Below.refl _ _⟩
  case round =>
    obtain ⟨g, A', c', ls, hu, hg, rfl, rfl, hlg, ho, hbw⟩ := hrel
    have hBw := hBs.below hbw
    have hcut : ∀ A1, (∀ b off, A = some ⟨b, off, none⟩ → g < c → A1 = some ⟨b, off + g, none⟩) → (A = none → A1 = none) → (A ≠ none → A1 ≠ none) → Bs wr A1 (n - g) (c - g) (l.drop g) := fun A1 h1 h2 h3 => by
      have h := hBw.cut g n hg (Nat.le_refl _) A1 h1 h2 h3
      rw [List.take_of_length_le (by rw [List.length_drop, HL.out]; omega)] at h
      exact h
    have hcA : c = g → Bs wr A (n - g) 0 (l.drop g) := fun hcg => by
      have h := hcut A (fun b off _ hlt => by omega) (fun h => h) (fun h => h)
      rw [show c - g = 0 from by omega] at h
      exact h
    have hcB : ¬ c = g → Bs wr (A.map fun x => x.add g) (n - g) (c - g) (l.drop g) := fun hcg =>
      hcut _ (fun b off hA _ => by subst hA; simp only [Option.map_some, Addr.add]; split <;> simp_all) (fun h => by subst h; rfl) (fun h1 h2 => h1 (by simpa using h2))
    have HA := Lib.hid hcA
    have HB := Lib.hid hcB
    have hnc := Fr.next_cases (l.drop g)
    rw [List.length_drop, HL.out] at hnc
    have HS : Hid _ := @Fr.upto_step l ls g hu.out
    have HE : Hid _ := @Fr.upto_end l ls g hu.out
    clear hcA hcB hcut
    generalize hX : Fr.next (l.drop g) = X at *
    have HX := Lib.hid hX
    clear hX
    obtain ⟨r, k, s⟩ := X
    simp only at hnc
    have HS' : Hid (s = 1 → Fr.Upto l (ls ++ [r]) (g + k)) := HS
    have HE' : Hid (s ≠ 1 → Fr.all l = (ls, g, s)) := HE
    clear HS HE
    by_cases hcg : c = g
    · have h1 : s ≠ 1 := by omega
      have hb : ((s : Int) != 1) = true := by rw [bne_iff_ne]; omega
      have hcA := HA.out hcg
      clear hnc
      go_wp2_with fail
      refine (FrW.refnext_any _ _ _ (l.drop g) _ hcA).mono ?_
      rw [HX.out]
      rintro e w2 ⟨A2, c2, rfl, ho2, hb2⟩
      have hbw2 : Below w.heap.size w w2 := hbw.trans (hb2.mono hbw.size)
      have hoo := OwR.below ho hb2
      go_wp2_with fail
      go_ret3
      rw [HE'.out h1]
      exact ⟨A', c', rfl, hoo, hbw2⟩
    · go_wp2_with fail
      refine (FrW.refnext_any _ _ _ (l.drop g) _ (HB.out hcg)).mono ?_
      rw [HX.out]
      rintro e w2 ⟨A2, c2, rfl, ho2, hb2⟩
      have hbw2 : Below w.heap.size w w2 := hbw.trans (hb2.mono hbw.size)
      have hoo := OwR.below ho hb2
      by_cases h1 : s = 1
      · subst h1
        have hk : k ≤ n - g ∧ 9 ≤ k := by omega
        obtain ⟨hk1, hk2⟩ := hk
        clear hnc
        go_wp2_with (at_builtin; apply stop_here)
        have hba := below_alloc w2 (.cells #[.slice A2 r.length c2] 22)
        have hel : RcEl w.heap.size (w2.alloc (.cells [.slice A2 r.length c2].toArray 22)) [.slice A2 r.length c2] r := ⟨_, rfl, OwB.below (OwB.base ho2 hbw.size) hba⟩
        have hsq := sq_one (El := RcEl w.heap.size) (k := 1) w2 [.slice A2 r.length c2] r 22 (0, 0) rfl hel
        refine Stop.go (append_sq (El := RcEl w.heap.size) (k := 1) _ 24 22 (.slice none 0 0) 24 Tryz.underlying24 (by kernel_rfl) rfl (by omega) rfl _ _ rfl w.heap.size _ ls rfl (OwR.below hoo hba) _ 1 1 [r] rfl hsq (RcEl.one _) (fun w' hg => RcEl.kept hg (ows_noE (OwR.below hoo hba) (by decide))) (ls.length + 1) rfl (by omega) (by omega) (by have := hbw2.size; simp; omega) ?_)
        intro A3 c3 w3 ho3 hg3 hb3 _
        have hbw3 : Below w.heap.size w w3 := hbw2.trans ((hba.mono hbw2.size).trans hb3)
        clear hg3 hb3 hsq hel hba
        go_wp2_with fail
        go_roundw
        case rel => exact ⟨g + k, A3, c3, ls ++ [r], HS'.out (by trivial), by omega, by go_num, by simp, by simp; omega, by simpa using ho3, hbw3⟩
        case measure => simp [intOf]; omega
      · have hb : ((s : Int) != 1) = true := by rw [bne_iff_ne]; omega
        clear hnc
        go_wp2_with fail
        go_ret3
        rw [HE'.out h1]
        exact ⟨A', c', rfl, hoo, hbw2⟩

end Go.Proofs.YtfdpnjebhllpkaaGreatDoor.Sg
end
