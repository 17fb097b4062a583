/- The walks of the layer frame: All; the records held one against another. -/
import Derived.Test.YtfdpnjebhllpkaaGreatDoorMFrameNext2
namespace Go.Proofs.YtfdpnjebhllpkaaGreatDoor.FrW
open Go.RowKit

set_option maxHeartbeats 1000000 in
theorem total_any (A : Option Addr) (n c : Nat) (ls : List (List UInt8)) (w : World) (hBs : BsL w A n c ls) (hsz : (cat ls).length ≤ 9223372036854775807) :
    Calls Tryz.prog 68 #[.slice A n c] w fun e w' => e = .returned (.int .i64 ((cat ls).length : Nat)) ∧ w = w' := by
  have hn := hBs.le
  have hm := hBs.max
  have HN : Hid (ls.length = n) := hBs.len
  have HF : Hid (cat (ls.take n) = cat ls) := by unfold Hid; rw [List.take_of_length_le (by rw [HN.out]; omega)]
  go_enter Tryz.func68, Tryz.ntmps68
  go_wp2
  go_loop [3, 4] (fun v i => ∃ k : Nat, k ≤ n ∧ i = .int .i64 k ∧ v = .int .i64 ((cat (ls.take k)).length : Nat)) (fun _ i => n - (intOf i).toNat)
  case atStart => exact ⟨0, by omega, rfl, rfl⟩
  case round =>
    obtain ⟨k, hk, rfl, rfl⟩ := hrel
    by_cases hlt : k < n
    · obtain ⟨b, off, A1, n1, c1, l1, rfl, _, hl, hc, hbs⟩ := hBs.at_ hlt
      have hb1 := cat_take_le ls (k + 1)
      have HL : Hid ((cat (ls.take (k + 1))).length = (cat (ls.take k)).length + n1) := by unfold Hid; rw [cat_take hl, List.length_append, hbs.len]
      have hb2 : (cat (ls.take k)).length + n1 ≤ 9223372036854775807 := by rw [← HL.out]; omega
      clear hl hb1
      generalize (cat (ls.take k)).length = t at *
      go_wp2
      go_round
      case rel => exact ⟨k + 1, by omega, by go_num, val_int (by rw [HL.out]; omega)⟩
      case measure => simp [intOf]; omega
    · obtain rfl : k = n := by omega
      rw [HF.out]
      go_wp2
      go_ret
      exact ⟨rfl, rfl⟩

set_option maxHeartbeats 1000000 in
theorem records_any (A : Option Addr) (n c : Nat) (ls : List (List UInt8)) (A2 : Option Addr) (n2 c2 : Nat) (ls2 : List (List UInt8)) (w : World) (hBs : BsL w A n c ls) (hBs2 : BsL w A2 n2 c2 ls2) (he : ls = ls2) :
    Calls Tryz.prog 14 #[.slice A n c, .slice A2 n2 c2] w fun e w' => e = .returned (.bool true) ∧ ∃ k, w' = w.drewN k := by
  subst he
  have hn := hBs.le
  have hm := hBs.max
  have hn2 : n2 = n := by rw [← hBs.len, ← hBs2.len]
  subst hn2
  have hm2 := hBs2.max
  go_enter Tryz.func14, Tryz.ntmps14
  go_wp2
  go_loopw [5] (fun i wr => ∃ k m : Nat, k ≤ n2 ∧ i = .int .i64 k ∧ wr = w.drewN m) (fun i _ => n2 - (intOf i).toNat)
  case atStart => exact ⟨0, 0, by omega, rfl, rfl⟩
  case round =>
    obtain ⟨k, m, hk, rfl, rfl⟩ := hrel
    by_cases hlt : k < n2
    · obtain ⟨b, off, A3, n3, c3, l3, rfl, _, hl3, hc3, hbs3⟩ := hBs.at_ hlt
      obtain ⟨b4, off4, A4, n4, c4, l4, rfl, _, hl4, hc4, hbs4⟩ := hBs2.at_ hlt
      have HE : Hid (decide (l3 = l4) = true) := by
        unfold Hid
        rw [hl3] at hl4
        injection hl4 with h
        simp [h]
      have i0 : (k : Int) < (n2 : Int) := by omega
      clear hl3 hl4
      have hb3 : Bs (w.drewN m) A3 n3 c3 l3 := hbs3.below (Joins.below_draws _ _ _)
      have hb4 : Bs (w.drewN m) A4 n4 c4 l4 := hbs4.below (Joins.below_draws _ _ _)
      have hd3 : (w.drewN m).cell? ⟨b, off + k, none⟩ = some (.slice A3 n3 c3) := hc3
      have hd4 : (w.drewN m).cell? ⟨b4, off4 + k, none⟩ = some (.slice A4 n4 c4) := hc4
      clear hc3 hc4 hbs3 hbs4
      generalize hwm : w.drewN m = wm at *
      have HWM := Lib.hid hwm
      clear hwm
      go_wp2_with fail
      go_quiet ((go_at_call 19; exact Calls.quiet_of (bytes_any _ _ _ l3 _ _ _ l4 _ (hb3.below (Joins.below_draws _ _ _)) (hb4.below (Joins.below_draws _ _ _)))))
      rw [HE.out]
      go_wp2_with fail
      go_roundw
      case rel => exact ⟨k + 1, _, by omega, by go_num, by rw [← HWM.out, World.drewN_drewN]⟩
      case measure => simp [intOf]; omega
    · obtain rfl : k = n2 := by omega
      go_wp2_with fail
      go_ret
      exact ⟨rfl, _, rfl⟩

set_option maxHeartbeats 1000000 in
theorem all_any (A : Option Addr) (n c : Nat) (l : List UInt8) (w : World) (hBs : Bs w A n c l) (hsz : n ≤ 4294967295) :
    Calls Tryz.prog 60 #[.slice A n c] w fun e w' => ∃ A' c', e = .returned (.tuple #[.slice A' (Fr.all l).1.length c', .int .i64 ((Fr.all l).2.1 : Nat), .int .i64 ((Fr.all l).2.2 : Nat)]) ∧ OwL w' w.heap.size 22 (.slice A' (Fr.all l).1.length c') (Fr.all l).1 ∧ Below w.heap.size w w' := by
  have hlc := Rd.le hBs
  have hcm := Rd.max hBs
  have HL : Hid (l.length = n) := hBs.len
  go_enter Tryz.func60, Tryz.ntmps60
  go_wp2_with fail
  go_loopw [5, 6] (fun v i wr => ∃ g A' c' ls, Hid (Fr.Upto l ls g) ∧ g ≤ n ∧ i = .int .i64 (g : Nat) ∧ v = .slice A' ls.length c' ∧ ls.length ≤ g ∧ OwL wr w.heap.size 22 (.slice A' ls.length c') ls ∧ Below w.heap.size w wr) (fun _ i _ => n - (intOf i).toNat)
  case atStart => exact ⟨0, none, 0, [], Fr.upto_start l, by omega, rfl, rfl, by simp, OwL.nil _ _ _, Below.refl _ _⟩
  case round =>
    obtain ⟨g, A', c', ls, hu, hg, rfl, rfl, hlg, ho, hbw⟩ := hrel
    have hBw := hBs.below hbw
    have hcut : ∀ A1, (∀ b off, A = some ⟨b, off, none⟩ → g < c → A1 = some ⟨b, off + g, none⟩) → (A = none → A1 = none) → (A ≠ none → A1 ≠ none) → Bs wr A1 (n - g) (c - g) (l.drop g) := fun A1 h1 h2 h3 => by
      have h := hBw.cut g n hg (Nat.le_refl _) A1 h1 h2 h3
      rw [List.take_of_length_le (by rw [List.length_drop, HL.out]; omega)] at h
      exact h
    have hcA : c = g → Bs wr A (n - g) 0 (l.drop g) := fun hcg => by
      have h := hcut A (fun b off _ hlt => by omega) (fun h => h) (fun h => h)
      rw [show c - g = 0 from by omega] at h
      exact h
    have hcB : ¬ c = g → Bs wr (A.map fun x => x.add g) (n - g) (c - g) (l.drop g) := fun hcg =>
      hcut _ (fun b off hA _ => by subst hA; simp only [Option.map_some, Addr.add]; split <;> simp_all) (fun h => by subst h; rfl) (fun h1 h2 => h1 (by simpa using h2))
    have HA := Lib.hid hcA
    have HB := Lib.hid hcB
    have hnc := Fr.next_cases (l.drop g)
    rw [List.length_drop, HL.out] at hnc
    have HS : Hid _ := @Fr.upto_step l ls g hu.out
    have HE : Hid _ := @Fr.upto_end l ls g hu.out
    clear hcA hcB hcut
    generalize hX : Fr.next (l.drop g) = X at *
    have HX := Lib.hid hX
    clear hX
    obtain ⟨r, k, s⟩ := X
    simp only at hnc
    have HS' : Hid (s = 1 → Fr.Upto l (ls ++ [r]) (g + k)) := HS
    have HE' : Hid (s ≠ 1 → Fr.all l = (ls, g, s)) := HE
    clear HS HE
    by_cases hcg : c = g
    · have h1 : s ≠ 1 := by omega
      have hb : ((s : Int) != 1) = true := by rw [bne_iff_ne]; omega
      have hcA := HA.out hcg
      clear hnc
      go_wp2_with fail
      refine (next_any _ _ _ (l.drop g) _ hcA).mono ?_
      rw [HX.out]
      rintro e w2 ⟨A2, c2, rfl, ho2, hb2⟩
      have hbw2 : Below w.heap.size w w2 := hbw.trans (hb2.mono hbw.size)
      have hoo := ho.below hb2
      go_wp2_with fail
      go_ret3
      rw [HE'.out h1]
      exact ⟨A', c', rfl, hoo, hbw2⟩
    · go_wp2_with fail
      refine (next_any _ _ _ (l.drop g) _ (HB.out hcg)).mono ?_
      rw [HX.out]
      rintro e w2 ⟨A2, c2, rfl, ho2, hb2⟩
      have hbw2 : Below w.heap.size w w2 := hbw.trans (hb2.mono hbw.size)
      have hoo := ho.below hb2
      by_cases h1 : s = 1
      · subst h1
        have hk : k ≤ n - g ∧ 9 ≤ k := by omega
        obtain ⟨hk1, hk2⟩ := hk
        clear hnc
        go_wp2_with (at_builtin; apply stop_here)
        refine Stop.go (append_el w2 24 22 Tryz.underlying24 info_sl rfl _ _ rfl w.heap.size (.slice A' ls.length c') ls rfl hoo _ r (0, 0) rfl ?_ (ls.length + 1) rfl (by omega) (by have := hbw2.size; omega) ?_)
        · refine ⟨A2, _, c2, rfl, ho2.bs, fun a ha _ he => ?_⟩
          subst ha
          have h1 := ho2.lt a.block rfl
          have h2 := ho.lt a.block he.symm
          omega
        intro A3 c3 w3 ho3 hg3 hb3
        have hbw3 : Below w.heap.size w w3 := hbw2.trans (((below_alloc w2 _).mono hbw2.size).trans hb3)
        clear hg3 hb3
        go_wp2_with fail
        go_roundw
        case rel => exact ⟨g + k, A3, c3, ls ++ [r], HS'.out (by trivial), by omega, by go_num, by simp, by simp; omega, by simpa using ho3, hbw3⟩
        case measure => simp [intOf]; omega
      · have hb : ((s : Int) != 1) = true := by rw [bne_iff_ne]; omega
        clear hnc
        go_wp2_with fail
        go_ret3
        rw [HE'.out h1]
        exact ⟨A', c', rfl, hoo, hbw2⟩

set_option maxHeartbeats 1000000 in
theorem refall_any (A : Option Addr) (n c : Nat) (l : List UInt8) (w : World) (hBs : Bs w A n c l) (hsz : n ≤ 4294967295) :
    Calls Tryz.prog 61 #[.slice A n c] w fun e w' => ∃ A' c', e = .returned (.tuple #[.slice A' (Fr.all l).1.length c', .int .i64 ((Fr.all l).2.1 : Nat), .int .i64 ((Fr.all l).2.2 : Nat)]) ∧ OwL w' w.heap.size 22 (.slice A' (Fr.all l).1.length c') (Fr.all l).1 ∧ Below w.heap.size w w' := by
  have hlc := Rd.le hBs
  have hcm := Rd.max hBs
  have HL : Hid (l.length = n) := hBs.len
  go_enter Tryz.func61, Tryz.ntmps61
  go_wp2_with fail
  go_loopw [5, 6] (fun v i wr => ∃ g A' c' ls, Hid (Fr.Upto l ls g) ∧ g ≤ n ∧ i = .int .i64 (g : Nat) ∧ v = .slice A' ls.length c' ∧ ls.length ≤ g ∧ OwL wr w.heap.size 22 (.slice A' ls.length c') ls ∧ Below w.heap.size w wr) (fun _ i _ => n - (intOf i).toNat)
  case atStart => exact ⟨0, none, 0, [], Fr.upto_start l, by omega, rfl, rfl, by simp, OwL.nil _ _ _, Below.refl _ _⟩
  case round =>
    obtain ⟨g, A', c', ls, hu, hg, rfl, rfl, hlg, ho, hbw⟩ := hrel
    have hBw := hBs.below hbw
    have hcut : ∀ A1, (∀ b off, A = some ⟨b, off, none⟩ → g < c → A1 = some ⟨b, off + g, none⟩) → (A = none → A1 = none) → (A ≠ none → A1 ≠ none) → Bs wr A1 (n - g) (c - g) (l.drop g) := fun A1 h1 h2 h3 => by
      have h := hBw.cut g n hg (Nat.le_refl _) A1 h1 h2 h3
      rw [List.take_of_length_le (by rw [List.length_drop, HL.out]; omega)] at h
      exact h
    have hcA : c = g → Bs wr A (n - g) 0 (l.drop g) := fun hcg => by
      have h := hcut A (fun b off _ hlt => by omega) (fun h => h) (fun h => h)
      rw [show c - g = 0 from by omega] at h
      exact h
    have hcB : ¬ c = g → Bs wr (A.map fun x => x.add g) (n - g) (c - g) (l.drop g) := fun hcg =>
      hcut _ (fun b off hA _ => by subst hA; simp only [Option.map_some, Addr.add]; split <;> simp_all) (fun h => by subst h; rfl) (fun h1 h2 => h1 (by simpa using h2))
    have HA := Lib.hid hcA
    have HB := Lib.hid hcB
    have hnc := Fr.next_cases (l.drop g)
    rw [List.length_drop, HL.out] at hnc
    have HS : Hid _ := @Fr.upto_step l ls g hu.out
    have HE : Hid _ := @Fr.upto_end l ls g hu.out
    clear hcA hcB hcut
    generalize hX : Fr.next (l.drop g) = X at *
    have HX := Lib.hid hX
    clear hX
    obtain ⟨r, k, s⟩ := X
    simp only at hnc
    have HS' : Hid (s = 1 → Fr.Upto l (ls ++ [r]) (g + k)) := HS
    have HE' : Hid (s ≠ 1 → Fr.all l = (ls, g, s)) := HE
    clear HS HE
    by_cases hcg : c = g
    · have h1 : s ≠ 1 := by omega
      have hb : ((s : Int) != 1) = true := by rw [bne_iff_ne]; omega
      have hcA := HA.out hcg
      clear hnc
      go_wp2_with fail
      refine (refnext_any _ _ _ (l.drop g) _ hcA).mono ?_
      rw [HX.out]
      rintro e w2 ⟨A2, c2, rfl, ho2, hb2⟩
      have hbw2 : Below w.heap.size w w2 := hbw.trans (hb2.mono hbw.size)
      have hoo := ho.below hb2
      go_wp2_with fail
      go_ret3
      rw [HE'.out h1]
      exact ⟨A', c', rfl, hoo, hbw2⟩
    · go_wp2_with fail
      refine (refnext_any _ _ _ (l.drop g) _ (HB.out hcg)).mono ?_
      rw [HX.out]
      rintro e w2 ⟨A2, c2, rfl, ho2, hb2⟩
      have hbw2 : Below w.heap.size w w2 := hbw.trans (hb2.mono hbw.size)
      have hoo := ho.below hb2
      by_cases h1 : s = 1
      · subst h1
        have hk : k ≤ n - g ∧ 9 ≤ k := by omega
        obtain ⟨hk1, hk2⟩ := hk
        clear hnc
        go_wp2_with (at_builtin; apply stop_here)
        refine Stop.go (append_el w2 24 22 Tryz.underlying24 info_sl rfl _ _ rfl w.heap.size (.slice A' ls.length c') ls rfl hoo _ r (0, 0) rfl ?_ (ls.length + 1) rfl (by omega) (by have := hbw2.size; omega) ?_)
        · refine ⟨A2, _, c2, rfl, ho2.bs, fun a ha _ he => ?_⟩
          subst ha
          have h1 := ho2.lt a.block rfl
          have h2 := ho.lt a.block he.symm
          omega
        intro A3 c3 w3 ho3 hg3 hb3
        have hbw3 : Below w.heap.size w w3 := hbw2.trans (((below_alloc w2 _).mono hbw2.size).trans hb3)
        clear hg3 hb3
        go_wp2_with fail
        go_roundw
        case rel => exact ⟨g + k, A3, c3, ls ++ [r], HS'.out (by trivial), by omega, by go_num, by simp, by simp; omega, by simpa using ho3, hbw3⟩
        case measure => simp [intOf]; omega
      · have hb : ((s : Int) != 1) = true := by rw [bne_iff_ne]; omega
        clear hnc
        go_wp2_with fail
        go_ret3
        rw [HE'.out h1]
        exact ⟨A', c', rfl, hoo, hbw2⟩

end Go.Proofs.YtfdpnjebhllpkaaGreatDoor.FrW
