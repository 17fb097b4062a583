/- The walks of the layer frame: the reference's Next; All; the records held one against another. -/
import Derived.Test.YteljgmeahpeneaaFrameOps
namespace Go.Proofs.Yteljgmeahpeneaa.FrW
open Go.RowKit

theorem info_sl : (Try.prog.info? 22).map (fun i => (i.zero, i.size, i.bytes)) = some (some (.slice none 0 0), 1, 24) := by kernel_rfl

theorem want_iff (l : List UInt8) (g : Nat) (hg : Fr.get l = g) (h1 : 1 ≤ g) (h2 : g ≤ 1048576) (hs : 8 + g ≤ l.length) :
    Fr.put ((l.drop 8).take g) = l.take (8 + g) ↔ Fr.fsum (l.take 4) ((l.drop 8).take g) = Fr.get (l.drop 4) := by
  have hrl : ((l.drop 8).take g).length = g := by simp; omega
  have hp : Fr.put ((l.drop 8).take g) = Fr.le g ++ (Fr.le (Fr.fsum (Fr.le g) ((l.drop 8).take g)) ++ (l.drop 8).take g) := by
    unfold Fr.put
    rw [if_neg (by omega), Fr.frame, hrl]
  have hle : Fr.le g = l.take 4 := by rw [← hg]; exact Fr.le_get l (by omega)
  have hle2 : Fr.le (Fr.get (l.drop 4)) = (l.drop 4).take 4 := Fr.le_get _ (by rw [List.length_drop]; omega)
  have hsplit : l.take (8 + g) = l.take 4 ++ ((l.drop 4).take 4 ++ (l.drop 8).take g) := by
    rw [show 8 + g = 4 + (4 + g) from by omega, List.take_add, List.take_add, List.drop_drop]
  rw [hp, hsplit, hle]
  generalize (l.drop 8).take g = r at *
  constructor
  · intro h
    have h := List.append_cancel_left h
    have h := List.append_cancel_right h
    have e : Fr.get (Fr.le (Fr.fsum (l.take 4) r) ++ []) = Fr.get ((l.drop 4).take 4 ++ []) := by rw [h]
    rw [Fr.get_le _ (Fr.fsum_lt _ _), ← hle2, Fr.get_le _ (Fr.get_lt _)] at e
    exact e
  · intro h
    rw [h, hle2]

set_option maxHeartbeats 1000000 in
theorem refnext_any (A : Option Addr) (n c : Nat) (l : List UInt8) (w : World) (hBs : Bs w A n c l) :
    Calls Try.prog 20 #[.slice A n c] w fun e w' => ∃ A' c', e = .returned (.tuple #[.slice A' (Fr.next l).1.length c', .int .i64 ((Fr.next l).2.1 : Nat), .int .i64 ((Fr.next l).2.2 : Nat)]) ∧ OwB w' w.heap.size 5 (.slice A' (Fr.next l).1.length c') (Fr.next l).1 ∧ Below w.heap.size w w' := by
  have hl := hBs.len
  have hlc := Rd.le hBs
  have hcm := Rd.max hBs
  have HL := Lib.hid hl
  generalize hN : Fr.next l = N
  unfold Fr.next at hN
  rw [hl] at hN
  clear hl
  by_cases h0 : n = 0
  · rw [if_pos h0] at hN
    subst hN
    subst h0
    go_enter Try.func20, Try.ntmps20
    go_wp2_with fail
    go_ret3
    exact ⟨_, _, rfl, OwB.nil _ _ _, Below.refl _ _⟩
  rw [if_neg h0] at hN
  have hN0 : ((n : Int) == 0) = false := by rw [beq_eq_false_iff_ne]; omega
  by_cases h4 : n < 4
  · rw [if_pos h4] at hN
    subst hN
    go_enter Try.func20, Try.ntmps20
    go_wp2_with fail
    go_ret3
    exact ⟨_, _, rfl, OwB.nil _ _ _, Below.refl _ _⟩
  rw [if_neg h4] at hN
  have h4' : 4 ≤ n := by omega
  have HW := Lib.hid (want_iff l)
  generalize hg : Fr.get l = g at *
  have HG := Lib.hid hg
  have hg32 : g < 4294967296 := by rw [← hg]; exact Fr.get_lt l
  clear hg
  by_cases hb : g < 1 ∨ 1048576 < g
  · rw [if_pos hb] at hN
    subst hN
    by_cases hb1 : g < 1
    · go_enter Try.func20, Try.ntmps20
      go_wp2_with fail
      refine (get32_any _ _ _ _ _ hBs h4').mono ?_
      rintro e w1 ⟨rfl, k1, rfl⟩
      rw [HG.out]
      go_wp2_with fail
      go_ret3
      exact ⟨_, _, rfl, OwB.nil _ _ _, Joins.below_draws _ _ _⟩
    · have hb2 : 1048576 < g := by omega
      go_enter Try.func20, Try.ntmps20
      go_wp2_with fail
      refine (get32_any _ _ _ _ _ hBs h4').mono ?_
      rintro e w1 ⟨rfl, k1, rfl⟩
      rw [HG.out]
      go_wp2_with fail
      refine (get32_any _ _ _ _ _ (hBs.below (Joins.below_draws _ _ _)) h4').mono ?_
      rintro e w1 ⟨rfl, k2, rfl⟩
      rw [HG.out]
      go_wp2_with fail
      go_ret3
      exact ⟨_, _, rfl, OwB.nil _ _ _, Joins.below_draws _ _ _⟩
  rw [if_neg hb] at hN
  have hg1 : 1 ≤ g := by omega
  have hg2 : g ≤ 1048576 := by omega
  clear hb
  by_cases hs : n < 8 + g
  · rw [if_pos hs] at hN
    subst hN
    go_enter Try.func20, Try.ntmps20
    go_wp2_with fail
    refine (get32_any _ _ _ _ _ hBs h4').mono ?_
    rintro e w1 ⟨rfl, k1, rfl⟩
    rw [HG.out]
    go_wp2_with fail
    refine (get32_any _ _ _ _ _ (hBs.below (Joins.below_draws _ _ _)) h4').mono ?_
    rintro e w1 ⟨rfl, k2, rfl⟩
    rw [HG.out]
    go_wp2_with fail
    refine (get32_any _ _ _ _ _ (hBs.below (Joins.below_draws _ _ _)) h4').mono ?_
    rintro e w1 ⟨rfl, k3, rfl⟩
    rw [HG.out]
    go_wp2_with fail
    go_ret3
    exact ⟨_, _, rfl, OwB.nil _ _ _, Joins.below_draws _ _ _⟩
  rw [if_neg hs] at hN
  have hs' : 8 + g ≤ n := by omega
  clear hs
  have hiff : Fr.put ((l.drop 8).take g) = l.take (8 + g) ↔ Fr.fsum (l.take 4) ((l.drop 8).take g) = Fr.get (l.drop 4) := want_iff l g HG.out hg1 hg2 (by rw [HL.out]; exact hs')
  clear HW
  obtain ⟨b, off, rfl, _, _⟩ := Rd.cell hBs (by omega)
  have hr : Bs w (some ⟨b, off + 8, none⟩) (8 + g - 8) (c - 8) ((l.drop 8).take (8 + g - 8)) :=
    hBs.cut 8 (8 + g) (by omega) hs' _ (fun b' off' h _ => by injection h with h; injection h with h1 h2; subst h1; subst h2; rfl) (fun h => by cases h) (fun _ h => by cases h)
  have h8 : Bs w (some ⟨b, off, none⟩) (8 + g - 0) (c - 0) ((l.drop 0).take (8 + g - 0)) :=
    hBs.cut 0 (8 + g) (by omega) hs' _ (fun b' off' h _ => by injection h with h; injection h with h1 h2; subst h1; subst h2; rfl) (fun h => by cases h) (fun _ h => by cases h)
  rw [show 8 + g - 8 = g from by omega] at hr
  rw [List.drop_zero, Nat.sub_zero, Nat.sub_zero] at h8
  have HR : Hid (((l.drop 8).take g).length = g) := hr.len
  generalize (l.drop 8).take g = r at *
  have hpl : (Fr.put r).length ≤ 1048584 := by
    unfold Fr.put
    split
    · simp
    · rw [Fr.frame_length]; omega
  by_cases hne : Fr.put r = l.take (8 + g)
  · have hd : decide (Fr.put r = l.take (8 + g)) = true := by simpa using hne
    rw [if_neg (by simpa using hiff.1 hne)] at hN
    subst hN
    clear hiff hne
    generalize hP : Fr.put r = P at *
    have HP := Lib.hid hP
    clear hP
    generalize hQ : l.take (8 + g) = Q at *
    have HQ := Lib.hid hQ
    clear hQ
    go_enter Try.func20, Try.ntmps20
    go_wp2_with fail
    refine (get32_any _ _ _ _ _ hBs h4').mono ?_
    rintro e w1 ⟨rfl, k1, rfl⟩
    rw [HG.out]
    go_wp2_with fail
    refine (get32_any _ _ _ _ _ (hBs.below (Joins.below_draws _ _ _)) h4').mono ?_
    rintro e w1 ⟨rfl, k2, rfl⟩
    rw [HG.out]
    go_wp2_with fail
    refine (get32_any _ _ _ _ _ (hBs.below (Joins.below_draws _ _ _)) h4').mono ?_
    rintro e w1 ⟨rfl, k3, rfl⟩
    rw [HG.out]
    go_wp2_with fail
    refine (get32_any _ _ _ _ _ (hBs.below (Joins.below_draws _ _ _)) h4').mono ?_
    rintro e w1 ⟨rfl, k4, rfl⟩
    rw [HG.out]
    go_wp2_with fail
    refine (refput_any _ _ _ r _ (hr.below (Joins.below_draws _ _ _))).mono ?_
    rw [HP.out]
    rintro e w2 ⟨A2, c2, rfl, ho2, hb2⟩
    have hb02 : Below w.heap.size w w2 := (Joins.below_draws _ _ _).trans hb2
    have h82 := h8.below hb02
    have hr2 := hr.below hb02
    clear hb2
    go_wp2_with fail
    refine (bytes_any _ _ _ P _ _ _ Q _ ho2.bs h82).mono ?_
    rintro e w3 ⟨rfl, k5, rfl⟩
    rw [hd]
    have hr3 : Bs (w2.drewN k5) (some ⟨b, off + 8, none⟩) g (c - 8) r := hr2.below (Joins.below_draws _ _ _)
    have hb03 : Below w.heap.size w (w2.drewN k5) := hb02.trans (Joins.below_draws _ _ _)
    generalize w2.drewN k5 = w3 at *
    go_wp2_with (at_builtin; apply stop_here)
    rw [show 8 + g - 8 = g from by omega]
    refine Stop.go (append_bytes _ 22 5 Try.underlying22 info_u8 rfl _ _ rfl w.heap.size _ [] rfl (owb_lit _ _ (by have := hb03.size; omega) _ _ _ _ rfl (by decide) rfl) _ _ _ r rfl (hr3.below (below_alloc _ _)) g (by simp) (by omega) (by have := hb03.size; simp; omega) ?_)
    intro A4 c4 w4 ho4 hg4 hb4
    have hb04 : Below w.heap.size w w4 := hb03.trans (((below_alloc w3 _).mono hb03.size).trans hb4)
    clear hg4 hb4
    go_wp2_with fail
    go_ret3
    have hrl := HR.out
    subst hrl
    exact ⟨_, _, rfl, ho4, hb04⟩
  · have hd : decide (Fr.put r = l.take (8 + g)) = false := by simpa using hne
    rw [if_pos (fun h => hne (hiff.2 h))] at hN
    subst hN
    clear hiff hne
    generalize hP : Fr.put r = P at *
    have HP := Lib.hid hP
    clear hP
    generalize hQ : l.take (8 + g) = Q at *
    have HQ := Lib.hid hQ
    clear hQ
    go_enter Try.func20, Try.ntmps20
    go_wp2_with fail
    refine (get32_any _ _ _ _ _ hBs h4').mono ?_
    rintro e w1 ⟨rfl, k1, rfl⟩
    rw [HG.out]
    go_wp2_with fail
    refine (get32_any _ _ _ _ _ (hBs.below (Joins.below_draws _ _ _)) h4').mono ?_
    rintro e w1 ⟨rfl, k2, rfl⟩
    rw [HG.out]
    go_wp2_with fail
    refine (get32_any _ _ _ _ _ (hBs.below (Joins.below_draws _ _ _)) h4').mono ?_
    rintro e w1 ⟨rfl, k3, rfl⟩
    rw [HG.out]
    go_wp2_with fail
    refine (get32_any _ _ _ _ _ (hBs.below (Joins.below_draws _ _ _)) h4').mono ?_
    rintro e w1 ⟨rfl, k4, rfl⟩
    rw [HG.out]
    go_wp2_with fail
    refine (refput_any _ _ _ r _ (hr.below (Joins.below_draws _ _ _))).mono ?_
    rw [HP.out]
    rintro e w2 ⟨A2, c2, rfl, ho2, hb2⟩
    have hb02 : Below w.heap.size w w2 := (Joins.below_draws _ _ _).trans hb2
    have h82 := h8.below hb02
    clear hb2
    go_wp2_with fail
    refine (bytes_any _ _ _ P _ _ _ Q _ ho2.bs h82).mono ?_
    rintro e w3 ⟨rfl, k5, rfl⟩
    rw [hd]
    go_wp2_with fail
    go_ret3
    exact ⟨_, _, rfl, OwB.nil _ _ _, hb02.trans (Joins.below_draws _ _ _)⟩

set_option maxHeartbeats 1000000 in
theorem total_any (A : Option Addr) (n c : Nat) (ls : List (List UInt8)) (w : World) (hBs : BsL w A n c ls) (hsz : (cat ls).length ≤ 9223372036854775807) :
    Calls Try.prog 23 #[.slice A n c] w fun e w' => e = .returned (.int .i64 ((cat ls).length : Nat)) ∧ w = w' := by
  have hn := hBs.le
  have hm := hBs.max
  have HN : Hid (ls.length = n) := hBs.len
  have HF : Hid (cat (ls.take n) = cat ls) := by unfold Hid; rw [List.take_of_length_le (by rw [HN.out]; omega)]
  go_enter Try.func23, Try.ntmps23
  go_wp2
  go_loop [3, 4] (fun v i => ∃ k : Nat, k ≤ n ∧ i = .int .i64 k ∧ v = .int .i64 ((cat (ls.take k)).length : Nat)) (fun _ i => n - (intOf i).toNat)
  case atStart => exact ⟨0, by omega, rfl, rfl⟩
  case round =>
    obtain ⟨k, hk, rfl, rfl⟩ := hrel
    by_cases hlt : k < n
    · obtain ⟨b, off, A1, n1, c1, l1, rfl, _, hl, hc, hbs⟩ := hBs.at_ hlt
      have hb1 := cat_take_le ls (k + 1)
      have HL : Hid ((cat (ls.take (k + 1))).length = (cat (ls.take k)).length + n1) := by unfold Hid; rw [cat_take hl, List.length_append, hbs.len]
      have hb2 : (cat (ls.take k)).length + n1 ≤ 9223372036854775807 := by rw [← HL.out]; omega
      clear hl hb1
      generalize (cat (ls.take k)).length = t at *
      go_wp2
      go_round
      case rel => exact ⟨k + 1, by omega, by go_num, val_int (by rw [HL.out]; omega)⟩
      case measure => simp [intOf]; omega
    · obtain rfl : k = n := by omega
      rw [HF.out]
      go_wp2
      go_ret
      exact ⟨rfl, rfl⟩

set_option maxHeartbeats 1000000 in
theorem records_any (A : Option Addr) (n c : Nat) (ls : List (List UInt8)) (A2 : Option Addr) (n2 c2 : Nat) (ls2 : List (List UInt8)) (w : World) (hBs : BsL w A n c ls) (hBs2 : BsL w A2 n2 c2 ls2) (he : ls = ls2) :
    Calls Try.prog 21 #[.slice A n c, .slice A2 n2 c2] w fun e w' => e = .returned (.bool true) ∧ ∃ k, w' = w.drewN k := by
  subst he
  have hn := hBs.le
  have hm := hBs.max
  have hn2 : n2 = n := by rw [← hBs.len, ← hBs2.len]
  subst hn2
  have hm2 := hBs2.max
  go_enter Try.func21, Try.ntmps21
  go_wp2
  go_loopw [5] (fun i wr => ∃ k m : Nat, k ≤ n2 ∧ i = .int .i64 k ∧ wr = w.drewN m) (fun i _ => n2 - (intOf i).toNat)
  case atStart => exact ⟨0, 0, by omega, rfl, rfl⟩
  case round =>
    obtain ⟨k, m, hk, rfl, rfl⟩ := hrel
    by_cases hlt : k < n2
    · obtain ⟨b, off, A3, n3, c3, l3, rfl, _, hl3, hc3, hbs3⟩ := hBs.at_ hlt
      obtain ⟨b4, off4, A4, n4, c4, l4, rfl, _, hl4, hc4, hbs4⟩ := hBs2.at_ hlt
      have HE : Hid (decide (l3 = l4) = true) := by
        unfold Hid
        rw [hl3] at hl4
        injection hl4 with h
        simp [h]
      have i0 : (k : Int) < (n2 : Int) := by omega
      clear hl3 hl4
      have hb3 : Bs (w.drewN m) A3 n3 c3 l3 := hbs3.below (Joins.below_draws _ _ _)
      have hb4 : Bs (w.drewN m) A4 n4 c4 l4 := hbs4.below (Joins.below_draws _ _ _)
      have hd3 : (w.drewN m).cell? ⟨b, off + k, none⟩ = some (.slice A3 n3 c3) := hc3
      have hd4 : (w.drewN m).cell? ⟨b4, off4 + k, none⟩ = some (.slice A4 n4 c4) := hc4
      clear hc3 hc4 hbs3 hbs4
      generalize hwm : w.drewN m = wm at *
      have HWM := Lib.hid hwm
      clear hwm
      go_wp2_with fail
      go_quiet ((go_at_call 22; exact Calls.quiet_of (bytes_any _ _ _ l3 _ _ _ l4 _ (hb3.below (Joins.below_draws _ _ _)) (hb4.below (Joins.below_draws _ _ _)))))
      rw [HE.out]
      go_wp2_with fail
      go_roundw
      case rel => exact ⟨k + 1, _, by omega, by go_num, by rw [← HWM.out, World.drewN_drewN]⟩
      case measure => simp [intOf]; omega
    · obtain rfl : k = n2 := by omega
      go_wp2_with fail
      go_ret
      exact ⟨rfl, _, rfl⟩

set_option maxHeartbeats 1000000 in
theorem all_any (A : Option Addr) (n c : Nat) (l : List UInt8) (w : World) (hBs : Bs w A n c l) (hsz : n ≤ 4294967295) :
    Calls Try.prog 18 #[.slice A n c] w fun e w' => ∃ A' c', e = .returned (.tuple #[.slice A' (Fr.all l).1.length c', .int .i64 ((Fr.all l).2.1 : Nat), .int .i64 ((Fr.all l).2.2 : Nat)]) ∧ OwL w' w.heap.size 22 (.slice A' (Fr.all l).1.length c') (Fr.all l).1 ∧ Below w.heap.size w w' := by
  have hlc := Rd.le hBs
  have hcm := Rd.max hBs
  have HL : Hid (l.length = n) := hBs.len
  go_enter Try.func18, Try.ntmps18
  go_wp2_with fail
  go_loopw [5, 6] (fun v i wr => ∃ g A' c' ls, Hid (Fr.Upto l ls g) ∧ g ≤ n ∧ i = .int .i64 (g : Nat) ∧ v = .slice A' ls.length c' ∧ ls.length ≤ g ∧ OwL wr w.heap.size 22 (.slice A' ls.length c') ls ∧ Below w.heap.size w wr) (fun _ i _ => n - (intOf i).toNat)
  case atStart => exact ⟨0, none, 0, [], Fr.upto_start l, by omega, rfl, rfl, by simp, OwL.nil _ _ _, Below.refl _ _⟩
  case round =>
    obtain ⟨g, A', c', ls, hu, hg, rfl, rfl, hlg, ho, hbw⟩ := hrel
    have hBw := hBs.below hbw
    have hcut : ∀ A1, (∀ b off, A = some ⟨b, off, none⟩ → g < c → A1 = some ⟨b, off + g, none⟩) → (A = none → A1 = none) → (A ≠ none → A1 ≠ none) → Bs wr A1 (n - g) (c - g) (l.drop g) := fun A1 h1 h2 h3 => by
      have h := hBw.cut g n hg (Nat.le_refl _) A1 h1 h2 h3
      rw [List.take_of_length_le (by rw [List.length_drop, HL.out]; omega)] at h
      exact h
    have hcA : c = g → Bs wr A (n - g) 0 (l.drop g) := fun hcg => by
      have h := hcut A (fun b off _ hlt => by omega) (fun h => h) (fun h => h)
      rw [show c - g = 0 from by omega] at h
      exact h
    have hcB : ¬ c = g → Bs wr (A.map fun x => x.add g) (n - g) (c - g) (l.drop g) := fun hcg =>
      hcut _ (fun b off hA _ => by subst hA; simp only [Option.map_some, Addr.add]; split <;> simp_all) (fun h => by subst h; rfl) (fun h1 h2 => h1 (by simpa using h2))
    have HA := Lib.hid hcA
    have HB := Lib.hid hcB
    have hnc := Fr.next_cases (l.drop g)
    rw [List.length_drop, HL.out] at hnc
    have HS : Hid _ := @Fr.upto_step l ls g hu.out
    have HE : Hid _ := @Fr.upto_end l ls g hu.out
    clear hcA hcB hcut
    generalize hX : Fr.next (l.drop g) = X at *
    have HX := Lib.hid hX
    clear hX
    obtain ⟨r, k, s⟩ := X
    simp only at hnc
    have HS' : Hid (s = 1 → Fr.Upto l (ls ++ [r]) (g + k)) := HS
    have HE' : Hid (s ≠ 1 → Fr.all l = (ls, g, s)) := HE
    clear HS HE
    by_cases hcg : c = g
    · have h1 : s ≠ 1 := by omega
      have hb : ((s : Int) != 1) = true := by rw [bne_iff_ne]; omega
      have hcA := HA.out hcg
      clear hnc
      go_wp2_with fail
      refine (next_any _ _ _ (l.drop g) _ hcA).mono ?_
      rw [HX.out]
      rintro e w2 ⟨A2, c2, rfl, ho2, hb2⟩
      have hbw2 : Below w.heap.size w w2 := hbw.trans (hb2.mono hbw.size)
      have hoo := ho.below hb2
      go_wp2_with fail
      go_ret3
      rw [HE'.out h1]
      exact ⟨A', c', rfl, hoo, hbw2⟩
    · go_wp2_with fail
      refine (next_any _ _ _ (l.drop g) _ (HB.out hcg)).mono ?_
      rw [HX.out]
      rintro e w2 ⟨A2, c2, rfl, ho2, hb2⟩
      have hbw2 : Below w.heap.size w w2 := hbw.trans (hb2.mono hbw.size)
      have hoo := ho.below hb2
      by_cases h1 : s = 1
      · subst h1
        have hk : k ≤ n - g ∧ 9 ≤ k := by omega
        obtain ⟨hk1, hk2⟩ := hk
        clear hnc
        go_wp2_with (at_builtin; apply stop_here)
        refine Stop.go (append_el w2 38 22 Try.underlying38 info_sl rfl _ _ rfl w.heap.size (.slice A' ls.length c') ls rfl hoo _ r (0, 0) rfl ?_ (ls.length + 1) rfl (by omega) (by have := hbw2.size; omega) ?_)
        · refine ⟨A2, _, c2, rfl, ho2.bs, fun a ha _ he => ?_⟩
          subst ha
          have h1 := ho2.lt a.block rfl
          have h2 := ho.lt a.block he.symm
          omega
        intro A3 c3 w3 ho3 hg3 hb3
        have hbw3 : Below w.heap.size w w3 := hbw2.trans (((below_alloc w2 _).mono hbw2.size).trans hb3)
        clear hg3 hb3
        go_wp2_with fail
        go_roundw
        case rel => exact ⟨g + k, A3, c3, ls ++ [r], HS'.out (by trivial), by omega, by go_num, by simp, by simp; omega, by simpa using ho3, hbw3⟩
        case measure => simp [intOf]; omega
      · have hb : ((s : Int) != 1) = true := by rw [bne_iff_ne]; omega
        clear hnc
        go_wp2_with fail
        go_ret3
        rw [HE'.out h1]
        exact ⟨A', c', rfl, hoo, hbw2⟩

set_option maxHeartbeats 1000000 in
theorem refall_any (A : Option Addr) (n c : Nat) (l : List UInt8) (w : World) (hBs : Bs w A n c l) (hsz : n ≤ 4294967295) :
    Calls Try.prog 19 #[.slice A n c] w fun e w' => ∃ A' c', e = .returned (.tuple #[.slice A' (Fr.all l).1.length c', .int .i64 ((Fr.all l).2.1 : Nat), .int .i64 ((Fr.all l).2.2 : Nat)]) ∧ OwL w' w.heap.size 22 (.slice A' (Fr.all l).1.length c') (Fr.all l).1 ∧ Below w.heap.size w w' := by
  have hlc := Rd.le hBs
  have hcm := Rd.max hBs
  have HL : Hid (l.length = n) := hBs.len
  go_enter Try.func19, Try.ntmps19
  go_wp2_with fail
  go_loopw [5, 6] (fun v i wr => ∃ g A' c' ls, Hid (Fr.Upto l ls g) ∧ g ≤ n ∧ i = .int .i64 (g : Nat) ∧ v = .slice A' ls.length c' ∧ ls.length ≤ g ∧ OwL wr w.heap.size 22 (.slice A' ls.length c') ls ∧ Below w.heap.size w wr) (fun _ i _ => n - (intOf i).toNat)
  case atStart => exact ⟨0, none, 0, [], Fr.upto_start l, by omega, rfl, rfl, by simp, OwL.nil _ _ _, Below.refl _ _⟩
  case round =>
    obtain ⟨g, A', c', ls, hu, hg, rfl, rfl, hlg, ho, hbw⟩ := hrel
    have hBw := hBs.below hbw
    have hcut : ∀ A1, (∀ b off, A = some ⟨b, off, none⟩ → g < c → A1 = some ⟨b, off + g, none⟩) → (A = none → A1 = none) → (A ≠ none → A1 ≠ none) → Bs wr A1 (n - g) (c - g) (l.drop g) := fun A1 h1 h2 h3 => by
      have h := hBw.cut g n hg (Nat.le_refl _) A1 h1 h2 h3
      rw [List.take_of_length_le (by rw [List.length_drop, HL.out]; omega)] at h
      exact h
    have hcA : c = g → Bs wr A (n - g) 0 (l.drop g) := fun hcg => by
      have h := hcut A (fun b off _ hlt => by omega) (fun h => h) (fun h => h)
      rw [show c - g = 0 from by omega] at h
      exact h
    have hcB : ¬ c = g → Bs wr (A.map fun x => x.add g) (n - g) (c - g) (l.drop g) := fun hcg =>
      hcut _ (fun b off hA _ => by subst hA; simp only [Option.map_some, Addr.add]; split <;> simp_all) (fun h => by subst h; rfl) (fun h1 h2 => h1 (by simpa using h2))
    have HA := Lib.hid hcA
    have HB := Lib.hid hcB
    have hnc := Fr.next_cases (l.drop g)
    rw [List.length_drop, HL.out] at hnc
    have HS : Hid _ := @Fr.upto_step l ls g hu.out
    have HE : Hid _ := @Fr.upto_end l ls g hu.out
    clear hcA hcB hcut
    generalize hX : Fr.next (l.drop g) = X at *
    have HX := Lib.hid hX
    clear hX
    obtain ⟨r, k, s⟩ := X
    simp only at hnc
    have HS' : Hid (s = 1 → Fr.Upto l (ls ++ [r]) (g + k)) := HS
    have HE' : Hid (s ≠ 1 → Fr.all l = (ls, g, s)) := HE
    clear HS HE
    by_cases hcg : c = g
    · have h1 : s ≠ 1 := by omega
      have hb : ((s : Int) != 1) = true := by rw [bne_iff_ne]; omega
      have hcA := HA.out hcg
      clear hnc
      go_wp2_with fail
      refine (refnext_any _ _ _ (l.drop g) _ hcA).mono ?_
      rw [HX.out]
      rintro e w2 ⟨A2, c2, rfl, ho2, hb2⟩
      have hbw2 : Below w.heap.size w w2 := hbw.trans (hb2.mono hbw.size)
      have hoo := ho.below hb2
      go_wp2_with fail
      go_ret3
      rw [HE'.out h1]
      exact ⟨A', c', rfl, hoo, hbw2⟩
    · go_wp2_with fail
      refine (refnext_any _ _ _ (l.drop g) _ (HB.out hcg)).mono ?_
      rw [HX.out]
      rintro e w2 ⟨A2, c2, rfl, ho2, hb2⟩
      have hbw2 : Below w.heap.size w w2 := hbw.trans (hb2.mono hbw.size)
      have hoo := ho.below hb2
      by_cases h1 : s = 1
      · subst h1
        have hk : k ≤ n - g ∧ 9 ≤ k := by omega
        obtain ⟨hk1, hk2⟩ := hk
        clear hnc
        go_wp2_with (at_builtin; apply stop_here)
        refine Stop.go (append_el w2 38 22 Try.underlying38 info_sl rfl _ _ rfl w.heap.size (.slice A' ls.length c') ls rfl hoo _ r (0, 0) rfl ?_ (ls.length + 1) rfl (by omega) (by have := hbw2.size; omega) ?_)
        · refine ⟨A2, _, c2, rfl, ho2.bs, fun a ha _ he => ?_⟩
          subst ha
          have h1 := ho2.lt a.block rfl
          have h2 := ho.lt a.block he.symm
          omega
        intro A3 c3 w3 ho3 hg3 hb3
        have hbw3 : Below w.heap.size w w3 := hbw2.trans (((below_alloc w2 _).mono hbw2.size).trans hb3)
        clear hg3 hb3
        go_wp2_with fail
        go_roundw
        case rel => exact ⟨g + k, A3, c3, ls ++ [r], HS'.out (by trivial), by omega, by go_num, by simp, by simp; omega, by simpa using ho3, hbw3⟩
        case measure => simp [intOf]; omega
      · have hb : ((s : Int) != 1) = true := by rw [bne_iff_ne]; omega
        clear hnc
        go_wp2_with fail
        go_ret3
        rw [HE'.out h1]
        exact ⟨A', c', rfl, hoo, hbw2⟩

end Go.Proofs.Yteljgmeahpeneaa.FrW
