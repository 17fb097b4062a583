/- What the document's disk refuses. -/
import Derived.Test.YtjhiihmibleecaaGreatDoorDkRd
namespace Go.Proofs.YtjhiihmibleecaaGreatDoor.Dk
open Go.RowKit

theorem wrap_sub (a b : Nat) (ha : a ≤ 9223372036854775807) (hb : b ≤ 9223372036854775807) : IntKind.i64.wrap ((a : Int) - (b : Int)) = (a : Int) - (b : Int) := by
  rcases Nat.lt_or_ge a b with h | h
  · have e : ((a : Int) - (b : Int)) % 2 ^ 64 = (a : Int) - (b : Int) + 2 ^ 64 := by omega
    simp only [IntKind.wrap, IntKind.bits, IntKind.signed, e]
    rw [if_pos]
    · omega
    · simp
      omega
  · have e : ((a : Int) - (b : Int)) % 2 ^ 64 = (a : Int) - (b : Int) := Int.emod_eq_of_lt (by omega) (by omega)
    simp only [IntKind.wrap, IntKind.bits, IntKind.signed, e]
    rw [if_neg]
    simp
    omega

set_option maxHeartbeats 4000000 in
set_option maxRecDepth 100000 in
theorem rRefuse_any (w : World) (B rb : Nat) (lv tv : Value) (d : D) (h : Ra w B rb lv tv d) (K : Nat) (hK : 1 ≤ K ∧ K ≤ 6) (s s2 : ByteArray) (hs : s.size ≤ 1000000) (hs2 : s2.size ≤ 1000000) (n : Int) (b : List UInt8) (hn : K = 2 → n = b.length)
    (hu : used d.fs ≤ 1000000000) (hroom : d.room ≤ 9223372036854775807) (hl : d.fs.length ≤ 1000000) :
    Calls Tryz.prog 60 #[.pointer (some ⟨rb, 0, none⟩), .int .i64 (K : Nat), .string s, .string s2, .int .i64 n] w fun e w' => e = .returned (.int .i64 (refuse d K s.data.toList s2.data.toList n b)) ∧ ∃ m, w' = w.drewN m := by
  have hat := rAt_any w B rb lv tv d h s
  have hm1 := May_any s hs
  have hm2 := May_any s2 hs2
  have k0 : w.cell? ⟨rb, 0, none⟩ = some (.int .i64 (d.room : Nat)) := cell_blk h.blk rfl
  have k1 : w.cell? ⟨rb, 1, none⟩ = some lv := cell_blk h.blk rfl
  have hus : Hid (∀ k, Calls Tryz.prog 14 #[.pointer (some ⟨rb, 0, none⟩)] (w.drewN k) fun e w' => e = .returned (.int .i64 (used d.fs : Nat)) ∧ w.drewN k = w') := Lib.hid fun k => rUsed_any _ B rb lv tv d (h.below (Joins.below_draws _ w k)) hu
  have hus1 : Hid (Calls Tryz.prog 14 #[.pointer (some ⟨rb, 0, none⟩)] w.drew fun e w' => e = .returned (.int .i64 (used d.fs : Nat)) ∧ w.drew = w') := Lib.hid (rUsed_any _ B rb lv tv d (h.below (bD (Below.refl _ w))) hu)
  obtain ⟨A, c, rfl, hq⟩ := h.sq
  have hle := hq.le
  have hmx := hq.max
  have hmost := hl
  obtain ⟨R, hR⟩ : ∃ R, refuse d K s.data.toList s2.data.toList n b = R := ⟨_, rfl⟩
  rw [hR]
  obtain ⟨len, hlen⟩ : ∃ len, d.fs.length = len := ⟨_, rfl⟩
  rw [hlen] at k1
  have hm1' := Lib.hid hm1
  have hm2' := Lib.hid hm2
  have hn' := Lib.hid hn
  unfold refuse at hR
  rcases atI_get (fs := d.fs) (nm := s.data.toList) with ⟨e1, e2⟩ | ⟨i, f, e1, e2, e3⟩
  · rw [e1] at hat
    clear h hq hm1 hm2 hn e1
    by_cases k1K : K = 1
    · subst k1K
      rw [if_pos rfl] at hR
      have hlen' := Lib.hid hlen
      go_enter Tryz.func60, Tryz.ntmps60
      go_wp2_with fail
      refine hat.mono ?_
      rintro e w2 ⟨rfl, rfl⟩
      go_wp2_with fail
      refine (hm1'.out _).mono ?_
      rintro e w3 ⟨rfl, rfl⟩
      cases hmay : may s.data.toList with
      | false =>
        rw [if_pos hmay] at hR
        have hmay2 := Lib.hid hmay
        obtain rfl := hR
        clear hmay
        go_wp2_with fail
        go_ret
        exact ⟨rfl, 0, rfl⟩
      | true =>
        rw [if_neg (by rw [hmay]; decide)] at hR
        clear hmay
        rw [e2, if_neg (by decide)] at hR
        by_cases h64 : 64 ≤ len
        · rw [if_pos (by have := hlen'.out; omega)] at hR
          have j1 : decide ((len : Int) ≥ 64) = true := by rw [decide_eq_true_eq]; omega
          have j2 : decide (64 ≤ len) = true := by rw [decide_eq_true_eq]; omega
          obtain rfl := hR
          clear e2 h64
          go_wp2_with fail
          go_ret
          exact ⟨rfl, 0, rfl⟩
        · rw [if_neg (by have := hlen'.out; omega)] at hR
          have j1 : decide ((len : Int) ≥ 64) = false := by rw [decide_eq_false_iff_not]; omega
          have j2 : decide (64 ≤ len) = false := by rw [decide_eq_false_iff_not]; omega
          obtain rfl := hR
          clear e2 h64
          go_wp2_with fail
          go_ret
          exact ⟨rfl, 0, rfl⟩
    · rw [if_neg k1K, e2] at hR
      have j1 : ((K : Int) == 1) = false := by rw [beq_eq_false_iff_ne]; omega
      have j2 : (K == 1) = false := by rw [beq_eq_false_iff_ne]; exact k1K
      obtain rfl := hR
      clear e2 k1K hlen
      go_enter Tryz.func60, Tryz.ntmps60
      go_wp2_with fail
      refine hat.mono ?_
      rintro e w2 ⟨rfl, rfl⟩
      go_wp2_with fail
      go_ret
      exact ⟨rfl, 0, rfl⟩
  · rw [e1] at hat
    have i0 : (0 : Int) ≤ (i : Int) := by omega
    have i1 : decide ((i : Int) ≥ 0) = true := by rw [decide_eq_true_eq]; omega
    have i2 : decide ((i : Int) < 0) = false := by rw [decide_eq_false_iff_not]; omega
    have hil : i < d.fs.length := (List.getElem?_eq_some_iff.1 e2).1
    rw [hlen] at hil
    have i3 : (i : Int) < (len : Int) := by omega
    rw [hlen] at hq
    obtain ⟨bk, off, g, vs, rfl, hb, hf, hvs, hel, hcs⟩ := hq.at_ hil
    obtain ⟨sk, dv, rfl, _, hdv⟩ := hel
    obtain ⟨A0, c0, rfl, _⟩ := OwB.slice hdv
    have hg : g.data = f.data := by
      rw [List.getElem?_map, e2] at hf
      simp at hf
      rw [← hf]
      rfl
    have m1 : w.cell? ⟨bk, off + i * 3 + 1, none⟩ = some (.slice A0 g.data.length c0) := hcs 1 _ rfl
    rw [hg] at m1
    obtain ⟨fl, hfl⟩ : ∃ fl, f.data.length = fl := ⟨_, rfl⟩
    rw [hfl] at m1
    rw [e3] at hR
    dsimp only at hR
    rw [hfl] at hR
    have hlen' := Lib.hid hlen
    have hus' := hus
    clear h hq hm1 hm2 hn e1 e2 hcs hvs hf hdv hg hfl hlen hb
    by_cases k1K : K = 1
    · subst k1K
      rw [if_pos rfl] at hR
      go_enter Tryz.func60, Tryz.ntmps60
      go_wp2_with fail
      refine hat.mono ?_
      rintro e w2 ⟨rfl, rfl⟩
      go_wp2_with fail
      refine (hm1'.out _).mono ?_
      rintro e w3 ⟨rfl, rfl⟩
      cases hmay : may s.data.toList with
      | false =>
        rw [if_pos hmay] at hR
        have hmay2 := Lib.hid hmay
        obtain rfl := hR
        clear hmay
        go_wp2_with fail
        go_ret
        exact ⟨rfl, 0, rfl⟩
      | true =>
        rw [if_neg (by rw [hmay]; decide)] at hR
        clear hmay
        rw [Option.isSome_some, if_pos rfl] at hR
        obtain rfl := hR
        skip
        go_wp2_with fail
        go_ret
        exact ⟨rfl, 0, rfl⟩
    rw [if_neg k1K] at hR
    by_cases k2K : K = 2
    · subst k2K
      rw [if_pos rfl] at hR
      obtain rfl := hn'.out rfl
      obtain ⟨us, hus2⟩ : ∃ us, used d.fs = us := ⟨_, rfl⟩
      obtain ⟨bl, hbl⟩ : ∃ bl, b.length = bl := ⟨_, rfl⟩
      rw [hus2] at hu hR hus1
      rw [hbl] at hR ⊢
      have hwr : IntKind.i64.wrap ((d.room : Int) - (us : Int)) = (d.room : Int) - (us : Int) := wrap_sub d.room us hroom (by omega)
      obtain ⟨X, hX⟩ : ∃ X : Int, (d.room : Int) - (us : Int) = X := ⟨_, rfl⟩
      replace hwr := hwr.trans hX
      rw [hX] at hR
      have hmeet : ∀ cnd : Bool, decide ((bl : Int) > X) = cnd → Calls Tryz.prog 60 #[.pointer (some ⟨rb, 0, none⟩), .int .i64 ((2 : Nat) : Int), .string s, .string s2, .int .i64 (bl : Nat)] w fun e w' => e = .returned (.int .i64 (if cnd = true then 40 else 0)) ∧ ∃ m, w' = w.drewN m := fun cnd hc => by
        have hc2 : decide (X < (bl : Int)) = cnd := hc
        clear hX hus2 hbl k1K hR hus
        go_enter Tryz.func60, Tryz.ntmps60
        go_wp2_with fail
        refine hat.mono ?_
        rintro e w2 ⟨rfl, rfl⟩
        go_wp2_with fail
        refine Pl.wp_region_plan 13 (.take 0 (.take 1 (.take 2 (.take 3 (.take 4 (.take 5 (.take 6 (.take 7 (.take 8 (.run 9 (.take 10 (.take 11 (.take 12 .done)))))))))))))
          (fun x => x.cell? ⟨rb, 0, none⟩ = some (.int .i64 (d.room : Nat))) (by kernel_rfl) (by kernel_rfl) (by exact k0) ?_
        simp only [Pl.fill, List.getElem?_cons_zero, List.getElem?_cons_succ, List.drop_succ_cons, List.drop_zero]
        iterate 9
          refine Pl.take_go ?_ (by rfl) (fun _ _ _ h => h) ?_ ?_
          rotate_left
          · (intro x hSw; (try dsimp only at hSw); go_simp; try with_reducible rfl)
          try simp only [Act.put, List.setIfInBounds_toArray, List.set_cons_zero, List.set_cons_succ]
        refine Pl.run_go (fun K hK => ?_)
        go_simp
        refine hus1.out.mono ?_
        rintro e w3 ⟨rfl, rfl⟩
        dsimp only
        refine hK.out _ _ (Pl.more_go _ (fun _ h => h) (by exact k0) ?_)
        clear hK K
        iterate 3
          refine Pl.take_go ?_ (by rfl) (fun _ _ _ h => h) ?_ ?_
          rotate_left
          · (intro x hSw; (try dsimp only at hSw); go_simp; try with_reducible rfl)
          try simp only [Act.put, List.setIfInBounds_toArray, List.set_cons_zero, List.set_cons_succ]
        refine Pl.done_go ?_
        cases cnd with
        | true =>
          go_wp2_with fail
          go_ret
          exact ⟨rfl, 1, rfl⟩
        | false =>
          go_wp2_with fail
          go_ret
          exact ⟨rfl, 1, rfl⟩
      by_cases hlt : X < (bl : Int)
      · rw [if_pos hlt] at hR
        obtain rfl := hR
        exact hmeet true (by rw [decide_eq_true_eq]; exact hlt)
      · rw [if_neg hlt] at hR
        obtain rfl := hR
        exact hmeet false (by rw [decide_eq_false_iff_not]; exact hlt)
    rw [if_neg k2K] at hR
    have j1 : ((K : Int) == 1) = false := by rw [beq_eq_false_iff_ne]; omega
    have j1' : (K == 1) = false := by rw [beq_eq_false_iff_ne]; exact k1K
    have j2 : ((K : Int) == 2) = false := by rw [beq_eq_false_iff_ne]; omega
    have j2' : (K == 2) = false := by rw [beq_eq_false_iff_ne]; exact k2K
    by_cases k3K : K = 3
    · subst k3K
      rw [if_pos rfl] at hR
      clear k1K k2K hus hus1 hus' j1 j1' j2 j2'
      by_cases n0 : n < 0
      · rw [if_pos (.inl n0)] at hR
        obtain rfl := hR
        have t0 : decide (n < 0) = true := by rw [decide_eq_true_eq]; exact n0
        go_enter Tryz.func60, Tryz.ntmps60
        go_wp2_with fail
        refine hat.mono ?_
        rintro e w2 ⟨rfl, rfl⟩
        go_wp2_with fail
        go_quiet (fail)
        go_wp2_with fail
        go_ret
        exact ⟨rfl, _, rfl⟩
      have t0 : decide (n < 0) = false := by rw [decide_eq_false_iff_not]; exact n0
      by_cases n1 : (fl : Int) < n
      · rw [if_pos (.inr n1)] at hR
        obtain rfl := hR
        have t1 : decide (n > (fl : Int)) = true := by rw [decide_eq_true_eq]; exact n1
        have t2 : decide ((fl : Int) < n) = true := t1
        go_enter Tryz.func60, Tryz.ntmps60
        go_wp2_with fail
        refine hat.mono ?_
        rintro e w2 ⟨rfl, rfl⟩
        go_wp2_with fail
        go_quiet (fail)
        go_wp2_with fail
        go_ret
        exact ⟨rfl, _, rfl⟩
      · rw [if_neg (by omega)] at hR
        obtain rfl := hR
        have t1 : decide (n > (fl : Int)) = false := by rw [decide_eq_false_iff_not]; exact n1
        have t2 : decide ((fl : Int) < n) = false := t1
        go_enter Tryz.func60, Tryz.ntmps60
        go_wp2_with fail
        refine hat.mono ?_
        rintro e w2 ⟨rfl, rfl⟩
        go_wp2_with fail
        go_quiet (fail)
        go_wp2_with fail
        go_ret
        exact ⟨rfl, _, rfl⟩
    rw [if_neg k3K] at hR
    have j3 : ((K : Int) == 3) = false := by rw [beq_eq_false_iff_ne]; omega
    have j3' : (K == 3) = false := by rw [beq_eq_false_iff_ne]; exact k3K
    by_cases k5K : K = 5
    · subst k5K
      rw [if_pos rfl] at hR
      clear k1K k2K k3K hus hus1 hus' j1 j1' j2 j2' j3 j3'
      cases hmay : may s2.data.toList with
      | false =>
        rw [if_pos hmay] at hR
        obtain rfl := hR
        rw [hmay] at hm2'
        clear hmay
        go_enter Tryz.func60, Tryz.ntmps60
        go_wp2_with fail
        refine hat.mono ?_
        rintro e w2 ⟨rfl, rfl⟩
        go_wp2_with fail
        go_quiet (fail)
        go_wp2_with fail
        refine (hm2'.out _).mono ?_
        rintro e w3 ⟨rfl, rfl⟩
        go_wp2_with fail
        go_ret
        exact ⟨rfl, _, rfl⟩
      | true =>
        rw [if_neg (by rw [hmay]; decide)] at hR
        obtain rfl := hR
        rw [hmay] at hm2'
        clear hmay
        go_enter Tryz.func60, Tryz.ntmps60
        go_wp2_with fail
        refine hat.mono ?_
        rintro e w2 ⟨rfl, rfl⟩
        go_wp2_with fail
        go_quiet (fail)
        go_wp2_with fail
        refine (hm2'.out _).mono ?_
        rintro e w3 ⟨rfl, rfl⟩
        go_wp2_with fail
        go_ret
        exact ⟨rfl, _, rfl⟩
    rw [if_neg k5K] at hR
    obtain rfl := hR
    have j5 : ((K : Int) == 5) = false := by rw [beq_eq_false_iff_ne]; omega
    have j5' : (K == 5) = false := by rw [beq_eq_false_iff_ne]; exact k5K
    clear k1K k2K k3K k5K hus hus1 hus'
    go_enter Tryz.func60, Tryz.ntmps60
    go_wp2_with fail
    refine hat.mono ?_
    rintro e w2 ⟨rfl, rfl⟩
    go_wp2_with fail
    go_quiet (fail)
    go_wp2_with fail
    go_ret
    exact ⟨rfl, _, rfl⟩
end Go.Proofs.YtjhiihmibleecaaGreatDoor.Dk
