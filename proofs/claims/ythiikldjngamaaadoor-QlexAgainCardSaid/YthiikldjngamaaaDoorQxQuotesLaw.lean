/- QlexQuotes. -/
import Derived.Test.YthiikldjngamaaaDoorQxWordsLaw
import Derived.Laws.StructEq
namespace Go.Proofs.YthiikldjngamaaaDoor.Qx
open Go.RowKit UtfW Er

theorem tok_eq (w : World) (a b : Int) (x : ByteArray) : (binOp .eql 31 (.agg #[.int .i64 a, .int .i64 b, .string x]) (.agg #[.int .i64 a, .int .i64 b, .string x])).run Tryd.prog w = .ok (.bool true) w := by
  have hS : Tryd.prog.underlying 31 = some (.struct (Tryd.prog.fieldsOf 31)) := by kernel_rfl
  have hp : Tryd.prog.stoodInHeld 31 = false := by kernel_rfl
  rw [run_eql_struct, show (10000 : Nat) = 9999 + 1 from rfl, run_equalIn_agg w 9999 31 _ _ hS hp]
  simp only [Program.fieldsOf, Tryd.underlying31]
  go_simp
theorem tok_neq (w : World) (a b : Int) (x : ByteArray) : (binOp .neq 31 (.agg #[.int .i64 a, .int .i64 b, .string x]) (.agg #[.int .i64 a, .int .i64 b, .string x])).run Tryd.prog w = .ok (.bool false) w := by
  have hS : Tryd.prog.underlying 31 = some (.struct (Tryd.prog.fieldsOf 31)) := by kernel_rfl
  have hp : Tryd.prog.stoodInHeld 31 = false := by kernel_rfl
  rw [run_neq_struct, show (10000 : Nat) = 9999 + 1 from rfl, run_equalIn_agg w 9999 31 _ _ hS hp]
  simp only [Program.fieldsOf, Tryd.underlying31]
  go_simp

theorem dig_mk {z : Int} (h0 : 48 ≤ z) (h1 : z ≤ 57) : ∃ x : UInt8, z = (x.toNat : Int) ∧ dig x = true := by
  obtain ⟨k, rfl⟩ : ∃ k : Nat, z = (k : Int) := ⟨z.toNat, by omega⟩
  have hk : (UInt8.ofNat k).toNat = k := by simp; omega
  refine ⟨UInt8.ofNat k, by rw [hk], ?_⟩
  unfold dig
  rw [hk, Bool.and_eq_true, decide_eq_true_eq, decide_eq_true_eq]
  omega
theorem three_dig {x0 x1 x2 c : UInt8} (g0 : dig x0 = true) (g1 : dig x1 = true) (g2 : dig x2 = true) (h : c ∈ [x0, x1, x2]) : dig c = true := by
  simp only [List.mem_cons, List.not_mem_nil, or_false] at h
  rcases h with rfl | rfl | rfl <;> assumption

theorem badW_le (l : List UInt8) : ∀ n k, l.length - k ≤ n → badW l k ≤ l.length := by
  intro n
  induction n with
  | zero => intro k h; rw [badW_end (by omega)]; omega
  | succ n ih =>
    intro k h
    by_cases hlt : k < l.length
    · by_cases h0 : (nx l k).2 = 0
      · rw [badW_stop hlt h0]; omega
      · rw [badW_on hlt h0]
        exact ih _ (by omega)
    · rw [badW_end (by omega)]; omega

theorem qway {Q : UInt8} {s : List UInt8} {B : Int} {w w' : World} {e : Ending} (hall : allF (Q :: (s ++ [Q])) = if 0 ≤ B then (1, B + 1, []) else if Q ∈ s then allF (Q :: (s ++ [Q])) else (0, 0, [(7, 0, s)])) (h : AllP (Q :: (s ++ [Q])) w e w') :
    (0 ≤ B ∧ ∃ v ws, e = .returned (.tuple #[.slice none 0 0, v]) ∧ Fe w' w'.heap.size 1 (B + 1) ws v) ∨
    (B < 0 ∧ Q ∈ s ∧ ∃ A n c v, e = .returned (.tuple #[.slice A n c, v])) ∨
    (B < 0 ∧ Q ∉ s ∧ ∃ A n c, e = .returned (.tuple #[.slice A n c, .nilIface]) ∧ OwT w' w.heap.size 31 (.slice A n c) [(7, 0, s)]) := by
  by_cases h0 : 0 ≤ B
  · rw [if_pos h0] at hall
    exact .inl ⟨h0, (h.no hall (by decide)).2⟩
  · rw [if_neg h0] at hall
    by_cases hm : Q ∈ s
    · refine .inr (.inl ⟨by omega, hm, ?_⟩)
      by_cases hc : (allF (Q :: (s ++ [Q]))).1 = 0
      · obtain ⟨A, n, c, he, _⟩ := h.2.1 hc
        exact ⟨A, n, c, _, he⟩
      · obtain ⟨v, ws, he, _⟩ := h.2.2 hc
        exact ⟨_, _, _, v, he⟩
    · rw [if_neg hm] at hall
      exact .inr (.inr ⟨by omega, hm, (h.ok hall).2⟩)

set_option maxHeartbeats 4000000 in
set_option maxRecDepth 100000 in
theorem quotes_double (s : List UInt8) (n : Int) (hn0 : 0 ≤ n) (hn1 : n ≤ 4294967295) (hs : s.length ≤ 140737488351232) (w : World) (hU : Ut w) (hE : En w.heap.size w) :
    Calls Tryd.prog 5 #[.string (strOf s), .bool false, .int .u32 n] w fun e w' => e = .returned (.bool true) ∧ Below w.heap.size w w' := by
  have hsz : (strOf s).size = s.length := strOf_size' s
  go_enter Tryd.func5, Tryd.ntmps5
  go_wp2_with fail
  refine (awake_any w hU hE).mono ?_
  rintro e w1 ⟨rfl, hb1⟩
  have hx1 := Lib.hid hb1
  clear hb1
  by_cases hlen : 500 < s.length
  · have i0 : decide ((500 : Int) < (s.length : Int)) = true := by simp; omega
    go_wp2_with fail
    go_ret
    exact ⟨rfl, hx1.out⟩
  have i0 : decide ((500 : Int) < (s.length : Int)) = false := by simp; omega
  have hlen9 := Lib.hid hlen
  have hcv1 : ∀ ww : World, (convert 37 9 (.slice (some ⟨ww.heap.size, 0, none⟩) 1 1)).run Tryd.prog (ww.alloc (.cells #[.int .u8 34] 5)) = .ok (.string (strOf [34])) (ww.alloc (.cells #[.int .u8 34] 5)) := fun ww =>
    Bs.conv (bs_lit ww #[.int .u8 34] 5 (0, 0) [34] 1 rfl (by omega) rfl) Tryd.underlying37 Tryd.underlying5 Tryd.underlying9
  have h1 := hcv1 w1
  have h2 := hcv1 (w1.alloc (.cells #[.int .u8 34] 5))
  rw [show (w1.alloc (.cells #[.int .u8 34] 5)).heap.size = w1.heap.size + 1 from by simp] at h2
  have a1 := fun w => add_str w [34] s _ _ _ rfl rfl rfl (by simp; omega)
  have a2 := fun w => add_str w ([34] ++ s) [34] _ (strOf ([34] ++ s)) _ rfl rfl rfl (by simp; omega)
  have hx2 := Lib.hid ((hx1.out.trans ((below_alloc w1 (.cells #[.int .u8 34] 5)).mono hx1.out.size)).alloc (by have := hx1.out.size; simp; omega) (.cells #[.int .u8 34] 5))
  clear hcv1
  obtain ⟨Z0, hZ0⟩ : ∃ Z, strOf [34] = Z := ⟨_, rfl⟩
  obtain ⟨Z1, hZ1⟩ : ∃ Z, strOf ([34] ++ s) = Z := ⟨_, rfl⟩
  rw [hZ0] at h1 h2 a1 a2
  rw [hZ1] at a1 a2
  clear hZ0 hZ1
  go_wp2_with fail
  clear h1 h2 a1 a2
  generalize (w1.alloc _).alloc _ = w2 at hx2 ⊢
  refine (All_any w2 (34 :: (s ++ [34])) (by simp; omega) (hU.below hx2.out)).mono ?_
  intro e w3 h3
  have hall := all_quote (q := 34) (by decide) (show s.length ≤ 500 by omega)
  obtain ⟨hbs3, hbw3⟩ := bs_convert w3 (strOf s) (by omega)
  have hcv : (convert 9 37 (.string (strOf s))).run Tryd.prog w3 = .ok (.slice (some ⟨w3.heap.size, 0, none⟩) (strOf s).size (grownCap w3 (strOf s).size 0 5)) (Lib.bytesWorld w3 5 (strOf s)) :=
    Lib.run_convert_string_bytes w3 9 37 5 (strOf s) Tryd.underlying9 Tryd.underlying37 Tryd.underlying5
  obtain ⟨cb, hcb⟩ : ∃ cb, grownCap w3 (strOf s).size 0 5 = cb := ⟨_, rfl⟩
  obtain ⟨wb, hwb⟩ : ∃ wb, Lib.bytesWorld w3 5 (strOf s) = wb := ⟨_, rfl⟩
  rw [hcb, hwb] at hcv
  rw [hcb, hwb] at hbs3
  rw [hwb] at hbw3
  clear hcb hwb
  rw [hsz] at hcv hbs3
  have hlst : (strOf s).data.toList = s := rfl
  rw [hlst] at hbs3
  have hxb := Lib.hid ((hx2.out.trans (h3.1.mono hx2.out.size)).trans (hbw3.mono (hx2.out.trans (h3.1.mono hx2.out.size)).size))
  have hbw3' := Lib.hid hbw3
  have hbad := refBad_any _ _ cb s (by omega) wb hbs3
  obtain ⟨B, hB⟩ : ∃ B, badW s 0 = B := ⟨_, rfl⟩
  have hBle : Hid (B + 1 ≤ 1000) := Lib.hid (by rw [← hB]; have := badW_le s s.length 0 (by omega); have := hlen9.out; omega)
  rw [hB] at hall hbad
  clear hlst hbw3 hbs3 hB hlen
  have hlen : s.length ≤ 500 := by have := hlen9.out; omega
  rcases qway hall h3 with ⟨hB0, v, ws, rfl, hf⟩ | ⟨hB0, hm, hor⟩ | ⟨hB0, hm, A, m, c, rfl, ho⟩
  · have i1 : decide (0 ≤ B) = true := by simp; omega
    have i2 : decide (B < 0) = false := by simp; omega
    obtain ⟨T, ad, rfl⟩ := hf.iface
    have hf' := Lib.hid hf
    clear h3 hall hf
    go_wp2_with fail
    refine hbad.mono ?_
    rintro e w4 ⟨rfl, hb4⟩
    have hx4 := Lib.hid (hxb.out.trans (hb4.mono hxb.out.size))
    have f4 := Lib.hid (Fe.later (Fe.later hf'.out hbw3'.out) hb4)
    clear hb4 hf' hbad hcv hbw3'
    go_wp2_with fail
    refine (Code_any 1 (B + 1) ws _ w.heap.size w4 (hE.on hx4.out) f4.out).mono ?_
    rintro e w5 ⟨rfl, hb5⟩
    have hx5 := Lib.hid (hx4.out.trans (hb5.mono hx4.out.size))
    have f5 := Lib.hid (Fe.later f4.out hb5)
    clear hb5 f4
    go_wp2_with fail
    refine (At_any 1 (B + 1) ws _ w.heap.size w5 (hE.on hx5.out) f5.out).mono ?_
    rintro e wt ⟨rfl, hb6⟩
    have hxt := Lib.hid (hx5.out.trans (hb6.mono hx5.out.size))
    clear hb6 f5
    have i3 : B + 1 ≤ 1000 := hBle.out
    have hd0 : ∃ x : UInt8, 48 + n % 10 = (x.toNat : Int) ∧ dig x = true := dig_mk (by omega) (by omega)
    have hd1 : ∃ x : UInt8, 48 + n / 10 % 10 = (x.toNat : Int) ∧ dig x = true := dig_mk (by omega) (by omega)
    have hd2 : ∃ x : UInt8, 48 + n / 100 % 10 = (x.toNat : Int) ∧ dig x = true := dig_mk (by omega) (by omega)
    obtain ⟨x0, e0, g0⟩ := hd0
    obtain ⟨x1, e1, g1⟩ := hd1
    obtain ⟨x2, e2, g2⟩ := hd2
    obtain ⟨k, hk⟩ : ∃ k : Nat, n / 1000 % 4 = (k : Int) := ⟨(n / 1000 % 4).toNat, by omega⟩
    have hk3 : k ≤ 3 := by omega
    have hbs := bs_lit wt #[.int .u8 (x0.toNat : Int), .int .u8 (x1.toNat : Int), .int .u8 (x2.toNat : Int)] 5 (0, 0) [x0, x1, x2] 3 rfl (by omega) rfl
    have hbt := hxt.out.trans ((below_alloc wt (.cells #[.int .u8 (x0.toNat : Int), .int .u8 (x1.toNat : Int), .int .u8 (x2.toNat : Int)] 5)).mono hxt.out.size)
    obtain ⟨wd, hwd⟩ : ∃ wd, wt.alloc (.cells #[.int .u8 (x0.toNat : Int), .int .u8 (x1.toNat : Int), .int .u8 (x2.toNat : Int)] 5) = wd := ⟨_, rfl⟩
    rw [hwd] at hbs hbt
    have hxd := Lib.hid hbt
    have hcA : ∀ q, (convert 37 9 (.slice (some ⟨wt.heap.size, 0, none⟩) k 3)).run Tryd.prog (wd.drewN q) = .ok (.string (strOf ([x0, x1, x2].take k))) (wd.drewN q) := fun q => by
      have := (hbs.below (Joins.below_draws _ wd q)).cut 0 k (by omega) hk3 (some ⟨wt.heap.size, 0, none⟩) (by intro b off e _; injection e with e; injection e with e1 e2; subst e1 e2; rfl) (by intro h; cases h) (by intro _ h; cases h)
      exact this.conv Tryd.underlying37 Tryd.underlying5 Tryd.underlying9
    have hcB : ∀ q a, (k < 3 → a = (⟨wt.heap.size, k, none⟩ : Addr)) → (convert 37 9 (.slice (some a) (3 - k) (3 - k))).run Tryd.prog (wd.drewN q) = .ok (.string (strOf ([x0, x1, x2].drop k))) (wd.drewN q) := fun q a ha => by
      have := (hbs.below (Joins.below_draws _ wd q)).cut k 3 hk3 (by omega) (some a) (by intro b off e hk9; injection e with e; injection e with e1 e2; subst e1 e2; rw [ha hk9, Nat.zero_add]) (by intro h; cases h) (by intro _ h; cases h)
      rw [List.take_of_length_le (by simp)] at this
      exact this.conv Tryd.underlying37 Tryd.underlying5 Tryd.underlying9
    have hnum := all_number (a := [x0, x1, x2].take k) (b := [x0, x1, x2].drop k) (fun c hc => three_dig g0 g1 g2 (List.mem_of_mem_take hc)) (fun c hc => three_dig g0 g1 g2 (List.mem_of_mem_drop hc)) (by simp; omega)
    have hal : ([x0, x1, x2].take k).length = k := by simp; omega
    have hbl : ([x0, x1, x2].drop k).length = 3 - k := by simp
    obtain ⟨la, hla⟩ : ∃ la, [x0, x1, x2].take k = la := ⟨_, rfl⟩
    obtain ⟨lb, hlb⟩ : ∃ lb, [x0, x1, x2].drop k = lb := ⟨_, rfl⟩
    rw [hla] at hcA hnum hal
    rw [hlb] at hcB hnum hbl
    have b1 := fun w => add_str w la [46] _ (strOf la) ⟨#[46]⟩ rfl rfl rfl (by simp; omega)
    have b2 := fun w => add_str w (la ++ [46]) lb (la ++ 46 :: lb) (strOf (la ++ [46])) (strOf lb) rfl rfl (by simp) (by simp; omega)
    have hlen4 : (la ++ 46 :: lb).length ≤ 1000 := by simp; omega
    have hnum' := Lib.hid hnum
    obtain ⟨Y0, hY0⟩ : ∃ Z, strOf (la ++ [46]) = Z := ⟨_, rfl⟩
    rw [hY0] at b1 b2
    clear hY0 hnum hla hlb hal hbl hbs hbt g0 g1 g2
    go_wp2_with fail
    rw [hk]
    clear e0 e1 e2 hk hwd
    have q1 : (k : Int) ≤ 3 := by omega
    have q2 : 0 ≤ (k : Int) ∧ (k : Int) ≤ 3 := ⟨by omega, by omega⟩
    by_cases hk9 : k = 3
    · subst hk9
      have hcB2 := fun q => hcB q ⟨wt.heap.size, 0, none⟩ (by omega)
      clear hcB
      go_big_quiet (fail)
      have hxq := Lib.hid (hxd.out.trans ((Joins.below_draws _ wd nq).mono hxd.out.size))
      generalize wd.drewN nq = wq at hxq ⊢
      clear hcA hcB2 b1 b2
      go_wp2_with fail
      refine (All_any wq (la ++ 46 :: lb) hlen4 (hU.below hxq.out)).mono ?_
      intro e wy hy
      obtain ⟨hby, A9, m9, c9, rfl, ho9⟩ := hy.ok hnum'.out
      have hm9 := ho9.len
      simp only [List.length_cons, List.length_nil] at hm9
      subst hm9
      have hor := Lib.hid ho9.rt
      have hxy := Lib.hid (hxq.out.trans (hby.mono hxq.out.size))
      clear hby hy ho9
      go_wp2_with fail
      refine (Code_ok wy).mono ?_
      rintro e wz ⟨rfl, hbz⟩
      obtain ⟨g, off, p, rfl, hg, hp, k0, k1, k2⟩ := (hor.out.below hbz).at_ (k := 0) (by omega)
      have hxz := Lib.hid (hxy.out.trans (hbz.mono hxy.out.size))
      injection hp with hp
      subst hp
      simp only [Nat.zero_mul, Nat.add_zero] at k0 k1 k2
      have tq := fun w => tok_eq w 8 0 (strOf (la ++ 46 :: lb))
      clear hbz hor
      go_wp2_with fail
      go_ret
      exact ⟨rfl, hxz.out⟩
    · have hcB2 := fun q => hcB q ⟨wt.heap.size, k, none⟩ (fun _ => rfl)
      have hk8 : ¬ (3 : Nat) = k := fun h => hk9 h.symm
      clear hcB
      go_big_quiet (fail)
      have hxq := Lib.hid (hxd.out.trans ((Joins.below_draws _ wd nq).mono hxd.out.size))
      generalize wd.drewN nq = wq at hxq ⊢
      clear hcA hcB2 b1 b2
      go_wp2_with fail
      refine (All_any wq (la ++ 46 :: lb) hlen4 (hU.below hxq.out)).mono ?_
      intro e wy hy
      obtain ⟨hby, A9, m9, c9, rfl, ho9⟩ := hy.ok hnum'.out
      have hm9 := ho9.len
      simp only [List.length_cons, List.length_nil] at hm9
      subst hm9
      have hor := Lib.hid ho9.rt
      have hxy := Lib.hid (hxq.out.trans (hby.mono hxq.out.size))
      clear hby hy ho9
      go_wp2_with fail
      refine (Code_ok wy).mono ?_
      rintro e wz ⟨rfl, hbz⟩
      obtain ⟨g, off, p, rfl, hg, hp, k0, k1, k2⟩ := (hor.out.below hbz).at_ (k := 0) (by omega)
      have hxz := Lib.hid (hxy.out.trans (hbz.mono hxy.out.size))
      injection hp with hp
      subst hp
      simp only [Nat.zero_mul, Nat.add_zero] at k0 k1 k2
      have tq := fun w => tok_eq w 8 0 (strOf (la ++ 46 :: lb))
      clear hbz hor
      go_wp2_with fail
      go_ret
      exact ⟨rfl, hxz.out⟩
  · obtain ⟨A, m, c, v, rfl⟩ := hor
    have i1 : decide (0 ≤ B) = false := by simp; omega
    have i2 : decide (B < 0) = true := by simp; omega
    have em : decide ((34 : UInt8) ∈ s) = true := by simpa using hm
    clear h3 hall hm
    go_wp2_with fail
    refine hbad.mono ?_
    rintro e wt ⟨rfl, hb4⟩
    have hxt := Lib.hid (hxb.out.trans (hb4.mono hxb.out.size))
    clear hb4 hbad hcv hbw3'
    go_wp2_with fail
    refine (lhas_any s 34 (by omega) wt).mono ?_
    rintro e w9 ⟨rfl, hw9⟩
    rw [hw9, em]
    clear hw9 w9 em
    have hd0 : ∃ x : UInt8, 48 + n % 10 = (x.toNat : Int) ∧ dig x = true := dig_mk (by omega) (by omega)
    have hd1 : ∃ x : UInt8, 48 + n / 10 % 10 = (x.toNat : Int) ∧ dig x = true := dig_mk (by omega) (by omega)
    have hd2 : ∃ x : UInt8, 48 + n / 100 % 10 = (x.toNat : Int) ∧ dig x = true := dig_mk (by omega) (by omega)
    obtain ⟨x0, e0, g0⟩ := hd0
    obtain ⟨x1, e1, g1⟩ := hd1
    obtain ⟨x2, e2, g2⟩ := hd2
    obtain ⟨k, hk⟩ : ∃ k : Nat, n / 1000 % 4 = (k : Int) := ⟨(n / 1000 % 4).toNat, by omega⟩
    have hk3 : k ≤ 3 := by omega
    have hbs := bs_lit wt #[.int .u8 (x0.toNat : Int), .int .u8 (x1.toNat : Int), .int .u8 (x2.toNat : Int)] 5 (0, 0) [x0, x1, x2] 3 rfl (by omega) rfl
    have hbt := hxt.out.trans ((below_alloc wt (.cells #[.int .u8 (x0.toNat : Int), .int .u8 (x1.toNat : Int), .int .u8 (x2.toNat : Int)] 5)).mono hxt.out.size)
    obtain ⟨wd, hwd⟩ : ∃ wd, wt.alloc (.cells #[.int .u8 (x0.toNat : Int), .int .u8 (x1.toNat : Int), .int .u8 (x2.toNat : Int)] 5) = wd := ⟨_, rfl⟩
    rw [hwd] at hbs hbt
    have hxd := Lib.hid hbt
    have hcA : ∀ q, (convert 37 9 (.slice (some ⟨wt.heap.size, 0, none⟩) k 3)).run Tryd.prog (wd.drewN q) = .ok (.string (strOf ([x0, x1, x2].take k))) (wd.drewN q) := fun q => by
      have := (hbs.below (Joins.below_draws _ wd q)).cut 0 k (by omega) hk3 (some ⟨wt.heap.size, 0, none⟩) (by intro b off e _; injection e with e; injection e with e1 e2; subst e1 e2; rfl) (by intro h; cases h) (by intro _ h; cases h)
      exact this.conv Tryd.underlying37 Tryd.underlying5 Tryd.underlying9
    have hcB : ∀ q a, (k < 3 → a = (⟨wt.heap.size, k, none⟩ : Addr)) → (convert 37 9 (.slice (some a) (3 - k) (3 - k))).run Tryd.prog (wd.drewN q) = .ok (.string (strOf ([x0, x1, x2].drop k))) (wd.drewN q) := fun q a ha => by
      have := (hbs.below (Joins.below_draws _ wd q)).cut k 3 hk3 (by omega) (some a) (by intro b off e hk9; injection e with e; injection e with e1 e2; subst e1 e2; rw [ha hk9, Nat.zero_add]) (by intro h; cases h) (by intro _ h; cases h)
      rw [List.take_of_length_le (by simp)] at this
      exact this.conv Tryd.underlying37 Tryd.underlying5 Tryd.underlying9
    have hnum := all_number (a := [x0, x1, x2].take k) (b := [x0, x1, x2].drop k) (fun c hc => three_dig g0 g1 g2 (List.mem_of_mem_take hc)) (fun c hc => three_dig g0 g1 g2 (List.mem_of_mem_drop hc)) (by simp; omega)
    have hal : ([x0, x1, x2].take k).length = k := by simp; omega
    have hbl : ([x0, x1, x2].drop k).length = 3 - k := by simp
    obtain ⟨la, hla⟩ : ∃ la, [x0, x1, x2].take k = la := ⟨_, rfl⟩
    obtain ⟨lb, hlb⟩ : ∃ lb, [x0, x1, x2].drop k = lb := ⟨_, rfl⟩
    rw [hla] at hcA hnum hal
    rw [hlb] at hcB hnum hbl
    have b1 := fun w => add_str w la [46] _ (strOf la) ⟨#[46]⟩ rfl rfl rfl (by simp; omega)
    have b2 := fun w => add_str w (la ++ [46]) lb (la ++ 46 :: lb) (strOf (la ++ [46])) (strOf lb) rfl rfl (by simp) (by simp; omega)
    have hlen4 : (la ++ 46 :: lb).length ≤ 1000 := by simp; omega
    have hnum' := Lib.hid hnum
    obtain ⟨Y0, hY0⟩ : ∃ Z, strOf (la ++ [46]) = Z := ⟨_, rfl⟩
    rw [hY0] at b1 b2
    clear hY0 hnum hla hlb hal hbl hbs hbt g0 g1 g2
    go_wp2_with fail
    rw [hk]
    clear e0 e1 e2 hk hwd
    have q1 : (k : Int) ≤ 3 := by omega
    have q2 : 0 ≤ (k : Int) ∧ (k : Int) ≤ 3 := ⟨by omega, by omega⟩
    by_cases hk9 : k = 3
    · subst hk9
      have hcB2 := fun q => hcB q ⟨wt.heap.size, 0, none⟩ (by omega)
      clear hcB
      go_big_quiet (fail)
      have hxq := Lib.hid (hxd.out.trans ((Joins.below_draws _ wd nq).mono hxd.out.size))
      generalize wd.drewN nq = wq at hxq ⊢
      clear hcA hcB2 b1 b2
      go_wp2_with fail
      refine (All_any wq (la ++ 46 :: lb) hlen4 (hU.below hxq.out)).mono ?_
      intro e wy hy
      obtain ⟨hby, A9, m9, c9, rfl, ho9⟩ := hy.ok hnum'.out
      have hm9 := ho9.len
      simp only [List.length_cons, List.length_nil] at hm9
      subst hm9
      have hor := Lib.hid ho9.rt
      have hxy := Lib.hid (hxq.out.trans (hby.mono hxq.out.size))
      clear hby hy ho9
      go_wp2_with fail
      refine (Code_ok wy).mono ?_
      rintro e wz ⟨rfl, hbz⟩
      obtain ⟨g, off, p, rfl, hg, hp, k0, k1, k2⟩ := (hor.out.below hbz).at_ (k := 0) (by omega)
      have hxz := Lib.hid (hxy.out.trans (hbz.mono hxy.out.size))
      injection hp with hp
      subst hp
      simp only [Nat.zero_mul, Nat.add_zero] at k0 k1 k2
      have tq := fun w => tok_eq w 8 0 (strOf (la ++ 46 :: lb))
      clear hbz hor
      go_wp2_with fail
      go_ret
      exact ⟨rfl, hxz.out⟩
    · have hcB2 := fun q => hcB q ⟨wt.heap.size, k, none⟩ (fun _ => rfl)
      have hk8 : ¬ (3 : Nat) = k := fun h => hk9 h.symm
      clear hcB
      go_big_quiet (fail)
      have hxq := Lib.hid (hxd.out.trans ((Joins.below_draws _ wd nq).mono hxd.out.size))
      generalize wd.drewN nq = wq at hxq ⊢
      clear hcA hcB2 b1 b2
      go_wp2_with fail
      refine (All_any wq (la ++ 46 :: lb) hlen4 (hU.below hxq.out)).mono ?_
      intro e wy hy
      obtain ⟨hby, A9, m9, c9, rfl, ho9⟩ := hy.ok hnum'.out
      have hm9 := ho9.len
      simp only [List.length_cons, List.length_nil] at hm9
      subst hm9
      have hor := Lib.hid ho9.rt
      have hxy := Lib.hid (hxq.out.trans (hby.mono hxq.out.size))
      clear hby hy ho9
      go_wp2_with fail
      refine (Code_ok wy).mono ?_
      rintro e wz ⟨rfl, hbz⟩
      obtain ⟨g, off, p, rfl, hg, hp, k0, k1, k2⟩ := (hor.out.below hbz).at_ (k := 0) (by omega)
      have hxz := Lib.hid (hxy.out.trans (hbz.mono hxy.out.size))
      injection hp with hp
      subst hp
      simp only [Nat.zero_mul, Nat.add_zero] at k0 k1 k2
      have tq := fun w => tok_eq w 8 0 (strOf (la ++ 46 :: lb))
      clear hbz hor
      go_wp2_with fail
      go_ret
      exact ⟨rfl, hxz.out⟩
  · have i1 : decide (0 ≤ B) = false := by simp; omega
    have i2 : decide (B < 0) = true := by simp; omega
    have em : decide ((34 : UInt8) ∈ s) = false := by simpa using hm
    have hm1 := ho.len
    simp only [List.length_cons, List.length_nil] at hm1
    subst hm1
    have hor := Lib.hid ho.rt
    clear h3 hall hm ho
    go_wp2_with fail
    refine hbad.mono ?_
    rintro e w4 ⟨rfl, hb4⟩
    have hx4 := Lib.hid (hxb.out.trans (hb4.mono hxb.out.size))
    have hor4 := Lib.hid ((hor.out.below hbw3'.out).below hb4)
    clear hb4 hbad hcv hbw3' hor
    go_wp2_with fail
    refine (lhas_any s 34 (by omega) w4).mono ?_
    rintro e w9 ⟨rfl, hw9⟩
    rw [hw9, em]
    clear hw9 w9 em
    go_wp2_with fail
    refine (Code_ok w4).mono ?_
    rintro e wt ⟨rfl, hb5⟩
    have hxt := Lib.hid (hx4.out.trans (hb5.mono hx4.out.size))
    obtain ⟨g, off, p, rfl, hg, hp, k0, k1, k2⟩ := (hor4.out.below hb5).at_ (k := 0) (by omega)
    injection hp with hp
    subst hp
    simp only [Nat.zero_mul, Nat.add_zero] at k0 k1 k2
    have tq9 := fun w => tok_neq w 7 0 (strOf s)
    clear hb5 hor4
    have hd0 : ∃ x : UInt8, 48 + n % 10 = (x.toNat : Int) ∧ dig x = true := dig_mk (by omega) (by omega)
    have hd1 : ∃ x : UInt8, 48 + n / 10 % 10 = (x.toNat : Int) ∧ dig x = true := dig_mk (by omega) (by omega)
    have hd2 : ∃ x : UInt8, 48 + n / 100 % 10 = (x.toNat : Int) ∧ dig x = true := dig_mk (by omega) (by omega)
    obtain ⟨x0, e0, g0⟩ := hd0
    obtain ⟨x1, e1, g1⟩ := hd1
    obtain ⟨x2, e2, g2⟩ := hd2
    obtain ⟨k, hk⟩ : ∃ k : Nat, n / 1000 % 4 = (k : Int) := ⟨(n / 1000 % 4).toNat, by omega⟩
    have hk3 : k ≤ 3 := by omega
    have hbs := bs_lit wt #[.int .u8 (x0.toNat : Int), .int .u8 (x1.toNat : Int), .int .u8 (x2.toNat : Int)] 5 (0, 0) [x0, x1, x2] 3 rfl (by omega) rfl
    have hbt := hxt.out.trans ((below_alloc wt (.cells #[.int .u8 (x0.toNat : Int), .int .u8 (x1.toNat : Int), .int .u8 (x2.toNat : Int)] 5)).mono hxt.out.size)
    obtain ⟨wd, hwd⟩ : ∃ wd, wt.alloc (.cells #[.int .u8 (x0.toNat : Int), .int .u8 (x1.toNat : Int), .int .u8 (x2.toNat : Int)] 5) = wd := ⟨_, rfl⟩
    rw [hwd] at hbs hbt
    have hxd := Lib.hid hbt
    have hcA : ∀ q, (convert 37 9 (.slice (some ⟨wt.heap.size, 0, none⟩) k 3)).run Tryd.prog (wd.drewN q) = .ok (.string (strOf ([x0, x1, x2].take k))) (wd.drewN q) := fun q => by
      have := (hbs.below (Joins.below_draws _ wd q)).cut 0 k (by omega) hk3 (some ⟨wt.heap.size, 0, none⟩) (by intro b off e _; injection e with e; injection e with e1 e2; subst e1 e2; rfl) (by intro h; cases h) (by intro _ h; cases h)
      exact this.conv Tryd.underlying37 Tryd.underlying5 Tryd.underlying9
    have hcB : ∀ q a, (k < 3 → a = (⟨wt.heap.size, k, none⟩ : Addr)) → (convert 37 9 (.slice (some a) (3 - k) (3 - k))).run Tryd.prog (wd.drewN q) = .ok (.string (strOf ([x0, x1, x2].drop k))) (wd.drewN q) := fun q a ha => by
      have := (hbs.below (Joins.below_draws _ wd q)).cut k 3 hk3 (by omega) (some a) (by intro b off e hk9; injection e with e; injection e with e1 e2; subst e1 e2; rw [ha hk9, Nat.zero_add]) (by intro h; cases h) (by intro _ h; cases h)
      rw [List.take_of_length_le (by simp)] at this
      exact this.conv Tryd.underlying37 Tryd.underlying5 Tryd.underlying9
    have hnum := all_number (a := [x0, x1, x2].take k) (b := [x0, x1, x2].drop k) (fun c hc => three_dig g0 g1 g2 (List.mem_of_mem_take hc)) (fun c hc => three_dig g0 g1 g2 (List.mem_of_mem_drop hc)) (by simp; omega)
    have hal : ([x0, x1, x2].take k).length = k := by simp; omega
    have hbl : ([x0, x1, x2].drop k).length = 3 - k := by simp
    obtain ⟨la, hla⟩ : ∃ la, [x0, x1, x2].take k = la := ⟨_, rfl⟩
    obtain ⟨lb, hlb⟩ : ∃ lb, [x0, x1, x2].drop k = lb := ⟨_, rfl⟩
    rw [hla] at hcA hnum hal
    rw [hlb] at hcB hnum hbl
    have b1 := fun w => add_str w la [46] _ (strOf la) ⟨#[46]⟩ rfl rfl rfl (by simp; omega)
    have b2 := fun w => add_str w (la ++ [46]) lb (la ++ 46 :: lb) (strOf (la ++ [46])) (strOf lb) rfl rfl (by simp) (by simp; omega)
    have hlen4 : (la ++ 46 :: lb).length ≤ 1000 := by simp; omega
    have hnum' := Lib.hid hnum
    obtain ⟨Y0, hY0⟩ : ∃ Z, strOf (la ++ [46]) = Z := ⟨_, rfl⟩
    rw [hY0] at b1 b2
    clear hY0 hnum hla hlb hal hbl hbs hbt g0 g1 g2
    go_wp2_with fail
    rw [hk]
    clear e0 e1 e2 hk hwd
    have q1 : (k : Int) ≤ 3 := by omega
    have q2 : 0 ≤ (k : Int) ∧ (k : Int) ≤ 3 := ⟨by omega, by omega⟩
    by_cases hk9 : k = 3
    · subst hk9
      have hcB2 := fun q => hcB q ⟨wt.heap.size, 0, none⟩ (by omega)
      clear hcB
      go_big_quiet (fail)
      have hxq := Lib.hid (hxd.out.trans ((Joins.below_draws _ wd nq).mono hxd.out.size))
      generalize wd.drewN nq = wq at hxq ⊢
      clear hcA hcB2 b1 b2
      go_wp2_with fail
      refine (All_any wq (la ++ 46 :: lb) hlen4 (hU.below hxq.out)).mono ?_
      intro e wy hy
      obtain ⟨hby, A9, m9, c9, rfl, ho9⟩ := hy.ok hnum'.out
      have hm9 := ho9.len
      simp only [List.length_cons, List.length_nil] at hm9
      subst hm9
      have hor := Lib.hid ho9.rt
      have hxy := Lib.hid (hxq.out.trans (hby.mono hxq.out.size))
      clear hby hy ho9
      go_wp2_with fail
      refine (Code_ok wy).mono ?_
      rintro e wz ⟨rfl, hbz⟩
      obtain ⟨g, off, p, rfl, hg, hp, k0, k1, k2⟩ := (hor.out.below hbz).at_ (k := 0) (by omega)
      have hxz := Lib.hid (hxy.out.trans (hbz.mono hxy.out.size))
      injection hp with hp
      subst hp
      simp only [Nat.zero_mul, Nat.add_zero] at k0 k1 k2
      have tq := fun w => tok_eq w 8 0 (strOf (la ++ 46 :: lb))
      clear hbz hor
      go_wp2_with fail
      go_ret
      exact ⟨rfl, hxz.out⟩
    · have hcB2 := fun q => hcB q ⟨wt.heap.size, k, none⟩ (fun _ => rfl)
      have hk8 : ¬ (3 : Nat) = k := fun h => hk9 h.symm
      clear hcB
      go_big_quiet (fail)
      have hxq := Lib.hid (hxd.out.trans ((Joins.below_draws _ wd nq).mono hxd.out.size))
      generalize wd.drewN nq = wq at hxq ⊢
      clear hcA hcB2 b1 b2
      go_wp2_with fail
      refine (All_any wq (la ++ 46 :: lb) hlen4 (hU.below hxq.out)).mono ?_
      intro e wy hy
      obtain ⟨hby, A9, m9, c9, rfl, ho9⟩ := hy.ok hnum'.out
      have hm9 := ho9.len
      simp only [List.length_cons, List.length_nil] at hm9
      subst hm9
      have hor := Lib.hid ho9.rt
      have hxy := Lib.hid (hxq.out.trans (hby.mono hxq.out.size))
      clear hby hy ho9
      go_wp2_with fail
      refine (Code_ok wy).mono ?_
      rintro e wz ⟨rfl, hbz⟩
      obtain ⟨g, off, p, rfl, hg, hp, k0, k1, k2⟩ := (hor.out.below hbz).at_ (k := 0) (by omega)
      have hxz := Lib.hid (hxy.out.trans (hbz.mono hxy.out.size))
      injection hp with hp
      subst hp
      simp only [Nat.zero_mul, Nat.add_zero] at k0 k1 k2
      have tq := fun w => tok_eq w 8 0 (strOf (la ++ 46 :: lb))
      clear hbz hor
      go_wp2_with fail
      go_ret
      exact ⟨rfl, hxz.out⟩

set_option maxHeartbeats 4000000 in
set_option maxRecDepth 100000 in
theorem quotes_single (s : List UInt8) (n : Int) (hn0 : 0 ≤ n) (hn1 : n ≤ 4294967295) (hs : s.length ≤ 140737488351232) (w : World) (hU : Ut w) (hE : En w.heap.size w) :
    Calls Tryd.prog 5 #[.string (strOf s), .bool true, .int .u32 n] w fun e w' => e = .returned (.bool true) ∧ Below w.heap.size w w' := by
  have hsz : (strOf s).size = s.length := strOf_size' s
  go_enter Tryd.func5, Tryd.ntmps5
  go_wp2_with fail
  refine (awake_any w hU hE).mono ?_
  rintro e w1 ⟨rfl, hb1⟩
  have hx1 := Lib.hid hb1
  clear hb1
  by_cases hlen : 500 < s.length
  · have i0 : decide ((500 : Int) < (s.length : Int)) = true := by simp; omega
    go_wp2_with fail
    go_ret
    exact ⟨rfl, hx1.out⟩
  have i0 : decide ((500 : Int) < (s.length : Int)) = false := by simp; omega
  have hlen9 := Lib.hid hlen
  have hcv1 : ∀ ww : World, (convert 37 9 (.slice (some ⟨ww.heap.size, 0, none⟩) 1 1)).run Tryd.prog (ww.alloc (.cells #[.int .u8 39] 5)) = .ok (.string (strOf [39])) (ww.alloc (.cells #[.int .u8 39] 5)) := fun ww =>
    Bs.conv (bs_lit ww #[.int .u8 39] 5 (0, 0) [39] 1 rfl (by omega) rfl) Tryd.underlying37 Tryd.underlying5 Tryd.underlying9
  have h1 := hcv1 w1
  have h2 := hcv1 (w1.alloc (.cells #[.int .u8 39] 5))
  rw [show (w1.alloc (.cells #[.int .u8 39] 5)).heap.size = w1.heap.size + 1 from by simp] at h2
  have a1 := fun w => add_str w [39] s _ _ _ rfl rfl rfl (by simp; omega)
  have a2 := fun w => add_str w ([39] ++ s) [39] _ (strOf ([39] ++ s)) _ rfl rfl rfl (by simp; omega)
  have hx2 := Lib.hid ((hx1.out.trans ((below_alloc w1 (.cells #[.int .u8 39] 5)).mono hx1.out.size)).alloc (by have := hx1.out.size; simp; omega) (.cells #[.int .u8 39] 5))
  clear hcv1
  obtain ⟨Z0, hZ0⟩ : ∃ Z, strOf [39] = Z := ⟨_, rfl⟩
  obtain ⟨Z1, hZ1⟩ : ∃ Z, strOf ([39] ++ s) = Z := ⟨_, rfl⟩
  rw [hZ0] at h1 h2 a1 a2
  rw [hZ1] at a1 a2
  clear hZ0 hZ1
  go_wp2_with fail
  clear h1 h2 a1 a2
  generalize (w1.alloc _).alloc _ = w2 at hx2 ⊢
  refine (All_any w2 (39 :: (s ++ [39])) (by simp; omega) (hU.below hx2.out)).mono ?_
  intro e w3 h3
  have hall := all_quote (q := 39) (by decide) (show s.length ≤ 500 by omega)
  obtain ⟨hbs3, hbw3⟩ := bs_convert w3 (strOf s) (by omega)
  have hcv : (convert 9 37 (.string (strOf s))).run Tryd.prog w3 = .ok (.slice (some ⟨w3.heap.size, 0, none⟩) (strOf s).size (grownCap w3 (strOf s).size 0 5)) (Lib.bytesWorld w3 5 (strOf s)) :=
    Lib.run_convert_string_bytes w3 9 37 5 (strOf s) Tryd.underlying9 Tryd.underlying37 Tryd.underlying5
  obtain ⟨cb, hcb⟩ : ∃ cb, grownCap w3 (strOf s).size 0 5 = cb := ⟨_, rfl⟩
  obtain ⟨wb, hwb⟩ : ∃ wb, Lib.bytesWorld w3 5 (strOf s) = wb := ⟨_, rfl⟩
  rw [hcb, hwb] at hcv
  rw [hcb, hwb] at hbs3
  rw [hwb] at hbw3
  clear hcb hwb
  rw [hsz] at hcv hbs3
  have hlst : (strOf s).data.toList = s := rfl
  rw [hlst] at hbs3
  have hxb := Lib.hid ((hx2.out.trans (h3.1.mono hx2.out.size)).trans (hbw3.mono (hx2.out.trans (h3.1.mono hx2.out.size)).size))
  have hbw3' := Lib.hid hbw3
  have hbad := refBad_any _ _ cb s (by omega) wb hbs3
  obtain ⟨B, hB⟩ : ∃ B, badW s 0 = B := ⟨_, rfl⟩
  have hBle : Hid (B + 1 ≤ 1000) := Lib.hid (by rw [← hB]; have := badW_le s s.length 0 (by omega); have := hlen9.out; omega)
  rw [hB] at hall hbad
  clear hlst hbw3 hbs3 hB hlen
  have hlen : s.length ≤ 500 := by have := hlen9.out; omega
  rcases qway hall h3 with ⟨hB0, v, ws, rfl, hf⟩ | ⟨hB0, hm, hor⟩ | ⟨hB0, hm, A, m, c, rfl, ho⟩
  · have i1 : decide (0 ≤ B) = true := by simp; omega
    have i2 : decide (B < 0) = false := by simp; omega
    obtain ⟨T, ad, rfl⟩ := hf.iface
    have hf' := Lib.hid hf
    clear h3 hall hf
    go_wp2_with fail
    refine hbad.mono ?_
    rintro e w4 ⟨rfl, hb4⟩
    have hx4 := Lib.hid (hxb.out.trans (hb4.mono hxb.out.size))
    have f4 := Lib.hid (Fe.later (Fe.later hf'.out hbw3'.out) hb4)
    clear hb4 hf' hbad hcv hbw3'
    go_wp2_with fail
    refine (Code_any 1 (B + 1) ws _ w.heap.size w4 (hE.on hx4.out) f4.out).mono ?_
    rintro e w5 ⟨rfl, hb5⟩
    have hx5 := Lib.hid (hx4.out.trans (hb5.mono hx4.out.size))
    have f5 := Lib.hid (Fe.later f4.out hb5)
    clear hb5 f4
    go_wp2_with fail
    refine (At_any 1 (B + 1) ws _ w.heap.size w5 (hE.on hx5.out) f5.out).mono ?_
    rintro e wt ⟨rfl, hb6⟩
    have hxt := Lib.hid (hx5.out.trans (hb6.mono hx5.out.size))
    clear hb6 f5
    have i3 : B + 1 ≤ 1000 := hBle.out
    have hd0 : ∃ x : UInt8, 48 + n % 10 = (x.toNat : Int) ∧ dig x = true := dig_mk (by omega) (by omega)
    have hd1 : ∃ x : UInt8, 48 + n / 10 % 10 = (x.toNat : Int) ∧ dig x = true := dig_mk (by omega) (by omega)
    have hd2 : ∃ x : UInt8, 48 + n / 100 % 10 = (x.toNat : Int) ∧ dig x = true := dig_mk (by omega) (by omega)
    obtain ⟨x0, e0, g0⟩ := hd0
    obtain ⟨x1, e1, g1⟩ := hd1
    obtain ⟨x2, e2, g2⟩ := hd2
    obtain ⟨k, hk⟩ : ∃ k : Nat, n / 1000 % 4 = (k : Int) := ⟨(n / 1000 % 4).toNat, by omega⟩
    have hk3 : k ≤ 3 := by omega
    have hbs := bs_lit wt #[.int .u8 (x0.toNat : Int), .int .u8 (x1.toNat : Int), .int .u8 (x2.toNat : Int)] 5 (0, 0) [x0, x1, x2] 3 rfl (by omega) rfl
    have hbt := hxt.out.trans ((below_alloc wt (.cells #[.int .u8 (x0.toNat : Int), .int .u8 (x1.toNat : Int), .int .u8 (x2.toNat : Int)] 5)).mono hxt.out.size)
    obtain ⟨wd, hwd⟩ : ∃ wd, wt.alloc (.cells #[.int .u8 (x0.toNat : Int), .int .u8 (x1.toNat : Int), .int .u8 (x2.toNat : Int)] 5) = wd := ⟨_, rfl⟩
    rw [hwd] at hbs hbt
    have hxd := Lib.hid hbt
    have hcA : ∀ q, (convert 37 9 (.slice (some ⟨wt.heap.size, 0, none⟩) k 3)).run Tryd.prog (wd.drewN q) = .ok (.string (strOf ([x0, x1, x2].take k))) (wd.drewN q) := fun q => by
      have := (hbs.below (Joins.below_draws _ wd q)).cut 0 k (by omega) hk3 (some ⟨wt.heap.size, 0, none⟩) (by intro b off e _; injection e with e; injection e with e1 e2; subst e1 e2; rfl) (by intro h; cases h) (by intro _ h; cases h)
      exact this.conv Tryd.underlying37 Tryd.underlying5 Tryd.underlying9
    have hcB : ∀ q a, (k < 3 → a = (⟨wt.heap.size, k, none⟩ : Addr)) → (convert 37 9 (.slice (some a) (3 - k) (3 - k))).run Tryd.prog (wd.drewN q) = .ok (.string (strOf ([x0, x1, x2].drop k))) (wd.drewN q) := fun q a ha => by
      have := (hbs.below (Joins.below_draws _ wd q)).cut k 3 hk3 (by omega) (some a) (by intro b off e hk9; injection e with e; injection e with e1 e2; subst e1 e2; rw [ha hk9, Nat.zero_add]) (by intro h; cases h) (by intro _ h; cases h)
      rw [List.take_of_length_le (by simp)] at this
      exact this.conv Tryd.underlying37 Tryd.underlying5 Tryd.underlying9
    have hnum := all_number (a := [x0, x1, x2].take k) (b := [x0, x1, x2].drop k) (fun c hc => three_dig g0 g1 g2 (List.mem_of_mem_take hc)) (fun c hc => three_dig g0 g1 g2 (List.mem_of_mem_drop hc)) (by simp; omega)
    have hal : ([x0, x1, x2].take k).length = k := by simp; omega
    have hbl : ([x0, x1, x2].drop k).length = 3 - k := by simp
    obtain ⟨la, hla⟩ : ∃ la, [x0, x1, x2].take k = la := ⟨_, rfl⟩
    obtain ⟨lb, hlb⟩ : ∃ lb, [x0, x1, x2].drop k = lb := ⟨_, rfl⟩
    rw [hla] at hcA hnum hal
    rw [hlb] at hcB hnum hbl
    have b1 := fun w => add_str w la [46] _ (strOf la) ⟨#[46]⟩ rfl rfl rfl (by simp; omega)
    have b2 := fun w => add_str w (la ++ [46]) lb (la ++ 46 :: lb) (strOf (la ++ [46])) (strOf lb) rfl rfl (by simp) (by simp; omega)
    have hlen4 : (la ++ 46 :: lb).length ≤ 1000 := by simp; omega
    have hnum' := Lib.hid hnum
    obtain ⟨Y0, hY0⟩ : ∃ Z, strOf (la ++ [46]) = Z := ⟨_, rfl⟩
    rw [hY0] at b1 b2
    clear hY0 hnum hla hlb hal hbl hbs hbt g0 g1 g2
    go_wp2_with fail
    rw [hk]
    clear e0 e1 e2 hk hwd
    have q1 : (k : Int) ≤ 3 := by omega
    have q2 : 0 ≤ (k : Int) ∧ (k : Int) ≤ 3 := ⟨by omega, by omega⟩
    by_cases hk9 : k = 3
    · subst hk9
      have hcB2 := fun q => hcB q ⟨wt.heap.size, 0, none⟩ (by omega)
      clear hcB
      go_big_quiet (fail)
      have hxq := Lib.hid (hxd.out.trans ((Joins.below_draws _ wd nq).mono hxd.out.size))
      generalize wd.drewN nq = wq at hxq ⊢
      clear hcA hcB2 b1 b2
      go_wp2_with fail
      refine (All_any wq (la ++ 46 :: lb) hlen4 (hU.below hxq.out)).mono ?_
      intro e wy hy
      obtain ⟨hby, A9, m9, c9, rfl, ho9⟩ := hy.ok hnum'.out
      have hm9 := ho9.len
      simp only [List.length_cons, List.length_nil] at hm9
      subst hm9
      have hor := Lib.hid ho9.rt
      have hxy := Lib.hid (hxq.out.trans (hby.mono hxq.out.size))
      clear hby hy ho9
      go_wp2_with fail
      refine (Code_ok wy).mono ?_
      rintro e wz ⟨rfl, hbz⟩
      obtain ⟨g, off, p, rfl, hg, hp, k0, k1, k2⟩ := (hor.out.below hbz).at_ (k := 0) (by omega)
      have hxz := Lib.hid (hxy.out.trans (hbz.mono hxy.out.size))
      injection hp with hp
      subst hp
      simp only [Nat.zero_mul, Nat.add_zero] at k0 k1 k2
      have tq := fun w => tok_eq w 8 0 (strOf (la ++ 46 :: lb))
      clear hbz hor
      go_wp2_with fail
      go_ret
      exact ⟨rfl, hxz.out⟩
    · have hcB2 := fun q => hcB q ⟨wt.heap.size, k, none⟩ (fun _ => rfl)
      have hk8 : ¬ (3 : Nat) = k := fun h => hk9 h.symm
      clear hcB
      go_big_quiet (fail)
      have hxq := Lib.hid (hxd.out.trans ((Joins.below_draws _ wd nq).mono hxd.out.size))
      generalize wd.drewN nq = wq at hxq ⊢
      clear hcA hcB2 b1 b2
      go_wp2_with fail
      refine (All_any wq (la ++ 46 :: lb) hlen4 (hU.below hxq.out)).mono ?_
      intro e wy hy
      obtain ⟨hby, A9, m9, c9, rfl, ho9⟩ := hy.ok hnum'.out
      have hm9 := ho9.len
      simp only [List.length_cons, List.length_nil] at hm9
      subst hm9
      have hor := Lib.hid ho9.rt
      have hxy := Lib.hid (hxq.out.trans (hby.mono hxq.out.size))
      clear hby hy ho9
      go_wp2_with fail
      refine (Code_ok wy).mono ?_
      rintro e wz ⟨rfl, hbz⟩
      obtain ⟨g, off, p, rfl, hg, hp, k0, k1, k2⟩ := (hor.out.below hbz).at_ (k := 0) (by omega)
      have hxz := Lib.hid (hxy.out.trans (hbz.mono hxy.out.size))
      injection hp with hp
      subst hp
      simp only [Nat.zero_mul, Nat.add_zero] at k0 k1 k2
      have tq := fun w => tok_eq w 8 0 (strOf (la ++ 46 :: lb))
      clear hbz hor
      go_wp2_with fail
      go_ret
      exact ⟨rfl, hxz.out⟩
  · obtain ⟨A, m, c, v, rfl⟩ := hor
    have i1 : decide (0 ≤ B) = false := by simp; omega
    have i2 : decide (B < 0) = true := by simp; omega
    have em : decide ((39 : UInt8) ∈ s) = true := by simpa using hm
    clear h3 hall hm
    go_wp2_with fail
    refine hbad.mono ?_
    rintro e wt ⟨rfl, hb4⟩
    have hxt := Lib.hid (hxb.out.trans (hb4.mono hxb.out.size))
    clear hb4 hbad hcv hbw3'
    go_wp2_with fail
    refine (lhas_any s 39 (by omega) wt).mono ?_
    rintro e w9 ⟨rfl, hw9⟩
    rw [hw9, em]
    clear hw9 w9 em
    have hd0 : ∃ x : UInt8, 48 + n % 10 = (x.toNat : Int) ∧ dig x = true := dig_mk (by omega) (by omega)
    have hd1 : ∃ x : UInt8, 48 + n / 10 % 10 = (x.toNat : Int) ∧ dig x = true := dig_mk (by omega) (by omega)
    have hd2 : ∃ x : UInt8, 48 + n / 100 % 10 = (x.toNat : Int) ∧ dig x = true := dig_mk (by omega) (by omega)
    obtain ⟨x0, e0, g0⟩ := hd0
    obtain ⟨x1, e1, g1⟩ := hd1
    obtain ⟨x2, e2, g2⟩ := hd2
    obtain ⟨k, hk⟩ : ∃ k : Nat, n / 1000 % 4 = (k : Int) := ⟨(n / 1000 % 4).toNat, by omega⟩
    have hk3 : k ≤ 3 := by omega
    have hbs := bs_lit wt #[.int .u8 (x0.toNat : Int), .int .u8 (x1.toNat : Int), .int .u8 (x2.toNat : Int)] 5 (0, 0) [x0, x1, x2] 3 rfl (by omega) rfl
    have hbt := hxt.out.trans ((below_alloc wt (.cells #[.int .u8 (x0.toNat : Int), .int .u8 (x1.toNat : Int), .int .u8 (x2.toNat : Int)] 5)).mono hxt.out.size)
    obtain ⟨wd, hwd⟩ : ∃ wd, wt.alloc (.cells #[.int .u8 (x0.toNat : Int), .int .u8 (x1.toNat : Int), .int .u8 (x2.toNat : Int)] 5) = wd := ⟨_, rfl⟩
    rw [hwd] at hbs hbt
    have hxd := Lib.hid hbt
    have hcA : ∀ q, (convert 37 9 (.slice (some ⟨wt.heap.size, 0, none⟩) k 3)).run Tryd.prog (wd.drewN q) = .ok (.string (strOf ([x0, x1, x2].take k))) (wd.drewN q) := fun q => by
      have := (hbs.below (Joins.below_draws _ wd q)).cut 0 k (by omega) hk3 (some ⟨wt.heap.size, 0, none⟩) (by intro b off e _; injection e with e; injection e with e1 e2; subst e1 e2; rfl) (by intro h; cases h) (by intro _ h; cases h)
      exact this.conv Tryd.underlying37 Tryd.underlying5 Tryd.underlying9
    have hcB : ∀ q a, (k < 3 → a = (⟨wt.heap.size, k, none⟩ : Addr)) → (convert 37 9 (.slice (some a) (3 - k) (3 - k))).run Tryd.prog (wd.drewN q) = .ok (.string (strOf ([x0, x1, x2].drop k))) (wd.drewN q) := fun q a ha => by
      have := (hbs.below (Joins.below_draws _ wd q)).cut k 3 hk3 (by omega) (some a) (by intro b off e hk9; injection e with e; injection e with e1 e2; subst e1 e2; rw [ha hk9, Nat.zero_add]) (by intro h; cases h) (by intro _ h; cases h)
      rw [List.take_of_length_le (by simp)] at this
      exact this.conv Tryd.underlying37 Tryd.underlying5 Tryd.underlying9
    have hnum := all_number (a := [x0, x1, x2].take k) (b := [x0, x1, x2].drop k) (fun c hc => three_dig g0 g1 g2 (List.mem_of_mem_take hc)) (fun c hc => three_dig g0 g1 g2 (List.mem_of_mem_drop hc)) (by simp; omega)
    have hal : ([x0, x1, x2].take k).length = k := by simp; omega
    have hbl : ([x0, x1, x2].drop k).length = 3 - k := by simp
    obtain ⟨la, hla⟩ : ∃ la, [x0, x1, x2].take k = la := ⟨_, rfl⟩
    obtain ⟨lb, hlb⟩ : ∃ lb, [x0, x1, x2].drop k = lb := ⟨_, rfl⟩
    rw [hla] at hcA hnum hal
    rw [hlb] at hcB hnum hbl
    have b1 := fun w => add_str w la [46] _ (strOf la) ⟨#[46]⟩ rfl rfl rfl (by simp; omega)
    have b2 := fun w => add_str w (la ++ [46]) lb (la ++ 46 :: lb) (strOf (la ++ [46])) (strOf lb) rfl rfl (by simp) (by simp; omega)
    have hlen4 : (la ++ 46 :: lb).length ≤ 1000 := by simp; omega
    have hnum' := Lib.hid hnum
    obtain ⟨Y0, hY0⟩ : ∃ Z, strOf (la ++ [46]) = Z := ⟨_, rfl⟩
    rw [hY0] at b1 b2
    clear hY0 hnum hla hlb hal hbl hbs hbt g0 g1 g2
    go_wp2_with fail
    rw [hk]
    clear e0 e1 e2 hk hwd
    have q1 : (k : Int) ≤ 3 := by omega
    have q2 : 0 ≤ (k : Int) ∧ (k : Int) ≤ 3 := ⟨by omega, by omega⟩
    by_cases hk9 : k = 3
    · subst hk9
      have hcB2 := fun q => hcB q ⟨wt.heap.size, 0, none⟩ (by omega)
      clear hcB
      go_big_quiet (fail)
      have hxq := Lib.hid (hxd.out.trans ((Joins.below_draws _ wd nq).mono hxd.out.size))
      generalize wd.drewN nq = wq at hxq ⊢
      clear hcA hcB2 b1 b2
      go_wp2_with fail
      refine (All_any wq (la ++ 46 :: lb) hlen4 (hU.below hxq.out)).mono ?_
      intro e wy hy
      obtain ⟨hby, A9, m9, c9, rfl, ho9⟩ := hy.ok hnum'.out
      have hm9 := ho9.len
      simp only [List.length_cons, List.length_nil] at hm9
      subst hm9
      have hor := Lib.hid ho9.rt
      have hxy := Lib.hid (hxq.out.trans (hby.mono hxq.out.size))
      clear hby hy ho9
      go_wp2_with fail
      refine (Code_ok wy).mono ?_
      rintro e wz ⟨rfl, hbz⟩
      obtain ⟨g, off, p, rfl, hg, hp, k0, k1, k2⟩ := (hor.out.below hbz).at_ (k := 0) (by omega)
      have hxz := Lib.hid (hxy.out.trans (hbz.mono hxy.out.size))
      injection hp with hp
      subst hp
      simp only [Nat.zero_mul, Nat.add_zero] at k0 k1 k2
      have tq := fun w => tok_eq w 8 0 (strOf (la ++ 46 :: lb))
      clear hbz hor
      go_wp2_with fail
      go_ret
      exact ⟨rfl, hxz.out⟩
    · have hcB2 := fun q => hcB q ⟨wt.heap.size, k, none⟩ (fun _ => rfl)
      have hk8 : ¬ (3 : Nat) = k := fun h => hk9 h.symm
      clear hcB
      go_big_quiet (fail)
      have hxq := Lib.hid (hxd.out.trans ((Joins.below_draws _ wd nq).mono hxd.out.size))
      generalize wd.drewN nq = wq at hxq ⊢
      clear hcA hcB2 b1 b2
      go_wp2_with fail
      refine (All_any wq (la ++ 46 :: lb) hlen4 (hU.below hxq.out)).mono ?_
      intro e wy hy
      obtain ⟨hby, A9, m9, c9, rfl, ho9⟩ := hy.ok hnum'.out
      have hm9 := ho9.len
      simp only [List.length_cons, List.length_nil] at hm9
      subst hm9
      have hor := Lib.hid ho9.rt
      have hxy := Lib.hid (hxq.out.trans (hby.mono hxq.out.size))
      clear hby hy ho9
      go_wp2_with fail
      refine (Code_ok wy).mono ?_
      rintro e wz ⟨rfl, hbz⟩
      obtain ⟨g, off, p, rfl, hg, hp, k0, k1, k2⟩ := (hor.out.below hbz).at_ (k := 0) (by omega)
      have hxz := Lib.hid (hxy.out.trans (hbz.mono hxy.out.size))
      injection hp with hp
      subst hp
      simp only [Nat.zero_mul, Nat.add_zero] at k0 k1 k2
      have tq := fun w => tok_eq w 8 0 (strOf (la ++ 46 :: lb))
      clear hbz hor
      go_wp2_with fail
      go_ret
      exact ⟨rfl, hxz.out⟩
  · have i1 : decide (0 ≤ B) = false := by simp; omega
    have i2 : decide (B < 0) = true := by simp; omega
    have em : decide ((39 : UInt8) ∈ s) = false := by simpa using hm
    have hm1 := ho.len
    simp only [List.length_cons, List.length_nil] at hm1
    subst hm1
    have hor := Lib.hid ho.rt
    clear h3 hall hm ho
    go_wp2_with fail
    refine hbad.mono ?_
    rintro e w4 ⟨rfl, hb4⟩
    have hx4 := Lib.hid (hxb.out.trans (hb4.mono hxb.out.size))
    have hor4 := Lib.hid ((hor.out.below hbw3'.out).below hb4)
    clear hb4 hbad hcv hbw3' hor
    go_wp2_with fail
    refine (lhas_any s 39 (by omega) w4).mono ?_
    rintro e w9 ⟨rfl, hw9⟩
    rw [hw9, em]
    clear hw9 w9 em
    go_wp2_with fail
    refine (Code_ok w4).mono ?_
    rintro e wt ⟨rfl, hb5⟩
    have hxt := Lib.hid (hx4.out.trans (hb5.mono hx4.out.size))
    obtain ⟨g, off, p, rfl, hg, hp, k0, k1, k2⟩ := (hor4.out.below hb5).at_ (k := 0) (by omega)
    injection hp with hp
    subst hp
    simp only [Nat.zero_mul, Nat.add_zero] at k0 k1 k2
    have tq9 := fun w => tok_neq w 7 0 (strOf s)
    clear hb5 hor4
    have hd0 : ∃ x : UInt8, 48 + n % 10 = (x.toNat : Int) ∧ dig x = true := dig_mk (by omega) (by omega)
    have hd1 : ∃ x : UInt8, 48 + n / 10 % 10 = (x.toNat : Int) ∧ dig x = true := dig_mk (by omega) (by omega)
    have hd2 : ∃ x : UInt8, 48 + n / 100 % 10 = (x.toNat : Int) ∧ dig x = true := dig_mk (by omega) (by omega)
    obtain ⟨x0, e0, g0⟩ := hd0
    obtain ⟨x1, e1, g1⟩ := hd1
    obtain ⟨x2, e2, g2⟩ := hd2
    obtain ⟨k, hk⟩ : ∃ k : Nat, n / 1000 % 4 = (k : Int) := ⟨(n / 1000 % 4).toNat, by omega⟩
    have hk3 : k ≤ 3 := by omega
    have hbs := bs_lit wt #[.int .u8 (x0.toNat : Int), .int .u8 (x1.toNat : Int), .int .u8 (x2.toNat : Int)] 5 (0, 0) [x0, x1, x2] 3 rfl (by omega) rfl
    have hbt := hxt.out.trans ((below_alloc wt (.cells #[.int .u8 (x0.toNat : Int), .int .u8 (x1.toNat : Int), .int .u8 (x2.toNat : Int)] 5)).mono hxt.out.size)
    obtain ⟨wd, hwd⟩ : ∃ wd, wt.alloc (.cells #[.int .u8 (x0.toNat : Int), .int .u8 (x1.toNat : Int), .int .u8 (x2.toNat : Int)] 5) = wd := ⟨_, rfl⟩
    rw [hwd] at hbs hbt
    have hxd := Lib.hid hbt
    have hcA : ∀ q, (convert 37 9 (.slice (some ⟨wt.heap.size, 0, none⟩) k 3)).run Tryd.prog (wd.drewN q) = .ok (.string (strOf ([x0, x1, x2].take k))) (wd.drewN q) := fun q => by
      have := (hbs.below (Joins.below_draws _ wd q)).cut 0 k (by omega) hk3 (some ⟨wt.heap.size, 0, none⟩) (by intro b off e _; injection e with e; injection e with e1 e2; subst e1 e2; rfl) (by intro h; cases h) (by intro _ h; cases h)
      exact this.conv Tryd.underlying37 Tryd.underlying5 Tryd.underlying9
    have hcB : ∀ q a, (k < 3 → a = (⟨wt.heap.size, k, none⟩ : Addr)) → (convert 37 9 (.slice (some a) (3 - k) (3 - k))).run Tryd.prog (wd.drewN q) = .ok (.string (strOf ([x0, x1, x2].drop k))) (wd.drewN q) := fun q a ha => by
      have := (hbs.below (Joins.below_draws _ wd q)).cut k 3 hk3 (by omega) (some a) (by intro b off e hk9; injection e with e; injection e with e1 e2; subst e1 e2; rw [ha hk9, Nat.zero_add]) (by intro h; cases h) (by intro _ h; cases h)
      rw [List.take_of_length_le (by simp)] at this
      exact this.conv Tryd.underlying37 Tryd.underlying5 Tryd.underlying9
    have hnum := all_number (a := [x0, x1, x2].take k) (b := [x0, x1, x2].drop k) (fun c hc => three_dig g0 g1 g2 (List.mem_of_mem_take hc)) (fun c hc => three_dig g0 g1 g2 (List.mem_of_mem_drop hc)) (by simp; omega)
    have hal : ([x0, x1, x2].take k).length = k := by simp; omega
    have hbl : ([x0, x1, x2].drop k).length = 3 - k := by simp
    obtain ⟨la, hla⟩ : ∃ la, [x0, x1, x2].take k = la := ⟨_, rfl⟩
    obtain ⟨lb, hlb⟩ : ∃ lb, [x0, x1, x2].drop k = lb := ⟨_, rfl⟩
    rw [hla] at hcA hnum hal
    rw [hlb] at hcB hnum hbl
    have b1 := fun w => add_str w la [46] _ (strOf la) ⟨#[46]⟩ rfl rfl rfl (by simp; omega)
    have b2 := fun w => add_str w (la ++ [46]) lb (la ++ 46 :: lb) (strOf (la ++ [46])) (strOf lb) rfl rfl (by simp) (by simp; omega)
    have hlen4 : (la ++ 46 :: lb).length ≤ 1000 := by simp; omega
    have hnum' := Lib.hid hnum
    obtain ⟨Y0, hY0⟩ : ∃ Z, strOf (la ++ [46]) = Z := ⟨_, rfl⟩
    rw [hY0] at b1 b2
    clear hY0 hnum hla hlb hal hbl hbs hbt g0 g1 g2
    go_wp2_with fail
    rw [hk]
    clear e0 e1 e2 hk hwd
    have q1 : (k : Int) ≤ 3 := by omega
    have q2 : 0 ≤ (k : Int) ∧ (k : Int) ≤ 3 := ⟨by omega, by omega⟩
    by_cases hk9 : k = 3
    · subst hk9
      have hcB2 := fun q => hcB q ⟨wt.heap.size, 0, none⟩ (by omega)
      clear hcB
      go_big_quiet (fail)
      have hxq := Lib.hid (hxd.out.trans ((Joins.below_draws _ wd nq).mono hxd.out.size))
      generalize wd.drewN nq = wq at hxq ⊢
      clear hcA hcB2 b1 b2
      go_wp2_with fail
      refine (All_any wq (la ++ 46 :: lb) hlen4 (hU.below hxq.out)).mono ?_
      intro e wy hy
      obtain ⟨hby, A9, m9, c9, rfl, ho9⟩ := hy.ok hnum'.out
      have hm9 := ho9.len
      simp only [List.length_cons, List.length_nil] at hm9
      subst hm9
      have hor := Lib.hid ho9.rt
      have hxy := Lib.hid (hxq.out.trans (hby.mono hxq.out.size))
      clear hby hy ho9
      go_wp2_with fail
      refine (Code_ok wy).mono ?_
      rintro e wz ⟨rfl, hbz⟩
      obtain ⟨g, off, p, rfl, hg, hp, k0, k1, k2⟩ := (hor.out.below hbz).at_ (k := 0) (by omega)
      have hxz := Lib.hid (hxy.out.trans (hbz.mono hxy.out.size))
      injection hp with hp
      subst hp
      simp only [Nat.zero_mul, Nat.add_zero] at k0 k1 k2
      have tq := fun w => tok_eq w 8 0 (strOf (la ++ 46 :: lb))
      clear hbz hor
      go_wp2_with fail
      go_ret
      exact ⟨rfl, hxz.out⟩
    · have hcB2 := fun q => hcB q ⟨wt.heap.size, k, none⟩ (fun _ => rfl)
      have hk8 : ¬ (3 : Nat) = k := fun h => hk9 h.symm
      clear hcB
      go_big_quiet (fail)
      have hxq := Lib.hid (hxd.out.trans ((Joins.below_draws _ wd nq).mono hxd.out.size))
      generalize wd.drewN nq = wq at hxq ⊢
      clear hcA hcB2 b1 b2
      go_wp2_with fail
      refine (All_any wq (la ++ 46 :: lb) hlen4 (hU.below hxq.out)).mono ?_
      intro e wy hy
      obtain ⟨hby, A9, m9, c9, rfl, ho9⟩ := hy.ok hnum'.out
      have hm9 := ho9.len
      simp only [List.length_cons, List.length_nil] at hm9
      subst hm9
      have hor := Lib.hid ho9.rt
      have hxy := Lib.hid (hxq.out.trans (hby.mono hxq.out.size))
      clear hby hy ho9
      go_wp2_with fail
      refine (Code_ok wy).mono ?_
      rintro e wz ⟨rfl, hbz⟩
      obtain ⟨g, off, p, rfl, hg, hp, k0, k1, k2⟩ := (hor.out.below hbz).at_ (k := 0) (by omega)
      have hxz := Lib.hid (hxy.out.trans (hbz.mono hxy.out.size))
      injection hp with hp
      subst hp
      simp only [Nat.zero_mul, Nat.add_zero] at k0 k1 k2
      have tq := fun w => tok_eq w 8 0 (strOf (la ++ 46 :: lb))
      clear hbz hor
      go_wp2_with fail
      go_ret
      exact ⟨rfl, hxz.out⟩
end Go.Proofs.YthiikldjngamaaaDoor.Qx
