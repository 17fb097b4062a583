/- Whether a manifest may be: the document's. -/
import Derived.Test.YtfdpnjebhllpkaaGreatDoorMManGenLaw
import Derived.Deep.QuietTactic
import Derived.BigQuiet
import Derived.Deep.DeepCutAuto
import Derived.Lib.SmallJoins
section
namespace Go.Proofs.YtfdpnjebhllpkaaGreatDoor.Ma
open Go.RowKit Go.Shelf

/-- A slice of ints that reads as a list. -/
def Is (w : World) (A : Option Addr) (n c : Nat) (ss : List Int) : Prop := Rd w A n c (ss.map (Value.int .i64))

theorem Is.len {w : World} {A : Option Addr} {n c : Nat} {ss : List Int} (h : Is w A n c ss) : ss.length = n := by simpa using Rd.len h
theorem Is.below {w w' : World} {A : Option Addr} {n c : Nat} {ss : List Int} (h : Is w A n c ss) (hb : Below w.heap.size w w') : Is w' A n c ss := Rd.below h hb
theorem Is.at_ {w : World} {A : Option Addr} {n c k : Nat} {ss : List Int} (h : Is w A n c ss) (hk : k < n) :
    ∃ b off, ∃ x : Int, A = some ⟨b, off, none⟩ ∧ b < w.heap.size ∧ ss[k]? = some x ∧ w.cell? ⟨b, off + k, none⟩ = some (.int .i64 x) := by
  obtain ⟨b, off, u, e, hb, hx, hc⟩ := Rd.at_ h hk
  rw [List.getElem?_map, Option.map_eq_some_iff] at hx
  obtain ⟨x, hx2, rfl⟩ := hx
  exact ⟨b, off, x, e, hb, hx2, hc⟩

/-- What one segment's number must be at its place. -/
def seg1 (ss : List Int) (i : Nat) : Bool := okN (ss[i]?.getD 0) && (decide (i = 0) || decide (ss[i - 1]?.getD 0 < ss[i]?.getD 0))
def segsTo (ss : List Int) : Nat → Bool
  | 0 => true
  | k + 1 => segsTo ss k && seg1 ss k

/-- Whether a manifest may be. -/
def mayM (g la : Int) (ss : List Int) : Bool := okN g && (decide (0 ≤ la ∧ la ≤ 200 ∧ 1 ≤ ss.length ∧ ss.length ≤ 64) && segsTo ss ss.length)

theorem segsTo_false {ss : List Int} {k n : Nat} (h : segsTo ss k = false) (hk : k ≤ n) : segsTo ss n = false := by
  induction n with
  | zero =>
    obtain rfl : k = 0 := by omega
    exact h
  | succ n ih =>
    by_cases e : k = n + 1
    · rw [← e]; exact h
    · rw [segsTo, ih (by omega)]
      rfl

/-- A manifest's three cells, at a block. -/
def Mf (w : World) (b : Nat) (g la : Int) (A : Option Addr) (n c : Nat) : Prop :=
  w.cell? ⟨b, 0, none⟩ = some (.int .i64 g) ∧ w.cell? ⟨b, 1, none⟩ = some (.int .i64 la) ∧ w.cell? ⟨b, 2, none⟩ = some (.slice A n c) ∧ b < w.heap.size

theorem Mf.below {w w' : World} {b : Nat} {g la : Int} {A : Option Addr} {n c : Nat} (h : Mf w b g la A n c) (hb : Below w.heap.size w w') : Mf w' b g la A n c := by
  obtain ⟨h0, h1, h2, h3⟩ := h
  exact ⟨by rw [hb.cell h3]; exact h0, by rw [hb.cell h3]; exact h1, by rw [hb.cell h3]; exact h2, Nat.lt_of_lt_of_le h3 hb.size⟩

theorem mf_new (w : World) (g la : Int) (A : Option Addr) (n c : Nat) (E : TypeId) : Mf (w.alloc (.cells #[.int .i64 g, .int .i64 la, .slice A n c] E)) w.heap.size g la A n c :=
  ⟨World.cell?_alloc_at _ _ _ _ rfl, World.cell?_alloc_at _ _ _ _ rfl, World.cell?_alloc_at _ _ _ _ rfl, by simp⟩

theorem name_isEmpty (p : List UInt8) (hp : p ≠ []) (n : Int) : (strOf (nameOf p n)).toList.isEmpty = !okN n := by
  rw [strOf_empty]
  unfold nameOf
  cases h : okN n
  · rfl
  · rw [if_pos rfl]
    cases p with
    | nil => exact absurd rfl hp
    | cons a r => rfl

set_option maxHeartbeats 4000000 in
set_option maxRecDepth 100000 in
/-- man.May. -/
theorem manMay_any (g la : Int) (A : Option Addr) (n c : Nat) (ss : List Int) (w : World) (hT : Nu.Tens w) (hI : Is w A n c ss) :
    Calls Tryz.prog 151 #[.agg #[.int .i64 g, .int .i64 la, .slice A n c]] w fun e w' => e = .returned (.bool (mayM g la ss)) ∧ Below w.heap.size w w' := by
  have hn := hI.len
  have hle := Rd.le hI
  have hm := Rd.max hI
  obtain ⟨R, hR⟩ : ∃ R, mayM g la ss = R := ⟨_, rfl⟩
  have hR2 := hR
  unfold mayM at hR2
  rw [hn] at hR2
  rw [hR]
  clear hR
  have hE := name_isEmpty [109, 97, 110, 46] (by simp) g
  have hN := manName_any g
  obtain ⟨S, hS⟩ : ∃ S, strOf (nameOf [109, 97, 110, 46] g) = S := ⟨_, rfl⟩
  rw [hS] at hE hN
  clear hS
  have hn' := Lib.hid hn
  clear hn
  have hb0 := below_alloc w (.cells #[.int .i64 g, .int .i64 la, .slice A n c] 75)
  go_enter Tryz.func151, Tryz.ntmps151
  go_wp2_with fail
  refine (hN _ (hT.below hb0)).mono ?_
  rintro e w1 ⟨rfl, hb1⟩
  have hm1 := (mf_new w g la A n c 75).below hb1
  have hx1 := Lib.hid (hb0.trans (hb1.mono hb0.size))
  have hI1 := Lib.hid (hI.below hx1.out)
  clear hb1 hb0 hN hI
  obtain ⟨k0, k1, k2, hsz1⟩ := hm1
  cases hok : okN g
  · have hr : R = false := by rw [← hR2, hok, Bool.false_and]
    subst hr
    rw [hok, Bool.not_false] at hE
    go_wp2_with fail
    go_ret
    exact ⟨rfl, hx1.out⟩
  · rw [hok, Bool.not_true] at hE
    rw [hok, Bool.true_and] at hR2
    by_cases hb : 0 ≤ la ∧ la ≤ 200 ∧ 1 ≤ n ∧ n ≤ 64
    case neg =>
      have hr : R = false := by rw [← hR2, decide_eq_false hb, Bool.false_and]
      subst hr
      clear hR2
      have hb' := Lib.hid hb
      clear hb
      by_cases b1 : la < 0
      · have t1 : decide (la < 0) = true := by simp; omega
        go_wp2_with fail
        go_ret
        exact ⟨rfl, hx1.out⟩
      have t1 : decide (la < 0) = false := by simp; omega
      by_cases b2 : 200 < la
      · have t2 : decide ((200 : Int) < la) = true := by simp; omega
        go_wp2_with fail
        go_ret
        exact ⟨rfl, hx1.out⟩
      have t2 : decide ((200 : Int) < la) = false := by simp; omega
      by_cases b3 : n < 1
      · have t3 : decide ((n : Int) < 1) = true := by simp; omega
        go_wp2_with fail
        go_ret
        exact ⟨rfl, hx1.out⟩
      have t3 : decide ((n : Int) < 1) = false := by simp; omega
      have t4 : decide ((64 : Int) < (n : Int)) = true := by have := hb'.out; simp; omega
      go_wp2_with fail
      go_ret
      exact ⟨rfl, hx1.out⟩
    case pos =>
      have hr : R = segsTo ss n := by rw [← hR2, decide_eq_true hb, Bool.true_and]
      have hr' := Lib.hid hr
      clear hr hR2
      obtain ⟨b1, b2, b3, b4⟩ := hb
      have t1 : decide (la < 0) = false := by simp; omega
      have t2 : decide ((200 : Int) < la) = false := by simp; omega
      have t3 : decide ((n : Int) < 1) = false := by simp; omega
      have t4 : decide ((64 : Int) < (n : Int)) = false := by simp; omega
      go_wp2_with fail
      go_loopw [34] (fun v wr => ∃ k : Nat, k ≤ n ∧ v = .int .i64 (k : Nat) ∧ Hid (segsTo ss k = true) ∧ Hid (Below w1.heap.size w1 wr)) (fun v _ => n - (intOf v).toNat)
      case atStart => exact ⟨0, by omega, rfl, Lib.hid rfl, Lib.hid (Below.refl _ _)⟩
      case round =>
        obtain ⟨k, hk, rfl, hs, hbr⟩ := hrel
        have hxr := Lib.hid (hx1.out.trans (hbr.out.mono hx1.out.size))
        by_cases hlt : k < n
        · have i0 : decide ((k : Int) < (n : Int)) = true := by simp; omega
          have i1 : (k : Int) < (n : Int) := by omega
          obtain ⟨b, off, x, rfl, hbl, hxk, hck⟩ := (hI1.out.below hbr.out).at_ hlt
          have hgx : ss[k]?.getD 0 = x := by rw [hxk]; rfl
          have hEx := name_isEmpty [115, 101, 103, 46] (by simp) x
          have hNx := segName_any x
          obtain ⟨X, hX⟩ : ∃ X, strOf (nameOf [115, 101, 103, 46] x) = X := ⟨_, rfl⟩
          rw [hX] at hEx hNx
          have hseg : segsTo ss (k + 1) = (okN x && (decide (k = 0) || decide (ss[k - 1]?.getD 0 < x))) := by rw [segsTo, hs.out, Bool.true_and, seg1, hgx]
          have hseg' := Lib.hid hseg
          have hgx' := Lib.hid hgx
          clear hX hxk hgx hseg
          go_wp2_with fail
          refine (hNx wr (hT.below hxr.out)).mono ?_
          rintro e w2 ⟨rfl, hb2⟩
          have hbr2 := Lib.hid (hbr.out.trans (hb2.mono hbr.out.size))
          have hxr2 := Lib.hid (hx1.out.trans (hbr2.out.mono hx1.out.size))
          have m0 : w2.cell? ⟨w.heap.size, 0, none⟩ = some (.int .i64 g) := by rw [hbr2.out.cell hsz1]; exact k0
          have m1 : w2.cell? ⟨w.heap.size, 1, none⟩ = some (.int .i64 la) := by rw [hbr2.out.cell hsz1]; exact k1
          have m2 : w2.cell? ⟨w.heap.size, 2, none⟩ = some (.slice (some ⟨b, off, none⟩) n c) := by rw [hbr2.out.cell hsz1]; exact k2
          clear hb2 hNx
          cases hox : okN x
          · have hr : R = false := by
              rw [hr'.out]
              refine segsTo_false (k := k + 1) ?_ (by omega)
              rw [hseg'.out, hox, Bool.false_and]
            subst hr
            rw [hox, Bool.not_false] at hEx
            go_wp2_with fail
            go_ret
            exact ⟨rfl, hxr2.out⟩
          · rw [hox, Bool.not_true] at hEx
            by_cases h0 : k = 0
            · subst h0
              go_wp2_with fail
              go_roundw
              case rel => exact ⟨0 + 1, by omega, by go_num, Lib.hid (by rw [hseg'.out, hox]; rfl), hbr2⟩
              case measure => simp [intOf]; omega
            · have j0 : decide ((0 : Int) < (k : Int)) = true := by simp; omega
              obtain ⟨b', off', y, hy1, hbl2, hyk, hcy⟩ := (hI1.out.below hbr2.out).at_ (k := k - 1) (by omega)
              simp only [Option.some.injEq, Addr.mk.injEq, and_true] at hy1
              obtain ⟨rfl, rfl⟩ := hy1
              obtain ⟨q, rfl⟩ : ∃ q, k = q + 1 := ⟨k - 1, by omega⟩
              rw [Nat.add_sub_cancel] at hyk hcy
              have hgy : ss[q]?.getD 0 = y := by rw [hyk]; rfl
              have hseg2 : segsTo ss (q + 1 + 1) = decide (y < x) := by
                rw [hseg'.out, hox, Nat.add_sub_cancel, hgy, decide_eq_false h0]
                rfl
              have hseg2' := Lib.hid hseg2
              clear hyk hgy hseg2
              have q1 : (q : Int) < (n : Int) := by omega
              by_cases hxy : y < x
              · have j1 : decide (x ≤ y) = false := by simp; omega
                go_wp2_with fail
                go_roundw
                case rel => exact ⟨q + 1 + 1, by omega, by go_num, Lib.hid (by rw [hseg2'.out]; simp; exact hxy), hbr2⟩
                case measure => simp [intOf]; omega
              · have j1 : decide (x ≤ y) = true := by simp; omega
                have hr : R = false := by
                  rw [hr'.out]
                  refine segsTo_false (k := q + 1 + 1) ?_ (by omega)
                  rw [hseg2'.out]
                  simp
                  omega
                subst hr
                go_wp2_with fail
                go_ret
                exact ⟨rfl, hxr2.out⟩
        · have i0 : decide ((k : Int) < (n : Int)) = false := by simp; omega
          obtain rfl : k = n := by omega
          have hr : R = true := by rw [hr'.out]; exact hs.out
          subst hr
          go_wp2_with fail
          go_ret
          exact ⟨rfl, hxr.out⟩
end Go.Proofs.YtfdpnjebhllpkaaGreatDoor.Ma
end

section
namespace Go.Proofs.YtfdpnjebhllpkaaGreatDoor.Ma
open Go.RowKit Go.Shelf

theorem Mf.draws {w : World} {b : Nat} {g la : Int} {A : Option Addr} {n c : Nat} (h : Mf w b g la A n c) (p : Nat) : Mf (w.drewN p) b g la A n c := h.below (Joins.below_draws _ _ _)

set_option maxHeartbeats 4000000 in
set_option maxRecDepth 100000 in
/-- The document's May. -/
theorem refMay_any (g la : Int) (A : Option Addr) (n c : Nat) (ss : List Int) (w : World) (hI : Is w A n c ss) :
    Calls Tryz.prog 44 #[.agg #[.int .i64 g, .int .i64 la, .slice A n c]] w fun e w' => e = .returned (.bool (mayM g la ss)) ∧ Below w.heap.size w w' := by
  have hn := hI.len
  have hle := Rd.le hI
  have hm := Rd.max hI
  obtain ⟨R, hR⟩ : ∃ R, mayM g la ss = R := ⟨_, rfl⟩
  have hR2 := hR
  unfold mayM at hR2
  rw [hn, ← Bool.and_assoc] at hR2
  rw [hR]
  clear hR
  have hn' := Lib.hid hn
  clear hn
  obtain ⟨B, hB⟩ : ∃ B, (okN g && decide (0 ≤ la ∧ la ≤ 200 ∧ 1 ≤ n ∧ n ≤ 64)) = B := ⟨_, rfl⟩
  rw [hB] at hR2
  have hR' := Lib.hid hR2
  clear hR2
  have hm0 := mf_new w g la A n c 75
  have hb0 := below_alloc w (.cells #[.int .i64 g, .int .i64 la, .slice A n c] 75)
  go_enter Tryz.func44, Tryz.ntmps44
  obtain ⟨w1, hw1⟩ : ∃ w1, w.alloc (.cells #[.int .i64 g, .int .i64 la, .slice A n c] 75) = w1 := ⟨_, rfl⟩
  have hI1 := Lib.hid (hI.below hb0)
  rw [hw1] at hm0 hb0 hI1
  have hx1 := Lib.hid hb0
  clear hb0 hI
  obtain ⟨k0, k1, k2, hsz1⟩ := hm0
  have hm1 : Hid (Mf w1 w.heap.size g la A n c) := Lib.hid ⟨k0, k1, k2, hsz1⟩
  go_upto_region 1 with fail
  go_cut [3] (fun v wx => v = .bool B ∧ wx = w1)
  case first =>
    go_wp2_with fail
    refine (may7_any g _).mono ?_
    rintro e w2 ⟨rfl, rfl⟩
    cases hok : okN g
    · have hBf : B = false := by rw [← hB, hok, Bool.false_and]
      go_wp2_with fail
      all_goals (go_meet; exact ⟨val_bool hBf.symm, rfl⟩)
    · rw [hok, Bool.true_and] at hB
      have hB' := Lib.hid hB
      clear hB
      go_wp2_with fail
      all_goals go_meet
      all_goals refine ⟨val_bool ?_, rfl⟩
      all_goals rw [← hB'.out, Bool.eq_iff_iff]
      all_goals simp
      all_goals omega
  case rest =>
    obtain ⟨rfl, hwx⟩ := hcut
    rw [hwx]
    clear hwx
    go_wp2_with fail
    clear k0 k1 k2 hw1 hB
    go_loopw [3, 4] (fun o v wr => ∃ k p : Nat, k ≤ n ∧ v = .int .i64 (k : Nat) ∧ o = .bool (B && segsTo ss k) ∧ wr = w1.drewN p) (fun _ v _ => n - (intOf v).toNat)
    case atStart => exact ⟨0, 0, by omega, rfl, by rw [segsTo, Bool.and_true], rfl⟩
    case round =>
      obtain ⟨k, p, hk, rfl, rfl, rfl⟩ := hrel
      have hmr := hm1.out.draws p
      have hIr := hI1.out.below (Joins.below_draws _ w1 p)
      have hxr := Lib.hid (hx1.out.trans ((Joins.below_draws _ w1 p).mono hx1.out.size))
      obtain ⟨wr, hwr⟩ : ∃ wr, w1.drewN p = wr := ⟨_, rfl⟩
      have hdr : ∀ q, wr.drewN q = w1.drewN (p + q) := fun q => by rw [← hwr, World.drewN_drewN]
      rw [hwr] at hmr hIr hxr ⊢
      have hdr' := Lib.hid hdr
      clear hdr hwr
      obtain ⟨k0, k1, k2, hsz⟩ := hmr
      by_cases hlt : k < n
      · have i0 : decide ((k : Int) < (n : Int)) = true := by simp; omega
        have i1 : (k : Int) < (n : Int) := by omega
        obtain ⟨b, off, x, rfl, hbl, hxk, hck⟩ := hIr.at_ hlt
        have hgx : ss[k]?.getD 0 = x := by rw [hxk]; rfl
        have hseg : (B && segsTo ss (k + 1)) = ((B && segsTo ss k) && (okN x && (decide (k = 0) || decide (ss[k - 1]?.getD 0 < x)))) := by rw [segsTo, seg1, hgx, Bool.and_assoc]
        obtain ⟨S, hS⟩ : ∃ S, (B && segsTo ss k) = S := ⟨_, rfl⟩
        rw [hS] at hseg ⊢
        have hseg' := Lib.hid hseg
        have hgx' := Lib.hid hgx
        clear hxk hgx hseg hS
        cases S
        · go_wp2_with fail
          go_quiet ((go_at_call 22; exact Calls.quiet_of_same (may7_any _ _)))
          go_wp2_with fail
          go_roundw
          case rel => exact ⟨k + 1, _, by omega, by go_num, val_bool (by rw [hseg'.out]; rfl), hdr'.out _⟩
          case measure => simp [intOf]; omega
        · by_cases h0 : k = 0
          · subst h0
            rw [Nat.add_zero] at hck
            cases hox : okN x
            · have hm7 : ∀ w, Calls Tryz.prog 22 #[.int .i64 x] w fun e w' => e = .returned (.bool false) ∧ w' = w := fun w => by
                have := may7_any x w
                rw [hox] at this
                exact this
              go_wp2_with fail
              go_quiet ((go_at_call 22; exact Calls.quiet_of_same (hm7 _)))
              go_wp2_with fail
              go_roundw
              case rel => exact ⟨0 + 1, _, by omega, by go_num, val_bool (by rw [hseg'.out, hox]; rfl), hdr'.out _⟩
              case measure => simp [intOf]; omega
            · have hm7 : ∀ w, Calls Tryz.prog 22 #[.int .i64 x] w fun e w' => e = .returned (.bool true) ∧ w' = w := fun w => by
                have := may7_any x w
                rw [hox] at this
                exact this
              go_wp2_with fail
              go_quiet ((go_at_call 22; exact Calls.quiet_of_same (hm7 _)))
              go_wp2_with fail
              go_roundw
              case rel => exact ⟨0 + 1, _, by omega, by go_num, val_bool (by rw [hseg'.out, hox]; rfl), hdr'.out _⟩
              case measure => simp [intOf]; omega
          · obtain ⟨q, rfl⟩ : ∃ q, k = q + 1 := ⟨k - 1, by omega⟩
            obtain ⟨b', off', y, hy1, hbl2, hyk, hcy⟩ := hIr.at_ (k := q) (by omega)
            simp only [Option.some.injEq, Addr.mk.injEq, and_true] at hy1
            obtain ⟨rfl, rfl⟩ := hy1
            have hgy : ss[q]?.getD 0 = y := by rw [hyk]; rfl
            have hseg2 : (B && segsTo ss (q + 1 + 1)) = (okN x && decide (y < x)) := by
              rw [hseg'.out, Nat.add_sub_cancel, hgy, decide_eq_false h0]
              rfl
            have hseg2' := Lib.hid hseg2
            clear hyk hgy hseg2
            have q1 : (q : Int) < (n : Int) := by omega
            have q2 : ((q : Int) + 1 == 0) = false := by rw [beq_eq_false_iff_ne]; omega
            have q3 : decide ((q : Int) + 1 = 0) = false := by simp; omega
            cases hox : okN x
            · have hm7 : ∀ w, Calls Tryz.prog 22 #[.int .i64 x] w fun e w' => e = .returned (.bool false) ∧ w' = w := fun w => by
                have := may7_any x w
                rw [hox] at this
                exact this
              go_wp2_with fail
              go_quiet ((go_at_call 22; exact Calls.quiet_of_same (hm7 _)))
              go_wp2_with fail
              go_roundw
              case rel => exact ⟨q + 1 + 1, _, by omega, by go_num, val_bool (by rw [hseg2'.out, hox]; rfl), hdr'.out _⟩
              case measure => simp [intOf]; omega
            · have hm7 : ∀ w, Calls Tryz.prog 22 #[.int .i64 x] w fun e w' => e = .returned (.bool true) ∧ w' = w := fun w => by
                have := may7_any x w
                rw [hox] at this
                exact this
              obtain ⟨Y, hY⟩ : ∃ Y, decide (y < x) = Y := ⟨_, rfl⟩
              go_wp2_with fail
              go_quiet ((go_at_call 22; exact Calls.quiet_of_same (hm7 _)))
              go_wp2_with fail
              go_roundw
              case rel => exact ⟨q + 1 + 1, _, by omega, by go_num, val_bool (by rw [hseg2'.out, hox, Bool.true_and, hY]), hdr'.out _⟩
              case measure => simp [intOf]; omega
      · have i0 : decide ((k : Int) < (n : Int)) = false := by simp; omega
        obtain rfl : k = n := by omega
        have hr := hR'.out
        go_wp2_with fail
        go_ret
        exact ⟨ret_bool hr, hxr.out⟩
end Go.Proofs.YtfdpnjebhllpkaaGreatDoor.Ma
end
