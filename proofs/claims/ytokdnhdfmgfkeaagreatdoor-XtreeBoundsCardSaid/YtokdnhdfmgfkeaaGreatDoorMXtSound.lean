/- sound of the laws, at trees that are sound. Printed by xt_sound.py. -/
import Derived.Test.YtokdnhdfmgfkeaaGreatDoorMXtBnd
namespace Go.Proofs.YtokdnhdfmgfkeaaGreatDoor.Xt
open Go.RowKit UtfW Xl Xo

theorem soundL_get : ∀ {ks : List Nd} {p : Int} {i : Nat} {x : Nd}, soundL p ks = true → ks[i]? = some x → soundN x = true ∧ ∀ y, 0 < i → ks[i - 1]? = some y → ¬ (x.kind = 2 ∧ y.kind = 2)
  | [], p, i, x, _, h => by simp at h
  | z :: ks, p, 0, x, hs, h => by
    simp at h
    subst h
    rw [soundL] at hs
    simp only [Bool.and_eq_true] at hs
    exact ⟨hs.1.1, fun y h0 => absurd h0 (by decide)⟩
  | z :: ks, p, i + 1, x, hs, h => by
    rw [soundL] at hs
    simp only [Bool.and_eq_true] at hs
    rw [List.getElem?_cons_succ] at h
    obtain ⟨g1, g2⟩ := soundL_get hs.2 h
    refine ⟨g1, fun y _ hy => ?_⟩
    cases i with
    | zero =>
      simp at hy
      subst hy
      cases ks with
      | nil => simp at h
      | cons a ks =>
        simp at h
        subst h
        have h2 := hs.2
        rw [soundL] at h2
        simp only [Bool.and_eq_true, Bool.not_eq_true', Bool.and_eq_false_iff, decide_eq_false_iff_not] at h2
        rintro ⟨e1, e2⟩
        rcases h2.1.2 with h | h
        · exact h e1
        · exact h e2
    | succ i => exact g2 y (by omega) (by simpa using hy)
theorem writeL_get : ∀ {ks : List Nd} {i : Nat} {x : Nd}, ks[i]? = some x → (writeN x).length ≤ (writeL ks).length
  | [], i, x, h => by simp at h
  | z :: ks, 0, x, h => by
    simp at h
    subst h
    rw [writeL, List.length_append]
    omega
  | z :: ks, i + 1, x, h => by
    rw [List.getElem?_cons_succ] at h
    have := writeL_get h
    rw [writeL, List.length_append]
    omega
theorem writeN_kids {kd : Int} {nm tx : Tx} {as_ : List At} {ks : List Nd} (hk : kd = 1) : nm.length ≤ (writeN (.mk kd nm tx as_ ks)).length ∧ (writeL ks).length ≤ (writeN (.mk kd nm tx as_ ks)).length := by
  rw [writeN, if_pos hk]
  by_cases he : ks.isEmpty = true
  · rw [if_pos he, isEmpty_nil he, writeL]
    simp
    omega
  · rw [if_neg he]
    simp
    omega
set_option maxHeartbeats 8000000 in
set_option maxRecDepth 100000 in
theorem sound_any : ∀ (k : Nat) (X : Nat → Prop) (w : World) (vs : List Value) (n : Nd), SizeOf.sizeOf n ≤ k → NdI X w vs n → (∀ j, X j → j < w.heap.size) → soundN n = true → (writeN n).length ≤ 1000000 →
    Calls Tryz.prog 31 #[.agg vs.toArray] w fun e w' => e = .returned (.bool true) ∧ Below w.heap.size w w' := by
  intro k
  induction k with
  | zero =>
    intro X w vs n hk
    obtain ⟨kd, nm, tx, as_, ks⟩ := n
    simp at hk
  | succ k ih =>
    intro X w vs n hk hn hX hs hwr
    obtain ⟨kd, nm, tx, as_, ks⟩ := n
    obtain ⟨A, ca, A2, c2, rfl, hA, hK, -, -⟩ := hn.cells
    obtain ⟨la, hla⟩ : ∃ la, as_.length = la := ⟨_, rfl⟩
    obtain ⟨m, hm⟩ : ∃ m, ks.length = m := ⟨_, rfl⟩
    simp only [hla, hm] at hK ⊢
    have hba := below_alloc w (.cells #[.int .i64 kd, .string (strOf nm), .string (strOf tx), .slice A la ca, .slice A2 m c2] 25)
    have hnb := heap_alloc_new w (.cells #[.int .i64 kd, .string (strOf nm), .string (strOf tx), .slice A la ca, .slice A2 m c2] 25)
    replace ih := Lib.hid ih
    obtain ⟨T, hT⟩ : ∃ T, w.heap.size = T := ⟨_, rfl⟩
    obtain ⟨w1, hw1⟩ : ∃ w1, w.alloc (.cells #[.int .i64 kd, .string (strOf nm), .string (strOf tx), .slice A la ca, .slice A2 m c2] 25) = w1 := ⟨_, rfl⟩
    rw [hw1] at hba hnb
    rw [hT] at hnb
    have x0 : w1.cell? ⟨T, 0, none⟩ = some (.int .i64 kd) := cell_blk hnb rfl
    have x1 : w1.cell? ⟨T, 1, none⟩ = some (.string (strOf nm)) := cell_blk hnb rfl
    have x2 : w1.cell? ⟨T, 2, none⟩ = some (.string (strOf tx)) := cell_blk hnb rfl
    have x3 : w1.cell? ⟨T, 3, none⟩ = some (.slice A la ca) := cell_blk hnb rfl
    have x4 : w1.cell? ⟨T, 4, none⟩ = some (.slice A2 m c2) := cell_blk hnb rfl
    have hkid : Hid (∀ i x, ks[i]? = some x → SizeOf.sizeOf x ≤ k) := Lib.hid fun i x hx => by
      have := kid_lt (k := kd) (nm := nm) (tx := tx) (as_ := as_) hx
      omega
    have hXH := Lib.hid hX
    have hnbH := Lib.hid hnb
    have hbaH := Lib.hid hba
    have hKH := Lib.hid hK
    rw [soundN] at hs
    simp only [Bool.and_eq_true, Bool.not_eq_true', Bool.or_eq_false_iff, Bool.and_eq_false_iff, decide_eq_false_iff_not, Bool.not_eq_false', okKind, Bool.not_eq_eq_eq_not, Bool.not_true] at hs
    obtain ⟨⟨⟨⟨h1, h2⟩, h3⟩, h4⟩, h5⟩ := hs
    have h3 : 1 ≤ kd ∧ kd ≤ 4 := by simpa using h3
    clear hnb hX hA hn hk hba hK
    obtain ⟨S1, hS1⟩ : ∃ S, strOf nm = S := ⟨_, rfl⟩
    obtain ⟨S2, hS2⟩ : ∃ S, strOf tx = S := ⟨_, rfl⟩
    by_cases k1 : kd = 1
    · have hnm : nameR nm = true ∧ tx = [] := by
        rcases h1 with h1 | ⟨h1, h1'⟩
        · exact absurd k1 h1
        · exact ⟨h1, Classical.byContradiction fun e => h1' e⟩
      obtain ⟨hnm, htx⟩ := hnm
      have hl := writeN_kids (nm := nm) (tx := tx) (as_ := as_) (ks := ks) k1
      have hname := refName_any S1 (by rw [← hS1, strOf_size' nm]; omega) w1
      rw [show S1.data.toList = nm by rw [← hS1]; simp [strOf], hnm] at hname
      have hlk : Hid ((writeL ks).length ≤ 1000000) := Lib.hid (by omega)
      have e2 : S2.toList.isEmpty = true := by rw [← hS2, strOf_empty, htx]; rfl
      rw [hS1] at x1
      rw [hS2] at x2
      replace hname := Lib.hid hname
      have h5H := Lib.hid h5
      subst k1
      replace hm := Lib.hid hm
      clear h1 h2 h3 h4 h5 hl hwr hnm htx hS1 hS2
      go_enter Tryz.func31, Tryz.ntmps31
      go_wp2_with fail
      refine hname.out.mono ?_
      rintro e w2 ⟨rfl, hb2⟩
      have y0 := cell_keep x0 hb2
      have y2 := cell_keep x2 hb2
      have y3 := cell_keep x3 hb2
      have y4 := cell_keep x4 hb2
      replace hb2 := Lib.hid hb2
      go_wp2_with fail
      go_loopw [3] (fun v3 wr => ∃ i : Nat, i ≤ m ∧ v3 = .int .i64 (i : Nat) ∧ Hid (Below w2.heap.size w2 wr)) (fun v3 _ => m - (intOf v3).toNat)
      case atStart => exact ⟨0, Nat.zero_le _, rfl, Lib.hid (Below.refl _ _)⟩
      case round =>
        obtain ⟨i, hi, rfl, hb⟩ := hrel
        have hb12r := hb2.out.trans (hb.out.mono hb2.out.size)
        have hb0r := Lib.hid (hbaH.out.trans (hb12r.mono hbaH.out.size))
        have z4 := cell_keep y4 hb.out
        clear hb12r
        by_cases hlt : i < m
        · have i1 : decide ((i : Int) < (m : Int)) = true := by simp; omega
          have q1 : (i : Int) < (m : Int) := by omega
          have hKr := Sq.kept_ hKH.out hb0r.out (fun vs x h => NdI.later h hXH.out hb0r.out)
          have hmx := hKr.max
          have hle := hKr.le
          obtain ⟨b1, off1, x, vs1, rfl, hbl, hx1, _, hv1, hc1⟩ := hKr.at_ hlt
          have hszx := hkid.out i x hx1
          obtain ⟨sx1, sx2⟩ := soundL_get h5H.out hx1
          have hwx := writeL_get hx1
          have hX1 : ∀ j, X j → j < wr.heap.size := fun j hj => Nat.lt_of_lt_of_le (hXH.out j hj) hb0r.out.size
          have hrec := Lib.hid (ih.out X wr _ _ hszx hv1 hX1 sx1 (by have := hlk.out; omega))
          obtain ⟨xk, xn, xt, xa, xs⟩ := x
          obtain ⟨Ax, cax, A2x, c2x, rfl, -⟩ := hv1.cells
          have m0 := hc1 0 _ rfl
          have m1 := hc1 1 _ rfl
          have m2 := hc1 2 _ rfl
          have m3 := hc1 3 _ rfl
          have m4 := hc1 4 _ rfl
          rw [Nat.add_zero] at m0
          by_cases h0 : i = 0
          · have g1 : decide ((0 : Int) < (i : Int)) = false := by simp; omega
            have g0 : decide ((i : Int) > 0) = false := by simp; omega
            have g2 : decide (0 < i) = false := by simp; omega
            clear hKr hv1 hc1 hX1 hszx sx1 sx2 hwx hbl h0
            go_wp2_with fail
            refine hrec.out.mono ?_
            rintro e w5 ⟨rfl, hb5⟩
            have hw5 := Lib.hid (hb.out.trans (hb5.mono hb.out.size))
            clear hb5 m0 m1 m2 m3 m4
            go_wp2_with fail
            go_roundw
            case rel => exact ⟨i + 1, by omega, by go_num, hw5⟩
            case measure => simp [intOf]; omega
          · have g0 : decide ((i : Int) > 0) = true := by simp; omega
            have g1 : decide ((0 : Int) < (i : Int)) = true := by simp; omega
            have g2 : decide (0 < i) = true := by simp; omega
            obtain ⟨j, rfl⟩ : ∃ j, i = j + 1 := ⟨i - 1, by omega⟩
            obtain ⟨b2, off2, y, vs2, eb, _, hy1, _, hvy, hcy⟩ := hKr.at_ (i := j) (by omega)
            injection eb with eb
            injection eb with eb1 eb2 _
            subst eb1
            subst eb2
            have sx3 := sx2 y (by omega) (by simpa using hy1)
            obtain ⟨yk, yn, yt, ya, ys⟩ := y
            obtain ⟨Ay, cay, A2y, c2y, rfl, -⟩ := hvy.cells
            have p0 := hcy 0 _ rfl
            rw [Nat.add_zero] at p0
            have sx3 : ¬ (xk = 2 ∧ yk = 2) := sx3
            have q9 : (j : Int) < (m : Int) := by omega
            clear hKr hv1 hc1 hX1 hszx sx1 sx2 hwx hvy hcy hy1 hx1
            by_cases xk2 : xk = 2
            · have yk2 : (yk == 2) = false := by simpa using fun e => sx3 ⟨xk2, e⟩
              have xk3 : (xk == 2) = true := by simpa using xk2
              clear sx3 xk2
              go_wp2_with fail
              refine hrec.out.mono ?_
              rintro e w5 ⟨rfl, hb5⟩
              have hw5 := Lib.hid (hb.out.trans (hb5.mono hb.out.size))
              have m0' := cell_keep m0 hb5
              have p0' := cell_keep p0 hb5
              have z4' := cell_keep z4 hb5
              clear hb5 m0 m1 m2 m3 m4 p0 z4
              go_wp2_with fail
              go_roundw
              case rel => exact ⟨j + 1 + 1, by omega, by go_num, hw5⟩
              case measure => simp [intOf]; omega
            · have xk3 : (xk == 2) = false := by simpa using xk2
              clear sx3 xk2
              go_wp2_with fail
              refine hrec.out.mono ?_
              rintro e w5 ⟨rfl, hb5⟩
              have hw5 := Lib.hid (hb.out.trans (hb5.mono hb.out.size))
              have m0' := cell_keep m0 hb5
              have z4' := cell_keep z4 hb5
              clear hb5 m0 m1 m2 m3 m4 p0 z4
              go_wp2_with fail
              go_roundw
              case rel => exact ⟨j + 1 + 1, by omega, by go_num, hw5⟩
              case measure => simp [intOf]; omega
        · have i1 : decide ((i : Int) < (m : Int)) = false := by simp; omega
          go_wp2_with fail
          (try simp only [Exit.inBlock, Exit.then])
          go_ret
          exact ⟨rfl, hb0r.out⟩
    · have k1' : (kd == 1) = false := by simpa using k1
      have k1n : (kd != 1) = true := by simpa using k1
      have hks : ks = [] := by
        rcases h4 with h4 | h4
        · exact absurd k1 h4
        · exact Classical.byContradiction fun e => h4 (.inl e)
      have has : as_ = [] := by
        rcases h4 with h4 | h4
        · exact absurd k1 h4
        · exact Classical.byContradiction fun e => h4 (.inr e)
      have hm0 : m = 0 := by rw [← hm, hks]; rfl
      have hla0 : la = 0 := by rw [← hla, has]; rfl
      clear hkid hKH
      subst hm0
      subst hla0
      clear hks has hm hla h5
      rw [hS1] at x1
      rw [hS2] at x2
      have d1 : decide (kd < 1) = false := by simp; omega
      have d2 : decide (kd > 4) = false := by simp; omega
      have d3 : decide ((4 : Int) < kd) = false := by simp; omega
      by_cases k2 : kd = 2
      · have htx : tx ≠ [] := by
          rcases h2 with h2 | h2
          · exact absurd k2 h2
          · exact h2
        have e2 : S2.toList.isEmpty = false := by
          rw [← hS2, strOf_empty]
          cases htt : tx with
          | nil => exact absurd htt htx
          | cons c t => rfl
        subst k2
        clear h1 h2 h3 h4 hwr htx hS1 hS2 k1 k1' k1n d1 d2 d3
        go_enter Tryz.func31, Tryz.ntmps31
        go_wp2_with fail
        go_loopw [3] (fun v3 wr => v3 = .int .i64 0 ∧ Hid (Below w1.heap.size w1 wr)) (fun v3 _ => 0)
        case atStart => exact ⟨rfl, Lib.hid (Below.refl _ _)⟩
        case round =>
          obtain ⟨rfl, hb⟩ := hrel
          have z4 := cell_keep x4 hb.out
          have hfin := Lib.hid (hbaH.out.trans (hb.out.mono hbaH.out.size))
          have i1 : decide ((0 : Int) < ((0 : Nat) : Int)) = false := by decide
          go_wp2_with fail
          (try simp only [Exit.inBlock, Exit.then])
          go_ret
          exact ⟨rfl, hfin.out⟩
      · have k2' : (kd == 2) = false := by simpa using k2
        clear h1 h2 h4 hwr hS1 hS2 k2 h3 k1
        go_enter Tryz.func31, Tryz.ntmps31
        go_wp2_with fail
        go_loopw [3] (fun v3 wr => v3 = .int .i64 0 ∧ Hid (Below w1.heap.size w1 wr)) (fun v3 _ => 0)
        case atStart => exact ⟨rfl, Lib.hid (Below.refl _ _)⟩
        case round =>
          obtain ⟨rfl, hb⟩ := hrel
          have z4 := cell_keep x4 hb.out
          have hfin := Lib.hid (hbaH.out.trans (hb.out.mono hbaH.out.size))
          have i1 : decide ((0 : Int) < ((0 : Nat) : Int)) = false := by decide
          go_wp2_with fail
          (try simp only [Exit.inBlock, Exit.then])
          go_ret
          exact ⟨rfl, hfin.out⟩
end Go.Proofs.YtokdnhdfmgfkeaaGreatDoor.Xt
