/- The law ManCleans. -/
import Derived.Test.YtfdpnjebhllpkaaGreatDoorMDkRb
import Derived.Test.YtfdpnjebhllpkaaGreatDoorMMnNewest
import Derived.Test.YtfdpnjebhllpkaaGreatDoorMMnLaw
import Derived.Test.YtfdpnjebhllpkaaGreatDoorMManAwake
import Derived.Test.YtfdpnjebhllpkaaGreatDoorMManMay2
import Derived.Test.YtfdpnjebhllpkaaGreatDoorMSgLasts
import Derived.Test.YtfdpnjebhllpkaaGreatDoorMMnClean
import Derived.Test.YtfdpnjebhllpkaaGreatDoorMDkRa
import Derived.Test.YtfdpnjebhllpkaaGreatDoorMSgGd
import Derived.Test.YtfdpnjebhllpkaaGreatDoorMDkLaw2
import Derived.Test.YtfdpnjebhllpkaaGreatDoorMErrWalk2
section
namespace Go.Proofs.YtfdpnjebhllpkaaGreatDoor.Mn
open Go.RowKit Dk Ma Sg

/-- An error of a manifest, and its code. -/
def Hxm (w : World) (cc g : Int) (e : Value) : Prop := (cc = 0 ∧ e = .nilIface) ∨ (cc ≠ 0 ∧ ErrB w cc g manT e)
section
variable {w w' : World} {cc g : Int} {e : Value}
theorem Hxm.fm (h : Hxm w cc g e) (hf : Fm w w') : Hxm w' cc g e := by
  rcases h with h | ⟨h1, b, b2, rfl, h2, h3⟩
  · exact .inl h
  · exact .inr ⟨h1, b, b2, rfl, hf _ _ _ _ h2 (by decide) (by decide), hf _ _ _ _ h3 (by decide) (by decide)⟩
theorem Hxm.below (h : Hxm w cc g e) (hb : Below w.heap.size w w') : Hxm w' cc g e := h.fm (Fm.below hb)
theorem Hxm.code {T : Nat} (h : Hxm w cc g e) (hE : Er.En T w) : Calls Tryz.prog 29 #[e] w fun e' w' => e' = .returned (.int .i64 cc) ∧ Below w.heap.size w w' := by
  rcases h with ⟨rfl, rfl⟩ | ⟨h1, h2⟩
  · exact Er.Code_ok w
  · exact Er.Code_any cc g [manT] e T w hE h2.fe
end

theorem writeM_may {d : D} {g la : Int} {ss : List Int} (h : mayM g la ss = true) : writeM d g la ss = write d (cod.enc (g, la, ss)) (cod.name (g, la, ss)) := by
  unfold writeM
  rw [if_pos h]
  rfl
theorem bd_writeM {d : D} {N U : Nat} (hG : Bd d N U) (g la : Int) (ss : List Int) : Bd (writeM d g la ss).2 (N + 5) (U + 300) := by
  unfold writeM
  split
  · rename_i h
    have := good.len (g, la, ss) h
    exact (hG.write _ _).mono (Nat.le_refl _) (by have : (encM g la ss).length ≤ 300 := this; omega)
  · exact hG.mono (by omega) (by omega)

/-- The first Write, on a new disk. -/
theorem sw_start {a b : Mf} (ha : cod.ok a) (hb : cod.ok b) (hlt : a.1 < b.1) : (write (new 32768) (cod.enc a) (cod.name a)).1 = 0 ∧ Sw cod a b (write (new 32768) (cod.enc a) (cod.name a)).2 := by
  have hne : cod.name b ≠ cod.name a := fun e => by
    have : a.1 = b.1 := (good.same a b ha hb).2 e.symm
    omega
  have hl := good.len a ha
  have hw := write_well (d := new 32768) (b := cod.enc a) rfl rfl (good.may_ a ha) rfl (by show 0 + _ ≤ 32768; omega) (by decide)
  have hc : (write (new 32768) (cod.enc a) (cod.name a)).1 = 0 := by rw [hw]
  refine ⟨hc, ?_⟩
  rcases write_ways (new 32768) (cod.enc a) (good.ne a ha) with ⟨_, h2, h3, h4⟩ | ⟨h1, _⟩
  · refine ⟨fun x f hx => ?_, h2, .inl ?_⟩
    · by_cases e1 : x = cod.name a
      · exact .inr (.inl e1)
      · by_cases e2 : x = tmp
        · exact .inl e2
        · rw [h4 x e1 e2] at hx
          cases hx
    · rw [h4 _ hne (good.ne b hb)]
      rfl
  · exact absurd hc h1

set_option maxHeartbeats 1000000 in
set_option maxRecDepth 100000 in
theorem refSame_ne (g la : Int) (A : Option Addr) (n c : Nat) (g2 la2 : Int) (A2 : Option Addr) (n2 c2 : Nat) (hne : g ≠ g2) (w : World) :
    Calls Tryz.prog 50 #[.agg #[.int .i64 g, .int .i64 la, .slice A n c], .agg #[.int .i64 g2, .int .i64 la2, .slice A2 n2 c2]] w fun e w' => e = .returned (.bool false) ∧ Below w.heap.size w w' := by
  have hb0 := below_alloc w (.cells #[.int .i64 g, .int .i64 la, .slice A n c] 75)
  have hb1 := below_alloc (w.alloc (.cells #[.int .i64 g, .int .i64 la, .slice A n c] 75)) (.cells #[.int .i64 g2, .int .i64 la2, .slice A2 n2 c2] 75)
  have hm0 := (mb_new w g la A n c).below hb1
  have hm1 := mb_new (w.alloc (.cells #[.int .i64 g, .int .i64 la, .slice A n c] 75)) g2 la2 A2 n2 c2
  have hx := hb0.trans (hb1.mono hb0.size)
  have hs1 : (w.alloc (.cells #[.int .i64 g, .int .i64 la, .slice A n c] 75)).heap.size = w.heap.size + 1 := by simp
  rw [hs1] at hm1
  obtain ⟨wz, hwz⟩ : ∃ wz, (w.alloc (.cells #[.int .i64 g, .int .i64 la, .slice A n c] 75)).alloc (.cells #[.int .i64 g2, .int .i64 la2, .slice A2 n2 c2] 75) = wz := ⟨_, rfl⟩
  rw [hwz] at hm0 hm1 hx
  clear hb0 hb1 hs1
  have hx' := Lib.hid hx
  have hgn : (g != g2) = true := by rw [bne_iff_ne]; exact hne
  clear hx hne
  go_enter Tryz.func50, Tryz.ntmps50
  go_upto_region 1 with fail
  obtain ⟨k0, k1, k2, _⟩ := hm0.mf
  obtain ⟨l0, l1, l2, _⟩ := hm1.mf
  go_wp2_with fail
  go_ret
  exact ⟨rfl, hx'.out⟩
end Go.Proofs.YtfdpnjebhllpkaaGreatDoor.Mn
end

section
namespace Go.Proofs.YtfdpnjebhllpkaaGreatDoor.Mn
open Go.RowKit Dk Ma Sg

theorem te_up' {T B : Nat} {w : World} (h : Te T w) (hle : T ≤ B) (hB : B ≤ w.heap.size) : Te B w := ⟨hB, fun w' hb => h.tab w' (hb.mono hle)⟩
theorem eb_up' {T B : Nat} {w : World} (h : Eb T w) (hle : T ≤ B) : Eb B w := ⟨h.ev, Nat.lt_of_lt_of_le h.syn hle, Nat.lt_of_lt_of_le h.rng hle⟩

set_option maxHeartbeats 8000000 in
set_option maxRecDepth 100000 in
theorem switches_law (ga la : Int) (Aa : Option Addr) (na ca : Nat) (sa : List Int) (gb lb : Int) (Ab : Option Addr) (nb cb : Nat) (sb : List Int) (A0 : Option Addr) (n0 c0 : Nat) (l0 : List Tr) (A1 : Option Addr) (n1 c1 : Nat) (l1 : List Tr) (W : World)
    (hE : Er.En W.heap.size W) (hEb : Eb W.heap.size W) (hIa : Is W Aa na ca sa) (hIb : Is W Ab nb cb sb) (hq0 : Sq TrEl 3 W A0 n0 c0 l0) (hq1 : Sq TrEl 3 W A1 n1 c1 l1) :
    Calls Tryz.prog 9 #[.agg #[.int .i64 ga, .int .i64 la, .slice Aa na ca], .agg #[.int .i64 gb, .int .i64 lb, .slice Ab nb cb], .agg #[.slice A0 n0 c0, .slice A1 n1 c1]] W fun e w' => e = .returned (.bool true) ∧ Below W.heap.size W w' := by
  have hb1 := below_alloc W (.cells #[.int .i64 ga, .int .i64 la, .slice Aa na ca] 75)
  have hm1 := mb_new W ga la Aa na ca
  have hb2 := below_alloc (W.alloc (.cells #[.int .i64 ga, .int .i64 la, .slice Aa na ca] 75)) (.cells #[.int .i64 gb, .int .i64 lb, .slice Ab nb cb] 75)
  have hm2 := mb_new (W.alloc (.cells #[.int .i64 ga, .int .i64 la, .slice Aa na ca] 75)) gb lb Ab nb cb
  have hb3 := below_alloc ((W.alloc (.cells #[.int .i64 ga, .int .i64 la, .slice Aa na ca] 75)).alloc (.cells #[.int .i64 gb, .int .i64 lb, .slice Ab nb cb] 75)) (.cells #[.slice A0 n0 c0, .slice A1 n1 c1] 91)
  have hm3 := heap_alloc_new ((W.alloc (.cells #[.int .i64 ga, .int .i64 la, .slice Aa na ca] 75)).alloc (.cells #[.int .i64 gb, .int .i64 lb, .slice Ab nb cb] 75)) (.cells #[.slice A0 n0 c0, .slice A1 n1 c1] 91)
  have hm1' := (hm1.below hb2).below hb3
  have hm2' := hm2.below hb3
  have hx3 := hb1.trans ((hb2.trans (hb3.mono (by simp))).mono (by simp))
  rw [World.size_alloc] at hm2'
  rw [World.size_alloc, World.size_alloc] at hm3
  obtain ⟨T, hT⟩ : ∃ T, W.heap.size = T := ⟨_, rfl⟩
  have hFat0 : Hid (∀ w', Below T W w' → Sq TrEl 3 w' A0 n0 c0 l0) := Lib.hid fun w' hb => hq0.below (fun _ _ h => h) (by rw [hT]; exact hb)
  have hFat1 : Hid (∀ w', Below T W w' → Sq TrEl 3 w' A1 n1 c1 l1) := Lib.hid fun w' hb => hq1.below (fun _ _ h => h) (by rw [hT]; exact hb)
  have hIat : Hid (∀ w', Below T W w' → Is w' Aa na ca sa) := Lib.hid fun w' hb => hIa.below (by rw [hT]; exact hb)
  have hIbt : Hid (∀ w', Below T W w' → Is w' Ab nb cb sb) := Lib.hid fun w' hb => hIb.below (by rw [hT]; exact hb)
  have hTe : Hid (∀ w', Below T W w' → Te T w') := Lib.hid fun w' hb => by have h1 := Te.of hE; rw [hT] at h1; exact h1.on hb
  have hEb' : Hid (∀ w', Below T W w' → Eb T w') := Lib.hid fun w' hb => by have h1 := hEb; rw [hT] at h1; exact h1.on hb
  have hEn : Hid (∀ w', Below T W w' → Er.En T w') := Lib.hid fun w' hb => by have h1 := hE; rw [hT] at h1; exact h1.on hb
  have hT' := Lib.hid hT
  have hl0 := hq0.len
  have hl1 := hq1.len
  have hla := hIa.len
  have hlb := hIb.len
  obtain ⟨w1, hw1⟩ : ∃ w1, ((W.alloc (.cells #[.int .i64 ga, .int .i64 la, .slice Aa na ca] 75)).alloc (.cells #[.int .i64 gb, .int .i64 lb, .slice Ab nb cb] 75)).alloc (.cells #[.slice A0 n0 c0, .slice A1 n1 c1] 91) = w1 := ⟨_, rfl⟩
  have hsz1 : w1.heap.size = T + 3 := by rw [← hw1, World.size_alloc, World.size_alloc, World.size_alloc, hT]
  rw [hw1, hT] at hm1' hm2' hm3
  rw [hw1, hT] at hx3
  have hx1 := Lib.hid hx3
  have q1 := Lib.hid hm1'
  have q2 := Lib.hid hm2'
  have q3 := Lib.hid hm3
  clear hb1 hm1 hb2 hm2 hb3 hm1' hm2' hm3 hx3 hE hEb hIa hIb hq0 hq1
  go_enter Tryz.func9, Tryz.ntmps9
  go_upto_region 1 with fail
  clear hw1 hT
  go_wp2_with fail
  refine (Ma.awake_any w1 (hTe.out _ hx1.out).tens).mono ?_
  rintro e w2 ⟨rfl, hb2⟩
  have hx2 := Lib.hid (hx1.out.trans (hb2.mono (by omega)))
  have q1b := Lib.hid (q1.out.below hb2)
  have q2b := Lib.hid (q2.out.below hb2)
  have q3b := Lib.hid (show w2.heap[T + 1 + 1]? = _ from (hb2.block (T + 1 + 1) (by omega)).trans q3.out)
  have hs2 := hb2.size
  clear hb2 q1 q2 q3
  obtain ⟨k0, k1, k2, _⟩ := q1b.out.mf
  go_wp2_with fail
  refine (refMay_any ga la Aa na ca sa w2 (hIat.out _ hx2.out)).mono ?_
  rintro e w3 ⟨rfl, hb3⟩
  have hx3 := Lib.hid (hx2.out.trans (hb3.mono (by omega)))
  have q1c := Lib.hid (q1b.out.below hb3)
  have q2c := Lib.hid (q2b.out.below hb3)
  have q3c := Lib.hid (show w3.heap[T + 1 + 1]? = _ from (hb3.block (T + 1 + 1) (by omega)).trans q3b.out)
  have hs3 := hb3.size
  clear hb3 q1b q2b q3b k0 k1 k2
  cases hma : mayM ga la sa with
  | false =>
    go_wp2_with fail
    go_ret
    exact ⟨rfl, by rw [hT'.out]; exact hx3.out⟩
  | true =>
  have hma' := Lib.hid hma
  clear hma
  obtain ⟨k0, k1, k2, _⟩ := q2c.out.mf
  go_wp2_with fail
  refine (refMay_any gb lb Ab nb cb sb w3 (hIbt.out _ hx3.out)).mono ?_
  rintro e w4 ⟨rfl, hb4⟩
  have hx4 := Lib.hid (hx3.out.trans (hb4.mono (by omega)))
  have q1d := Lib.hid (q1c.out.below hb4)
  have q2d := Lib.hid (q2c.out.below hb4)
  have q3d := Lib.hid (show w4.heap[T + 1 + 1]? = _ from (hb4.block (T + 1 + 1) (by omega)).trans q3c.out)
  have hs4 := hb4.size
  clear hb4 q1c q2c q3c k0 k1 k2
  cases hmb : mayM gb lb sb with
  | false =>
    go_wp2_with fail
    go_ret
    exact ⟨rfl, by rw [hT'.out]; exact hx4.out⟩
  | true =>
  have hmb' := Lib.hid hmb
  clear hmb
  obtain ⟨k0, k1, k2, _⟩ := q1d.out.mf
  obtain ⟨l0', l1', l2', _⟩ := q2d.out.mf
  have r0 : w4.cell? ⟨T + 1 + 1, 0, none⟩ = some (.slice A0 n0 c0) := cell_blk q3d.out rfl
  have r1 : w4.cell? ⟨T + 1 + 1, 1, none⟩ = some (.slice A1 n1 c1) := cell_blk q3d.out rfl
  by_cases hge : ga ≥ gb
  · have i0 : decide (ga ≥ gb) = true := decide_eq_true hge
    have i1 : decide (gb ≤ ga) = true := decide_eq_true hge
    go_wp2_with fail
    go_ret
    exact ⟨rfl, by rw [hT'.out]; exact hx4.out⟩
  have i0 : decide (ga ≥ gb) = false := decide_eq_false hge
  have i1 : decide (gb ≤ ga) = false := decide_eq_false hge
  have hlt : ga < gb := by omega
  by_cases h100 : 100 < n0
  · have j0 : decide ((100 : Int) < (n0 : Int)) = true := by rw [decide_eq_true_eq]; omega
    have j1 : decide (100 < n0) = true := by rw [decide_eq_true_eq]; omega
    clear hge
    go_wp2_with fail
    go_ret
    exact ⟨rfl, by rw [hT'.out]; exact hx4.out⟩
  have j0 : decide ((100 : Int) < (n0 : Int)) = false := by rw [decide_eq_false_iff_not]; omega
  have j1 : decide (100 < n0) = false := by rw [decide_eq_false_iff_not]; omega
  by_cases h101 : 100 < n1
  · have j2 : decide ((100 : Int) < (n1 : Int)) = true := by rw [decide_eq_true_eq]; omega
    have j3 : decide (100 < n1) = true := by rw [decide_eq_true_eq]; omega
    clear hge h100
    go_wp2_with fail
    go_ret
    exact ⟨rfl, by rw [hT'.out]; exact hx4.out⟩
  have j2 : decide ((100 : Int) < (n1 : Int)) = false := by rw [decide_eq_false_iff_not]; omega
  have j3 : decide (100 < n1) = false := by rw [decide_eq_false_iff_not]; omega
  have h100' := Lib.hid (show n0 ≤ 100 by omega)
  have h101' := Lib.hid (show n1 ≤ 100 by omega)
  have hlt' := Lib.hid hlt
  clear hge h100 h101 hlt
  go_wp2_with fail
  refine (New_any w4 32768).mono ?_
  rintro e w5 ⟨a, mb, rfl, hD5, hb5⟩
  obtain ⟨B, hB⟩ : ∃ B, w4.heap.size = B := ⟨_, rfl⟩
  have hTB : T + 3 ≤ B := by omega
  have hD5' : Hid (∃ L F tv, Da w5 B a mb L F tv (new 32768)) := Lib.hid ⟨[], fun _ => ⟨[], 0⟩, _, hD5.out B (fun _ => ⟨[], 0⟩) (by omega)⟩
  have hS5 : Hid (Sd B a mb (new 32768) w5 w5) := Lib.hid ⟨Below.refl _ _, Fm.refl _, hD5'.out⟩
  have hx5 := Lib.hid (hx4.out.trans (hb5.mono (by omega)))
  have q1e := Lib.hid (q1d.out.below hb5)
  have q2e := Lib.hid (q2d.out.below hb5)
  have q3e := Lib.hid (show w5.heap[T + 1 + 1]? = _ from (hb5.block (T + 1 + 1) (by omega)).trans q3d.out)
  have hB5 : B ≤ w5.heap.size := Sd.le hS5.out
  have hG0 := Bd.new 32768 (by omega)
  clear hb5 hD5 hD5' q1d q2d q3d k0 k1 k2 l0' l1' l2' r0 r1 hB
  obtain ⟨hc0, hsw0⟩ := sw_start (a := (ga, la, sa)) (b := (gb, lb, sb)) hma'.out hmb'.out hlt'.out
  rw [← writeM_may hma'.out] at hc0 hsw0
  have hwa := Write_any w5 B a mb 0 0 (new 32768) (Sc.of hS5.out) hG0 (by omega) (by omega) (te_up' (hTe.out _ hx5.out) (by omega) hB5) ga la Aa na ca sa (fun w' hb => hIat.out w' (hx5.out.trans (hb.mono (by omega))))
  have hG1 := bd_writeM hG0 ga la sa
  obtain ⟨X0, hX0⟩ : ∃ X0, writeM (new 32768) ga la sa = X0 := ⟨_, rfl⟩
  rw [hX0] at hc0 hsw0 hwa hG1
  obtain ⟨z0, d1⟩ := X0
  simp only at hc0 hsw0 hwa hG1
  subst hc0
  have hwa' := Lib.hid hwa
  have hsw1 := Lib.hid hsw0
  have hG1' := Lib.hid hG1
  obtain ⟨k0, k1, k2, _⟩ := q1e.out.mf
  clear hwa hsw0 hG1 hX0
  go_wp2_with fail
  refine hwa'.out.mono ?_
  rintro e w6 ⟨hst, er, rfl, hor⟩
  obtain ⟨_, rfl⟩ := hor.resolve_right (fun h => h.1 rfl)
  have hS6 := Lib.hid hst
  clear hst hor hwa' k0 k1 k2
  go_wp2_with fail
  refine (Er.Code_ok w6).mono ?_
  rintro e w7 ⟨rfl, hb7⟩
  have hS7 := Lib.hid (Sd.bel hS6.out hb7)
  clear hb7 hS6
  go_wp2_with fail
  go_loopw [8] (fun iv wr => ∃ (k : Nat) (d' : D), k ≤ 2 ∧ iv = .int .i64 k ∧ Hid (Sw cod (ga, la, sa) (gb, lb, sb) d') ∧ Hid (Bd d' 5 (300 * (k + 1))) ∧ Hid (Sd B a mb d' w5 wr)) (fun iv _ => 2 - (intOf iv).toNat)
  case atStart => exact ⟨0, d1, by omega, rfl, hsw1, Lib.hid (hG1'.out.mono (by omega) (by omega)), hS7⟩
  case round =>
    obtain ⟨k, d', hk, rfl, hsw, hG, hSr⟩ := hrel
    have hxr := Lib.hid (hx5.out.trans (hSr.out.1.mono (by omega)))
    by_cases hk2 : k < 2
    · have i3 : (k : Int) < (2 : Int) := by omega
      have i4 : decide ((k : Int) < (2 : Int)) = true := by rw [decide_eq_true_eq]; omega
      have i5 : decide (k < 2) = true := by rw [decide_eq_true_eq]; omega
      have q3r : wr.heap[T + 1 + 1]? = _ := hSr.out.2.1 _ _ _ _ q3e.out (by decide) (by decide)
      obtain ⟨Ak, nk, ck, lk, hcell, hsq, hnk, hlk⟩ : ∃ Ak nk ck lk, wr.cell? ⟨T + 1 + 1, k, none⟩ = some (.slice Ak nk ck) ∧ Sq TrEl 3 wr Ak nk ck lk ∧ nk ≤ 100 ∧ lk.length = nk := by
        have hk3 : k = 0 ∨ k = 1 := by omega
        rcases hk3 with rfl | rfl
        · exact ⟨A0, n0, c0, l0, cell_blk q3r rfl, hFat0.out _ hxr.out, h100'.out, hl0⟩
        · exact ⟨A1, n1, c1, l1, cell_blk q3r rfl, hFat1.out _ hxr.out, h101'.out, hl1⟩
      have harm := arm_op (Sc.of hSr.out) hG.out Ak nk ck lk hsq (by omega)
      have hGa := Lib.hid (hG.out.arm lk (by omega))
      have harm' := Lib.hid harm
      clear harm hsq q3r
      go_wp2_with fail
      refine harm'.out.mono ?_
      rintro e w8 ⟨rfl, hst8⟩
      have hS8 := Lib.hid (Sd.then_ hSr.out hst8)
      have hx8 := Lib.hid (hx5.out.trans (hS8.out.1.mono (by omega)))
      have hswa : Hid (Sw cod (ga, la, sa) (gb, lb, sb) (arm d' lk)) := Lib.hid ⟨hsw.out.only, hsw.out.one, hsw.out.two⟩
      have hB8 : B ≤ w8.heap.size := Sd.le hS8.out
      have q2r := mb_fm q2e.out hS8.out.2.1
      clear hst8 harm' hcell
      have hwb := Write_any w8 B a mb 0 (300 * (k + 1)) (arm d' lk) (Sc.of ⟨Below.refl _ _, Fm.refl _, hS8.out.2.2⟩) hGa.out (by omega) (by omega) (te_up' (hTe.out _ hx8.out) (by omega) hB8) gb lb Ab nb cb sb (fun w' hb => hIbt.out w' (hx8.out.trans (hb.mono (by omega))))
      have hG2 := bd_writeM hGa.out gb lb sb
      have hsw2 := hswa.out.write_ good hma'.out hmb'.out hlt'.out
      rw [← writeM_may hmb'.out] at hsw2
      obtain ⟨X1, hX1⟩ : ∃ X1, writeM (arm d' lk) gb lb sb = X1 := ⟨_, rfl⟩
      rw [hX1] at hsw2 hwb hG2
      obtain ⟨cc, d2⟩ := X1
      simp only at hsw2 hwb hG2
      have hwb' := Lib.hid hwb
      have hsw2' := Lib.hid hsw2
      have hG2' := Lib.hid hG2
      obtain ⟨k0, k1, k2, _⟩ := q2r.mf
      clear hwb hsw2 hG2 hX1 q2r hswa hsw
      go_wp2_with fail
      refine hwb'.out.mono ?_
      rintro e w9 ⟨hst9, er, rfl, hor⟩
      have hS9 := Lib.hid (Sd.then_ hS8.out hst9)
      have hXe : Hid (Hxm w9 cc gb er) := Lib.hid hor
      have hba := below_alloc w9 (.cells #[.int .i64 k, .int .i64 5, .int .i64 9] 3)
      have hoz := owz_lit w9 w9.heap.size (Nat.le_refl _) #[.int .i64 k, .int .i64 5, .int .i64 9] 3 [(k : Int), 5, 9] 3 rfl (by omega) rfl
      obtain ⟨pk, hpk⟩ : ∃ pk, w9.heap.size = pk := ⟨_, rfl⟩
      obtain ⟨w10, hw10⟩ : ∃ w10, w9.alloc (.cells #[.int .i64 k, .int .i64 5, .int .i64 9] 3) = w10 := ⟨_, rfl⟩
      rw [hw10] at hba hoz
      rw [hpk] at hoz
      have hS10 := Lib.hid (Sd.bel hS9.out hba)
      have hXe10 := Lib.hid (hXe.out.below hba)
      have hcr := crash_op (Sc.of hS10.out) hG2'.out (by omega) (some ⟨pk, 0, none⟩) 3 3 [(k : Int), 5, 9] (fun w' _ hf => OwZ.rd (show OwZ w' pk 3 _ _ from hf.row hoz (by decide) (by decide)))
      have hcr' := Lib.hid hcr
      clear hst9 hor hwb' hba hoz hcr k0 k1 k2 hXe
      go_wp2_with fail
      clear hw10 hpk
      refine hcr'.out.mono ?_
      rintro e w11 ⟨rfl, hst11⟩
      have hS11 := Lib.hid (Sd.then_ hS10.out hst11)
      have hXe11 := Lib.hid (hXe10.out.fm hst11.2.1)
      have hG3 := Lib.hid (hG2'.out.crash [(k : Int), 5, 9])
      have hx11 := Lib.hid (hx5.out.trans (hS11.out.1.mono (by omega)))
      have hB11 : B ≤ w11.heap.size := Sd.le hS11.out
      obtain ⟨hsw3, hkeep⟩ := hsw2'.out.1.crash_ [(k : Int), 5, 9]
      have hsw3' := Lib.hid hsw3
      have hkeep' : Hid (cc = 0 → get (crash d2 [(k : Int), 5, 9]).fs (cod.name (gb, lb, sb)) = some ⟨cod.enc (gb, lb, sb), (cod.enc (gb, lb, sb)).length⟩) := Lib.hid fun h => hkeep (hsw2'.out.2 h)
      clear hst11 hcr' hsw3 hkeep
      go_wp2_with fail
      refine (Newest_any w11 B a mb 5 (300 * (k + 1) + 300) (crash d2 [(k : Int), 5, 9]) (Sc.of ⟨Below.refl _ _, Fm.refl _, hS11.out.2.2⟩) hG3.out (by omega) (te_up' (hTe.out _ hx11.out) (by omega) hB11) (eb_up' (hEb'.out _ hx11.out) (by omega))).mono ?_
      rintro e w12 ⟨r, An, nn, cn, hnew, rfl, hIn, hb12⟩
      obtain ⟨hr1, hr2⟩ := hsw3'.out.newest good hma'.out hmb'.out hlt'.out (hnew.new hG3.out.inv.up)
      rcases hr2 with rfl | rfl
      · have hIn : Is w12 An nn cn sb := hIn
        have hba13 := below_alloc w12 (.cells #[.int .i64 gb, .int .i64 lb, .slice An nn cn] 75)
        have hmn := mb_new w12 gb lb An nn cn
        obtain ⟨pn, hpn⟩ : ∃ pn, w12.heap.size = pn := ⟨_, rfl⟩
        obtain ⟨w13, hw13⟩ : ∃ w13, w12.alloc (.cells #[.int .i64 gb, .int .i64 lb, .slice An nn cn] 75) = w13 := ⟨_, rfl⟩
        rw [hw13] at hba13 hmn
        rw [hpn] at hmn
        have hS13 := Lib.hid (Sd.bel (Sd.bel hS11.out hb12) hba13)
        have hXe13 := Lib.hid ((hXe11.out.below hb12).below hba13)
        have hx13 := Lib.hid (hx5.out.trans (hS13.out.1.mono (by omega)))
        have hI13 : Hid (Is w13 An nn cn sb) := Lib.hid (Rd.below hIn hba13)
        obtain ⟨n0', n1', n2', _⟩ := hmn.mf
        have q1n := mb_fm q1e.out hS13.out.2.1
        have q2n := mb_fm q2e.out hS13.out.2.1
        obtain ⟨a0, a1, a2, _⟩ := q1n.mf
        obtain ⟨b0, b1, b2, _⟩ := q2n.mf
        have hmn' := Lib.hid hmn
        clear hba13 hmn hIn hb12 q1n q2n
        simp only [bestV, Option.getD_some, Option.isSome_some]
        go_wp2_with fail
        clear hw13 hpn
        refine (refSame_any gb lb An nn cn Ab nb cb sb w13 hI13.out (hIbt.out _ hx13.out)).mono ?_
        rintro e w14 ⟨rfl, hb14⟩
        have hS14 := Lib.hid (Sd.bel hS13.out hb14)
        clear hb14 n0' n1' n2' a0 a1 a2 b0 b1 b2
        go_wp2_with fail
        go_roundw
        case rel => exact ⟨k + 1, _, by omega, by go_num, hsw3', Lib.hid (hG3.out.mono (by omega) (by omega)), hS14⟩
        case measure => simp [intOf]; omega
      · have hIn : Is w12 An nn cn sa := hIn
        have hcc : cc ≠ 0 := fun h => by
          have h1 := hr1 (hkeep'.out h)
          injection h1 with h1
          injection h1 with h1 _
          have := hlt'.out
          omega
        have hne : ga ≠ gb := by have := hlt'.out; omega
        have hcb : (cc == 0) = false := by rw [beq_eq_false_iff_ne]; exact hcc
        have hba13 := below_alloc w12 (.cells #[.int .i64 ga, .int .i64 la, .slice An nn cn] 75)
        have hmn := mb_new w12 ga la An nn cn
        obtain ⟨pn, hpn⟩ : ∃ pn, w12.heap.size = pn := ⟨_, rfl⟩
        obtain ⟨w13, hw13⟩ : ∃ w13, w12.alloc (.cells #[.int .i64 ga, .int .i64 la, .slice An nn cn] 75) = w13 := ⟨_, rfl⟩
        rw [hw13] at hba13 hmn
        rw [hpn] at hmn
        have hS13 := Lib.hid (Sd.bel (Sd.bel hS11.out hb12) hba13)
        have hXe13 := Lib.hid ((hXe11.out.below hb12).below hba13)
        have hx13 := Lib.hid (hx5.out.trans (hS13.out.1.mono (by omega)))
        have hI13 : Hid (Is w13 An nn cn sa) := Lib.hid (Rd.below hIn hba13)
        obtain ⟨n0', n1', n2', _⟩ := hmn.mf
        have q1n := mb_fm q1e.out hS13.out.2.1
        have q2n := mb_fm q2e.out hS13.out.2.1
        obtain ⟨a0, a1, a2, _⟩ := q1n.mf
        obtain ⟨b0, b1, b2, _⟩ := q2n.mf
        have hmn' := Lib.hid hmn
        clear hba13 hmn hIn hb12 q1n q2n
        simp only [bestV, Option.getD_some, Option.isSome_some]
        go_wp2_with fail
        clear hw13 hpn
        refine (refSame_ne ga la An nn cn gb lb Ab nb cb hne w13).mono ?_
        rintro e w14 ⟨rfl, hb14⟩
        have hS14 := Lib.hid (Sd.bel hS13.out hb14)
        have hXe14 := Lib.hid (hXe13.out.below hb14)
        have hx14 := Lib.hid (hx5.out.trans (hS14.out.1.mono (by omega)))
        have hI14 := Lib.hid (hI13.out.below hb14)
        have hmn14 := Lib.hid (hmn'.out.below hb14)
        clear hb14 n0' n1' n2' a0 a1 a2 b0 b1 b2
        go_wp2_with fail
        refine (hXe14.out.code (hEn.out _ hx14.out)).mono ?_
        rintro e w15 ⟨rfl, hb15⟩
        have hS15 := Lib.hid (Sd.bel hS14.out hb15)
        have hx15 := Lib.hid (hx5.out.trans (hS15.out.1.mono (by omega)))
        have hI15 := Lib.hid (hI14.out.below hb15)
        obtain ⟨n0', n1', n2', _⟩ := hmn14.out.below hb15 |>.mf
        have q1n := mb_fm q1e.out hS15.out.2.1
        obtain ⟨a0, a1, a2, _⟩ := q1n.mf
        clear hb15 q1n
        go_wp2_with fail
        refine (refSame_any ga la An nn cn Aa na ca sa w15 hI15.out (hIat.out _ hx15.out)).mono ?_
        rintro e w16 ⟨rfl, hb16⟩
        have hS16 := Lib.hid (Sd.bel hS15.out hb16)
        clear hb16 n0' n1' n2' a0 a1 a2
        go_wp2_with fail
        go_roundw
        case rel => exact ⟨k + 1, _, by omega, by go_num, hsw3', Lib.hid (hG3.out.mono (by omega) (by omega)), hS16⟩
        case measure => simp [intOf]; omega
    · have i4 : decide ((k : Int) < (2 : Int)) = false := by rw [decide_eq_false_iff_not]; omega
      have i5 : decide (k < 2) = false := by rw [decide_eq_false_iff_not]; omega
      go_wp2_with fail
      go_ret
      exact ⟨rfl, by rw [hT'.out]; exact hxr.out⟩
end Go.Proofs.YtfdpnjebhllpkaaGreatDoor.Mn
end

section
namespace Go.Proofs.YtfdpnjebhllpkaaGreatDoor.Mn
open Go.RowKit Dk Ma Sg

theorem filesG_op {B a mb N U : Nat} {d : D} {w : World} (h : ∃ L F tv, Da w B a mb L F tv d) (hG : Bd d N U) (hU : U ≤ 1000000) :
    Calls Tryz.prog 35 #[.pointer (some ⟨a, 0, none⟩)] w fun e w' => ∃ A c, e = .returned (.slice A d.fs.length c) ∧ OwF w' w.heap.size (.slice A d.fs.length c) (d.fs.map toIn) ∧ Below w.heap.size w w' := by
  obtain ⟨L, F, tv, hD⟩ := h
  refine (Files_any w B a mb L F tv d hD (by have := hD.len_eq; have := hG.inv.most; omega) (fun p hp => ⟨by have := may_len (hG.inv.names p hp); omega, by have := hG.fl hU p hp; omega⟩)).mono ?_
  rintro e w' ⟨v, rfl, hO, hb⟩
  obtain ⟨A8, c8, rfl⟩ := hO.form
  rw [List.length_map] at hO ⊢
  exact ⟨A8, c8, rfl, hO, hb⟩

theorem te_up {T B : Nat} {w : World} (h : Te T w) (hle : T ≤ B) (hB : B ≤ w.heap.size) : Te B w := ⟨hB, fun w' hb => h.tab w' (hb.mono hle)⟩
theorem Eb.up {T B : Nat} {w : World} (h : Eb T w) (hle : T ≤ B) : Eb B w := ⟨h.ev, Nat.lt_of_lt_of_le h.syn hle, Nat.lt_of_lt_of_le h.rng hle⟩
theorem cont_next {l : List Name} {q : Nat} {x nm : Name} (h : l[q]? = some x) : (l.take (q + 1)).contains nm = ((l.take q).contains nm || (x == nm)) := by
  rw [take_snoc h, Bool.eq_iff_iff, List.contains_iff_mem, List.mem_append, Bool.or_eq_true, List.contains_iff_mem, List.mem_singleton, beq_iff_eq]
  exact ⟨fun h => h.imp id Eq.symm, fun h => h.imp id Eq.symm⟩
theorem so_beq (x : Name) (s : ByteArray) : ((strOf x).toList == s.toList) = (x == s.data.toList) := by
  rw [str_beq, Bool.eq_iff_iff, decide_eq_true_eq, beq_iff_eq]
  refine ⟨fun h => by rw [← h]; rfl, fun h => ?_⟩
  rw [h]
  exact bytes_ext rfl
/-- What is asked for, of the first k files. -/
def wantK (l : List Name) (fs : Fs) (k : Nat) : List In := ((fs.take k).filter fun p => !(l.contains p.1)).map toIn

set_option maxHeartbeats 4000000 in
set_option maxRecDepth 100000 in
theorem cleans_law (A : Option Addr) (n c : Nat) (l : List In) (g la : Int) (As : Option Addr) (ns cs_ : Nat) (ss : List Int) (W : World) (hE : Er.En W.heap.size W) (hEb : Eb W.heap.size W) (hF : Sq FeEl 3 W A n c l) (hsz : ∀ f ∈ l, f.data.length ≤ 140737488351232) (hI : Is W As ns cs_ ss) :
    Calls Tryz.prog 7 #[.slice A n c, .agg #[.int .i64 g, .int .i64 la, .slice As ns cs_]] W fun e w' => e = .returned (.bool true) ∧ Below W.heap.size W w' := by
  obtain ⟨T, hT⟩ : ∃ T, W.heap.size = T := ⟨_, rfl⟩
  have hFat : Hid (∀ w', Below T W w' → Sq FeEl 3 w' A n c l) := Lib.hid fun w' hb => hF.below (FeEl.below (by rw [hT]; exact hb)) (by rw [hT]; exact hb)
  have hIat : Hid (∀ w', Below T W w' → Is w' As ns cs_ ss) := Lib.hid fun w' hb => hI.below (by rw [hT]; exact hb)
  have hTe : Hid (∀ w', Below T W w' → Te T w') := Lib.hid fun w' hb => by have h1 := Te.of hE; rw [hT] at h1; exact h1.on hb
  have hEb' : Hid (∀ w', Below T W w' → Eb T w') := Lib.hid fun w' hb => by have h1 := hEb; rw [hT] at h1; exact h1.on hb
  have hmb := Lib.hid (mb_new W g la As ns cs_)
  have hba := Lib.hid (below_alloc W (.cells #[.int .i64 g, .int .i64 la, .slice As ns cs_] 75))
  have hT' := Lib.hid hT
  have hsz' := Lib.hid hsz
  obtain ⟨w1, hw1⟩ : ∃ w1, W.alloc (.cells #[.int .i64 g, .int .i64 la, .slice As ns cs_] 75) = w1 := ⟨_, rfl⟩
  have hw1s : w1.heap.size = T + 1 := by rw [← hw1, World.size_alloc, hT]
  rw [hw1, hT] at hmb hba
  clear hE hF hI hEb hsz
  go_enter Tryz.func7, Tryz.ntmps7
  go_upto_region 1 with fail
  clear hw1 hT
  go_wp2_with fail
  refine (Ma.awake_any w1 (hTe.out _ hba.out).tens).mono ?_
  rintro e w2 ⟨rfl, hb2⟩
  have hx2 := Lib.hid (hba.out.trans (hb2.mono (by omega)))
  have hm2 := Lib.hid (hmb.out.below hb2)
  have hs2 := hb2.size
  clear hb2
  go_wp2_with fail
  refine (Small_any A n c l w2 (hFat.out _ hx2.out) hsz'.out).mono ?_
  rintro e w2' ⟨b, rfl, hsm, rfl⟩
  have hsm' := Lib.hid hsm
  clear hsm
  cases b with
  | false =>
    go_wp2_with fail
    go_ret
    exact ⟨rfl, by rw [hT'.out]; exact hx2.out⟩
  | true =>
    have hSm := Lib.hid (hsm'.out rfl)
    obtain ⟨k0, k1, k2, _⟩ := hm2.out.mf
    clear hsm'
    go_wp2_with fail
    refine (refMay_any g la As ns cs_ ss w2 (hIat.out _ hx2.out)).mono ?_
    rintro e w3 ⟨rfl, hb3⟩
    have hx3 := Lib.hid (hx2.out.trans (hb3.mono (by omega)))
    have hm3 := Lib.hid (hm2.out.below hb3)
    have hs3 := hb3.size
    clear hb3 k0 k1 k2
    cases hmy : mayM g la ss with
    | false =>
      go_wp2_with fail
      go_ret
      exact ⟨rfl, by rw [hT'.out]; exact hx3.out⟩
    | true =>
      clear hmy
      go_wp2_with fail
      refine (Load_any w3 A n c l 32768 (hFat.out _ hx3.out) (by have := hSm.out.len; have := (hFat.out _ hx3.out).len; omega) (fun f hf => ⟨hSm.out.nm f hf, by have h1 := hSm.out.sum; have h2 := le_sum_of_mem hf; omega⟩) (by omega)).mono ?_
      rintro e w4 ⟨hb4, hload⟩
      have hx4 := Lib.hid (hx3.out.trans (hb4.mono (by omega)))
      have hm4 := Lib.hid (hm3.out.below hb4)
      have hs4 := hb4.size
      clear hb4
      cases hld : Dk.load l 32768 with
      | none =>
        rw [hld] at hload
        obtain rfl := hload
        go_wp2_with fail
        go_ret
        exact ⟨rfl, by rw [hT'.out]; exact hx4.out⟩
      | some d0 =>
        rw [hld] at hload
        obtain ⟨a, mb, rfl, L0, F0, hD⟩ := hload
        obtain ⟨hI, hdn, htr, hop, hrm⟩ := inv_load hld
        obtain ⟨B, hB⟩ : ∃ B, w3.heap.size = B := ⟨_, rfl⟩
        rw [hB] at hD
        have hTB : T ≤ B := by omega
        have hB4 : B ≤ w4.heap.size := by omega
        have hG0 : Bd d0 0 32768 := ⟨hI, by omega, by rw [htr]; simp, by have := hI.room; rw [hrm] at this; exact this, by rw [hrm]; decide⟩
        have hG := Lib.hid hG0
        have hS4 : Hid (Sd B a mb d0 w4 w4) := Lib.hid ⟨Below.refl _ _, Fm.refl _, L0, F0, _, hD⟩
        obtain ⟨ol, hol⟩ : ∃ ol, orphans (live g ss) d0.fs = ol := ⟨_, rfl⟩
        have hcl : Hid (clean ol d0 = (0, { d0 with ops := d0.ops + ol.length, fs := d0.fs.filter fun p => !(ol.contains p.1) })) := Lib.hid (by
          rw [← hol]
          exact clean_well _ d0 hdn htr (orph_nodup hI.up) (orph_there hI.up))
        obtain ⟨d1, hd1⟩ : ∃ d1 : D, { d0 with ops := d0.ops + ol.length, fs := d0.fs.filter fun p => !(ol.contains p.1) } = d1 := ⟨_, rfl⟩
        rw [hd1] at hcl
        have hfs1 : Hid (d1.fs = d0.fs.filter fun p => !(ol.contains p.1)) := Lib.hid (by rw [← hd1])
        have ho1 : Hid (orphans (live g ss) d1.fs = []) := Lib.hid (by rw [hfs1.out, ← hol, clean_fs]; exact orph_none _ _)
        have hG1 : Hid (Bd d1 100 32768) := Lib.hid (by
          have h1 : ol.length ≤ 64 := by
            rw [← hol]
            have := hI.most
            have h2 : (orphans (live g ss) d0.fs).length ≤ (d0.fs.map (·.1)).length := List.length_filter_le _ _
            rw [List.length_map] at h2
            omega
          have h3 := bd_clean (N := 0) ol hG0
          rw [hcl.out] at h3
          exact h3.mono (by omega) (Nat.le_refl _))
        have hol' := Lib.hid hol
        clear hD hI hdn htr hop hrm hld hG0 hB hd1 hol
        go_wp2_with fail
        refine (filesG_op hS4.out.2.2 hG.out (by omega)).mono ?_
        rintro e w5 ⟨A7, c7, rfl, hO5, hb5⟩
        have hx5 := Lib.hid (hx4.out.trans (hb5.mono (by omega)))
        have hm5 := Lib.hid (hm4.out.below hb5)
        have hS5 := Lib.hid (Sd.bel hS4.out hb5)
        have hO5' := Lib.hid hO5
        have hs5 := hb5.size
        obtain ⟨k0, k1, k2, _⟩ := hm5.out.mf
        clear hb5 hO5 hm4
        go_wp2_with fail
        have hMg : Hid (∀ w', Below T W w' → Mg B w' As ns cs_ ss) := Lib.hid fun w' h1 w'' h2 => hIat.out w'' (h1.trans (h2.mono hTB))
        refine (Orphans_any w5 B a mb 0 32768 d0 ⟨Below.refl _ _, Kc.refl _, hS5.out.2.2⟩ hG.out (te_up (hTe.out _ hx5.out) hTB (by omega)) (Eb.up (hEb'.out _ hx5.out) hTB) g la As ns cs_ ss (hMg.out _ hx5.out)).mono ?_
        rintro e w6 ⟨A8, n8, c8, rfl, hb6, hs6⟩
        rw [hol'.out] at hs6
        have hx6 := Lib.hid (hx5.out.trans (hb6.mono (by omega)))
        have hm6 := Lib.hid (hm5.out.below hb6)
        have hS6 := Lib.hid (Sd.bel hS5.out hb6)
        have hO6 := Lib.hid (OwF.below hO5'.out hb6)
        have hH6 := Lib.hid hs6
        have hz6 := hb6.size
        clear hb6 hs6 hm5 k0 k1 k2
        obtain ⟨k0, k1, k2, _⟩ := hm6.out.mf
        have hc := Clean_any w6 B a mb 0 32768 d0 ⟨Below.refl _ _, Kc.refl _, hS6.out.2.2⟩ hG.out (by omega) (te_up (hTe.out _ hx6.out) hTB (by omega)) (Eb.up (hEb'.out _ hx6.out) hTB) g la As ns cs_ ss (hMg.out _ hx6.out)
        rw [hol'.out, hcl.out] at hc
        have hc' := Lib.hid hc
        clear hc
        go_wp2_with fail
        refine hc'.out.mono ?_
        rintro e w7 ⟨hst, er, rfl, hor⟩
        obtain ⟨_, rfl⟩ := hor.resolve_right (fun h => h.1 rfl)
        have hx7 := Lib.hid (hx6.out.trans (hst.1.mono hTB))
        have hm7 := Lib.hid (mb_fm hm6.out hst.2.1)
        have hS7 := Lib.hid (Sd.then_ hS6.out hst)
        have hO7 := Lib.hid (OwF.fm hO6.out hst.2.1)
        have hH7 := Lib.hid (hH6.out.fm hst.2.1)
        have hz7 := hst.1.size
        clear hst hor hc' hO6 hH6 hm6 k0 k1 k2
        go_wp2_with fail
        refine (Er.Code_ok w7).mono ?_
        rintro e w8 ⟨rfl, hb8⟩
        have hx8 := Lib.hid (hx7.out.trans (hb8.mono (by have := hx7.out.size; have := hT'.out; omega)))
        have hm8 := Lib.hid (hm7.out.below hb8)
        have hS8 := Lib.hid (Sd.bel hS7.out hb8)
        have hO8 := Lib.hid (OwF.below hO7.out hb8)
        have hH8 := Lib.hid (hH7.out.below hb8)
        have hz8 := hb8.size
        clear hb8 hO7 hH7 hm7
        obtain ⟨k0, k1, k2, _⟩ := hm8.out.mf
        have hBw8 : B ≤ w8.heap.size := Sd.le hS8.out
        go_wp2_with fail
        refine (Orphans_any w8 B a mb 100 32768 d1 ⟨Below.refl _ _, Kc.refl _, hS8.out.2.2⟩ hG1.out (te_up (hTe.out _ hx8.out) hTB hBw8) (Eb.up (hEb'.out _ hx8.out) hTB) g la As ns cs_ ss (hMg.out _ hx8.out)).mono ?_
        rintro e w9 ⟨A9, n9, c9, rfl, hb9, hs9⟩
        rw [ho1.out] at hs9
        obtain rfl : n9 = 0 := by have := hs9.1.len; simpa using this.symm
        have hx9 := Lib.hid (hx8.out.trans (hb9.mono (by omega)))
        have hz9 := hb9.size
        have hS9 := Lib.hid (Sd.bel hS8.out hb9)
        have hO9 := Lib.hid (OwF.below hO8.out hb9)
        have hH9 := Lib.hid (hH8.out.below hb9)
        have hBw9 : B ≤ w9.heap.size := Sd.le hS9.out
        clear hb9 hs9 hO8 hH8 hm8 k0 k1 k2
        obtain ⟨n7, hn7⟩ : ∃ n7, d0.fs.length = n7 := ⟨_, rfl⟩
        have hn7' := Lib.hid hn7
        have hmost := hG.out.inv.most
        rw [hn7] at hO9 hmost ⊢
        clear hn7
        have hq9 := Lib.hid (OwS.sq' hO9.out (by omega))
        have hle9 := hq9.out.le
        have hmx9 := hq9.out.max
        have hle8 := hH9.out.1.le
        have hmx8 := hH9.out.1.max
        have hl8 : ol.length = n8 := by have := hH9.out.1.len; simpa using this
        have hl8' := Lib.hid hl8
        have hw49 : w4.heap.size ≤ w9.heap.size := by omega
        clear hl8 hS4 hS5 hS6 hS7 hS8 hO5' hx4 hx5 hx6 hx7 hx8 hTe hEb' hMg hcl ho1
        go_wp2_with fail
        go_loopw [9, 10] (fun wv iv wr => ∃ (k : Nat) (A' : Option Addr) (m' c' : Nat), k ≤ n7 ∧ m' ≤ k ∧ iv = .int .i64 k ∧ wv = .slice A' m' c' ∧ Hid (OwG wr w4.heap.size w9.heap.size (.slice A' m' c') (wantK ol d0.fs k)) ∧ Hid (Below w9.heap.size w9 wr)) (fun _ iv _ => n7 - (intOf iv).toNat)
        case atStart => exact ⟨0, none, 0, 0, by omega, by omega, rfl, rfl, Lib.hid (OwS.nil _ _ _), Lib.hid (Below.refl _ _)⟩
        case round =>
          obtain ⟨k, A', m', c', hk, hm', rfl, rfl, hOw, hbw⟩ := hrel
          by_cases hlt : k < n7
          · have i1 : decide ((k : Int) < (n7 : Int)) = true := by rw [decide_eq_true_eq]; omega
            have i2 : decide (k < n7) = true := by rw [decide_eq_true_eq]; omega
            have i3 : (k : Int) < (n7 : Int) := by omega
            obtain ⟨wy, rfl⟩ : ∃ wy, wy = wr := ⟨wr, rfl⟩
            obtain ⟨pb, off, f, vs, rfl, hpb, hf, hvs, hel, hcs⟩ := hq9.out.at_ hlt
            obtain ⟨sk, vd, rfl, hsk, hdv⟩ := hel
            rw [List.getElem?_map, Option.map_eq_some_iff] at hf
            obtain ⟨p, hp, rfl⟩ := hf
            obtain ⟨A0, c0, rfl, _⟩ := OwB.slice hdv
            have hMc : Hid (∀ z, Below w9.heap.size w9 z → z.cell? ⟨pb, off + k * 3, none⟩ = some (.string sk) ∧ z.cell? ⟨pb, off + k * 3 + 1, none⟩ = some (.slice A0 (toIn p).data.length c0) ∧ z.cell? ⟨pb, off + k * 3 + 2, none⟩ = some (.int .i64 (toIn p).safe)) := Lib.hid fun z hb =>
              ⟨(hb.cell (p := ⟨pb, off + k * 3, none⟩) hpb).trans (hcs 0 _ rfl), (hb.cell (p := ⟨pb, off + k * 3 + 1, none⟩) hpb).trans (hcs 1 _ rfl), (hb.cell (p := ⟨pb, off + k * 3 + 2, none⟩) hpb).trans (hcs 2 _ rfl)⟩
            have hdv' := Lib.hid hdv
            have hsk' : Hid (p.1 = sk.data.toList) := Lib.hid hsk
            have hp' := Lib.hid hp
            clear hcs hvs hdv hsk hp hpb
            go_wp2_with fail
            go_loopw [11, 12] (fun gv qv wr => ∃ (q : Nat) (gb : Bool), q ≤ n8 ∧ qv = .int .i64 q ∧ gv = .bool gb ∧ Hid (gb = (ol.take q).contains p.1) ∧ Hid (Below wy.heap.size wy wr)) (fun _ qv _ => n8 - (intOf qv).toNat)
            case atStart => exact ⟨0, false, by omega, rfl, rfl, Lib.hid rfl, Lib.hid (Below.refl _ _)⟩
            case round =>
              obtain ⟨q, gb, hq, rfl, rfl, hgb, hbq⟩ := hrel
              have hbr := Lib.hid (hbw.out.trans (hbq.out.mono hbw.out.size))
              obtain ⟨c1, c2, c3⟩ := hMc.out _ hbr.out
              by_cases hlt2 : q < n8
              · have j1 : decide ((q : Int) < (n8 : Int)) = true := by rw [decide_eq_true_eq]; omega
                have j2 : decide (q < n8) = true := by rw [decide_eq_true_eq]; omega
                have j3 : (q : Int) < (n8 : Int) := by omega
                obtain ⟨b8, off8, u, rfl, hb8, hu, hc8⟩ := Rd.at_ (Rd.below hH9.out.1 hbr.out) hlt2
                obtain ⟨x, hx⟩ : ∃ x, ol[q]? = some x := ⟨_, List.getElem?_eq_getElem (by have := hl8'.out; omega)⟩
                rw [List.getElem?_map, List.getElem?_map, hx] at hu
                simp only [Option.map_some] at hu
                injection hu with hu
                subst hu
                have hnx := Lib.hid (cont_next (nm := p.1) hx)
                obtain ⟨so, hso⟩ : ∃ so, strOf x = so := ⟨_, rfl⟩
                obtain ⟨bq, hbqe⟩ : ∃ bq, (so.toList == sk.toList) = bq := ⟨_, rfl⟩
                have hbx : Hid ((x == p.1) = bq) := Lib.hid (by rw [hsk'.out, ← so_beq, hso, hbqe])
                rw [hso] at hc8
                clear hx hso hb8
                cases gb with
                | true =>
                  go_wp2_with fail
                  go_quiet (fail)
                  go_wp2_with fail
                  go_roundw
                  case rel => exact ⟨q + 1, true, by omega, by go_num, rfl, Lib.hid (by rw [hnx.out, ← hgb.out]; rfl), Lib.hid (hbq.out.trans (Joins.below_draws _ _ _))⟩
                  case measure => simp [intOf]; omega
                | false =>
                  go_wp2_with fail
                  go_quiet (fail)
                  go_wp2_with fail
                  go_roundw
                  case rel => exact ⟨q + 1, bq, by omega, by go_num, rfl, Lib.hid (by rw [hnx.out, ← hgb.out, hbx.out]; rfl), Lib.hid (hbq.out.trans (Joins.below_draws _ _ _))⟩
                  case measure => simp [intOf]; omega
              · have j1 : decide ((q : Int) < (n8 : Int)) = false := by rw [decide_eq_false_iff_not]; omega
                have j2 : decide (q < n8) = false := by rw [decide_eq_false_iff_not]; omega
                have hgb2 : Hid (gb = ol.contains p.1) := Lib.hid (by rw [hgb.out, List.take_of_length_le (by have := hl8'.out; omega)])
                have hO2 := Lib.hid (OwG.below hOw.out hbq.out)
                clear hgb hOw
                cases gb with
                | true =>
                  have hnw : Hid (wantK ol d0.fs (k + 1) = wantK ol d0.fs k) := Lib.hid (by unfold wantK; rw [take_snoc hp'.out, List.filter_append, List.filter_cons, if_neg (by rw [← hgb2.out]; decide), List.filter_nil, List.append_nil])
                  go_wp2_with fail
                  go_roundw
                  case rel => exact ⟨k + 1, A', m', c', by omega, by omega, by go_num, rfl, Lib.hid (by rw [hnw.out]; exact hO2.out), hbr⟩
                  case measure => simp [intOf]; omega
                | false =>
                  have hnw : Hid (wantK ol d0.fs (k + 1) = wantK ol d0.fs k ++ [toIn p]) := Lib.hid (by unfold wantK; rw [take_snoc hp'.out, List.filter_append, List.filter_cons, if_pos (by rw [← hgb2.out]; decide), List.filter_nil, List.map_append]; rfl)
                  go_wp2_with (at_builtin; apply stop_here)
                  have hdd := OwB.below hdv'.out hbr.out
                  have hba2 := below_alloc wr (.cells #[.string sk, .slice A0 (toIn p).data.length c0, .int .i64 (toIn p).safe] 84)
                  have hel2 : FoEl w4.heap.size (wr.alloc (.cells [.string sk, .slice A0 (toIn p).data.length c0, .int .i64 (toIn p).safe].toArray 84)) [.string sk, .slice A0 (toIn p).data.length c0, .int .i64 (toIn p).safe] (toIn p) := ⟨sk, _, rfl, hsk'.out, OwB.below hdd hba2⟩
                  have hsq2 := Lib.hid (sq_one (El := FoEl w4.heap.size) (k := 3) wr [.string sk, .slice A0 (toIn p).data.length c0, .int .i64 (toIn p).safe] (toIn p) 84 (0, 0) rfl hel2)
                  have hOa := Lib.hid (OwG.below hO2.out hba2)
                  have hxa := Lib.hid (hbr.out.trans (hba2.mono hbr.out.size))
                  have hnk := Lib.hid (OwS.sq' hO2.out (by omega)).len
                  have hxs := hxa.out.size
                  clear hdd hba2 hel2
                  refine Stop.go (append_sq (El := FoEl w4.heap.size) (k := 3) _ 63 84 (.agg #[.string ⟨#[]⟩, .slice none 0 0, .int .i64 0]) 48 Tryz.underlying63 (by kernel_rfl) rfl (by omega) rfl _ _ rfl w9.heap.size _ _ rfl hOa.out _ 1 1 _ rfl hsq2.out (FoEl.one _) (fun w' hg => FoEl.kept hg (ows_noE hOa.out (by decide))) (m' + 1) ?h3 ?h4 ?h5 ?h6 ?_)
                  case h3 => rw [hnk.out]
                  case h4 => omega
                  case h5 => omega
                  case h6 => exact hxs
                  intro A6 c6 w6' ho6 _ hb6 _
                  have ho6' := Lib.hid ho6
                  have hb6' := Lib.hid (hxa.out.trans hb6)
                  clear ho6 hb6
                  go_wp2_with fail
                  go_roundw
                  case rel => exact ⟨k + 1, A6, m' + 1, c6, by omega, by omega, by go_num, rfl, Lib.hid (by rw [hnw.out]; exact ho6'.out), hb6'⟩
                  case measure => simp [intOf]; omega
          · have i1 : decide ((k : Int) < (n7 : Int)) = false := by rw [decide_eq_false_iff_not]; omega
            have i2 : decide (k < n7) = false := by rw [decide_eq_false_iff_not]; omega
            have hfin : Hid (wantK ol d0.fs k = d1.fs.map toIn) := Lib.hid (by unfold wantK; rw [List.take_of_length_le (by have := hn7'.out; omega), hfs1.out])
            have hSr := Lib.hid (Sd.bel hS9.out hbw.out)
            have hxr := Lib.hid (hx9.out.trans (hbw.out.mono (by omega)))
            have hqw := Lib.hid (OwS.sq' hOw.out (by omega))
            clear hOw hbw
            go_wp2_with fail
            refine (filesG_op hSr.out.2.2 hG1.out (by omega)).mono ?_
            rintro e wf ⟨Af, cf, rfl, hOf, hbf⟩
            have hxf := Lib.hid (hxr.out.trans (hbf.mono (by have := hxr.out.size; have := hT'.out; omega)))
            have hsf := Lib.hid (fe_of (OwS.sq' hOf (by omega)))
            have hsw := Lib.hid (fe_of (Sq.below hqw.out (FoEl.below hbf) hbf))
            rw [hfin.out] at hsw
            clear hbf hOf hqw
            go_wp2_with fail
            refine (Same_refl Af d1.fs.length cf A' m' c' (d1.fs.map toIn) wf hsf.out hsw.out).mono ?_
            rintro e ws ⟨rfl, qs, rfl⟩
            have hxs := Lib.hid (hxf.out.trans ((Joins.below_draws _ wf qs).mono (by have := hxf.out.size; have := hT'.out; omega)))
            go_wp2_with fail
            go_ret
            exact ⟨rfl, by rw [hT'.out]; exact hxs.out⟩
end Go.Proofs.YtfdpnjebhllpkaaGreatDoor.Mn
end
