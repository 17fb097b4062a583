/- What came in: manifests, rows of them, troubles. -/
import Derived.Test.YtfdpnjebhllpkaaGreatDoorMMnWrite
import Derived.Test.YtfdpnjebhllpkaaGreatDoorMMnNewest
import Derived.Test.YtfdpnjebhllpkaaGreatDoorMMnLaw
import Derived.Test.YtfdpnjebhllpkaaGreatDoorMManAwake
import Derived.Test.YtfdpnjebhllpkaaGreatDoorMManMay2
import Derived.Test.YtfdpnjebhllpkaaGreatDoorMSgLasts
import Derived.Test.YtfdpnjebhllpkaaGreatDoorMDkOpen
import Derived.OpenShut
section
namespace Go.Proofs.YtfdpnjebhllpkaaGreatDoor.Mn
open Go.RowKit Dk Ma Sg

/-- An error of a manifest, and its code. -/
def Hxm (w : World) (cc g : Int) (e : Value) : Prop := (cc = 0 ∧ e = .nilIface) ∨ (cc ≠ 0 ∧ ErrB w cc g manT e)
section
variable {w w' : World} {cc g : Int} {e : Value}
theorem Hxm.fm (h : Hxm w cc g e) (hf : Fm w w') : Hxm w' cc g e := by
  rcases h with h | ⟨h1, b, b2, rfl, h2, h3⟩
  · exact .inl h
  · exact .inr ⟨h1, b, b2, rfl, hf _ _ _ _ h2 (by decide) (by decide), hf _ _ _ _ h3 (by decide) (by decide)⟩
theorem Hxm.below (h : Hxm w cc g e) (hb : Below w.heap.size w w') : Hxm w' cc g e := h.fm (Fm.below hb)
theorem Hxm.code {T : Nat} (h : Hxm w cc g e) (hE : Er.En T w) : Calls Tryz.prog 29 #[e] w fun e' w' => e' = .returned (.int .i64 cc) ∧ Below w.heap.size w w' := by
  rcases h with ⟨rfl, rfl⟩ | ⟨h1, h2⟩
  · exact Er.Code_ok w
  · exact Er.Code_any cc g [manT] e T w hE h2.fe
end

theorem writeM_may {d : D} {g la : Int} {ss : List Int} (h : mayM g la ss = true) : writeM d g la ss = write d (cod.enc (g, la, ss)) (cod.name (g, la, ss)) := by
  unfold writeM
  rw [if_pos h]
  rfl
theorem bd_writeM {d : D} {N U : Nat} (hG : Bd d N U) (g la : Int) (ss : List Int) : Bd (writeM d g la ss).2 (N + 5) (U + 300) := by
  unfold writeM
  split
  · rename_i h
    have := good.len (g, la, ss) h
    exact (hG.write _ _).mono (Nat.le_refl _) (by have : (encM g la ss).length ≤ 300 := this; omega)
  · exact hG.mono (by omega) (by omega)

/-- The first Write, on a new disk. -/
theorem sw_start {a b : Mf} (ha : cod.ok a) (hb : cod.ok b) (hlt : a.1 < b.1) : (write (new 32768) (cod.enc a) (cod.name a)).1 = 0 ∧ Sw cod a b (write (new 32768) (cod.enc a) (cod.name a)).2 := by
  have hne : cod.name b ≠ cod.name a := fun e => by
    have : a.1 = b.1 := (good.same a b ha hb).2 e.symm
    omega
  have hl := good.len a ha
  have hw := write_well (d := new 32768) (b := cod.enc a) rfl rfl (good.may_ a ha) rfl (by show 0 + _ ≤ 32768; omega) (by decide)
  have hc : (write (new 32768) (cod.enc a) (cod.name a)).1 = 0 := by rw [hw]
  refine ⟨hc, ?_⟩
  rcases write_ways (new 32768) (cod.enc a) (good.ne a ha) with ⟨_, h2, h3, h4⟩ | ⟨h1, _⟩
  · refine ⟨fun x f hx => ?_, h2, .inl ?_⟩
    · by_cases e1 : x = cod.name a
      · exact .inr (.inl e1)
      · by_cases e2 : x = tmp
        · exact .inl e2
        · rw [h4 x e1 e2] at hx
          cases hx
    · rw [h4 _ hne (good.ne b hb)]
      rfl
  · exact absurd hc h1

set_option maxHeartbeats 1000000 in
set_option maxRecDepth 100000 in
theorem refSame_ne (g la : Int) (A : Option Addr) (n c : Nat) (g2 la2 : Int) (A2 : Option Addr) (n2 c2 : Nat) (hne : g ≠ g2) (w : World) :
    Calls Tryz.prog 50 #[.agg #[.int .i64 g, .int .i64 la, .slice A n c], .agg #[.int .i64 g2, .int .i64 la2, .slice A2 n2 c2]] w fun e w' => e = .returned (.bool false) ∧ Below w.heap.size w w' := by
  have hb0 := below_alloc w (.cells #[.int .i64 g, .int .i64 la, .slice A n c] 75)
  have hb1 := below_alloc (w.alloc (.cells #[.int .i64 g, .int .i64 la, .slice A n c] 75)) (.cells #[.int .i64 g2, .int .i64 la2, .slice A2 n2 c2] 75)
  have hm0 := (mb_new w g la A n c).below hb1
  have hm1 := mb_new (w.alloc (.cells #[.int .i64 g, .int .i64 la, .slice A n c] 75)) g2 la2 A2 n2 c2
  have hx := hb0.trans (hb1.mono hb0.size)
  have hs1 : (w.alloc (.cells #[.int .i64 g, .int .i64 la, .slice A n c] 75)).heap.size = w.heap.size + 1 := by simp
  rw [hs1] at hm1
  obtain ⟨wz, hwz⟩ : ∃ wz, (w.alloc (.cells #[.int .i64 g, .int .i64 la, .slice A n c] 75)).alloc (.cells #[.int .i64 g2, .int .i64 la2, .slice A2 n2 c2] 75) = wz := ⟨_, rfl⟩
  rw [hwz] at hm0 hm1 hx
  clear hb0 hb1 hs1
  have hx' := Lib.hid hx
  have hgn : (g != g2) = true := by rw [bne_iff_ne]; exact hne
  clear hx hne
  go_enter Tryz.func50, Tryz.ntmps50
  go_upto_region 1 with fail
  obtain ⟨k0, k1, k2, _⟩ := hm0.mf
  obtain ⟨l0, l1, l2, _⟩ := hm1.mf
  go_wp2_with fail
  go_ret
  exact ⟨rfl, hx'.out⟩
end Go.Proofs.YtfdpnjebhllpkaaGreatDoor.Mn
end

section
namespace Go.Proofs.YtfdpnjebhllpkaaGreatDoor.Mn
open Go.RowKit Dk Ma Sg

theorem te_up' {T B : Nat} {w : World} (h : Te T w) (hle : T ≤ B) (hB : B ≤ w.heap.size) : Te B w := ⟨hB, fun w' hb => h.tab w' (hb.mono hle)⟩
theorem eb_up' {T B : Nat} {w : World} (h : Eb T w) (hle : T ≤ B) : Eb B w := ⟨h.ev, Nat.lt_of_lt_of_le h.syn hle, Nat.lt_of_lt_of_le h.rng hle⟩

set_option maxHeartbeats 8000000 in
set_option maxRecDepth 100000 in
theorem switches_law (ga la : Int) (Aa : Option Addr) (na ca : Nat) (sa : List Int) (gb lb : Int) (Ab : Option Addr) (nb cb : Nat) (sb : List Int) (A0 : Option Addr) (n0 c0 : Nat) (l0 : List Tr) (A1 : Option Addr) (n1 c1 : Nat) (l1 : List Tr) (W : World)
    (hE : Er.En W.heap.size W) (hEb : Eb W.heap.size W) (hIa : Is W Aa na ca sa) (hIb : Is W Ab nb cb sb) (hq0 : Sq TrEl 3 W A0 n0 c0 l0) (hq1 : Sq TrEl 3 W A1 n1 c1 l1) :
    Calls Tryz.prog 9 #[.agg #[.int .i64 ga, .int .i64 la, .slice Aa na ca], .agg #[.int .i64 gb, .int .i64 lb, .slice Ab nb cb], .agg #[.slice A0 n0 c0, .slice A1 n1 c1]] W fun e w' => e = .returned (.bool true) ∧ Below W.heap.size W w' := by
  have hb1 := below_alloc W (.cells #[.int .i64 ga, .int .i64 la, .slice Aa na ca] 75)
  have hm1 := mb_new W ga la Aa na ca
  have hb2 := below_alloc (W.alloc (.cells #[.int .i64 ga, .int .i64 la, .slice Aa na ca] 75)) (.cells #[.int .i64 gb, .int .i64 lb, .slice Ab nb cb] 75)
  have hm2 := mb_new (W.alloc (.cells #[.int .i64 ga, .int .i64 la, .slice Aa na ca] 75)) gb lb Ab nb cb
  have hb3 := below_alloc ((W.alloc (.cells #[.int .i64 ga, .int .i64 la, .slice Aa na ca] 75)).alloc (.cells #[.int .i64 gb, .int .i64 lb, .slice Ab nb cb] 75)) (.cells #[.slice A0 n0 c0, .slice A1 n1 c1] 91)
  have hm3 := heap_alloc_new ((W.alloc (.cells #[.int .i64 ga, .int .i64 la, .slice Aa na ca] 75)).alloc (.cells #[.int .i64 gb, .int .i64 lb, .slice Ab nb cb] 75)) (.cells #[.slice A0 n0 c0, .slice A1 n1 c1] 91)
  have hm1' := (hm1.below hb2).below hb3
  have hm2' := hm2.below hb3
  have hx3 := hb1.trans ((hb2.trans (hb3.mono (by simp))).mono (by simp))
  rw [World.size_alloc] at hm2'
  rw [World.size_alloc, World.size_alloc] at hm3
  obtain ⟨T, hT⟩ : ∃ T, W.heap.size = T := ⟨_, rfl⟩
  have hFat0 : Hid (∀ w', Below T W w' → Sq TrEl 3 w' A0 n0 c0 l0) := Lib.hid fun w' hb => hq0.below (fun _ _ h => h) (by rw [hT]; exact hb)
  have hFat1 : Hid (∀ w', Below T W w' → Sq TrEl 3 w' A1 n1 c1 l1) := Lib.hid fun w' hb => hq1.below (fun _ _ h => h) (by rw [hT]; exact hb)
  have hIat : Hid (∀ w', Below T W w' → Is w' Aa na ca sa) := Lib.hid fun w' hb => hIa.below (by rw [hT]; exact hb)
  have hIbt : Hid (∀ w', Below T W w' → Is w' Ab nb cb sb) := Lib.hid fun w' hb => hIb.below (by rw [hT]; exact hb)
  have hTe : Hid (∀ w', Below T W w' → Te T w') := Lib.hid fun w' hb => by have h1 := Te.of hE; rw [hT] at h1; exact h1.on hb
  have hEb' : Hid (∀ w', Below T W w' → Eb T w') := Lib.hid fun w' hb => by have h1 := hEb; rw [hT] at h1; exact h1.on hb
  have hEn : Hid (∀ w', Below T W w' → Er.En T w') := Lib.hid fun w' hb => by have h1 := hE; rw [hT] at h1; exact h1.on hb
  have hT' := Lib.hid hT
  have hl0 := hq0.len
  have hl1 := hq1.len
  have hla := hIa.len
  have hlb := hIb.len
  obtain ⟨w1, hw1⟩ : ∃ w1, ((W.alloc (.cells #[.int .i64 ga, .int .i64 la, .slice Aa na ca] 75)).alloc (.cells #[.int .i64 gb, .int .i64 lb, .slice Ab nb cb] 75)).alloc (.cells #[.slice A0 n0 c0, .slice A1 n1 c1] 91) = w1 := ⟨_, rfl⟩
  have hsz1 : w1.heap.size = T + 3 := by rw [← hw1, World.size_alloc, World.size_alloc, World.size_alloc, hT]
  rw [hw1, hT] at hm1' hm2' hm3
  rw [hw1, hT] at hx3
  have hx1 := Lib.hid hx3
  have q1 := Lib.hid hm1'
  have q2 := Lib.hid hm2'
  have q3 := Lib.hid hm3
  clear hb1 hm1 hb2 hm2 hb3 hm1' hm2' hm3 hx3 hE hEb hIa hIb hq0 hq1
  go_enter Tryz.func9, Tryz.ntmps9
  go_upto_region 1 with fail
  clear hw1 hT
  go_wp2_with fail
  refine (Ma.awake_any w1 (hTe.out _ hx1.out).tens).mono ?_
  rintro e w2 ⟨rfl, hb2⟩
  have hx2 := Lib.hid (hx1.out.trans (hb2.mono (by omega)))
  have q1b := Lib.hid (q1.out.below hb2)
  have q2b := Lib.hid (q2.out.below hb2)
  have q3b := Lib.hid (show w2.heap[T + 1 + 1]? = _ from (hb2.block (T + 1 + 1) (by omega)).trans q3.out)
  have hs2 := hb2.size
  clear hb2 q1 q2 q3
  obtain ⟨k0, k1, k2, _⟩ := q1b.out.mf
  go_wp2_with fail
  refine (refMay_any ga la Aa na ca sa w2 (hIat.out _ hx2.out)).mono ?_
  rintro e w3 ⟨rfl, hb3⟩
  have hx3 := Lib.hid (hx2.out.trans (hb3.mono (by omega)))
  have q1c := Lib.hid (q1b.out.below hb3)
  have q2c := Lib.hid (q2b.out.below hb3)
  have q3c := Lib.hid (show w3.heap[T + 1 + 1]? = _ from (hb3.block (T + 1 + 1) (by omega)).trans q3b.out)
  have hs3 := hb3.size
  clear hb3 q1b q2b q3b k0 k1 k2
  cases hma : mayM ga la sa with
  | false =>
    go_wp2_with fail
    go_ret
    exact ⟨rfl, by rw [hT'.out]; exact hx3.out⟩
  | true =>
  have hma' := Lib.hid hma
  clear hma
  obtain ⟨k0, k1, k2, _⟩ := q2c.out.mf
  go_wp2_with fail
  refine (refMay_any gb lb Ab nb cb sb w3 (hIbt.out _ hx3.out)).mono ?_
  rintro e w4 ⟨rfl, hb4⟩
  have hx4 := Lib.hid (hx3.out.trans (hb4.mono (by omega)))
  have q1d := Lib.hid (q1c.out.below hb4)
  have q2d := Lib.hid (q2c.out.below hb4)
  have q3d := Lib.hid (show w4.heap[T + 1 + 1]? = _ from (hb4.block (T + 1 + 1) (by omega)).trans q3c.out)
  have hs4 := hb4.size
  clear hb4 q1c q2c q3c k0 k1 k2
  cases hmb : mayM gb lb sb with
  | false =>
    go_wp2_with fail
    go_ret
    exact ⟨rfl, by rw [hT'.out]; exact hx4.out⟩
  | true =>
  have hmb' := Lib.hid hmb
  clear hmb
  obtain ⟨k0, k1, k2, _⟩ := q1d.out.mf
  obtain ⟨l0', l1', l2', _⟩ := q2d.out.mf
  have r0 : w4.cell? ⟨T + 1 + 1, 0, none⟩ = some (.slice A0 n0 c0) := cell_blk q3d.out rfl
  have r1 : w4.cell? ⟨T + 1 + 1, 1, none⟩ = some (.slice A1 n1 c1) := cell_blk q3d.out rfl
  by_cases hge : ga ≥ gb
  · have i0 : decide (ga ≥ gb) = true := decide_eq_true hge
    have i1 : decide (gb ≤ ga) = true := decide_eq_true hge
    go_wp2_with fail
    go_ret
    exact ⟨rfl, by rw [hT'.out]; exact hx4.out⟩
  have i0 : decide (ga ≥ gb) = false := decide_eq_false hge
  have i1 : decide (gb ≤ ga) = false := decide_eq_false hge
  have hlt : ga < gb := by omega
  by_cases h100 : 100 < n0
  · have j0 : decide ((100 : Int) < (n0 : Int)) = true := by rw [decide_eq_true_eq]; omega
    have j1 : decide (100 < n0) = true := by rw [decide_eq_true_eq]; omega
    clear hge
    go_wp2_with fail
    go_ret
    exact ⟨rfl, by rw [hT'.out]; exact hx4.out⟩
  have j0 : decide ((100 : Int) < (n0 : Int)) = false := by rw [decide_eq_false_iff_not]; omega
  have j1 : decide (100 < n0) = false := by rw [decide_eq_false_iff_not]; omega
  by_cases h101 : 100 < n1
  · have j2 : decide ((100 : Int) < (n1 : Int)) = true := by rw [decide_eq_true_eq]; omega
    have j3 : decide (100 < n1) = true := by rw [decide_eq_true_eq]; omega
    clear hge h100
    go_wp2_with fail
    go_ret
    exact ⟨rfl, by rw [hT'.out]; exact hx4.out⟩
  have j2 : decide ((100 : Int) < (n1 : Int)) = false := by rw [decide_eq_false_iff_not]; omega
  have j3 : decide (100 < n1) = false := by rw [decide_eq_false_iff_not]; omega
  have h100' := Lib.hid (show n0 ≤ 100 by omega)
  have h101' := Lib.hid (show n1 ≤ 100 by omega)
  have hlt' := Lib.hid hlt
  clear hge h100 h101 hlt
  go_wp2_with fail
  refine (New_any w4 32768).mono ?_
  rintro e w5 ⟨a, mb, rfl, hD5, hb5⟩
  obtain ⟨B, hB⟩ : ∃ B, w4.heap.size = B := ⟨_, rfl⟩
  have hTB : T + 3 ≤ B := by omega
  have hD5' : Hid (∃ L F tv, Da w5 B a mb L F tv (new 32768)) := Lib.hid ⟨[], fun _ => ⟨[], 0⟩, _, hD5.out B (fun _ => ⟨[], 0⟩) (by omega)⟩
  have hS5 : Hid (Sd B a mb (new 32768) w5 w5) := Lib.hid ⟨Below.refl _ _, Fm.refl _, hD5'.out⟩
  have hx5 := Lib.hid (hx4.out.trans (hb5.mono (by omega)))
  have q1e := Lib.hid (q1d.out.below hb5)
  have q2e := Lib.hid (q2d.out.below hb5)
  have q3e := Lib.hid (show w5.heap[T + 1 + 1]? = _ from (hb5.block (T + 1 + 1) (by omega)).trans q3d.out)
  have hB5 : B ≤ w5.heap.size := Sd.le hS5.out
  have hG0 := Bd.new 32768 (by omega)
  clear hb5 hD5 hD5' q1d q2d q3d k0 k1 k2 l0' l1' l2' r0 r1 hB
  obtain ⟨hc0, hsw0⟩ := sw_start (a := (ga, la, sa)) (b := (gb, lb, sb)) hma'.out hmb'.out hlt'.out
  rw [← writeM_may hma'.out] at hc0 hsw0
  have hwa := Write_any w5 B a mb 0 0 (new 32768) (Sc.of hS5.out) hG0 (by omega) (by omega) (te_up' (hTe.out _ hx5.out) (by omega) hB5) ga la Aa na ca sa (fun w' hb => hIat.out w' (hx5.out.trans (hb.mono (by omega))))
  have hG1 := bd_writeM hG0 ga la sa
  obtain ⟨X0, hX0⟩ : ∃ X0, writeM (new 32768) ga la sa = X0 := ⟨_, rfl⟩
  rw [hX0] at hc0 hsw0 hwa hG1
  obtain ⟨z0, d1⟩ := X0
  simp only at hc0 hsw0 hwa hG1
  subst hc0
  have hwa' := Lib.hid hwa
  have hsw1 := Lib.hid hsw0
  have hG1' := Lib.hid hG1
  obtain ⟨k0, k1, k2, _⟩ := q1e.out.mf
  clear hwa hsw0 hG1 hX0
  go_wp2_with fail
  refine hwa'.out.mono ?_
  rintro e w6 ⟨hst, er, rfl, hor⟩
  obtain ⟨_, rfl⟩ := hor.resolve_right (fun h => h.1 rfl)
  have hS6 := Lib.hid hst
  clear hst hor hwa' k0 k1 k2
  go_wp2_with fail
  refine (Er.Code_ok w6).mono ?_
  rintro e w7 ⟨rfl, hb7⟩
  have hS7 := Lib.hid (Sd.bel hS6.out hb7)
  clear hb7 hS6
  go_wp2_with fail
  go_loopw [8] (fun iv wr => ∃ (k : Nat) (d' : D), k ≤ 2 ∧ iv = .int .i64 k ∧ Hid (Sw cod (ga, la, sa) (gb, lb, sb) d') ∧ Hid (Bd d' 5 (300 * (k + 1))) ∧ Hid (Sd B a mb d' w5 wr)) (fun iv _ => 2 - (intOf iv).toNat)
  case atStart => exact ⟨0, d1, by omega, rfl, hsw1, Lib.hid (hG1'.out.mono (by omega) (by omega)), hS7⟩
  case round =>
    obtain ⟨k, d', hk, rfl, hsw, hG, hSr⟩ := hrel
    have hxr := Lib.hid (hx5.out.trans (hSr.out.1.mono (by omega)))
    by_cases hk2 : k < 2
    · have i3 : (k : Int) < (2 : Int) := by omega
      have i4 : decide ((k : Int) < (2 : Int)) = true := by rw [decide_eq_true_eq]; omega
      have i5 : decide (k < 2) = true := by rw [decide_eq_true_eq]; omega
      have q3r : wr.heap[T + 1 + 1]? = _ := hSr.out.2.1 _ _ _ _ q3e.out (by decide) (by decide)
      obtain ⟨Ak, nk, ck, lk, hcell, hsq, hnk, hlk⟩ : ∃ Ak nk ck lk, wr.cell? ⟨T + 1 + 1, k, none⟩ = some (.slice Ak nk ck) ∧ Sq TrEl 3 wr Ak nk ck lk ∧ nk ≤ 100 ∧ lk.length = nk := by
        have hk3 : k = 0 ∨ k = 1 := by omega
        rcases hk3 with rfl | rfl
        · exact ⟨A0, n0, c0, l0, cell_blk q3r rfl, hFat0.out _ hxr.out, h100'.out, hl0⟩
        · exact ⟨A1, n1, c1, l1, cell_blk q3r rfl, hFat1.out _ hxr.out, h101'.out, hl1⟩
      have harm := arm_op (Sc.of hSr.out) hG.out Ak nk ck lk hsq (by omega)
      have hGa := Lib.hid (hG.out.arm lk (by omega))
      have harm' := Lib.hid harm
      clear harm hsq q3r
      go_wp2_with fail
      refine harm'.out.mono ?_
      rintro e w8 ⟨rfl, hst8⟩
      have hS8 := Lib.hid (Sd.then_ hSr.out hst8)
      have hx8 := Lib.hid (hx5.out.trans (hS8.out.1.mono (by omega)))
      have hswa : Hid (Sw cod (ga, la, sa) (gb, lb, sb) (arm d' lk)) := Lib.hid ⟨hsw.out.only, hsw.out.one, hsw.out.two⟩
      have hB8 : B ≤ w8.heap.size := Sd.le hS8.out
      have q2r := mb_fm q2e.out hS8.out.2.1
      clear hst8 harm' hcell
      have hwb := Write_any w8 B a mb 0 (300 * (k + 1)) (arm d' lk) (Sc.of ⟨Below.refl _ _, Fm.refl _, hS8.out.2.2⟩) hGa.out (by omega) (by omega) (te_up' (hTe.out _ hx8.out) (by omega) hB8) gb lb Ab nb cb sb (fun w' hb => hIbt.out w' (hx8.out.trans (hb.mono (by omega))))
      have hG2 := bd_writeM hGa.out gb lb sb
      have hsw2 := hswa.out.write_ good hma'.out hmb'.out hlt'.out
      rw [← writeM_may hmb'.out] at hsw2
      obtain ⟨X1, hX1⟩ : ∃ X1, writeM (arm d' lk) gb lb sb = X1 := ⟨_, rfl⟩
      rw [hX1] at hsw2 hwb hG2
      obtain ⟨cc, d2⟩ := X1
      simp only at hsw2 hwb hG2
      have hwb' := Lib.hid hwb
      have hsw2' := Lib.hid hsw2
      have hG2' := Lib.hid hG2
      obtain ⟨k0, k1, k2, _⟩ := q2r.mf
      clear hwb hsw2 hG2 hX1 q2r hswa hsw
      go_wp2_with fail
      refine hwb'.out.mono ?_
      rintro e w9 ⟨hst9, er, rfl, hor⟩
      have hS9 := Lib.hid (Sd.then_ hS8.out hst9)
      have hXe : Hid (Hxm w9 cc gb er) := Lib.hid hor
      have hba := below_alloc w9 (.cells #[.int .i64 k, .int .i64 5, .int .i64 9] 3)
      have hoz := owz_lit w9 w9.heap.size (Nat.le_refl _) #[.int .i64 k, .int .i64 5, .int .i64 9] 3 [(k : Int), 5, 9] 3 rfl (by omega) rfl
      obtain ⟨pk, hpk⟩ : ∃ pk, w9.heap.size = pk := ⟨_, rfl⟩
      obtain ⟨w10, hw10⟩ : ∃ w10, w9.alloc (.cells #[.int .i64 k, .int .i64 5, .int .i64 9] 3) = w10 := ⟨_, rfl⟩
      rw [hw10] at hba hoz
      rw [hpk] at hoz
      have hS10 := Lib.hid (Sd.bel hS9.out hba)
      have hXe10 := Lib.hid (hXe.out.below hba)
      have hcr := crash_op (Sc.of hS10.out) hG2'.out (by omega) (some ⟨pk, 0, none⟩) 3 3 [(k : Int), 5, 9] (fun w' _ hf => OwZ.rd (show OwZ w' pk 3 _ _ from hf.row hoz (by decide) (by decide)))
      have hcr' := Lib.hid hcr
      clear hst9 hor hwb' hba hoz hcr k0 k1 k2 hXe
      go_wp2_with fail
      clear hw10 hpk
      refine hcr'.out.mono ?_
      rintro e w11 ⟨rfl, hst11⟩
      have hS11 := Lib.hid (Sd.then_ hS10.out hst11)
      have hXe11 := Lib.hid (hXe10.out.fm hst11.2.1)
      have hG3 := Lib.hid (hG2'.out.crash [(k : Int), 5, 9])
      have hx11 := Lib.hid (hx5.out.trans (hS11.out.1.mono (by omega)))
      have hB11 : B ≤ w11.heap.size := Sd.le hS11.out
      obtain ⟨hsw3, hkeep⟩ := hsw2'.out.1.crash_ [(k : Int), 5, 9]
      have hsw3' := Lib.hid hsw3
      have hkeep' : Hid (cc = 0 → get (crash d2 [(k : Int), 5, 9]).fs (cod.name (gb, lb, sb)) = some ⟨cod.enc (gb, lb, sb), (cod.enc (gb, lb, sb)).length⟩) := Lib.hid fun h => hkeep (hsw2'.out.2 h)
      clear hst11 hcr' hsw3 hkeep
      go_wp2_with fail
      refine (Newest_any w11 B a mb 5 (300 * (k + 1) + 300) (crash d2 [(k : Int), 5, 9]) (Sc.of ⟨Below.refl _ _, Fm.refl _, hS11.out.2.2⟩) hG3.out (by omega) (te_up' (hTe.out _ hx11.out) (by omega) hB11) (eb_up' (hEb'.out _ hx11.out) (by omega))).mono ?_
      rintro e w12 ⟨r, An, nn, cn, hnew, rfl, hIn, hb12⟩
      obtain ⟨hr1, hr2⟩ := hsw3'.out.newest good hma'.out hmb'.out hlt'.out (hnew.new hG3.out.inv.up)
      rcases hr2 with rfl | rfl
      · have hIn : Is w12 An nn cn sb := hIn
        have hba13 := below_alloc w12 (.cells #[.int .i64 gb, .int .i64 lb, .slice An nn cn] 75)
        have hmn := mb_new w12 gb lb An nn cn
        obtain ⟨pn, hpn⟩ : ∃ pn, w12.heap.size = pn := ⟨_, rfl⟩
        obtain ⟨w13, hw13⟩ : ∃ w13, w12.alloc (.cells #[.int .i64 gb, .int .i64 lb, .slice An nn cn] 75) = w13 := ⟨_, rfl⟩
        rw [hw13] at hba13 hmn
        rw [hpn] at hmn
        have hS13 := Lib.hid (Sd.bel (Sd.bel hS11.out hb12) hba13)
        have hXe13 := Lib.hid ((hXe11.out.below hb12).below hba13)
        have hx13 := Lib.hid (hx5.out.trans (hS13.out.1.mono (by omega)))
        have hI13 : Hid (Is w13 An nn cn sb) := Lib.hid (Rd.below hIn hba13)
        obtain ⟨n0', n1', n2', _⟩ := hmn.mf
        have q1n := mb_fm q1e.out hS13.out.2.1
        have q2n := mb_fm q2e.out hS13.out.2.1
        obtain ⟨a0, a1, a2, _⟩ := q1n.mf
        obtain ⟨b0, b1, b2, _⟩ := q2n.mf
        have hmn' := Lib.hid hmn
        clear hba13 hmn hIn hb12 q1n q2n
        simp only [bestV, Option.getD_some, Option.isSome_some]
        go_wp2_with fail
        clear hw13 hpn
        refine (refSame_any gb lb An nn cn Ab nb cb sb w13 hI13.out (hIbt.out _ hx13.out)).mono ?_
        rintro e w14 ⟨rfl, hb14⟩
        have hS14 := Lib.hid (Sd.bel hS13.out hb14)
        clear hb14 n0' n1' n2' a0 a1 a2 b0 b1 b2
        go_wp2_with fail
        go_roundw
        case rel => exact ⟨k + 1, _, by omega, by go_num, hsw3', Lib.hid (hG3.out.mono (by omega) (by omega)), hS14⟩
        case measure => simp [intOf]; omega
      · have hIn : Is w12 An nn cn sa := hIn
        have hcc : cc ≠ 0 := fun h => by
          have h1 := hr1 (hkeep'.out h)
          injection h1 with h1
          injection h1 with h1 _
          have := hlt'.out
          omega
        have hne : ga ≠ gb := by have := hlt'.out; omega
        have hcb : (cc == 0) = false := by rw [beq_eq_false_iff_ne]; exact hcc
        have hba13 := below_alloc w12 (.cells #[.int .i64 ga, .int .i64 la, .slice An nn cn] 75)
        have hmn := mb_new w12 ga la An nn cn
        obtain ⟨pn, hpn⟩ : ∃ pn, w12.heap.size = pn := ⟨_, rfl⟩
        obtain ⟨w13, hw13⟩ : ∃ w13, w12.alloc (.cells #[.int .i64 ga, .int .i64 la, .slice An nn cn] 75) = w13 := ⟨_, rfl⟩
        rw [hw13] at hba13 hmn
        rw [hpn] at hmn
        have hS13 := Lib.hid (Sd.bel (Sd.bel hS11.out hb12) hba13)
        have hXe13 := Lib.hid ((hXe11.out.below hb12).below hba13)
        have hx13 := Lib.hid (hx5.out.trans (hS13.out.1.mono (by omega)))
        have hI13 : Hid (Is w13 An nn cn sa) := Lib.hid (Rd.below hIn hba13)
        obtain ⟨n0', n1', n2', _⟩ := hmn.mf
        have q1n := mb_fm q1e.out hS13.out.2.1
        have q2n := mb_fm q2e.out hS13.out.2.1
        obtain ⟨a0, a1, a2, _⟩ := q1n.mf
        obtain ⟨b0, b1, b2, _⟩ := q2n.mf
        have hmn' := Lib.hid hmn
        clear hba13 hmn hIn hb12 q1n q2n
        simp only [bestV, Option.getD_some, Option.isSome_some]
        go_wp2_with fail
        clear hw13 hpn
        refine (refSame_ne ga la An nn cn gb lb Ab nb cb hne w13).mono ?_
        rintro e w14 ⟨rfl, hb14⟩
        have hS14 := Lib.hid (Sd.bel hS13.out hb14)
        have hXe14 := Lib.hid (hXe13.out.below hb14)
        have hx14 := Lib.hid (hx5.out.trans (hS14.out.1.mono (by omega)))
        have hI14 := Lib.hid (hI13.out.below hb14)
        have hmn14 := Lib.hid (hmn'.out.below hb14)
        clear hb14 n0' n1' n2' a0 a1 a2 b0 b1 b2
        go_wp2_with fail
        refine (hXe14.out.code (hEn.out _ hx14.out)).mono ?_
        rintro e w15 ⟨rfl, hb15⟩
        have hS15 := Lib.hid (Sd.bel hS14.out hb15)
        have hx15 := Lib.hid (hx5.out.trans (hS15.out.1.mono (by omega)))
        have hI15 := Lib.hid (hI14.out.below hb15)
        obtain ⟨n0', n1', n2', _⟩ := hmn14.out.below hb15 |>.mf
        have q1n := mb_fm q1e.out hS15.out.2.1
        obtain ⟨a0, a1, a2, _⟩ := q1n.mf
        clear hb15 q1n
        go_wp2_with fail
        refine (refSame_any ga la An nn cn Aa na ca sa w15 hI15.out (hIat.out _ hx15.out)).mono ?_
        rintro e w16 ⟨rfl, hb16⟩
        have hS16 := Lib.hid (Sd.bel hS15.out hb16)
        clear hb16 n0' n1' n2' a0 a1 a2
        go_wp2_with fail
        go_roundw
        case rel => exact ⟨k + 1, _, by omega, by go_num, hsw3', Lib.hid (hG3.out.mono (by omega) (by omega)), hS16⟩
        case measure => simp [intOf]; omega
    · have i4 : decide ((k : Int) < (2 : Int)) = false := by rw [decide_eq_false_iff_not]; omega
      have i5 : decide (k < 2) = false := by rw [decide_eq_false_iff_not]; omega
      go_wp2_with fail
      go_ret
      exact ⟨rfl, by rw [hT'.out]; exact hxr.out⟩
end Go.Proofs.YtfdpnjebhllpkaaGreatDoor.Mn
end

section
namespace Go.Proofs.YtfdpnjebhllpkaaGreatDoor.Mn
open Go.RowKit Dk Ma Sg

/-- A manifest's cells in a row. -/
def MfEl (w : World) (vs : List Value) (m : Mf) : Prop := ∃ A n c, vs = [.int .i64 m.1, .int .i64 m.2.1, .slice A n c] ∧ Is w A n c m.2.2
theorem MfEl.below {w w' : World} (hb : Below w.heap.size w w') : ∀ vs x, MfEl w vs x → MfEl w' vs x := by
  rintro vs x ⟨A, n, c, rfl, h⟩
  exact ⟨A, n, c, rfl, h.below hb⟩

theorem da_mf {w : World} {B a mb p i : Nat} {L : Al Nat} {F : Nat → Fl} {tv : Value} {d : D} {cs : Array Value} (h : Da w B a mb L F tv d) (hh : w.heap[p]? = some (.cells cs 75)) (u : Value) : Da (w.setCell ⟨p, i, none⟩ u) B a mb L F tv d := by
  refine h.kept (grown_set w ⟨p, i, none⟩ u) (fun e => ?_) (fun e => ?_) (fun q hq e => ?_) (NoE.of hh (by intro cs fr e; injection e with _ e2 _; exact absurd e2 (by decide))) (NoE.of hh (by intro cs fr e; injection e with _ e2 _; exact absurd e2 (by decide)))
  · injection e with e
    simp only at e
    subst e
    have := h.blk
    rw [hh] at this
    injection this with this
    injection this with _ e2 _
    exact absurd e2 (by decide)
  · injection e with e
    simp only at e
    subst e
    obtain ⟨es, cl, hm⟩ := h.mblk
    rw [hh] at hm
    injection hm with hm
    cases hm
  · injection e with e
    simp only at e
    obtain ⟨_, v, h2, _⟩ := h.files q hq
    rw [e, hh] at h2
    injection h2 with h2
    injection h2 with _ e2 _
    exact absurd e2 (by decide)

theorem Gr.mono {k k' : Nat} {best : Option Mf} {d : D} (h : Gr cod k best d) (hk : k ≤ k') : Gr cod k' best d :=
  ⟨h.inv, h.down, h.tr, h.room, h.tmp_, Nat.le_trans h.len hk, by have := h.ops; omega, h.all, h.best⟩
theorem Gr.bd {k : Nat} {best : Option Mf} {d : D} (h : Gr cod k best d) : Bd d (4 * k) 65536 :=
  ⟨h.inv, h.ops, by rw [h.tr]; simp, by have := h.inv.room; rw [h.room] at this; exact this, by rw [h.room]; decide⟩
theorem Gr.start : Gr cod 0 none (new 65536) :=
  ⟨inv_new _, rfl, rfl, rfl, rfl, Nat.le_refl _, Nat.le_refl _, fun x f h => (by cases h), fun m h => (by cases h)⟩
theorem better_val {best : Option Mf} {m : Mf} (hm : cod.ok m) (hb : ∀ m0, best = some m0 → cod.ok m0) : better cod best m = if (bestV best).1 ≤ m.1 then some m else best := by
  cases best with
  | none =>
    have h1 := (may_facts (g := m.1) (la := m.2.1) (ss := m.2.2) hm).1
    have : (0 : Int) ≤ m.1 := by unfold okN at h1; rw [decide_eq_true_eq] at h1; omega
    rw [if_pos (show (bestV none).1 ≤ m.1 from this)]
    rfl
  | some m0 => rfl
theorem best_gen {best : Option Mf} (hb : ∀ m0, best = some m0 → cod.ok m0) : decide ((bestV best).1 > 0) = best.isSome := by
  cases best with
  | none => rfl
  | some m =>
    have h1 := (may_facts (g := m.1) (la := m.2.1) (ss := m.2.2) (hb m rfl)).1
    unfold okN at h1
    rw [decide_eq_true_eq] at h1
    simp [bestV]
    omega

set_option maxHeartbeats 8000000 in
set_option maxRecDepth 100000 in
theorem great_law (A : Option Addr) (n c : Nat) (l : List Mf) (W : World) (hE : Er.En W.heap.size W) (hEb : Eb W.heap.size W) (hL : Sq MfEl 3 W A n c l) :
    Calls Tryz.prog 8 #[.slice A n c] W fun e w' => e = .returned (.bool true) ∧ Below W.heap.size W w' := by
  obtain ⟨T, hT⟩ : ∃ T, W.heap.size = T := ⟨_, rfl⟩
  have hTe : Hid (∀ w', Below T W w' → Te T w') := Lib.hid fun w' hb => by have h1 := Te.of hE; rw [hT] at h1; exact h1.on hb
  have hEb' : Hid (∀ w', Below T W w' → Eb T w') := Lib.hid fun w' hb => by have h1 := hEb; rw [hT] at h1; exact h1.on hb
  have hEn : Hid (∀ w', Below T W w' → Er.En T w') := Lib.hid fun w' hb => by have h1 := hE; rw [hT] at h1; exact h1.on hb
  have hel : Hid (∀ w', Below T W w' → ∀ vs x, MfEl W vs x → MfEl w' vs x) := Lib.hid fun w' hb => MfEl.below (by rw [hT]; exact hb)
  have hle := hL.le
  have hmx := hL.max
  have hL' := Lib.hid hL
  have hT' := Lib.hid hT
  clear hE hEb hL
  go_enter Tryz.func8, Tryz.ntmps8
  go_wp2_with fail
  refine (Ma.awake_any W (hTe.out _ (Below.refl _ _)).tens).mono ?_
  rintro e w2 ⟨rfl, hb2⟩
  have hx2 := Lib.hid (hb2.mono (show T ≤ W.heap.size by omega))
  have hs2 := hb2.size
  clear hb2
  go_wp2_with fail
  refine (New_any w2 65536).mono ?_
  rintro e w3 ⟨a, mb, rfl, hD3, hb3⟩
  obtain ⟨B, hB⟩ : ∃ B, w2.heap.size = B := ⟨_, rfl⟩
  have hTB : T ≤ B := by omega
  have hD3' : Hid (∃ L F tv, Da w3 B a mb L F tv (new 65536)) := Lib.hid ⟨[], fun _ => ⟨[], 0⟩, _, hD3.out B (fun _ => ⟨[], 0⟩) (by omega)⟩
  have hx3 := Lib.hid (hx2.out.trans (hb3.mono (by omega)))
  have hs3 := hb3.size
  have hba4 := below_alloc w3 (.cells #[.int .i64 0, .int .i64 0, .slice none 0 0] 75)
  have hm4 := mb_new w3 0 0 none 0 0
  obtain ⟨p4, hp4⟩ : ∃ p4, w3.heap.size = p4 := ⟨_, rfl⟩
  obtain ⟨w4, hw4⟩ : ∃ w4, w3.alloc (.cells #[.int .i64 0, .int .i64 0, .slice none 0 0] 75) = w4 := ⟨_, rfl⟩
  rw [hw4] at hba4 hm4
  rw [hp4] at hm4
  have hS4 : Hid (Sd B a mb (new 65536) w4 w4) := Lib.hid ⟨Below.refl _ _, Fm.refl _, (Sd.bel (w := w3) (w1 := w3) ⟨Below.refl _ _, Fm.refl _, hD3'.out⟩ hba4).2.2⟩
  have hx4 := Lib.hid (hx3.out.trans (hba4.mono (by omega)))
  have hm4' := Lib.hid hm4
  have hB4 : B ≤ w4.heap.size := Sd.le hS4.out
  have hp4B : B ≤ p4 := by omega
  clear hb3 hD3 hD3' hba4 hm4 hB
  have hw4' := Lib.hid hw4
  have hp4' := Lib.hid hp4
  clear hw4 hp4
  go_upto_region 5 with fail
  rw [hw4'.out, hp4'.out]
  go_wp2_with fail
  go_loopw [5] (fun iv wr => ∃ (k : Nat) (best : Option Mf) (d : D) (Ab : Option Addr) (nb cb : Nat), k ≤ n ∧ k ≤ 12 ∧ iv = .int .i64 k ∧ Hid (Gr cod k best d) ∧ Hid (Below B w4 wr) ∧ Hid (∃ L F tv, Da wr B a mb L F tv d) ∧ Hid (Mb wr p4 (bestV best).1 (bestV best).2.1 Ab nb cb) ∧ Hid (∀ w', Below T W w' → Is w' Ab nb cb (bestV best).2.2)) (fun iv _ => n - (intOf iv).toNat)
  case atStart => exact ⟨0, none, new 65536, none, 0, 0, by omega, by omega, rfl, Lib.hid Gr.start, Lib.hid (Below.refl _ _), Lib.hid hS4.out.2.2, hm4', Lib.hid (fun _ _ => Rd.none_ _)⟩
  case round =>
    obtain ⟨k, best, d, Ab, nb, cb, hk, hk12, rfl, hGr, hbw, hDa, hMb, hIb⟩ := hrel
    have hxr := Lib.hid (hx4.out.trans (hbw.out.mono (by omega)))
    by_cases hend : k < n ∧ k < 12
    · obtain ⟨hlt, h12⟩ := hend
      have i1 : decide ((k : Int) < (n : Int)) = true := by rw [decide_eq_true_eq]; omega
      have i2 : decide (k < n) = true := by rw [decide_eq_true_eq]; omega
      have i3 : (k : Int) < (n : Int) := by omega
      have g1 : decide ((k : Int) < (12 : Int)) = true := by rw [decide_eq_true_eq]; omega
      have g2 : decide (k < 12) = true := by rw [decide_eq_true_eq]; omega
      obtain ⟨pb, off, m, vs, rfl, hpb, hmk, hvs, hel0, hcs⟩ := hL'.out.at_ hlt
      have hpb' : pb < T := by rw [← hT'.out]; exact hpb
      have helW : Hid (∀ w', Below T W w' → MfEl w' vs m) := Lib.hid fun w' hb => hel.out w' hb vs m hel0
      obtain ⟨Am, nm, cm, rfl, hIm⟩ := hel0
      have hMc : Hid (∀ z, Below T W z → z.cell? ⟨pb, off + k * 3, none⟩ = some (.int .i64 m.1) ∧ z.cell? ⟨pb, off + k * 3 + 1, none⟩ = some (.int .i64 m.2.1) ∧ z.cell? ⟨pb, off + k * 3 + 2, none⟩ = some (.slice Am nm cm)) := Lib.hid fun z hb =>
        ⟨(hb.cell (p := ⟨pb, off + k * 3, none⟩) hpb').trans (hcs 0 _ rfl), (hb.cell (p := ⟨pb, off + k * 3 + 1, none⟩) hpb').trans (hcs 1 _ rfl), (hb.cell (p := ⟨pb, off + k * 3 + 2, none⟩) hpb').trans (hcs 2 _ rfl)⟩
      have hIat : Hid (∀ w', Below T W w' → Is w' Am nm cm m.2.2) := Lib.hid fun w' hb => hIm.below (by rw [hT'.out]; exact hb)
      obtain ⟨gm, lm, sm⟩ := m
      simp only at hMc hIat
      clear hcs hvs hmk hIm helW hel
      obtain ⟨c0, c1, c2⟩ := hMc.out _ hxr.out
      by_cases h1000 : 1000 < nm
      · have j0 : decide ((1000 : Int) < (nm : Int)) = true := by rw [decide_eq_true_eq]; omega
        have j1 : decide (1000 < nm) = true := by rw [decide_eq_true_eq]; omega
        go_wp2_with fail
        go_ret
        exact ⟨rfl, by rw [hT'.out]; exact hxr.out⟩
      have j0 : decide ((1000 : Int) < (nm : Int)) = false := by rw [decide_eq_false_iff_not]; omega
      have j1 : decide (1000 < nm) = false := by rw [decide_eq_false_iff_not]; omega
      have hBr : B ≤ wr.heap.size := by have := hbw.out.size; omega
      have hG := hGr.out.bd
      have hw := Write_any wr B a mb (4 * k) 65536 d ⟨Below.refl _ _, Kc.refl _, hDa.out⟩ hG (by omega) (by omega) (te_up' (hTe.out _ hxr.out) (by omega) hBr) gm lm Am nm cm sm (fun w' hb => hIat.out w' (hxr.out.trans (hb.mono (by omega))))
      obtain ⟨X, hX⟩ : ∃ X, writeM d gm lm sm = X := ⟨_, rfl⟩
      rw [hX] at hw
      have hw' := Lib.hid hw
      have hX' := Lib.hid hX
      clear hw hX hG h1000
      go_wp2_with fail
      refine hw'.out.mono ?_
      rintro e w5 ⟨hst, er, rfl, hor⟩
      have hb5 := Lib.hid (hbw.out.trans hst.1)
      have hx5 := Lib.hid (hx4.out.trans (hb5.out.mono (by omega)))
      have hD5 := Lib.hid hst.2.2
      have hM5 := Lib.hid (mb_fm hMb.out hst.2.1)
      have hXe : Hid (Hxm w5 X.1 gm er) := Lib.hid hor
      clear hst hor hw' c0 c1 c2
      obtain ⟨c0, c1, c2⟩ := hMc.out _ hx5.out
      have hs5 := hx5.out.size
      go_wp2_with fail
      refine (refMay_any gm lm Am nm cm sm w5 (hIat.out _ hx5.out)).mono ?_
      rintro e w6 ⟨rfl, hb6⟩
      have hb6' := Lib.hid (hb5.out.trans (hb6.mono (by have := hb5.out.size; omega)))
      have hx6 := Lib.hid (hx4.out.trans (hb6'.out.mono (by omega)))
      obtain ⟨L5, F5, tv5, hDa5⟩ := hD5.out
      have hD6 : Hid (∃ L F tv, Da w6 B a mb L F tv X.2) := Lib.hid ⟨L5, F5, tv5, hDa5.below hb6⟩
      have hM6 := Lib.hid (hM5.out.below hb6)
      have hXe6 := Lib.hid (hXe.out.below hb6)
      clear hb6 hDa5 hD5 hM5 hXe hb5 c0 c1 c2
      cases hmy : mayM gm lm sm with
      | false =>
        have hX2 : Hid (X = (80, d)) := Lib.hid (by rw [← hX'.out]; unfold writeM; rw [hmy, if_neg (by simp)])
        obtain ⟨X1, X2⟩ := X
        obtain ⟨rfl, rfl⟩ : X1 = 80 ∧ X2 = d := by have := hX2.out; simpa using this
        clear hmy hX' hX2
        simp only at hXe6 hD6
        go_wp2_with fail
        refine (hXe6.out.code (hEn.out _ hx6.out)).mono ?_
        rintro e w7 ⟨rfl, hb7⟩
        have hb7' := Lib.hid (hb6'.out.trans (hb7.mono (by have := hb6'.out.size; omega)))
        obtain ⟨L5, F5, tv5, hDa5⟩ := hD6.out
        have hD7 : Hid (∃ L F tv, Da w7 B a mb L F tv X2) := Lib.hid ⟨L5, F5, tv5, hDa5.below hb7⟩
        have hM7 := Lib.hid (hM6.out.below hb7)
        clear hb7 hDa5
        go_wp2_with fail
        go_roundw
        case rel => exact ⟨k + 1, best, X2, Ab, nb, cb, by omega, by omega, by go_num, Lib.hid (hGr.out.mono (by omega)), hb7', hD7, hM7, hIb⟩
        case measure => simp [intOf]; omega
      | true =>
        obtain ⟨hz, hGr2⟩ := hGr.out.write_ good (by omega) (m := (gm, lm, sm)) hmy
        rw [← writeM_may hmy, hX'.out] at hz hGr2
        rw [better_val (m := (gm, lm, sm)) hmy (fun m0 h => (hGr.out.best m0 h).1)] at hGr2
        simp only at hGr2
        obtain ⟨X1, X2⟩ := X
        simp only at hz hGr2 hXe6 hD6
        subst hz
        have hGr2' := Lib.hid hGr2
        clear hmy hX' hGr2
        go_wp2_with fail
        refine (hXe6.out.code (hEn.out _ hx6.out)).mono ?_
        rintro e w7 ⟨rfl, hb7⟩
        have hb7' := Lib.hid (hb6'.out.trans (hb7.mono (by have := hb6'.out.size; omega)))
        have hx7 := Lib.hid (hx4.out.trans (hb7'.out.mono (by omega)))
        obtain ⟨L5, F5, tv5, hDa5⟩ := hD6.out
        have hD7 : Hid (∃ L F tv, Da w7 B a mb L F tv X2) := Lib.hid ⟨L5, F5, tv5, hDa5.below hb7⟩
        have hM7 := Lib.hid (hM6.out.below hb7)
        obtain ⟨c0, c1, c2⟩ := hMc.out _ hx7.out
        obtain ⟨m0, m1, m2, _⟩ := hM7.out.mf
        clear hb7 hDa5
        by_cases hge : (bestV best).1 ≤ gm
        · have j2 : decide (gm ≥ (bestV best).1) = true := decide_eq_true hge
          have j3 : decide ((bestV best).1 ≤ gm) = true := decide_eq_true hge
          have hGr3 := hGr2'.out
          rw [if_pos hge] at hGr3
          have hGr3' := Lib.hid hGr3
          clear hge hGr3
          go_wp2_with fail
          go_quiet (fail)
          have hbd := Joins.below_draws w7.heap.size w7 nq
          have hbd2 := Lib.hid hbd
          have hM8 := Lib.hid (hM7.out.below hbd)
          obtain ⟨L5, F5, tv5, hDa5⟩ := hD7.out
          have hD8 := Lib.hid (hDa5.below hbd)
          generalize w7.drewN nq = w8 at hM8 hD8 hbd2 ⊢
          have hx8 := Lib.hid (hx7.out.trans (hbd2.out.mono (by have := hx7.out.size; have := hT'.out; omega)))
          have hb8 := Lib.hid (hb7'.out.trans (hbd2.out.mono (by have := hb7'.out.size; omega)))
          clear hbd hDa5 c0 c1 c2 m0 m1 m2 j2 j3
          obtain ⟨c0, c1, c2⟩ := hMc.out _ hx8.out
          obtain ⟨m0, m1, m2, _⟩ := hM8.out.mf
          have f0 := hM8.out.frozen 0
          have f1 := hM8.out.frozen 1
          have f2 := hM8.out.frozen 2
          go_wp2_with fail
          go_roundw
          case rel =>
            have hm' := mb_set hM8.out gm lm Am nm cm
            have e1 := setCell_mb hM8.out (i := 0) (.int .i64 gm)
            have e2 := setCell_mb e1 (i := 1) (.int .i64 lm)
            exact ⟨k + 1, some (gm, lm, sm), X2, Am, nm, cm, by omega, by omega, by go_num, hGr3', Lib.hid (Ma.below_set (Ma.below_set (Ma.below_set hb8.out hp4B _) hp4B _) hp4B _), Lib.hid ⟨L5, F5, tv5, da_mf (da_mf (da_mf hD8.out hM8.out _) e1 _) e2 _⟩, Lib.hid hm', hIat⟩
          case measure => simp [intOf]; omega
        · have j2 : decide (gm ≥ (bestV best).1) = false := decide_eq_false hge
          have j3 : decide ((bestV best).1 ≤ gm) = false := decide_eq_false hge
          have hGr3 := hGr2'.out
          rw [if_neg hge] at hGr3
          have hGr3' := Lib.hid hGr3
          clear hge hGr3
          go_wp2_with fail
          go_quiet (fail)
          have hbd := Joins.below_draws w7.heap.size w7 nq
          have hbd2 := Lib.hid hbd
          have hM8 := Lib.hid (hM7.out.below hbd)
          obtain ⟨L5, F5, tv5, hDa5⟩ := hD7.out
          have hD8 : Hid (∃ L F tv, Da (w7.drewN nq) B a mb L F tv X2) := Lib.hid ⟨L5, F5, tv5, hDa5.below hbd⟩
          generalize w7.drewN nq = w8 at hM8 hD8 hbd2 ⊢
          have hb8 := Lib.hid (hb7'.out.trans (hbd2.out.mono (by have := hb7'.out.size; omega)))
          clear hbd hDa5 c0 c1 c2 m0 m1 m2 j2 j3
          go_wp2_with fail
          go_roundw
          case rel => exact ⟨k + 1, best, X2, Ab, nb, cb, by omega, by omega, by go_num, hGr3', hb8, hD8, hM8, hIb⟩
          case measure => simp [intOf]; omega
    · have hendd : (decide ((k : Int) < (n : Int)) = false ∧ decide (k < n) = false) ∨ (k < n ∧ k = 12) := by
        by_cases h9 : k < n
        · exact .inr ⟨h9, by omega⟩
        · exact .inl ⟨by rw [decide_eq_false_iff_not]; omega, by rw [decide_eq_false_iff_not]; omega⟩
      have hBr : B ≤ wr.heap.size := by have := hbw.out.size; omega
      rcases hendd with ⟨i1, i2⟩ | ⟨h9, h12⟩
      · clear hend
        go_wp2_with fail
        refine (Newest_any wr B a mb (4 * k) 65536 d ⟨Below.refl _ _, Kc.refl _, hDa.out⟩ hGr.out.bd (by omega) (te_up' (hTe.out _ hxr.out) (by omega) hBr) (eb_up' (hEb'.out _ hxr.out) (by omega))).mono ?_
        rintro e w5 ⟨r, An, nn, cn, hnew, rfl, hIn, hb5⟩
        obtain rfl := hGr.out.newest good (hnew.new hGr.out.inv.up)
        have hbg := best_gen fun m0 h => (hGr.out.best m0 h).1
        obtain ⟨bm, hbm⟩ : ∃ bm, bestV r = bm := ⟨_, rfl⟩
        obtain ⟨bb, hbb⟩ : ∃ bb, r.isSome = bb := ⟨_, rfl⟩
        rw [hbm] at hMb hIb hIn hbg ⊢
        rw [hbb] at hbg ⊢
        obtain ⟨gg, ll, ssg⟩ := bm
        simp only at hMb hIb hIn hbg ⊢
        have hba6 := below_alloc w5 (.cells #[.int .i64 gg, .int .i64 ll, .slice An nn cn] 75)
        have hmn := mb_new w5 gg ll An nn cn
        obtain ⟨pn, hpn⟩ : ∃ pn, w5.heap.size = pn := ⟨_, rfl⟩
        obtain ⟨w6, hw6⟩ : ∃ w6, w5.alloc (.cells #[.int .i64 gg, .int .i64 ll, .slice An nn cn] 75) = w6 := ⟨_, rfl⟩
        rw [hw6] at hba6 hmn
        rw [hpn] at hmn
        have hbr6 := hb5.trans (hba6.mono hb5.size)
        have hx6 := Lib.hid (hxr.out.trans (hbr6.mono (by omega)))
        have hM6 := hMb.out.below hbr6
        have hI6 : Hid (Is w6 An nn cn ssg) := Lib.hid (Rd.below hIn hba6)
        obtain ⟨n0, n1, n2, _⟩ := hmn.mf
        obtain ⟨m0, m1, m2, _⟩ := hM6.mf
        have hbq : (bb == bb) = true := by simp
        have hbg2 : decide (0 < gg) = bb := hbg
        clear hnew hb5 hba6 hmn hbr6 hM6 hIn hbm hbb
        go_wp2_with fail
        clear hw6 hpn
        refine (refSame_any gg ll An nn cn Ab nb cb ssg w6 hI6.out (hIb.out _ hx6.out)).mono ?_
        rintro e w7 ⟨rfl, hb7⟩
        have hx7 := Lib.hid (hx6.out.trans (hb7.mono (by have := hx6.out.size; have := hT'.out; omega)))
        clear hb7
        go_wp2_with fail
        go_ret
        exact ⟨rfl, by rw [hT'.out]; exact hx7.out⟩
      · have i1 : decide ((k : Int) < (n : Int)) = true := by rw [decide_eq_true_eq]; omega
        have i2 : decide (k < n) = true := by rw [decide_eq_true_eq]; omega
        have g1 : decide ((k : Int) < (12 : Int)) = false := by rw [decide_eq_false_iff_not]; omega
        have g2 : decide (k < 12) = false := by rw [decide_eq_false_iff_not]; omega
        have h12' := Lib.hid h12
        clear hend h12
        go_wp2_with fail
        refine (Newest_any wr B a mb (4 * k) 65536 d ⟨Below.refl _ _, Kc.refl _, hDa.out⟩ hGr.out.bd (by omega) (te_up' (hTe.out _ hxr.out) (by omega) hBr) (eb_up' (hEb'.out _ hxr.out) (by omega))).mono ?_
        rintro e w5 ⟨r, An, nn, cn, hnew, rfl, hIn, hb5⟩
        obtain rfl := hGr.out.newest good (hnew.new hGr.out.inv.up)
        have hbg := best_gen fun m0 h => (hGr.out.best m0 h).1
        obtain ⟨bm, hbm⟩ : ∃ bm, bestV r = bm := ⟨_, rfl⟩
        obtain ⟨bb, hbb⟩ : ∃ bb, r.isSome = bb := ⟨_, rfl⟩
        rw [hbm] at hMb hIb hIn hbg ⊢
        rw [hbb] at hbg ⊢
        obtain ⟨gg, ll, ssg⟩ := bm
        simp only at hMb hIb hIn hbg ⊢
        have hba6 := below_alloc w5 (.cells #[.int .i64 gg, .int .i64 ll, .slice An nn cn] 75)
        have hmn := mb_new w5 gg ll An nn cn
        obtain ⟨pn, hpn⟩ : ∃ pn, w5.heap.size = pn := ⟨_, rfl⟩
        obtain ⟨w6, hw6⟩ : ∃ w6, w5.alloc (.cells #[.int .i64 gg, .int .i64 ll, .slice An nn cn] 75) = w6 := ⟨_, rfl⟩
        rw [hw6] at hba6 hmn
        rw [hpn] at hmn
        have hbr6 := hb5.trans (hba6.mono hb5.size)
        have hx6 := Lib.hid (hxr.out.trans (hbr6.mono (by omega)))
        have hM6 := hMb.out.below hbr6
        have hI6 : Hid (Is w6 An nn cn ssg) := Lib.hid (Rd.below hIn hba6)
        obtain ⟨n0, n1, n2, _⟩ := hmn.mf
        obtain ⟨m0, m1, m2, _⟩ := hM6.mf
        have hbq : (bb == bb) = true := by simp
        have hbg2 : decide (0 < gg) = bb := hbg
        clear hnew hb5 hba6 hmn hbr6 hM6 hIn hbm hbb
        go_wp2_with fail
        clear hw6 hpn
        refine (refSame_any gg ll An nn cn Ab nb cb ssg w6 hI6.out (hIb.out _ hx6.out)).mono ?_
        rintro e w7 ⟨rfl, hb7⟩
        have hx7 := Lib.hid (hx6.out.trans (hb7.mono (by have := hx6.out.size; have := hT'.out; omega)))
        clear hb7
        go_wp2_with fail
        go_ret
        exact ⟨rfl, by rw [hT'.out]; exact hx7.out⟩
end Go.Proofs.YtfdpnjebhllpkaaGreatDoor.Mn
end

section
namespace Go.Proofs.YtfdpnjebhllpkaaGreatDoor
open Go.RowKit

theorem Sized.arr {H : Type} {P : Program} {t e : TypeId} {n : Nat} {parts : List (DataW H)} (ht : P.underlying t = some (.array n e)) (h : Sized P t (.agg parts)) {d : DataW H} (hd : d ∈ parts) : Sized P e d := by
  intro x hx
  refine h x ?_
  simp only [DataW.weights, ht]
  exact weights_mem_all hd hx

namespace Mn
open Dk Ma
section
variable {H : Type} {enc : TypeId × Value → H} {w : World}
set_option maxRecDepth 100000 in
theorem man_each (m : Nat) (vs : List Value) {fs : Array Field} (hs : Tryz.prog.underlying 75 = some (.struct fs)) (h : Fields enc Tryz.prog w fs m vs) : ∃ x, MfEl w vs x := by
  have e := Tryz.underlying75
  rw [hs] at e
  injection e with e
  injection e with e
  subst e
  obtain ⟨hl, hf⟩ := h
  obtain ⟨v0, y0, e0, t0, _⟩ := hf 0 _ rfl
  obtain ⟨v1, y1, e1, t1, _⟩ := hf 1 _ rfl
  obtain ⟨v2, y2, e2, t2, _⟩ := hf 2 _ rfl
  obtain ⟨z0, c0, _, _⟩ := DataW.trod_int Tryz.underlying3 t0
  obtain ⟨z1, c1, _, _⟩ := DataW.trod_int Tryz.underlying3 t1
  obtain ⟨At, nt, ct, ts, rfl, hts, _⟩ := is_of_trod1 (k := .i64) Tryz.underlying37 Tryz.underlying3 (by kernel_rfl) t2
  injection c0 with c0; injection c1 with c1
  subst c0; subst c1
  exact ⟨(z0, z1, ts), At, nt, ct, list3 hl e0 e1 e2, hts⟩
set_option maxRecDepth 100000 in
theorem mans_of_trod {a : Option Addr} {n c : Nat} {d : DataW H} {p : List MemPlace} (h : DataW.Trod enc Tryz.prog w 0 (fun _ => true) true 86 (.slice a n c) d p) (hz : Sized Tryz.prog 86 d) :
    ∃ l, Sq MfEl 3 w a n c l ∧ True := by
  obtain ⟨l, hl, _⟩ := sq_of_trod (El := MfEl) Tryz.underlying86 Tryz.underlying75 (by kernel_rfl) (by kernel_rfl) (by decide) (fun m vs h => man_each m vs Tryz.underlying75 h) h hz
  exact ⟨l, hl, trivial⟩
set_option maxRecDepth 100000 in
theorem trs_of_trod {a : Option Addr} {n c : Nat} {d : DataW H} {p : List MemPlace} (h : DataW.Trod enc Tryz.prog w 0 (fun _ => true) true 46 (.slice a n c) d p) (hz : Sized Tryz.prog 46 d) :
    ∃ l, Sq TrEl 3 w a n c l ∧ True := by
  obtain ⟨l, hl, _⟩ := sq_of_trod (El := TrEl) Tryz.underlying46 Tryz.underlying121 (by kernel_rfl) (by kernel_rfl) (by decide) (fun m vs h => trouble_each m vs Tryz.underlying121 h) h hz
  exact ⟨l, hl, trivial⟩
set_option maxRecDepth 100000 in
theorem tr2_of_trod {r : Reach} {b0 : Nat} {v : Value} {d : DataW H} {p : List MemPlace} (hv : Value.okWide Tryz.prog w r b0 91 v) (h : DataW.Trod enc Tryz.prog w 0 (fun _ => true) true 91 v d p) (hz : Sized Tryz.prog 91 d) :
    ∃ A0 n0 c0 l0 A1 n1 c1 l1, v = .agg #[.slice A0 n0 c0, .slice A1 n1 c1] ∧ Sq TrEl 3 w A0 n0 c0 l0 ∧ Sq TrEl 3 w A1 n1 c1 l1 := by
  have hu := Tryz.underlying91
  have hC : Tryz.prog.cellsOf 91 = 2 := by kernel_rfl
  have hC1 : Tryz.prog.cellsOf 46 = 1 := by kernel_rfl
  obtain ⟨cs, rfl, hsz⟩ : ∃ cs, v = .agg cs ∧ cs.size = Tryz.prog.cellsOf 91 := by
    simp only [Value.okWide, hu] at hv
    obtain ⟨cs, h1, h2, _⟩ := hv
    exact ⟨cs, h1, h2⟩
  obtain ⟨l⟩ := cs
  rw [hC] at hsz
  have hl : l.length = 2 := by simpa using hsz
  obtain ⟨fuel, hf⟩ := h
  obtain ⟨xs, n, _, hx, _, hlen, hg⟩ := DataW.trod_array hu hf
  simp only [Prod.mk.injEq] at hx
  match l, hl with
  | [c0, c1], _ =>
    match xs, hlen with
    | [x0, x1], _ =>
      have g0 := hg 0 (by omega)
      have g1 := hg 1 (by omega)
      rw [hC1] at g0 g1
      have g0' : DataW.trod enc Tryz.prog w 0 (fun _ => true) true n 46 [c0] = some x0 := g0
      have g1' : DataW.trod enc Tryz.prog w 0 (fun _ => true) true n 46 [c1] = some x1 := g1
      have hd : d = .agg [x0.1, x1.1] := hx.1
      rw [hd] at hz
      obtain ⟨A0, n0, k0, l0, rfl, h0, _⟩ := sq_of_trod' (El := TrEl) Tryz.underlying46 Tryz.underlying121 (by kernel_rfl) (by kernel_rfl) (by decide) (d := x0.1) (p := x0.2) g0' (hz.arr hu (by simp)) (fun m vs h => trouble_each m vs Tryz.underlying121 h)
      obtain ⟨A1, n1, k1, l1, rfl, h1, _⟩ := sq_of_trod' (El := TrEl) Tryz.underlying46 Tryz.underlying121 (by kernel_rfl) (by kernel_rfl) (by decide) (d := x1.1) (p := x1.2) g1' (hz.arr hu (by simp)) (fun m vs h => trouble_each m vs Tryz.underlying121 h)
      exact ⟨A0, n0, k0, l0, A1, n1, k1, l1, rfl, h0, h1⟩
end
end Mn
end Go.Proofs.YtfdpnjebhllpkaaGreatDoor
end
