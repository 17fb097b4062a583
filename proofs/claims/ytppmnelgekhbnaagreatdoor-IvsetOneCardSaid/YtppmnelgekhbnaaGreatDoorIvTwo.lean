/- The document's Two, Within, Has. -/
import Derived.Test.YtppmnelgekhbnaaGreatDoorIvSpans
import Derived.Test.YtppmnelgekhbnaaGreatDoorIvFlags
namespace Go.Proofs.YtppmnelgekhbnaaGreatDoor.IvW
open Go.RowKit Iv

def twoB (k : Int) (x y : Bool) : Bool := decide (k = 0) && (x || y) || decide (k = 1) && x && y || decide (k = 2) && x && !y
def two? (k : Int) (a b : List Span) : List Span := if okB 1 a && okB 1 b then sp (fun v => twoB k (mem a v) (mem b v)) else []

/-- A new variable of flags, written at once. -/
theorem new_fl (w : World) (m : Nat → Bool) : ∃ wa w2 : World, w.alloc (.cells (fl fun _ => false) 43) = wa ∧ (storeCells ⟨w.heap.size, 0, none⟩ (fl m).toList).run Tryz.prog wa = .ok () w2 ∧ Below w.heap.size w w2 ∧ Fb w2 w.heap.size m ∧ w2.heap.size = w.heap.size + 1 := by
  have f0 := fb_new w (fun _ => false)
  have b0 := below_alloc w (.cells (fl fun _ => false) 43)
  refine ⟨_, _, rfl, st_fl f0 m, below_row b0 f0 (Nat.le_refl _) _, fb_row f0 m, ?_⟩
  rw [setRow_size]
  simp

theorem Fb.belowB {w w' : World} {b B : Nat} {m : Nat → Bool} (h : Fb w b m) (hb : Below B w w') (hlt : b < B) : Fb w' b m := (hb.block b hlt).trans h

theorem step_fl (g : Nat → Bool) (v : Nat) (h : 1 ≤ v) : (fun x => if x = v then g v else (decide (1 ≤ x) && decide (x < v) && g x)) = fun x => decide (1 ≤ x) && decide (x < v + 1) && g x := by
  funext x
  by_cases hx : x = v
  · subst hx
    have e1 : decide (1 ≤ x) = true := by simpa using h
    simp [e1]
  · rw [if_neg hx]
    have e1 : decide (x < v) = decide (x < v + 1) := by rw [Bool.eq_iff_iff]; simp; omega
    rw [e1]

set_option maxHeartbeats 4000000 in
set_option maxRecDepth 100000 in
theorem two_any (k : Int) (A : Option Addr) (n c : Nat) (la : List Span) (B : Option Addr) (m d : Nat) (lb : List Span) (w : World) (hA : Rp w A n c la) (hB : Rp w B m d lb) :
    Calls Tryz.prog 16 #[.int .i64 k, .slice A n c, .slice B m d] w fun e w' => ∃ A' c', e = .returned (.slice A' (two? k la lb).length c') ∧ OwP w' w.heap.size 41 (.slice A' (two? k la lb).length c') (two? k la lb) ∧ Below w.heap.size w w' := by
  have z0 := fl_zero
  have fs := fl_size
  have c1 := flags_any A n c la w hA
  obtain ⟨R, hR⟩ : ∃ R, two? k la lb = R := ⟨_, rfl⟩
  rw [hR]
  have hR' := Lib.hid hR
  clear hR
  obtain ⟨m1, hm1⟩ : ∃ m1, (fun i : Nat => okB 1 la && mem la ↑i) = m1 := ⟨_, rfl⟩
  rw [hm1] at c1
  have hm1' := Lib.hid hm1
  obtain ⟨o1, ho1⟩ : ∃ o1, okB 1 la = o1 := ⟨_, rfl⟩
  rw [ho1] at c1
  have ho1' := Lib.hid ho1
  clear hm1 ho1
  have hB' := Lib.hid hB
  clear hA hB
  go_enter Tryz.func16, Tryz.ntmps16
  go_wp2_with fail
  refine c1.mono ?_
  rintro e w1 ⟨rfl, hb1⟩
  obtain ⟨wa, w2, hwa, st1, hb2, hf2, hs2⟩ := new_fl w1 m1
  have hx2 := Lib.hid (hb1.trans (hb2.mono hb1.size))
  have hf2' := Lib.hid hf2
  have hs2' := Lib.hid hs2
  have c2 := flags_any B m d lb w2 (hB'.out.below hx2.out)
  obtain ⟨m2, hm2⟩ : ∃ m2, (fun i : Nat => okB 1 lb && mem lb ↑i) = m2 := ⟨_, rfl⟩
  rw [hm2] at c2
  have hm2' := Lib.hid hm2
  obtain ⟨o2, ho2⟩ : ∃ o2, okB 1 lb = o2 := ⟨_, rfl⟩
  rw [ho2] at c2
  have ho2' := Lib.hid ho2
  clear hm2 ho2 c1 hb1 hb2 hf2 hs2
  go_wp2_with fail
  clear hwa st1
  refine c2.mono ?_
  rintro e w3 ⟨rfl, hb3⟩
  obtain ⟨wb, w4, hwb, st2, hb4, hf4, hs4⟩ := new_fl w3 m2
  have hx4 := Lib.hid (hx2.out.trans ((hb3.trans (hb4.mono hb3.size)).mono hx2.out.size))
  have hf4' := Lib.hid hf4
  have hw13 : w1.heap.size < w3.heap.size := by have := hs2'.out; have := hb3.size; omega
  have hxlt := Lib.hid (show w1.heap.size < w4.heap.size by have := hs4; omega)
  have hylt := Lib.hid (show w3.heap.size < w4.heap.size by omega)
  have hfx' := Lib.hid (hf2'.out.below (hb3.trans (hb4.mono hb3.size)))
  have hs4' := Lib.hid hs4
  clear hb3 hb4 hf4 hs4 c2 hf2'
  by_cases hboth : o1 = true ∧ o2 = true
  case neg =>
    have hRn : R = [] := by
      rw [← hR'.out]
      unfold two?
      rw [ho1'.out, ho2'.out, if_neg (by simpa using hboth)]
    subst hRn
    cases o1
    · go_wp2_with fail
      go_ret
      exact ⟨none, 0, rfl, OwP.nil _ _ _, hx4.out⟩
    · cases o2
      · go_wp2_with fail
        go_ret
        exact ⟨none, 0, rfl, OwP.nil _ _ _, hx4.out⟩
      · exact absurd ⟨rfl, rfl⟩ hboth
  case pos =>
  obtain ⟨rfl, rfl⟩ := hboth
  have e5 := fb_new w4 (fun _ => false)
  have b5 := below_alloc w4 (.cells (fl fun _ => false) 43)
  obtain ⟨w5, hw5⟩ : ∃ w5, w4.alloc (.cells (fl fun _ => false) 43) = w5 := ⟨_, rfl⟩
  rw [hw5] at e5 b5
  have hx5 := Lib.hid (hx4.out.trans (b5.mono hx4.out.size))
  have hfx5 := Lib.hid (hfx'.out.below b5)
  have hfy5 := Lib.hid (hf4'.out.below b5)
  have hfo5 := Lib.hid e5
  clear b5 e5 hfx' hf4'
  go_wp2_with fail
  clear hwb st2 hw5
  have hfo : Fb w5 w4.heap.size (fun x => decide (1 ≤ x) && decide (x < 1) && twoB k (m1 x) (m2 x)) := by
    have e : (fun x : Nat => decide (1 ≤ x) && decide (x < 1) && twoB k (m1 x) (m2 x)) = fun _ => false := by
      funext x
      have : (decide (1 ≤ x) && decide (x < 1)) = false := by rw [Bool.eq_false_iff]; simp; omega
      rw [this]; rfl
    rw [e]; exact hfo5.out
  go_loopw [12] (fun v wr => ∃ v' : Nat, 1 ≤ v' ∧ v' ≤ 201 ∧ v = .int .i64 v' ∧ Fb wr w4.heap.size (fun x => decide (1 ≤ x) && decide (x < v') && twoB k (m1 x) (m2 x)) ∧ Below w4.heap.size w5 wr) (fun v _ => 201 - (intOf v).toNat)
  case atStart => exact ⟨1, by omega, by omega, rfl, hfo, Below.refl _ _⟩
  case round =>
    clear hfo
    obtain ⟨v', hv1, hv2, rfl, hf, hbw⟩ := hrel
    by_cases hlt : v' ≤ 200
    case pos =>
      have t1 : decide ((v' : Int) ≤ 200) = true := by simp; omega
      have t2 : v' < 201 := by omega
      have cx := (hfx5.out.belowB hbw hxlt.out).cell t2
      have cy := (hfy5.out.belowB hbw hylt.out).cell t2
      have hfz := hf.frozen v'
      have co := hf.cell t2
      have hbw' := Lib.hid hbw
      have hf' := Lib.hid hf
      have hstep := Lib.hid (step_fl (fun x => twoB k (m1 x) (m2 x)) v' hv1)
      have hset := fun v => hf'.out.set v' v
      have hset' := Lib.hid hset
      clear hbw hf hset
      have fin : ∀ V : Bool, twoB k (m1 v') (m2 v') = V → Fb (wr.setCell ⟨w4.heap.size, v', none⟩ (.bool V)) w4.heap.size (fun x => decide (1 ≤ x) && decide (x < v' + 1) && twoB k (m1 x) (m2 x)) := by
        rintro V rfl
        have := hset'.out (twoB k (m1 v') (m2 v'))
        rw [← hstep.out]
        exact this
      have fin' := Lib.hid fin
      have fbw : ∀ V : Value, Below w4.heap.size w5 (wr.setCell ⟨w4.heap.size, v', none⟩ V) := fun V => below_set hbw'.out (Nat.le_refl _) V
      have fbw' := Lib.hid fbw
      clear fin fbw
      by_cases k0 : k = 0
      · subst k0
        cases hx : m1 v' <;> cases hy : m2 v' <;> rw [hx] at cx <;> rw [hy] at cy
        · have hV := Lib.hid (fin'.out false (by rw [hx, hy]; rfl))
          clear hx hy
          go_wp2_with fail
          go_roundw
          case rel => exact ⟨v' + 1, by omega, by omega, by go_num, hV.out, fbw'.out _⟩
          case measure => simp [intOf]; omega
        · have hV := Lib.hid (fin'.out true (by rw [hx, hy]; rfl))
          clear hx hy
          go_wp2_with fail
          go_roundw
          case rel => exact ⟨v' + 1, by omega, by omega, by go_num, hV.out, fbw'.out _⟩
          case measure => simp [intOf]; omega
        · have hV := Lib.hid (fin'.out true (by rw [hx, hy]; rfl))
          clear hx hy
          go_wp2_with fail
          go_roundw
          case rel => exact ⟨v' + 1, by omega, by omega, by go_num, hV.out, fbw'.out _⟩
          case measure => simp [intOf]; omega
        · have hV := Lib.hid (fin'.out true (by rw [hx, hy]; rfl))
          clear hx hy
          go_wp2_with fail
          go_roundw
          case rel => exact ⟨v' + 1, by omega, by omega, by go_num, hV.out, fbw'.out _⟩
          case measure => simp [intOf]; omega
      by_cases k1 : k = 1
      · subst k1
        cases hx : m1 v' <;> cases hy : m2 v' <;> rw [hx] at cx <;> rw [hy] at cy
        · have hV := Lib.hid (fin'.out false (by rw [hx, hy]; rfl))
          clear hx hy
          go_wp2_with fail
          go_roundw
          case rel => exact ⟨v' + 1, by omega, by omega, by go_num, hV.out, fbw'.out _⟩
          case measure => simp [intOf]; omega
        · have hV := Lib.hid (fin'.out false (by rw [hx, hy]; rfl))
          clear hx hy
          go_wp2_with fail
          go_roundw
          case rel => exact ⟨v' + 1, by omega, by omega, by go_num, hV.out, fbw'.out _⟩
          case measure => simp [intOf]; omega
        · have hV := Lib.hid (fin'.out false (by rw [hx, hy]; rfl))
          clear hx hy
          go_wp2_with fail
          go_roundw
          case rel => exact ⟨v' + 1, by omega, by omega, by go_num, hV.out, fbw'.out _⟩
          case measure => simp [intOf]; omega
        · have hV := Lib.hid (fin'.out true (by rw [hx, hy]; rfl))
          clear hx hy
          go_wp2_with fail
          go_roundw
          case rel => exact ⟨v' + 1, by omega, by omega, by go_num, hV.out, fbw'.out _⟩
          case measure => simp [intOf]; omega
      by_cases k2 : k = 2
      · subst k2
        cases hx : m1 v' <;> cases hy : m2 v' <;> rw [hx] at cx <;> rw [hy] at cy
        · have hV := Lib.hid (fin'.out false (by rw [hx, hy]; rfl))
          clear hx hy
          go_wp2_with fail
          go_roundw
          case rel => exact ⟨v' + 1, by omega, by omega, by go_num, hV.out, fbw'.out _⟩
          case measure => simp [intOf]; omega
        · have hV := Lib.hid (fin'.out false (by rw [hx, hy]; rfl))
          clear hx hy
          go_wp2_with fail
          go_roundw
          case rel => exact ⟨v' + 1, by omega, by omega, by go_num, hV.out, fbw'.out _⟩
          case measure => simp [intOf]; omega
        · have hV := Lib.hid (fin'.out true (by rw [hx, hy]; rfl))
          clear hx hy
          go_wp2_with fail
          go_roundw
          case rel => exact ⟨v' + 1, by omega, by omega, by go_num, hV.out, fbw'.out _⟩
          case measure => simp [intOf]; omega
        · have hV := Lib.hid (fin'.out false (by rw [hx, hy]; rfl))
          clear hx hy
          go_wp2_with fail
          go_roundw
          case rel => exact ⟨v' + 1, by omega, by omega, by go_num, hV.out, fbw'.out _⟩
          case measure => simp [intOf]; omega
      have hV := Lib.hid (fin'.out false (by simp [twoB, k0, k1, k2]))
      have b0 : (k == 0) = false := by simpa using k0
      have b1 : (k == 1) = false := by simpa using k1
      have b2 : (k == 2) = false := by simpa using k2
      clear k0 k1 k2
      go_wp2_with fail
      go_roundw
      case rel => exact ⟨v' + 1, by omega, by omega, by go_num, hV.out, fbw'.out _⟩
      case measure => simp [intOf]; omega
    case neg =>
      have t1 : decide ((v' : Int) ≤ 200) = false := by simp; omega
      obtain rfl : v' = 201 := by omega
      obtain ⟨M, hM⟩ : ∃ M, (fun x => decide (1 ≤ x) && decide (x < 201) && twoB k (m1 x) (m2 x)) = M := ⟨_, rfl⟩
      rw [hM] at hf
      have hsp : sp M = R := by
        rw [← hR'.out]
        unfold two?
        rw [ho1'.out, ho2'.out, if_pos (show (true && true) = true from rfl), ← hM]
        refine sp_congr fun x h1 h2 => ?_
        have e1 : decide (1 ≤ x) = true := by simpa using h1
        have e2 : decide (x < 201) = true := by simp; omega
        rw [e1, e2, ← hm1'.out, ← hm2'.out, ho1'.out, ho2'.out]
        simp
      have hsp' := Lib.hid hsp
      have hf' := Lib.hid hf
      have hbw' := Lib.hid (hx5.out.trans (hbw.mono hx4.out.size))
      clear hf hbw hM hsp
      go_wp2_with fail
      refine wp_load_row 43 _ rfl w4.heap.size rfl _ (fl M) _ _ hf'.out Tryz.underlying43 rfl (info_set _) ?_
      have cs := spans_any M wr
      rw [hsp'.out] at cs
      go_wp2_with fail
      refine cs.mono ?_
      rintro e w6 ⟨A6, c6, rfl, ho6, hb6⟩
      have hx6 := Lib.hid (hbw'.out.trans (hb6.mono hbw'.out.size))
      have ho6' := Lib.hid (ho6.mono hbw'.out.size)
      clear ho6 hb6 cs
      go_wp2_with fail
      go_ret
      exact ⟨A6, c6, rfl, ho6'.out, hx6.out⟩
end Go.Proofs.YtppmnelgekhbnaaGreatDoor.IvW
