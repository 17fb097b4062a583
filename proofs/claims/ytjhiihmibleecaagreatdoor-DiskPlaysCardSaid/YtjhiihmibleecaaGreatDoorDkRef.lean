/- What the laws ask of the document: Bytes, Small, Same, May; the law's small. -/
import Derived.Test.YtjhiihmibleecaaGreatDoorDkLoad
namespace Go.Proofs.YtjhiihmibleecaaGreatDoor.Dk
open Go.RowKit

set_option maxHeartbeats 400000 in
theorem bytes_same (A : Option Addr) (n c : Nat) (l : List UInt8) (A2 : Option Addr) (n2 c2 : Nat) (w : World) (hBs : Bs w A n c l) (hBs2 : Bs w A2 n2 c2 l) :
    Calls Tryz.prog 19 #[.slice A n c, .slice A2 n2 c2] w fun e w' => e = .returned (.bool true) ∧ ∃ k, w' = w.drewN k := by
  have hn := Rd.le hBs
  have hm := Rd.max hBs
  have hn2 := Rd.le hBs2
  have hm2 := Rd.max hBs2
  have HN : Hid (l.length = n) := hBs.len
  have HN2 : Hid (l.length = n2) := hBs2.len
  obtain rfl : n = n2 := HN.out.symm.trans HN2.out
  go_enter Tryz.func19, Tryz.ntmps19
  go_wp2
  go_loopw [5] (fun i wr => ∃ k m : Nat, k ≤ n ∧ i = .int .i64 k ∧ wr = w.drewN m) (fun i _ => n - (intOf i).toNat)
  case atStart => exact ⟨0, 0, by omega, rfl, rfl⟩
  case round =>
    obtain ⟨k, m, hk, rfl, rfl⟩ := hrel
    by_cases hlt : k < n
    · obtain ⟨b, off, x, rfl, _, hx, hx8, hc⟩ := hBs.at_ hlt
      obtain ⟨b2, off2, y, rfl, _, hy, hy8, hc2⟩ := hBs2.at_ hlt
      obtain rfl : x = y := Option.some.inj (hx.symm.trans hy)
      have HX := Lib.hid hx
      clear hx hy
      have i0 : (k : Int) < (n : Int) := by omega
      have hb : ((x.toNat : Int) != (x.toNat : Int)) = false := by simp
      go_wp2_with fail
      go_quiet (fail)
      go_wp2_with fail
      go_roundw
      case rel => exact ⟨k + 1, _, by omega, by go_num, rfl⟩
      case measure => simp [intOf]; omega
    · obtain rfl : k = n := by omega
      go_wp2_with fail
      go_ret
      exact ⟨rfl, _, rfl⟩

/-- Files such as are gone through. -/
structure Sm (l : List In) : Prop where
  len : l.length ≤ 100
  nm : ∀ f ∈ l, f.nm.length ≤ 1000
  sum : (l.map (·.data.length)).sum ≤ 16384

def SmP (l : List In) (w : World) (e : Ending) (w' : World) : Prop := ∃ b, e = .returned (.bool b) ∧ (b = true → Sm l) ∧ w = w'

theorem sum_take_succ {l : List In} {k : Nat} {f : In} (h : l[k]? = some f) : ((l.take (k + 1)).map (·.data.length)).sum = ((l.take k).map (·.data.length)).sum + f.data.length := by
  rw [take_snoc h]; simp

set_option maxHeartbeats 1000000 in
set_option maxRecDepth 100000 in
theorem Small_any (A : Option Addr) (n c : Nat) (l : List In) (w : World) (h : Sq FeEl 3 w A n c l) (hsz : ∀ f ∈ l, f.data.length ≤ 140737488351232) :
    Calls Tryz.prog 5 #[.slice A n c] w (SmP l w) := by
  have hl := Lib.hid h.len
  have hle := h.le
  have hmx := h.max
  have h' := Lib.hid h
  have hsz' := Lib.hid hsz
  clear h hsz
  go_enter Tryz.func5, Tryz.ntmps5
  go_wp2_with fail
  go_loop [3, 4] (fun s i => ∃ (k m : Nat), k ≤ n ∧ k ≤ 100 ∧ i = .int .i64 k ∧ s = .int .i64 m ∧ m ≤ k * 140737488351232 ∧ Hid (m = ((l.take k).map (·.data.length)).sum ∧ ∀ f ∈ l.take k, f.nm.length ≤ 1000)) (fun _ i => n - (intOf i).toNat)
  case atStart => exact ⟨0, 0, by omega, by omega, rfl, rfl, by omega, Lib.hid ⟨rfl, fun f hf => (by simp at hf)⟩⟩
  case round =>
    obtain ⟨k, m, hk, hk100, rfl, rfl, hm, hrel⟩ := hrel
    by_cases hlt : k < n
    · obtain ⟨b, off, f, vs, rfl, hb, hf, hvs, hel, hcs⟩ := h'.out.at_ hlt
      obtain ⟨s, A0, n0, c0, rfl, hnm, hbs⟩ := hel
      have k0 : w.cell? ⟨b, off + k * 3, none⟩ = some (.string s) := hcs 0 _ rfl
      have k1 : w.cell? ⟨b, off + k * 3 + 1, none⟩ = some (.slice A0 n0 c0) := hcs 1 _ rfl
      have hn0 := hbs.len
      have hf2 := hsz'.out f (List.mem_of_getElem? hf)
      rw [hn0] at hf2
      have hn0' := Lib.hid hn0
      have hnm' := Lib.hid hnm
      have hf' := Lib.hid hf
      clear hcs hvs hbs hn0 hnm hf
      by_cases h100 : 100 ≤ k
      · have d1 : decide ((100 : Int) ≤ (k : Int)) = true := by rw [decide_eq_true_eq]; omega
        have d2 : decide (100 ≤ k) = true := by rw [decide_eq_true_eq]; omega
        go_wp2_with fail
        go_ret
        exact ⟨false, rfl, fun h => (by cases h), rfl⟩
      · have d1 : decide ((100 : Int) ≤ (k : Int)) = false := by rw [decide_eq_false_iff_not]; omega
        have d2 : decide (100 ≤ k) = false := by rw [decide_eq_false_iff_not]; omega
        by_cases hs : 1000 < s.size
        · have d3 : decide (1000 < s.size) = true := by rw [decide_eq_true_eq]; omega
          have d4 : decide ((1000 : Int) < (s.size : Int)) = true := by rw [decide_eq_true_eq]; omega
          go_wp2_with fail
          go_ret
          exact ⟨false, rfl, fun h => (by cases h), rfl⟩
        · have d3 : decide (1000 < s.size) = false := by rw [decide_eq_false_iff_not]; omega
          have d4 : decide ((1000 : Int) < (s.size : Int)) = false := by rw [decide_eq_false_iff_not]; omega
          have q1 : IntKind.i64.wrap ((m : Int) + (n0 : Int)) = ((m + n0 : Nat) : Int) := by rw [IntWalk.i64_in _ (by omega)]; omega
          go_wp2_with fail
          go_round
          case rel =>
            refine ⟨k + 1, m + n0, by omega, by omega, by go_num, by go_num, by omega, Lib.hid ⟨?_, ?_⟩⟩
            · rw [sum_take_succ hf'.out, ← hrel.out.1, hn0'.out]
            · intro g hg
              rw [take_snoc hf'.out] at hg
              rcases List.mem_append.1 hg with hg | hg
              · exact hrel.out.2 g hg
              · rw [List.mem_singleton.1 hg, hnm'.out, Array.length_toList]
                show s.size ≤ 1000
                omega
          case measure => simp [intOf]; omega
    · have hkn : k = n := by omega
      subst hkn
      go_wp2_with fail
      go_ret
      refine ⟨_, rfl, fun hm2 => ?_, rfl⟩
      have := hrel.out
      rw [List.take_of_length_le (by have := hl.out; omega)] at this
      refine ⟨by rw [hl.out]; exact hk100, this.2, ?_⟩
      have h3 := this.1
      have h4 : (m : Int) ≤ 16384 := by simpa using hm2
      omega

set_option maxHeartbeats 1000000 in
set_option maxRecDepth 100000 in
theorem Same_refl (A : Option Addr) (n c : Nat) (A2 : Option Addr) (n2 c2 : Nat) (l : List In) (w : World) (h : Sq FeEl 3 w A n c l) (h2 : Sq FeEl 3 w A2 n2 c2 l) :
    Calls Tryz.prog 11 #[.slice A n c, .slice A2 n2 c2] w fun e w' => e = .returned (.bool true) ∧ ∃ k, w' = w.drewN k := by
  obtain rfl : n = n2 := h.len.symm.trans h2.len
  have hle := h.le
  have hmx := h.max
  have hle2 := h2.le
  have hmx2 := h2.max
  have h' := Lib.hid h
  have h2' := Lib.hid h2
  clear h h2
  go_enter Tryz.func11, Tryz.ntmps11
  go_wp2_with fail
  go_loopw [5] (fun i wr => ∃ k m : Nat, k ≤ n ∧ i = .int .i64 k ∧ wr = w.drewN m) (fun i _ => n - (intOf i).toNat)
  case atStart => exact ⟨0, 0, by omega, rfl, rfl⟩
  case round =>
    obtain ⟨k, m, hk, rfl, rfl⟩ := hrel
    by_cases hlt : k < n
    · obtain ⟨b, off, f, vs, rfl, hb, hf, hvs, hel, hcs⟩ := h'.out.at_ hlt
      obtain ⟨b2, off2, f2, vs2, rfl, hb2, hf2, hvs2, hel2, hcs2⟩ := h2'.out.at_ hlt
      obtain rfl : f = f2 := Option.some.inj (hf.symm.trans hf2)
      obtain ⟨s, A0, n0, c0, rfl, hnm, hbs⟩ := hel
      obtain ⟨s2, A20, n20, c20, rfl, hnm2, hbs2⟩ := hel2
      obtain rfl : s = s2 := by
        have : s.data.toList = s2.data.toList := hnm.symm.trans hnm2
        cases s; cases s2
        rw [Array.toList_inj] at this
        rw [ByteArray.mk.injEq]
        exact this
      have k0 : w.cell? ⟨b, off + k * 3, none⟩ = some (.string s) := hcs 0 _ rfl
      have k1 : w.cell? ⟨b, off + k * 3 + 1, none⟩ = some (.slice A0 n0 c0) := hcs 1 _ rfl
      have k2 : w.cell? ⟨b, off + k * 3 + 2, none⟩ = some (.int .i64 f.safe) := hcs 2 _ rfl
      have m0 : w.cell? ⟨b2, off2 + k * 3, none⟩ = some (.string s) := hcs2 0 _ rfl
      have m1 : w.cell? ⟨b2, off2 + k * 3 + 1, none⟩ = some (.slice A20 n20 c20) := hcs2 1 _ rfl
      have m2 : w.cell? ⟨b2, off2 + k * 3 + 2, none⟩ = some (.int .i64 f.safe) := hcs2 2 _ rfl
      have e1 : (f.safe != f.safe) = false := by simp
      have hbs' := Lib.hid hbs
      have hbs2' := Lib.hid hbs2
      clear hcs hvs hbs hnm hf hcs2 hvs2 hbs2 hnm2 hf2
      have i0 : (k : Int) < (n : Int) := by omega
      go_wp2_with fail
      refine Pl.wp_region_plan 38 (.take 0 (.take 1 (.take 2 (.take 3 (.take 4 (.take 5 (.take 6 (.take 7 (.take 8 (.take 9 (.take 10 (.take 11 (.take 12 (.take 13 (.take 14 (.take 15 (.take 16 (.take 17 (.take 18 (.take 19 (.take 20 (.take 21 (.take 22 (.take 23 (.take 24 (.take 25 (.take 26 (.take 27 (.take 28 (.take 29 (.take 30 (.take 31 (.take 32 (.take 33 (.take 34 (.run 35 (.take 36 (.take 37 .done))))))))))))))))))))))))))))))))))))))
        (fun x => x.cell? ⟨b, off + k * 3, none⟩ = some (.string s) ∧ x.cell? ⟨b, off + k * 3 + 1, none⟩ = some (.slice A0 n0 c0) ∧ x.cell? ⟨b, off + k * 3 + 2, none⟩ = some (.int .i64 f.safe) ∧ x.cell? ⟨b2, off2 + k * 3, none⟩ = some (.string s) ∧ x.cell? ⟨b2, off2 + k * 3 + 1, none⟩ = some (.slice A20 n20 c20) ∧ x.cell? ⟨b2, off2 + k * 3 + 2, none⟩ = some (.int .i64 f.safe)) (by kernel_rfl) (by kernel_rfl) (by exact ⟨k0, k1, k2, m0, m1, m2⟩) ?_
      simp only [Pl.fill, List.getElem?_cons_zero, List.getElem?_cons_succ, List.drop_succ_cons, List.drop_zero]
      iterate 35
        refine Pl.take_go ?_ (by rfl) (fun _ _ _ h => h) ?_ ?_
        rotate_left
        · (intro x hSw; (try dsimp only at hSw); go_simp; try with_reducible rfl)
        try simp only [Act.put, List.setIfInBounds_toArray, List.set_cons_zero, List.set_cons_succ]
      refine Pl.run_go (fun K hK => ?_)
      go_simp
      refine (bytes_same _ _ _ _ _ _ _ _ (hbs'.out.below (Joins.below_draws _ w (m + 1))) (hbs2'.out.below (Joins.below_draws _ w (m + 1)))).mono ?_
      rintro e w3 ⟨rfl, j, rfl⟩
      dsimp only
      refine hK.out _ _ (Pl.more_go _ (fun _ h => h) (by exact ⟨k0, k1, k2, m0, m1, m2⟩) ?_)
      clear hK K
      iterate 2
        refine Pl.take_go ?_ (by rfl) (fun _ _ _ h => h) ?_ ?_
        rotate_left
        · (intro x hSw; (try dsimp only at hSw); go_simp; try with_reducible rfl)
        try simp only [Act.put, List.setIfInBounds_toArray, List.set_cons_zero, List.set_cons_succ]
      refine Pl.done_go ?_
      go_wp2_with fail
      go_roundw
      case rel => exact ⟨k + 1, m + 1 + j, by omega, by go_num, rfl⟩
      case measure => simp [intOf]; omega
    · obtain rfl : k = n := by omega
      go_wp2_with fail
      go_ret
      exact ⟨rfl, _, rfl⟩
end Go.Proofs.YtjhiihmibleecaaGreatDoor.Dk
