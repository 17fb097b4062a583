/- The law ManBack. -/
import Derived.Test.YtpolobklcgfciaaDoorManLaw
namespace Go.Proofs.YtpolobklcgfciaaDoor.Ma
open Go.RowKit Go.Shelf

set_option maxHeartbeats 1000000 in
set_option maxRecDepth 100000 in
/-- The document's Same, of two manifests that are the same. -/
theorem refSame_any (g la : Int) (A : Option Addr) (n c : Nat) (A2 : Option Addr) (n2 c2 : Nat) (ss : List Int) (w : World) (hI : Is w A n c ss) (hI2 : Is w A2 n2 c2 ss) :
    Calls Tryd.prog 9 #[.agg #[.int .i64 g, .int .i64 la, .slice A n c], .agg #[.int .i64 g, .int .i64 la, .slice A2 n2 c2]] w fun e w' => e = .returned (.bool true) ∧ Below w.heap.size w w' := by
  obtain rfl : n = n2 := hI.len.symm.trans hI2.len
  have hle := Rd.le hI
  have hm := Rd.max hI
  have hle2 := Rd.le hI2
  have hm2 := Rd.max hI2
  have hn' := Lib.hid hI.len
  have hb0 := below_alloc w (.cells #[.int .i64 g, .int .i64 la, .slice A n c] 24)
  have hb1 := below_alloc (w.alloc (.cells #[.int .i64 g, .int .i64 la, .slice A n c] 24)) (.cells #[.int .i64 g, .int .i64 la, .slice A2 n c2] 24)
  have hm0 := (mb_new w g la A n c).below hb1
  have hm1 := mb_new (w.alloc (.cells #[.int .i64 g, .int .i64 la, .slice A n c] 24)) g la A2 n c2
  have hI1 := (hI.below hb0).below hb1
  have hI3 := (hI2.below hb0).below hb1
  have hx := hb0.trans (hb1.mono hb0.size)
  have hs1 : (w.alloc (.cells #[.int .i64 g, .int .i64 la, .slice A n c] 24)).heap.size = w.heap.size + 1 := by simp
  rw [hs1] at hm1
  obtain ⟨wz, hwz⟩ : ∃ wz, (w.alloc (.cells #[.int .i64 g, .int .i64 la, .slice A n c] 24)).alloc (.cells #[.int .i64 g, .int .i64 la, .slice A2 n c2] 24) = wz := ⟨_, rfl⟩
  rw [hwz] at hm0 hm1 hI1 hI3 hx
  clear hb0 hb1 hs1 hI hI2
  have hx' := Lib.hid hx
  clear hx
  go_enter Tryd.func9, Tryd.ntmps9
  go_upto_region 1 with fail
  obtain ⟨k0, k1, k2, _⟩ := hm0.mf
  obtain ⟨l0, l1, l2, _⟩ := hm1.mf
  go_wp2_with fail
  go_loopw [5] (fun v wr => ∃ k p : Nat, k ≤ n ∧ v = .int .i64 (k : Nat) ∧ wr = wz.drewN p) (fun v _ => n - (intOf v).toNat)
  case atStart => exact ⟨0, 0, by omega, rfl, rfl⟩
  case round =>
    obtain ⟨k, p, hk, rfl, rfl⟩ := hrel
    have hbp := Joins.below_draws wz.heap.size wz p
    obtain ⟨k0, k1, k2, _⟩ := (hm0.below hbp).mf
    obtain ⟨l0, l1, l2, _⟩ := (hm1.below hbp).mf
    have hIa := hI1.below hbp
    have hIb := hI3.below hbp
    have hxr := Lib.hid (hx'.out.trans (hbp.mono hx'.out.size))
    obtain ⟨wr, hwr⟩ : ∃ wr, wz.drewN p = wr := ⟨_, rfl⟩
    have hdr : ∀ q, wr.drewN q = wz.drewN (p + q) := fun q => by rw [← hwr, World.drewN_drewN]
    rw [hwr] at k0 k1 k2 l0 l1 l2 hIa hIb hxr ⊢
    have hdr' := Lib.hid hdr
    clear hdr hwr hbp
    by_cases hlt : k < n
    · have i0 : decide ((k : Int) < (n : Int)) = true := by simp; omega
      have i1 : (k : Int) < (n : Int) := by omega
      obtain ⟨b, off, x, rfl, _, hxk, hc⟩ := hIa.at_ hlt
      obtain ⟨b2, off2, y, rfl, _, hyk, hc2⟩ := hIb.at_ hlt
      obtain rfl : x = y := Option.some.inj (hxk.symm.trans hyk)
      have hne : (x != x) = false := by simp
      clear hxk hyk
      go_wp2_with fail
      go_quiet (fail)
      go_wp2_with fail
      go_roundw
      case rel => exact ⟨k + 1, _, by omega, by go_num, hdr'.out _⟩
      case measure => simp [intOf]; omega
    · have i0 : decide ((k : Int) < (n : Int)) = false := by simp; omega
      go_wp2_with fail
      go_ret
      exact ⟨rfl, hxr.out⟩
end Go.Proofs.YtpolobklcgfciaaDoor.Ma
