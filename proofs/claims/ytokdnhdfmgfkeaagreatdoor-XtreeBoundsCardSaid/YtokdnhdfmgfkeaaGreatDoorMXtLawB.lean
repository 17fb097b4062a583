/- The law XtreeBounds. Printed by xt_lawb.py. -/
import Derived.Test.YtokdnhdfmgfkeaaGreatDoorMXtSound
import Derived.Test.YtokdnhdfmgfkeaaGreatDoorMXoSize
namespace Go.Proofs.YtokdnhdfmgfkeaaGreatDoor.Xt
open Go.RowKit UtfW Xl Xo Er

/-- What a text that parses builds. -/
theorem parsed_bounds {S : Tx} {p : Nat} {d : Doc} (hS : S.length ≤ 8192) (h : parseF S = (0, p, d)) : misc d.before ∧ misc d.after ∧ d.root.kind = 1 ∧ soundN d.root = true ∧ depthN d.root ≤ 32 ∧ countN d.root + d.before.length + d.after.length ≤ 4096 ∧ (writeN d.root).length ≤ 1000000 := by
  unfold parseF at h
  split at h
  · rename_i hne
    injection h with h _
    exact absurd h hne
  · rename_i he
    have he : (Xl.allF S).1 = 0 := Classical.byContradiction he
    have hall : Xl.allF S = (0, (Xl.allF S).2.1, (Xl.allF S).2.2) := by rw [← he]
    have hP := all_P hall
    obtain ⟨b1, b2, b3, b4, b5, b6⟩ := bounds (fun t ht => (hP.1 t ht).2.2) h
    have hm := parsed_may hS hall h
    refine ⟨b1, b2, b3, b4, b5, b6, ?_⟩
    unfold mayD at hm
    simp only [Bool.and_eq_true, decide_eq_true_eq] at hm
    have := hm.2
    unfold writeD at this
    simp only [List.length_append] at this
    omega
section
variable (w : World)
set_option maxHeartbeats 8000000 in
set_option maxRecDepth 100000 in
theorem bounds_law (hU : Un w) (hE : En w.heap.size w) (A : Option Addr) (n c : Nat) (S : Tx) (hBs : Bs w A n c S) :
    Calls Tryz.prog 5 #[.slice A n c] w fun e w' => e = .returned (.bool true) ∧ Below w.heap.size w w' := by
  have haw := Lib.hid (awake10 w hU hE)
  have hl : S.length = n := hBs.len
  by_cases hbig : n > 8192
  · have g1 : decide ((n : Int) > 8192) = true := by simp; omega
    have g2 : decide ((8192 : Int) < (n : Int)) = true := by simp; omega
    clear hU hE hBs
    go_enter Tryz.func5, Tryz.ntmps5
    go_wp2_with fail
    refine haw.out.mono ?_
    rintro e9 w1 ⟨rfl, hb1⟩
    replace hb1 := Lib.hid hb1
    go_wp2_with fail
    go_ret
    exact ⟨rfl, hb1.out⟩
  have g1 : decide ((n : Int) > 8192) = false := by simp; omega
  have g2 : decide ((8192 : Int) < (n : Int)) = false := by simp; omega
  replace hBs := Lib.hid hBs
  replace hU := Lib.hid hU
  replace hE := Lib.hid hE
  go_enter Tryz.func5, Tryz.ntmps5
  go_wp2_with fail
  refine haw.out.mono ?_
  rintro e9 w1 ⟨rfl, hb1⟩
  have hpc := Lib.hid (parse_any w1 (hU.out.below hb1) A n c S (hBs.out.below hb1) (by omega))
  replace hb1 := Lib.hid hb1
  clear haw hBs
  go_wp2_with fail
  refine hpc.out.mono ?_
  intro e3 w3 h3
  cases hpf : parseF S with
  | mk cd r =>
  obtain ⟨p, d⟩ := r
  by_cases hcd : cd = 0
  · subst hcd
    obtain ⟨hb3, vd, rfl, hdo⟩ := h3.ok hpf
    obtain ⟨m1, m2, hk, hso, hdp, hct, hwr⟩ := parsed_bounds (by omega) hpf
    obtain ⟨A1, c1, kd, nm, tx, as_, ks, Ar, cr, Ak, ck, A2, c2, rfl, hr, hS⟩ := hdo.parts
    obtain ⟨bf, rt, af⟩ := d
    simp only at hr m1 m2 hk hso hdp hct hwr hS
    subst hr
    have hk : kd = 1 := hk
    subst hk
    obtain ⟨n1, hn1⟩ : ∃ n1, bf.length = n1 := ⟨_, rfl⟩
    obtain ⟨n2, hn2⟩ : ∃ n2, af.length = n2 := ⟨_, rfl⟩
    obtain ⟨n5, hn5⟩ : ∃ n5, as_.length = n5 := ⟨_, rfl⟩
    obtain ⟨n6, hn6⟩ : ∃ n6, ks.length = n6 := ⟨_, rfl⟩
    obtain ⟨C, hC⟩ : ∃ C, countN (.mk 1 nm tx as_ ks) = C := ⟨_, rfl⟩
    obtain ⟨D, hD⟩ : ∃ D, depthN (.mk 1 nm tx as_ ks) = D := ⟨_, rfl⟩
    simp only [hn1, hn2, hn5, hn6]
    have hba := below_alloc w3 (.cells #[.slice A1 n1 c1, .int .i64 1, .string (strOf nm), .string (strOf tx), .slice Ar n5 cr, .slice Ak n6 ck, .slice A2 n2 c2] 27)
    have hnb := heap_alloc_new w3 (.cells #[.slice A1 n1 c1, .int .i64 1, .string (strOf nm), .string (strOf tx), .slice Ar n5 cr, .slice Ak n6 ck, .slice A2 n2 c2] 27)
    have hx4 := Lib.hid (hb1.out.trans ((hb3.trans (hba.mono hb3.size)).mono hb1.out.size))
    have hX3 : ∀ j, (w1.heap.size ≤ j ∧ j < w3.heap.size) → j < w3.heap.size := fun j hj => hj.2
    have hX4 : ∀ j, (w1.heap.size ≤ j ∧ j < w3.heap.size) → j < (w3.alloc (.cells #[.slice A1 n1 c1, .int .i64 1, .string (strOf nm), .string (strOf tx), .slice Ar n5 cr, .slice Ak n6 ck, .slice A2 n2 c2] 27)).heap.size := fun j hj => Nat.lt_of_lt_of_le hj.2 hba.size
    have hS4 := hS.later hX3 hba
    have cc := fun z hz => rcount_any (SizeOf.sizeOf (Nd.mk 1 nm tx as_ ks)) _ z _ _ (Nat.le_refl _) (hS4.later hX4 hz).root (fun j hj => Nat.lt_of_lt_of_le (hX4 j hj) hz.size) (by omega)
    have cd := fun z hz => rdepth_any (SizeOf.sizeOf (Nd.mk 1 nm tx as_ ks)) _ z _ _ (Nat.le_refl _) (hS4.later hX4 hz).root (fun j hj => Nat.lt_of_lt_of_le (hX4 j hj) hz.size) (by omega)
    have cs := fun z hz => sound_any (SizeOf.sizeOf (Nd.mk 1 nm tx as_ ks)) _ z _ _ (Nat.le_refl _) (hS4.later hX4 hz).root (fun j hj => Nat.lt_of_lt_of_le (hX4 j hj) hz.size) hso hwr
    have cb := fun (z : World) (hz : Below (w3.alloc (.cells #[.slice A1 n1 c1, .int .i64 1, .string (strOf nm), .string (strOf tx), .slice Ar n5 cr, .slice Ak n6 ck, .slice A2 n2 c2] 27)).heap.size (w3.alloc (.cells #[.slice A1 n1 c1, .int .i64 1, .string (strOf nm), .string (strOf tx), .slice Ar n5 cr, .slice Ak n6 ck, .slice A2 n2 c2] 27)) z) => (hS4.later hX4 hz).bef
    have ca := fun (z : World) (hz : Below (w3.alloc (.cells #[.slice A1 n1 c1, .int .i64 1, .string (strOf nm), .string (strOf tx), .slice Ar n5 cr, .slice Ak n6 ck, .slice A2 n2 c2] 27)).heap.size (w3.alloc (.cells #[.slice A1 n1 c1, .int .i64 1, .string (strOf nm), .string (strOf tx), .slice Ar n5 cr, .slice Ak n6 ck, .slice A2 n2 c2] 27)) z) => (hS4.later hX4 hz).aft
    rw [hC] at cc hct
    rw [hD] at cd hdp
    rw [hn5, hn6] at cc cd cs
    rw [hn1] at cb hct
    rw [hn2] at ca hct
    replace cc := Lib.hid cc
    replace cd := Lib.hid cd
    replace cs := Lib.hid cs
    replace cb := Lib.hid cb
    replace ca := Lib.hid ca
    replace hnb := Lib.hid hnb
    replace m1 := Lib.hid m1
    replace m2 := Lib.hid m2
    clear hb3 h3 hdo hba hS4 hX3 hX4 hpc hpf hS hso hwr hn1 hn2 hn5 hn6 hC hD
    go_upto_region 6 with fail
    change Code.wp _ _ _ _ (w3.alloc (.cells #[.slice A1 n1 c1, .int .i64 1, .string (strOf nm), .string (strOf tx), .slice Ar n5 cr, .slice Ak n6 ck, .slice A2 n2 c2] 27))
    generalize w3.alloc (.cells #[.slice A1 n1 c1, .int .i64 1, .string (strOf nm), .string (strOf tx), .slice Ar n5 cr, .slice Ak n6 ck, .slice A2 n2 c2] 27) = w4 at hx4 cc cd cs cb ca hnb ⊢
    generalize w3.heap.size = T at hnb ⊢
    go_wp2_with fail
    refine (Code_ok w4).mono ?_
    rintro e5 w5 ⟨rfl, hb5⟩
    have hT5 := (hb5.block T (Array.getElem?_eq_some_iff.1 hnb.out).1).trans hnb.out
    have y1 := cell_blk hT5 (i := 1) rfl
    have y2 := cell_blk hT5 (i := 2) rfl
    have y3 := cell_blk hT5 (i := 3) rfl
    have y4 := cell_blk hT5 (i := 4) rfl
    have y5 := cell_blk hT5 (i := 5) rfl
    have cc5 := Lib.hid (cc.out w5 hb5)
    replace hb5 := Lib.hid hb5
    clear hT5 cc
    go_wp2_with fail
    refine cc5.out.mono ?_
    rintro e6 w6 ⟨rfl, hb6⟩
    replace hb6 := Lib.hid (hb5.out.trans (hb6.mono hb5.out.size))
    clear hb5 cc5 y1 y2 y3 y4 y5
    go_wp2_with fail
    go_loopw [5, 6] (fun v5 vi wr => ∃ i : Nat, i ≤ n1 ∧ vi = .int .i64 (i : Nat) ∧ v5 = .int .i64 ((C + i : Nat) : Int) ∧ Hid (Below w4.heap.size w4 wr)) (fun _ vi _ => n1 - (intOf vi).toNat)
    case atStart => exact ⟨0, Nat.zero_le _, rfl, rfl, hb6⟩
    case round =>
      obtain ⟨i, hi, rfl, rfl, hb7⟩ := hrel
      have hTr := (hb7.out.block T (Array.getElem?_eq_some_iff.1 hnb.out).1).trans hnb.out
      have z := cell_blk hTr (i := 0) rfl
      clear hTr
      by_cases hlt : i < n1
      · have i1 : decide ((i : Int) < (n1 : Int)) = true := by simp; omega
        have q1 : (i : Int) < (n1 : Int) := by omega
        have q2 : ((C + i : Nat) : Int) + 1 < 1000000 := by omega
        have q3 : (0 : Int) ≤ ((C + i : Nat) : Int) := by omega
        have hKr := cb.out _ hb7.out
        have hmx := hKr.max
        have hle := hKr.le
        obtain ⟨b1, off1, x, vs1, rfl, hbl, hx1, _, hv1, hc1⟩ := hKr.at_ hlt
        have hmi := m1.out x (List.mem_of_getElem? hx1)
        obtain ⟨xk, xn, xt, xa, xs⟩ := x
        obtain ⟨Ax, cax, A2x, c2x, rfl, -⟩ := hv1.cells
        have m0 := hc1 0 _ rfl
        rw [Nat.add_zero] at m0
        have hmi : xk = 3 ∨ xk = 4 := hmi
        clear hKr hv1 hc1 hbl hx1
        have s1 : ((C + i : Nat) : Int) + 1 = ((C + (i + 1) : Nat) : Int) := by omega
        rcases hmi with rfl | rfl
        · go_wp2_with fail
          go_roundw
          case rel => exact ⟨i + 1, by omega, by go_num, by rw [← s1]; go_num, hb7⟩
          case measure => simp [intOf]; omega
        · go_wp2_with fail
          go_roundw
          case rel => exact ⟨i + 1, by omega, by go_num, by rw [← s1]; go_num, hb7⟩
          case measure => simp [intOf]; omega
      · have hie : i = n1 := by omega
        rw [hie]
        have i1 : decide ((n1 : Int) < (n1 : Int)) = false := by simp
        clear hi cb m1 hlt hie
        go_wp2_with fail
        go_loopw [5, 7] (fun v5 vi wr => ∃ i : Nat, i ≤ n2 ∧ vi = .int .i64 (i : Nat) ∧ v5 = .int .i64 ((C + n1 + i : Nat) : Int) ∧ Hid (Below w4.heap.size w4 wr)) (fun _ vi _ => n2 - (intOf vi).toNat)
        case atStart => exact ⟨0, Nat.zero_le _, rfl, rfl, hb7⟩
        case round =>
          obtain ⟨i, hi, rfl, rfl, hb8⟩ := hrel
          have hTr := (hb8.out.block T (Array.getElem?_eq_some_iff.1 hnb.out).1).trans hnb.out
          have z := cell_blk hTr (i := 6) rfl
          clear hTr
          by_cases hlt : i < n2
          · have i1 : decide ((i : Int) < (n2 : Int)) = true := by simp; omega
            have q1 : (i : Int) < (n2 : Int) := by omega
            have q2 : ((C + n1 + i : Nat) : Int) + 1 < 1000000 := by omega
            have q3 : (0 : Int) ≤ ((C + n1 + i : Nat) : Int) := by omega
            have hKr := ca.out _ hb8.out
            have hmx := hKr.max
            have hle := hKr.le
            obtain ⟨b1, off1, x, vs1, rfl, hbl, hx1, _, hv1, hc1⟩ := hKr.at_ hlt
            have hmi := m2.out x (List.mem_of_getElem? hx1)
            obtain ⟨xk, xn, xt, xa, xs⟩ := x
            obtain ⟨Ax, cax, A2x, c2x, rfl, -⟩ := hv1.cells
            have m0 := hc1 0 _ rfl
            rw [Nat.add_zero] at m0
            have hmi : xk = 3 ∨ xk = 4 := hmi
            clear hKr hv1 hc1 hbl hx1
            have s1 : ((C + n1 + i : Nat) : Int) + 1 = ((C + n1 + (i + 1) : Nat) : Int) := by omega
            rcases hmi with rfl | rfl
            · go_wp2_with fail
              go_roundw
              case rel => exact ⟨i + 1, by omega, by go_num, by rw [← s1]; go_num, hb8⟩
              case measure => simp [intOf]; omega
            · go_wp2_with fail
              go_roundw
              case rel => exact ⟨i + 1, by omega, by go_num, by rw [← s1]; go_num, hb8⟩
              case measure => simp [intOf]; omega
          · have hie : i = n2 := by omega
            rw [hie]
            have i1 : decide ((n2 : Int) < (n2 : Int)) = false := by simp
            clear hi ca m2 hlt hie
            have hT8 := (hb8.out.block T (Array.getElem?_eq_some_iff.1 hnb.out).1).trans hnb.out
            have y1 := cell_blk hT8 (i := 1) rfl
            have y2 := cell_blk hT8 (i := 2) rfl
            have y3 := cell_blk hT8 (i := 3) rfl
            have y4 := cell_blk hT8 (i := 4) rfl
            have y5 := cell_blk hT8 (i := 5) rfl
            have cs8 := Lib.hid (cs.out _ hb8.out)
            clear hT8 cs
            go_wp2_with fail
            refine cs8.out.mono ?_
            rintro e9 w9 ⟨rfl, hb9⟩
            have hb9' := hb8.out.trans (hb9.mono hb8.out.size)
            have hT9 := (hb9'.block T (Array.getElem?_eq_some_iff.1 hnb.out).1).trans hnb.out
            have y1 := cell_blk hT9 (i := 1) rfl
            have y2 := cell_blk hT9 (i := 2) rfl
            have y3 := cell_blk hT9 (i := 3) rfl
            have y4 := cell_blk hT9 (i := 4) rfl
            have y5 := cell_blk hT9 (i := 5) rfl
            have cd9 := Lib.hid (cd.out w9 hb9')
            replace hb9' := Lib.hid hb9'
            have l1 : decide ((D : Int) ≤ 32) = true := by simp; omega
            have l2 : decide ((C : Int) + (n1 : Int) + (n2 : Int) ≤ 4096) = true := by simp; omega
            clear hT9 cd hb9 hb8
            go_wp2_with fail
            refine cd9.out.mono ?_
            rintro e10 w10 ⟨rfl, hb10⟩
            have hfin := Lib.hid (hx4.out.trans ((hb9'.out.trans (hb10.mono hb9'.out.size)).mono hx4.out.size))
            clear hb10 hb9' cd9 y1 y2 y3 y4 y5
            go_wp2_with fail
            go_ret
            exact ⟨rfl, hfin.out⟩
  · obtain ⟨hb3, hdn, v, rfl, f3⟩ := h3.no hpf hcd
    obtain ⟨T2, a2, rfl⟩ := f3.iface
    unfold zeroDoc
    have hbz := below_alloc w3 (.cells #[.slice none 0 0, .int .i64 0, .string ⟨#[]⟩, .string ⟨#[]⟩, .slice none 0 0, .slice none 0 0, .slice none 0 0] 27)
    have hx4 := Lib.hid (hb1.out.trans ((hb3.trans (hbz.mono hb3.size)).mono hb1.out.size))
    have f4 := Lib.hid (Fe.later f3 hbz)
    have hnb := heap_alloc_new w3 (.cells #[.slice none 0 0, .int .i64 0, .string ⟨#[]⟩, .string ⟨#[]⟩, .slice none 0 0, .slice none 0 0, .slice none 0 0] 27)
    have hc : (cd != 0) = true := by simpa using hcd
    have hc' : (cd == 0) = false := by simpa using hcd
    clear hb3 h3 f3 hbz hpc hpf hdn
    go_upto_region 6 with fail
    change Code.wp _ _ _ _ (w3.alloc (.cells #[.slice none 0 0, .int .i64 0, .string ⟨#[]⟩, .string ⟨#[]⟩, .slice none 0 0, .slice none 0 0, .slice none 0 0] 27))
    generalize w3.alloc (.cells #[.slice none 0 0, .int .i64 0, .string ⟨#[]⟩, .string ⟨#[]⟩, .slice none 0 0, .slice none 0 0, .slice none 0 0] 27) = w4 at hx4 f4 hnb ⊢
    generalize w3.heap.size = T at hnb ⊢
    go_wp2_with fail
    refine (Code_any cd p _ _ w.heap.size w4 (hE.out.on hx4.out) f4.out).mono ?_
    rintro e5 w5 ⟨rfl, hb5⟩
    have hT5 := (hb5.block T (Array.getElem?_eq_some_iff.1 hnb).1).trans hnb
    have y0 := cell_blk hT5 (i := 0) rfl
    have y1 := cell_blk hT5 (i := 1) rfl
    have y2 := cell_blk hT5 (i := 2) rfl
    have y3 := cell_blk hT5 (i := 3) rfl
    have y4 := cell_blk hT5 (i := 4) rfl
    have y5 := cell_blk hT5 (i := 5) rfl
    have y6 := cell_blk hT5 (i := 6) rfl
    have hx5 := Lib.hid (hx4.out.trans (hb5.mono hx4.out.size))
    have hdz := rdocs_any (X := fun _ => False) (Y := fun _ => False) w5 _ _ _ _ (DocI.zero _ _) (DocI.zero _ _) (fun _ h => h.elim) (fun _ h => h.elim)
    unfold zeroDoc at hdz
    replace hdz := Lib.hid hdz
    clear hb5 f4 hT5
    go_wp2_with fail
    refine hdz.out.mono ?_
    rintro e6 w6 ⟨⟨B, rfl, hB⟩, hb6⟩
    have hBt : B = true := by simpa using hB
    subst hBt
    have hfin := Lib.hid (hx5.out.trans (hb6.mono hx5.out.size))
    clear hb6 hB
    go_wp2_with fail
    go_ret
    exact ⟨rfl, hfin.out⟩
end
end Go.Proofs.YtokdnhdfmgfkeaaGreatDoor.Xt
