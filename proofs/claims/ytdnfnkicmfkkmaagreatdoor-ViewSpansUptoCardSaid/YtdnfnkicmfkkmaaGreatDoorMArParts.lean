/- The parts of an archive's element, plainly; the archive of documents in normal form. No program stands here. -/
import Derived.Test.YtdnfnkicmfkkmaaGreatDoorMKyRm
import Derived.Test.YtdnfnkicmfkkmaaGreatDoorMKyLine
import Derived.Test.YtdnfnkicmfkkmaaGreatDoorMXpDoc
import Derived.Test.YtdnfnkicmfkkmaaGreatDoorMKyRb
import Derived.Test.YtdnfnkicmfkkmaaGreatDoorMNoOrd
import Derived.Test.YtdnfnkicmfkkmaaGreatDoorMStrLaws
set_option linter.unusedVariables false
set_option linter.unusedSimpArgs false
section
namespace Go.Proofs.YtdnfnkicmfkkmaaGreatDoor.No
open Go.RowKit UtfW Xl Xt Xo
open Go.Proofs.YtdnfnkicmfkkmaaGreatDoor.Ky (Ts OwX tv Rs Rl)

def RlS (l : List Ky.Rl) : Prop := l.length ≤ 700000 ∧ ∀ r ∈ l, Ky.Smr 700000 r
theorem RlS.smr {l : List Ky.Rl} (h : RlS l) : ∀ r ∈ l, Ky.Smr 900000 r := fun r hr => by
 obtain ⟨h1, h2, h3, h4⟩ := h.2 r hr
 exact ⟨by omega, by omega, fun t ht => Nat.le_trans (h3 t ht) (by omega), fun t ht => Nat.le_trans (h4 t ht) (by omega)⟩
theorem RlS.ok {l : List Ky.Rl} (h : RlS l) (hm : Ky.mayB nameR l = true) : RlOk l :=
 ⟨by have := h.1; omega, fun r hr => by
  obtain ⟨h1, h2, h3, h4⟩ := h.2 r hr
  exact ⟨by omega, ⟨by omega, fun t ht => Nat.le_trans (h4 t ht) (by omega)⟩, rule_keys hm hr⟩⟩
theorem may_cons {l : List Ky.Rl} (hm : Ky.mayB nameR l = true) : ∃ r l' p ps, l = r :: l' ∧ r.1 = p :: ps := by
 unfold Ky.mayB at hm
 simp only [Bool.and_eq_true, decide_eq_true_eq] at hm
 cases l with
 | nil => simp at hm
 | cons r l' =>
  have h1 := Ky.mayP_rules hm.2 r (by simp)
  unfold Ky.ruleB at h1
  simp only [Bool.and_eq_true, decide_eq_true_eq] at h1
  cases hp : r.1 with
  | nil => rw [hp] at h1; simp at h1
  | cons p ps => exact ⟨r, l', p, ps, rfl, hp⟩
theorem NormR_may {l : List Ky.Rl} {n : Nd} (h : Ky.mayB nameR l = false) : NormR l n = .error (20, 0) := by
 unfold NormR
 rw [if_pos h]
theorem NormR_fair {l : List Ky.Rl} {n : Nd} (h : Ky.mayB nameR l = true) (h2 : fairN n = false ∨ n.kind ≠ 1) : NormR l n = .error (80, 0) := by
 unfold NormR
 rw [if_neg (by rw [h]; decide), if_pos h2]
theorem NormR_name {l l' : List Ky.Rl} {n : Nd} {r : Ky.Rl} {p : Tx} {ps : List Tx} (h : Ky.mayB nameR l = true) (h2 : fairN n = true) (h3 : n.kind = 1) (e : l = r :: l') (e2 : r.1 = p :: ps) : NormR l n = if n.name ≠ p then .error (24, 0) else normN l r.1 0 n := by
 unfold NormR
 rw [if_neg (by rw [h]; decide), if_neg (by rw [h2, h3]; simp), e]
 simp only
 rw [e2]
set_option maxHeartbeats 20000000 in
set_option maxRecDepth 100000 in
theorem rNormal_any (B0 : Nat) (Al : Option Addr) (nl cl : Nat) (l : List Ky.Rl) (vs : List Value) (n : Nd) (w : World) (hB0 : B0 ≤ w.heap.size) (hl : Rs w Al nl cl l) (hn : NdI (fun j => j < B0) w vs n) (hS : RlS l) (hwn : wN n ≤ 100000) :
    Calls Tryz.prog 27 #[.slice Al nl cl, .agg vs.toArray] w fun e w' => NormP B0 w.heap.size (NormR l n) e w' ∧ Below w.heap.size w w' := by
  obtain ⟨RN, hRN⟩ : ∃ RN, NormR l n = RN := ⟨_, rfl⟩
  rw [hRN]
  obtain ⟨kd, nm, tx, as_, kz, rfl⟩ : ∃ kd nm tx as_ kz, n = Nd.mk kd nm tx as_ kz := by cases n; exact ⟨_, _, _, _, _, rfl⟩
  have hn0 := hn
  obtain ⟨Ai, ci, Ak, ck, rfl, hA, hK, hXA, hXK⟩ := hn.cells
  obtain ⟨li, hli⟩ : ∃ la, as_.length = la := ⟨_, rfl⟩
  obtain ⟨lk, hlk⟩ : ∃ lk, kz.length = lk := ⟨_, rfl⟩
  obtain ⟨S1, hS1⟩ : ∃ S, strOf nm = S := ⟨_, rfl⟩
  obtain ⟨S2, hS2⟩ : ∃ S, strOf tx = S := ⟨_, rfl⟩
  rw [hli, hlk, hS1, hS2] at hn0
  rw [hli, hlk, hS1, hS2]
  obtain ⟨T, hT⟩ : ∃ T, w.heap.size = T := ⟨_, rfl⟩
  obtain ⟨w1, hw1⟩ : ∃ w1, w.alloc (.cells #[.int .i64 kd, .string S1, .string S2, .slice Ai li ci, .slice Ak lk ck] 26) = w1 := ⟨_, rfl⟩
  obtain ⟨w2, hw2⟩ : ∃ w2, w1.alloc (.cells #[.int .i64 0, .string ⟨#[]⟩, .string ⟨#[]⟩, .slice none 0 0, .slice none 0 0] 26) = w2 := ⟨_, rfl⟩
  have hs1 : w1.heap.size = T + 1 := by rw [← hw1, World.size_alloc, hT]
  have hs2 : w2.heap.size = T + 2 := by rw [← hw2, World.size_alloc, hs1]
  have hb1 : Below w.heap.size w w1 := by rw [← hw1]; exact (Below.refl _ _).alloc (Nat.le_refl _) _
  have hb2 : Below w1.heap.size w1 w2 := by rw [← hw2]; exact (Below.refl _ _).alloc (Nat.le_refl _) _
  have hk1 : w1.heap[T]? = some (.cells #[.int .i64 kd, .string S1, .string S2, .slice Ai li ci, .slice Ak lk ck] 26) := by rw [← hw1, ← hT]; exact heap_alloc_new w _
  have hk2 : w2.heap[T + 1]? = some (.cells #[.int .i64 0, .string ⟨#[]⟩, .string ⟨#[]⟩, .slice none 0 0, .slice none 0 0] 26) := by rw [← hw2, ← hs1]; exact heap_alloc_new w1 _
  have hk1' := (hb2.block T (by omega)).trans hk1
  have hbw : Below w.heap.size w w2 := hb1.trans (hb2.mono hb1.size)
  have hall : Hid (∀ x, Below w2.heap.size w2 x → ((x.cell? ⟨T, 0, none⟩ = some (.int .i64 kd) ∧ x.cell? ⟨T, 1, none⟩ = some (.string S1) ∧ x.cell? ⟨T, 2, none⟩ = some (.string S2) ∧ x.cell? ⟨T, 3, none⟩ = some (.slice Ai li ci) ∧ x.cell? ⟨T, 4, none⟩ = some (.slice Ak lk ck)) ∧ Rs x Al nl cl l ∧ NdI (fun j => j < B0) x [.int .i64 kd, .string S1, .string S2, .slice Ai li ci, .slice Ak lk ck] (.mk kd nm tx as_ kz)) ∧ B0 ≤ x.heap.size ∧ x.heap[T + 1]? = some (.cells #[.int .i64 0, .string ⟨#[]⟩, .string ⟨#[]⟩, .slice none 0 0, .slice none 0 0] 26)) := Lib.hid fun x hx => by
    have g1 := (hx.block T (by omega)).trans hk1'
    have hwx := hbw.trans (hx.mono hbw.size)
    exact ⟨⟨⟨Xp.cell_blk g1 (i := 0) rfl, Xp.cell_blk g1 (i := 1) rfl, Xp.cell_blk g1 (i := 2) rfl, Xp.cell_blk g1 (i := 3) rfl, Xp.cell_blk g1 (i := 4) rfl⟩, hl.below hwx, hn0.later (fun j hj => Nat.lt_of_lt_of_le hj hB0) hwx⟩, Nat.le_trans hB0 hwx.size, (hx.block (T + 1) (by omega)).trans hk2⟩
  have hfair := Lib.hid (Xp.rFair_any (SizeOf.sizeOf (Nd.mk kd nm tx as_ kz)) (fun j => j < B0) (.mk kd nm tx as_ kz) (Nat.le_refl _) (Xp.wN_sm _ (by omega)))
  have hmay := Lib.hid (Ky.refMay_any Al nl cl l w2 (hl.below hbw) hS.smr)
  have hRN' := Lib.hid hRN
  have hS1' := Lib.hid hS1
  have hbw' := Lib.hid hbw
  have hTw := Lib.hid hT
  have hs2' := Lib.hid hs2
  have hS' := Lib.hid hS
  have hwn' := Lib.hid hwn
  have hB0w : Hid (B0 ≤ T) := Lib.hid (by omega)
  have hlle := hl.le
  have hlm := hl.max
  have hll := Lib.hid hl.len
  obtain ⟨MB, hMB⟩ : ∃ MB, Ky.mayB nameR l = MB := ⟨_, rfl⟩
  rw [hMB] at hmay
  have hMB' := Lib.hid hMB
  obtain ⟨FB, hFB⟩ : ∃ FB, fairN (Nd.mk kd nm tx as_ kz) = FB := ⟨_, rfl⟩
  have hFB' := Lib.hid hFB
  clear hB0 hl hn hn0 hS hwn hRN hA hK hXA hXK hli hlk hS1 hS2 hb1 hb2 hk1 hk2 hk1' hbw hs2 hMB hFB
  go_enter Tryz.func27, Tryz.ntmps27
  go_wp2_with fail
  refine hmay.out.mono ?_
  rintro e w3 ⟨rfl, hb3⟩
  have hb3' := Lib.hid hb3
  clear hw1 hw2 hT hs1 hb3 hmay
  cases MB with
  | false =>
    have hRk : Hid (RN = .error (20, 0)) := Lib.hid (by rw [← hRN'.out]; exact NormR_may hMB'.out)
    have hbW := hb3'.out
    have hbF := Lib.hid (hbw'.out.trans (hbW.mono hbw'.out.size))
    have hrb := (hall.out w3 hbW).2.2
    clear hbW
    obtain ⟨q0, q1, q2, q3, q4⟩ := nd_same hrb
    have zf := fun i => frozen_of_row w3 (T + 1) i _ _ hrb
    have y0 := Xp.cell_blk hrb (i := 0) rfl
    have y1 := Xp.cell_blk hrb (i := 1) rfl
    have y2 := Xp.cell_blk hrb (i := 2) rfl
    have y3 := Xp.cell_blk hrb (i := 3) rfl
    have y4 := Xp.cell_blk hrb (i := 4) rfl
    have hrbH := Lib.hid hrb
    clear hrb
    go_wp2_with fail
    exact bodyPost_ret (res_nd3 (x := .int .i64 20) (y := .int .i64 0) rfl hrbH.out rfl rfl rfl) rfl ⟨by rw [hRk.out]; exact ⟨by decide, rfl⟩, hbF.out⟩
  | true =>
    obtain ⟨⟨⟨u0, u1, u2, u3, u4⟩, hl3, hn3⟩, hB3, _⟩ := hall.out w3 hb3'.out
    have hfc := Lib.hid (hfair.out _ w3 hn3 (fun j hj => Nat.lt_of_lt_of_le hj hB3))
    rw [hFB'.out] at hfc
    clear hl3 hn3 hB3
    cases FB with
    | false =>
      go_wp2_with fail
      refine hfc.out.mono ?_
      rintro e w4 ⟨rfl, hb4⟩
      have hbw4 := Lib.hid (hb3'.out.trans (hb4.mono hb3'.out.size))
      clear hb4 hfc u0 u1 u2 u3 u4
      have hRk : Hid (RN = .error (80, 0)) := Lib.hid (by rw [← hRN'.out]; exact NormR_fair hMB'.out (.inl hFB'.out))
      have hbW := hbw4.out
      have hbF := Lib.hid (hbw'.out.trans (hbW.mono hbw'.out.size))
      have hrb := (hall.out w4 hbW).2.2
      clear hbW
      obtain ⟨q0, q1, q2, q3, q4⟩ := nd_same hrb
      have zf := fun i => frozen_of_row w4 (T + 1) i _ _ hrb
      have y0 := Xp.cell_blk hrb (i := 0) rfl
      have y1 := Xp.cell_blk hrb (i := 1) rfl
      have y2 := Xp.cell_blk hrb (i := 2) rfl
      have y3 := Xp.cell_blk hrb (i := 3) rfl
      have y4 := Xp.cell_blk hrb (i := 4) rfl
      have hrbH := Lib.hid hrb
      clear hrb
      go_wp2_with fail
      exact bodyPost_ret (res_nd3 (x := .int .i64 80) (y := .int .i64 0) rfl hrbH.out rfl rfl rfl) rfl ⟨by rw [hRk.out]; exact ⟨by decide, rfl⟩, hbF.out⟩
    | true =>
      have u0H := Lib.hid u0
      go_wp2_with fail
      refine hfc.out.mono ?_
      rintro e w4 ⟨rfl, hb4⟩
      have hbw4 := Lib.hid (hb3'.out.trans (hb4.mono hb3'.out.size))
      clear hb4 hfc u0 u1 u2 u3 u4
      obtain ⟨⟨⟨u0, u1, u2, u3, u4⟩, hl4, hn4⟩, hB4, _⟩ := hall.out w4 hbw4.out
      by_cases hkd : kd = 1
      · subst hkd
        obtain ⟨r, l', p, ps, el, ep⟩ := may_cons hMB'.out
        have hnl : 0 < nl := by rw [← hll.out, el]; simp
        obtain ⟨bl, ol, r', A1, n1, c1, A2, n2, c2, eAl, hbl, hr', t1, t2, k0, k1⟩ := Rs.at_ hl4 hnl
        have er : r' = r := by rw [el] at hr'; simpa using hr'.symm
        subst er
        subst eAl
        rw [Nat.zero_mul, Nat.add_zero] at k0
        have hn1 : 0 < n1 := by rw [← t1.len, ep]; simp
        have ht1 := Lib.hid t1
        obtain ⟨b1, o1, p', eA1, hb1, hp', k2⟩ := t1.at_ hn1
        have epp : p' = p := by rw [ep] at hp'; simpa using hp'.symm
        subst epp
        subst eA1
        rw [Nat.add_zero] at k2
        have hse := Ky.str_eq nm p'
        obtain ⟨P1, hP1⟩ : ∃ S, strOf p' = S := ⟨_, rfl⟩
        rw [Ky.tv, hP1] at k2
        rw [hS1'.out, hP1] at hse
        have hNR := Lib.hid (NormR_name hMB'.out hFB'.out rfl el ep)
        have hepH := Lib.hid ep
        have hT4 : Hid (T < w4.heap.size ∧ bl < w4.heap.size ∧ b1 < w4.heap.size) := Lib.hid ⟨by have := hbw4.out.size; have := hs2'.out; omega, hbl, hb1⟩
        have n1le := ht1.out.le
        have n1max := ht1.out.max
        have f0 : (0 : Int) < (nl : Int) := by omega
        have f1 : (0 : Int) < (n1 : Int) := by omega
        have hcall := Lib.hid (rNorm_any (SizeOf.sizeOf (Nd.mk 1 nm tx as_ kz)) B0 (.mk 1 nm tx as_ kz) (Nat.le_refl _) hwn'.out (some ⟨bl, ol, none⟩) nl cl l (some ⟨b1, o1, none⟩) n1 c1 r'.1 0)
        have hnH := Lib.hid hn4
        have hlH := Lib.hid hl4
        have hBH := Lib.hid hB4
        have hn1w : Hid (n1 ≤ 700001) := Lib.hid (by rw [← ht1.out.len]; exact (hS'.out.2 r' (by rw [el]; simp)).1)
        clear hl4 hn4 hB4 hr' t1 t2 hp' hP1 el ep hbl hb1
        cases hd : decide (nm = p') with
        | false =>
          rw [hd] at hse
          have hq : Hid (NormR l (Nd.mk 1 nm tx as_ kz) = .error (24, 0)) := Lib.hid (by rw [hNR.out, if_pos (show (Nd.mk 1 nm tx as_ kz).name ≠ p' from of_decide_eq_false hd)])
          have e9 : (P1.toList == S1.toList) = false := by rw [Bool.eq_false_iff] at hse ⊢; intro h; exact hse (by rw [beq_iff_eq] at h ⊢; exact h.symm)
          clear hd
          go_wp2_with fail
          refine Pl.wp_region_plan 8 (.take 0 (.take 1 (.take 2 (.take 3 (.take 4 (.take 5 (.take 6 (.take 7 .done)))))))) (fun x => x.cell? ⟨T, 1, none⟩ = some (.string S1) ∧ x.cell? ⟨bl, ol, none⟩ = some (.slice (some ⟨b1, o1, none⟩) n1 c1) ∧ x.cell? ⟨b1, o1, none⟩ = some (.string P1)) (by kernel_rfl) (by kernel_rfl) (by exact ⟨u1, k0, k2⟩) ?_
          simp only [Pl.fill, List.getElem?_cons_zero, List.getElem?_cons_succ, List.drop_succ_cons, List.drop_zero]
          iterate 8
            first
            | (refine Pl.take_go ?_ (by rfl) (fun _ _ _ h => h) ?_ ?_
               rotate_left
               · (intro x hSw; (try (dsimp only at hSw)); go_simp; try with_reducible rfl)
               (try simp only [Act.put, List.setIfInBounds_toArray, List.set_cons_zero, List.set_cons_succ]))
            | (refine Pl.take_skip (by rfl) (fun _ _ _ h => h) ?_
               (try simp only [Act.put, List.setIfInBounds_toArray, List.set_cons_zero, List.set_cons_succ]))
          refine Pl.done_go ?_
          have hbW4 := Lib.hid (hbw4.out.trans ((Joins.below_draws w4.heap.size w4 1).mono hbw4.out.size))
          clear u0 u1 u2 u3 u4 k0 k1 k2
          have hRk : Hid (RN = .error (24, 0)) := Lib.hid (by rw [← hRN'.out]; exact hq.out)
          have hbW := hbW4.out
          have hbF := Lib.hid (hbw'.out.trans (hbW.mono hbw'.out.size))
          have hrb := (hall.out w4.drew hbW).2.2
          clear hbW
          obtain ⟨q0, q1, q2, q3, q4⟩ := nd_same hrb
          have zf := fun i => frozen_of_row w4.drew (T + 1) i _ _ hrb
          have y0 := Xp.cell_blk hrb (i := 0) rfl
          have y1 := Xp.cell_blk hrb (i := 1) rfl
          have y2 := Xp.cell_blk hrb (i := 2) rfl
          have y3 := Xp.cell_blk hrb (i := 3) rfl
          have y4 := Xp.cell_blk hrb (i := 4) rfl
          have hrbH := Lib.hid hrb
          clear hrb
          go_wp2_with fail
          exact bodyPost_ret (res_nd3 (x := .int .i64 24) (y := .int .i64 0) rfl hrbH.out rfl rfl rfl) rfl ⟨by rw [hRk.out]; exact ⟨by decide, rfl⟩, hbF.out⟩
        | true =>
          rw [hd] at hse
          have hq : Hid (NormR l (Nd.mk 1 nm tx as_ kz) = normN l r'.1 0 (Nd.mk 1 nm tx as_ kz)) := Lib.hid (by rw [hNR.out, if_neg (fun h => h (of_decide_eq_true hd))])
          clear hd
          go_wp2_with fail
          refine Pl.wp_region_plan 8 (.take 0 (.take 1 (.take 2 (.take 3 (.take 4 (.take 5 (.take 6 (.take 7 .done)))))))) (fun x => x.cell? ⟨T, 1, none⟩ = some (.string S1) ∧ x.cell? ⟨bl, ol, none⟩ = some (.slice (some ⟨b1, o1, none⟩) n1 c1) ∧ x.cell? ⟨b1, o1, none⟩ = some (.string P1)) (by kernel_rfl) (by kernel_rfl) (by exact ⟨u1, k0, k2⟩) ?_
          simp only [Pl.fill, List.getElem?_cons_zero, List.getElem?_cons_succ, List.drop_succ_cons, List.drop_zero]
          iterate 8
            first
            | (refine Pl.take_go ?_ (by rfl) (fun _ _ _ h => h) ?_ ?_
               rotate_left
               · (intro x hSw; (try (dsimp only at hSw)); go_simp; try with_reducible rfl)
               (try simp only [Act.put, List.setIfInBounds_toArray, List.set_cons_zero, List.set_cons_succ]))
            | (refine Pl.take_skip (by rfl) (fun _ _ _ h => h) ?_
               (try simp only [Act.put, List.setIfInBounds_toArray, List.set_cons_zero, List.set_cons_succ]))
          refine Pl.done_go ?_
          have hb5 : Below w4.heap.size w4 w4.drew := Joins.below_draws w4.heap.size w4 1
          have hbw5 := Lib.hid (hbw4.out.trans (hb5.mono hbw4.out.size))
          have hb6 : Below w4.heap.size w4 w4.drew.drew := Joins.below_draws w4.heap.size w4 2
          have hcl := Lib.hid (hcall.out _ w4.drew.drew hBH.out (hlH.out.below hb6) (ht1.out.below hb6) (hnH.out.later (fun j hj => Nat.lt_of_lt_of_le hj hBH.out) hb6) (hS'.out.ok hMB'.out) (by have := hn1w.out; have := hwn'.out; omega) (by have := hwn'.out; omega))
          rw [show ((0 : Nat) : Int) = 0 from rfl] at hcl
          have v0 : w4.drew.cell? ⟨T, 0, none⟩ = some (.int .i64 1) := u0
          have v1 : w4.drew.cell? ⟨T, 1, none⟩ = some (.string S1) := u1
          have v2 : w4.drew.cell? ⟨T, 2, none⟩ = some (.string S2) := u2
          have v3 : w4.drew.cell? ⟨T, 3, none⟩ = some (.slice Ai li ci) := u3
          have v4 : w4.drew.cell? ⟨T, 4, none⟩ = some (.slice Ak lk ck) := u4
          have vk : w4.drew.cell? ⟨bl, ol, none⟩ = some (.slice (some ⟨b1, o1, none⟩) n1 c1) := k0
          obtain ⟨w5, hw5⟩ : ∃ w5, w4.drew = w5 := ⟨_, rfl⟩
          have hT5 : Hid (T < w5.heap.size ∧ bl < w5.heap.size) := Lib.hid (by rw [← hw5]; exact ⟨hT4.out.1, hT4.out.2.1⟩)
          have hs5 : Hid (w5.heap.size = w4.heap.size) := Lib.hid (by rw [← hw5]; rfl)
          rw [hw5] at hbw5 hcl v0 v1 v2 v3 v4 vk ⊢
          clear u0 u1 u2 u3 u4 k0 k1 k2 hw5 hb5 hb6 hcall
          go_wp2_with fail
          refine Pl.wp_region_plan 10 (.take 0 (.take 1 (.take 2 (.take 3 (.take 4 (.take 5 (.run 6 (.take 7 (.take 8 (.take 9 .done)))))))))) (fun x => x.cell? ⟨bl, ol, none⟩ = some (.slice (some ⟨b1, o1, none⟩) n1 c1) ∧ x.cell? ⟨T, 0, none⟩ = some (.int .i64 1) ∧ x.cell? ⟨T, 1, none⟩ = some (.string S1) ∧ x.cell? ⟨T, 2, none⟩ = some (.string S2) ∧ x.cell? ⟨T, 3, none⟩ = some (.slice Ai li ci) ∧ x.cell? ⟨T, 4, none⟩ = some (.slice Ak lk ck)) (by kernel_rfl) (by kernel_rfl) (by exact ⟨vk, v0, v1, v2, v3, v4⟩) ?_
          simp only [Pl.fill, List.getElem?_cons_zero, List.getElem?_cons_succ, List.drop_succ_cons, List.drop_zero]
          iterate 6
            first
            | (refine Pl.take_go ?_ (by rfl) (fun _ _ _ h => h) ?_ ?_
               rotate_left
               · (intro x hSw; (try (dsimp only at hSw)); go_simp; try with_reducible rfl)
               (try simp only [Act.put, List.setIfInBounds_toArray, List.set_cons_zero, List.set_cons_succ]))
            | (refine Pl.take_skip (by rfl) (fun _ _ _ h => h) ?_
               (try simp only [Act.put, List.setIfInBounds_toArray, List.set_cons_zero, List.set_cons_succ]))
          refine Pl.run_go (fun K hK => ?_)
          go_simp
          refine hcl.out.mono ?_
          rintro e w6 ⟨hnp, hb6⟩
          have hb56 : Below w5.heap.size w5 w6 := (show Below w5.heap.size w5 w5.drew from Joins.below_draws w5.heap.size w5 1).trans hb6
          have hbw6 := Lib.hid (hbw5.out.trans (hb56.mono hbw5.out.size))
          obtain ⟨⟨⟨y0, y1, y2, y3, y4⟩, _⟩, _⟩ := hall.out w6 hbw6.out
          have hkq := (hb56.cell (p := ⟨bl, ol, none⟩) hT5.out.2).trans vk
          have hnpH := Lib.hid hnp
          have hRq : Hid (RN = normN l r'.1 0 (Nd.mk 1 nm tx as_ kz)) := Lib.hid (by rw [← hRN'.out]; exact hq.out)
          have h56H := Lib.hid hb56
          clear hb6 hb56 hnp
          cases hRy : normN l r'.1 0 (Nd.mk 1 nm tx as_ kz) with
          | error c =>
            obtain ⟨cd, q⟩ := c
            have h6 := hnpH.out
            rw [hRy] at h6
            obtain ⟨hcd0, rfl⟩ := h6
            have hcd := Lib.hid hcd0
            have hRk : Hid (RN = .error (cd, q)) := Lib.hid (hRq.out.trans hRy)
            clear hRy hcd0
            dsimp only
            refine hK.out _ _ (Pl.more_go _ (fun _ h => h) (by exact ⟨hkq, y0, y1, y2, y3, y4⟩) ?_)
            clear hK K
            try simp only [Act.put, List.setIfInBounds_toArray, List.set_cons_zero, List.set_cons_succ]
            iterate 3
              first
              | (refine Pl.take_go ?_ (by rfl) (fun _ _ _ h => h) ?_ ?_
                 rotate_left
                 · (intro x hSw; (try (dsimp only at hSw)); go_simp; try with_reducible rfl)
                 (try simp only [Act.put, List.setIfInBounds_toArray, List.set_cons_zero, List.set_cons_succ]))
              | (refine Pl.take_skip (by rfl) (fun _ _ _ h => h) ?_
                 (try simp only [Act.put, List.setIfInBounds_toArray, List.set_cons_zero, List.set_cons_succ]))
            refine Pl.done_go ?_
            clear v0 v1 v2 v3 v4 vk y0 y1 y2 y3 y4 hkq
            have hbF := Lib.hid (hbw'.out.trans (hbw6.out.mono hbw'.out.size))
            have hrb := (hall.out w6 hbw6.out).2.2
            obtain ⟨q0, q1, q2, q3, q4⟩ := nd_same hrb
            have zf := fun i => frozen_of_row w6 (T + 1) i _ _ hrb
            have y0 := Xp.cell_blk hrb (i := 0) rfl
            have y1 := Xp.cell_blk hrb (i := 1) rfl
            have y2 := Xp.cell_blk hrb (i := 2) rfl
            have y3 := Xp.cell_blk hrb (i := 3) rfl
            have y4 := Xp.cell_blk hrb (i := 4) rfl
            have hrbH := Lib.hid hrb
            clear hrb
            go_wp2_with fail
            exact bodyPost_ret (res_nd3 (x := .int .i64 cd) (y := .int .i64 (q : Nat)) rfl hrbH.out rfl rfl rfl) rfl ⟨by rw [hRk.out]; exact ⟨hcd.out, rfl⟩, hbF.out⟩
          | ok x =>
            have h6 := hnpH.out
            rw [hRy] at h6
            obtain ⟨vs6, rfl, hx6⟩ := h6
            have hRk : Hid (RN = .ok x) := Lib.hid (hRq.out.trans hRy)
            obtain ⟨kd3, nm3, tx3, as3, kz3, ekid⟩ : ∃ kd nm tx as_ kz, x = Nd.mk kd nm tx as_ kz := by cases x; exact ⟨_, _, _, _, _, rfl⟩
            have hx6H := Lib.hid hx6
            rw [ekid] at hx6
            obtain ⟨Aa3, ca3, Ak3, ck3, rfl, _⟩ := hx6.cells
            obtain ⟨la3, hla3⟩ : ∃ la, as3.length = la := ⟨_, rfl⟩
            obtain ⟨lk3, hlk3⟩ : ∃ lk, kz3.length = lk := ⟨_, rfl⟩
            obtain ⟨Y1, hY1⟩ : ∃ S, strOf nm3 = S := ⟨_, rfl⟩
            obtain ⟨Y2, hY2⟩ : ∃ S, strOf tx3 = S := ⟨_, rfl⟩
            rw [hla3, hlk3, hY1, hY2] at hx6H
            rw [hla3, hlk3, hY1, hY2]
            clear hx6 ekid hla3 hlk3 hY1 hY2 hRy hnpH
            dsimp only
            refine hK.out _ _ (Pl.more_go _ (fun _ h => h) (by exact ⟨hkq, y0, y1, y2, y3, y4⟩) ?_)
            clear hK K
            try simp only [Act.put, List.setIfInBounds_toArray, List.set_cons_zero, List.set_cons_succ]
            iterate 3
              first
              | (refine Pl.take_go ?_ (by rfl) (fun _ _ _ h => h) ?_ ?_
                 rotate_left
                 · (intro x hSw; (try (dsimp only at hSw)); go_simp; try with_reducible rfl)
                 (try simp only [Act.put, List.setIfInBounds_toArray, List.set_cons_zero, List.set_cons_succ]))
              | (refine Pl.take_skip (by rfl) (fun _ _ _ h => h) ?_
                 (try simp only [Act.put, List.setIfInBounds_toArray, List.set_cons_zero, List.set_cons_succ]))
            refine Pl.done_go ?_
            clear v0 v1 v2 v3 v4 vk y0 y1 y2 y3 y4 hkq
            have hrb := (hall.out w6 hbw6.out).2.2
            obtain ⟨g1, g2, g3⟩ := set5 hrb (.int .i64 kd3) (.string Y1) (.string Y2) (.slice Aa3 la3 ca3) (.slice Ak3 lk3 ck3)
            have hg1 := Lib.hid g1
            have hbF := Lib.hid (Below.set5 (b := T + 1) (hbw'.out.trans (hbw6.out.mono hbw'.out.size)) (by have := hTw.out; omega) (.int .i64 kd3) (.string Y1) (.string Y2) (.slice Aa3 la3 ca3) (.slice Ak3 lk3 ck3))
            have hfin := Lib.hid (hx6H.out.stay (X' := fun k => k < B0 ∨ (w.heap.size ≤ k ∧ k < w6.heap.size)) fun k hk => ⟨by
              have h1 := hbw4.out.size
              have h2 := hs2'.out
              have h3 := hs5.out
              have h4 := hTw.out
              have h5 : w5.drew.heap.size = w5.heap.size := rfl
              rcases hk with hk | hk
              · exact .inl hk
              · exact .inr ⟨by omega, hk.2⟩, g2 k (by
              have h1 := hbw4.out.size
              have h2 := hs2'.out
              have h3 := hs5.out
              have h4 := hTw.out
              have h5 : w5.drew.heap.size = w5.heap.size := rfl
              have h6 := hB0w.out
              omega)⟩)
            have g3H := Lib.hid g3
            have y0 := Xp.cell_blk hrb (i := 0) rfl
            have y1 := Xp.cell_blk hrb (i := 1) rfl
            have y2 := Xp.cell_blk hrb (i := 2) rfl
            have y3 := Xp.cell_blk hrb (i := 3) rfl
            have y4 := Xp.cell_blk hrb (i := 4) rfl
            have zg := fun i => frozen_of_row w6 (T + 1) i _ _ hrb
            clear g1 g2 g3 hrb
            go_wp2_with fail
            exact bodyPost_ret (res_nd3 (x := .int .i64 0) (y := .int .i64 0) rfl hg1.out rfl rfl rfl) rfl ⟨by rw [hRk.out]; exact ⟨_, rfl, by rw [g3H.out]; exact hfin.out⟩, hbF.out⟩
      · have e9 : (kd != 1) = true := by simpa using hkd
        clear hl4 hn4 hB4
        clear u1 u2 u3 u4
        have hRk : Hid (RN = .error (80, 0)) := Lib.hid (by rw [← hRN'.out]; exact NormR_fair hMB'.out (.inr hkd))
        have hbW := hbw4.out
        have hbF := Lib.hid (hbw'.out.trans (hbW.mono hbw'.out.size))
        have hrb := (hall.out w4 hbW).2.2
        clear hbW
        obtain ⟨q0, q1, q2, q3, q4⟩ := nd_same hrb
        have zf := fun i => frozen_of_row w4 (T + 1) i _ _ hrb
        have y0 := Xp.cell_blk hrb (i := 0) rfl
        have y1 := Xp.cell_blk hrb (i := 1) rfl
        have y2 := Xp.cell_blk hrb (i := 2) rfl
        have y3 := Xp.cell_blk hrb (i := 3) rfl
        have y4 := Xp.cell_blk hrb (i := 4) rfl
        have hrbH := Lib.hid hrb
        clear hrb
        go_wp2_with fail
        exact bodyPost_ret (res_nd3 (x := .int .i64 80) (y := .int .i64 0) rfl hrbH.out rfl rfl rfl) rfl ⟨by rw [hRk.out]; exact ⟨by decide, rfl⟩, hbF.out⟩
end Go.Proofs.YtdnfnkicmfkkmaaGreatDoor.No
end

section
namespace Go.Proofs.YtdnfnkicmfkkmaaGreatDoor.Ky
open Go.RowKit Go.Shelf UtfW

def Big (l : List Rl) : Prop := ∀ r ∈ l, (r.1.length ≤ 140737488351232 ∧ r.2.length ≤ 140737488351232) ∧ (∀ x ∈ r.1, x.length ≤ 140737488351232) ∧ ∀ x ∈ r.2, x.length ≤ 140737488351232

set_option maxHeartbeats 4000000 in
set_option maxRecDepth 100000 in
theorem refSmall_any (A : Option Addr) (n c : Nat) (l : List Rl) (w : World) (h : Rs w A n c l) (hS : Big l) :
  Calls Tryz.prog 44 #[.slice A n c] w fun e w' => ∃ V : Bool, e = .returned (.bool V) ∧ (V = true → wts l < 3000) ∧ Below w.heap.size w w' := by
 have hl' := Lib.hid h.len
 have hm := h.max
 have hle := h.le
 have h' := Lib.hid h
 have hS' := Lib.hid hS
 clear h hS
 go_enter Tryz.func44, Tryz.ntmps44
 go_wp2_with fail
 go_loopw [3, 4] (fun o i wr => ∃ (k s : Nat), k ≤ n ∧ s < 3000 ∧ i = .int .i64 k ∧ o = .int .i64 s ∧ Hid (s = wts (l.take k)) ∧ Hid (Below w.heap.size w wr)) (fun _ i _ => n - (intOf i).toNat)
 case atStart => exact ⟨0, 0, by omega, by omega, rfl, rfl, Lib.hid rfl, Lib.hid (Below.refl _ _)⟩
 case round =>
  obtain ⟨k, s, hk, hs3, rfl, rfl, hs, hb⟩ := hrel
  by_cases hlt : k < n
  ·have i1 : decide ((k : Int) < (n : Int)) = true := by rw [decide_eq_true_eq]; omega
   have i2 : decide (k < n) = true := by rw [decide_eq_true_eq]; omega
   have i3 : (k : Int) < (n : Int) := by omega
   obtain ⟨b, off, r, A1, n1, c1, A2, n2, c2, rfl, hbl, hr, t1, t2, k0, k1⟩ := Rs.at_ (h'.out.below hb.out) hlt
   obtain ⟨⟨g1, g2⟩, g3, g4⟩ := hS'.out r (List.mem_of_getElem? hr)
   have hl1 := t1.len
   have hl2 := t2.len
   have hle1 := Rd.le t1
   have hle2 := Rd.le t2
   have hm1 := Rd.max t1
   have hm2 := Rd.max t2
   have hn1 : n1 ≤ 140737488351232 := by omega
   have hn2 : n2 ≤ 140737488351232 := by omega
   have g3' := Lib.hid g3
   have g4' := Lib.hid g4
   have t1' := Lib.hid t1
   have t2' := Lib.hid t2
   have hl1' := Lib.hid hl1
   have hl2' := Lib.hid hl2
   have hwt : Hid (wts (l.take (k + 1)) = s + (1 + n1 + n2 + lens r.1 + lens r.2)) := Lib.hid (by
    rw [wts_take hr, ← hs.out]
    unfold wt
    rw [hl1, hl2])
   clear hr g1 g2 g3 g4 t1 t2 hl1 hl2
   go_wp2_with fail
   go_quiet (fail)
   have hq0 : Below wr.heap.size wr (wr.drewN nq) := Joins.below_draws _ _ _
   have hbq := Lib.hid (hb.out.trans (hq0.mono hb.out.size))
   have t1q := Lib.hid (t1'.out.below hq0)
   have t2q := Lib.hid (t2'.out.below hq0)
   have y0 := (hq0.cell hbl).trans k0
   have y1 := (hq0.cell hbl).trans k1
   obtain ⟨wz, hwz⟩ : ∃ wz, wr.drewN nq = wz := ⟨_, rfl⟩
   rw [hwz] at hbq t1q t2q y0 y1 ⊢
   clear hq0 hwz k0 k1 hb t1' t2' i3 hbl
   obtain ⟨wo, hwo⟩ : ∃ wo, wo = wr := ⟨wr, rfl⟩
   subst hwo
   go_wp2_with fail
   go_loopw [3, 5] (fun o i wq => ∃ (j s2 : Nat), j ≤ n1 ∧ s2 ≤ 562949953421312 ∧ i = .int .i64 j ∧ o = .int .i64 s2 ∧ Hid (s2 = s + (1 + n1 + n2) + lens (r.1.take j)) ∧ wq = wz) (fun _ i _ => n1 - (intOf i).toNat)
   case atStart => exact ⟨0, s + 1 + n1 + n2, by omega, by omega, rfl, by go_num, Lib.hid (by simp [lens]; omega), by first | rfl | trivial⟩
   case round =>
    clear i1 i2
    obtain ⟨j, s2, hj, hs2, rfl, rfl, hsv, rfl⟩ := hrel
    obtain ⟨V, hV⟩ : ∃ V, decide (j < n1 ∧ s2 < 3000) = V := ⟨_, rfl⟩
    have hV' := Lib.hid hV
    clear hV
    go_upto_region 7 with fail
    go_cut [40] (fun v wx => v = .bool V ∧ wx = wr)
    case first =>
     by_cases hj1 : j < n1
     ·have i1 : decide ((j : Int) < (n1 : Int)) = true := by rw [decide_eq_true_eq]; omega
      have i2 : decide (j < n1) = true := by rw [decide_eq_true_eq]; omega
      by_cases hs4 : s2 < 3000
      ·have i4 : decide ((s2 : Int) < 3000) = true := by rw [decide_eq_true_eq]; omega
       have i5 : decide (s2 < 3000) = true := by rw [decide_eq_true_eq]; omega
       have i6 := Lib.hid (hV'.out.symm.trans (decide_eq_true (show j < n1 ∧ s2 < 3000 from ⟨hj1, hs4⟩)))
       clear hj1 hs4
       go_wp2_with fail
       go_meet
       exact ⟨by rw [i6.out], by first | rfl | trivial⟩
      ·have i4 : decide ((s2 : Int) < 3000) = false := by rw [decide_eq_false_iff_not]; omega
       have i5 : decide (s2 < 3000) = false := by rw [decide_eq_false_iff_not]; omega
       have i6 := Lib.hid (hV'.out.symm.trans (decide_eq_false (show ¬(j < n1 ∧ s2 < 3000) from fun h => hs4 h.2)))
       clear hj1 hs4
       go_wp2_with fail
       go_meet
       exact ⟨by rw [i6.out], by first | rfl | trivial⟩
     ·have i1 : decide ((j : Int) < (n1 : Int)) = false := by rw [decide_eq_false_iff_not]; omega
      have i2 : decide (j < n1) = false := by rw [decide_eq_false_iff_not]; omega
      have i6 := Lib.hid (hV'.out.symm.trans (decide_eq_false (show ¬(j < n1 ∧ s2 < 3000) from fun h => hj1 h.1)))
      clear hj1
      go_wp2_with fail
      go_meet
      exact ⟨by rw [i6.out], by first | rfl | trivial⟩
    case rest =>
    obtain ⟨rfl, rfl⟩ := hcut
    by_cases hc : j < n1 ∧ s2 < 3000
    ·obtain rfl : V = true := hV'.out.symm.trans (decide_eq_true hc)
     obtain ⟨hj1, hs4⟩ := hc
     have i3 : (j : Int) < (n1 : Int) := by omega
     obtain ⟨b1, off1, t, rfl, hbl1, ht, kk⟩ := t1q.out.at_ hj1
     have htl := g3'.out t (List.mem_of_getElem? ht)
     have htz : (strOf t).size = t.length := strOf_size' t
     have hnx : Hid (s2 + t.length = s + (1 + n1 + n2) + lens (r.1.take (j + 1))) := Lib.hid (by rw [lens_take ht, hsv.out]; omega)
     obtain ⟨S, hS⟩ : ∃ S, strOf t = S := ⟨_, rfl⟩
     simp only [tv] at kk
     rw [hS] at kk htz
     obtain ⟨tl, htl2⟩ : ∃ tl, t.length = tl := ⟨_, rfl⟩
     rw [htl2] at htl htz hnx
     clear hS ht htl2
     go_wp2_with fail
     go_roundw
     case rel => exact ⟨j + 1, s2 + tl, by omega, by omega, by go_num, by go_num, hnx, by first | rfl | trivial⟩
     case measure => simp [intOf]; omega
    ·obtain rfl : V = false := hV'.out.symm.trans (decide_eq_false hc)
     have hex : Hid (s2 < 3000 → s2 = s + (1 + n1 + n2) + lens r.1) := Lib.hid fun h => by
      have h2 := hsv.out
      rw [List.take_of_length_le (by have := hl1'.out; omega)] at h2
      exact h2
     clear hc hsv hj t1q
     obtain ⟨wo2, hwo2⟩ : ∃ wo, wo = wc := ⟨wc, rfl⟩
     subst hwo2
     go_wp2_with fail
     go_loopw [3, 6] (fun o i wq => ∃ (j s3 : Nat), j ≤ n2 ∧ s3 ≤ 562949953421312 ∧ i = .int .i64 j ∧ o = .int .i64 s3 ∧ Hid (s3 < 3000 → s3 = s + (1 + n1 + n2) + lens r.1 + lens (r.2.take j)) ∧ wq = wo2) (fun _ i _ => n2 - (intOf i).toNat)
     case atStart => exact ⟨0, s2, by omega, by omega, rfl, rfl, Lib.hid (by simpa [lens] using hex.out), by first | rfl | trivial⟩
     case round =>
      obtain ⟨m, s3, hm, hs5, rfl, rfl, hsv, rfl⟩ := hrel
      obtain ⟨V, hV⟩ : ∃ V, decide (m < n2 ∧ s3 < 3000) = V := ⟨_, rfl⟩
      have hV' := Lib.hid hV
      clear hV
      go_upto_region 11 with fail
      go_cut [65] (fun v wx => v = .bool V ∧ wx = wr)
      case first =>
       by_cases hj1 : m < n2
       ·have i1 : decide ((m : Int) < (n2 : Int)) = true := by rw [decide_eq_true_eq]; omega
        have i2 : decide (m < n2) = true := by rw [decide_eq_true_eq]; omega
        by_cases hs4 : s3 < 3000
        ·have i4 : decide ((s3 : Int) < 3000) = true := by rw [decide_eq_true_eq]; omega
         have i5 : decide (s3 < 3000) = true := by rw [decide_eq_true_eq]; omega
         have i6 := Lib.hid (hV'.out.symm.trans (decide_eq_true (show m < n2 ∧ s3 < 3000 from ⟨hj1, hs4⟩)))
         clear hj1 hs4
         go_wp2_with fail
         go_meet
         exact ⟨by rw [i6.out], by first | rfl | trivial⟩
        ·have i4 : decide ((s3 : Int) < 3000) = false := by rw [decide_eq_false_iff_not]; omega
         have i5 : decide (s3 < 3000) = false := by rw [decide_eq_false_iff_not]; omega
         have i6 := Lib.hid (hV'.out.symm.trans (decide_eq_false (show ¬(m < n2 ∧ s3 < 3000) from fun h => hs4 h.2)))
         clear hj1 hs4
         go_wp2_with fail
         go_meet
         exact ⟨by rw [i6.out], by first | rfl | trivial⟩
       ·have i1 : decide ((m : Int) < (n2 : Int)) = false := by rw [decide_eq_false_iff_not]; omega
        have i2 : decide (m < n2) = false := by rw [decide_eq_false_iff_not]; omega
        have i6 := Lib.hid (hV'.out.symm.trans (decide_eq_false (show ¬(m < n2 ∧ s3 < 3000) from fun h => hj1 h.1)))
        clear hj1
        go_wp2_with fail
        go_meet
        exact ⟨by rw [i6.out], by first | rfl | trivial⟩
      case rest =>
      obtain ⟨rfl, rfl⟩ := hcut
      by_cases hc : m < n2 ∧ s3 < 3000
      ·obtain rfl : V = true := hV'.out.symm.trans (decide_eq_true hc)
       obtain ⟨hj1, hs4⟩ := hc
       have i3 : (m : Int) < (n2 : Int) := by omega
       obtain ⟨b1, off1, t, rfl, hbl1, ht, kk⟩ := t2q.out.at_ hj1
       have htl := g4'.out t (List.mem_of_getElem? ht)
       have htz : (strOf t).size = t.length := strOf_size' t
       have hnx : Hid (s3 + t.length < 3000 → s3 + t.length = s + (1 + n1 + n2) + lens r.1 + lens (r.2.take (m + 1))) := Lib.hid (fun _ => by rw [lens_take ht, hsv.out hs4]; omega)
       obtain ⟨S, hS⟩ : ∃ S, strOf t = S := ⟨_, rfl⟩
       simp only [tv] at kk
       rw [hS] at kk htz
       obtain ⟨tl, htl2⟩ : ∃ tl, t.length = tl := ⟨_, rfl⟩
       rw [htl2] at htl htz hnx
       clear hS ht htl2
       go_wp2_with fail
       go_roundw
       case rel => exact ⟨m + 1, s3 + tl, by omega, by omega, by go_num, by go_num, hnx, by first | rfl | trivial⟩
       case measure => simp [intOf]; omega
      ·obtain rfl : V = false := hV'.out.symm.trans (decide_eq_false hc)
       by_cases hs6 : s3 < 3000
       ·have i7 : decide ((s3 : Int) ≥ 3000) = false := by rw [decide_eq_false_iff_not]; omega
        have i8 : decide (3000 ≤ s3) = false := by rw [decide_eq_false_iff_not]; omega
        have hfin : Hid (s3 = wts (l.take (k + 1))) := Lib.hid (by
         have h2 := hsv.out hs6
         rw [List.take_of_length_le (by have := hl2'.out; omega)] at h2
         rw [hwt.out, h2]
         omega)
        clear hc
        go_wp2_with fail
        go_roundw
        case rel => exact ⟨k + 1, s3, by omega, by omega, by go_num, rfl, hfin, hbq⟩
        case measure => simp [intOf]; omega
       ·have i7 : decide ((s3 : Int) ≥ 3000) = true := by rw [decide_eq_true_eq]; omega
        have i8 : decide (3000 ≤ s3) = true := by rw [decide_eq_true_eq]; omega
        clear hc
        go_wp2_with fail
        go_ret
        exact ⟨false, rfl, by simp, hbq.out⟩
  ·have i1 : decide ((k : Int) < (n : Int)) = false := by rw [decide_eq_false_iff_not]; omega
   have i2 : decide (k < n) = false := by rw [decide_eq_false_iff_not]; omega
   have hf : Hid (wts l < 3000) := Lib.hid (by
    have := hs.out
    rw [List.take_of_length_le (by have := hl'.out; omega)] at this
    omega)
   go_wp2_with fail
   go_ret
   exact ⟨true, rfl, fun _ => hf.out, hb.out⟩
end Go.Proofs.YtdnfnkicmfkkmaaGreatDoor.Ky
end

section
namespace Go.Proofs.YtdnfnkicmfkkmaaGreatDoor.No
open Go.RowKit UtfW Xl Xt Xo
open Go.Proofs.YtdnfnkicmfkkmaaGreatDoor.Ky (Ts OwX tv Rs Rl)

def FitsB (l : List Ky.Rl) (docs : List Nd) : Prop := docs.length ≤ 12 ∧ Ky.wts l < 3000 ∧ Ky.mayB nameR l = true ∧ ∀ x ∈ docs, wN x ≤ 1200
theorem rls_of {l : List Ky.Rl} (h : Ky.wts l < 3000) : RlS l := ⟨by have := Ky.wts_len l; omega, fun r hr => Ky.small_of (M := 700000) (by omega) r hr⟩
set_option maxHeartbeats 20000000 in
set_option maxRecDepth 100000 in
theorem rFits_any (X : Nat → Prop) (Al : Option Addr) (nl cl : Nat) (l : List Ky.Rl) (A2 : Option Addr) (n2 c2 : Nat) (docs : List Nd) (w : World) (hl : Rs w Al nl cl l) (hbig : Ky.Big l) (h2 : Sq (NdE X) 5 w A2 n2 c2 docs) (hX : ∀ j, X j → j < w.heap.size) (hup : ∀ x ∈ docs, wN x ≤ 1152921504606846976) :
  Calls Tryz.prog 21 #[.slice Al nl cl, .slice A2 n2 c2] w fun e w' => (∃ V : Bool, e = .returned (.bool V) ∧ (V = true → FitsB l docs)) ∧ Below w.heap.size w w' := by
 have hall : Hid (∀ x, Below w.heap.size w x → Rs x Al nl cl l ∧ Sq (NdE X) 5 x A2 n2 c2 docs ∧ ∀ j, X j → j < x.heap.size) := Lib.hid fun x hx => ⟨hl.below hx, Xp.sq_keep h2 hx fun vs y h => NdI.later h hX hx, fun j hj => Nat.lt_of_lt_of_le (hX j hj) hx.size⟩
 have hsc := Lib.hid (Ky.refSmall_any Al nl cl l w hl hbig)
 have hdl := Lib.hid h2.len
 have hle := h2.le
 have hmx := h2.max
 have hup' := Lib.hid hup
 clear hl hbig h2 hX hup
 go_enter Tryz.func21, Tryz.ntmps21
 by_cases hn : 12 < n2
 ·have p1 : decide ((n2 : Int) > 12) = true := by rw [decide_eq_true_eq]; omega
  have p2 : decide ((12 : Int) < (n2 : Int)) = true := by rw [decide_eq_true_eq]; omega
  have p3 : decide (12 < n2) = true := by rw [decide_eq_true_eq]; omega
  go_wp2_with fail
  go_ret
  exact ⟨⟨false, rfl, fun h => by cases h⟩, Below.refl _ _⟩
 ·have p1 : decide ((n2 : Int) > 12) = false := by rw [decide_eq_false_iff_not]; omega
  have p2 : decide ((12 : Int) < (n2 : Int)) = false := by rw [decide_eq_false_iff_not]; omega
  have p3 : decide (12 < n2) = false := by rw [decide_eq_false_iff_not]; omega
  go_wp2_with fail
  refine hsc.out.mono ?_
  rintro e w1 ⟨V1, rfl, hV1, hb1⟩
  have hb1' := Lib.hid hb1
  have hV1' := Lib.hid hV1
  clear hb1 hV1
  cases V1 with
  | false =>
   go_wp2_with fail
   go_ret
   exact ⟨⟨false, rfl, fun h => by cases h⟩, hb1'.out⟩
  | true =>
   have hrs := Lib.hid (rls_of (hV1'.out rfl))
   have hwts := Lib.hid (hV1'.out rfl)
   have hmc := Lib.hid (Ky.refMay_any Al nl cl l w1 (hall.out w1 hb1'.out).1 hrs.out.smr)
   obtain ⟨MB, hMB⟩ : ∃ MB, Ky.mayB nameR l = MB := ⟨_, rfl⟩
   rw [hMB] at hmc
   have hMB' := Lib.hid hMB
   clear hMB
   go_wp2_with fail
   refine hmc.out.mono ?_
   rintro e w2 ⟨rfl, hb2⟩
   have hb2' := Lib.hid (hb1'.out.trans (hb2.mono hb1'.out.size))
   clear hb2
   cases MB with
   | false =>
    go_wp2_with fail
    go_ret
    exact ⟨⟨false, rfl, fun h => by cases h⟩, hb2'.out⟩
   | true =>
    go_wp2_with fail
    go_loopw [5] (fun i wr => ∃ k : Nat, k ≤ n2 ∧ i = .int .i64 k ∧ Hid (∀ x ∈ docs.take k, wN x ≤ 1200) ∧ Hid (Below w.heap.size w wr)) (fun i _ => n2 - (intOf i).toNat)
    case atStart => exact ⟨0, by omega, rfl, Lib.hid (fun x hx => by simp at hx), hb2'⟩
    case round =>
     obtain ⟨k, hk, rfl, hpre, hb⟩ := hrel
     obtain ⟨hlx, h2x, hXx⟩ := hall.out wr hb.out
     by_cases hlt : k < n2
     ·have i1 : decide ((k : Int) < (n2 : Int)) = true := by rw [decide_eq_true_eq]; omega
      have i2 : decide (k < n2) = true := by rw [decide_eq_true_eq]; omega
      have i3 : (k : Int) < (n2 : Int) := by omega
      obtain ⟨b, off, y, ys, eA, hbl, hy, hys, hel, hcs⟩ := h2x.at_ hlt
      subst eA
      obtain ⟨kd2, nm2, tx2, as2, kz2, ey⟩ : ∃ kd nm tx as_ kz, y = Nd.mk kd nm tx as_ kz := by cases y; exact ⟨_, _, _, _, _, rfl⟩
      have hel0 := Lib.hid hel
      rw [ey] at hel
      obtain ⟨Aa2, ca2, Ak2, ck2, rfl, _⟩ := hel.cells
      obtain ⟨la2, hla2⟩ : ∃ la, as2.length = la := ⟨_, rfl⟩
      obtain ⟨lk2, hlk2⟩ : ∃ lk, kz2.length = lk := ⟨_, rfl⟩
      obtain ⟨U1, hU1⟩ : ∃ S, strOf nm2 = S := ⟨_, rfl⟩
      obtain ⟨U2, hU2⟩ : ∃ S, strOf tx2 = S := ⟨_, rfl⟩
      rw [hla2, hlk2, hU1, hU2] at hel0
      have m0 : wr.cell? ⟨b, off + k * 5, none⟩ = some (.int .i64 kd2) := hcs 0 _ rfl
      have m1 : wr.cell? ⟨b, off + k * 5 + 1, none⟩ = some (.string U1) := by rw [← hU1]; exact hcs 1 _ rfl
      have m2 : wr.cell? ⟨b, off + k * 5 + 2, none⟩ = some (.string U2) := by rw [← hU2]; exact hcs 2 _ rfl
      have m3 : wr.cell? ⟨b, off + k * 5 + 3, none⟩ = some (.slice Aa2 la2 ca2) := by rw [← hla2]; exact hcs 3 _ rfl
      have m4 : wr.cell? ⟨b, off + k * 5 + 4, none⟩ = some (.slice Ak2 lk2 ck2) := by rw [← hlk2]; exact hcs 4 _ rfl
      have hy' := Lib.hid hy
      have eyH := Lib.hid ey
      have hU1H := Lib.hid hU1
      have hU2H := Lib.hid hU2
      clear hcs hys hel hy hbl hU1 hU2 hla2 hlk2 ey
      have hupy := hup'.out y (List.mem_of_getElem? hy'.out)
      have hsm := Lib.hid (rSmall_any X wr _ y 1200 hel0.out hXx)
      clear hlx h2x hXx hel0
      go_wp2_with fail
      refine hsm.out.mono ?_
      rintro e w3 ⟨⟨c, rfl, hc⟩, hb3⟩
      have hb3' := Lib.hid (hb.out.trans (hb3.mono hb.out.size))
      have hcs := Lib.hid (hc hupy)
      clear hb3 hc m0 m1 m2 m3 m4 hupy
      obtain ⟨cb, hcb⟩ : ∃ cb, decide (c ≤ 1200) = cb := ⟨_, rfl⟩
      have hcbH := Lib.hid hcb
      rw [hcb]
      clear hcb
      cases cb with
      | false =>
       go_wp2_with fail
       go_ret
       exact ⟨⟨false, rfl, fun h => by cases h⟩, hb3'.out⟩
      | true =>
       have hpre2 : Hid (∀ x ∈ docs.take (k + 1), wN x ≤ 1200) := Lib.hid fun x hx => by
        rw [take_snoc hy'.out] at hx
        rcases List.mem_append.1 hx with hx | hx
        ·exact hpre.out x hx
        ·rw [List.mem_singleton] at hx
         subst hx
         have h1 := of_decide_eq_true hcbH.out
         have h2 := hcs.out.2.2 h1
         omega
       go_wp2_with fail
       go_roundw
       case rel => exact ⟨k + 1, by omega, by go_num, hpre2, hb3'⟩
       case measure => simp [intOf]; omega
     ·have i1 : decide ((k : Int) < (n2 : Int)) = false := by rw [decide_eq_false_iff_not]; omega
      have i2 : decide (k < n2) = false := by rw [decide_eq_false_iff_not]; omega
      have e1 : k = n2 := by omega
      subst e1
      have hfin : Hid (FitsB l docs) := Lib.hid ⟨by rw [hdl.out]; omega, hwts.out, hMB'.out, fun x hx => hpre.out x (by rw [List.take_of_length_le (by rw [hdl.out]; exact Nat.le_refl _)]; exact hx)⟩
      clear hlx h2x hXx
      go_wp2_with fail
      go_ret
      exact ⟨⟨true, rfl, fun _ => hfin.out⟩, hb.out⟩

end Go.Proofs.YtdnfnkicmfkkmaaGreatDoor.No
end

section
namespace Go.Proofs.YtdnfnkicmfkkmaaGreatDoor.Vw
open Go.RowKit UtfW Xl Xt Xo No
open Go.Proofs.YtdnfnkicmfkkmaaGreatDoor (Ky.frontB Ky.Rl)
open Go.Proofs.YtdnfnkicmfkkmaaGreatDoor.Ky (Ts OwX tv join Rs)

theorem tabL_nm (l : List Ky.Rl) : ∀ (ks : List Nd) (n m : List Tx) (a p : Nat) (path : Tx) (i : Nat), tabL l n false a p path i ks = tabL l m false a p path i ks
 | [], _, _, _, _, _, _ => by unfold tabL; rfl
 | x :: xs, n, m, a, p, path, i => by
  unfold tabL
  simp only [Bool.false_eq_true, if_false]
  rw [tabL_nm l xs n m]
theorem endS_len {nm : Tx} {key : List Tx} (h1 : nm.length ≤ 2000) (h2 : key.length ≤ 3000) (h3 : ∀ k ∈ key, k.length ≤ 12000) : (endS (nm, key)).length ≤ 90000000 := by
 unfold endS
 split
 ·show nm.length ≤ _; omega
 ·rename_i hne
  have h4 := Ky.join_len [44] (key.map escV)
  rw [List.length_map] at h4
  have h5 : Ky.lens (key.map escV) ≤ key.length * 24000 := by
   clear h4 h2 hne
   induction key with
   | nil => simp [Ky.lens]
   | cons a r ih =>
    have h6 := h3 a (by simp)
    have h7 := escV_len a
    have h8 := ih (fun k hk => h3 k (by simp [hk]))
    unfold Ky.lens at h8 ⊢
    rw [List.map_cons, List.map_cons, List.sum_cons, List.length_cons, Nat.succ_mul]
    omega
  have h6 : key.length * 24000 ≤ 3000 * 24000 := Nat.mul_le_mul_right _ h2
  simp only [List.length_append, List.length_cons, List.length_nil] at h4 ⊢
  omega
def KeyedV (n : Nd) : Prop := ∀ (B b : Nat) (v : Value) (out : List Q) (w : World) (Al : Option Addr) (nl cl : Nat) (l : List Ky.Rl) (Ap : Option Addr) (np cp : Nat) (names : List Tx) (vs : List Value) (pa : Nat) (q : Q) (r : Ky.Rl) (key : List Tx), Vb B b (.slice Al nl cl) v out w → VEnv B Al nl cl l w → (∀ x, Below B w x → NdI (fun j => j < B) x vs n) → Ts w Ap np cp names → (∀ a, Ap = some a → 0 < np → Apart b v w a.block) → names ≠ [] →
 nfN l names n → ruleOf l names = some r → keyR n r.2 = some key → Ky.wts l < 3000 → fairN n = true → wN n ≤ 1200 → out[pa]? = some q → np + wN n ≤ 900000 → out.length + wN n ≤ 7000000 → q.path.length + 100000000 * wN n ≤ 300000000000 →
 Calls Tryz.prog 29 #[.pointer (some ⟨b, 0, none⟩), .agg vs.toArray, .slice Ap np cp, .int .i64 (pa : Nat)] w fun e w' => (∃ r, e = .returned r) ∧ ∃ v', Vb B b (.slice Al nl cl) v' (out ++ tabN l names out.length pa ((if pa = 0 then [] else q.path) ++ 47 :: endS (n.name, key)) n) w' ∧ Bk B b v v' w w'
set_option maxHeartbeats 40000000 in
set_option maxRecDepth 100000 in
theorem vkeyed_any : ∀ (kk : Nat) (n : Nd), SizeOf.sizeOf n ≤ kk → KeyedV n := by
  intro kk
  induction kk with
  | zero => intro n hk; cases n; simp at hk
  | succ kk ih =>
    intro n hkk B b v out w Al nl cl l Ap np cp names vs pa q r key h hE hn hp hpa hne hnf hr hk hwt hf hw hq hnp hN hph
    obtain ⟨kd, nm, tx, as_, kz, rfl⟩ : ∃ kd nm tx as_ kz, n = Nd.mk kd nm tx as_ kz := by cases n; exact ⟨_, _, _, _, _, rfl⟩
    have hn0 := hn w (Below.refl _ _)
    obtain ⟨Ai, ci, Ak, ck, rfl, hA0, hK0, _, _⟩ := hn0.cells
    obtain ⟨li, hli⟩ : ∃ la, as_.length = la := ⟨_, rfl⟩
    obtain ⟨lk, hlk⟩ : ∃ lk, kz.length = lk := ⟨_, rfl⟩
    obtain ⟨S1, hS1⟩ : ∃ S, strOf nm = S := ⟨_, rfl⟩
    obtain ⟨S2, hS2⟩ : ∃ S, strOf tx = S := ⟨_, rfl⟩
    rw [hli, hlk, hS1, hS2] at hn hn0 ⊢
    rw [hlk] at hK0
    obtain ⟨hkd, hnfk⟩ : kd = 1 ∧ (Ky.frontB l names = false → nfL l names kz ∧ (kz.map (stepK l names)).Nodup) := by unfold nfN at hnf; exact hnf
    subst hkd
    have hfe := fair_el hf rfl
    obtain ⟨WN, hWN⟩ : ∃ WN, wN (Nd.mk 1 nm tx as_ kz) = WN := ⟨_, rfl⟩
    have hWE : 1 + nm.length + tx.length + wA as_ + wL kz = WN := by rw [← hWN, wN]
    have hrS := rls_of hwt
    have hrm := rule_mem hr
    have hkl : key.length ≤ 3000 := by
      rw [keyR_len hk]
      have h1 := Ky.wts_le hrm.1
      unfold Ky.wt at h1
      omega
    have hkv : ∀ k ∈ key, k.length ≤ 12000 := fun k hk2 => by have h1 := keyR_vals hk k hk2; omega
    obtain ⟨PT, hPT⟩ : ∃ PT, (if pa = 0 then [] else q.path) ++ 47 :: endS (nm, key) = PT := ⟨_, rfl⟩
    rw [show (Nd.mk 1 nm tx as_ kz).name = nm from rfl, hPT]
    have hel : (endS (nm, key)).length ≤ 90000000 := endS_len (by omega) hkl hkv
    have hPTl : PT.length ≤ q.path.length + 90000001 := by
      rw [← hPT, List.length_append, List.length_cons]
      split
      · simp; omega
      · omega
    obtain ⟨J, hJ⟩ : ∃ J, w.heap.size = J := ⟨_, rfl⟩
    obtain ⟨w1, hw1⟩ : ∃ w1, w.alloc (.cells #[.int .i64 1, .string S1, .string S2, .slice Ai li ci, .slice Ak lk ck] 26) = w1 := ⟨_, rfl⟩
    have hb1 : Below w.heap.size w w1 := by rw [← hw1]; exact (Below.refl _ _).alloc (Nat.le_refl _) _
    have hk1 : w1.heap[J]? = some (.cells #[.int .i64 1, .string S1, .string S2, .slice Ai li ci, .slice Ak lk ck] 26) := by rw [← hw1, ← hJ]; exact heap_alloc_new w _
    have hv1 := h.below hb1
    have hbk1 : Bk B b v v w w1 := Bk.of_below hb1 (h.leB)
    have hJ1 : Apart b v w1 J := h.own_apart (by omega) (Array.getElem?_eq_some_iff.1 hk1).1
    have hp1 : ∀ x vx, Bk B b v vx w1 x → Ts x Ap np cp names := fun x vx hx => Rd.stay (hp.below hb1) fun a ea hn9 => (hx.apart (hbk1.apart (hpa a ea hn9)).1).2
    have hE1 := hE.later hbk1.bel
    have hndx : Hid (∀ x, Below B w x → NdI (fun j => j < B) x [.int .i64 1, .string S1, .string S2, .slice Ai li ci, .slice Ak lk ck] (.mk 1 nm tx as_ kz)) := Lib.hid hn
    have hkey1 := pKey_any (fun j => j < B) w1.drew ((hE1 w1.drew (Joins.below_draws B w1 1)).2.1) Al nl cl l Ap np cp names [.int .i64 1, .string S1, .string S2, .slice Ai li ci, .slice Ak lk ck] (.mk 1 nm tx as_ kz) r key (hE1 w1.drew (Joins.below_draws B w1 1)).2.2 (hp1 w1.drew v (Bk.of_below (Joins.below_draws w1.heap.size w1 1) (hv1.leB))) (fun r hr => by
      obtain ⟨h1, h2, h3, h4⟩ := hrS.smr r hr
      obtain ⟨g1, g2, g3, g4⟩ := hrS.2 r hr
      exact ⟨by omega, by omega, fun k hk => Nat.le_trans (g4 k hk) (by omega)⟩) (hn _ (hbk1.bel.trans (Joins.below_draws B w1 1))) (fun j hj => Nat.lt_of_lt_of_le hj hv1.leB) (by rw [hWN]; omega) hr hk
    obtain ⟨nk, hnk⟩ : ∃ nk, key.length = nk := ⟨_, rfl⟩
    rw [hnk] at hkey1 hkl
    have hkeyH : Hid (Calls Tryz.prog 55 #[.slice Al nl cl, .slice Ap np cp, .agg #[.int .i64 1, .string S1, .string S2, .slice Ai li ci, .slice Ak lk ck]] w1.drew fun e w' => (∃ A c, e = .returned (.tuple #[.slice A nk c, .nilIface]) ∧ OwX w' w1.heap.size 9 (.slice A nk c) key) ∧ Below w1.heap.size w1.drew w') := Lib.hid hkey1
    have t0 := Xp.cell_blk hk1 (i := 0) rfl
    have t1 := Xp.cell_blk hk1 (i := 1) rfl
    have t2 := Xp.cell_blk hk1 (i := 2) rfl
    have t3 := Xp.cell_blk hk1 (i := 3) rfl
    have t4 := Xp.cell_blk hk1 (i := 4) rfl
    have y0 := Xp.cell_blk hv1.blk (i := 0) rfl
    have hp1H := Lib.hid hp1
    have hEH := Lib.hid hE1
    have hv1H := Lib.hid hv1
    have hbk1H := Lib.hid hbk1
    have hJ1H := Lib.hid hJ1
    have hk1H := Lib.hid hk1
    have hPTH := Lib.hid hPT
    have hPTlH := Lib.hid hPTl
    have hnkH := Lib.hid hnk
    have hkvH := Lib.hid hkv
    have hqH := Lib.hid hq
    have hnfkH := Lib.hid hnfk
    have hfeH := Lib.hid hfe
    have hWEH := Lib.hid hWE
    have hnpH := Lib.hid hnp
    have hNH := Lib.hid hN
    have hphH := Lib.hid hph
    have hwtH := Lib.hid hwt
    have hrSH := Lib.hid hrS
    have hneH := Lib.hid hne
    have hrH := Lib.hid hr
    have hS1H := Lib.hid hS1
    have hliH := Lib.hid hli
    have hlkH := Lib.hid hlk
    have hpl := Lib.hid hp.len
    have hWNH := Lib.hid hWN
    have hwH := Lib.hid hw
    have ihH := Lib.hid ih
    have hszy : Hid (∀ y ∈ kz, SizeOf.sizeOf y ≤ kk) := Lib.hid fun y hy => by
      have h2 := List.sizeOf_lt_of_mem hy
      rw [Nd.mk.sizeOf_spec] at hkk
      omega
    have hbw : Hid (b < w.heap.size) := Lib.hid h.lt
    have hlkw : lk ≤ 2000 := by have := wL_len kz; omega
    have l1 := hK0.le
    have l2 := hK0.max
    have hnamH : Hid (nm.length ≤ 2000) := Lib.hid (by omega)
    clear hkk h hE hn hp hpa hne hnf hr hk hwt hf hq hnp hN hph hn0 hA0 hK0 hli hlk hS1 hS2 hnfk hfe hWE hrS hrm hkv hPT hel hPTl hb1 hk1 hv1 hbk1 hJ1 hp1 hE1 hkey1 hnk ih hWN hw
    go_enter Tryz.func29, Tryz.ntmps29
    go_wp2_with fail
    clear hw1 hJ
    refine Pl.wp_region_plan 11 (.take 0 (.take 1 (.take 2 (.take 3 (.take 4 (.take 5 (.run 6 (.take 7 (.take 8 (.take 9 (.take 10 .done))))))))))) (fun x => x.cell? ⟨b, 0, none⟩ = some (.slice Al nl cl) ∧ x.cell? ⟨J, 0, none⟩ = some (.int .i64 1) ∧ x.cell? ⟨J, 1, none⟩ = some (.string S1) ∧ x.cell? ⟨J, 2, none⟩ = some (.string S2) ∧ x.cell? ⟨J, 3, none⟩ = some (.slice Ai li ci) ∧ x.cell? ⟨J, 4, none⟩ = some (.slice Ak lk ck)) (by kernel_rfl) (by kernel_rfl) (by exact ⟨y0, t0, t1, t2, t3, t4⟩) ?_
    simp only [Pl.fill, List.getElem?_cons_zero, List.getElem?_cons_succ, List.drop_succ_cons, List.drop_zero]
    iterate 6
      first
      | (refine Pl.take_go ?_ (by rfl) (fun _ _ _ h => h) ?_ ?_
         rotate_left
         · (intro x hSw; (try (dsimp only at hSw)); go_simp; try with_reducible rfl)
         (try simp only [Act.put, List.setIfInBounds_toArray, List.set_cons_zero, List.set_cons_succ]))
      | (refine Pl.take_skip (by rfl) (fun _ _ _ h => h) ?_
         (try simp only [Act.put, List.setIfInBounds_toArray, List.set_cons_zero, List.set_cons_succ]))
    refine Pl.run_go (fun K hK => ?_)
    go_simp
    refine hkeyH.out.mono ?_
    rintro e w2 ⟨⟨A2, c2, rfl, ho2⟩, hb2⟩
    have hb12 : Below w1.heap.size w1 w2 := (show Below w1.heap.size w1 w1.drew from Joins.below_draws w1.heap.size w1 1).trans hb2
    have hv2 := Lib.hid (hv1H.out.below hb12)
    have hbk12 := Lib.hid (Bk.of_below (b := b) (v := v) hb12 (hv1H.out.leB))
    have hJ2 := Lib.hid (hbk12.out.apart hJ1H.out).1
    have hk2 := Lib.hid ((hbk12.out.apart hJ1H.out).2.trans hk1H.out)
    have ho2H := Lib.hid ho2
    obtain ⟨g0, g1, g2, g3, g4⟩ := cells_of5 hk2.out
    have gy : w2.cell? ⟨b, 0, none⟩ = some (.slice Al nl cl) := Xp.cell_blk hv2.out.blk (i := 0) rfl
    clear ho2 hb2 hb12
    dsimp only
    refine hK.out _ _ (Pl.more_go _ (fun _ h => h) (by exact ⟨gy, g0, g1, g2, g3, g4⟩) ?_)
    clear hK K
    try simp only [Act.put, List.setIfInBounds_toArray, List.set_cons_zero, List.set_cons_succ]
    iterate 4
      first
      | (refine Pl.take_go ?_ (by rfl) (fun _ _ _ h => h) ?_ ?_
         rotate_left
         · (intro x hSw; (try (dsimp only at hSw)); go_simp; try with_reducible rfl)
         (try simp only [Act.put, List.setIfInBounds_toArray, List.set_cons_zero, List.set_cons_succ]))
      | (refine Pl.take_skip (by rfl) (fun _ _ _ h => h) ?_
         (try simp only [Act.put, List.setIfInBounds_toArray, List.set_cons_zero, List.set_cons_succ]))
    refine Pl.done_go ?_
    clear t0 t1 t2 t3 t4 y0 g0 g2 g4 gy
    have hstp := Lib.hid (vstep_any (.pointer (some ⟨b, 0, none⟩)) nm key A2 nk c2 w2.drew (ho2H.out.rd.below (Joins.below_draws w2.heap.size w2 1)) (by omega) (by have := hnamH.out; omega) (fun k hk => Nat.le_trans (hkvH.out k hk) (by omega)))
    rw [hS1H.out] at hstp
    obtain ⟨ES, hES⟩ : ∃ S, strOf (endS (nm, key)) = S := ⟨_, rfl⟩
    rw [hES] at hstp
    have hbelc : Hid (∀ x vx, Vb B b (.slice Al nl cl) vx out x → Calls Tryz.prog 57 #[.pointer (some ⟨b, 0, none⟩), .int .i64 (pa : Nat), .string ES] x fun e w' => e = .returned (.string (strOf PT)) ∧ w' = x) := Lib.hid fun x vx hx => by
      have h1 := vbelow_any B b _ vx out x pa q (endS (nm, key)) hx hqH.out (by have := hphH.out; have := endS_len hnamH.out (by rw [hnkH.out]; exact hkl) hkvH.out; omega)
      rw [hES, hPTH.out] at h1
      exact h1
    obtain ⟨PS, hPS⟩ : ∃ S, strOf PT = S := ⟨_, rfl⟩
    rw [hPS] at hbelc
    have hPSH := Lib.hid hPS
    clear hES hPS
    go_wp2_with fail
    refine Pl.wp_region_plan 14 (.take 0 (.take 1 (.take 2 (.take 3 (.take 4 (.take 5 (.take 6 (.take 7 (.take 8 (.take 9 (.take 10 (.take 11 (.run 12 (.run 13 .done)))))))))))))) (fun x => x.cell? ⟨J, 1, none⟩ = some (.string S1) ∧ x.cell? ⟨J, 3, none⟩ = some (.slice Ai li ci)) (by kernel_rfl) (by kernel_rfl) (by exact ⟨g1, g3⟩) ?_
    simp only [Pl.fill, List.getElem?_cons_zero, List.getElem?_cons_succ, List.drop_succ_cons, List.drop_zero]
    iterate 12
      first
      | (refine Pl.take_go ?_ (by rfl) (fun _ _ _ h => h) ?_ ?_
         rotate_left
         · (intro x hSw; (try (dsimp only at hSw)); go_simp; try with_reducible rfl)
         (try simp only [Act.put, List.setIfInBounds_toArray, List.set_cons_zero, List.set_cons_succ]))
      | (refine Pl.take_skip (by rfl) (fun _ _ _ h => h) ?_
         (try simp only [Act.put, List.setIfInBounds_toArray, List.set_cons_zero, List.set_cons_succ]))
    refine Pl.run_go (fun K hK => ?_)
    go_simp
    refine hstp.out.mono ?_
    rintro e w3 ⟨rfl, hb3⟩
    have hb23 : Below w2.heap.size w2 w3 := (show Below w2.heap.size w2 w2.drew from Joins.below_draws w2.heap.size w2 1).trans hb3
    have hv3 := Lib.hid (hv2.out.below hb23)
    have hbk23 := Lib.hid (Bk.of_below (b := b) (v := v) hb23 (hv2.out.leB))
    have hJ3 := Lib.hid (hbk23.out.apart hJ2.out).1
    have hk3 := Lib.hid ((hbk23.out.apart hJ2.out).2.trans hk2.out)
    obtain ⟨d0, d1, d2, d3, d4⟩ := cells_of5 hk3.out
    clear hb3 hb23
    refine hK.out _ _ (Pl.more_go _ (fun _ h => h) (by exact ⟨d1, d3⟩) ?_)
    clear hK K
    try simp only [Act.put, List.setIfInBounds_toArray, List.set_cons_zero, List.set_cons_succ]
    refine Pl.run_go (fun K hK => ?_)
    go_simp
    refine (hbelc.out w3 v hv3.out).mono ?_
    rintro e w4 ⟨rfl, rfl⟩
    refine hK.out _ _ (Pl.more_go _ (fun _ h => h) (by exact ⟨d1, d3⟩) ?_)
    clear hK K
    try simp only [Act.put, List.setIfInBounds_toArray, List.set_cons_zero, List.set_cons_succ]
    refine Pl.done_go ?_
    have hbw4 : Hid (Bk B b v v w w4) := Lib.hid ((hbk1H.out.trans hbk12.out).trans hbk23.out)
    have hE4 := Lib.hid (hEH.out.later ((hbk12.out.trans hbk23.out).bel))
    have helc := Lib.hid (velem_any B b (.slice Al nl cl) v out w4 nm as_ Ai li ci (pa : Nat) PT hv3.out (fun x hx => (nd_rows (hndx.out x (hbw4.out.bel.trans hx))).2.2.2.1) (by have := (List.getElem?_eq_some_iff.1 hqH.out).1; omega) (by have := Xp.wA_len as_; have := hWEH.out; have := hNH.out; have := hWNH.out; omega) (by have := hPTlH.out; have := hphH.out; have := hWEH.out; have := hwH.out; have := hWNH.out; omega))
    rw [hS1H.out, hPSH.out] at helc
    clear g1 g3 d0 d1 d2 d3 d4 hstp hbelc
    go_wp2_with fail
    refine helc.out.mono ?_
    rintro e w5 ⟨rfl, v5, hv5, hk5⟩
    have hbw5 := Lib.hid (hbw4.out.trans hk5)
    have hJ5 := Lib.hid (hk5.apart hJ3.out).1
    have hk5J := Lib.hid ((hk5.apart hJ3.out).2.trans hk3.out)
    have hv5H := Lib.hid hv5
    have hE5 := Lib.hid (hE4.out.later hk5.bel)
    have hts5 : Hid (∀ x vx, Bk B b v5 vx w5 x → Ts x Ap np cp names) := Lib.hid fun x vx hx => hp1H.out x vx (((hbk12.out.trans hbk23.out).trans hk5).trans hx)
    have hyb5 : w5.cell? ⟨b, 0, none⟩ = some (.slice Al nl cl) := Xp.cell_blk hv5.blk (i := 0) rfl
    have hfr := Lib.hid (Ky.Front_any Al nl cl l Ap np cp names w5 (hE5.out w5 (Below.refl _ _)).2.2 (hts5.out w5 v5 Bk.refl))
    obtain ⟨o5, ho5⟩ : ∃ o5, out ++ (⟨1, nm, [], (pa : Nat), out.length + 1, PT⟩ : Q) :: attrRows out.length PT (out.length + 1) as_ = o5 := ⟨_, rfl⟩
    have ho5H := Lib.hid ho5
    rw [ho5] at hv5H
    obtain ⟨at_, hat⟩ : ∃ at_, out.length = at_ := ⟨_, rfl⟩
    have hatH := Lib.hid hat
    have hrow5 : Hid (o5[at_]? = some ⟨1, nm, [], (pa : Nat), out.length + 1, PT⟩) := Lib.hid (by
      rw [← ho5, ← hat, List.getElem?_append_right (Nat.le_refl _), Nat.sub_self]
      rfl)
    have hlen5 : Hid (o5.length = at_ + 1 + li) := Lib.hid (by
      rw [← ho5, ← hat, List.length_append, List.length_cons, attrRows_len, hliH.out]
      omega)
    have hat0 : Hid (0 < at_) := Lib.hid (by have := (List.getElem?_eq_some_iff.1 hqH.out).1; omega)
    rw [hat]
    clear hv5 hk5 helc ho5 hat
    go_wp2_with fail
    refine hfr.out.mono ?_
    rintro e w6 ⟨rfl, hb6⟩
    have hv6 := Lib.hid (hv5H.out.below hb6)
    have hbk6 := Lib.hid (Bk.of_below (b := b) (v := v5) hb6 (hv5H.out.leB))
    have hk6 := Lib.hid ((hbk6.out.apart hJ5.out).2.trans hk5J.out)
    have hE6 := Lib.hid (hE5.out.later hbk6.out.bel)
    have hbw6 := Lib.hid (hbw5.out.trans hbk6.out)
    obtain ⟨g0, g1, g2, g3, g4⟩ := cells_of5 hk6.out
    obtain ⟨FB, hFB⟩ : ∃ FB, Ky.frontB l names = FB := ⟨_, rfl⟩
    rw [hFB]
    have hfrE := Lib.hid hFB
    clear hb6 hFB hfr
    cases FB with
    | true =>
      have hcc := Lib.hid (vcont_any (SizeOf.sizeOf kz) kz (Nat.le_refl _) B b (.slice Al nl cl) v5 o5 w6 Ak lk ck at_ _ l Al nl cl hv6.out hE6.out (fun x hx => (nd_rows (hndx.out x (hbw6.out.bel.trans hx))).2.2.2.2.1) hrow5.out hat0.out (fairL_all hfeH.out.2.2.2) (by rw [hlen5.out]; have := Xp.wA_len as_; have := hWEH.out; have := hNH.out; have := hatH.out; have := hliH.out; have := hWNH.out; omega) (by
        show PT.length + 100 * wL kz ≤ _
        have := hPTlH.out; have := hphH.out; have := hWEH.out; have := hwH.out; have := hWNH.out; omega))
      clear g0 g1 g2 g3 hyb5
      go_wp2_with fail
      refine hcc.out.mono ?_
      rintro e w9 ⟨⟨r9, rfl⟩, v9, hv9, hk9⟩
      have hbw9 := Lib.hid (hbw6.out.trans hk9)
      rw [tabL_nm l kz [] names] at hv9
      clear hk9 hcc g4
      have hlen9 : (o5 ++ tabL l names false o5.length at_ PT 0 kz).length ≤ 8000000 := by
        rw [List.length_append, hlen5.out]
        have h1 := tabL_w l kz names false (at_ + 1 + li) at_ PT 0
        have h2 := Xp.wA_len as_
        have := hWEH.out
        have := hNH.out
        have := hatH.out
        have := hliH.out
        have := hWNH.out
        omega
      have hsh := vshut_any B b _ v9 (o5 ++ tabL l names false o5.length at_ PT 0 kz) w9 at_ _ hv9 (by omega) (app_at hrow5.out)
      have etab : Hid ((o5 ++ tabL l names false o5.length at_ PT 0 kz).set at_ ⟨1, nm, [], (pa : Nat), (o5 ++ tabL l names false o5.length at_ PT 0 kz).length, PT⟩ = out ++ tabN l names out.length pa PT (.mk 1 nm tx as_ kz)) := Lib.hid (by
        have h1 := tab_shut l names out (pa : Nat) PT nm as_ kz (tabL l names false o5.length at_ PT 0 kz) pa rfl (by rw [hfrE.out, decide_eq_true hneH.out, hlen5.out, ← hatH.out, ← hliH.out]; rfl)
        generalize tabL l names false o5.length at_ PT 0 kz = T9 at h1 ⊢
        rw [← hatH.out, hfeH.out.2.1, ← ho5H.out, List.append_assoc, List.cons_append]
        exact h1)
      have hshH := Lib.hid hsh
      clear hsh hlen9 hv9
      go_wp2_with fail
      refine hshH.out.mono ?_
      rintro e w10 ⟨⟨r10, rfl⟩, hv10, hk10⟩
      have hv10H : Hid (Vb B b (.slice Al nl cl) v9 (out ++ tabN l names out.length pa PT (.mk 1 nm tx as_ kz)) w10) := Lib.hid (by rw [← etab.out]; exact hv10)
      have hk10H := Lib.hid (hbw9.out.trans hk10)
      clear hv10 hk10
      go_wp2_with fail
      go_end0
      exact ⟨⟨_, rfl⟩, v9, hv10H.out, hk10H.out⟩
    | false =>
      have hst : Hid (∃ v', Vb B b (.slice Al nl cl) v' (o5 ++ tabL l names true o5.length at_ PT 0 (kz.take 0)) w6 ∧ Bk B b v v' w w6 ∧ Bk B b v5 v' w5 w6) := Lib.hid ⟨v5, by rw [List.take_zero]; unfold tabL; rw [List.append_nil]; exact hv6.out, hbw6.out, hbk6.out⟩
      clear g0 g1 g2 g3 hyb5
      go_wp2_with fail
      clear g4
      go_loopw [52] (fun vi wr => ∃ k : Nat, k ≤ lk ∧ vi = .int .i64 (k : Nat) ∧ Hid (∃ v', Vb B b (.slice Al nl cl) v' (o5 ++ tabL l names true o5.length at_ PT 0 (kz.take k)) wr ∧ Bk B b v v' w wr ∧ Bk B b v5 v' w5 wr)) (fun vi _ => lk - (intOf vi).toNat)
      case atStart => exact ⟨0, by omega, rfl, hst⟩
      case round =>
        obtain ⟨k, hk, rfl, hin⟩ := hrel
        clear hst
        obtain ⟨v6, hv7, hk7, hk57⟩ := hin.out
        by_cases hlt : k < lk
        · have i1 : decide ((k : Int) < (lk : Int)) = true := by rw [decide_eq_true_eq]; omega
          have i2 : decide (k < lk) = true := by rw [decide_eq_true_eq]; omega
          have i3 : (k : Int) < (lk : Int) := by omega
          obtain ⟨ba, off, y, ys, eA, hbl, hy, hys, hel, hcs⟩ := ((nd_rows (hndx.out wr hk7.bel)).2.2.2.2.1).at_ hlt
          subst eA
          obtain ⟨kd2, nm2, tx2, as2, kz2, ey⟩ : ∃ kd nm tx as_ kz, y = Nd.mk kd nm tx as_ kz := by cases y; exact ⟨_, _, _, _, _, rfl⟩
          have hel0 := Lib.hid hel
          rw [ey] at hel
          obtain ⟨Aa2, ca2, Ak2, ck2, rfl, _⟩ := hel.cells
          obtain ⟨la2, hla2⟩ : ∃ la, as2.length = la := ⟨_, rfl⟩
          obtain ⟨lk2, hlk2⟩ : ∃ lk, kz2.length = lk := ⟨_, rfl⟩
          obtain ⟨U1, hU1⟩ : ∃ S, strOf nm2 = S := ⟨_, rfl⟩
          obtain ⟨U2, hU2⟩ : ∃ S, strOf tx2 = S := ⟨_, rfl⟩
          rw [hla2, hlk2, hU1, hU2] at hel0
          have m0 : wr.cell? ⟨ba, off + k * 5, none⟩ = some (.int .i64 kd2) := hcs 0 _ rfl
          have m1 : wr.cell? ⟨ba, off + k * 5 + 1, none⟩ = some (.string U1) := by rw [← hU1]; exact hcs 1 _ rfl
          have m2 : wr.cell? ⟨ba, off + k * 5 + 2, none⟩ = some (.string U2) := by rw [← hU2]; exact hcs 2 _ rfl
          have m3 : wr.cell? ⟨ba, off + k * 5 + 3, none⟩ = some (.slice Aa2 la2 ca2) := by rw [← hla2]; exact hcs 3 _ rfl
          have m4 : wr.cell? ⟨ba, off + k * 5 + 4, none⟩ = some (.slice Ak2 lk2 ck2) := by rw [← hlk2]; exact hcs 4 _ rfl
          have hy' := Lib.hid hy
          have eyH := Lib.hid ey
          have hU1H := Lib.hid hU1
          have hU2H := Lib.hid hU2
          clear hcs hys hel hy hbl hU1 hU2 hla2 hlk2 ey
          obtain ⟨J2, hJ2⟩ : ∃ J, wr.heap.size = J := ⟨_, rfl⟩
          obtain ⟨w8, hw8⟩ : ∃ w8, wr.alloc (.cells #[.int .i64 kd2, .string U1, .string U2, .slice Aa2 la2 ca2, .slice Ak2 lk2 ck2] 26) = w8 := ⟨_, rfl⟩
          have hb8 : Below wr.heap.size wr w8 := by rw [← hw8]; exact (Below.refl _ _).alloc (Nat.le_refl _) _
          have hkJ2 : w8.heap[J2]? = some (.cells #[.int .i64 kd2, .string U1, .string U2, .slice Aa2 la2 ca2, .slice Ak2 lk2 ck2] 26) := by rw [← hw8, ← hJ2]; exact heap_alloc_new wr _
          obtain ⟨n0, n1, n2, n3, n4⟩ := cells_of5 hkJ2
          obtain ⟨o8, ho8⟩ : ∃ o8, o5 ++ tabL l names true o5.length at_ PT 0 (kz.take k) = o8 := ⟨_, rfl⟩
          have hv8 := Lib.hid (hv7.below hb8)
          rw [ho8] at hv8
          have hbk8 := Bk.of_below (b := b) (v := v6) hb8 (hv7.leB)
          have hbkA := Lib.hid (hk7.trans hbk8)
          have hbkB := Lib.hid (hk57.trans hbk8)
          have hE8 := Lib.hid (hE5.out.later hbkB.out.bel)
          have hts8 := hts5.out w8 v6 hbkB.out
          have hcl : Hid (∀ x, Below w8.heap.size w8 x → Calls Tryz.prog 61 #[.slice Ap np cp] x fun e w' => ∃ A' c', e = .returned (.slice A' np c') ∧ OwX w' x.heap.size 9 (.slice A' np c') names ∧ Below x.heap.size x w') := Lib.hid fun x hx => Ky.clone_any Ap np cp names x (hts8.below hx) (by have := hnpH.out; omega)
          have hcJ : Hid (∀ x, Below w8.heap.size w8 x → x.heap[J2]? = some (.cells #[.int .i64 kd2, .string U1, .string U2, .slice Aa2 la2 ca2, .slice Ak2 lk2 ck2] 26)) := Lib.hid fun x hx => (hx.block J2 (Array.getElem?_eq_some_iff.1 hkJ2).1).trans hkJ2
          have hbr8 : Hid (Below B wr w8) := Lib.hid hbk8.bel
          have hyx : Hid (∀ x, Below B wr x → NdI (fun j => j < B) x [.int .i64 kd2, .string U1, .string U2, .slice Aa2 la2 ca2, .slice Ak2 lk2 ck2] y) := Lib.hid fun x hx => hel0.out.stay fun j hj => ⟨hj, hx.block j hj⟩
          have hymH := Lib.hid (List.mem_of_getElem? hy'.out)
          have hfy := Lib.hid (fairL_all hfeH.out.2.2.2 y hymH.out)
          have hwy : Hid (wN y ≤ wL kz) := Lib.hid (wL_mem hymH.out)
          have hny0 := nfL_iff.1 (hnfkH.out hfrE.out).1 y hymH.out
          obtain ⟨⟨r2, hr2, key2, hk2'⟩, hny1⟩ := hny0
          have hyn : y.name = nm2 := by rw [eyH.out]; rfl
          rw [hyn] at hr2 hny1
          have hr2 := Lib.hid hr2
          have hk2' := Lib.hid hk2'
          have hny := Lib.hid (And.intro trivial hny1)
          have hrow8 : Hid (o8[at_]? = some ⟨1, nm, [], (pa : Nat), out.length + 1, PT⟩) := Lib.hid (by rw [← ho8]; exact app_at hrow5.out)
          have hlen8 : Hid (o8.length + wN y ≤ 7000000) := Lib.hid (by
            rw [← ho8, List.length_append, hlen5.out]
            have h1 := tabL_w l (kz.take k) names true (at_ + 1 + li) at_ PT 0
            have h2 : wL (kz.take k) + wN y ≤ wL kz := by
              have h3 := wL_take kz (k + 1)
              rw [take_snoc hy'.out, wL_append] at h3
              simp only [wL] at h3
              omega
            have h4 := Xp.wA_len as_
            have := hWEH.out; have := hNH.out; have := hatH.out; have := hliH.out; have := hWNH.out
            omega)
          have hsnoc : Hid (o5 ++ tabL l names true o5.length at_ PT 0 (kz.take (k + 1)) = o8 ++ tabN l (names ++ [nm2]) o8.length at_ (PT ++ 47 :: endS (y.name, key2)) y) := Lib.hid (by
            rw [take_snoc hy'.out, tabL_snoc, ← List.append_assoc, ho8]
            have h10 : o5.length + (tabL l names true o5.length at_ PT 0 (kz.take k)).length = o8.length := by rw [← ho8, List.length_append]
            have h11 : stepK l names y = (y.name, key2) := by
              unfold stepK
              rw [hyn, hr2.out]
              simp only [hk2'.out, Option.getD_some]
            rw [h10, h11, hyn]
            simp)
          have hnple : np + 1 ≤ 900000 := by
            have := hnpH.out; have := hwy.out; have := hWEH.out; have := hWNH.out
            have h9 : 1 ≤ wN y := by rw [eyH.out, wN]; omega
            omega
          have hcple := hts8.le
          have hcpmx := Rd.max hts8
          clear hts8 hb8 hkJ2 ho8 hv7 hk7 hk57 hbk8 hel0 hyn hny1 hin
          go_wp2_with fail
          clear hw8 hJ2
          refine Pl.wp_region_plan 9 (.take 0 (.take 1 (.take 2 (.take 4 (.take 5 (.take 8 (.two 3 (.run 6 (.run 7 .done)) 6 (.run 3 (.run 7 .done))))))))) (fun x => x.cell? ⟨J2, 0, none⟩ = some (.int .i64 kd2) ∧ x.cell? ⟨J2, 1, none⟩ = some (.string U1) ∧ x.cell? ⟨J2, 2, none⟩ = some (.string U2) ∧ x.cell? ⟨J2, 3, none⟩ = some (.slice Aa2 la2 ca2) ∧ x.cell? ⟨J2, 4, none⟩ = some (.slice Ak2 lk2 ck2)) (by kernel_rfl) (by kernel_rfl) (by exact ⟨n0, n1, n2, n3, n4⟩) ?_
          simp only [Pl.fill, List.getElem?_cons_zero, List.getElem?_cons_succ, List.drop_succ_cons, List.drop_zero]
          iterate 6
            first
            | (refine Pl.take_go ?_ (by rfl) (fun _ _ _ h => h) ?_ ?_
               rotate_left
               · (intro x hSw; (try (dsimp only at hSw)); go_simp; try with_reducible rfl)
               (try simp only [Act.put, List.setIfInBounds_toArray, List.set_cons_zero, List.set_cons_succ]))
            | (refine Pl.take_skip (by rfl) (fun _ _ _ h => h) ?_
               (try simp only [Act.put, List.setIfInBounds_toArray, List.set_cons_zero, List.set_cons_succ]))
          clear n0 n1 n2 n3 n4
          refine Pl.two_go ?_ ?_
          · refine Pl.run_go (fun K hK => ?_)
            go_simp
            refine (hcl.out w8.drew (Joins.below_draws w8.heap.size w8 1)).mono ?_
            rintro e x2 ⟨A8, c8, rfl, ho8, hb8⟩
            have hbx2 : Below w8.heap.size w8 x2 := (show Below w8.heap.size w8 w8.drew from Joins.below_draws w8.heap.size w8 1).trans hb8
            obtain ⟨d0, d1, d2, d3, d4⟩ := cells_of5 (hcJ.out x2 hbx2)
            refine hK.out _ _ (Pl.more_go _ (fun _ h => h) (by exact ⟨d0, d1, d2, d3, d4⟩) ?_)
            clear hK K d0 d1 d2 d3 d4
            try simp only [Act.put, List.setIfInBounds_toArray, List.set_cons_zero, List.set_cons_succ]
            refine Pl.run_go (fun K hK => ?_)
            go_simp
            have hbx3 := hbx2.trans ((below_alloc x2 (.cells #[.string U1] 9)).mono hbx2.size)
            have ho9 := ho8.below (below_alloc x2 (.cells #[.string U1] 9))
            have hlit := Ky.ts_lit x2 U1 nm2 9 (0, 0) hU1H.out.symm
            have ho9d : OwX (x2.alloc (.cells #[.string U1] 9)) w8.heap.size 9 (.slice A8 np c8) names := ho9
            obtain ⟨d0, d1, d2, d3, d4⟩ := cells_of5 (hcJ.out _ hbx3)
            refine hK.out _ _ (Pl.more_go _ (fun _ h => h) (by exact ⟨d0, d1, d2, d3, d4⟩) ?_)
            clear hK K d0 d1 d2 d3 d4
            try simp only [Act.put, List.setIfInBounds_toArray, List.set_cons_zero, List.set_cons_succ]
            refine Pl.run_list (fun K hK => ?_)
            refine Ky.append_ts _ 33 9 Tryz.underlying33 Ky.str_info rfl _ _ rfl w8.heap.size _ names rfl ho9d _ 1 1 [nm2] rfl hlit (np + 1) (by rw [hpl.out]) (by omega) hbx3.size ?_
            intro A9 c9 x9 ho10 hg10 hb10
            have hbx9 := Lib.hid (hbx3.trans hb10)
            have hts9 := Lib.hid ho10
            obtain ⟨d0, d1, d2, d3, d4⟩ := cells_of5 (hcJ.out _ hbx9.out)
            clear ho10 hg10 hb10 hbx3
            refine hK.out _ _ (Pl.more_go _ (fun _ h => h) (by exact ⟨d0, d1, d2, d3, d4⟩) ?_)
            clear hK K d0 d1 d2 d3 d4
            try simp only [Act.put, List.setIfInBounds_toArray, List.set_cons_zero, List.set_cons_succ]
            refine Pl.done_go ?_
            have hv9x := Lib.hid (hv8.out.below hbx9.out)
            have hbk9 := Lib.hid (Bk.of_below (b := b) (v := v6) hbx9.out (hv8.out.leB))
            have hkc := Lib.hid (ihH.out y (hszy.out y hymH.out) B b v6 o8 x9 Al nl cl l A9 (np + 1) c9 (names ++ [nm2]) [.int .i64 kd2, .string U1, .string U2, .slice Aa2 la2 ca2, .slice Ak2 lk2 ck2] at_ _ r2 key2 hv9x.out (hE8.out.later hbk9.out.bel) (fun x hx => hyx.out x (hbr8.out.trans (hbk9.out.bel.trans hx))) hts9.out.rd (fun a ea _ => by
              have h1 := hts9.out.lt a.block (by subst ea; rfl)
              refine ⟨h1.2, by have := hv8.out.lt; omega, fun e9 => ?_⟩
              have := (hv8.out.row_lt _ e9).2
              omega) (by simp) hny.out.2 hr2.out hk2'.out hwtH.out hfy.out (by have := hwy.out; have := hWEH.out; have := hwH.out; have := hWNH.out; omega) hrow8.out (by have := hnpH.out; have := hwy.out; have := hWEH.out; have := hWNH.out; omega) hlen8.out (by
              show PT.length + _ ≤ _
              have := hPTlH.out; have := hphH.out; have := hwy.out; have := hWEH.out; have := hWNH.out; omega))
            go_wp2_with fail
            refine hkc.out.mono ?_
            rintro e w11 ⟨⟨r11, rfl⟩, v11, hv11, hk11⟩
            rw [if_neg (by have := hat0.out; omega)] at hv11
            have hrel2 : Hid (∃ v', Vb B b (.slice Al nl cl) v' (o5 ++ tabL l names true o5.length at_ PT 0 (kz.take (k + 1))) w11 ∧ Bk B b v v' w w11 ∧ Bk B b v5 v' w5 w11) := Lib.hid ⟨v11, by rw [hsnoc.out]; exact hv11, ((hbkA.out.trans hbk9.out).trans hk11), ((hbkB.out.trans hbk9.out).trans hk11)⟩
            clear hv11 hk11 hkc
            go_wp2_with fail
            go_roundw
            case rel => exact ⟨k + 1, by omega, by go_num, hrel2⟩
            case measure => simp [intOf]; omega
          · refine Pl.run_go (fun K hK => ?_)
            go_simp
            have hbx2 : Below w8.heap.size w8 (w8.drew.alloc (.cells #[.string U1] 9)) := (show Below w8.heap.size w8 w8.drew from Joins.below_draws w8.heap.size w8 1).trans (below_alloc w8.drew _)
            have hlit0 := Ky.ts_lit w8.drew U1 nm2 9 (0, 0) hU1H.out.symm
            obtain ⟨d0, d1, d2, d3, d4⟩ := cells_of5 (hcJ.out _ hbx2)
            refine hK.out _ _ (Pl.more_go _ (fun _ h => h) (by exact ⟨d0, d1, d2, d3, d4⟩) ?_)
            clear hK K d0 d1 d2 d3 d4
            try simp only [Act.put, List.setIfInBounds_toArray, List.set_cons_zero, List.set_cons_succ]
            refine Pl.run_go (fun K hK => ?_)
            go_simp
            refine (hcl.out _ hbx2).mono ?_
            rintro e x3 ⟨A8, c8, rfl, ho8, hb8⟩
            have hbx3 := hbx2.trans (hb8.mono hbx2.size)
            have hlit := hlit0.below hb8
            have ho9d : OwX x3 w8.heap.size 9 (.slice A8 np c8) names := ho8.down hbx2.size
            obtain ⟨d0, d1, d2, d3, d4⟩ := cells_of5 (hcJ.out _ hbx3)
            refine hK.out _ _ (Pl.more_go _ (fun _ h => h) (by exact ⟨d0, d1, d2, d3, d4⟩) ?_)
            clear hK K d0 d1 d2 d3 d4
            try simp only [Act.put, List.setIfInBounds_toArray, List.set_cons_zero, List.set_cons_succ]
            refine Pl.run_list (fun K hK => ?_)
            refine Ky.append_ts _ 33 9 Tryz.underlying33 Ky.str_info rfl _ _ rfl w8.heap.size _ names rfl ho9d _ 1 1 [nm2] rfl hlit (np + 1) (by rw [hpl.out]) (by omega) hbx3.size ?_
            intro A9 c9 x9 ho10 hg10 hb10
            have hbx9 := Lib.hid (hbx3.trans hb10)
            have hts9 := Lib.hid ho10
            obtain ⟨d0, d1, d2, d3, d4⟩ := cells_of5 (hcJ.out _ hbx9.out)
            clear ho10 hg10 hb10 hbx3
            refine hK.out _ _ (Pl.more_go _ (fun _ h => h) (by exact ⟨d0, d1, d2, d3, d4⟩) ?_)
            clear hK K d0 d1 d2 d3 d4
            try simp only [Act.put, List.setIfInBounds_toArray, List.set_cons_zero, List.set_cons_succ]
            refine Pl.done_go ?_
            have hv9x := Lib.hid (hv8.out.below hbx9.out)
            have hbk9 := Lib.hid (Bk.of_below (b := b) (v := v6) hbx9.out (hv8.out.leB))
            have hkc := Lib.hid (ihH.out y (hszy.out y hymH.out) B b v6 o8 x9 Al nl cl l A9 (np + 1) c9 (names ++ [nm2]) [.int .i64 kd2, .string U1, .string U2, .slice Aa2 la2 ca2, .slice Ak2 lk2 ck2] at_ _ r2 key2 hv9x.out (hE8.out.later hbk9.out.bel) (fun x hx => hyx.out x (hbr8.out.trans (hbk9.out.bel.trans hx))) hts9.out.rd (fun a ea _ => by
              have h1 := hts9.out.lt a.block (by subst ea; rfl)
              refine ⟨h1.2, by have := hv8.out.lt; omega, fun e9 => ?_⟩
              have := (hv8.out.row_lt _ e9).2
              omega) (by simp) hny.out.2 hr2.out hk2'.out hwtH.out hfy.out (by have := hwy.out; have := hWEH.out; have := hwH.out; have := hWNH.out; omega) hrow8.out (by have := hnpH.out; have := hwy.out; have := hWEH.out; have := hWNH.out; omega) hlen8.out (by
              show PT.length + _ ≤ _
              have := hPTlH.out; have := hphH.out; have := hwy.out; have := hWEH.out; have := hWNH.out; omega))
            go_wp2_with fail
            refine hkc.out.mono ?_
            rintro e w11 ⟨⟨r11, rfl⟩, v11, hv11, hk11⟩
            rw [if_neg (by have := hat0.out; omega)] at hv11
            have hrel2 : Hid (∃ v', Vb B b (.slice Al nl cl) v' (o5 ++ tabL l names true o5.length at_ PT 0 (kz.take (k + 1))) w11 ∧ Bk B b v v' w w11 ∧ Bk B b v5 v' w5 w11) := Lib.hid ⟨v11, by rw [hsnoc.out]; exact hv11, ((hbkA.out.trans hbk9.out).trans hk11), ((hbkB.out.trans hbk9.out).trans hk11)⟩
            clear hv11 hk11 hkc
            go_wp2_with fail
            go_roundw
            case rel => exact ⟨k + 1, by omega, by go_num, hrel2⟩
            case measure => simp [intOf]; omega
        · have i1 : decide ((k : Int) < (lk : Int)) = false := by rw [decide_eq_false_iff_not]; omega
          have i2 : decide (k < lk) = false := by rw [decide_eq_false_iff_not]; omega
          have e1 : k = lk := by omega
          subst e1
          rw [List.take_of_length_le (by rw [hlkH.out]; exact Nat.le_refl _)] at hv7
          have hbw9 := Lib.hid hk7
          have hv9 := hv7
          clear hv7 hk7 hk57 hin
          have hlen9 : (o5 ++ tabL l names true o5.length at_ PT 0 kz).length ≤ 8000000 := by
            rw [List.length_append, hlen5.out]
            have h1 := tabL_w l kz names true (at_ + 1 + li) at_ PT 0
            have h2 := Xp.wA_len as_
            have := hWEH.out
            have := hNH.out
            have := hatH.out
            have := hliH.out
            have := hWNH.out
            omega
          have hsh := vshut_any B b _ v6 (o5 ++ tabL l names true o5.length at_ PT 0 kz) wr at_ _ hv9 (by omega) (app_at hrow5.out)
          have etab : Hid ((o5 ++ tabL l names true o5.length at_ PT 0 kz).set at_ ⟨1, nm, [], (pa : Nat), (o5 ++ tabL l names true o5.length at_ PT 0 kz).length, PT⟩ = out ++ tabN l names out.length pa PT (.mk 1 nm tx as_ kz)) := Lib.hid (by
            have h1 := tab_shut l names out (pa : Nat) PT nm as_ kz (tabL l names true o5.length at_ PT 0 kz) pa rfl (by rw [hfrE.out, decide_eq_true hneH.out, hlen5.out, ← hatH.out, ← hliH.out]; rfl)
            generalize tabL l names true o5.length at_ PT 0 kz = T9 at h1 ⊢
            rw [← hatH.out, hfeH.out.2.1, ← ho5H.out, List.append_assoc, List.cons_append]
            exact h1)
          have hshH := Lib.hid hsh
          clear hsh hlen9 hv9
          go_wp2_with fail
          refine hshH.out.mono ?_
          rintro e w10 ⟨⟨r10, rfl⟩, hv10, hk10⟩
          have hv10H : Hid (Vb B b (.slice Al nl cl) v6 (out ++ tabN l names out.length pa PT (.mk 1 nm tx as_ kz)) w10) := Lib.hid (by rw [← etab.out]; exact hv10)
          have hk10H := Lib.hid (hbw9.out.trans hk10)
          clear hv10 hk10
          go_wp2_with fail
          go_end0
          exact ⟨⟨_, rfl⟩, v6, hv10H.out, hk10H.out⟩
end Go.Proofs.YtdnfnkicmfkkmaaGreatDoor.Vw
end

section
namespace Go.Proofs.YtdnfnkicmfkkmaaGreatDoor.Ar
open Go.RowKit UtfW Xl Xt Xo No Vw
open Go.Proofs.YtdnfnkicmfkkmaaGreatDoor (Ky.frontB Ky.Rl)


/-! ### What is merged -/
end Go.Proofs.YtdnfnkicmfkkmaaGreatDoor.Ar
end

section
namespace Go.Proofs.YtdnfnkicmfkkmaaGreatDoor.Ar
open Go.RowKit UtfW Xl Xt Xo No Vw
open Go.Proofs.YtdnfnkicmfkkmaaGreatDoor (Ky.frontB Ky.Rl)

end Go.Proofs.YtdnfnkicmfkkmaaGreatDoor.Ar
end

section
namespace Go.Proofs.YtdnfnkicmfkkmaaGreatDoor.Ar
open Go.RowKit UtfW Xl Xt Xo No Vw
open Go.Proofs.YtdnfnkicmfkkmaaGreatDoor (Ky.frontB Ky.Rl Ky.mayB)

end Go.Proofs.YtdnfnkicmfkkmaaGreatDoor.Ar
end
