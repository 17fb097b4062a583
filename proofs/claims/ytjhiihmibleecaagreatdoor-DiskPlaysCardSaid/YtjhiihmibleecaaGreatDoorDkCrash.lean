/- Crash. -/
import Derived.Test.YtjhiihmibleecaaGreatDoorDkFiles
namespace Go.Proofs.YtjhiihmibleecaaGreatDoor.Dk
open Go.RowKit

theorem crashF_eq (tails : List Int) (F F' : Nat → Fl) : ∀ (L : Al Nat) (i : Nat), (∀ (j : Nat) p, L[j]? = some p → F' p.2 = keep (F p.2) tails[i + j]?) → L.map (fun p => (p.1, F' p.2)) = crashF tails i (L.map fun p => (p.1, F p.2))
  | [], _, _ => rfl
  | p :: L, i, h => by
    rw [List.map_cons, List.map_cons, crashF, crashF_eq tails F F' L (i + 1) (fun j q hq => by
      have := h (j + 1) q (by simpa using hq)
      rw [show i + 1 + j = i + (j + 1) by omega]
      exact this)]
    have := h 0 p rfl
    rw [Nat.add_zero] at this
    rw [this]

theorem cell_blk {w : World} {b i : Nat} {cs : Array Value} {E : TypeId} {fr : Nat × Nat} {v : Value} (h : w.heap[b]? = some (.cells cs E fr)) (hi : cs[i]? = some v) : w.cell? ⟨b, i, none⟩ = some v := by
  simp only [World.cell?, h]
  exact hi
theorem nodup_idx : ∀ {l : List Nat}, l.Nodup → ∀ {i k : Nat} {x : Nat}, l[i]? = some x → l[k]? = some x → i = k
  | [], _, _, _, _, h, _ => by simp at h
  | a :: l, hn, i, k, x, hi, hk => by
    obtain ⟨h1, h2⟩ := List.nodup_cons.1 hn
    cases i with
    | zero =>
      cases k with
      | zero => rfl
      | succ k => simp at hi hk; subst hi; exact absurd (List.mem_of_getElem? hk) h1
    | succ i =>
      cases k with
      | zero => simp at hi hk; subst hk; exact absurd (List.mem_of_getElem? hi) h1
      | succ k => simp at hi hk; rw [nodup_idx h2 hi hk]

/-- How the disk is behind k of the names. -/
structure Cr (w0 w : World) (B a mb : Nat) (L : Al Nat) (F : Nat → Fl) (d : D) (tails : List Int) (k : Nat) (F' : Nat → Fl) (dd : D) : Prop where
  da : Da w B a mb L F' (.slice none 0 0) dd
  down : dd.down = false
  tr : dd.tr = []
  room : dd.room = d.room
  ops : dd.ops = d.ops
  at_ : ∀ (i : Nat) p, L[i]? = some p → F' p.2 = if i < k then keep (F p.2) tails[i]? else F p.2
  bel : Below B w0 w
  fm : Fm w0 w

theorem Cr.done {w0 w : World} {B a mb : Nat} {L : Al Nat} {F : Nat → Fl} {tv : Value} {d : D} {tails : List Int} {F' : Nat → Fl} {dd : D} (h : Cr w0 w B a mb L F d tails L.length F' dd) (h0 : d.fs = L.map fun p => (p.1, F p.2)) : Sd B a mb (crash d tails) w0 w := by
  have e : dd = crash d tails := by
    have hfs : dd.fs = crashF tails 0 d.fs := by
      rw [h.da.fs, h0]
      refine crashF_eq tails F F' L 0 fun j p hp => ?_
      have := h.at_ j p hp
      rw [if_pos (List.getElem?_eq_some_iff.1 hp).1] at this
      rw [Nat.zero_add]
      exact this
    have h1 := h.down; have h2 := h.tr; have h3 := h.room; have h4 := h.ops
    cases dd
    cases d
    simp only at *
    subst h1 h2 h3 h4 hfs
    rfl
  rw [← e]
  exact ⟨h.bel, h.fm, L, F', _, h.da⟩

set_option maxHeartbeats 2000000 in
set_option maxRecDepth 100000 in
theorem Crash_any (w : World) (B a mb : Nat) (L : Al Nat) (F : Nat → Fl) (tv : Value) (d : D) (h : Da w B a mb L F tv d) (hl : L.length ≤ 1000) (hfl : ∀ p ∈ d.fs, p.1.length ≤ 1000 ∧ p.2.data.length ≤ 1000000000 ∧ p.2.safe ≤ p.2.data.length)
    (At : Option Addr) (nt ct : Nat) (tails : List Int) (hT : ∀ w', Below B w w' → Fm w w' → Rd w' At nt ct (tails.map (Value.int .i64))) :
    Calls Tryz.prog 25 #[.pointer (some ⟨a, 0, none⟩), .slice At nt ct] w fun e w' => e = .returned (.tuple #[]) ∧ Sd B a mb (crash d tails) w w' := by
  have hB : B ≤ w.heap.size := by have := h.alt; have := h.base; omega
  have hrt := hT w (Below.refl _ _) (Fm.refl _)
  have hnt : tails.length = nt := by have := Rd.len hrt; simpa using this
  have hle := Rd.le hrt
  have hmx := Rd.max hrt
  obtain ⟨hD0, hb0⟩ := h.setDown false
  have g1 := grown_set (w.setCell ⟨a, 4, none⟩ (.bool false)) ⟨a, 2, none⟩ (.slice none 0 0)
  have hD1 := hD0.setA g1 (tr' := []) (ops' := d.ops) (down' := false) (setCell_blk hD0.blk (.slice none 0 0)) (World.ownsRow_nil _ _ _ _)
  have hf0 : Fm w (w.setCell ⟨a, 4, none⟩ (.bool false)) := Fm.grown (grown_set w ⟨a, 4, none⟩ (.bool false)) (fun cs E fr he => by rw [h.blk] at he; injection he with he; injection he with _ he _; exact .inr he.symm)
  have hf1 : Fm w ((w.setCell ⟨a, 4, none⟩ (.bool false)).setCell ⟨a, 2, none⟩ (.slice none 0 0)) := hf0.trans (Fm.grown g1 (fun cs E fr he => by rw [hD0.blk] at he; injection he with he; injection he with _ he _; exact .inr he.symm))
  have hb1 : Below B w ((w.setCell ⟨a, 4, none⟩ (.bool false)).setCell ⟨a, 2, none⟩ (.slice none 0 0)) := hb0.trans (below_row g1 hD0.base.1 (by have := hD0.alt; have := hD0.base; omega))
  have c4 : w.cell? ⟨a, 4, none⟩ = some (.bool d.down) := by simp [World.cell?, h.blk]
  have f4 : w.frozen? ⟨a, 4, none⟩ = false := frozen_of_row w a 4 _ _ h.blk
  have c2 : (w.setCell ⟨a, 4, none⟩ (.bool false)).cell? ⟨a, 2, none⟩ = some tv := by simp [World.cell?, hD0.blk]
  have f2 : (w.setCell ⟨a, 4, none⟩ (.bool false)).frozen? ⟨a, 2, none⟩ = false := frozen_of_row _ a 2 _ _ hD0.blk
  obtain ⟨w1, hw1⟩ : ∃ w1, (w.setCell ⟨a, 4, none⟩ (.bool false)).setCell ⟨a, 2, none⟩ (.slice none 0 0) = w1 := ⟨_, rfl⟩
  rw [hw1] at hD1 hf1 hb1
  have hnm := Names_any w1 B a mb L F _ _ hD1 (by omega)
  have hD1' := Lib.hid hD1
  have hf1' := Lib.hid hf1
  have hb1' := Lib.hid hb1
  have hT' := Lib.hid hT
  have hfl' := Lib.hid hfl
  have hfs := Lib.hid h.fs
  have hnt' := Lib.hid hnt
  clear h hfl hT hrt hD0 hb0 g1 hD1 hf0 hf1 hb1 hnt
  go_enter Tryz.func25, Tryz.ntmps25
  go_wp2_with fail
  refine hnm.mono ?_
  rintro e w2 ⟨A, n, c, rfl, hnl, hb2, ho2⟩
  have hbb : Below B w w2 := hb1'.out.trans (hb2.mono (by have := hb1'.out.size; omega))
  have hff : Fm w w2 := hf1'.out.trans (Fm.below hb2)
  have hst : Hid (Cr w w2 B a mb L F d tails 0 F { d with tr := [], ops := d.ops, down := false }) := Lib.hid ⟨hD1'.out.below hb2, rfl, rfl, rfl, rfl, fun i p _ => by rw [if_neg (by omega)], hbb, hff⟩
  have hrn := Lib.hid ho2
  obtain rfl : L.length = n := hnl.symm
  have hr2 := rd_of_own ho2
  have hle2 := Rd.le hr2
  have hmx2 := Rd.max hr2
  have hs2 := hbb.size
  clear hnm hb2 ho2 hnl hbb hff hr2 c4 f4 c2 f2 hw1
  go_wp2_with fail
  go_loopw [17] (fun i wr => ∃ (k : Nat) (F' : Nat → Fl) (dd : D), k ≤ L.length ∧ i = .int .i64 k ∧ Hid (Cr w wr B a mb L F d tails k F' dd) ∧ Hid (wr.ownsRow w1.heap.size 9 1 (.slice A L.length c) L.length (L.map fun p => encStr p.1))) (fun i _ => L.length - (intOf i).toNat)
  case atStart => exact ⟨0, F, _, by omega, rfl, hst, hrn⟩
  case round =>
    obtain ⟨k, F', dd, hk, rfl, hC, hN⟩ := hrel
    by_cases hlt : k < L.length
    · obtain ⟨b', off, u, rfl, hb, hu, hc1⟩ := Rd.at_ (rd_of_own hN.out) hlt
      have hLk : L[k]? = some L[k] := List.getElem?_eq_getElem hlt
      obtain ⟨nm, fb, hp⟩ : ∃ nm fb, L[k] = (nm, fb) := ⟨_, _, rfl⟩
      rw [List.getElem?_map, hLk, hp] at hu
      simp only [Option.map_some, Option.some.injEq] at hu
      rw [hp] at hLk
      have hmem := List.mem_of_getElem? hLk
      have hD := hC.out.da
      have hget : Dk.get L nm = some fb := get_of_mem hD.up hmem
      have hfp := hfl'.out (nm, F fb) (by rw [hfs.out]; exact List.mem_map.2 ⟨_, hmem, rfl⟩)
      have hFF : F' fb = F fb := by have := hC.out.at_ k _ hLk; rw [if_neg (by omega)] at this; exact this
      obtain ⟨s, hs⟩ : ∃ s : ByteArray, encStr nm = .string s ∧ s.data.toList = nm ∧ s.size ≤ 1000 := ⟨⟨nm.toArray⟩, rfl, by simp, by simp only at hfp; show nm.toArray.size ≤ 1000; simp; exact hfp.1⟩
      obtain ⟨hs1, hs2, hs3⟩ := hs
      rw [← hu, hs1] at hc1
      have hlk := hD.look s (by unfold maxLen; omega)
      rw [hs2, hget] at hlk
      simp only [Option.map_some] at hlk
      obtain ⟨hBb, hblt, A0, c0, hfb, hbs⟩ := hD.file hget
      rw [hFF] at hfb hbs
      have kf : wr.cell? ⟨fb, 0, none⟩ = some (.slice A0 (F fb).data.length c0) := by simp [World.cell?, hfb]
      have ks : wr.cell? ⟨fb, 1, none⟩ = some (.int .i64 ((F fb).safe : Nat)) := by simp [World.cell?, hfb]
      have ff0 : wr.frozen? ⟨fb, 0, none⟩ = false := frozen_of_row wr fb 0 _ _ hfb
      have c1 := hD.c1
      obtain ⟨h1000, hdl, hsd⟩ := hfp
      simp only at hdl hsd
      --BEGIN
      have hkp : ∃ kp, keepN (F fb) tails[k]? = kp ∧ (F fb).safe + kp ≤ (F fb).data.length := ⟨_, rfl, keepN_le hsd⟩
      obtain ⟨kp, hkp, hkl⟩ := hkp
      have hcl : ∀ m, m ≤ (F fb).data.length → ∀ w2, Below wr.heap.size wr w2 → Calls Tryz.prog 27 #[.slice A0 m c0] w2 fun e w3 => ∃ v, e = .returned v ∧ Hid (OwB w3 w2.heap.size 5 v ((F fb).data.take m)) ∧ Hid (Below w2.heap.size w2 w3) := fun m hm w2 hb2 => by
        have hcut := hbs.cut 0 m (by omega) hm A0 (by intro b off e _; rw [e]; rfl) (fun e => e) (fun e => e)
        rw [Nat.sub_zero, Nat.sub_zero, List.drop_zero] at hcut
        refine (clone_any A0 m c0 _ w2 (hcut.below hb2) (by omega)).mono ?_
        rintro e w3 ⟨v, rfl, h1, h2⟩
        exact ⟨v, rfl, Lib.hid h1, Lib.hid h2⟩
      have hcl' := Lib.hid (hcl ((F fb).safe + kp) hkl)
      have hnc := Rd.le hbs
      have hget' := Lib.hid hget
      have hLk' := Lib.hid hLk
      have hFF' := Lib.hid hFF
      have hkpv : Hid (keep (F fb) tails[k]? = ⟨(F fb).data.take ((F fb).safe + kp), ((F fb).data.take ((F fb).safe + kp)).length⟩) := Lib.hid (by unfold keep; rw [hkp])
      have hlt' := Lib.hid hblt
      obtain ⟨N, hN0⟩ : ∃ N, (F fb).data.length = N := ⟨_, rfl⟩
      obtain ⟨sf, hsf⟩ : ∃ sf, (F fb).safe = sf := ⟨_, rfl⟩
      have hN0' := Lib.hid hN0
      have hsf' := Lib.hid hsf
      have hkp' := Lib.hid hkp
      have hrt := hT'.out wr hC.out.bel hC.out.fm
      have htk : ∀ z, tails[k]? = some z → (k < tails.length) := fun z hz => (List.getElem?_eq_some_iff.1 hz).1
      rw [hN0] at kf hdl hsd hkl hnc
      rw [hsf] at ks hsd hkl hcl' hkpv
      clear hD hu hp hfb hbs hmem hget hs1 hcl hN0 hsf hLk hs2 hblt hFF hkp
      have q1 : (0 : Int) ≤ (sf : Int) + (kp : Int) ∧ (sf : Int) + (kp : Int) ≤ (c0 : Int) := by omega
      have q2 : IntKind.i64.wrap ((sf : Int) + (kp : Int)) = (sf : Int) + (kp : Int) := IntWalk.i64_in _ (by omega)
      have q3 : ((sf : Int) + (kp : Int)).toNat = sf + kp := by omega
      have q4 : (sf : Int) + (kp : Int) ≤ (c0 : Int) := by omega
      have q5 : (0 : Int) ≤ (sf : Int) + (kp : Int) := by omega
      by_cases hkt : k < tails.length
      · have hz : tails[k]? = some tails[k] := List.getElem?_eq_getElem hkt
        obtain ⟨z, hz1⟩ : ∃ z, tails[k] = z := ⟨_, rfl⟩
        rw [hz1] at hz
        have hkk : Hid (min (max z 0) ((N : Int) - (sf : Int)) = (kp : Int)) := Lib.hid (by have := hkp'.out; rw [hz] at this; unfold keepN at this; simp only [hN0'.out, hsf'.out] at this; omega)
        obtain ⟨bt, offt, ut, rfl, hbt, hut, hct⟩ := Rd.at_ hrt (k := k) (by rw [← hnt'.out]; exact hkt)
        rw [List.getElem?_map, hz] at hut
        simp only [Option.map_some, Option.some.injEq] at hut
        subst hut
        have hkn : k < nt := by have := hnt'.out; omega
        have q6 : IntKind.i64.wrap ((N : Int) - (sf : Int)) = (N : Int) - (sf : Int) := IntWalk.i64_in _ (by omega)
        clear hrt htk hz hz1
        go_wp2_with fail
        go_big_quiet (fail)
        have hbq : Hid (Below wr.heap.size wr (wr.drewN nq)) := Lib.hid (Joins.below_draws _ wr nq)
        go_wp2_with fail
        rw [hkk.out]
        have kf := (hbq.out.cell (p := ⟨fb, 0, none⟩) hlt'.out).trans kf
        have ks := (hbq.out.cell (p := ⟨fb, 1, none⟩) hlt'.out).trans ks
        generalize wr.drewN nq = wq at *
        clear hct
        refine Pl.wp_region_plan 13 (.take 0 (.take 1 (.take 2 (.take 3 (.take 4 (.take 5 (.take 6 (.take 7 (.take 8 (.take 9 (.take 10 (.take 11 (.run 12 .done)))))))))))))
          (fun x => x.cell? ⟨fb, 0, none⟩ = some (.slice A0 N c0) ∧ x.cell? ⟨fb, 1, none⟩ = some (.int .i64 (sf : Nat))) (by kernel_rfl) (by kernel_rfl) (by exact ⟨kf, ks⟩) ?_
        simp only [Pl.fill, List.getElem?_cons_zero, List.getElem?_cons_succ, List.drop_succ_cons, List.drop_zero]
        iterate 12
          refine Pl.take_go ?_ (by rfl) (fun _ _ _ h => h) ?_ ?_
          rotate_left
          · (intro x hSw; (try dsimp only at hSw); go_simp; try with_reducible rfl)
          try simp only [Act.put, List.setIfInBounds_toArray, List.set_cons_zero, List.set_cons_succ]
        refine Pl.run_go (fun K hK => ?_)
        go_simp
        have hbd := bD (Below.refl wq.heap.size wq)
        refine (hcl'.out wq.drew (hbq.out.trans (hbd.mono hbq.out.size))).mono ?_
        rintro e w3 ⟨v, rfl, ho3, hb3⟩
        have htl : ((F fb).data.take (sf + kp)).length = (sf + kp) := by rw [List.length_take, hN0'.out]; omega
        have hv : ∃ A3 c3, v = .slice A3 (sf + kp) c3 := by
          obtain ⟨A3, c3, e3, _⟩ := OwB.slice ho3.out
          rw [htl] at e3
          exact ⟨A3, c3, e3⟩
        obtain ⟨A3, c3, rfl⟩ := hv
        have hbw3 := Lib.hid (hbd.trans (hb3.out.mono (by simp)))
        have hx3 := Lib.hid (hbq.out.trans (hbw3.out.mono hbq.out.size))
        have hD3 := hC.out.da.below hx3.out
        have hfile := hD3.file hget'.out
        obtain ⟨hB3, hlt3, A9, c9, hb9, _⟩ := hfile
        have hBw : B ≤ wq.drew.heap.size := by have := hC.out.bel.size; have := hbq.out.size; simp; omega
        have g2 := grown_set w3 ⟨fb, 0, none⟩ (.slice A3 (sf + kp) c3)
        have hD4 := hD3.setF (get_mem hget'.out) g2 (g := fun f => ⟨f.data.take (sf + kp), f.safe⟩) (v' := .slice A3 (sf + kp) c3) (setCell_blk hb9 _)
          (row_kept (by rw [hFF'.out]; exact OwB.base ho3.out hBw) g2 (file_noE hb9 (by decide)))
        have hfile4 := hD4.file hget'.out
        obtain ⟨_, _, A10, c10, hb10, _⟩ := hfile4
        have g3 := grown_set (w3.setCell ⟨fb, 0, none⟩ (.slice A3 (sf + kp) c3)) ⟨fb, 1, none⟩ (.int .i64 (((sf + kp) : Nat) : Int))
        have hown4 := (hD4.files _ (get_mem hget'.out)).2
        have hblk4 : (w3.setCell ⟨fb, 0, none⟩ (.slice A3 (sf + kp) c3)).heap[fb]? = some (.cells #[.slice A3 (sf + kp) c3, .int .i64 ((F' fb).safe : Nat)] 65) := setCell_blk hb9 _
        have hD5 := hD4.setF (get_mem hget'.out) g3 (g := fun f => ⟨f.data, f.data.length⟩) (v' := .slice A3 (sf + kp) c3) (by
            rw [setCell_blk hblk4]
            simp only [if_pos, hFF'.out, htl]
            rfl)
          (row_kept (by simp only [if_pos, hFF'.out]; exact row_kept (OwB.base ho3.out hBw) g2 (file_noE hb9 (by decide))) g3 (file_noE hblk4 (by decide)))
        have hb5 : Below B w3 ((w3.setCell ⟨fb, 0, none⟩ (.slice A3 (sf + kp) c3)).setCell ⟨fb, 1, none⟩ (.int .i64 (((sf + kp) : Nat) : Int))) := (below_row g2 hB3 (by omega)).trans (below_row g3 hB3 (by rw [set_size]; omega))
        have hf5 : Fm w3 ((w3.setCell ⟨fb, 0, none⟩ (.slice A3 (sf + kp) c3)).setCell ⟨fb, 1, none⟩ (.int .i64 (((sf + kp) : Nat) : Int))) := (file_fm hb9 _).trans (file_fm hblk4 _)
        have hnd := hC.out.da.nd
        have hL := hLk'.out
        have hfin : Hid (∃ F2 dd2, Cr w ((w3.setCell ⟨fb, 0, none⟩ (.slice A3 (sf + kp) c3)).setCell ⟨fb, 1, none⟩ (.int .i64 (((sf + kp) : Nat) : Int))) B a mb L F d tails (k + 1) F2 dd2) := by
          refine Lib.hid ⟨_, _, hD5, hC.out.down, hC.out.tr, hC.out.room, hC.out.ops, fun i p hp => ?_, hC.out.bel.trans ((hx3.out.mono (by have := hC.out.da.alt; have := hC.out.da.base; omega)).trans hb5), hC.out.fm.trans ((Fm.below hx3.out).trans hf5)⟩
          have hat := hC.out.at_ i p hp
          by_cases e : p.2 = fb
          · have hpe : p = (nm, fb) := nodup_inj L hnd p (List.mem_of_getElem? hp) (nm, fb) (List.mem_of_getElem? hL) e
            subst hpe
            have hik : i = k := by
              have h1 := hC.out.da.nd
              have hi1 : (L.map (·.2))[i]? = some fb := by rw [List.getElem?_map, hp]; rfl
              have hk1 : (L.map (·.2))[k]? = some fb := by rw [List.getElem?_map, hL]; rfl
              exact nodup_idx h1 hi1 hk1
            subst hik
            simp only [if_pos]
            rw [if_pos (by omega), hkpv.out, hFF'.out]
          · simp only [if_neg e]
            rw [hat]
            have hne : i ≠ k := fun e2 => by
              subst e2
              rw [hL] at hp
              injection hp with hp
              rw [← hp] at e
              exact e rfl
            by_cases h1 : i < k
            · rw [if_pos h1, if_pos (by omega)]
            · rw [if_neg h1, if_neg (by omega)]
        have hN5 := Lib.hid (Fm.row ((Fm.below hx3.out).trans hf5) hN.out (by decide) (by decide))
        have m1 : w3.cell? ⟨fb, 0, none⟩ = some (.slice A0 N c0) := (hbw3.out.cell (p := ⟨fb, 0, none⟩) (by have := hlt'.out; have := hbq.out.size; show fb < wq.heap.size; omega)).trans kf
        have m2 : w3.cell? ⟨fb, 1, none⟩ = some (.int .i64 (sf : Nat)) := (hbw3.out.cell (p := ⟨fb, 1, none⟩) (by have := hlt'.out; have := hbq.out.size; show fb < wq.heap.size; omega)).trans ks
        have fz0 : w3.frozen? ⟨fb, 0, none⟩ = false := frozen_of_row w3 fb 0 _ _ hb9
        have m3 : (w3.setCell ⟨fb, 0, none⟩ (.slice A3 (sf + kp) c3)).cell? ⟨fb, 0, none⟩ = some (.slice A3 (sf + kp) c3) := cell_blk hblk4 rfl
        have m4 : (w3.setCell ⟨fb, 0, none⟩ (.slice A3 (sf + kp) c3)).cell? ⟨fb, 1, none⟩ = some (.int .i64 ((F' fb).safe : Nat)) := cell_blk hblk4 rfl
        have fz1 : (w3.setCell ⟨fb, 0, none⟩ (.slice A3 (sf + kp) c3)).frozen? ⟨fb, 1, none⟩ = false := frozen_of_row _ fb 1 _ _ hblk4
        clear hD3 hD4 hD5 hb5 hf5 g2 g3 hown4 hblk4 hb9 hb10 ho3 hb3 hnd hL hbd htl
        dsimp only
        refine hK.out _ _ (Pl.more_go _ (fun _ h => h) (by exact ⟨m1, m2⟩) ?_)
        clear hK K
        refine Pl.done_go ?_
        go_wp2_with fail
        go_roundw
        case rel =>
          obtain ⟨F2, dd2, h2⟩ := hfin.out
          exact ⟨k + 1, F2, dd2, by omega, by go_num, Lib.hid h2, hN5⟩
        case measure => simp [intOf]; omega
      · have hkn : ¬ k < nt := by have := hnt'.out; omega
        have hk0 : kp = 0 := by have := hkp'.out; rw [List.getElem?_eq_none (by omega)] at this; unfold keepN at this; exact this.symm
        subst hk0
        rw [Nat.add_zero] at hcl' hkpv
        have q7 : IntKind.i64.wrap (sf : Int) = (sf : Int) := IntWalk.i64_in _ (by omega)
        have q8 : (0 : Int) ≤ (sf : Int) ∧ (sf : Int) ≤ (c0 : Int) := by omega
        have q9 : sf ≤ c0 := by omega
        have hbq : Hid (Below wr.heap.size wr wr) := Lib.hid (Below.refl _ _)
        clear hrt htk q1 q2 q3 q4 q5
        go_wp2_with fail
        refine Pl.wp_region_plan 13 (.take 0 (.take 1 (.take 2 (.take 3 (.take 4 (.take 5 (.take 6 (.take 7 (.take 8 (.take 9 (.take 10 (.take 11 (.run 12 .done)))))))))))))
          (fun x => x.cell? ⟨fb, 0, none⟩ = some (.slice A0 N c0) ∧ x.cell? ⟨fb, 1, none⟩ = some (.int .i64 (sf : Nat))) (by kernel_rfl) (by kernel_rfl) (by exact ⟨kf, ks⟩) ?_
        simp only [Pl.fill, List.getElem?_cons_zero, List.getElem?_cons_succ, List.drop_succ_cons, List.drop_zero]
        iterate 12
          refine Pl.take_go ?_ (by rfl) (fun _ _ _ h => h) ?_ ?_
          rotate_left
          · (intro x hSw; (try dsimp only at hSw); go_simp; try with_reducible rfl)
          try simp only [Act.put, List.setIfInBounds_toArray, List.set_cons_zero, List.set_cons_succ]
        refine Pl.run_go (fun K hK => ?_)
        go_simp
        have hbd := bD (Below.refl wr.heap.size wr)
        refine (hcl'.out wr.drew (hbq.out.trans (hbd.mono hbq.out.size))).mono ?_
        rintro e w3 ⟨v, rfl, ho3, hb3⟩
        have htl : ((F fb).data.take sf).length = sf := by rw [List.length_take, hN0'.out]; omega
        have hv : ∃ A3 c3, v = .slice A3 sf c3 := by
          obtain ⟨A3, c3, e3, _⟩ := OwB.slice ho3.out
          rw [htl] at e3
          exact ⟨A3, c3, e3⟩
        obtain ⟨A3, c3, rfl⟩ := hv
        have hbw3 := Lib.hid (hbd.trans (hb3.out.mono (by simp)))
        have hx3 := Lib.hid (hbq.out.trans (hbw3.out.mono hbq.out.size))
        have hD3 := hC.out.da.below hx3.out
        have hfile := hD3.file hget'.out
        obtain ⟨hB3, hlt3, A9, c9, hb9, _⟩ := hfile
        have hBw : B ≤ wr.drew.heap.size := by have := hC.out.bel.size; have := hbq.out.size; simp; omega
        have g2 := grown_set w3 ⟨fb, 0, none⟩ (.slice A3 sf c3)
        have hD4 := hD3.setF (get_mem hget'.out) g2 (g := fun f => ⟨f.data.take sf, f.safe⟩) (v' := .slice A3 sf c3) (setCell_blk hb9 _)
          (row_kept (by rw [hFF'.out]; exact OwB.base ho3.out hBw) g2 (file_noE hb9 (by decide)))
        have hfile4 := hD4.file hget'.out
        obtain ⟨_, _, A10, c10, hb10, _⟩ := hfile4
        have g3 := grown_set (w3.setCell ⟨fb, 0, none⟩ (.slice A3 sf c3)) ⟨fb, 1, none⟩ (.int .i64 ((sf : Nat) : Int))
        have hown4 := (hD4.files _ (get_mem hget'.out)).2
        have hblk4 : (w3.setCell ⟨fb, 0, none⟩ (.slice A3 sf c3)).heap[fb]? = some (.cells #[.slice A3 sf c3, .int .i64 ((F' fb).safe : Nat)] 65) := setCell_blk hb9 _
        have hD5 := hD4.setF (get_mem hget'.out) g3 (g := fun f => ⟨f.data, f.data.length⟩) (v' := .slice A3 sf c3) (by
            rw [setCell_blk hblk4]
            simp only [if_pos, hFF'.out, htl]
            rfl)
          (row_kept (by simp only [if_pos, hFF'.out]; exact row_kept (OwB.base ho3.out hBw) g2 (file_noE hb9 (by decide))) g3 (file_noE hblk4 (by decide)))
        have hb5 : Below B w3 ((w3.setCell ⟨fb, 0, none⟩ (.slice A3 sf c3)).setCell ⟨fb, 1, none⟩ (.int .i64 ((sf : Nat) : Int))) := (below_row g2 hB3 (by omega)).trans (below_row g3 hB3 (by rw [set_size]; omega))
        have hf5 : Fm w3 ((w3.setCell ⟨fb, 0, none⟩ (.slice A3 sf c3)).setCell ⟨fb, 1, none⟩ (.int .i64 ((sf : Nat) : Int))) := (file_fm hb9 _).trans (file_fm hblk4 _)
        have hnd := hC.out.da.nd
        have hL := hLk'.out
        have hfin : Hid (∃ F2 dd2, Cr w ((w3.setCell ⟨fb, 0, none⟩ (.slice A3 sf c3)).setCell ⟨fb, 1, none⟩ (.int .i64 ((sf : Nat) : Int))) B a mb L F d tails (k + 1) F2 dd2) := by
          refine Lib.hid ⟨_, _, hD5, hC.out.down, hC.out.tr, hC.out.room, hC.out.ops, fun i p hp => ?_, hC.out.bel.trans ((hx3.out.mono (by have := hC.out.da.alt; have := hC.out.da.base; omega)).trans hb5), hC.out.fm.trans ((Fm.below hx3.out).trans hf5)⟩
          have hat := hC.out.at_ i p hp
          by_cases e : p.2 = fb
          · have hpe : p = (nm, fb) := nodup_inj L hnd p (List.mem_of_getElem? hp) (nm, fb) (List.mem_of_getElem? hL) e
            subst hpe
            have hik : i = k := by
              have h1 := hC.out.da.nd
              have hi1 : (L.map (·.2))[i]? = some fb := by rw [List.getElem?_map, hp]; rfl
              have hk1 : (L.map (·.2))[k]? = some fb := by rw [List.getElem?_map, hL]; rfl
              exact nodup_idx h1 hi1 hk1
            subst hik
            simp only [if_pos]
            rw [if_pos (by omega), hkpv.out, hFF'.out]
          · simp only [if_neg e]
            rw [hat]
            have hne : i ≠ k := fun e2 => by
              subst e2
              rw [hL] at hp
              injection hp with hp
              rw [← hp] at e
              exact e rfl
            by_cases h1 : i < k
            · rw [if_pos h1, if_pos (by omega)]
            · rw [if_neg h1, if_neg (by omega)]
        have hN5 := Lib.hid (Fm.row ((Fm.below hx3.out).trans hf5) hN.out (by decide) (by decide))
        have m1 : w3.cell? ⟨fb, 0, none⟩ = some (.slice A0 N c0) := (hbw3.out.cell (p := ⟨fb, 0, none⟩) (by have := hlt'.out; have := hbq.out.size; show fb < wr.heap.size; omega)).trans kf
        have m2 : w3.cell? ⟨fb, 1, none⟩ = some (.int .i64 (sf : Nat)) := (hbw3.out.cell (p := ⟨fb, 1, none⟩) (by have := hlt'.out; have := hbq.out.size; show fb < wr.heap.size; omega)).trans ks
        have fz0 : w3.frozen? ⟨fb, 0, none⟩ = false := frozen_of_row w3 fb 0 _ _ hb9
        have m3 : (w3.setCell ⟨fb, 0, none⟩ (.slice A3 sf c3)).cell? ⟨fb, 0, none⟩ = some (.slice A3 sf c3) := cell_blk hblk4 rfl
        have m4 : (w3.setCell ⟨fb, 0, none⟩ (.slice A3 sf c3)).cell? ⟨fb, 1, none⟩ = some (.int .i64 ((F' fb).safe : Nat)) := cell_blk hblk4 rfl
        have fz1 : (w3.setCell ⟨fb, 0, none⟩ (.slice A3 sf c3)).frozen? ⟨fb, 1, none⟩ = false := frozen_of_row _ fb 1 _ _ hblk4
        clear hD3 hD4 hD5 hb5 hf5 g2 g3 hown4 hblk4 hb9 hb10 ho3 hb3 hnd hL hbd htl
        dsimp only
        refine hK.out _ _ (Pl.more_go _ (fun _ h => h) (by exact ⟨m1, m2⟩) ?_)
        clear hK K
        refine Pl.done_go ?_
        go_wp2_with fail
        go_roundw
        case rel =>
          obtain ⟨F2, dd2, h2⟩ := hfin.out
          exact ⟨k + 1, F2, dd2, by omega, by go_num, Lib.hid h2, hN5⟩
        case measure => simp [intOf]; omega
    · have : k = L.length := by omega
      subst this
      go_wp2_with fail
      go_end0
      exact ⟨rfl, hC.out.done (tv := tv) hfs.out⟩
end Go.Proofs.YtjhiihmibleecaaGreatDoor.Dk
