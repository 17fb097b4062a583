/- Attrs and Tokens of the document, at rows that are alike. Printed by xl_toks.py. -/
import Derived.Test.YtcecmbbhjaeodaaGreatDoorMXlLawR
namespace Go.Proofs.YtcecmbbhjaeodaaGreatDoor.Xl
open Go.RowKit UtfW Er

/-- The cells of a token. -/
def TkR (w : World) (vs : List Value) (t : Tok) : Prop := ∃ A c, vs = [.int .i64 (t.kind : Nat), .int .i64 (t.at_ : Nat), .string (strOf t.name), .string (strOf t.text), .slice A t.attrs.length c] ∧ Sq AtEl 2 w A t.attrs.length c t.attrs
theorem TkR.below {w w' : World} (hb : Below w.heap.size w w') : ∀ vs t, TkR w vs t → TkR w' vs t := by
  rintro vs t ⟨A, c, rfl, h⟩
  exact ⟨A, c, rfl, h.below AtEl.to hb⟩
abbrev Tks (w : World) (A : Option Addr) (n c : Nat) (ts : List Tok) : Prop := Sq TkR 5 w A n c ts
theorem Tks.later {w w' : World} {A : Option Addr} {n c : Nat} {ts : List Tok} (h : Tks w A n c ts) (hb : Below w.heap.size w w') : Tks w' A n c ts := Sq.below h (TkR.below hb) hb
theorem OwTk.tks {w : World} {B n c : Nat} {A : Option Addr} {ts : List Tok} (h : OwTk w B (.slice A n c) ts) : Tks w A n c ts := by
  have hs := OwS.sq' h (by decide)
  refine ⟨hs.len, hs.le, hs.max, hs.nil, fun hn => ?_⟩
  obtain ⟨b, off, e, hb, hc⟩ := hs.cell hn
  refine ⟨b, off, e, hb, fun i x hi => ?_⟩
  obtain ⟨vs, h1, ⟨A', c', h2, h3⟩, h4⟩ := hc i x hi
  exact ⟨vs, h1, ⟨A', c', h2, OwS.sq' h3 (by decide)⟩, h4⟩
theorem at_ne (w : World) (x y : ByteArray) : (binOp .neq 43 (.agg #[.string x, .string y]) (.agg #[.string x, .string y])).run Tryz.prog w = .ok (.bool false) w := by
  have hS : Tryz.prog.underlying 43 = some (.struct (Tryz.prog.fieldsOf 43)) := by kernel_rfl
  have hp : Tryz.prog.stoodInHeld 43 = false := by kernel_rfl
  rw [run_neq_struct, show (10000 : Nat) = 9999 + 1 from rfl, run_equalIn_agg w 9999 43 _ _ hS hp]
  simp only [Program.fieldsOf, Tryz.underlying43]
  go_simp

section
variable (w : World) (A1 A2 : Option Addr) (n c1 c2 : Nat)
set_option maxHeartbeats 4000000 in
set_option maxRecDepth 100000 in
theorem attrs_same (l : List At) (h1 : Sq AtEl 2 w A1 n c1 l) (h2 : Sq AtEl 2 w A2 n c2 l) :
    Calls Tryz.prog 34 #[.slice A1 n c1, .slice A2 n c2] w fun e w' => e = .returned (.bool true) ∧ Below w.heap.size w w' := by
  have hm := h1.max
  have hle := h1.le
  have h1' := Lib.hid h1
  have h2' := Lib.hid h2
  clear h1 h2
  go_enter Tryz.func34, Tryz.ntmps34
  go_wp2_with fail
  go_loopw [5] (fun v5 wr => ∃ i : Nat, i ≤ n ∧ v5 = .int .i64 (i : Nat) ∧ Hid (Below w.heap.size w wr)) (fun v5 _ => n - (intOf v5).toNat)
  case atStart => exact ⟨0, by omega, rfl, Lib.hid (Below.refl _ _)⟩
  case round =>
    obtain ⟨i, hi, rfl, hb⟩ := hrel
    by_cases hlt : i < n
    · have i1 : decide ((i : Int) < (n : Int)) = true := by simp; omega
      have q1 : (i : Int) < (n : Int) := by omega
      obtain ⟨b1, off1, x, vs1, rfl, _, hx1, _, hv1, hc1⟩ := (h1'.out.below AtEl.to hb.out).at_ hlt
      obtain ⟨b2, off2, x', vs2, rfl, _, hx2, _, hv2, hc2⟩ := (h2'.out.below AtEl.to hb.out).at_ hlt
      rw [hx1] at hx2
      injection hx2 with hx2
      subst hx2
      unfold AtEl at hv1 hv2
      subst hv1
      subst hv2
      have m0 := hc1 0 _ rfl
      have m1 := hc1 1 _ rfl
      have m2 := hc2 0 _ rfl
      have m3 := hc2 1 _ rfl
      rw [Nat.add_zero] at m0 m2
      have hq : Hid (∀ z, Below wr.heap.size wr z → z.cell? ⟨b1, off1 + i * 2, none⟩ = some (.string (strOf x.1)) ∧ z.cell? ⟨b1, off1 + i * 2 + 1, none⟩ = some (.string (strOf x.2)) ∧ z.cell? ⟨b2, off2 + i * 2, none⟩ = some (.string (strOf x.1)) ∧ z.cell? ⟨b2, off2 + i * 2 + 1, none⟩ = some (.string (strOf x.2))) := Lib.hid fun z hz => ⟨cell_keep m0 hz, cell_keep m1 hz, cell_keep m2 hz, cell_keep m3 hz⟩
      have hdr : Hid (Below wr.heap.size wr wr.drew) := Lib.hid (Joins.below_draws wr.heap.size wr 1)
      clear m0 m1 m2 m3 hc1 hc2 hx1
      go_wp2_with fail
      refine Pl.wp_region_plan 8 (.take 0 (.take 1 (.take 2 (.take 3 (.take 4 (.take 5 (.take 6 (.take 7 .done)))))))) (fun x => Below wr.heap.size wr x) (by kernel_rfl) (by kernel_rfl) (by exact hdr.out) ?_
      simp only [Pl.fill, List.getElem?_cons_zero, List.getElem?_cons_succ, List.drop_succ_cons, List.drop_zero]
      iterate 8
        first
        | (refine Pl.take_go ?_ (by rfl) (fun _ _ _ h => h) ?_ ?_
           rotate_left
           · (intro z hSw; obtain ⟨s0, s1, s2, s3⟩ := hq.out z hSw; go_simp; try with_reducible rfl)
           (try simp only [Act.put, List.setIfInBounds_toArray, List.set_cons_zero, List.set_cons_succ]))
        | (refine Pl.take_skip (by rfl) (fun _ _ _ h => h) ?_
           (try simp only [Act.put, List.setIfInBounds_toArray, List.set_cons_zero, List.set_cons_succ]))
      refine Pl.done_go ?_
      obtain ⟨s0, s1, s2, s3⟩ := hq.out _ hdr.out
      have hne := at_ne wr.drew (strOf x.1) (strOf x.2)
      have hbd := Lib.hid (hb.out.trans (hdr.out.mono hb.out.size))
      go_wp2_with fail
      go_roundw
      case rel => exact ⟨i + 1, by omega, by go_num, hbd⟩
      case measure => simp [intOf]; omega
    · have i1 : decide ((i : Int) < (n : Int)) = false := by simp; omega
      go_wp2_with fail
      (try simp only [Exit.inBlock, Exit.then])
      go_ret
      exact ⟨rfl, hb.out⟩

set_option maxHeartbeats 8000000 in
set_option maxRecDepth 100000 in
theorem tokens_same (ts : List Tok) (h1 : Tks w A1 n c1 ts) (h2 : Tks w A2 n c2 ts) :
    Calls Tryz.prog 13 #[.slice A1 n c1, .slice A2 n c2] w fun e w' => e = .returned (.bool true) ∧ Below w.heap.size w w' := by
  have hm := h1.max
  have hle := h1.le
  have h1' := Lib.hid h1
  have h2' := Lib.hid h2
  clear h1 h2
  go_enter Tryz.func13, Tryz.ntmps13
  go_wp2_with fail
  go_loopw [5] (fun v5 wr => ∃ i : Nat, i ≤ n ∧ v5 = .int .i64 (i : Nat) ∧ Hid (Below w.heap.size w wr)) (fun v5 _ => n - (intOf v5).toNat)
  case atStart => exact ⟨0, by omega, rfl, Lib.hid (Below.refl _ _)⟩
  case round =>
    obtain ⟨i, hi, rfl, hb⟩ := hrel
    by_cases hlt : i < n
    · have i1 : decide ((i : Int) < (n : Int)) = true := by simp; omega
      have q1 : (i : Int) < (n : Int) := by omega
      obtain ⟨b1, off1, t, vs1, rfl, _, hx1, _, ⟨At1, ct1, rfl, ha1⟩, hc1⟩ := (h1'.out.later hb.out).at_ hlt
      obtain ⟨b2, off2, t', vs2, rfl, _, hx2, _, ⟨At2, ct2, rfl, ha2⟩, hc2⟩ := (h2'.out.later hb.out).at_ hlt
      rw [hx1] at hx2
      injection hx2 with hx2
      subst hx2
      have k0 := hc1 0 _ rfl
      have k1 := hc1 1 _ rfl
      have k2 := hc1 2 _ rfl
      have k3 := hc1 3 _ rfl
      have k4 := hc1 4 _ rfl
      have m0 := hc2 0 _ rfl
      have m1 := hc2 1 _ rfl
      have m2 := hc2 2 _ rfl
      have m3 := hc2 3 _ rfl
      have m4 := hc2 4 _ rfl
      rw [Nat.add_zero] at k0 m0
      have hq : Hid (∀ z, Below wr.heap.size wr z → z.cell? ⟨b1, off1 + i * 5, none⟩ = some (.int .i64 (t.kind : Nat)) ∧ z.cell? ⟨b1, off1 + i * 5 + 1, none⟩ = some (.int .i64 (t.at_ : Nat)) ∧ z.cell? ⟨b1, off1 + i * 5 + 2, none⟩ = some (.string (strOf t.name)) ∧ z.cell? ⟨b1, off1 + i * 5 + 3, none⟩ = some (.string (strOf t.text)) ∧ z.cell? ⟨b1, off1 + i * 5 + 4, none⟩ = some (.slice At1 t.attrs.length ct1) ∧ z.cell? ⟨b2, off2 + i * 5, none⟩ = some (.int .i64 (t.kind : Nat)) ∧ z.cell? ⟨b2, off2 + i * 5 + 1, none⟩ = some (.int .i64 (t.at_ : Nat)) ∧ z.cell? ⟨b2, off2 + i * 5 + 2, none⟩ = some (.string (strOf t.name)) ∧ z.cell? ⟨b2, off2 + i * 5 + 3, none⟩ = some (.string (strOf t.text)) ∧ z.cell? ⟨b2, off2 + i * 5 + 4, none⟩ = some (.slice At2 t.attrs.length ct2)) := Lib.hid fun z hz => ⟨cell_keep k0 hz, cell_keep k1 hz, cell_keep k2 hz, cell_keep k3 hz, cell_keep k4 hz, cell_keep m0 hz, cell_keep m1 hz, cell_keep m2 hz, cell_keep m3 hz, cell_keep m4 hz⟩
      have hdr : Hid (Below wr.heap.size wr wr.drew) := Lib.hid (Joins.below_draws wr.heap.size wr 1)
      have ha1' := Lib.hid (ha1.below AtEl.to hdr.out)
      have ha2' := Lib.hid (ha2.below AtEl.to hdr.out)
      have e1 : ((strOf t.name).toList == (strOf t.name).toList) = true := by simp
      have e2 : ((strOf t.text).toList == (strOf t.text).toList) = true := by simp
      clear k0 k1 k2 k3 k4 m0 m1 m2 m3 m4 hc1 hc2 hx1 ha1 ha2
      go_wp2_with fail
      refine Pl.wp_region_plan 61 (.take 0 (.take 1 (.take 2 (.take 3 (.take 4 (.take 5 (.take 6 (.take 7 (.take 8 (.take 9 (.take 10 (.take 11 (.take 12 (.take 13 (.take 14 (.take 15 (.take 16 (.take 17 (.take 18 (.take 19 (.take 20 (.take 21 (.take 22 (.take 23 (.take 24 (.take 25 (.take 26 (.take 27 (.take 28 (.take 29 (.take 30 (.take 31 (.take 32 (.take 33 (.take 34 (.take 35 (.take 36 (.take 37 (.take 38 (.take 39 (.take 40 (.take 41 (.take 42 (.take 43 (.take 44 (.take 45 (.take 46 (.take 47 (.take 48 (.take 49 (.take 50 (.take 51 (.take 52 (.take 53 (.take 54 (.take 55 (.take 56 (.take 57 (.take 58 (.take 59 (.take 60 .done))))))))))))))))))))))))))))))))))))))))))))))))))))))))))))) (fun x => Below wr.heap.size wr x) (by kernel_rfl) (by kernel_rfl) (by exact hdr.out) ?_
      simp only [Pl.fill, List.getElem?_cons_zero, List.getElem?_cons_succ, List.drop_succ_cons, List.drop_zero]
      iterate 61
        first
        | (refine Pl.take_go ?_ (by rfl) (fun _ _ _ h => h) ?_ ?_
           rotate_left
           · (intro x hSw; obtain ⟨s0, s1, s2, s3, s4, s5, s6, s7, s8, s9⟩ := hq.out x hSw; go_simp; try with_reducible rfl)
           (try simp only [Act.put, List.setIfInBounds_toArray, List.set_cons_zero, List.set_cons_succ]))
        | (refine Pl.take_skip (by rfl) (fun _ _ _ h => h) ?_
           (try simp only [Act.put, List.setIfInBounds_toArray, List.set_cons_zero, List.set_cons_succ]))
      refine Pl.done_go ?_
      go_wp2_with fail
      refine (attrs_same wr.drew At1 At2 t.attrs.length ct1 ct2 t.attrs ha1'.out ha2'.out).mono ?_
      rintro e w3 ⟨rfl, hb3⟩
      have hbd := Lib.hid (hb.out.trans ((hdr.out.trans (hb3.mono hdr.out.size)).mono hb.out.size))
      clear hb3
      go_wp2_with fail
      go_roundw
      case rel => exact ⟨i + 1, by omega, by go_num, hbd⟩
      case measure => simp [intOf]; omega
    · have i1 : decide ((i : Int) < (n : Int)) = false := by simp; omega
      go_wp2_with fail
      (try simp only [Exit.inBlock, Exit.then])
      go_ret
      exact ⟨rfl, hb.out⟩
end
end Go.Proofs.YtcecmbbhjaeodaaGreatDoor.Xl
