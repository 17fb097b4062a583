/- The walks of the laws over trees: XtreeParses. -/
import Derived.Test.YtokdnhdfmgfkeaaGreatDoorMRowS
import Derived.Test.YtokdnhdfmgfkeaaGreatDoorMUtfEnc
import Derived.Deep.QuietTactic
import Derived.Test.YtokdnhdfmgfkeaaGreatDoorMXtBnd
import Derived.Test.YtokdnhdfmgfkeaaGreatDoorMXlLawA
import Derived.Test.YtokdnhdfmgfkeaaGreatDoorRows
import Derived.Lib.LaidU8T
import Derived.LaidLaws
import Derived.LaidHandle
import Derived.LaidSub
import Derived.Lib.LaidTab
import Derived.Lib.LaidIn
import Derived.Lib.LaidCase
import Derived.Great.CaseRows
import Derived.Shelf.Strings.SplitShaped
section
namespace Go.Proofs.YtokdnhdfmgfkeaaGreatDoor.Xt
open Go.RowKit UtfW
set_option maxHeartbeats 400000 in
theorem bytes_same (A : Option Addr) (n c : Nat) (l : List UInt8) (A2 : Option Addr) (n2 c2 : Nat) (w : World) (hBs : Bs w A n c l) (hBs2 : Bs w A2 n2 c2 l) :
  Calls Tryz.prog 29 #[.slice A n c, .slice A2 n2 c2] w fun e w' => e = .returned (.bool true) /\ ∃ k, w' = w.drewN k := by
 have hn := Rd.le hBs;have hm := Rd.max hBs;have hn2 := Rd.le hBs2;have hm2 := Rd.max hBs2;have HN : Hid (l.length = n) := hBs.len;have HN2 : Hid (l.length = n2) := hBs2.len;obtain rfl : n = n2 := HN.out.symm.trans HN2.out
 go_enter Tryz.func29, Tryz.ntmps29
 go_wp2
 go_loopw [5] (fun i wr => ∃ k m : Nat, k <= n /\ i = .int .i64 k /\ wr = w.drewN m) (fun i _ => n - (intOf i).toNat)
 case atStart => exact ⟨0, 0, by omega, rfl, rfl⟩
 case round =>
  obtain ⟨k, m, hk, rfl, rfl⟩ := hrel
  by_cases hlt : k < n
  ·obtain ⟨b, off, x, rfl, _, hx, hx8, hc⟩ := hBs.at_ hlt;obtain ⟨b2, off2, y, rfl, _, hy, hy8, hc2⟩ := hBs2.at_ hlt;obtain rfl : x = y := Option.some.inj (hx.symm.trans hy);have HX := Hd hx;clear hx hy;have i0 : (k : Int) < (n : Int) := by omega
   have hb : ((x.toNat : Int) != (x.toNat : Int)) = false := by simp
   go_wp2_with fail
   go_quiet (fail)
   go_wp2_with fail;go_roundw
   case rel => exact ⟨k + 1, _, by omega, by go_num, rfl⟩
   case measure => simp [intOf]; omega
  ·obtain rfl : k = n := by omega
   go_wp2_with fail;go_ret;exact ⟨rfl, _, rfl⟩
end Go.Proofs.YtokdnhdfmgfkeaaGreatDoor.Xt
end

section
namespace Go.Proofs.YtokdnhdfmgfkeaaGreatDoor.Xt
open Go.RowKit UtfW Xl Xo Er
theorem parseF_zero {S : Tx} {p : Nat} {d : Doc} (h : parseF S = (0, p, d)) : p = 0 := by
 unfold parseF at h
 split at h
 ·rename_i hne
  injection h with h _;exact absurd h hne
 ·rename_i he
  have h1 : (parseT S.length (Xl.allF S).2.2).1 = 0 := by rw [h]
  have h2 := parse_zero h1;rw [h] at h2;exact h2
theorem DocI.stay {X : Nat -> Prop} {w w' : World} {v : Value} {d : Doc} (h : DocI X w v d) (hs : ∀ k, X k -> w'.heap[k]? = w.heap[k]?) : DocI X w' v d := by
 obtain ⟨A1, c1, r0, r1, r2, r3, r4, A2, c2, rfl, h1, h2, h3, h4, h5⟩ := h;exact ⟨A1, c1, r0, r1, r2, r3, r4, A2, c2, rfl, Sq.nodes_keep h1 h2 hs, h2, NdI.stay h3 (fun k hk => ⟨hk, hs k hk⟩), Sq.nodes_keep h4 h5 hs, h5⟩
theorem ParP.both {w0 w w' : World} {S : Tx} {e : Ending} {cd : Int} {p : Nat} {d : Doc} (hE : En w0.heap.size w0) (hb0 : Below w0.heap.size w0 w) (h : ParP S w e w') (hr : parseF S = (cd, p, d)) :
  Below w.heap.size w w' /\ ∃ vd ev, e = .returned (.tuple #[vd, ev]) /\ DocI (fun k => k < w'.heap.size) w' vd d ∧
   (∀ y, Below w'.heap.size w' y -> Calls Tryz.prog 22 #[ev] y fun e z => e = .returned (.int .i64 cd) /\ Below y.heap.size y z) ∧
   (∀ y, Below w'.heap.size w' y -> Calls Tryz.prog 27 #[ev] y fun e z => e = .returned (.int .i64 (p : Nat)) /\ Below y.heap.size y z) := by
 by_cases hc : cd = 0
 ·subst hc;have hp := parseF_zero hr;subst hp;obtain ⟨hb, vd, rfl, hd⟩ := h.ok hr;obtain ⟨A1, c1, r0, r1, r2, r3, r4, A2, c2, rfl, h1, h2, h3, h4, h5⟩ := hd;refine ⟨hb, _, _, rfl, ⟨A1, c1, r0, r1, r2, r3, r4, A2, c2, rfl, ?_, fun a e hn => (h2 a e hn).2, NdI.stay h3 fun k hk => ⟨hk.2, rfl⟩, ?_, fun a e hn => (h5 a e hn).2⟩, fun y _ => Code_ok y, fun y _ => At_ok y⟩
  ·exact Sq.stay2 h1 (fun a e hn => rfl) fun vs x hx => NdI.stay hx fun k hk => ⟨hk.2, rfl⟩
  ·exact Sq.stay2 h4 (fun a e hn => rfl) fun vs x hx => NdI.stay hx fun k hk => ⟨hk.2, rfl⟩
 ·obtain ⟨hb, rfl, v, rfl, hf⟩ := h.no hr hc;refine ⟨hb, _, _, rfl, DocI.zero _ _, fun y hy => ?_, fun y hy => ?_⟩
  ·exact Code_any cd p _ _ w0.heap.size y (hE.on (hb0.trans ((hb.trans (hy.mono hb.size)).mono hb0.size))) (Fe.later hf hy)
  ·exact At_any cd p _ _ w0.heap.size y (hE.on (hb0.trans ((hb.trans (hy.mono hb.size)).mono hb0.size))) (Fe.later hf hy)
section
variable (w : World)
set_option maxHeartbeats 8000000 in
set_option maxRecDepth 100000 in
theorem parses_law (hU : Un w) (hE : En w.heap.size w) (A : Option Addr) (n c : Nat) (S : Tx) (hBs : Bs w A n c S) :
  Calls Tryz.prog 4 #[.slice A n c] w fun e w' => e = .returned (.bool true) /\ Below w.heap.size w w' := by
 have haw := Hd (awake10 w hU hE);have hl : S.length = n := hBs.len;have hlea := Rd.le hBs
 by_cases hbig : n > 8192
 ·have g1 : decide ((n : Int) > 8192) = true := by simp; omega
  have g2 : decide ((8192 : Int) < (n : Int)) = true := by simp; omega
  clear hU hE hBs
  go_enter Tryz.func4, Tryz.ntmps4
  go_wp2_with fail;refine haw.out.mono ?_;rintro e9 w1 ⟨rfl, hb1⟩;replace hb1 := Hd hb1;go_wp2_with fail;go_ret;exact ⟨rfl, hb1.out⟩
 have g1 : decide ((n : Int) > 8192) = false := by simp; omega
 have g2 : decide ((8192 : Int) < (n : Int)) = false := by simp; omega
 replace hBs := Hd hBs;replace hU := Hd hU;replace hE := Hd hE;have hla := Hd hl
 go_enter Tryz.func4, Tryz.ntmps4
 go_wp2_with fail;refine haw.out.mono ?_;rintro e9 w1 ⟨rfl, hb1⟩;have hx1 := Hd hb1;clear haw hb1 hl
 go_wp2_with (at_builtin; apply stop_here)
 have hW : w1.heap.size <= (w1.alloc (.cells #[] 5)).heap.size := by simp
 refine Stop.go (append_bytes _ 41 5 Tryz.underlying41 info_u8 rfl _ _ rfl w1.heap.size _ [] rfl (owb_lit _ _ (Nat.le_refl _) _ _ _ _ rfl (by decide) rfl) _ _ _ S rfl ((hBs.out.below hx1.out).below (below_alloc _ _)) n (by simp) (by omega) hW ?_);intro A6 c6 w6 ho6 hg6 hb6;have hb16 := (below_alloc w1 (.cells #[] 5)).trans hb6;have hx6 := Hd (hx1.out.trans (hb16.mono hx1.out.size));have hown := OwB.bs ho6;rw [List.nil_append] at hown;replace hown := Hd hown;have hpc := Hd (parse_any w6 (hU.out.below hx6.out) A6 n c6 S hown.out (by omega));clear ho6 hg6 hb6 hW hb16 hx1;go_wp2_with fail;refine hpc.out.mono ?_;intro e7 w7 h7
 cases hpf : parseF S with
 | mk cd r =>
 obtain ⟨p, d⟩ := r;obtain ⟨hb7, vd, ev, rfl, hdo, hco, hat⟩ := h7.both hE.out hx6.out hpf;obtain ⟨A1, c1, kd, nm, tx, as_, ks, Ar, cr, Ak, ck, A2, c2, rfl, hr, -⟩ := hdo.parts;obtain ⟨n1, hn1⟩ : ∃ n1, d.before.length = n1 := ⟨_, rfl⟩;obtain ⟨n2, hn2⟩ : ∃ n2, d.after.length = n2 := ⟨_, rfl⟩;obtain ⟨n5, hn5⟩ : ∃ n5, as_.length = n5 := ⟨_, rfl⟩;obtain ⟨n6, hn6⟩ : ∃ n6, ks.length = n6 := ⟨_, rfl⟩;simp only [hn1, hn2, hn5, hn6] at hdo ⊢;have hba := below_alloc w7 (.cells #[.slice A1 n1 c1, .int .i64 kd, .string (strOf nm), .string (strOf tx), .slice Ar n5 cr, .slice Ak n6 ck, .slice A2 n2 c2] 27);have hnb := heap_alloc_new w7 (.cells #[.slice A1 n1 c1, .int .i64 kd, .string (strOf nm), .string (strOf tx), .slice Ar n5 cr, .slice Ak n6 ck, .slice A2 n2 c2] 27);have hb78 := hb7.trans (hba.mono hb7.size);have hx8 := Hd (hx6.out.trans (hb78.mono hx6.out.size));have hown8 := Hd (Bs.below hown.out hb78);have hdo8 : Hid (∀ y, Below (w7.alloc (.cells #[.slice A1 n1 c1, .int .i64 kd, .string (strOf nm), .string (strOf tx), .slice Ar n5 cr, .slice Ak n6 ck, .slice A2 n2 c2] 27)).heap.size (w7.alloc (.cells #[.slice A1 n1 c1, .int .i64 kd, .string (strOf nm), .string (strOf tx), .slice Ar n5 cr, .slice Ak n6 ck, .slice A2 n2 c2] 27)) y -> DocI (fun k => k < w7.heap.size) y (.agg #[.slice A1 n1 c1, .int .i64 kd, .string (strOf nm), .string (strOf tx), .slice Ar n5 cr, .slice Ak n6 ck, .slice A2 n2 c2]) d) := Hd fun y hy => hdo.stay fun k hk => (hy.block k (Nat.lt_of_lt_of_le hk hba.size)).trans (hba.block k hk)
 have hsz8 : Hid (w7.heap.size <= (w7.alloc (.cells #[.slice A1 n1 c1, .int .i64 kd, .string (strOf nm), .string (strOf tx), .slice Ar n5 cr, .slice Ak n6 ck, .slice A2 n2 c2] 27)).heap.size) := Hd hba.size;have hco8 := Hd (fun (y : World) (hy : Below (w7.alloc (.cells #[.slice A1 n1 c1, .int .i64 kd, .string (strOf nm), .string (strOf tx), .slice Ar n5 cr, .slice Ak n6 ck, .slice A2 n2 c2] 27)).heap.size (w7.alloc (.cells #[.slice A1 n1 c1, .int .i64 kd, .string (strOf nm), .string (strOf tx), .slice Ar n5 cr, .slice Ak n6 ck, .slice A2 n2 c2] 27)) y) => hco y (hba.trans (hy.mono hba.size)));have hat8 := Hd (fun (y : World) (hy : Below (w7.alloc (.cells #[.slice A1 n1 c1, .int .i64 kd, .string (strOf nm), .string (strOf tx), .slice Ar n5 cr, .slice Ak n6 ck, .slice A2 n2 c2] 27)).heap.size (w7.alloc (.cells #[.slice A1 n1 c1, .int .i64 kd, .string (strOf nm), .string (strOf tx), .slice Ar n5 cr, .slice Ak n6 ck, .slice A2 n2 c2] 27)) y) => hat y (hba.trans (hy.mono hba.size)));replace hpf := Hd hpf;replace hnb := Hd hnb;clear hb7 h7 hdo hco hat hba hpc hb78 hr hn1 hn2 hn5 hn6 hown hx6
 go_upto_region 7 with fail
 change Code.wp _ _ _ _ (w7.alloc (.cells #[.slice A1 n1 c1, .int .i64 kd, .string (strOf nm), .string (strOf tx), .slice Ar n5 cr, .slice Ak n6 ck, .slice A2 n2 c2] 27));generalize w7.alloc (.cells #[.slice A1 n1 c1, .int .i64 kd, .string (strOf nm), .string (strOf tx), .slice Ar n5 cr, .slice Ak n6 ck, .slice A2 n2 c2] 27) = w8 at hx8 hown8 hdo8 hco8 hat8 hnb hsz8 ⊢;generalize w7.heap.size = T at hnb hdo8 hsz8 ⊢;have hrc := Hd (rparse_any w8 A n c S (hBs.out.below hx8.out) (by omega));go_wp2_with fail;refine hrc.out.mono ?_;intro e9 w9 h9;unfold RParP at h9;rw [hpf.out] at h9;obtain ⟨hb9, vd2, rfl, hdo2⟩ := h9;simp only;obtain ⟨A1', c1', kd', nm', tx', as', ks', Ar', cr', Ak', ck', A2', c2', rfl, hr', -⟩ := hdo2.parts;obtain ⟨m1, hm1⟩ : ∃ m1, d.before.length = m1 := ⟨_, rfl⟩;obtain ⟨m2, hm2⟩ : ∃ m2, d.after.length = m2 := ⟨_, rfl⟩;obtain ⟨m5, hm5⟩ : ∃ m5, as'.length = m5 := ⟨_, rfl⟩;obtain ⟨m6, hm6⟩ : ∃ m6, ks'.length = m6 := ⟨_, rfl⟩;simp only [hm1, hm2, hm5, hm6] at hdo2 ⊢;have hba := below_alloc w9 (.cells #[.slice A1' m1 c1', .int .i64 kd', .string (strOf nm'), .string (strOf tx'), .slice Ar' m5 cr', .slice Ak' m6 ck', .slice A2' m2 c2'] 27);have hnb2 := heap_alloc_new w9 (.cells #[.slice A1' m1 c1', .int .i64 kd', .string (strOf nm'), .string (strOf tx'), .slice Ar' m5 cr', .slice Ak' m6 ck', .slice A2' m2 c2'] 27);have hd10 := Hd (hb9.trans (hba.mono hb9.size));have hx10 := Hd (hx8.out.trans (hd10.out.mono hx8.out.size))
 have hdo10 : Hid (∀ y, Below (w9.alloc (.cells #[.slice A1' m1 c1', .int .i64 kd', .string (strOf nm'), .string (strOf tx'), .slice Ar' m5 cr', .slice Ak' m6 ck', .slice A2' m2 c2'] 27)).heap.size (w9.alloc (.cells #[.slice A1' m1 c1', .int .i64 kd', .string (strOf nm'), .string (strOf tx'), .slice Ar' m5 cr', .slice Ak' m6 ck', .slice A2' m2 c2'] 27)) y -> DocI (fun k => k < w9.heap.size) y (.agg #[.slice A1' m1 c1', .int .i64 kd', .string (strOf nm'), .string (strOf tx'), .slice Ar' m5 cr', .slice Ak' m6 ck', .slice A2' m2 c2']) d) := Hd fun y hy => hdo2.stay fun k hk => (hy.block k (Nat.lt_of_lt_of_le hk hba.size)).trans (hba.block k hk)
 have hsz10 : Hid (w9.heap.size <= (w9.alloc (.cells #[.slice A1' m1 c1', .int .i64 kd', .string (strOf nm'), .string (strOf tx'), .slice Ar' m5 cr', .slice Ak' m6 ck', .slice A2' m2 c2'] 27)).heap.size) := Hd hba.size;replace hnb2 := Hd hnb2;clear hb9 hdo2 hba hrc hr' hm1 hm2 hm5 hm6
 go_upto_region 8 with fail
 change Code.wp _ _ _ _ (w9.alloc (.cells #[.slice A1' m1 c1', .int .i64 kd', .string (strOf nm'), .string (strOf tx'), .slice Ar' m5 cr', .slice Ak' m6 ck', .slice A2' m2 c2'] 27));generalize w9.alloc (.cells #[.slice A1' m1 c1', .int .i64 kd', .string (strOf nm'), .string (strOf tx'), .slice Ar' m5 cr', .slice Ak' m6 ck', .slice A2' m2 c2'] 27) = w10 at hd10 hx10 hdo10 hnb2 hsz10 ⊢;generalize w9.heap.size = T2 at hnb2 hdo10 hsz10 ⊢;have hcc := Hd (hco8.out w10 hd10.out);have jc : (cd == cd) = true := by simp
 have jp : ((p : Int) == (p : Int)) = true := by simp
 clear hco8;go_wp2_with fail;refine hcc.out.mono ?_;rintro e5 w11 ⟨rfl, hb11⟩;have hd11 := Hd (hd10.out.trans (hb11.mono hd10.out.size));have he11 := Hd hb11;have hac := Hd (hat8.out w11 hd11.out);clear hb11 hcc hat8;go_wp2_with fail;refine hac.out.mono ?_;rintro e6 w12 ⟨rfl, hb12⟩;have hd12 := Hd (hd11.out.trans (hb12.mono hd11.out.size));have he12 := Hd (he11.out.trans (hb12.mono he11.out.size));have hT1 := (hd12.out.block T (Array.getElem?_eq_some_iff.1 hnb.out).1).trans hnb.out;have hT2 := (he12.out.block T2 (Array.getElem?_eq_some_iff.1 hnb2.out).1).trans hnb2.out;have y0 := cell_blk hT1 (i := 0) rfl;have y1 := cell_blk hT1 (i := 1) rfl;have y2 := cell_blk hT1 (i := 2) rfl;have y3 := cell_blk hT1 (i := 3) rfl;have y4 := cell_blk hT1 (i := 4) rfl;have y5 := cell_blk hT1 (i := 5) rfl;have y6 := cell_blk hT1 (i := 6) rfl;have z0 := cell_blk hT2 (i := 0) rfl;have z1 := cell_blk hT2 (i := 1) rfl;have z2 := cell_blk hT2 (i := 2) rfl;have z3 := cell_blk hT2 (i := 3) rfl;have z4 := cell_blk hT2 (i := 4) rfl;have z5 := cell_blk hT2 (i := 5) rfl;have z6 := cell_blk hT2 (i := 6) rfl;have hdc := Hd (rdocs_any w12 _ _ d d (hdo8.out w12 hd12.out) (hdo10.out w12 he12.out) (fun k hk => Nat.lt_of_lt_of_le hk (Nat.le_trans hsz8.out hd12.out.size)) (fun k hk => Nat.lt_of_lt_of_le hk (Nat.le_trans hsz10.out he12.out.size)));clear hb12 hac hT1 hT2 hdo8 hdo10;go_wp2_with fail;refine hdc.out.mono ?_;rintro e6 w13 ⟨⟨B, rfl, hB⟩, hb13⟩;have hBt : B = true := by simpa using hB
 subst hBt;have hd13 := Hd (hd12.out.trans (hb13.mono hd12.out.size));have hx13 := Hd (hx8.out.trans (hd13.out.mono hx8.out.size));have hbc := Hd (bytes_same A6 n c6 S A n c w13 (Bs.below hown8.out hd13.out) (hBs.out.below hx13.out));clear hb13 hB hdc y0 y1 y2 y3 y4 y5 y6 z0 z1 z2 z3 z4 z5 z6;go_wp2_with fail;refine hbc.out.mono ?_;rintro e7 w14 ⟨rfl, kk, hw14⟩;have hfin : Hid (Below w.heap.size w w14) := Hd (by rw [hw14]; exact hx13.out.trans ((Joins.below_draws _ w13 kk).mono hx13.out.size));clear hw14;go_wp2_with fail;go_ret;exact ⟨rfl, hfin.out⟩
end
end Go.Proofs.YtokdnhdfmgfkeaaGreatDoor.Xt
end

section
namespace Go.Proofs
open Go.Shelf Go.RowKit
shelf_lay LaysM.n155 Nm 155 at Tryz as Tryz.laysM155
end Go.Proofs
namespace Go.Proofs.YtokdnhdfmgfkeaaGreatDoor.Xl
open Go.RowKit Go.Shelf UtfW Er
abbrev laidList : List (String × DataW Unit) := Rows.xtreeParsesRow.laid
theorem et0 : Tryz.prog.globalNamed "errors.errorType" = some 0 := by kernel_rfl
theorem rt0 : (Tryz.prog.cutTypes.find? (·.1 == "internal/reflectlite.rtype")).map (·.2) = some 162 := by kernel_rfl
theorem size0 : Tryz.prog.types.size = 259 := by kernel_rfl
theorem oneRow0 : ((List.range 259).filter fun t => Tryz.prog.rowNamed t [101, 114, 114, 111, 114]) = [31] := by kernel_rfl
theorem et_of_laid {W : World} (h : laidMetH Tryz.prog laidList W) : Et W := by
 have h1 : laidMetH Tryz.prog [("errors.errorType", Rows.laid_errors_errorType)] W := h.filter (fun x => x.1 == "errors.errorType");have h' : laidMet Tryz.prog [] W /\ handlesMet Tryz.prog [("errors.errorType", Rows.laid_errors_errorType)] W := h1;obtain ⟨name, u, ty, e1, e2, e3, e4, e5⟩ := h'.2 _ (List.mem_singleton.2 rfl);have en : name = [101, 114, 114, 111, 114] := (Option.some.inj e1).symm;subst en;obtain rfl := Option.some.inj (rt0.symm.trans e2);have hm : ty ∈ (List.range 259).filter fun t => Tryz.prog.rowNamed t [101, 114, 114, 111, 114] := List.mem_filter.2 ⟨List.mem_range.2 (by rw [<- size0]; exact e3), e4⟩
 rw [oneRow0] at hm;obtain rfl := List.mem_singleton.1 hm;have hh : typeHandle Tryz.prog 31 = .pointer (some ⟨7, 31, none⟩) := by kernel_rfl
 rw [hh] at e5;have := World.var?_cell et0 e5 0;unfold Et
 simpa using this
theorem en_of_laid {W : World} (h : laidMetH Tryz.prog laidList W) : En W.heap.size W :=
 ⟨et_of_laid h, by
  have hg := et_of_laid h;unfold Et at hg;rcases Nat.lt_or_ge 0 W.heap.size with h | h
  ·exact h
  ·simp [World.cell?, Array.getElem?_eq_none h] at hg, Nat.le_refl _⟩
def u8r : Ren := { f := id, t := fun n => if n = 5 then 5 else if n = 119 then 145 else if n = 138 then 147 else 148, g := fun n => if n = 3 then 1 else 2 }
theorem first_data : Rows.laid_unicode_utf8_first = Lib.firstData := by kernel_rfl
theorem accept_data : Rows.laid_unicode_utf8_acceptRanges = Lib.acceptData := by kernel_rfl
theorem case_data : Rows.laid_unicode_CaseRanges = Lib.caseData := by kernel_rfl
def litZ : DataW Unit -> List Int
 | .lit (.int _ z) => [z]
 | _ => []
def foldZ : List Int := match (Rows.laid_unicode_asciiFold : DataW Unit) with
 | .agg l => l.flatMap litZ
 | _ => []
theorem fold_data : (Rows.laid_unicode_asciiFold : DataW Unit) = Lib.tabData .u16 foldZ := by kernel_rfl
theorem tfold_len : foldZ.length = 128 := by kernel_rfl
theorem tfold_at : (foldT.all fun x => foldZ.getD x.1 0 == (x.2 : Int)) = true := by kernel_rfl
def rowZ : DataW Unit -> List Value
 | .agg l => l.flatMap fun x => (litZ x).map (Value.int .u16)
 | _ => []
def orbitC : Array Value := match (Rows.laid_unicode_caseOrbit : DataW Unit) with
 | .slice l _ => (l.flatMap rowZ).toArray
 | _ => #[]
theorem ut_of_laid {W : World} (h : laidMetH Tryz.prog laidList W) (hsh : W.ShapedOpen Tryz.prog) : Ut W := by
 have h1 : laidMetH Tryz.prog [("unicode/utf8.first", Rows.laid_unicode_utf8_first)] W := h.filter (fun x => x.1 == "unicode/utf8.first");have h2 : laidMetH Tryz.prog [("unicode/utf8.acceptRanges", Rows.laid_unicode_utf8_acceptRanges)] W := h.filter (fun x => x.1 == "unicode/utf8.acceptRanges");rw [first_data] at h1;rw [accept_data] at h2;have h1' : laidMet Tryz.prog [("unicode/utf8.first", Lib.firstData)] W := h1;have h2' : laidMet Tryz.prog [("unicode/utf8.acceptRanges", Lib.acceptData)] W := h2;have L : U8Types Tryz.prog u8r := ⟨by kernel_rfl, by kernel_rfl, by kernel_rfl, by kernel_rfl⟩;exact ⟨utf8Tabs_of_readsT L ⟨by kernel_rfl, by kernel_rfl, by kernel_rfl, by kernel_rfl, by kernel_rfl, by kernel_rfl, by kernel_rfl⟩ (Lib.laidMet.reads h1' (.head _)) (Lib.laidMet.reads h2' (.head _)), Tryz.laysM155.s1_3 W hsh⟩
theorem un_of_laid {W : World} (h : laidMetH Tryz.prog laidList W) (hsh : W.ShapedOpen Tryz.prog) : Un W := by
 refine ⟨ut_of_laid h hsh, fun x hx => ?_, ?_⟩
 ·have h1 : laidMetH Tryz.prog [("unicode.asciiFold", Rows.laid_unicode_asciiFold)] W := h.filter (fun x => x.1 == "unicode.asciiFold");rw [fold_data] at h1;have h2 : laidMet Tryz.prog (("unicode.asciiFold", Lib.tabData .u16 foldZ) :: []) W := h1;have ht : Lib.TabIs Tryz.prog W "unicode.asciiFold" .u16 foldZ := Lib.tabIs_of_head (g := 5) (t := 228) (e := 227) (n := 128) (by kernel_rfl) (by kernel_rfl) Tryz.underlying228 Tryz.underlying227 (by kernel_rfl) (by kernel_rfl) h2;have hlt := (foldT_low _ hx).1;have hc := ht.cell (g := 5) (by kernel_rfl) x.1 (by rw [tfold_len]; exact hlt);have hv := List.all_eq_true.1 tfold_at x hx;rw [beq_iff_eq] at hv;rw [hv] at hc;exact hc
 ·have h1 : laidMetH Tryz.prog [("unicode.CaseRanges", Rows.laid_unicode_CaseRanges)] W := h.filter (fun x => x.1 == "unicode.CaseRanges");rw [case_data] at h1;have h2 : laidMet Tryz.prog [("unicode.CaseRanges", Lib.caseData)] W := h1;exact caseVar_of_reads (ρ := Tryz.lays159_ren) { Tryz.lays159 with } Tryz.lays159.t206 ⟨by kernel_rfl, by kernel_rfl, by kernel_rfl, by kernel_rfl, by kernel_rfl, by kernel_rfl⟩ (Lib.laidMet.reads h2 (.head _))
def putVar (g : Nat) (cs : Array Value) (h : Array Obj) : Array Obj := h.modify g fun
 | .cells _ t frozen => .cells cs t frozen
 | o => o
noncomputable def laidWorld (os : Os) : World :=
 let N := (World.settled Tryz.prog os).heap.size
 let w0 := World.holding Tryz.prog os ⟨#[.cells orbitC 231, .cells Lib.caseCells5 217], #[], []⟩
 let h1 := putVar 1 (Lib.firstTab.map fun z => Value.int .u8 z).toArray w0.heap
 let h2 := putVar 2 ((List.range 16).flatMap fun i => [Value.int .u8 (Lib.accLo i), Value.int .u8 (Lib.accHi i)]).toArray h1
 let h3 := putVar 0 #[.iface 162 (.agg #[.pointer (some ⟨7, 31, none⟩)])] h2
 let h4 := putVar 5 (foldZ.map fun z => Value.int .u16 z).toArray h3
 let h5 := putVar 6 #[.slice (some ⟨N, 0, none⟩) 94 94] h4
 let h6 := putVar 4 #[.slice (some ⟨N + 1, 0, none⟩) 336 336] h5
 { w0 with heap := h6 }
theorem ctypes : Great.CTypes Tryz.prog 192 217 215 195 21 where
 tS := Tryz.underlying192
 tR := Tryz.underlying217
 tD := Tryz.underlying215
 tU := Tryz.underlying195
 tI := Tryz.underlying21
 cI := by kernel_rfl
 cU := by kernel_rfl
 cD := by kernel_rfl
 cR := by kernel_rfl
noncomputable abbrev laidN : Nat := (World.settled Tryz.prog default).heap.size
theorem laid_a (os : Os) (args : Array Value) : LaidIn Tryz.prog ((laidWorld os).forCall (fun _ _ => 0) ⟨#[], args, []⟩).memory [("unicode/utf8.acceptRanges", Rows.laid_unicode_utf8_acceptRanges), ("unicode.asciiFold", Rows.laid_unicode_asciiFold), ("unicode.caseOrbit", Rows.laid_unicode_caseOrbit)] [2, 5, 6, laidN] :=
 LaidIn.of_run _ 8 (by kernel_rfl) (by kernel_rfl) (by kernel_rfl) (by kernel_rfl)
theorem laid_c (os : Os) (args : Array Value) : LaidIn Tryz.prog ((laidWorld os).forCall (fun _ _ => 0) ⟨#[], args, []⟩).memory [("unicode.CaseRanges", Rows.laid_unicode_CaseRanges)] [4, laidN + 1] := by
 rw [case_data];exact Great.laidIn_case (tg := 192) (tb := 217) ctypes Lib.caseT (by kernel_rfl) (by kernel_rfl) (of_decide_eq_true (by kernel_rfl)) Lib.rowsWf (by kernel_rfl) (by kernel_rfl) (of_decide_eq_true (by kernel_rfl))
theorem laid_f (os : Os) (args : Array Value) : LaidIn Tryz.prog ((laidWorld os).forCall (fun _ _ => 0) ⟨#[], args, []⟩).memory [("unicode/utf8.first", Rows.laid_unicode_utf8_first)] [1] :=
 LaidIn.of_run _ 8 (by kernel_rfl) (by kernel_rfl) (by kernel_rfl) (by kernel_rfl)
theorem laidWorld_met (os : Os) (args : Array Value) : laidMetH Tryz.prog laidList ((laidWorld os).forCall (fun _ _ => 0) ⟨#[], args, []⟩).memory :=
 laidMetH_of_parts (((laid_a os args).append (laid_c os args) (by kernel_rfl)).append (laid_f os args) (by kernel_rfl)).met (by kernel_rfl)
end Go.Proofs.YtokdnhdfmgfkeaaGreatDoor.Xl
end

section
namespace Go.Proofs.YtokdnhdfmgfkeaaGreatDoor
open Go.RowKit UtfW Er Xl
namespace xtreeParsesW
theorem walk (A : Option Addr) (n c : Nat) (l : List UInt8) (W : World) (hL : laidMetH Tryz.prog Xl.laidList W) (hsh : W.ShapedOpen Tryz.prog) (hBs : Bs W A n c l) (_hz : c <= 140737488351232) :
  Calls Tryz.prog 4 #[.slice A n c] W fun e w' => e = .returned (.bool true) /\ Below W.heap.size W w' :=
 Xt.parses_law W (un_of_laid hL hsh) (en_of_laid hL) A n c l hBs
end xtreeParsesW
end Go.Proofs.YtokdnhdfmgfkeaaGreatDoor
end
