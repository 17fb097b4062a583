/- Fair of the document. Printed by xp_rfair1.py. -/
import Derived.Test.YtokdnhdfmgfkeaaGreatDoorVXpSm
import Derived.Test.YtokdnhdfmgfkeaaGreatDoorVXlValues
import Derived.Test.YtokdnhdfmgfkeaaGreatDoorVXlRname
import Derived.Test.YtokdnhdfmgfkeaaGreatDoorVXpDoc
section
namespace Go.Proofs.YtokdnhdfmgfkeaaGreatDoor.Xt
open Xl UtfW
open Go.Proofs.YtokdnhdfmgfkeaaGreatDoor.Qx (V)

/-! ### The builder over them -/
end Go.Proofs.YtokdnhdfmgfkeaaGreatDoor.Xt
end

section
namespace Go.Proofs.YtokdnhdfmgfkeaaGreatDoor.Xt
open Go.RowKit UtfW Xl Er

theorem ParP.ok {S : Tx} {w w' : World} {e : Ending} {p : Nat} {d : Doc} (h : ParP S w e w') (hr : parseF S = (0, p, d)) : Below w.heap.size w w' ∧ ∃ vd, e = .returned (.tuple #[vd, .nilIface]) ∧ DocI (fun k => w.heap.size ≤ k ∧ k < w'.heap.size) w' vd d := by
 obtain ⟨h1, vd, ev, rfl, h2⟩ := h
 rw [hr] at h2
 rcases h2 with ⟨_, rfl, h3⟩ | ⟨h3, _⟩
 ·exact ⟨h1, vd, rfl, h3⟩
 ·exact absurd rfl h3
theorem ParP.no {S : Tx} {w w' : World} {e : Ending} {cd : Int} {p : Nat} {d : Doc} (h : ParP S w e w') (hr : parseF S = (cd, p, d)) (hc : cd ≠ 0) : Below w.heap.size w w' ∧ d = noDoc ∧ ∃ v, e = .returned (.tuple #[zeroDoc, v]) ∧ Er.Fe w' w'.heap.size cd (p : Nat) [xmlB] v := by
 obtain ⟨h1, vd, ev, rfl, h2⟩ := h
 rw [hr] at h2
 rcases h2 with ⟨h3, _⟩ | ⟨_, h3, rfl, h4⟩
 ·exact absurd h3 hc
 ·exact ⟨h1, h3, ev, rfl, h4⟩
end Go.Proofs.YtokdnhdfmgfkeaaGreatDoor.Xt
end

section
namespace Go.Proofs.YtokdnhdfmgfkeaaGreatDoor.Xp
open Go.RowKit UtfW Xl Xo Xt Er

def aw1 : Doc := ⟨[], .mk 1 [97] [] [([120], [49, 32, 60, 32, 50])] [.mk 2 [] [97, 32, 38, 32, 98] [] []], []⟩
set_option maxRecDepth 100000 in
theorem aw1_may : mayD aw1 = true := by decide +kernel
set_option maxRecDepth 100000 in
theorem aw1_wr : writeD aw1 = [60, 97, 32, 120, 61, 34, 49, 32, 38, 108, 116, 59, 32, 50, 34, 62, 97, 32, 38, 97, 109, 112, 59, 32, 98, 60, 47, 97, 62] := by decide +kernel
set_option maxRecDepth 100000 in
theorem aw2_may : mayD noDoc = false := by decide +kernel
theorem docB_no : DocB noDoc := ⟨by decide, by decide, by decide, by decide +kernel, by
 show smN zero
 unfold zero
 rw [smN]
 exact ⟨by simp, by simp, ⟨by simp, fun a ha => by cases ha⟩, by rw [smL]; trivial⟩, by
 show smL []
 rw [smL]; trivial, by
 show smL []
 rw [smL]; trivial⟩
theorem DocP.ok {d : Doc} {w w' : World} {e : Ending} (h : DocP d w e w') (hm : mayD d = true) : Below w.heap.size w w' ∧ e = .returned (.tuple #[.string (strOf (writeD d)), .nilIface]) := by
 obtain ⟨h1, h2 | h2⟩ := h
 ·exact ⟨h1, h2.2⟩
 ·rw [hm] at h2
  cases h2.1
theorem DocP.no {d : Doc} {w w' : World} {e : Ending} (h : DocP d w e w') (hm : mayD d = false) : Below w.heap.size w w' ∧ ∃ v, e = .returned (.tuple #[.string ⟨#[]⟩, v]) ∧ Er.Fe w' w'.heap.size 80 0 [writeB] v := by
 obtain ⟨h1, h2 | h2⟩ := h
 ·rw [hm] at h2
  cases h2.1
 ·exact ⟨h1, h2.2⟩
set_option maxHeartbeats 4000000 in
set_option maxRecDepth 100000 in
theorem awake11 (w : World) (hU : Un w) (hE : En w.heap.size w) :
  Calls Tryz.prog 11 #[] w fun e w' => e = .returned (.bool true) ∧ Below w.heap.size w w' := by
 obtain ⟨b, hb⟩ : ∃ b, w.heap.size = b := ⟨_, rfl⟩
 have hb1 := below_alloc w (.cells #[.string ⟨#[120]⟩, .string ⟨#[49, 32, 60, 32, 50]⟩] 55)
 have hs1 : Sq AtEl 2 (w.alloc (.cells #[.string ⟨#[120]⟩, .string ⟨#[49, 32, 60, 32, 50]⟩] 55)) (some ⟨w.heap.size, 0, none⟩) 1 1 [([120], [49, 32, 60, 32, 50])] :=
  sq_one w [.string ⟨#[120]⟩, .string ⟨#[49, 32, 60, 32, 50]⟩] ([120], [49, 32, 60, 32, 50]) 55 (0, 0) rfl rfl
 have hz1 : (w.alloc (.cells #[.string ⟨#[120]⟩, .string ⟨#[49, 32, 60, 32, 50]⟩] 55)).heap.size = w.heap.size + 1 := World.size_alloc _ _
 obtain ⟨w1, hw1⟩ : ∃ w1, w.alloc (.cells #[.string ⟨#[120]⟩, .string ⟨#[49, 32, 60, 32, 50]⟩] 55) = w1 := ⟨_, rfl⟩
 rw [hw1] at hb1 hs1 hz1
 have hb2 := below_alloc w1 (.cells #[.int .i64 2, .string ⟨#[]⟩, .string ⟨#[97, 32, 38, 32, 98]⟩, .slice none 0 0, .slice none 0 0] 25)
 have hs2 : Sq (NdE (fun k => k < b + 2)) 5 (w1.alloc (.cells #[.int .i64 2, .string ⟨#[]⟩, .string ⟨#[97, 32, 38, 32, 98]⟩, .slice none 0 0, .slice none 0 0] 25)) (some ⟨w1.heap.size, 0, none⟩) 1 1 [Nd.mk 2 [] [97, 32, 38, 32, 98] [] []] :=
  sq_one w1 [.int .i64 2, .string ⟨#[]⟩, .string ⟨#[97, 32, 38, 32, 98]⟩, .slice none 0 0, .slice none 0 0] (Nd.mk 2 [] [97, 32, 38, 32, 98] [] []) 25 (0, 0) rfl (NdI.make (nm := []) (tx := [97, 32, 38, 32, 98]) (as_ := []) (ks := []) (Sq.none_ _) (fun a e => by cases e) (Sq.none_ _) (fun a e => by cases e))
 have hz2 : (w1.alloc (.cells #[.int .i64 2, .string ⟨#[]⟩, .string ⟨#[97, 32, 38, 32, 98]⟩, .slice none 0 0, .slice none 0 0] 25)).heap.size = w1.heap.size + 1 := World.size_alloc _ _
 obtain ⟨w2, hw2⟩ : ∃ w2, w1.alloc (.cells #[.int .i64 2, .string ⟨#[]⟩, .string ⟨#[97, 32, 38, 32, 98]⟩, .slice none 0 0, .slice none 0 0] 25) = w2 := ⟨_, rfl⟩
 rw [hw2] at hb2 hs2 hz2
 rw [hz1] at hs2 hz2
 have hb3 := below_alloc w2 (.cells #[.int .i64 1, .string ⟨#[97]⟩, .string ⟨#[]⟩, .slice (some ⟨w.heap.size, 0, none⟩) 1 1, .slice (some ⟨w.heap.size + 1, 0, none⟩) 1 1] 25)
 have hz3 : (w2.alloc (.cells #[.int .i64 1, .string ⟨#[97]⟩, .string ⟨#[]⟩, .slice (some ⟨w.heap.size, 0, none⟩) 1 1, .slice (some ⟨w.heap.size + 1, 0, none⟩) 1 1] 25)).heap.size = w2.heap.size + 1 := World.size_alloc _ _
 obtain ⟨w3, hw3⟩ : ∃ w3, w2.alloc (.cells #[.int .i64 1, .string ⟨#[97]⟩, .string ⟨#[]⟩, .slice (some ⟨w.heap.size, 0, none⟩) 1 1, .slice (some ⟨w.heap.size + 1, 0, none⟩) 1 1] 25) = w3 := ⟨_, rfl⟩
 rw [hw3] at hb3 hz3
 have h13 := hb2.trans (hb3.mono hb2.size)
 have hx3 := hb1.trans (h13.mono hb1.size)
 have q1 : ∀ a, (some ⟨w.heap.size, 0, none⟩ : Option Addr) = some a → 0 < 1 → a.block < b + 2 := fun a e _ => by
  injection e with e
  rw [← e, ← hb]
  show w.heap.size < w.heap.size + 2
  omega
 have q2 : ∀ a, (some ⟨w.heap.size + 1, 0, none⟩ : Option Addr) = some a → 0 < 1 → a.block < b + 2 := fun a e _ => by
  injection e with e
  rw [← e, ← hb]
  show w.heap.size + 1 < w.heap.size + 2
  omega
 have hn3 : NdI (fun k => k < b + 2) w3 [.int .i64 1, .string ⟨#[97]⟩, .string ⟨#[]⟩, .slice (some ⟨w.heap.size, 0, none⟩) 1 1, .slice (some ⟨w.heap.size + 1, 0, none⟩) 1 1] (Nd.mk 1 [97] [] [([120], [49, 32, 60, 32, 50])] [Nd.mk 2 [] [97, 32, 38, 32, 98] [] []]) :=
  NdI.make (nm := [97]) (tx := []) (as_ := [([120], [49, 32, 60, 32, 50])]) (ks := [Nd.mk 2 [] [97, 32, 38, 32, 98] [] []]) (hs1.below AtEl.to h13) q1 (sq_keep hs2 hb3 (fun vs x h => NdI.later h (fun k hk => by rw [hz2, hb]; omega) hb3)) q2
 have hd3 : DocI (fun k => k < b + 2) w3 (.agg #[.slice none 0 0, .int .i64 1, .string ⟨#[97]⟩, .string ⟨#[]⟩, .slice (some ⟨w.heap.size, 0, none⟩) 1 1, .slice (some ⟨w.heap.size + 1, 0, none⟩) 1 1, .slice none 0 0]) aw1 :=
  ⟨none, 0, _, _, _, _, _, none, 0, rfl, Sq.none_ _, fun a e => (by cases e), hn3, Sq.none_ _, fun a e => (by cases e)⟩
 have hdc := Lib.hid (Doc_any _ w3 (hU.below hx3) _ aw1 hd3 (fun j hj => by rw [hz3, hz2, hb]; omega) (may_docB aw1_may).1)
 have hx3H := Lib.hid hx3
 have hUH := Lib.hid hU
 have hEH := Lib.hid hE
 clear q1 q2 hb1 hs1 hz1 hb2 hs2 hz2 hb3 hz3 h13 hx3 hn3 hd3 hU hE hb
 subst hw3
 subst hw2
 subst hw1
 go_enter Tryz.func11, Tryz.ntmps11
 go_wp2_with fail
 refine hdc.out.mono ?_
 intro e4 w4 h4
 obtain ⟨hb4, rfl⟩ := h4.ok aw1_may
 have hx4 := Lib.hid (hx3H.out.trans (hb4.mono hx3H.out.size))
 rw [aw1_wr]
 have str1 : ((strOf [60, 97, 32, 120, 61, 34, 49, 32, 38, 108, 116, 59, 32, 50, 34, 62, 97, 32, 38, 97, 109, 112, 59, 32, 98, 60, 47, 97, 62]).toList == [60, 97, 32, 120, 61, 34, 49, 32, 38, 108, 116, 59, 32, 50, 34, 62, 97, 32, 38, 97, 109, 112, 59, 32, 98, 60, 47, 97, 62]) = true := by rw [str_eqL]; decide
 clear h4 hb4 hdc
 generalize strOf [60, 97, 32, 120, 61, 34, 49, 32, 38, 108, 116, 59, 32, 50, 34, 62, 97, 32, 38, 97, 109, 112, 59, 32, 98, 60, 47, 97, 62] = ST at str1 ⊢
 have hd2 := Lib.hid (Doc_any (fun _ => False) w4 (hUH.out.below hx4.out) _ noDoc (DocI.zero _ _) (fun j h => h.elim) docB_no)
 unfold zeroDoc at hd2
 go_wp2_with fail
 refine hd2.out.mono ?_
 intro e5 w5 h5
 obtain ⟨hb5, v, rfl, hf⟩ := h5.no aw2_may
 obtain ⟨T5, a5, rfl⟩ := hf.iface
 have hx5 := Lib.hid (hx4.out.trans (hb5.mono hx4.out.size))
 have hcc := Lib.hid (Code_any 80 0 _ _ w.heap.size w5 (hEH.out.on hx5.out) hf)
 clear h5 hb5 hf hd2
 go_wp2_with fail
 refine hcc.out.mono ?_
 rintro e w6 ⟨rfl, hb6⟩
 have hfin := Lib.hid (hx5.out.trans (hb6.mono hx5.out.size))
 clear hb6 hcc
 go_wp2_with fail
 go_ret
 exact ⟨rfl, hfin.out⟩
end Go.Proofs.YtokdnhdfmgfkeaaGreatDoor.Xp
end

section
namespace Go.Proofs.YtokdnhdfmgfkeaaGreatDoor.Xt
open Go.RowKit UtfW Xl

theorem strOf_inj {a b : Tx} (h : strOf a = strOf b) : a = b := by
 have := congrArg (fun x : ByteArray => x.data.toList) h
 simpa [strOf] using this
theorem str_ne {a b : Tx} (h : a ≠ b) : ((strOf a).toList == (strOf b).toList) = false := by
 rw [str_beq, decide_eq_false_iff_not]
 exact fun e => h (strOf_inj e)
theorem at_neq (w : World) (x1 y1 x2 y2 : ByteArray) : (binOp .neq 55 (.agg #[.string x1, .string y1]) (.agg #[.string x2, .string y2])).run Tryz.prog w = .ok (.bool (!((x1.toList == x2.toList) && (y1.toList == y2.toList)))) w := by
 have hS : Tryz.prog.underlying 55 = some (.struct (Tryz.prog.fieldsOf 55)) := by kernel_rfl
 have hp : Tryz.prog.stoodInHeld 55 = false := by kernel_rfl
 rw [run_neq_struct, show (10000 : Nat) = 9999 + 1 from rfl, run_equalIn_agg w 9999 55 _ _ hS hp]
 simp only [Program.fieldsOf, Tryz.underlying55]
 go_simp
 by_cases h1 : x1.toList = x2.toList <;> by_cases h2 : y1.toList = y2.toList <;> simp [h1, h2]
theorem at_neq_ (w : World) (a b : At) : (binOp .neq 55 (.agg #[.string (strOf a.1), .string (strOf a.2)]) (.agg #[.string (strOf b.1), .string (strOf b.2)])).run Tryz.prog w = .ok (.bool (decide (a ≠ b))) w := by
 rw [at_neq, str_beq, str_beq]
 congr 2
 rw [← Bool.decide_and, ← decide_not, decide_eq_decide]
 obtain ⟨a1, a2⟩ := a
 obtain ⟨b1, b2⟩ := b
 simp only [ne_eq, Prod.mk.injEq]
 constructor
 ·rintro h ⟨rfl, rfl⟩
  exact h ⟨rfl, rfl⟩
 ·rintro h ⟨e1, e2⟩
  exact h ⟨strOf_inj e1, strOf_inj e2⟩
theorem Sq.kept_ {α : Type} {El : World → List Value → α → Prop} {k : Nat} {w w' : World} {A : Option Addr} {n c : Nat} {l : List α} (h : Sq El k w A n c l) (hb : Below w.heap.size w w') (hE : ∀ vs x, El w vs x → El w' vs x) : Sq El k w' A n c l :=
 Sq.stay h (fun ad e hn => by
  obtain ⟨b, off, e2, hbl, _⟩ := h.cell hn
  rw [e] at e2
  injection e2 with e2
  rw [e2]
  exact hb.block b hbl) hE
set_option maxHeartbeats 4000000 in
set_option maxRecDepth 100000 in
theorem rattrs_any (w : World) (A1 A2 : Option Addr) (n1 n2 c1 c2 : Nat) (l1 l2 : List At) (h1 : Sq AtEl 2 w A1 n1 c1 l1) (h2 : Sq AtEl 2 w A2 n2 c2 l2) :
  Calls Tryz.prog 70 #[.slice A1 n1 c1, .slice A2 n2 c2] w fun e w' => (∃ B : Bool, e = .returned (.bool B) ∧ (B = true ↔ l1 = l2)) ∧ Below w.heap.size w w' := by
 have hl1 := h1.len
 have hl2 := h2.len
 have hm1 := h1.max
 have hle1 := h1.le
 replace h1 := Lib.hid h1
 replace h2 := Lib.hid h2
 by_cases hn : n1 = n2
 ·subst hn
  replace hl1 := Lib.hid hl1
  replace hl2 := Lib.hid hl2
  go_enter Tryz.func70, Tryz.ntmps70
  go_wp2_with fail
  go_loopw [5] (fun v5 wr => ∃ i : Nat, i ≤ n1 ∧ v5 = .int .i64 (i : Nat) ∧ Hid (l1.take i = l2.take i) ∧ Hid (Below w.heap.size w wr)) (fun v5 _ => n1 - (intOf v5).toNat)
  case atStart => exact ⟨0, by omega, rfl, Lib.hid rfl, Lib.hid (Below.refl _ _)⟩
  case round =>
   obtain ⟨i, hi, rfl, hsame, hb⟩ := hrel
   by_cases hlt : i < n1
   ·have i1 : decide ((i : Int) < (n1 : Int)) = true := by simp; omega
    have q1 : (i : Int) < (n1 : Int) := by omega
    obtain ⟨b1, off1, ax, vs1, rfl, _, hx1, _, hv1, hc1⟩ := (h1.out.below AtEl.to hb.out).at_ hlt
    obtain ⟨b2, off2, ay, vs2, rfl, _, hx2, _, hv2, hc2⟩ := (h2.out.below AtEl.to hb.out).at_ hlt
    unfold AtEl at hv1 hv2
    subst hv1
    subst hv2
    have m0 := hc1 0 _ rfl
    have m1 := hc1 1 _ rfl
    have m2 := hc2 0 _ rfl
    have m3 := hc2 1 _ rfl
    rw [Nat.add_zero] at m0 m2
    have hbd := Lib.hid (hb.out.trans ((Joins.below_draws wr.heap.size wr 1).mono hb.out.size))
    have hx1 := Lib.hid hx1
    have hx2 := Lib.hid hx2
    have hne := at_neq_ wr.drew ax ay
    clear hc1 hc2
    go_wp2_with fail
    refine Pl.wp_region_plan 8 (.take 0 (.take 1 (.take 2 (.take 3 (.take 4 (.take 5 (.take 6 (.take 7 .done)))))))) (fun x => x.cell? ⟨b1, off1 + i * 2, none⟩ = some (.string (strOf ax.1)) ∧ x.cell? ⟨b1, off1 + i * 2 + 1, none⟩ = some (.string (strOf ax.2)) ∧ x.cell? ⟨b2, off2 + i * 2, none⟩ = some (.string (strOf ay.1)) ∧ x.cell? ⟨b2, off2 + i * 2 + 1, none⟩ = some (.string (strOf ay.2))) (by kernel_rfl) (by kernel_rfl) (by exact ⟨m0, m1, m2, m3⟩) ?_
    simp only [Pl.fill, List.getElem?_cons_zero, List.getElem?_cons_succ, List.drop_succ_cons, List.drop_zero]
    iterate 8
     refine Pl.take_go ?_ (by rfl) (fun _ _ _ h => h) ?_ ?_
     rotate_left
     ·(intro x hSw; (try dsimp only at hSw); go_simp; try with_reducible rfl)
     try simp only [Act.put, List.setIfInBounds_toArray, List.set_cons_zero, List.set_cons_succ]
    refine Pl.done_go ?_
    by_cases hxy : ax = ay
    ·have hnext : Hid (l1.take (i + 1) = l2.take (i + 1)) := Lib.hid (by rw [take_snoc hx1.out, take_snoc hx2.out, hsame.out, hxy])
     subst hxy
     have hd : decide (ax ≠ ax) = false := by simp
     rw [hd] at hne
     clear hd
     go_wp2_with fail
     go_roundw
     case rel => exact ⟨i + 1, by omega, by go_num, hnext, hbd⟩
     case measure => simp [intOf]; omega
    ·have hd : decide (ax ≠ ay) = true := by simpa using hxy
     rw [hd] at hne
     have hno : Hid (l1 ≠ l2) := Lib.hid fun e => by
      rw [e] at hx1
      have h3 := hx1.out.symm.trans hx2.out
      injection h3 with h3
      exact hxy h3
     by_cases e1 : ax.1 = ay.1
     ·have e2 : ax.2 ≠ ay.2 := fun e => hxy (Prod.ext e1 e)
      have f1 : (strOf ax.1).toList = (strOf ay.1).toList := by rw [e1]
      have f2 : ¬ (strOf ax.2).toList = (strOf ay.2).toList := by
       have := str_ne e2
       simpa using this
      clear hd hxy e1 e2
      go_wp2_with fail
      (try simp only [Exit.inBlock, Exit.then])
      go_ret
      exact ⟨⟨false, rfl, by simpa using hno.out⟩, hbd.out⟩
     ·have f1 : ¬ (strOf ax.1).toList = (strOf ay.1).toList := by
       have := str_ne e1
       simpa using this
      clear hd hxy e1
      go_wp2_with fail
      (try simp only [Exit.inBlock, Exit.then])
      go_ret
      exact ⟨⟨false, rfl, by simpa using hno.out⟩, hbd.out⟩
   ·have i1 : decide ((i : Int) < (n1 : Int)) = false := by simp; omega
    have hyes : Hid (l1 = l2) := Lib.hid (by
     have h3 := hsame.out
     rwa [List.take_of_length_le (by rw [hl1.out]; omega), List.take_of_length_le (by rw [hl2.out]; omega)] at h3)
    go_wp2_with fail
    (try simp only [Exit.inBlock, Exit.then])
    go_ret
    exact ⟨⟨true, rfl, by simpa using hyes.out⟩, hb.out⟩
 ·have d1 : ((n1 : Int) != (n2 : Int)) = true := bne_iff_ne.2 (fun e => hn (by omega))
  have hno : Hid (l1 ≠ l2) := Lib.hid fun e => hn (by rw [← hl1, ← hl2, e])
  clear hl1 hl2
  go_enter Tryz.func70, Tryz.ntmps70
  go_wp2_with fail
  go_ret
  exact ⟨⟨false, rfl, by simpa using hno.out⟩, Below.refl _ _⟩
set_option maxHeartbeats 8000000 in
set_option maxRecDepth 100000 in
theorem rsame_any : ∀ (k : Nat) (X Y : Nat → Prop) (w : World) (vs us : List Value) (n m : Nd), SizeOf.sizeOf n ≤ k → NdI X w vs n → NdI Y w us m → (∀ j, X j → j < w.heap.size) → (∀ j, Y j → j < w.heap.size) →
  Calls Tryz.prog 37 #[.agg vs.toArray, .agg us.toArray] w fun e w' => (∃ B : Bool, e = .returned (.bool B) ∧ (B = true ↔ n = m)) ∧ Below w.heap.size w w' := by
 intro k
 induction k with
 | zero =>
  intro X Y w vs us n m hk
  obtain ⟨kd, nm, tx, as_, ks⟩ := n
  simp at hk
 | succ k ih =>
  intro X Y w vs us n m hk hn hm hX hY
  obtain ⟨kd, nm, tx, as_, ks⟩ := n
  obtain ⟨kd', nm', tx', as', ks'⟩ := m
  obtain ⟨A, ca, A2, c2, rfl, hA, hK, -, -⟩ := hn.cells
  obtain ⟨B, cb, B2, d2, rfl, hA', hK', -, -⟩ := hm.cells
  have hba := below_alloc w (.cells #[.int .i64 kd, .string (strOf nm), .string (strOf tx), .slice A as_.length ca, .slice A2 ks.length c2] 25)
  have hnb := heap_alloc_new w (.cells #[.int .i64 kd, .string (strOf nm), .string (strOf tx), .slice A as_.length ca, .slice A2 ks.length c2] 25)
  obtain ⟨T, hT⟩ : ∃ T, w.heap.size = T := ⟨_, rfl⟩
  obtain ⟨w1, hw1⟩ : ∃ w1, w.alloc (.cells #[.int .i64 kd, .string (strOf nm), .string (strOf tx), .slice A as_.length ca, .slice A2 ks.length c2] 25) = w1 := ⟨_, rfl⟩
  rw [hw1] at hba hnb
  rw [hT] at hnb
  have hbb := below_alloc w1 (.cells #[.int .i64 kd', .string (strOf nm'), .string (strOf tx'), .slice B as'.length cb, .slice B2 ks'.length d2] 25)
  have hnc := heap_alloc_new w1 (.cells #[.int .i64 kd', .string (strOf nm'), .string (strOf tx'), .slice B as'.length cb, .slice B2 ks'.length d2] 25)
  obtain ⟨U, hU⟩ : ∃ U, w1.heap.size = U := ⟨_, rfl⟩
  obtain ⟨w2, hw2⟩ : ∃ w2, w1.alloc (.cells #[.int .i64 kd', .string (strOf nm'), .string (strOf tx'), .slice B as'.length cb, .slice B2 ks'.length d2] 25) = w2 := ⟨_, rfl⟩
  rw [hw2] at hbb hnc
  rw [hU] at hnc
  have hb02 := hba.trans (hbb.mono hba.size)
  have hnb2 := (hbb.block T (Array.getElem?_eq_some_iff.1 hnb).1).trans hnb
  have x0 : w2.cell? ⟨T, 0, none⟩ = some (.int .i64 kd) := cell_blk hnb2 rfl
  have x1 : w2.cell? ⟨T, 1, none⟩ = some (.string (strOf nm)) := cell_blk hnb2 rfl
  have x2 : w2.cell? ⟨T, 2, none⟩ = some (.string (strOf tx)) := cell_blk hnb2 rfl
  have x3 : w2.cell? ⟨T, 3, none⟩ = some (.slice A as_.length ca) := cell_blk hnb2 rfl
  have x4 : w2.cell? ⟨T, 4, none⟩ = some (.slice A2 ks.length c2) := cell_blk hnb2 rfl
  have y0 : w2.cell? ⟨U, 0, none⟩ = some (.int .i64 kd') := cell_blk hnc rfl
  have y1 : w2.cell? ⟨U, 1, none⟩ = some (.string (strOf nm')) := cell_blk hnc rfl
  have y2 : w2.cell? ⟨U, 2, none⟩ = some (.string (strOf tx')) := cell_blk hnc rfl
  have y3 : w2.cell? ⟨U, 3, none⟩ = some (.slice B as'.length cb) := cell_blk hnc rfl
  have y4 : w2.cell? ⟨U, 4, none⟩ = some (.slice B2 ks'.length d2) := cell_blk hnc rfl
  have hkid : Hid (∀ i x, ks[i]? = some x → SizeOf.sizeOf x ≤ k) := Lib.hid fun i x hx => by
   have := kid_lt (k := kd) (nm := nm) (tx := tx) (as_ := as_) hx
   omega
  have hATT := Lib.hid (rattrs_any w2 A B as_.length as'.length ca cb as_ as' (hA.below AtEl.to hb02) (hA'.below AtEl.to hb02))
  replace ih := Lib.hid ih
  replace hK := Lib.hid hK
  replace hK' := Lib.hid hK'
  replace hX := Lib.hid hX
  replace hY := Lib.hid hY
  replace hb02 := Lib.hid hb02
  have hTl := Lib.hid hnb2
  have hUl := Lib.hid hnc
  clear hba hbb hnb hnc hnb2 hA hA' hn hm hk
  obtain ⟨S1, hS1⟩ : ∃ S, strOf nm = S := ⟨_, rfl⟩
  obtain ⟨S2, hS2⟩ : ∃ S, strOf nm' = S := ⟨_, rfl⟩
  obtain ⟨S3, hS3⟩ : ∃ S, strOf tx = S := ⟨_, rfl⟩
  obtain ⟨S4, hS4⟩ : ∃ S, strOf tx' = S := ⟨_, rfl⟩
  rw [hS1] at x1
  rw [hS2] at y1
  rw [hS3] at x2
  rw [hS4] at y2
  have t1 : (S1.toList == S2.toList) = decide (nm = nm') := by
   rw [str_beq, ← hS1, ← hS2, decide_eq_decide]
   exact ⟨strOf_inj, fun e => by rw [e]⟩
  have t2 : (S3.toList == S4.toList) = decide (tx = tx') := by
   rw [str_beq, ← hS3, ← hS4, decide_eq_decide]
   exact ⟨strOf_inj, fun e => by rw [e]⟩
  clear hS1 hS2 hS3 hS4
  obtain ⟨n1, hn1⟩ : ∃ n1, ks.length = n1 := ⟨_, rfl⟩
  obtain ⟨n2, hn2⟩ : ∃ n2, ks'.length = n2 := ⟨_, rfl⟩
  rw [hn1] at x4 hK
  rw [hn2] at y4 hK'
  have hK1 := hK.out.max
  have hK2 := hK.out.le
  replace hn1 := Lib.hid hn1
  replace hn2 := Lib.hid hn2
  by_cases e0 : kd = kd'
  ·subst e0
   have k0 : (kd != kd) = false := by simp
   by_cases e1 : nm = nm'
   ·subst e1
    have k1 : (S1.toList == S2.toList) = true := by rw [t1]; simp
    by_cases e2 : tx = tx'
    ·subst e2
     have k2 : (S3.toList == S4.toList) = true := by rw [t2]; simp
     clear t1 t2
     go_enter Tryz.func37, Tryz.ntmps37
     go_wp2_with fail
     refine hATT.out.mono ?_
     rintro e w3 ⟨⟨BA, rfl, hBA⟩, hb3⟩
     by_cases e3 : as_ = as'
     ·subst e3
      have hBt : BA = true := hBA.2 rfl
      subst hBt
      have x4 := cell_keep x4 hb3
      have y4 := cell_keep y4 hb3
      have hTl3 := Lib.hid ((hb3.block T (Array.getElem?_eq_some_iff.1 hTl.out).1).trans hTl.out)
      have hUl3 := Lib.hid ((hb3.block U (Array.getElem?_eq_some_iff.1 hUl.out).1).trans hUl.out)
      have hb03 := Lib.hid (hb02.out.trans (hb3.mono hb02.out.size))
      clear hb3 hBA
      by_cases e4 : n1 = n2
      ·subst e4
       have k4 : ((n1 : Int) != (n1 : Int)) = false := by simp
       go_wp2_with fail
       go_loopw [5] (fun v5 wr => ∃ i : Nat, i ≤ n1 ∧ v5 = .int .i64 (i : Nat) ∧ Hid (ks.take i = ks'.take i) ∧ Hid (Below w3.heap.size w3 wr)) (fun v5 _ => n1 - (intOf v5).toNat)
       case atStart => exact ⟨0, Nat.zero_le _, rfl, Lib.hid rfl, Lib.hid (Below.refl _ _)⟩
       case round =>
        obtain ⟨i, hi, rfl, hsame, hb⟩ := hrel
        have hb0r := Lib.hid (hb03.out.trans (hb.out.mono hb03.out.size))
        have z4 := cell_keep x4 hb.out
        have z5 := cell_keep y4 hb.out
        by_cases hlt : i < n1
        ·have i1 : decide ((i : Int) < (n1 : Int)) = true := by simp; omega
         have q1 : (i : Int) < (n1 : Int) := by omega
         have hKr := Sq.kept_ hK.out hb0r.out (fun vs x h => NdI.later h hX.out hb0r.out)
         have hKr' := Sq.kept_ hK'.out hb0r.out (fun vs x h => NdI.later h hY.out hb0r.out)
         obtain ⟨b1, off1, x, vs1, rfl, _, hx1, _, hv1, hc1⟩ := hKr.at_ hlt
         obtain ⟨b2, off2, y, vs2, rfl, _, hx2, _, hv2, hc2⟩ := hKr'.at_ hlt
         have hszx := hkid.out i x hx1
         obtain ⟨xk, xn, xt, xa, xs⟩ := x
         obtain ⟨yk, yn, yt, ya, ys⟩ := y
         obtain ⟨Ax, cax, A2x, c2x, rfl, -⟩ := hv1.cells
         obtain ⟨Bx, cbx, B2x, d2x, rfl, -⟩ := hv2.cells
         have m0 := hc1 0 _ rfl
         have m1 := hc1 1 _ rfl
         have m2 := hc1 2 _ rfl
         have m3 := hc1 3 _ rfl
         have m4 := hc1 4 _ rfl
         have p0 := hc2 0 _ rfl
         have p1 := hc2 1 _ rfl
         have p2 := hc2 2 _ rfl
         have p3 := hc2 3 _ rfl
         have p4 := hc2 4 _ rfl
         rw [Nat.add_zero] at m0 p0
         have hdr := Joins.below_draws wr.heap.size wr 1
         have hX1 : ∀ j, X j → j < wr.heap.size := fun j hj => Nat.lt_of_lt_of_le (hX.out j hj) hb0r.out.size
         have hY1 : ∀ j, Y j → j < wr.heap.size := fun j hj => Nat.lt_of_lt_of_le (hY.out j hj) hb0r.out.size
         have hrec := Lib.hid (ih.out X Y wr.drew _ _ _ _ hszx (NdI.later hv1 hX1 hdr) (NdI.later hv2 hY1 hdr) (fun j hj => Nat.lt_of_lt_of_le (hX1 j hj) hdr.size) (fun j hj => Nat.lt_of_lt_of_le (hY1 j hj) hdr.size))
         have hbd := Lib.hid (hb.out.trans (hdr.mono hb.out.size))
         replace hx1 := Lib.hid hx1
         replace hx2 := Lib.hid hx2
         clear hKr hKr' hv1 hv2 hc1 hc2 hdr hX1 hY1 hszx
         go_wp2_with fail
         refine Pl.wp_region_plan 10 (.take 0 (.take 1 (.take 2 (.take 3 (.take 4 (.take 5 (.take 6 (.take 7 (.take 8 (.take 9 .done)))))))))) (fun x => x.cell? ⟨T, 4, none⟩ = some (.slice (some ⟨b1, off1, none⟩) n1 c2) ∧ x.cell? ⟨U, 4, none⟩ = some (.slice (some ⟨b2, off2, none⟩) n1 d2) ∧ x.cell? ⟨b1, off1 + i * 5, none⟩ = some (.int .i64 xk) ∧ x.cell? ⟨b1, off1 + i * 5 + 1, none⟩ = some (.string (strOf xn)) ∧ x.cell? ⟨b1, off1 + i * 5 + 2, none⟩ = some (.string (strOf xt)) ∧ x.cell? ⟨b1, off1 + i * 5 + 3, none⟩ = some (.slice Ax xa.length cax) ∧ x.cell? ⟨b1, off1 + i * 5 + 4, none⟩ = some (.slice A2x xs.length c2x) ∧ x.cell? ⟨b2, off2 + i * 5, none⟩ = some (.int .i64 yk) ∧ x.cell? ⟨b2, off2 + i * 5 + 1, none⟩ = some (.string (strOf yn)) ∧ x.cell? ⟨b2, off2 + i * 5 + 2, none⟩ = some (.string (strOf yt)) ∧ x.cell? ⟨b2, off2 + i * 5 + 3, none⟩ = some (.slice Bx ya.length cbx) ∧ x.cell? ⟨b2, off2 + i * 5 + 4, none⟩ = some (.slice B2x ys.length d2x)) (by kernel_rfl) (by kernel_rfl) (by exact ⟨z4, z5, m0, m1, m2, m3, m4, p0, p1, p2, p3, p4⟩) ?_
         simp only [Pl.fill, List.getElem?_cons_zero, List.getElem?_cons_succ, List.drop_succ_cons, List.drop_zero]
         iterate 10
          refine Pl.take_go ?_ (by rfl) (fun _ _ _ h => h) ?_ ?_
          rotate_left
          ·(intro x hSw; (try dsimp only at hSw); go_simp; try with_reducible rfl)
          try simp only [Act.put, List.setIfInBounds_toArray, List.set_cons_zero, List.set_cons_succ]
         refine Pl.done_go ?_
         go_wp2_with fail
         refine hrec.out.mono ?_
         rintro e w5 ⟨⟨BB, rfl, hBB⟩, hb5⟩
         have hw5 := Lib.hid (hbd.out.trans (hb5.mono hbd.out.size))
         have hw05 := Lib.hid (hb03.out.trans (hw5.out.mono hb03.out.size))
         clear hb5 m0 m1 m2 m3 m4 p0 p1 p2 p3 p4
         cases BB with
         | true =>
          have hxy := hBB.1 rfl
          have hnext : Hid (ks.take (i + 1) = ks'.take (i + 1)) := Lib.hid (by rw [take_snoc hx1.out, take_snoc hx2.out, hsame.out, hxy])
          clear hBB hxy
          go_wp2_with fail
          go_roundw
          case rel => exact ⟨i + 1, by omega, by go_num, hnext, hw5⟩
          case measure => simp [intOf]; omega
         | false =>
          have hno : Hid (Nd.mk kd nm tx as_ ks ≠ Nd.mk kd nm tx as_ ks') := Lib.hid fun e => by
           injection e with _ _ _ _ e
           rw [e] at hx1
           have h3 := hx1.out.symm.trans hx2.out
           injection h3 with h3
           exact absurd (hBB.2 h3) (by decide)
          clear hBB
          go_wp2_with fail
          (try simp only [Exit.inBlock, Exit.then])
          go_ret
          exact ⟨⟨false, rfl, by simpa using hno.out⟩, hw05.out⟩
        ·have i1 : decide ((i : Int) < (n1 : Int)) = false := by simp; omega
         have hyes : Hid (ks = ks') := Lib.hid (by
          have h3 := hsame.out
          rwa [List.take_of_length_le (by rw [hn1.out]; omega), List.take_of_length_le (by rw [hn2.out]; omega)] at h3)
         go_wp2_with fail
         (try simp only [Exit.inBlock, Exit.then])
         go_ret
         exact ⟨⟨true, rfl, by simpa using hyes.out⟩, hb0r.out⟩
      ·have k4 : ((n1 : Int) != (n2 : Int)) = true := bne_iff_ne.2 (fun e => e4 (by omega))
       have hno : Hid (Nd.mk kd nm tx as_ ks ≠ Nd.mk kd nm tx as_ ks') := Lib.hid fun e => by
        injection e with _ _ _ _ e
        exact e4 (by rw [← hn1.out, ← hn2.out, e])
       go_wp2_with fail
       go_ret
       exact ⟨⟨false, rfl, by simpa using hno.out⟩, hb03.out⟩
     ·have hBf : BA = false := by
       cases BA with
       | false => rfl
       | true => exact absurd (hBA.1 rfl) e3
      subst hBf
      have hno : Hid (Nd.mk kd nm tx as_ ks ≠ Nd.mk kd nm tx as' ks') := Lib.hid fun e => by
       injection e with _ _ _ e _
       exact e3 e
      have hb03 := Lib.hid (hb02.out.trans (hb3.mono hb02.out.size))
      clear hb3 hBA
      go_wp2_with fail
      go_ret
      exact ⟨⟨false, rfl, by simpa using hno.out⟩, hb03.out⟩
    ·have k2 : (S3.toList == S4.toList) = false := by rw [t2]; simpa using e2
     have hno : Hid (Nd.mk kd nm tx as_ ks ≠ Nd.mk kd nm tx' as' ks') := Lib.hid fun e => by
      injection e with _ _ e _ _
      exact e2 e
     clear t1 t2
     go_enter Tryz.func37, Tryz.ntmps37
     go_wp2_with fail
     go_ret
     exact ⟨⟨false, rfl, by simpa using hno.out⟩, hb02.out⟩
   ·have k1 : (S1.toList == S2.toList) = false := by rw [t1]; simpa using e1
    have hno : Hid (Nd.mk kd nm tx as_ ks ≠ Nd.mk kd nm' tx' as' ks') := Lib.hid fun e => by
     injection e with _ e _ _ _
     exact e1 e
    clear t1 t2
    go_enter Tryz.func37, Tryz.ntmps37
    go_wp2_with fail
    go_ret
    exact ⟨⟨false, rfl, by simpa using hno.out⟩, hb02.out⟩
  ·have k0 : (kd != kd') = true := by simpa using e0
   have hno : Hid (Nd.mk kd nm tx as_ ks ≠ Nd.mk kd' nm' tx' as' ks') := Lib.hid fun e => by
    injection e with e _ _ _ _
    exact e0 e
   clear t1 t2
   go_enter Tryz.func37, Tryz.ntmps37
   go_wp2_with fail
   go_ret
   exact ⟨⟨false, rfl, by simpa using hno.out⟩, hb02.out⟩
end Go.Proofs.YtokdnhdfmgfkeaaGreatDoor.Xt
end

section
namespace Go.Proofs.YtokdnhdfmgfkeaaGreatDoor.Xt
open Go.RowKit UtfW Xl Xo

section
variable {X Y : Nat → Prop} (w : World)
end
structure DocS (X : Nat → Prop) (w : World) (A1 : Option Addr) (c1 : Nat) (kd : Int) (nm tx : Tx) (as_ : List At) (ks : List Nd) (Ar : Option Addr) (cr : Nat) (Ak : Option Addr) (ck : Nat) (A2 : Option Addr) (c2 : Nat) (bf af : List Nd) : Prop where
 bef : Sq (NdE X) 5 w A1 bf.length c1 bf
 befX : ∀ a, A1 = some a → 0 < bf.length → X a.block
 root : NdI X w [.int .i64 kd, .string (strOf nm), .string (strOf tx), .slice Ar as_.length cr, .slice Ak ks.length ck] (.mk kd nm tx as_ ks)
 aft : Sq (NdE X) 5 w A2 af.length c2 af
 aftX : ∀ a, A2 = some a → 0 < af.length → X a.block
theorem DocI.parts {X : Nat → Prop} {w : World} {v : Value} {d : Doc} (h : DocI X w v d) : ∃ A1 c1 kd nm tx as_ ks Ar cr Ak ck A2 c2, v = .agg #[.slice A1 d.before.length c1, .int .i64 kd, .string (strOf nm), .string (strOf tx), .slice Ar as_.length cr, .slice Ak ks.length ck, .slice A2 d.after.length c2] ∧ d.root = .mk kd nm tx as_ ks ∧
  DocS X w A1 c1 kd nm tx as_ ks Ar cr Ak ck A2 c2 d.before d.after := by
 obtain ⟨A1, c1, r0, r1, r2, r3, r4, A2, c2, rfl, h1, h1x, h2, h3, h3x⟩ := h
 obtain ⟨bf, rt, af⟩ := d
 obtain ⟨kd, nm, tx, as_, ks⟩ := rt
 obtain ⟨Ar, cr, Ak, ck, e, g1, g2, _⟩ := h2.cells
 injection e with e0 e
 injection e with e1 e
 injection e with e2 e
 injection e with e3 e
 injection e with e4 e
 subst e0; subst e1; subst e2; subst e3; subst e4
 exact ⟨A1, c1, kd, nm, tx, as_, ks, Ar, cr, Ak, ck, A2, c2, rfl, rfl, h1, h1x, h2, h3, h3x⟩
end Go.Proofs.YtokdnhdfmgfkeaaGreatDoor.Xt
end

section
namespace Go.Proofs.YtokdnhdfmgfkeaaGreatDoor.Xp
open Go.RowKit UtfW Xl Xo Xt Er

theorem par_both {w0 w w' : World} {S : Tx} {e : Ending} {cd : Int} {p : Nat} {d : Doc} (hE : En w0.heap.size w0) (hb0 : Below w0.heap.size w0 w) (h : ParP S w e w') (hr : parseF S = (cd, p, d)) :
  Below w.heap.size w w' ∧ ∃ vd ev, e = .returned (.tuple #[vd, ev]) ∧ DocI (fun k => k < w'.heap.size) w' vd d ∧
   (∀ y, Below w'.heap.size w' y → Calls Tryz.prog 22 #[ev] y fun e z => e = .returned (.int .i64 cd) ∧ Below y.heap.size y z) := by
 by_cases hc : cd = 0
 ·subst hc
  obtain ⟨hb, vd, rfl, hd⟩ := h.ok hr
  obtain ⟨A1, c1, r0, r1, r2, r3, r4, A2, c2, rfl, h1, h2, h3, h4, h5⟩ := hd
  refine ⟨hb, _, _, rfl, ⟨A1, c1, r0, r1, r2, r3, r4, A2, c2, rfl, ?_, fun a e hn => (h2 a e hn).2, NdI.stay h3 fun k hk => ⟨hk.2, rfl⟩, ?_, fun a e hn => (h5 a e hn).2⟩, fun y _ => Code_ok y⟩
  ·exact Sq.stay2 h1 (fun a e hn => rfl) fun vs x hx => NdI.stay hx fun k hk => ⟨hk.2, rfl⟩
  ·exact Sq.stay2 h4 (fun a e hn => rfl) fun vs x hx => NdI.stay hx fun k hk => ⟨hk.2, rfl⟩
 ·obtain ⟨hb, rfl, v, rfl, hf⟩ := h.no hr hc
  refine ⟨hb, _, _, rfl, DocI.zero _ _, fun y hy => ?_⟩
  exact Code_any cd p _ _ w0.heap.size y (hE.on (hb0.trans ((hb.trans (hy.mono hb.size)).mono hb0.size))) (Fe.later hf hy)
end Go.Proofs.YtokdnhdfmgfkeaaGreatDoor.Xp
end

section
namespace Go.Proofs.YtokdnhdfmgfkeaaGreatDoor.Xp
open Go.RowKit UtfW Xl Xo Xt

theorem find_none_iff {p : Tx} (hp : p ≠ []) : ∀ {s : Tx}, find p s = none ↔ ∀ i, p.isPrefixOf (s.drop i) = false
 | [] => by
  rw [find, if_neg hp]
  refine ⟨fun _ i => ?_, fun _ => rfl⟩
  rw [List.drop_nil]
  cases p with
  | nil => exact absurd rfl hp
  | cons a b => rfl
 | b :: r => by
  rw [find]
  constructor
  ·intro h i
   by_cases hh : p.isPrefixOf (b :: r) = true
   ·rw [if_pos hh] at h; cases h
   ·rw [if_neg hh, Option.map_eq_none_iff] at h
    cases i with
    | zero => rw [List.drop_zero]; exact Bool.eq_false_iff.2 hh
    | succ i => exact (find_none_iff hp).1 h i
  ·intro h
   have h0 := h 0
   rw [List.drop_zero] at h0
   rw [if_neg (by rw [h0]; decide), Option.map_eq_none_iff]
   exact (find_none_iff hp).2 fun i => h (i + 1)
theorem find_one {s : Tx} {c : UInt8} : (find [c] s).isSome = decide (c ∈ s) := by
 rw [Bool.eq_iff_iff, decide_eq_true_eq]
 constructor
 ·intro h
  by_cases hc : c ∈ s
  ·exact hc
  exfalso
  have : find [c] s = none := (find_none_iff (by simp)).2 fun i => by
   cases hd : s.drop i with
   | nil => rfl
   | cons x y =>
    have hx : x ∈ s := List.mem_of_mem_drop (i := i) (by rw [hd]; simp)
    have : c ≠ x := fun e => hc (e ▸ hx)
    simp [List.isPrefixOf, this]
  rw [this] at h
  cases h
 ·intro hc
  cases hf : find [c] s with
  | some k => rfl
  | none =>
   exfalso
   obtain ⟨i, hi⟩ := List.mem_iff_getElem?.1 hc
   have := (find_none_iff (by simp)).1 hf i
   obtain ⟨hl, e⟩ := List.getElem?_eq_some_iff.1 hi
   rw [List.drop_eq_getElem_cons hl, e] at this
   simp [List.isPrefixOf] at this
theorem str_eq_iff (a b : Tx) : ((strOf a).toList == (strOf b).toList) = decide (a = b) := by
 rw [Lib.toList_data, Lib.toList_data, strOf_data', strOf_data', Bool.eq_iff_iff, beq_iff_eq, decide_eq_true_eq]
theorem pre_slice {p s : Tx} {i : Nat} (h : i + p.length ≤ s.length) : p.isPrefixOf (s.drop i) = decide ((s.drop i).take p.length = p) := by
 rw [Bool.eq_iff_iff, List.isPrefixOf_iff_prefix, decide_eq_true_eq, List.prefix_iff_eq_take]
 exact ⟨fun h => h.symm, fun h => h.symm⟩
theorem pre_long {p s : Tx} {i : Nat} (hp : p ≠ []) (h : s.length < i + p.length) : p.isPrefixOf (s.drop i) = false := by
 rw [Bool.eq_false_iff]
 intro hc
 have := (List.isPrefixOf_iff_prefix.1 hc).length_le
 rw [List.length_drop] at this
 have : 0 < p.length := List.length_pos_iff.2 hp
 omega
theorem extract_str (s : Tx) (i j : Nat) : (strOf s).extract i j = strOf ((s.drop i).take (j - i)) := by
 apply ByteArray.ext
 simp [strOf, ByteArray.data_extract, List.extract_toArray]
set_option maxHeartbeats 2000000 in
set_option maxRecDepth 100000 in
theorem rhas_any (s p : Tx) (hs : s.length ≤ 1000000) (hp : p.length ≤ 1000000) (hp0 : p ≠ []) (w : World) :
  Calls Tryz.prog 53 #[.string (strOf s), .string (strOf p)] w fun e w' => e = .returned (.bool (find p s).isSome) ∧ Below w.heap.size w w' := by
 have hsz : (strOf s).size = s.length := strOf_size' s
 have hpz : (strOf p).size = p.length := strOf_size' p
 obtain ⟨R, hR⟩ : ∃ R, (find p s).isSome = R := ⟨_, rfl⟩
 rw [hR]
 have hR' := Lib.hid hR
 have hp0' := Lib.hid hp0
 clear hR hp0
 obtain ⟨n, hn⟩ : ∃ n, s.length = n := ⟨_, rfl⟩
 obtain ⟨m, hm⟩ : ∃ m, p.length = m := ⟨_, rfl⟩
 rw [hn] at hsz hs
 rw [hm] at hpz hp
 have hn' := Lib.hid hn
 have hm' := Lib.hid hm
 clear hn hm
 go_enter Tryz.func53, Tryz.ntmps53
 go_wp2_with fail
 go_loopw [5] (fun v5 wr => ∃ i : Nat, i ≤ n + 1 ∧ v5 = .int .i64 (i : Nat) ∧ Hid (∀ k, k < i → p.isPrefixOf (s.drop k) = false) ∧ Hid (Below w.heap.size w wr)) (fun v5 _ => n + 1 - (intOf v5).toNat)
 case atStart => exact ⟨0, by omega, rfl, Lib.hid (fun m hm => absurd hm (by omega)), Lib.hid (Below.refl _ _)⟩
 case round =>
  obtain ⟨i, hi, rfl, hok, hb⟩ := hrel
  by_cases hlt : i + m ≤ n
  ·have i1 : decide ((i : Int) + (m : Int) ≤ (n : Int)) = true := by rw [decide_eq_true_eq]; omega
   have q1 : (i : Int) + (m : Int) ≤ (n : Int) := by omega
   have hex : (strOf s).extract i (i + m) = strOf ((s.drop i).take m) := by rw [extract_str, Nat.add_sub_cancel_left]
   have heq := str_eq_iff ((s.drop i).take m) p
   have hpre : Hid (p.isPrefixOf (s.drop i) = decide ((s.drop i).take m = p)) := Lib.hid (by rw [← hm'.out]; exact pre_slice (by rw [hm'.out, hn'.out]; exact hlt))
   by_cases hq : (s.drop i).take m = p
   ·rw [decide_eq_true hq] at heq
    have hRt : Hid (R = true) := Lib.hid (by
     rw [← hR'.out]
     cases hf : find p s with
     | some k => rfl
     | none =>
      have := (find_none_iff hp0'.out).1 hf i
      rw [hpre.out, decide_eq_true hq] at this
      cases this)
    clear hq hpre
    go_wp2_with fail
    (try simp only [Exit.inBlock, Exit.then])
    go_ret
    exact ⟨by rw [hRt.out]; rfl, hb.out⟩
   ·rw [decide_eq_false hq] at heq
    have hnext : Hid (∀ k, k < i + 1 → p.isPrefixOf (s.drop k) = false) := Lib.hid fun k hk => by
     by_cases hki : k = i
     ·rw [hki, hpre.out, decide_eq_false hq]
     ·exact hok.out k (by omega)
    clear hq hpre
    go_wp2_with fail
    go_roundw
    case rel => exact ⟨i + 1, by omega, by go_num, hnext, hb⟩
    case measure => simp [intOf]; omega
  ·have i1 : decide ((i : Int) + (m : Int) ≤ (n : Int)) = false := by rw [decide_eq_false_iff_not]; omega
   have q1 : ¬ (i : Int) + (m : Int) ≤ (n : Int) := by omega
   have hRf : Hid (R = false) := Lib.hid (by
    rw [← hR'.out, (find_none_iff hp0'.out).2 fun k => ?_]
    ·rfl
    ·by_cases hk : k < i
     ·exact hok.out k hk
     ·exact pre_long hp0'.out (by rw [hn'.out, hm'.out]; omega))
   go_wp2_with fail
   (try simp only [Exit.inBlock, Exit.then])
   go_ret
   exact ⟨by rw [hRf.out]; rfl, hb.out⟩
def Lw (w wr : World) (T : Nat) (L : Tx) : Prop := Below w.heap.size w wr ∧ w.heap.size ≤ T ∧ T < wr.heap.size ∧ ∀ (j : Nat) x, L[j]? = some x → wr.cell? ⟨T, j, none⟩ = some (.int .u8 (x.toNat : Int)) ∧ wr.frozen? ⟨T, j, none⟩ = false
theorem lw_new (w : World) (s : Tx) (hs : s.length ≤ 1000000) : Lw w (Lib.bytesWorld w 5 (strOf s)) w.heap.size s := by
 have hsz : (strOf s).size = s.length := strOf_size' s
 have hd : (strOf s).data.toList = s := strOf_data' s
 refine ⟨(bs_convert w (strOf s) (by omega)).2, Nat.le_refl _, by rw [Lib.bytesWorld_size]; omega, fun j x hx => ?_⟩
 have hj : j < (strOf s).size := by rw [hsz]; exact (List.getElem?_eq_some_iff.1 hx).1
 constructor
 ·rw [Lib.bytesWorld_cell w 5 (strOf s) j hj, hd, List.getD_eq_getElem?_getD, hx]
  rfl
 ·have hc : (Lib.bytesCells w 5 (strOf s)).size ≥ (strOf s).size := by
   have h1 := Lib.bytesWorld_cell w 5 (strOf s) ((strOf s).size - 1) (by omega)
   simp only [World.cell?, Lib.bytesWorld_at_new] at h1
   have h2 := (Array.getElem?_eq_some_iff.1 h1).1
   omega
  simp only [World.frozen?, Lib.bytesWorld_at_new]
  simp
  omega
theorem Lw.set {w wr : World} {T : Nat} {L : Tx} (h : Lw w wr T L) {i : Nat} (x : UInt8) (hi : i < L.length) : Lw w (wr.setCell ⟨T, i, none⟩ (.int .u8 (x.toNat : Int))) T (L.set i x) := by
 obtain ⟨h1, h2, h3, h4⟩ := h
 refine ⟨h1.setCell h2 _, h2, by simpa using h3, fun j y hy => ?_⟩
 by_cases hij : i = j
 ·subst hij
  rw [List.getElem?_set_self hi] at hy
  injection hy with hy
  subst hy
  obtain ⟨c1, c2⟩ := h4 i _ (List.getElem?_eq_getElem hi)
  exact ⟨World.cell?_setCell_same' _ _ _ (by rw [c1]; rfl), by simpa using c2⟩
 ·rw [List.getElem?_set_ne hij] at hy
  obtain ⟨c1, c2⟩ := h4 j _ hy
  exact ⟨by rw [World.cell?_setCell_other _ _ _ _ (by intro e; injection e with _ e; exact hij e)]; exact c1, by simpa using c2⟩
theorem Lw.bs {w wr : World} {T : Nat} {L : Tx} (h : Lw w wr T L) {c : Nat} (hc : L.length ≤ c) (hm : c ≤ 9223372036854775807) : Bs wr (some ⟨T, 0, none⟩) L.length c L :=
 { len := by rw [bv_length], le := hc, max := hm, nil := (fun h => by cases h), cell := fun _ => ⟨T, 0, rfl, h.2.2.1, fun j u hu => by
   obtain ⟨x, hx, rfl⟩ := bv_get hu
   rw [Nat.zero_add]
   exact (h.2.2.2 j x hx).1⟩ }
theorem _root_.List.set_getElem?_self' {α : Type} {l : List α} {i : Nat} {x : α} (h : l[i]? = some x) : l.set i x = l := by
 obtain ⟨hl, rfl⟩ := List.getElem?_eq_some_iff.1 h
 exact List.set_getElem_self hl
theorem low_add {x : UInt8} (h1 : 65 ≤ x.toNat) (h2 : x.toNat ≤ 90) : low x = x + 32 ∧ (low x).toNat = x.toNat + 32 := by
 have : low x = x + 32 := by
  unfold low
  rw [if_pos ⟨h1, h2⟩]
 rw [this]
 refine ⟨rfl, ?_⟩
 rw [UInt8.toNat_add]
 simp
 omega
theorem low_out {x : UInt8} (h : ¬ (65 ≤ x.toNat ∧ x.toNat ≤ 90)) : low x = x := by
 unfold low
 rw [if_neg h]
theorem low_step {s : Tx} {i : Nat} {x : UInt8} (hx : s[i]? = some x) : ((s.take i).map low ++ s.drop i).set i (low x) = (s.take (i + 1)).map low ++ s.drop (i + 1) := by
 obtain ⟨hl, rfl⟩ := List.getElem?_eq_some_iff.1 hx
 have hlen : ((s.take i).map low).length = i := by simp; omega
 rw [List.set_append_right _ _ (by omega), hlen, Nat.sub_self, List.drop_eq_getElem_cons hl, List.set_cons_zero, take_snoc hx, List.map_append]
 simp
set_option maxHeartbeats 2000000 in
set_option maxRecDepth 100000 in
theorem rlower_any (s : Tx) (hs : s.length ≤ 1000000) (w : World) :
  Calls Tryz.prog 55 #[.string (strOf s)] w fun e w' => e = .returned (.string (strOf (s.map low))) ∧ Below w.heap.size w w' := by
 have hsz : (strOf s).size = s.length := strOf_size' s
 have hcv := Lib.run_convert_string_bytes (P := Tryz.prog) w 9 41 5 (strOf s) Tryz.underlying9 Tryz.underlying41 Tryz.underlying5
 have hl0 := Lib.hid (lw_new w s hs)
 have hg1 := grownCap_ge w (strOf s).size 0 5
 have hg2 := grownCap_le_maxLen w (strOf s).size 0 5 (by unfold maxLen; omega)
 obtain ⟨c, hc⟩ : ∃ c, grownCap w (strOf s).size 0 5 = c := ⟨_, rfl⟩
 rw [hc] at hcv hg1 hg2
 obtain ⟨n, hn⟩ : ∃ n, s.length = n := ⟨_, rfl⟩
 rw [hn] at hs hsz
 rw [hsz] at hcv hg1
 have hn' := Lib.hid hn
 have hg2' : c ≤ 9223372036854775807 := by unfold maxLen at hg2; omega
 obtain ⟨T, hT⟩ : ∃ T, w.heap.size = T := ⟨_, rfl⟩
 obtain ⟨w1, hw1⟩ : ∃ w1, Lib.bytesWorld w 5 (strOf s) = w1 := ⟨_, rfl⟩
 rw [hw1] at hcv hl0
 rw [hT] at hcv hl0
 clear hc hn hg2 hsz
 go_enter Tryz.func55, Tryz.ntmps55
 go_wp2_with fail
 clear hcv hw1
 go_loopw [4] (fun v4 wr => ∃ i : Nat, i ≤ n ∧ v4 = .int .i64 (i : Nat) ∧ Hid (Lw w wr T ((s.take i).map low ++ s.drop i))) (fun v4 _ => n - (intOf v4).toNat)
 case atStart => exact ⟨0, by omega, rfl, Lib.hid (by simpa using hl0.out)⟩
 case round =>
  obtain ⟨i, hi, rfl, hlw⟩ := hrel
  by_cases hlt : i < n
  ·have i1 : decide ((i : Int) < (n : Int)) = true := by simp; omega
   have q1 : (i : Int) < (n : Int) := by omega
   obtain ⟨x, hx⟩ : ∃ x, s[i]? = some x := ⟨_, List.getElem?_eq_getElem (by rw [hn'.out]; exact hlt)⟩
   have hLi : ((s.take i).map low ++ s.drop i)[i]? = some x := by
    rw [List.getElem?_append_right (by simp; omega)]
    simp only [List.length_map, List.length_take, List.getElem?_drop]
    rw [show i + (i - min i s.length) = i from by rw [hn'.out]; omega]
    exact hx
   obtain ⟨hc1, hf1⟩ := hlw.out.2.2.2 i x hLi
   have hx9 := x.toNat_lt
   have hnext : Hid (Lw w (wr.setCell ⟨T, i, none⟩ (.int .u8 ((low x).toNat : Int))) T ((s.take (i + 1)).map low ++ s.drop (i + 1))) := Lib.hid (by
    rw [← low_step hx]
    exact hlw.out.set (low x) (List.getElem?_eq_some_iff.1 hLi).1)
   by_cases h1 : 65 ≤ x.toNat
   ·by_cases h2 : x.toNat ≤ 90
    ·have j1 : decide ((65 : Int) ≤ (x.toNat : Int)) = true := by simp; omega
     have j2 : decide ((x.toNat : Int) ≤ 90) = true := by simp; omega
     have e2 := (low_add h1 h2).2
     rw [e2] at hnext
     have e3 : ((x.toNat + 32 : Nat) : Int) = (x.toNat : Int) + 32 := by omega
     rw [e3] at hnext
     clear hLi hx e2 e3
     go_wp2_with fail
     go_roundw
     case rel => exact ⟨i + 1, by omega, by go_num, hnext⟩
     case measure => simp [intOf]; omega
    ·have j1 : decide ((65 : Int) ≤ (x.toNat : Int)) = true := by simp; omega
     have j2 : decide ((x.toNat : Int) ≤ 90) = false := by simp; omega
     have hnext2 : Hid (Lw w wr T ((s.take (i + 1)).map low ++ s.drop (i + 1))) := Lib.hid (by
      rw [← low_step hx, low_out (by omega), List.set_getElem?_self' hLi]
      exact hlw.out)
     clear hLi hx hnext
     go_wp2_with fail
     go_roundw
     case rel => exact ⟨i + 1, by omega, by go_num, hnext2⟩
     case measure => simp [intOf]; omega
   ·have j1 : decide ((65 : Int) ≤ (x.toNat : Int)) = false := by simp; omega
    have hnext2 : Hid (Lw w wr T ((s.take (i + 1)).map low ++ s.drop (i + 1))) := Lib.hid (by
     rw [← low_step hx, low_out (by omega), List.set_getElem?_self' hLi]
     exact hlw.out)
    clear hLi hx hnext
    go_wp2_with fail
    go_roundw
    case rel => exact ⟨i + 1, by omega, by go_num, hnext2⟩
    case measure => simp [intOf]; omega
  ·have hie : i = n := by omega
   subst hie
   have i1 : decide ((i : Int) < (i : Int)) = false := by simp
   have hlw2 : Lw w wr T (s.map low) := by
    have := hlw.out
    rwa [List.drop_eq_nil_of_le (by rw [hn'.out]; exact Nat.le_refl _), List.append_nil, List.take_of_length_le (by rw [hn'.out]; exact Nat.le_refl _)] at this
   have hbs := hlw2.bs (c := c) (by rw [List.length_map, hn'.out]; exact hg1) hg2'
   rw [List.length_map, hn'.out] at hbs
   have hcb := hbs.conv (P := Tryz.prog) (src := 41) (dst := 9) Tryz.underlying41 Tryz.underlying5 Tryz.underlying9
   have hfin := Lib.hid hlw2.1
   clear hlw2 hbs hlw
   go_wp2_with fail
   (try simp only [Exit.inBlock, Exit.then])
   go_ret
   exact ⟨rfl, hfin.out⟩
end Go.Proofs.YtokdnhdfmgfkeaaGreatDoor.Xp
end

section
namespace Go.Proofs.YtokdnhdfmgfkeaaGreatDoor.Xp
open Go.RowKit UtfW Xl Xo Xt

theorem fair_good {kd : Int} {nm tx : Tx} {as_ : List At} {ks : List Nd} (h : fairN (.mk kd nm tx as_ ks) = true) : good tx = true := by
 rw [fairN] at h
 split at h
 ·simp only [Bool.and_eq_true, decide_eq_true_eq] at h
  rw [h.1.1.2]
  exact V_good Qx.V.nil
 ·split at h
  ·simp only [Bool.and_eq_true] at h
   exact h.2
  ·split at h
   ·simp only [Bool.and_eq_true] at h
    have := h.1.1.2
    unfold plainT at this
    simp only [Bool.and_eq_true] at this
    exact this.1
   ·split at h
    ·simp only [Bool.and_eq_true] at h
     have := h.1.1.2
     unfold plainT at this
     simp only [Bool.and_eq_true] at this
     exact this.1
    ·cases h
set_option maxHeartbeats 16000000 in
set_option maxRecDepth 100000 in
theorem rfair_rest (w : World) (kd : Int) (nm tx : Tx) (as_ : List At) (ks : List Nd) (A : Option Addr) (ca : Nat) (A2 : Option Addr) (c2 : Nat) (h1 : kd ≠ 1) (z1 : nm.length ≤ 1000000) (z2 : tx.length ≤ 1000000) :
  Calls Tryz.prog 17 #[.agg #[.int .i64 kd, .string (strOf nm), .string (strOf tx), .slice A as_.length ca, .slice A2 ks.length c2]] w fun e w' => e = .returned (.bool (fairN (.mk kd nm tx as_ ks))) ∧ Below w.heap.size w w' := by
 obtain ⟨n1, hn1⟩ : ∃ n, as_.length = n := ⟨_, rfl⟩
 obtain ⟨n2, hn2⟩ : ∃ n, ks.length = n := ⟨_, rfl⟩
 rw [hn1, hn2]
 obtain ⟨S1, hS1⟩ : ∃ S, strOf nm = S := ⟨_, rfl⟩
 obtain ⟨S2, hS2⟩ : ∃ S, strOf tx = S := ⟨_, rfl⟩
 rw [hS1, hS2]
 have hba := below_alloc w (.cells #[.int .i64 kd, .string S1, .string S2, .slice A n1 ca, .slice A2 n2 c2] 25)
 have hnb := heap_alloc_new w (.cells #[.int .i64 kd, .string S1, .string S2, .slice A n1 ca, .slice A2 n2 c2] 25)
 obtain ⟨T, hT⟩ : ∃ T, w.heap.size = T := ⟨_, rfl⟩
 obtain ⟨w1, hw1⟩ : ∃ w1, w.alloc (.cells #[.int .i64 kd, .string S1, .string S2, .slice A n1 ca, .slice A2 n2 c2] 25) = w1 := ⟨_, rfl⟩
 rw [hw1] at hba hnb
 rw [hT] at hnb
 have hTb : Hid (∀ x, Below w1.heap.size w1 x → x.heap[T]? = some (.cells #[.int .i64 kd, .string S1, .string S2, .slice A n1 ca, .slice A2 n2 c2] 25)) := Lib.hid fun x hx => (hx.block T (Array.getElem?_eq_some_iff.1 hnb).1).trans hnb
 have hnc := Lib.hid (fun (x : World) (_hx : Below w1.heap.size w1 x) => refName_any S1 (by rw [← hS1, strOf_size']; omega) x)
 have e1 : S1.data.toList = nm := by rw [← hS1]; simp [strOf]
 rw [e1] at hnc
 have hcc1 := Lib.hid (fun (x : World) (_hx : Below w1.heap.size w1 x) => rhas_any tx [13] (by omega) (by decide) (by decide) x)
 have hcc3 := Lib.hid (fun (x : World) (_hx : Below w1.heap.size w1 x) => rhas_any tx [45, 45] (by omega) (by decide) (by decide) x)
 have hcc4 := Lib.hid (fun (x : World) (_hx : Below w1.heap.size w1 x) => rhas_any tx [63, 62] (by omega) (by decide) (by decide) x)
 have hlc := Lib.hid (fun (x : World) (_hx : Below w1.heap.size w1 x) => rlower_any nm (by omega) x)
 rw [hS2] at hcc1 hcc3 hcc4
 rw [hS1] at hlc
 have hz : S2.size = tx.length := by rw [← hS2]; exact strOf_size' tx
 obtain ⟨hbs, hbl⟩ := bs_convert w1 S2 (by omega)
 have e2 : S2.data.toList = tx := by rw [← hS2]; simp [strOf]
 rw [e2] at hbs
 have hcv := Lib.run_convert_string_bytes (P := Tryz.prog) w1 9 41 5 S2 Tryz.underlying9 Tryz.underlying41 Tryz.underlying5
 have hbd := Lib.hid (refBad_any _ _ _ tx (by omega) (Lib.bytesWorld w1 5 S2) hbs)
 have hblH := Lib.hid hbl
 have y0 : w1.cell? ⟨T, 0, none⟩ = some (.int .i64 kd) := Xp.cell_blk hnb rfl
 have y1 : w1.cell? ⟨T, 1, none⟩ = some (.string S1) := Xp.cell_blk hnb rfl
 have y2 : w1.cell? ⟨T, 2, none⟩ = some (.string S2) := Xp.cell_blk hnb rfl
 have y3 : w1.cell? ⟨T, 3, none⟩ = some (.slice A n1 ca) := Xp.cell_blk hnb rfl
 have y4 : w1.cell? ⟨T, 4, none⟩ = some (.slice A2 n2 c2) := Xp.cell_blk hnb rfl
 have hbaH := Lib.hid hba
 have ez1 : S1.toList.isEmpty = nm.isEmpty := by rw [← hS1, strOf_empty]
 have ez2 : S2.toList.isEmpty = tx.isEmpty := by rw [← hS2, strOf_empty]
 have hS2H := Lib.hid hS2
 have hz2H := Lib.hid z2
 have l1 : as_.isEmpty = decide (n1 = 0) := by rw [← hn1]; cases as_ <;> simp
 have l2 : ks.isEmpty = decide (n2 = 0) := by rw [← hn2]; cases ks <;> simp
 clear hn1 hn2
 have k1 : (kd == 1) = false := by simpa using h1
 have k1' : (kd != 1) = true := by simpa using h1
 clear hnb hba e1 z1 z2 hS1 hS2 hbs hbl e2 hz
 obtain ⟨C1, hC1⟩ : ∃ b, (find [13] tx).isSome = b := ⟨_, rfl⟩
 obtain ⟨C3, hC3⟩ : ∃ b, (find [45, 45] tx).isSome = b := ⟨_, rfl⟩
 obtain ⟨C4, hC4⟩ : ∃ b, (find [63, 62] tx).isSome = b := ⟨_, rfl⟩
 obtain ⟨LX, hLX⟩ : ∃ b, decide (nm.map low = xml3) = b := ⟨_, rfl⟩
 obtain ⟨NM, hNM⟩ : ∃ b, nameR nm = b := ⟨_, rfl⟩
 have f1 : decide (13 ∉ tx) = !C1 := by rw [← hC1, find_one]; simp
 have f3 : (find [45, 45] tx).isNone = !C3 := by rw [← hC3]; cases find [45, 45] tx <;> rfl
 have f4 : (find [63, 62] tx).isNone = !C4 := by rw [← hC4]; cases find [63, 62] tx <;> rfl
 have fl : decide (nm.map low ≠ xml3) = !LX := by rw [← hLX]; simp
 rw [hC1] at hcc1
 rw [hC3] at hcc3
 rw [hC4] at hcc4
 rw [hNM] at hnc
 replace hLX := Lib.hid hLX
 obtain ⟨BW, hBW⟩ : ∃ b, badW tx 0 = b := ⟨_, rfl⟩
 rw [hBW] at hbd
 obtain ⟨R, hRe⟩ : ∃ R, fairN (.mk kd nm tx as_ ks) = R := ⟨_, rfl⟩
 rw [hRe]
 by_cases hg : 0 ≤ BW
 ·have g1 : decide (0 ≤ BW) = true := decide_eq_true hg
  have hR : Hid (R = false) := Lib.hid (by
   rw [← hRe, Bool.eq_false_iff]
   intro hc
   have := fair_good hc
   unfold good at this
   rw [hBW, decide_eq_true_eq] at this
   omega)
  clear l1 l2 hRe hBW hC1 hC3 hC4 hNM f1 f3 f4 fl hnc hcc1 hcc3 hcc4 hlc ez1 ez2
  go_enter Tryz.func17, Tryz.ntmps17
  go_wp2_with fail
  refine hbd.out.mono ?_
  rintro e w2 ⟨rfl, hbw2⟩
  have hqw2 := Lib.hid (hblH.out.trans (hbw2.mono hblH.out.size))
  clear hbw2 y0 y1 y2 y3 y4 hcv
  have hTb9 := hTb.out w2 hqw2.out
  have y0 := Xp.cell_blk hTb9 (i := 0) rfl
  have y1 := Xp.cell_blk hTb9 (i := 1) rfl
  have y2 := Xp.cell_blk hTb9 (i := 2) rfl
  have y3 := Xp.cell_blk hTb9 (i := 3) rfl
  have y4 := Xp.cell_blk hTb9 (i := 4) rfl
  clear hTb9
  have hRf : Hid (R = false) := Lib.hid (by rw [hR.out])
  have hfin := Lib.hid (hbaH.out.trans (hqw2.out.mono hbaH.out.size))
  clear hR
  go_wp2_with fail
  (try simp only [Exit.inBlock, Exit.then])
  go_ret
  exact ⟨by rw [hRf.out]; rfl, hfin.out⟩
 have g1 : decide (0 ≤ BW) = false := decide_eq_false hg
 have hGD : good tx = true := by
  unfold good
  rw [hBW, decide_eq_true_eq]
  omega
 have hPL : plainT tx = !C1 := by
  unfold plainT
  rw [hGD, f1]
  rfl
 clear hBW f1
 rw [fairN, if_neg h1] at hRe
 rw [l1, l2, hGD, hNM, hPL, f3, f4, fl] at hRe
 clear l1 l2 hGD hNM hPL hC1 hC3 hC4 f3 f4 fl h1
 by_cases hEE : n1 = 0 ∧ n2 = 0
 ·obtain ⟨rfl, rfl⟩ := hEE
  by_cases h2 : kd = 2
  ·subst h2
   rw [if_pos rfl, decide_eq_true (rfl : (0 : Nat) = 0), Bool.true_and, Bool.true_and] at hRe
   clear hnc hcc1 hcc3 hcc4 hlc
   cases nm with
   | nil =>
    cases tx with
    | nil =>
     have e1 : S1.toList.isEmpty = true := ez1
     have e2 : S2.toList.isEmpty = true := ez2
     rw [decide_eq_true (rfl), decide_eq_false (by simp)] at hRe
     have hR := Lib.hid hRe
     clear hRe ez1 ez2
     go_enter Tryz.func17, Tryz.ntmps17
     go_wp2_with fail
     refine hbd.out.mono ?_
     rintro e w2 ⟨rfl, hbw2⟩
     have hqw2 := Lib.hid (hblH.out.trans (hbw2.mono hblH.out.size))
     clear hbw2 y0 y1 y2 y3 y4 hcv
     have hTb9 := hTb.out w2 hqw2.out
     have y0 := Xp.cell_blk hTb9 (i := 0) rfl
     have y1 := Xp.cell_blk hTb9 (i := 1) rfl
     have y2 := Xp.cell_blk hTb9 (i := 2) rfl
     have y3 := Xp.cell_blk hTb9 (i := 3) rfl
     have y4 := Xp.cell_blk hTb9 (i := 4) rfl
     clear hTb9
     have hRf : Hid (R = false) := Lib.hid (by rw [← hR.out]; simp)
     have hfin := Lib.hid (hbaH.out.trans (hqw2.out.mono hbaH.out.size))
     clear hR
     go_wp2_with fail
     (try simp only [Exit.inBlock, Exit.then])
     go_ret
     exact ⟨by rw [hRf.out]; rfl, hfin.out⟩
    | cons c0 r0 =>
     have e1 : S1.toList.isEmpty = true := ez1
     have e2 : S2.toList.isEmpty = false := ez2
     rw [decide_eq_true (rfl), decide_eq_true (by simp)] at hRe
     have hR := Lib.hid hRe
     clear hRe ez1 ez2
     go_enter Tryz.func17, Tryz.ntmps17
     go_wp2_with fail
     refine hbd.out.mono ?_
     rintro e w2 ⟨rfl, hbw2⟩
     have hqw2 := Lib.hid (hblH.out.trans (hbw2.mono hblH.out.size))
     clear hbw2 y0 y1 y2 y3 y4 hcv
     have hTb9 := hTb.out w2 hqw2.out
     have y0 := Xp.cell_blk hTb9 (i := 0) rfl
     have y1 := Xp.cell_blk hTb9 (i := 1) rfl
     have y2 := Xp.cell_blk hTb9 (i := 2) rfl
     have y3 := Xp.cell_blk hTb9 (i := 3) rfl
     have y4 := Xp.cell_blk hTb9 (i := 4) rfl
     clear hTb9
     have hRf : Hid (R = true) := Lib.hid (by rw [← hR.out]; simp)
     have hfin := Lib.hid (hbaH.out.trans (hqw2.out.mono hbaH.out.size))
     clear hR
     go_wp2_with fail
     (try simp only [Exit.inBlock, Exit.then])
     go_ret
     exact ⟨by rw [hRf.out]; rfl, hfin.out⟩
   | cons c1 r1 =>
    cases tx with
    | nil =>
     have e1 : S1.toList.isEmpty = false := ez1
     have e2 : S2.toList.isEmpty = true := ez2
     rw [decide_eq_false (by simp), decide_eq_false (by simp)] at hRe
     have hR := Lib.hid hRe
     clear hRe ez1 ez2
     go_enter Tryz.func17, Tryz.ntmps17
     go_wp2_with fail
     refine hbd.out.mono ?_
     rintro e w2 ⟨rfl, hbw2⟩
     have hqw2 := Lib.hid (hblH.out.trans (hbw2.mono hblH.out.size))
     clear hbw2 y0 y1 y2 y3 y4 hcv
     have hTb9 := hTb.out w2 hqw2.out
     have y0 := Xp.cell_blk hTb9 (i := 0) rfl
     have y1 := Xp.cell_blk hTb9 (i := 1) rfl
     have y2 := Xp.cell_blk hTb9 (i := 2) rfl
     have y3 := Xp.cell_blk hTb9 (i := 3) rfl
     have y4 := Xp.cell_blk hTb9 (i := 4) rfl
     clear hTb9
     have hRf : Hid (R = false) := Lib.hid (by rw [← hR.out]; simp)
     have hfin := Lib.hid (hbaH.out.trans (hqw2.out.mono hbaH.out.size))
     clear hR
     go_wp2_with fail
     (try simp only [Exit.inBlock, Exit.then])
     go_ret
     exact ⟨by rw [hRf.out]; rfl, hfin.out⟩
    | cons c0 r0 =>
     have e1 : S1.toList.isEmpty = false := ez1
     have e2 : S2.toList.isEmpty = false := ez2
     rw [decide_eq_false (by simp), decide_eq_true (by simp)] at hRe
     have hR := Lib.hid hRe
     clear hRe ez1 ez2
     go_enter Tryz.func17, Tryz.ntmps17
     go_wp2_with fail
     refine hbd.out.mono ?_
     rintro e w2 ⟨rfl, hbw2⟩
     have hqw2 := Lib.hid (hblH.out.trans (hbw2.mono hblH.out.size))
     clear hbw2 y0 y1 y2 y3 y4 hcv
     have hTb9 := hTb.out w2 hqw2.out
     have y0 := Xp.cell_blk hTb9 (i := 0) rfl
     have y1 := Xp.cell_blk hTb9 (i := 1) rfl
     have y2 := Xp.cell_blk hTb9 (i := 2) rfl
     have y3 := Xp.cell_blk hTb9 (i := 3) rfl
     have y4 := Xp.cell_blk hTb9 (i := 4) rfl
     clear hTb9
     have hRf : Hid (R = false) := Lib.hid (by rw [← hR.out]; simp)
     have hfin := Lib.hid (hbaH.out.trans (hqw2.out.mono hbaH.out.size))
     clear hR
     go_wp2_with fail
     (try simp only [Exit.inBlock, Exit.then])
     go_ret
     exact ⟨by rw [hRf.out]; rfl, hfin.out⟩
  rw [if_neg h2] at hRe
  have k2 : (kd == 2) = false := by simpa using h2
  by_cases h3 : kd = 3
  ·subst h3
   rw [if_pos rfl, decide_eq_true (rfl : (0 : Nat) = 0), Bool.true_and, Bool.true_and] at hRe
   clear hnc hcc4 hlc h2
   cases nm with
   | nil =>
    have e1 : S1.toList.isEmpty = true := ez1
    rw [decide_eq_true (rfl)] at hRe
    cases hlast : tx.getLast? with
    | none =>
     have e2 : S2.toList.isEmpty = true := by
      rw [ez2, List.getLast?_eq_none_iff.1 hlast]
      rfl
     rw [hlast] at hRe
     have hR := Lib.hid hRe
     clear hRe ez1 ez2 hlast
     go_enter Tryz.func17, Tryz.ntmps17
     go_wp2_with fail
     refine hbd.out.mono ?_
     rintro e w2 ⟨rfl, hbw2⟩
     have hqw2 := Lib.hid (hblH.out.trans (hbw2.mono hblH.out.size))
     clear hbw2 y0 y1 y2 y3 y4 hcv
     have hTb9 := hTb.out w2 hqw2.out
     have y0 := Xp.cell_blk hTb9 (i := 0) rfl
     have y1 := Xp.cell_blk hTb9 (i := 1) rfl
     have y2 := Xp.cell_blk hTb9 (i := 2) rfl
     have y3 := Xp.cell_blk hTb9 (i := 3) rfl
     have y4 := Xp.cell_blk hTb9 (i := 4) rfl
     clear hTb9
     go_wp2_with fail
     refine (hcc1.out w2 hqw2.out).mono ?_
     rintro e w11 ⟨rfl, hbw11⟩
     have hqw11 := Lib.hid (hqw2.out.trans (hbw11.mono hqw2.out.size))
     clear hbw11 y0 y1 y2 y3 y4
     have hTb9 := hTb.out w11 hqw11.out
     have y0 := Xp.cell_blk hTb9 (i := 0) rfl
     have y1 := Xp.cell_blk hTb9 (i := 1) rfl
     have y2 := Xp.cell_blk hTb9 (i := 2) rfl
     have y3 := Xp.cell_blk hTb9 (i := 3) rfl
     have y4 := Xp.cell_blk hTb9 (i := 4) rfl
     clear hTb9
     cases C1 with
     | true =>
      have hRf : Hid (R = false) := Lib.hid (by rw [← hR.out]; simp)
      have hfin := Lib.hid (hbaH.out.trans (hqw11.out.mono hbaH.out.size))
      clear hR
      go_wp2_with fail
      (try simp only [Exit.inBlock, Exit.then])
      go_ret
      exact ⟨by rw [hRf.out]; rfl, hfin.out⟩
     | false =>
      go_wp2_with fail
      refine (hcc3.out w11 hqw11.out).mono ?_
      rintro e w12 ⟨rfl, hbw12⟩
      have hqw12 := Lib.hid (hqw11.out.trans (hbw12.mono hqw11.out.size))
      clear hbw12 y0 y1 y2 y3 y4
      have hTb9 := hTb.out w12 hqw12.out
      have y0 := Xp.cell_blk hTb9 (i := 0) rfl
      have y1 := Xp.cell_blk hTb9 (i := 1) rfl
      have y2 := Xp.cell_blk hTb9 (i := 2) rfl
      have y3 := Xp.cell_blk hTb9 (i := 3) rfl
      have y4 := Xp.cell_blk hTb9 (i := 4) rfl
      clear hTb9
      cases C3 with
      | true =>
       have hRf : Hid (R = false) := Lib.hid (by rw [← hR.out]; simp)
       have hfin := Lib.hid (hbaH.out.trans (hqw12.out.mono hbaH.out.size))
       clear hR
       go_wp2_with fail
       (try simp only [Exit.inBlock, Exit.then])
       go_ret
       exact ⟨by rw [hRf.out]; rfl, hfin.out⟩
      | false =>
       have hRf : Hid (R = true) := Lib.hid (by rw [← hR.out]; simp)
       have hfin := Lib.hid (hbaH.out.trans (hqw12.out.mono hbaH.out.size))
       clear hR
       go_wp2_with fail
       (try simp only [Exit.inBlock, Exit.then])
       go_ret
       exact ⟨by rw [hRf.out]; rfl, hfin.out⟩
    | some x =>
     obtain ⟨N, hN⟩ : ∃ N, tx.length = N + 1 := by
      cases tx with
      | nil => simp at hlast
      | cons a l => exact ⟨l.length, rfl⟩
     have e2 : S2.toList.isEmpty = false := by
      rw [ez2]
      cases tx with
      | nil => simp at hlast
      | cons a l => rfl
     have hxN : tx[N]? = some x := by
      rw [List.getLast?_eq_getElem?, hN, Nat.add_sub_cancel] at hlast
      exact hlast
     have hszH := Lib.hid (show S2.size = N + 1 by rw [← hS2H.out, strOf_size', hN])
     replace hz2H := hz2H.out
     rw [hN] at hz2H
     replace hz2H := Lib.hid hz2H
     have hxNH := Lib.hid hxN
     rw [hlast] at hRe
     obtain ⟨SX, hSX⟩ : ∃ b, decide (x = 45) = b := ⟨_, rfl⟩
     have hsx : decide (some x ≠ some (45 : UInt8)) = !SX := by rw [← hSX]; simp
     have hsy : (((x.toNat : Nat) : Int) != 45) = !SX := by
      rw [← hSX, ← decide_not, Bool.eq_iff_iff, bne_iff_ne, decide_eq_true_eq]
      constructor
      ·intro h e
       rw [e] at h
       exact h rfl
      ·intro h e
       apply h
       apply UInt8.toNat_inj.1
       have : x.toNat = 45 := by omega
       rw [this]
       rfl
     rw [hsx] at hRe
     have hR := Lib.hid hRe
     clear hRe ez1 ez2 hlast hsx hSX hxN hN
     go_enter Tryz.func17, Tryz.ntmps17
     go_wp2_with fail
     refine hbd.out.mono ?_
     rintro e w2 ⟨rfl, hbw2⟩
     have hqw2 := Lib.hid (hblH.out.trans (hbw2.mono hblH.out.size))
     clear hbw2 y0 y1 y2 y3 y4 hcv
     have hTb9 := hTb.out w2 hqw2.out
     have y0 := Xp.cell_blk hTb9 (i := 0) rfl
     have y1 := Xp.cell_blk hTb9 (i := 1) rfl
     have y2 := Xp.cell_blk hTb9 (i := 2) rfl
     have y3 := Xp.cell_blk hTb9 (i := 3) rfl
     have y4 := Xp.cell_blk hTb9 (i := 4) rfl
     clear hTb9
     have hsz := hszH.out
     have hz2 := hz2H.out
     have hlt0 : N < S2.size := by omega
     have hgx : S2[N]'hlt0 = x := by
      have h9 := hS2H.out
      have hxN := hxNH.out
      subst h9
      exact str_at hxN hlt0
     have hc9 := x.toNat_lt
     go_wp2_with fail
     refine (hcc1.out w2 hqw2.out).mono ?_
     rintro e w13 ⟨rfl, hbw13⟩
     have hqw13 := Lib.hid (hqw2.out.trans (hbw13.mono hqw2.out.size))
     clear hbw13 y0 y1 y2 y3 y4
     have hTb9 := hTb.out w13 hqw13.out
     have y0 := Xp.cell_blk hTb9 (i := 0) rfl
     have y1 := Xp.cell_blk hTb9 (i := 1) rfl
     have y2 := Xp.cell_blk hTb9 (i := 2) rfl
     have y3 := Xp.cell_blk hTb9 (i := 3) rfl
     have y4 := Xp.cell_blk hTb9 (i := 4) rfl
     clear hTb9
     cases C1 with
     | true =>
      have hRf : Hid (R = false) := Lib.hid (by rw [← hR.out]; simp)
      have hfin := Lib.hid (hbaH.out.trans (hqw13.out.mono hbaH.out.size))
      clear hR
      go_wp2_with fail
      (try simp only [Exit.inBlock, Exit.then])
      go_ret
      exact ⟨by rw [hRf.out]; rfl, hfin.out⟩
     | false =>
      go_wp2_with fail
      refine (hcc3.out w13 hqw13.out).mono ?_
      rintro e w14 ⟨rfl, hbw14⟩
      have hqw14 := Lib.hid (hqw13.out.trans (hbw14.mono hqw13.out.size))
      clear hbw14 y0 y1 y2 y3 y4
      have hTb9 := hTb.out w14 hqw14.out
      have y0 := Xp.cell_blk hTb9 (i := 0) rfl
      have y1 := Xp.cell_blk hTb9 (i := 1) rfl
      have y2 := Xp.cell_blk hTb9 (i := 2) rfl
      have y3 := Xp.cell_blk hTb9 (i := 3) rfl
      have y4 := Xp.cell_blk hTb9 (i := 4) rfl
      clear hTb9
      cases C3 with
      | true =>
       have hRf : Hid (R = false) := Lib.hid (by rw [← hR.out]; simp)
       have hfin := Lib.hid (hbaH.out.trans (hqw14.out.mono hbaH.out.size))
       clear hR
       go_wp2_with fail
       (try simp only [Exit.inBlock, Exit.then])
       go_ret
       exact ⟨by rw [hRf.out]; rfl, hfin.out⟩
      | false =>
       cases SX with
       | true =>
        have hRf : Hid (R = false) := Lib.hid (by rw [← hR.out]; simp)
        have hfin := Lib.hid (hbaH.out.trans (hqw14.out.mono hbaH.out.size))
        clear hR
        go_wp2_with fail
        (try simp only [Exit.inBlock, Exit.then])
        go_ret
        exact ⟨by rw [hRf.out]; rfl, hfin.out⟩
       | false =>
        have hRf : Hid (R = true) := Lib.hid (by rw [← hR.out]; simp)
        have hfin := Lib.hid (hbaH.out.trans (hqw14.out.mono hbaH.out.size))
        clear hR
        go_wp2_with fail
        (try simp only [Exit.inBlock, Exit.then])
        go_ret
        exact ⟨by rw [hRf.out]; rfl, hfin.out⟩
   | cons c1 r1 =>
    have e1 : S1.toList.isEmpty = false := ez1
    rw [decide_eq_false (by simp)] at hRe
    have hR := Lib.hid hRe
    clear hRe ez1 ez2 hcc1 hcc3
    go_enter Tryz.func17, Tryz.ntmps17
    go_wp2_with fail
    refine hbd.out.mono ?_
    rintro e w2 ⟨rfl, hbw2⟩
    have hqw2 := Lib.hid (hblH.out.trans (hbw2.mono hblH.out.size))
    clear hbw2 y0 y1 y2 y3 y4 hcv
    have hTb9 := hTb.out w2 hqw2.out
    have y0 := Xp.cell_blk hTb9 (i := 0) rfl
    have y1 := Xp.cell_blk hTb9 (i := 1) rfl
    have y2 := Xp.cell_blk hTb9 (i := 2) rfl
    have y3 := Xp.cell_blk hTb9 (i := 3) rfl
    have y4 := Xp.cell_blk hTb9 (i := 4) rfl
    clear hTb9
    have hRf : Hid (R = false) := Lib.hid (by rw [← hR.out]; simp)
    have hfin := Lib.hid (hbaH.out.trans (hqw2.out.mono hbaH.out.size))
    clear hR
    go_wp2_with fail
    (try simp only [Exit.inBlock, Exit.then])
    go_ret
    exact ⟨by rw [hRf.out]; rfl, hfin.out⟩
  rw [if_neg h3] at hRe
  have k3 : (kd == 3) = false := by simpa using h3
  by_cases h4 : kd = 4
  ·subst h4
   rw [if_pos rfl, decide_eq_true (rfl : (0 : Nat) = 0), Bool.true_and, Bool.true_and] at hRe
   clear hcc3 h2 h3
   cases tx with
   | nil =>
    have e2 : S2.toList.isEmpty = true := ez2
    have hR := Lib.hid hRe
    clear hRe ez1 ez2
    go_enter Tryz.func17, Tryz.ntmps17
    go_wp2_with fail
    refine hbd.out.mono ?_
    rintro e w2 ⟨rfl, hbw2⟩
    have hqw2 := Lib.hid (hblH.out.trans (hbw2.mono hblH.out.size))
    clear hbw2 y0 y1 y2 y3 y4 hcv
    have hTb9 := hTb.out w2 hqw2.out
    have y0 := Xp.cell_blk hTb9 (i := 0) rfl
    have y1 := Xp.cell_blk hTb9 (i := 1) rfl
    have y2 := Xp.cell_blk hTb9 (i := 2) rfl
    have y3 := Xp.cell_blk hTb9 (i := 3) rfl
    have y4 := Xp.cell_blk hTb9 (i := 4) rfl
    clear hTb9
    go_wp2_with fail
    refine (hnc.out w2 hqw2.out).mono ?_
    rintro e w15 ⟨rfl, hbw15⟩
    have hqw15 := Lib.hid (hqw2.out.trans (hbw15.mono hqw2.out.size))
    clear hbw15 y0 y1 y2 y3 y4
    have hTb9 := hTb.out w15 hqw15.out
    have y0 := Xp.cell_blk hTb9 (i := 0) rfl
    have y1 := Xp.cell_blk hTb9 (i := 1) rfl
    have y2 := Xp.cell_blk hTb9 (i := 2) rfl
    have y3 := Xp.cell_blk hTb9 (i := 3) rfl
    have y4 := Xp.cell_blk hTb9 (i := 4) rfl
    clear hTb9
    cases NM with
    | false =>
     have hRf : Hid (R = false) := Lib.hid (by rw [← hR.out]; simp [headOk])
     have hfin := Lib.hid (hbaH.out.trans (hqw15.out.mono hbaH.out.size))
     clear hR
     go_wp2_with fail
     (try simp only [Exit.inBlock, Exit.then])
     go_ret
     exact ⟨by rw [hRf.out]; rfl, hfin.out⟩
    | true =>
     go_wp2_with fail
     refine (hlc.out w15 hqw15.out).mono ?_
     rintro e w16 ⟨rfl, hbw16⟩
     have hqw16 := Lib.hid (hqw15.out.trans (hbw16.mono hqw15.out.size))
     clear hbw16 y0 y1 y2 y3 y4
     have hTb9 := hTb.out w16 hqw16.out
     have y0 := Xp.cell_blk hTb9 (i := 0) rfl
     have y1 := Xp.cell_blk hTb9 (i := 1) rfl
     have y2 := Xp.cell_blk hTb9 (i := 2) rfl
     have y3 := Xp.cell_blk hTb9 (i := 3) rfl
     have y4 := Xp.cell_blk hTb9 (i := 4) rfl
     clear hTb9
     have s2 := str_eqL (nm.map low) [120, 109, 108]
     have htl' : decide (nm.map low = [120, 109, 108]) = LX := hLX.out
     rw [htl'] at s2
     clear htl'
     cases LX with
     | true =>
      have hRf : Hid (R = false) := Lib.hid (by rw [← hR.out]; simp [headOk])
      have hfin := Lib.hid (hbaH.out.trans (hqw16.out.mono hbaH.out.size))
      clear hR
      go_wp2_with fail
      (try simp only [Exit.inBlock, Exit.then])
      go_ret
      exact ⟨by rw [hRf.out]; rfl, hfin.out⟩
     | false =>
      go_wp2_with fail
      refine (hcc1.out w16 hqw16.out).mono ?_
      rintro e w17 ⟨rfl, hbw17⟩
      have hqw17 := Lib.hid (hqw16.out.trans (hbw17.mono hqw16.out.size))
      clear hbw17 y0 y1 y2 y3 y4
      have hTb9 := hTb.out w17 hqw17.out
      have y0 := Xp.cell_blk hTb9 (i := 0) rfl
      have y1 := Xp.cell_blk hTb9 (i := 1) rfl
      have y2 := Xp.cell_blk hTb9 (i := 2) rfl
      have y3 := Xp.cell_blk hTb9 (i := 3) rfl
      have y4 := Xp.cell_blk hTb9 (i := 4) rfl
      clear hTb9
      cases C1 with
      | true =>
       have hRf : Hid (R = false) := Lib.hid (by rw [← hR.out]; simp [headOk])
       have hfin := Lib.hid (hbaH.out.trans (hqw17.out.mono hbaH.out.size))
       clear hR
       go_wp2_with fail
       (try simp only [Exit.inBlock, Exit.then])
       go_ret
       exact ⟨by rw [hRf.out]; rfl, hfin.out⟩
      | false =>
       go_wp2_with fail
       refine (hcc4.out w17 hqw17.out).mono ?_
       rintro e w18 ⟨rfl, hbw18⟩
       have hqw18 := Lib.hid (hqw17.out.trans (hbw18.mono hqw17.out.size))
       clear hbw18 y0 y1 y2 y3 y4
       have hTb9 := hTb.out w18 hqw18.out
       have y0 := Xp.cell_blk hTb9 (i := 0) rfl
       have y1 := Xp.cell_blk hTb9 (i := 1) rfl
       have y2 := Xp.cell_blk hTb9 (i := 2) rfl
       have y3 := Xp.cell_blk hTb9 (i := 3) rfl
       have y4 := Xp.cell_blk hTb9 (i := 4) rfl
       clear hTb9
       cases C4 with
       | true =>
        have hRf : Hid (R = false) := Lib.hid (by rw [← hR.out]; simp [headOk])
        have hfin := Lib.hid (hbaH.out.trans (hqw18.out.mono hbaH.out.size))
        clear hR
        go_wp2_with fail
        (try simp only [Exit.inBlock, Exit.then])
        go_ret
        exact ⟨by rw [hRf.out]; rfl, hfin.out⟩
       | false =>
        have hRf : Hid (R = true) := Lib.hid (by rw [← hR.out]; simp [headOk])
        have hfin := Lib.hid (hbaH.out.trans (hqw18.out.mono hbaH.out.size))
        clear hR
        go_wp2_with fail
        (try simp only [Exit.inBlock, Exit.then])
        go_ret
        exact ⟨by rw [hRf.out]; rfl, hfin.out⟩
   | cons c0 r0 =>
    have e2 : S2.toList.isEmpty = false := ez2
    obtain ⟨BL, hBL⟩ : ∃ b, Qx.blank c0 = b := ⟨_, rfl⟩
    have hho : headOk (c0 :: r0) = !BL := by rw [← hBL]; rfl
    rw [hho] at hRe
    have hR := Lib.hid hRe
    have hbk := Lib.hid (fun (x : World) (_hx : Below w1.heap.size w1 x) => refblank_any (c0.toNat : Int) x)
    have hbl' : Blank (c0.toNat : Int) = BL := hBL
    rw [hbl'] at hbk
    clear hRe ez1 ez2 hho hBL hbl'
    go_enter Tryz.func17, Tryz.ntmps17
    go_wp2_with fail
    refine hbd.out.mono ?_
    rintro e w2 ⟨rfl, hbw2⟩
    have hqw2 := Lib.hid (hblH.out.trans (hbw2.mono hblH.out.size))
    clear hbw2 y0 y1 y2 y3 y4 hcv
    have hTb9 := hTb.out w2 hqw2.out
    have y0 := Xp.cell_blk hTb9 (i := 0) rfl
    have y1 := Xp.cell_blk hTb9 (i := 1) rfl
    have y2 := Xp.cell_blk hTb9 (i := 2) rfl
    have y3 := Xp.cell_blk hTb9 (i := 3) rfl
    have y4 := Xp.cell_blk hTb9 (i := 4) rfl
    clear hTb9
    have hz2 := hz2H.out
    have hsz : S2.size = (c0 :: r0).length := by rw [← hS2H.out]; exact strOf_size' _
    rw [List.length_cons] at hsz hz2
    have hlt0 : 0 < S2.size := by omega
    have hgx : S2[0]'hlt0 = c0 := by
     have h9 := hS2H.out
     subst h9
     exact str_at rfl hlt0
    have hc9 := c0.toNat_lt
    clear hz2
    go_wp2_with fail
    refine (hnc.out w2 hqw2.out).mono ?_
    rintro e w19 ⟨rfl, hbw19⟩
    have hqw19 := Lib.hid (hqw2.out.trans (hbw19.mono hqw2.out.size))
    clear hbw19 y0 y1 y2 y3 y4
    have hTb9 := hTb.out w19 hqw19.out
    have y0 := Xp.cell_blk hTb9 (i := 0) rfl
    have y1 := Xp.cell_blk hTb9 (i := 1) rfl
    have y2 := Xp.cell_blk hTb9 (i := 2) rfl
    have y3 := Xp.cell_blk hTb9 (i := 3) rfl
    have y4 := Xp.cell_blk hTb9 (i := 4) rfl
    clear hTb9
    cases NM with
    | false =>
     have hRf : Hid (R = false) := Lib.hid (by rw [← hR.out]; simp)
     have hfin := Lib.hid (hbaH.out.trans (hqw19.out.mono hbaH.out.size))
     clear hR
     go_wp2_with fail
     (try simp only [Exit.inBlock, Exit.then])
     go_ret
     exact ⟨by rw [hRf.out]; rfl, hfin.out⟩
    | true =>
     go_wp2_with fail
     refine (hlc.out w19 hqw19.out).mono ?_
     rintro e w20 ⟨rfl, hbw20⟩
     have hqw20 := Lib.hid (hqw19.out.trans (hbw20.mono hqw19.out.size))
     clear hbw20 y0 y1 y2 y3 y4
     have hTb9 := hTb.out w20 hqw20.out
     have y0 := Xp.cell_blk hTb9 (i := 0) rfl
     have y1 := Xp.cell_blk hTb9 (i := 1) rfl
     have y2 := Xp.cell_blk hTb9 (i := 2) rfl
     have y3 := Xp.cell_blk hTb9 (i := 3) rfl
     have y4 := Xp.cell_blk hTb9 (i := 4) rfl
     clear hTb9
     have s2 := str_eqL (nm.map low) [120, 109, 108]
     have htl' : decide (nm.map low = [120, 109, 108]) = LX := hLX.out
     rw [htl'] at s2
     clear htl'
     cases LX with
     | true =>
      have hRf : Hid (R = false) := Lib.hid (by rw [← hR.out]; simp)
      have hfin := Lib.hid (hbaH.out.trans (hqw20.out.mono hbaH.out.size))
      clear hR
      go_wp2_with fail
      (try simp only [Exit.inBlock, Exit.then])
      go_ret
      exact ⟨by rw [hRf.out]; rfl, hfin.out⟩
     | false =>
      go_wp2_with fail
      refine (hcc1.out w20 hqw20.out).mono ?_
      rintro e w21 ⟨rfl, hbw21⟩
      have hqw21 := Lib.hid (hqw20.out.trans (hbw21.mono hqw20.out.size))
      clear hbw21 y0 y1 y2 y3 y4
      have hTb9 := hTb.out w21 hqw21.out
      have y0 := Xp.cell_blk hTb9 (i := 0) rfl
      have y1 := Xp.cell_blk hTb9 (i := 1) rfl
      have y2 := Xp.cell_blk hTb9 (i := 2) rfl
      have y3 := Xp.cell_blk hTb9 (i := 3) rfl
      have y4 := Xp.cell_blk hTb9 (i := 4) rfl
      clear hTb9
      cases C1 with
      | true =>
       have hRf : Hid (R = false) := Lib.hid (by rw [← hR.out]; simp)
       have hfin := Lib.hid (hbaH.out.trans (hqw21.out.mono hbaH.out.size))
       clear hR
       go_wp2_with fail
       (try simp only [Exit.inBlock, Exit.then])
       go_ret
       exact ⟨by rw [hRf.out]; rfl, hfin.out⟩
      | false =>
       go_wp2_with fail
       refine (hcc4.out w21 hqw21.out).mono ?_
       rintro e w22 ⟨rfl, hbw22⟩
       have hqw22 := Lib.hid (hqw21.out.trans (hbw22.mono hqw21.out.size))
       clear hbw22 y0 y1 y2 y3 y4
       have hTb9 := hTb.out w22 hqw22.out
       have y0 := Xp.cell_blk hTb9 (i := 0) rfl
       have y1 := Xp.cell_blk hTb9 (i := 1) rfl
       have y2 := Xp.cell_blk hTb9 (i := 2) rfl
       have y3 := Xp.cell_blk hTb9 (i := 3) rfl
       have y4 := Xp.cell_blk hTb9 (i := 4) rfl
       clear hTb9
       cases C4 with
       | true =>
        have hRf : Hid (R = false) := Lib.hid (by rw [← hR.out]; simp)
        have hfin := Lib.hid (hbaH.out.trans (hqw22.out.mono hbaH.out.size))
        clear hR
        go_wp2_with fail
        (try simp only [Exit.inBlock, Exit.then])
        go_ret
        exact ⟨by rw [hRf.out]; rfl, hfin.out⟩
       | false =>
        go_wp2_with fail
        refine (hbk.out w22 hqw22.out).mono ?_
        rintro e wq ⟨rfl, hwq⟩
        replace hwq := hwq.symm
        subst hwq
        cases BL with
        | true =>
         have hRf : Hid (R = false) := Lib.hid (by rw [← hR.out]; simp)
         have hfin := Lib.hid (hbaH.out.trans (hqw22.out.mono hbaH.out.size))
         clear hR
         go_wp2_with fail
         (try simp only [Exit.inBlock, Exit.then])
         go_ret
         exact ⟨by rw [hRf.out]; rfl, hfin.out⟩
        | false =>
         have hRf : Hid (R = true) := Lib.hid (by rw [← hR.out]; simp)
         have hfin := Lib.hid (hbaH.out.trans (hqw22.out.mono hbaH.out.size))
         clear hR
         go_wp2_with fail
         (try simp only [Exit.inBlock, Exit.then])
         go_ret
         exact ⟨by rw [hRf.out]; rfl, hfin.out⟩
  rw [if_neg h4] at hRe
  have k4 : (kd == 4) = false := by simpa using h4
  have hR := Lib.hid hRe
  clear hnc hcc1 hcc3 hcc4 hlc h2 h3 h4 ez1 ez2 hRe
  go_enter Tryz.func17, Tryz.ntmps17
  go_wp2_with fail
  refine hbd.out.mono ?_
  rintro e w2 ⟨rfl, hbw2⟩
  have hqw2 := Lib.hid (hblH.out.trans (hbw2.mono hblH.out.size))
  clear hbw2 y0 y1 y2 y3 y4 hcv
  have hTb9 := hTb.out w2 hqw2.out
  have y0 := Xp.cell_blk hTb9 (i := 0) rfl
  have y1 := Xp.cell_blk hTb9 (i := 1) rfl
  have y2 := Xp.cell_blk hTb9 (i := 2) rfl
  have y3 := Xp.cell_blk hTb9 (i := 3) rfl
  have y4 := Xp.cell_blk hTb9 (i := 4) rfl
  clear hTb9
  have hRf : Hid (R = false) := Lib.hid (by rw [← hR.out])
  have hfin := Lib.hid (hbaH.out.trans (hqw2.out.mono hbaH.out.size))
  clear hR
  go_wp2_with fail
  (try simp only [Exit.inBlock, Exit.then])
  go_ret
  exact ⟨by rw [hRf.out]; rfl, hfin.out⟩
 ·have hR : Hid (R = false) := Lib.hid (by
   rw [← hRe]
   cases n1 <;> cases n2 <;> simp at hEE ⊢)
  clear hnc hcc1 hcc3 hcc4 hlc hRe ez1 ez2
  cases n1 with
  | succ n1 =>
   go_enter Tryz.func17, Tryz.ntmps17
   go_wp2_with fail
   refine hbd.out.mono ?_
   rintro e w2 ⟨rfl, hbw2⟩
   have hqw2 := Lib.hid (hblH.out.trans (hbw2.mono hblH.out.size))
   clear hbw2 y0 y1 y2 y3 y4 hcv
   have hTb9 := hTb.out w2 hqw2.out
   have y0 := Xp.cell_blk hTb9 (i := 0) rfl
   have y1 := Xp.cell_blk hTb9 (i := 1) rfl
   have y2 := Xp.cell_blk hTb9 (i := 2) rfl
   have y3 := Xp.cell_blk hTb9 (i := 3) rfl
   have y4 := Xp.cell_blk hTb9 (i := 4) rfl
   clear hTb9
   have hRf : Hid (R = false) := Lib.hid (by rw [hR.out])
   have hfin := Lib.hid (hbaH.out.trans (hqw2.out.mono hbaH.out.size))
   clear hR
   go_wp2_with fail
   (try simp only [Exit.inBlock, Exit.then])
   go_ret
   exact ⟨by rw [hRf.out]; rfl, hfin.out⟩
  | zero =>
   cases n2 with
   | succ n2 =>
    go_enter Tryz.func17, Tryz.ntmps17
    go_wp2_with fail
    refine hbd.out.mono ?_
    rintro e w2 ⟨rfl, hbw2⟩
    have hqw2 := Lib.hid (hblH.out.trans (hbw2.mono hblH.out.size))
    clear hbw2 y0 y1 y2 y3 y4 hcv
    have hTb9 := hTb.out w2 hqw2.out
    have y0 := Xp.cell_blk hTb9 (i := 0) rfl
    have y1 := Xp.cell_blk hTb9 (i := 1) rfl
    have y2 := Xp.cell_blk hTb9 (i := 2) rfl
    have y3 := Xp.cell_blk hTb9 (i := 3) rfl
    have y4 := Xp.cell_blk hTb9 (i := 4) rfl
    clear hTb9
    have hRf : Hid (R = false) := Lib.hid (by rw [hR.out])
    have hfin := Lib.hid (hbaH.out.trans (hqw2.out.mono hbaH.out.size))
    clear hR
    go_wp2_with fail
    (try simp only [Exit.inBlock, Exit.then])
    go_ret
    exact ⟨by rw [hRf.out]; rfl, hfin.out⟩
   | zero => exact absurd ⟨rfl, rfl⟩ hEE
end Go.Proofs.YtokdnhdfmgfkeaaGreatDoor.Xp
end

section
namespace Go.Proofs.YtokdnhdfmgfkeaaGreatDoor.Xp
open Go.RowKit UtfW Xl Xo Xt

theorem attrsOk_snoc : ∀ (l : List At) (seen : List Tx) (a : At), attrsOk seen (l ++ [a]) = (attrsOk seen l && (nameR a.1 && good a.2 && decide (a.1 ∉ seen ++ l.map (·.1))))
 | [], seen, a => by simp [attrsOk]
 | b :: l, seen, a => by
  rw [List.cons_append, attrsOk, attrsOk, attrsOk_snoc l, show seen ++ [b.1] ++ l.map (·.1) = seen ++ (b :: l).map (·.1) from by simp]
  simp only [Bool.and_assoc]
def lastK (was : Int) (l : List Nd) : Int := (l.getLast?.map (·.kind)).getD was
theorem fairL_snoc : ∀ (l : List Nd) (was : Int) (x : Nd), fairL was (l ++ [x]) = (fairL was l && (fairN x && !(decide (lastK was l = 2) && decide (x.kind = 2))))
 | [], was, x => by
  rw [List.nil_append, fairL, fairL, fairL, Bool.and_true, Bool.true_and]
  rfl
 | b :: l, was, x => by
  rw [List.cons_append, fairL, fairL, fairL_snoc l]
  have : lastK b.kind l = lastK was (b :: l) := by
   unfold lastK
   rw [List.getLast?_cons]
   cases l.getLast? <;> rfl
  rw [this]
  simp [Bool.and_assoc]
theorem mem_snoc_dec {a : Tx} {l : List Tx} {b : Tx} : decide (a ∉ l ++ [b]) = (decide (a ∉ l) && decide (a ≠ b)) := by
 rw [← Bool.decide_and, decide_eq_decide]
 simp [not_or]
theorem sq_some {α : Type} {El : World → List Value → α → Prop} {k : Nat} {w : World} {A : Option Addr} {n c : Nat} {l : List α} (h : Sq El k w A n c l) (hn : 0 < n) : ∃ b off, A = some ⟨b, off, none⟩ := by
 obtain ⟨b, off, e, _⟩ := h.cell hn
 exact ⟨b, off, e⟩
theorem at_attr {w : World} {b off n c i : Nat} {l : List At} (h : Sq AtEl 2 w (some ⟨b, off, none⟩) n c l) (hi : i < n) :
  ∃ a, l[i]? = some a ∧ w.cell? ⟨b, off + i * 2, none⟩ = some (.string (strOf a.1)) ∧ w.cell? ⟨b, off + i * 2 + 1, none⟩ = some (.string (strOf a.2)) := by
 obtain ⟨b1, off1, ax, vs1, e, _, hx1, _, hv1, hc1⟩ := h.at_ hi
 injection e with e
 injection e with e1 e2
 subst e1
 subst e2
 unfold AtEl at hv1
 subst hv1
 exact ⟨ax, hx1, hc1 0 _ rfl, hc1 1 _ rfl⟩
theorem at_attr_ {w : World} {b off n c i : Nat} {l : List At} {a : At} (h : Sq AtEl 2 w (some ⟨b, off, none⟩) n c l) (hx : l[i]? = some a) :
  w.cell? ⟨b, off + i * 2, none⟩ = some (.string (strOf a.1)) ∧ w.cell? ⟨b, off + i * 2 + 1, none⟩ = some (.string (strOf a.2)) := by
 have hi : i < n := by rw [← h.len]; exact (List.getElem?_eq_some_iff.1 hx).1
 obtain ⟨a', h1, h2⟩ := at_attr h hi
 rw [hx] at h1
 injection h1 with h1
 subst h1
 exact h2
theorem at_kind {X : Nat → Prop} {w : World} {b off n c i : Nat} {l : List Nd} {x : Nd} (h : Sq (NdE X) 5 w (some ⟨b, off, none⟩) n c l) (hi : i < n) (hx : l[i]? = some x) : w.cell? ⟨b, off + i * 5, none⟩ = some (.int .i64 x.kind) := by
 obtain ⟨b1, off1, y, vs1, e, _, hx1, _, hv1, hc1⟩ := h.at_ hi
 injection e with e
 injection e with e1 e2
 subst e1
 subst e2
 rw [hx1] at hx
 injection hx with hx
 subst hx
 obtain ⟨kx, nx_, tx_, ax, kx_⟩ := y
 obtain ⟨Ax, cax, A2x, c2x, rfl, -⟩ := hv1.cells
 exact hc1 0 _ rfl
def RFairAt (X : Nat → Prop) (x : Nd) : Prop := ∀ (vs : List Value) (w' : World), NdI X w' vs x → (∀ j, X j → j < w'.heap.size) →
 Calls Tryz.prog 17 #[.agg vs.toArray] w' fun e w'' => e = .returned (.bool (fairN x)) ∧ Below w'.heap.size w' w''
set_option maxHeartbeats 32000000 in
set_option maxRecDepth 100000 in
theorem rFair_any : ∀ (k : Nat) (X : Nat → Prop) (n : Nd), SizeOf.sizeOf n ≤ k → smN n → RFairAt X n := by
  intro k
  induction k with
  | zero =>
    intro X n hk
    obtain ⟨kd, nm, tx, as_, ks⟩ := n
    simp at hk
  | succ k ih =>
    intro X n hk hsm vs w hn hX
    obtain ⟨kd, nm, tx, as_, ks⟩ := n
    obtain ⟨A, ca, A2, c2, rfl, hA, hKs, hXA, hXK⟩ := hn.cells
    rw [smN] at hsm
    obtain ⟨z1, z2, z3, z4⟩ := hsm
    by_cases h1 : kd ≠ 1
    · exact rfair_rest w kd nm tx as_ ks A ca A2 c2 h1 z1 z2
    obtain rfl : kd = 1 := Classical.not_not.1 h1
    have hF := Lib.hid (show ∀ (i : Nat) x, ks[i]? = some x → RFairAt X x from fun i x hx => ih X x (by
      have := kid_lt (k := 1) (nm := nm) (tx := tx) (as_ := as_) hx
      omega) (smL_mem z4 hx))
    clear ih hk z4 h1
    obtain ⟨n1, hn1⟩ : ∃ n, as_.length = n := ⟨_, rfl⟩
    obtain ⟨n2, hn2⟩ : ∃ n, ks.length = n := ⟨_, rfl⟩
    rw [hn1] at hA
    rw [hn2] at hKs
    rw [hn1, hn2]
    have hn1H := Lib.hid hn1
    have hn2H := Lib.hid hn2
    have hsA := Lib.hid z3.2
    have hm1 : n1 ≤ 1000000 := by rw [← hn1]; exact z3.1
    have hm2 : n2 ≤ 9223372036854775807 := Nat.le_trans hKs.le hKs.max
    clear hn1 hn2
    obtain ⟨S1, hS1⟩ : ∃ S, strOf nm = S := ⟨_, rfl⟩
    obtain ⟨S2, hS2⟩ : ∃ S, strOf tx = S := ⟨_, rfl⟩
    rw [hS1, hS2]
    have hba := below_alloc w (.cells #[.int .i64 1, .string S1, .string S2, .slice A n1 ca, .slice A2 n2 c2] 25)
    have hnb := heap_alloc_new w (.cells #[.int .i64 1, .string S1, .string S2, .slice A n1 ca, .slice A2 n2 c2] 25)
    obtain ⟨T, hT⟩ : ∃ T, w.heap.size = T := ⟨_, rfl⟩
    obtain ⟨w1, hw1⟩ : ∃ w1, w.alloc (.cells #[.int .i64 1, .string S1, .string S2, .slice A n1 ca, .slice A2 n2 c2] 25) = w1 := ⟨_, rfl⟩
    rw [hw1] at hba hnb
    rw [hT] at hnb
    have hTb : Hid (∀ x, Below w1.heap.size w1 x → x.heap[T]? = some (.cells #[.int .i64 1, .string S1, .string S2, .slice A n1 ca, .slice A2 n2 c2] 25)) := Lib.hid fun x hx => (hx.block T (Array.getElem?_eq_some_iff.1 hnb).1).trans hnb
    have hlow : ∀ x, Below w1.heap.size w1 x → Below w.heap.size w x := fun x hx => hba.trans (hx.mono hba.size)
    replace hA : Hid (∀ z, Below w1.heap.size w1 z → Sq AtEl 2 z A n1 ca as_) := Lib.hid fun z hz => hA.below AtEl.to (hlow z hz)
    have hK : Hid (∀ z, Below w1.heap.size w1 z → Sq (NdE X) 5 z A2 n2 c2 ks) := Lib.hid fun z hz => sq_keep hKs (hlow z hz) (fun vs y h => NdI.later h hX (hlow z hz))
    have hXb : Hid (∀ j, X j → j < w1.heap.size) := Lib.hid fun j hj => Nat.lt_of_lt_of_le (hX j hj) hba.size
    have hnc := Lib.hid (fun (x : World) (_hx : Below w1.heap.size w1 x) => refName_any S1 (by rw [← hS1, strOf_size']; omega) x)
    have e1 : S1.data.toList = nm := by rw [← hS1]; simp [strOf]
    rw [e1] at hnc
    have hz : S2.size = tx.length := by rw [← hS2]; exact strOf_size' tx
    obtain ⟨hbs, hbl⟩ := bs_convert w1 S2 (by omega)
    have e2 : S2.data.toList = tx := by rw [← hS2]; simp [strOf]
    rw [e2] at hbs
    have hcv := Lib.run_convert_string_bytes (P := Tryz.prog) w1 9 41 5 S2 Tryz.underlying9 Tryz.underlying41 Tryz.underlying5
    have hbd := Lib.hid (refBad_any _ _ _ tx (by omega) (Lib.bytesWorld w1 5 S2) hbs)
    have hblH := Lib.hid hbl
    have y0 : w1.cell? ⟨T, 0, none⟩ = some (.int .i64 1) := Xp.cell_blk hnb rfl
    have y1 : w1.cell? ⟨T, 1, none⟩ = some (.string S1) := Xp.cell_blk hnb rfl
    have y2 : w1.cell? ⟨T, 2, none⟩ = some (.string S2) := Xp.cell_blk hnb rfl
    have y3 : w1.cell? ⟨T, 3, none⟩ = some (.slice A n1 ca) := Xp.cell_blk hnb rfl
    have y4 : w1.cell? ⟨T, 4, none⟩ = some (.slice A2 n2 c2) := Xp.cell_blk hnb rfl
    have hbaH := Lib.hid hba
    have ez2 : S2.toList.isEmpty = tx.isEmpty := by rw [← hS2, strOf_empty]
    clear hn hKs hXA hXK hX hlow hnb hba e1 e2 z1 z2 z3 hS1 hS2 hbs hbl hz
    obtain ⟨NM, hNM⟩ : ∃ b, nameR nm = b := ⟨_, rfl⟩
    rw [hNM] at hnc
    obtain ⟨BW, hBW⟩ : ∃ b, badW tx 0 = b := ⟨_, rfl⟩
    rw [hBW] at hbd
    obtain ⟨R, hRe⟩ : ∃ R, fairN (.mk 1 nm tx as_ ks) = R := ⟨_, rfl⟩
    rw [hRe]
    by_cases hg : 0 ≤ BW
    · have g1 : decide (0 ≤ BW) = true := decide_eq_true hg
      have hRf : Hid (R = false) := Lib.hid (by
        rw [← hRe, Bool.eq_false_iff]
        intro hc
        have := fair_good hc
        unfold good at this
        rw [hBW, decide_eq_true_eq] at this
        omega)
      clear hRe hBW hNM ez2 hnc hF hA hK hXb hn1H hn2H hsA
      go_enter Tryz.func17, Tryz.ntmps17
      go_wp2_with fail
      refine hbd.out.mono ?_
      rintro e w2 ⟨rfl, hbw2⟩
      have hqw2 := Lib.hid (hblH.out.trans (hbw2.mono hblH.out.size))
      clear hbw2 y0 y1 y2 y3 y4 hcv
      have hTb9 := hTb.out w2 hqw2.out
      have y0 := Xp.cell_blk hTb9 (i := 0) rfl
      have y1 := Xp.cell_blk hTb9 (i := 1) rfl
      have y2 := Xp.cell_blk hTb9 (i := 2) rfl
      have y3 := Xp.cell_blk hTb9 (i := 3) rfl
      have y4 := Xp.cell_blk hTb9 (i := 4) rfl
      clear hTb9
      have hfin := Lib.hid (hbaH.out.trans (hqw2.out.mono hbaH.out.size))
      go_wp2_with fail
      (try simp only [Exit.inBlock, Exit.then])
      go_ret
      exact ⟨by rw [hRf.out]; rfl, hfin.out⟩
    have g1 : decide (0 ≤ BW) = false := decide_eq_false hg
    obtain ⟨B0, hB0⟩ : ∃ b, (NM && decide (tx = [])) = b := ⟨_, rfl⟩
    have hR : Hid (R = (B0 && attrsOk [] as_ && fairL 0 ks)) := Lib.hid (by
      rw [← hRe, fairN, if_pos rfl, hNM, hB0])
    clear hBW hNM hRe
    have hB0H := Lib.hid hB0
    clear hB0
    go_enter Tryz.func17, Tryz.ntmps17
    go_wp2_with fail
    refine hbd.out.mono ?_
    rintro e w2 ⟨rfl, hbw2⟩
    have hqw2 := Lib.hid (hblH.out.trans (hbw2.mono hblH.out.size))
    clear hbw2 y0 y1 y2 y3 y4 hcv
    have hTb9 := hTb.out w2 hqw2.out
    have y0 := Xp.cell_blk hTb9 (i := 0) rfl
    have y1 := Xp.cell_blk hTb9 (i := 1) rfl
    have y2 := Xp.cell_blk hTb9 (i := 2) rfl
    have y3 := Xp.cell_blk hTb9 (i := 3) rfl
    have y4 := Xp.cell_blk hTb9 (i := 4) rfl
    clear hTb9
    go_wp2_with fail
    refine (hnc.out w2 hqw2.out).mono ?_
    rintro e w3 ⟨rfl, hbw3⟩
    have hqw3 := Lib.hid (hqw2.out.trans (hbw3.mono hqw2.out.size))
    clear hbw3 y0 y1 y2 y3 y4 hnc hbd hblH hqw2
    have hTb9 := hTb.out w3 hqw3.out
    have y0 := Xp.cell_blk hTb9 (i := 0) rfl
    have y1 := Xp.cell_blk hTb9 (i := 1) rfl
    have y2 := Xp.cell_blk hTb9 (i := 2) rfl
    have y3 := Xp.cell_blk hTb9 (i := 3) rfl
    have y4 := Xp.cell_blk hTb9 (i := 4) rfl
    clear hTb9
    rcases Bool.eq_false_or_eq_true NM with rfl | rfl
    · cases tx with
      | nil =>
        have e2 : S2.toList.isEmpty = true := ez2
        have hbv : Hid (B0 = true) := Lib.hid (by rw [← hB0H.out]; rfl)
        clear ez2
        go_wp2_with fail
        clear y0 y1 y2 y3 y4
        go_loopw [3, 4] (fun v3 v4 wr => ∃ (i : Nat) (OK : Bool), i ≤ n1 ∧ v4 = .int .i64 (i : Nat) ∧ v3 = .bool OK ∧ Hid (OK = (B0 && attrsOk [] (as_.take i))) ∧ Hid (Below w1.heap.size w1 wr)) (fun _ v4 _ => n1 - (intOf v4).toNat)
        case atStart => exact ⟨0, _, by omega, rfl, rfl, Lib.hid (by rw [hbv.out]; rfl), hqw3⟩
        case round =>
          obtain ⟨i, OK, hi, rfl, rfl, hok, hqwr⟩ := hrel
          have hTb9 := hTb.out wr hqwr.out
          have y0 := Xp.cell_blk hTb9 (i := 0) rfl
          have y1 := Xp.cell_blk hTb9 (i := 1) rfl
          have y2 := Xp.cell_blk hTb9 (i := 2) rfl
          have y3 := Xp.cell_blk hTb9 (i := 3) rfl
          have y4 := Xp.cell_blk hTb9 (i := 4) rfl
          clear hTb9
          by_cases hlt : i < n1
          · have i1 : decide ((i : Int) < (n1 : Int)) = true := by simp; omega
            have q1 : (i : Int) < (n1 : Int) := by omega
            obtain ⟨b1, off1, rfl⟩ := sq_some (hA.out wr hqwr.out) (show 0 < n1 by omega)
            obtain ⟨ax, hx1, m0, m1⟩ := at_attr (hA.out wr hqwr.out) hlt
            have hxH := Lib.hid hx1
            obtain ⟨hs1, hs2⟩ := hsA.out ax (List.mem_of_getElem? hx1)
            clear hx1
            cases OK with
            | false =>
              clear hs1 hs2
              have hnow : Hid (false = (B0 && attrsOk [] (as_.take i) && (nameR ax.1 && good ax.2))) := Lib.hid (by rw [← hok.out]; rfl)
              clear hok
              go_wp2_with fail
              clear y0 y1 y2 y3 y4
              go_loopw [3, 5] (fun v3 v5 wq => ∃ (k : Nat) (OK2 : Bool), k ≤ i ∧ v5 = .int .i64 (k : Nat) ∧ v3 = .bool OK2 ∧ Hid (OK2 = (false && decide (ax.1 ∉ (as_.take k).map (·.1)))) ∧ Hid (Below w1.heap.size w1 wq)) (fun _ v5 _ => i - (intOf v5).toNat)
              case atStart => exact ⟨0, false, by omega, rfl, rfl, Lib.hid (by simp), hqwr⟩
              case round =>
                obtain ⟨k, OK2, hk, rfl, rfl, hok2, hqwq⟩ := hrel
                have hTb9 := hTb.out _ hqwq.out
                have y0 := Xp.cell_blk hTb9 (i := 0) rfl
                have y1 := Xp.cell_blk hTb9 (i := 1) rfl
                have y2 := Xp.cell_blk hTb9 (i := 2) rfl
                have y3 := Xp.cell_blk hTb9 (i := 3) rfl
                have y4 := Xp.cell_blk hTb9 (i := 4) rfl
                clear hTb9
                by_cases hkl : k < i
                · have j1 : decide ((k : Int) < (i : Int)) = true := by simp; omega
                  have j2 : (k : Int) < (i : Int) := by omega
                  have j3 : (k : Int) < (n1 : Int) := by omega
                  obtain ⟨ay, hy1, p0, -⟩ := at_attr (hA.out _ hqwq.out) (show k < n1 by omega)
                  have p1 := (at_attr_ (hA.out _ hqwq.out) hxH.out).1
                  have hbd9 := Lib.hid (hqwq.out.trans ((Joins.below_draws _ _ 1).mono hqwq.out.size))
                  have hst := (⟨y3, p0, p1⟩ : _ ∧ _ ∧ _)
                  have hyH := Lib.hid hy1
                  have heq := str_eq_iff ay.1 ax.1
                  clear hy1
                  cases OK2 with
                  | false =>
                    have hnext : Hid (false = (false && decide (ax.1 ∉ (as_.take (k + 1)).map (·.1)))) := Lib.hid (by
                      rw [take_snoc hyH.out, List.map_append, List.map_cons, List.map_nil, mem_snoc_dec, ← Bool.and_assoc, ← hok2.out, Bool.false_and])
                    clear hok2
                    go_wp2_with fail
                    refine Pl.wp_region_plan 14 (.take 0 (.take 1 (.take 2 (.take 3 (.take 4 (.take 5 (.take 6 (.take 7 (.take 8 (.take 9 (.take 10 (.take 11 (.take 12 (.take 13 .done)))))))))))))) (fun x => x.cell? ⟨T, 3, none⟩ = some (.slice (some ⟨b1, off1, none⟩) n1 ca) ∧ x.cell? ⟨b1, off1 + k * 2, none⟩ = some (.string (strOf ay.1)) ∧ x.cell? ⟨b1, off1 + i * 2, none⟩ = some (.string (strOf ax.1))) (by kernel_rfl) (by kernel_rfl) (by exact hst) ?_
                    simp only [Pl.fill, List.getElem?_cons_zero, List.getElem?_cons_succ, List.drop_succ_cons, List.drop_zero]
                    iterate 14
                      first
                      | (refine Pl.take_go ?_ (by rfl) (fun _ _ _ h => h) ?_ ?_
                         rotate_left
                         · (intro x hSw; (try dsimp only at hSw); go_simp; try with_reducible rfl)
                         (try simp only [Act.put, List.setIfInBounds_toArray, List.set_cons_zero, List.set_cons_succ]))
                      | (refine Pl.take_skip (by rfl) (fun _ _ _ h => h) ?_
                         (try simp only [Act.put, List.setIfInBounds_toArray, List.set_cons_zero, List.set_cons_succ]))
                    refine Pl.done_go ?_
                    clear hst
                    go_wp2_with fail
                    go_roundw
                    case rel => exact ⟨k + 1, false, by omega, by go_num, rfl, hnext, hbd9⟩
                    case measure => simp [intOf]; omega
                  | true =>
                    have hnext : Hid (decide (ax.1 ≠ ay.1) = (false && decide (ax.1 ∉ (as_.take (k + 1)).map (·.1)))) := Lib.hid (by
                      rw [take_snoc hyH.out, List.map_append, List.map_cons, List.map_nil, mem_snoc_dec, ← Bool.and_assoc, ← hok2.out, Bool.true_and])
                    clear hok2
                    by_cases hxy : ay.1 = ax.1
                    · rw [decide_eq_true hxy] at heq
                      rw [decide_eq_false (show ¬ (ax.1 ≠ ay.1) from fun h => h hxy.symm)] at hnext
                      go_wp2_with fail
                      refine Pl.wp_region_plan 14 (.take 0 (.take 1 (.take 2 (.take 3 (.take 4 (.take 5 (.take 6 (.take 7 (.take 8 (.take 9 (.take 10 (.take 11 (.take 12 (.take 13 .done)))))))))))))) (fun x => x.cell? ⟨T, 3, none⟩ = some (.slice (some ⟨b1, off1, none⟩) n1 ca) ∧ x.cell? ⟨b1, off1 + k * 2, none⟩ = some (.string (strOf ay.1)) ∧ x.cell? ⟨b1, off1 + i * 2, none⟩ = some (.string (strOf ax.1))) (by kernel_rfl) (by kernel_rfl) (by exact hst) ?_
                      simp only [Pl.fill, List.getElem?_cons_zero, List.getElem?_cons_succ, List.drop_succ_cons, List.drop_zero]
                      iterate 14
                        first
                        | (refine Pl.take_go ?_ (by rfl) (fun _ _ _ h => h) ?_ ?_
                           rotate_left
                           · (intro x hSw; (try dsimp only at hSw); go_simp; try with_reducible rfl)
                           (try simp only [Act.put, List.setIfInBounds_toArray, List.set_cons_zero, List.set_cons_succ]))
                        | (refine Pl.take_skip (by rfl) (fun _ _ _ h => h) ?_
                           (try simp only [Act.put, List.setIfInBounds_toArray, List.set_cons_zero, List.set_cons_succ]))
                      refine Pl.done_go ?_
                      clear hst hxy
                      go_wp2_with fail
                      go_roundw
                      case rel => exact ⟨k + 1, false, by omega, by go_num, rfl, hnext, hbd9⟩
                      case measure => simp [intOf]; omega
                    · rw [decide_eq_false hxy] at heq
                      rw [decide_eq_true (show ax.1 ≠ ay.1 from fun h => hxy h.symm)] at hnext
                      go_wp2_with fail
                      refine Pl.wp_region_plan 14 (.take 0 (.take 1 (.take 2 (.take 3 (.take 4 (.take 5 (.take 6 (.take 7 (.take 8 (.take 9 (.take 10 (.take 11 (.take 12 (.take 13 .done)))))))))))))) (fun x => x.cell? ⟨T, 3, none⟩ = some (.slice (some ⟨b1, off1, none⟩) n1 ca) ∧ x.cell? ⟨b1, off1 + k * 2, none⟩ = some (.string (strOf ay.1)) ∧ x.cell? ⟨b1, off1 + i * 2, none⟩ = some (.string (strOf ax.1))) (by kernel_rfl) (by kernel_rfl) (by exact hst) ?_
                      simp only [Pl.fill, List.getElem?_cons_zero, List.getElem?_cons_succ, List.drop_succ_cons, List.drop_zero]
                      iterate 14
                        first
                        | (refine Pl.take_go ?_ (by rfl) (fun _ _ _ h => h) ?_ ?_
                           rotate_left
                           · (intro x hSw; (try dsimp only at hSw); go_simp; try with_reducible rfl)
                           (try simp only [Act.put, List.setIfInBounds_toArray, List.set_cons_zero, List.set_cons_succ]))
                        | (refine Pl.take_skip (by rfl) (fun _ _ _ h => h) ?_
                           (try simp only [Act.put, List.setIfInBounds_toArray, List.set_cons_zero, List.set_cons_succ]))
                      refine Pl.done_go ?_
                      clear hst hxy
                      go_wp2_with fail
                      go_roundw
                      case rel => exact ⟨k + 1, true, by omega, by go_num, rfl, hnext, hbd9⟩
                      case measure => simp [intOf]; omega
                · have hki : k = i := by omega
                  subst hki
                  have j1 : decide ((k : Int) < (k : Int)) = false := by simp
                  have hnext : Hid (OK2 = (B0 && attrsOk [] (as_.take (k + 1)))) := Lib.hid (by
                    rw [take_snoc hxH.out, attrsOk_snoc, List.nil_append, hok2.out, hnow.out]
                    simp [Bool.and_assoc])
                  clear hok2 hnow
                  go_wp2_with fail
                  go_roundw
                  case rel => exact ⟨k + 1, OK2, by omega, by go_num, rfl, hnext, hqwq⟩
                  case measure => simp [intOf]; omega
            | true =>
              have hna := Lib.hid (refName_any (strOf ax.1) (by rw [strOf_size']; omega) wr)
              rw [strOf_data'] at hna
              obtain ⟨NA, hNA⟩ : ∃ b, nameR ax.1 = b := ⟨_, rfl⟩
              rw [hNA] at hna
              have hNAH := Lib.hid hNA
              clear hNA
              obtain ⟨SV, hSV⟩ : ∃ S, strOf ax.2 = S := ⟨_, rfl⟩
              rw [hSV] at m1
              have hSVH := Lib.hid hSV
              have hs2H := Lib.hid hs2
              clear hSV hs1 hs2
              go_wp2_with fail
              refine hna.out.mono ?_
              rintro e w4 ⟨rfl, hb4⟩
              have hqw4 := Lib.hid (hqwr.out.trans (hb4.mono hqwr.out.size))
              clear hb4 hna m0 m1 y0 y1 y2 y3 y4
              have hTb9 := hTb.out w4 hqw4.out
              have y0 := Xp.cell_blk hTb9 (i := 0) rfl
              have y1 := Xp.cell_blk hTb9 (i := 1) rfl
              have y2 := Xp.cell_blk hTb9 (i := 2) rfl
              have y3 := Xp.cell_blk hTb9 (i := 3) rfl
              have y4 := Xp.cell_blk hTb9 (i := 4) rfl
              clear hTb9
              cases NA with
              | false =>
                have hnow : Hid (false = (B0 && attrsOk [] (as_.take i) && (nameR ax.1 && good ax.2))) := Lib.hid (by rw [hNAH.out]; simp)
                clear hok
                go_wp2_with fail
                clear y0 y1 y2 y3 y4
                go_loopw [3, 5] (fun v3 v5 wq => ∃ (k : Nat) (OK2 : Bool), k ≤ i ∧ v5 = .int .i64 (k : Nat) ∧ v3 = .bool OK2 ∧ Hid (OK2 = (false && decide (ax.1 ∉ (as_.take k).map (·.1)))) ∧ Hid (Below w1.heap.size w1 wq)) (fun _ v5 _ => i - (intOf v5).toNat)
                case atStart => exact ⟨0, false, by omega, rfl, rfl, Lib.hid (by simp), hqw4⟩
                case round =>
                  obtain ⟨k, OK2, hk, rfl, rfl, hok2, hqwq⟩ := hrel
                  have hTb9 := hTb.out _ hqwq.out
                  have y0 := Xp.cell_blk hTb9 (i := 0) rfl
                  have y1 := Xp.cell_blk hTb9 (i := 1) rfl
                  have y2 := Xp.cell_blk hTb9 (i := 2) rfl
                  have y3 := Xp.cell_blk hTb9 (i := 3) rfl
                  have y4 := Xp.cell_blk hTb9 (i := 4) rfl
                  clear hTb9
                  by_cases hkl : k < i
                  · have j1 : decide ((k : Int) < (i : Int)) = true := by simp; omega
                    have j2 : (k : Int) < (i : Int) := by omega
                    have j3 : (k : Int) < (n1 : Int) := by omega
                    obtain ⟨ay, hy1, p0, -⟩ := at_attr (hA.out _ hqwq.out) (show k < n1 by omega)
                    have p1 := (at_attr_ (hA.out _ hqwq.out) hxH.out).1
                    have hbd9 := Lib.hid (hqwq.out.trans ((Joins.below_draws _ _ 1).mono hqwq.out.size))
                    have hst := (⟨y3, p0, p1⟩ : _ ∧ _ ∧ _)
                    have hyH := Lib.hid hy1
                    have heq := str_eq_iff ay.1 ax.1
                    clear hy1
                    cases OK2 with
                    | false =>
                      have hnext : Hid (false = (false && decide (ax.1 ∉ (as_.take (k + 1)).map (·.1)))) := Lib.hid (by
                        rw [take_snoc hyH.out, List.map_append, List.map_cons, List.map_nil, mem_snoc_dec, ← Bool.and_assoc, ← hok2.out, Bool.false_and])
                      clear hok2
                      go_wp2_with fail
                      refine Pl.wp_region_plan 14 (.take 0 (.take 1 (.take 2 (.take 3 (.take 4 (.take 5 (.take 6 (.take 7 (.take 8 (.take 9 (.take 10 (.take 11 (.take 12 (.take 13 .done)))))))))))))) (fun x => x.cell? ⟨T, 3, none⟩ = some (.slice (some ⟨b1, off1, none⟩) n1 ca) ∧ x.cell? ⟨b1, off1 + k * 2, none⟩ = some (.string (strOf ay.1)) ∧ x.cell? ⟨b1, off1 + i * 2, none⟩ = some (.string (strOf ax.1))) (by kernel_rfl) (by kernel_rfl) (by exact hst) ?_
                      simp only [Pl.fill, List.getElem?_cons_zero, List.getElem?_cons_succ, List.drop_succ_cons, List.drop_zero]
                      iterate 14
                        first
                        | (refine Pl.take_go ?_ (by rfl) (fun _ _ _ h => h) ?_ ?_
                           rotate_left
                           · (intro x hSw; (try dsimp only at hSw); go_simp; try with_reducible rfl)
                           (try simp only [Act.put, List.setIfInBounds_toArray, List.set_cons_zero, List.set_cons_succ]))
                        | (refine Pl.take_skip (by rfl) (fun _ _ _ h => h) ?_
                           (try simp only [Act.put, List.setIfInBounds_toArray, List.set_cons_zero, List.set_cons_succ]))
                      refine Pl.done_go ?_
                      clear hst
                      go_wp2_with fail
                      go_roundw
                      case rel => exact ⟨k + 1, false, by omega, by go_num, rfl, hnext, hbd9⟩
                      case measure => simp [intOf]; omega
                    | true =>
                      have hnext : Hid (decide (ax.1 ≠ ay.1) = (false && decide (ax.1 ∉ (as_.take (k + 1)).map (·.1)))) := Lib.hid (by
                        rw [take_snoc hyH.out, List.map_append, List.map_cons, List.map_nil, mem_snoc_dec, ← Bool.and_assoc, ← hok2.out, Bool.true_and])
                      clear hok2
                      by_cases hxy : ay.1 = ax.1
                      · rw [decide_eq_true hxy] at heq
                        rw [decide_eq_false (show ¬ (ax.1 ≠ ay.1) from fun h => h hxy.symm)] at hnext
                        go_wp2_with fail
                        refine Pl.wp_region_plan 14 (.take 0 (.take 1 (.take 2 (.take 3 (.take 4 (.take 5 (.take 6 (.take 7 (.take 8 (.take 9 (.take 10 (.take 11 (.take 12 (.take 13 .done)))))))))))))) (fun x => x.cell? ⟨T, 3, none⟩ = some (.slice (some ⟨b1, off1, none⟩) n1 ca) ∧ x.cell? ⟨b1, off1 + k * 2, none⟩ = some (.string (strOf ay.1)) ∧ x.cell? ⟨b1, off1 + i * 2, none⟩ = some (.string (strOf ax.1))) (by kernel_rfl) (by kernel_rfl) (by exact hst) ?_
                        simp only [Pl.fill, List.getElem?_cons_zero, List.getElem?_cons_succ, List.drop_succ_cons, List.drop_zero]
                        iterate 14
                          first
                          | (refine Pl.take_go ?_ (by rfl) (fun _ _ _ h => h) ?_ ?_
                             rotate_left
                             · (intro x hSw; (try dsimp only at hSw); go_simp; try with_reducible rfl)
                             (try simp only [Act.put, List.setIfInBounds_toArray, List.set_cons_zero, List.set_cons_succ]))
                          | (refine Pl.take_skip (by rfl) (fun _ _ _ h => h) ?_
                             (try simp only [Act.put, List.setIfInBounds_toArray, List.set_cons_zero, List.set_cons_succ]))
                        refine Pl.done_go ?_
                        clear hst hxy
                        go_wp2_with fail
                        go_roundw
                        case rel => exact ⟨k + 1, false, by omega, by go_num, rfl, hnext, hbd9⟩
                        case measure => simp [intOf]; omega
                      · rw [decide_eq_false hxy] at heq
                        rw [decide_eq_true (show ax.1 ≠ ay.1 from fun h => hxy h.symm)] at hnext
                        go_wp2_with fail
                        refine Pl.wp_region_plan 14 (.take 0 (.take 1 (.take 2 (.take 3 (.take 4 (.take 5 (.take 6 (.take 7 (.take 8 (.take 9 (.take 10 (.take 11 (.take 12 (.take 13 .done)))))))))))))) (fun x => x.cell? ⟨T, 3, none⟩ = some (.slice (some ⟨b1, off1, none⟩) n1 ca) ∧ x.cell? ⟨b1, off1 + k * 2, none⟩ = some (.string (strOf ay.1)) ∧ x.cell? ⟨b1, off1 + i * 2, none⟩ = some (.string (strOf ax.1))) (by kernel_rfl) (by kernel_rfl) (by exact hst) ?_
                        simp only [Pl.fill, List.getElem?_cons_zero, List.getElem?_cons_succ, List.drop_succ_cons, List.drop_zero]
                        iterate 14
                          first
                          | (refine Pl.take_go ?_ (by rfl) (fun _ _ _ h => h) ?_ ?_
                             rotate_left
                             · (intro x hSw; (try dsimp only at hSw); go_simp; try with_reducible rfl)
                             (try simp only [Act.put, List.setIfInBounds_toArray, List.set_cons_zero, List.set_cons_succ]))
                          | (refine Pl.take_skip (by rfl) (fun _ _ _ h => h) ?_
                             (try simp only [Act.put, List.setIfInBounds_toArray, List.set_cons_zero, List.set_cons_succ]))
                        refine Pl.done_go ?_
                        clear hst hxy
                        go_wp2_with fail
                        go_roundw
                        case rel => exact ⟨k + 1, true, by omega, by go_num, rfl, hnext, hbd9⟩
                        case measure => simp [intOf]; omega
                  · have hki : k = i := by omega
                    subst hki
                    have j1 : decide ((k : Int) < (k : Int)) = false := by simp
                    have hnext : Hid (OK2 = (B0 && attrsOk [] (as_.take (k + 1)))) := Lib.hid (by
                      rw [take_snoc hxH.out, attrsOk_snoc, List.nil_append, hok2.out, hnow.out]
                      simp [Bool.and_assoc])
                    clear hok2 hnow
                    go_wp2_with fail
                    go_roundw
                    case rel => exact ⟨k + 1, OK2, by omega, by go_num, rfl, hnext, hqwq⟩
                    case measure => simp [intOf]; omega
              | true =>
                have m1 := (at_attr_ (hA.out w4 hqw4.out) hxH.out).2
                rw [hSVH.out] at m1
                have hz : SV.size = ax.2.length := by rw [← hSVH.out]; exact strOf_size' _
                obtain ⟨hbs, hbl⟩ := bs_convert w4 SV (by have := hs2H.out; omega)
                have e9 : SV.data.toList = ax.2 := by rw [← hSVH.out, strOf_data']
                rw [e9] at hbs
                have hcv := Lib.run_convert_string_bytes (P := Tryz.prog) w4 9 41 5 SV Tryz.underlying9 Tryz.underlying41 Tryz.underlying5
                have hbd := Lib.hid (refBad_any _ _ _ ax.2 (by have := hs2H.out; omega) (Lib.bytesWorld w4 5 SV) hbs)
                have hblH := Lib.hid hbl
                obtain ⟨BA, hBA⟩ : ∃ b, badW ax.2 0 = b := ⟨_, rfl⟩
                rw [hBA] at hbd
                have hgd : Hid (good ax.2 = decide (BA < 0)) := Lib.hid (by unfold good; rw [hBA])
                clear hbs hbl e9 hz hBA
                go_wp2_with fail
                refine hbd.out.mono ?_
                rintro e w5 ⟨rfl, hb5⟩
                have hqw5 := Lib.hid (hqw4.out.trans ((hblH.out.trans (hb5.mono hblH.out.size)).mono hqw4.out.size))
                clear hb5 hcv m1 hbd hblH y0 y1 y2 y3 y4
                have hTb9 := hTb.out w5 hqw5.out
                have y0 := Xp.cell_blk hTb9 (i := 0) rfl
                have y1 := Xp.cell_blk hTb9 (i := 1) rfl
                have y2 := Xp.cell_blk hTb9 (i := 2) rfl
                have y3 := Xp.cell_blk hTb9 (i := 3) rfl
                have y4 := Xp.cell_blk hTb9 (i := 4) rfl
                clear hTb9
                by_cases hbz : BA < 0
                · have g1 : decide (BA < 0) = true := decide_eq_true hbz
                  have hnow : Hid (true = (B0 && attrsOk [] (as_.take i) && (nameR ax.1 && good ax.2))) := Lib.hid (by rw [← hok.out, hNAH.out, hgd.out, g1]; rfl)
                  clear hok hgd
                  go_wp2_with fail
                  clear y0 y1 y2 y3 y4
                  go_loopw [3, 5] (fun v3 v5 wq => ∃ (k : Nat) (OK2 : Bool), k ≤ i ∧ v5 = .int .i64 (k : Nat) ∧ v3 = .bool OK2 ∧ Hid (OK2 = (true && decide (ax.1 ∉ (as_.take k).map (·.1)))) ∧ Hid (Below w1.heap.size w1 wq)) (fun _ v5 _ => i - (intOf v5).toNat)
                  case atStart => exact ⟨0, true, by omega, rfl, rfl, Lib.hid (by simp), hqw5⟩
                  case round =>
                    obtain ⟨k, OK2, hk, rfl, rfl, hok2, hqwq⟩ := hrel
                    have hTb9 := hTb.out _ hqwq.out
                    have y0 := Xp.cell_blk hTb9 (i := 0) rfl
                    have y1 := Xp.cell_blk hTb9 (i := 1) rfl
                    have y2 := Xp.cell_blk hTb9 (i := 2) rfl
                    have y3 := Xp.cell_blk hTb9 (i := 3) rfl
                    have y4 := Xp.cell_blk hTb9 (i := 4) rfl
                    clear hTb9
                    by_cases hkl : k < i
                    · have j1 : decide ((k : Int) < (i : Int)) = true := by simp; omega
                      have j2 : (k : Int) < (i : Int) := by omega
                      have j3 : (k : Int) < (n1 : Int) := by omega
                      obtain ⟨ay, hy1, p0, -⟩ := at_attr (hA.out _ hqwq.out) (show k < n1 by omega)
                      have p1 := (at_attr_ (hA.out _ hqwq.out) hxH.out).1
                      have hbd9 := Lib.hid (hqwq.out.trans ((Joins.below_draws _ _ 1).mono hqwq.out.size))
                      have hst := (⟨y3, p0, p1⟩ : _ ∧ _ ∧ _)
                      have hyH := Lib.hid hy1
                      have heq := str_eq_iff ay.1 ax.1
                      clear hy1
                      cases OK2 with
                      | false =>
                        have hnext : Hid (false = (true && decide (ax.1 ∉ (as_.take (k + 1)).map (·.1)))) := Lib.hid (by
                          rw [take_snoc hyH.out, List.map_append, List.map_cons, List.map_nil, mem_snoc_dec, ← Bool.and_assoc, ← hok2.out, Bool.false_and])
                        clear hok2
                        go_wp2_with fail
                        refine Pl.wp_region_plan 14 (.take 0 (.take 1 (.take 2 (.take 3 (.take 4 (.take 5 (.take 6 (.take 7 (.take 8 (.take 9 (.take 10 (.take 11 (.take 12 (.take 13 .done)))))))))))))) (fun x => x.cell? ⟨T, 3, none⟩ = some (.slice (some ⟨b1, off1, none⟩) n1 ca) ∧ x.cell? ⟨b1, off1 + k * 2, none⟩ = some (.string (strOf ay.1)) ∧ x.cell? ⟨b1, off1 + i * 2, none⟩ = some (.string (strOf ax.1))) (by kernel_rfl) (by kernel_rfl) (by exact hst) ?_
                        simp only [Pl.fill, List.getElem?_cons_zero, List.getElem?_cons_succ, List.drop_succ_cons, List.drop_zero]
                        iterate 14
                          first
                          | (refine Pl.take_go ?_ (by rfl) (fun _ _ _ h => h) ?_ ?_
                             rotate_left
                             · (intro x hSw; (try dsimp only at hSw); go_simp; try with_reducible rfl)
                             (try simp only [Act.put, List.setIfInBounds_toArray, List.set_cons_zero, List.set_cons_succ]))
                          | (refine Pl.take_skip (by rfl) (fun _ _ _ h => h) ?_
                             (try simp only [Act.put, List.setIfInBounds_toArray, List.set_cons_zero, List.set_cons_succ]))
                        refine Pl.done_go ?_
                        clear hst
                        go_wp2_with fail
                        go_roundw
                        case rel => exact ⟨k + 1, false, by omega, by go_num, rfl, hnext, hbd9⟩
                        case measure => simp [intOf]; omega
                      | true =>
                        have hnext : Hid (decide (ax.1 ≠ ay.1) = (true && decide (ax.1 ∉ (as_.take (k + 1)).map (·.1)))) := Lib.hid (by
                          rw [take_snoc hyH.out, List.map_append, List.map_cons, List.map_nil, mem_snoc_dec, ← Bool.and_assoc, ← hok2.out, Bool.true_and])
                        clear hok2
                        by_cases hxy : ay.1 = ax.1
                        · rw [decide_eq_true hxy] at heq
                          rw [decide_eq_false (show ¬ (ax.1 ≠ ay.1) from fun h => h hxy.symm)] at hnext
                          go_wp2_with fail
                          refine Pl.wp_region_plan 14 (.take 0 (.take 1 (.take 2 (.take 3 (.take 4 (.take 5 (.take 6 (.take 7 (.take 8 (.take 9 (.take 10 (.take 11 (.take 12 (.take 13 .done)))))))))))))) (fun x => x.cell? ⟨T, 3, none⟩ = some (.slice (some ⟨b1, off1, none⟩) n1 ca) ∧ x.cell? ⟨b1, off1 + k * 2, none⟩ = some (.string (strOf ay.1)) ∧ x.cell? ⟨b1, off1 + i * 2, none⟩ = some (.string (strOf ax.1))) (by kernel_rfl) (by kernel_rfl) (by exact hst) ?_
                          simp only [Pl.fill, List.getElem?_cons_zero, List.getElem?_cons_succ, List.drop_succ_cons, List.drop_zero]
                          iterate 14
                            first
                            | (refine Pl.take_go ?_ (by rfl) (fun _ _ _ h => h) ?_ ?_
                               rotate_left
                               · (intro x hSw; (try dsimp only at hSw); go_simp; try with_reducible rfl)
                               (try simp only [Act.put, List.setIfInBounds_toArray, List.set_cons_zero, List.set_cons_succ]))
                            | (refine Pl.take_skip (by rfl) (fun _ _ _ h => h) ?_
                               (try simp only [Act.put, List.setIfInBounds_toArray, List.set_cons_zero, List.set_cons_succ]))
                          refine Pl.done_go ?_
                          clear hst hxy
                          go_wp2_with fail
                          go_roundw
                          case rel => exact ⟨k + 1, false, by omega, by go_num, rfl, hnext, hbd9⟩
                          case measure => simp [intOf]; omega
                        · rw [decide_eq_false hxy] at heq
                          rw [decide_eq_true (show ax.1 ≠ ay.1 from fun h => hxy h.symm)] at hnext
                          go_wp2_with fail
                          refine Pl.wp_region_plan 14 (.take 0 (.take 1 (.take 2 (.take 3 (.take 4 (.take 5 (.take 6 (.take 7 (.take 8 (.take 9 (.take 10 (.take 11 (.take 12 (.take 13 .done)))))))))))))) (fun x => x.cell? ⟨T, 3, none⟩ = some (.slice (some ⟨b1, off1, none⟩) n1 ca) ∧ x.cell? ⟨b1, off1 + k * 2, none⟩ = some (.string (strOf ay.1)) ∧ x.cell? ⟨b1, off1 + i * 2, none⟩ = some (.string (strOf ax.1))) (by kernel_rfl) (by kernel_rfl) (by exact hst) ?_
                          simp only [Pl.fill, List.getElem?_cons_zero, List.getElem?_cons_succ, List.drop_succ_cons, List.drop_zero]
                          iterate 14
                            first
                            | (refine Pl.take_go ?_ (by rfl) (fun _ _ _ h => h) ?_ ?_
                               rotate_left
                               · (intro x hSw; (try dsimp only at hSw); go_simp; try with_reducible rfl)
                               (try simp only [Act.put, List.setIfInBounds_toArray, List.set_cons_zero, List.set_cons_succ]))
                            | (refine Pl.take_skip (by rfl) (fun _ _ _ h => h) ?_
                               (try simp only [Act.put, List.setIfInBounds_toArray, List.set_cons_zero, List.set_cons_succ]))
                          refine Pl.done_go ?_
                          clear hst hxy
                          go_wp2_with fail
                          go_roundw
                          case rel => exact ⟨k + 1, true, by omega, by go_num, rfl, hnext, hbd9⟩
                          case measure => simp [intOf]; omega
                    · have hki : k = i := by omega
                      subst hki
                      have j1 : decide ((k : Int) < (k : Int)) = false := by simp
                      have hnext : Hid (OK2 = (B0 && attrsOk [] (as_.take (k + 1)))) := Lib.hid (by
                        rw [take_snoc hxH.out, attrsOk_snoc, List.nil_append, hok2.out, hnow.out]
                        simp [Bool.and_assoc])
                      clear hok2 hnow
                      go_wp2_with fail
                      go_roundw
                      case rel => exact ⟨k + 1, OK2, by omega, by go_num, rfl, hnext, hqwq⟩
                      case measure => simp [intOf]; omega
                · have g1 : decide (BA < 0) = false := decide_eq_false hbz
                  have hnow : Hid (false = (B0 && attrsOk [] (as_.take i) && (nameR ax.1 && good ax.2))) := Lib.hid (by rw [hgd.out, g1]; simp)
                  clear hok hgd
                  go_wp2_with fail
                  clear y0 y1 y2 y3 y4
                  go_loopw [3, 5] (fun v3 v5 wq => ∃ (k : Nat) (OK2 : Bool), k ≤ i ∧ v5 = .int .i64 (k : Nat) ∧ v3 = .bool OK2 ∧ Hid (OK2 = (false && decide (ax.1 ∉ (as_.take k).map (·.1)))) ∧ Hid (Below w1.heap.size w1 wq)) (fun _ v5 _ => i - (intOf v5).toNat)
                  case atStart => exact ⟨0, false, by omega, rfl, rfl, Lib.hid (by simp), hqw5⟩
                  case round =>
                    obtain ⟨k, OK2, hk, rfl, rfl, hok2, hqwq⟩ := hrel
                    have hTb9 := hTb.out _ hqwq.out
                    have y0 := Xp.cell_blk hTb9 (i := 0) rfl
                    have y1 := Xp.cell_blk hTb9 (i := 1) rfl
                    have y2 := Xp.cell_blk hTb9 (i := 2) rfl
                    have y3 := Xp.cell_blk hTb9 (i := 3) rfl
                    have y4 := Xp.cell_blk hTb9 (i := 4) rfl
                    clear hTb9
                    by_cases hkl : k < i
                    · have j1 : decide ((k : Int) < (i : Int)) = true := by simp; omega
                      have j2 : (k : Int) < (i : Int) := by omega
                      have j3 : (k : Int) < (n1 : Int) := by omega
                      obtain ⟨ay, hy1, p0, -⟩ := at_attr (hA.out _ hqwq.out) (show k < n1 by omega)
                      have p1 := (at_attr_ (hA.out _ hqwq.out) hxH.out).1
                      have hbd9 := Lib.hid (hqwq.out.trans ((Joins.below_draws _ _ 1).mono hqwq.out.size))
                      have hst := (⟨y3, p0, p1⟩ : _ ∧ _ ∧ _)
                      have hyH := Lib.hid hy1
                      have heq := str_eq_iff ay.1 ax.1
                      clear hy1
                      cases OK2 with
                      | false =>
                        have hnext : Hid (false = (false && decide (ax.1 ∉ (as_.take (k + 1)).map (·.1)))) := Lib.hid (by
                          rw [take_snoc hyH.out, List.map_append, List.map_cons, List.map_nil, mem_snoc_dec, ← Bool.and_assoc, ← hok2.out, Bool.false_and])
                        clear hok2
                        go_wp2_with fail
                        refine Pl.wp_region_plan 14 (.take 0 (.take 1 (.take 2 (.take 3 (.take 4 (.take 5 (.take 6 (.take 7 (.take 8 (.take 9 (.take 10 (.take 11 (.take 12 (.take 13 .done)))))))))))))) (fun x => x.cell? ⟨T, 3, none⟩ = some (.slice (some ⟨b1, off1, none⟩) n1 ca) ∧ x.cell? ⟨b1, off1 + k * 2, none⟩ = some (.string (strOf ay.1)) ∧ x.cell? ⟨b1, off1 + i * 2, none⟩ = some (.string (strOf ax.1))) (by kernel_rfl) (by kernel_rfl) (by exact hst) ?_
                        simp only [Pl.fill, List.getElem?_cons_zero, List.getElem?_cons_succ, List.drop_succ_cons, List.drop_zero]
                        iterate 14
                          first
                          | (refine Pl.take_go ?_ (by rfl) (fun _ _ _ h => h) ?_ ?_
                             rotate_left
                             · (intro x hSw; (try dsimp only at hSw); go_simp; try with_reducible rfl)
                             (try simp only [Act.put, List.setIfInBounds_toArray, List.set_cons_zero, List.set_cons_succ]))
                          | (refine Pl.take_skip (by rfl) (fun _ _ _ h => h) ?_
                             (try simp only [Act.put, List.setIfInBounds_toArray, List.set_cons_zero, List.set_cons_succ]))
                        refine Pl.done_go ?_
                        clear hst
                        go_wp2_with fail
                        go_roundw
                        case rel => exact ⟨k + 1, false, by omega, by go_num, rfl, hnext, hbd9⟩
                        case measure => simp [intOf]; omega
                      | true =>
                        have hnext : Hid (decide (ax.1 ≠ ay.1) = (false && decide (ax.1 ∉ (as_.take (k + 1)).map (·.1)))) := Lib.hid (by
                          rw [take_snoc hyH.out, List.map_append, List.map_cons, List.map_nil, mem_snoc_dec, ← Bool.and_assoc, ← hok2.out, Bool.true_and])
                        clear hok2
                        by_cases hxy : ay.1 = ax.1
                        · rw [decide_eq_true hxy] at heq
                          rw [decide_eq_false (show ¬ (ax.1 ≠ ay.1) from fun h => h hxy.symm)] at hnext
                          go_wp2_with fail
                          refine Pl.wp_region_plan 14 (.take 0 (.take 1 (.take 2 (.take 3 (.take 4 (.take 5 (.take 6 (.take 7 (.take 8 (.take 9 (.take 10 (.take 11 (.take 12 (.take 13 .done)))))))))))))) (fun x => x.cell? ⟨T, 3, none⟩ = some (.slice (some ⟨b1, off1, none⟩) n1 ca) ∧ x.cell? ⟨b1, off1 + k * 2, none⟩ = some (.string (strOf ay.1)) ∧ x.cell? ⟨b1, off1 + i * 2, none⟩ = some (.string (strOf ax.1))) (by kernel_rfl) (by kernel_rfl) (by exact hst) ?_
                          simp only [Pl.fill, List.getElem?_cons_zero, List.getElem?_cons_succ, List.drop_succ_cons, List.drop_zero]
                          iterate 14
                            first
                            | (refine Pl.take_go ?_ (by rfl) (fun _ _ _ h => h) ?_ ?_
                               rotate_left
                               · (intro x hSw; (try dsimp only at hSw); go_simp; try with_reducible rfl)
                               (try simp only [Act.put, List.setIfInBounds_toArray, List.set_cons_zero, List.set_cons_succ]))
                            | (refine Pl.take_skip (by rfl) (fun _ _ _ h => h) ?_
                               (try simp only [Act.put, List.setIfInBounds_toArray, List.set_cons_zero, List.set_cons_succ]))
                          refine Pl.done_go ?_
                          clear hst hxy
                          go_wp2_with fail
                          go_roundw
                          case rel => exact ⟨k + 1, false, by omega, by go_num, rfl, hnext, hbd9⟩
                          case measure => simp [intOf]; omega
                        · rw [decide_eq_false hxy] at heq
                          rw [decide_eq_true (show ax.1 ≠ ay.1 from fun h => hxy h.symm)] at hnext
                          go_wp2_with fail
                          refine Pl.wp_region_plan 14 (.take 0 (.take 1 (.take 2 (.take 3 (.take 4 (.take 5 (.take 6 (.take 7 (.take 8 (.take 9 (.take 10 (.take 11 (.take 12 (.take 13 .done)))))))))))))) (fun x => x.cell? ⟨T, 3, none⟩ = some (.slice (some ⟨b1, off1, none⟩) n1 ca) ∧ x.cell? ⟨b1, off1 + k * 2, none⟩ = some (.string (strOf ay.1)) ∧ x.cell? ⟨b1, off1 + i * 2, none⟩ = some (.string (strOf ax.1))) (by kernel_rfl) (by kernel_rfl) (by exact hst) ?_
                          simp only [Pl.fill, List.getElem?_cons_zero, List.getElem?_cons_succ, List.drop_succ_cons, List.drop_zero]
                          iterate 14
                            first
                            | (refine Pl.take_go ?_ (by rfl) (fun _ _ _ h => h) ?_ ?_
                               rotate_left
                               · (intro x hSw; (try dsimp only at hSw); go_simp; try with_reducible rfl)
                               (try simp only [Act.put, List.setIfInBounds_toArray, List.set_cons_zero, List.set_cons_succ]))
                            | (refine Pl.take_skip (by rfl) (fun _ _ _ h => h) ?_
                               (try simp only [Act.put, List.setIfInBounds_toArray, List.set_cons_zero, List.set_cons_succ]))
                          refine Pl.done_go ?_
                          clear hst hxy
                          go_wp2_with fail
                          go_roundw
                          case rel => exact ⟨k + 1, true, by omega, by go_num, rfl, hnext, hbd9⟩
                          case measure => simp [intOf]; omega
                    · have hki : k = i := by omega
                      subst hki
                      have j1 : decide ((k : Int) < (k : Int)) = false := by simp
                      have hnext : Hid (OK2 = (B0 && attrsOk [] (as_.take (k + 1)))) := Lib.hid (by
                        rw [take_snoc hxH.out, attrsOk_snoc, List.nil_append, hok2.out, hnow.out]
                        simp [Bool.and_assoc])
                      clear hok2 hnow
                      go_wp2_with fail
                      go_roundw
                      case rel => exact ⟨k + 1, OK2, by omega, by go_num, rfl, hnext, hqwq⟩
                      case measure => simp [intOf]; omega
          · have hie : i = n1 := by omega
            subst hie
            have i1 : decide ((i : Int) < (i : Int)) = false := by simp
            have hB1 : Hid (OK = (B0 && attrsOk [] as_)) := Lib.hid (by
              have h9 := hok.out
              rwa [List.take_of_length_le (Nat.le_of_eq hn1H.out)] at h9)
            clear hok hA
            go_wp2_with fail
            clear y0 y1 y2 y3 y4
            go_loopw [3, 6] (fun v3 v6 wq => ∃ (i : Nat) (OK2 : Bool), i ≤ n2 ∧ v6 = .int .i64 (i : Nat) ∧ v3 = .bool OK2 ∧ Hid (OK2 = (OK && fairL 0 (ks.take i))) ∧ Hid (Below w1.heap.size w1 wq)) (fun _ v6 _ => n2 - (intOf v6).toNat)
            case atStart => exact ⟨0, OK, by omega, rfl, rfl, Lib.hid (by simp [fairL]), hqwr⟩
            case round =>
              obtain ⟨q, OK2, hq, rfl, rfl, hok2, hqws⟩ := hrel
              have hTb9 := hTb.out _ hqws.out
              have y0 := Xp.cell_blk hTb9 (i := 0) rfl
              have y1 := Xp.cell_blk hTb9 (i := 1) rfl
              have y2 := Xp.cell_blk hTb9 (i := 2) rfl
              have y3 := Xp.cell_blk hTb9 (i := 3) rfl
              have y4 := Xp.cell_blk hTb9 (i := 4) rfl
              clear hTb9
              by_cases hlt3 : q < n2
              · have i3 : decide ((q : Int) < (n2 : Int)) = true := by simp; omega
                have q3 : (q : Int) < (n2 : Int) := by omega
                cases OK2 with
                | false =>
                  have hnext : Hid (false = (OK && fairL 0 (ks.take (q + 1)))) := Lib.hid (by
                    obtain ⟨x, hx⟩ : ∃ x, ks[q]? = some x := ⟨_, List.getElem?_eq_getElem (by rw [hn2H.out]; exact hlt3)⟩
                    rw [take_snoc hx, fairL_snoc, ← Bool.and_assoc, ← hok2.out, Bool.false_and])
                  clear hok2
                  go_wp2_with fail
                  go_roundw
                  case rel => exact ⟨q + 1, false, by omega, by go_num, rfl, hnext, hqws⟩
                  case measure => simp [intOf]; omega
                | true =>
                  obtain ⟨b3, off3, x, vs3, rfl, _, hx3, _, hv3, hc3⟩ := (hK.out _ hqws.out).at_ hlt3
                  have hfx := hF.out q x hx3
                  have hxH3 := Lib.hid hx3
                  have hbX := fun j (hj : X j) => Nat.lt_of_lt_of_le (hXb.out j hj) hqws.out.size
                  obtain ⟨kx, nx_, tx_, ax_, kx_⟩ := x
                  have hrec := Lib.hid (hfx _ _ hv3 hbX)
                  obtain ⟨Ax, cax, A2x, c2x, rfl, -⟩ := hv3.cells
                  have m0 := hc3 0 _ rfl
                  have m1 := hc3 1 _ rfl
                  have m2 := hc3 2 _ rfl
                  have m3 := hc3 3 _ rfl
                  have m4 := hc3 4 _ rfl
                  rw [Nat.add_zero] at m0
                  obtain ⟨FX, hFX⟩ : ∃ b, fairN (.mk kx nx_ tx_ ax_ kx_) = b := ⟨_, rfl⟩
                  rw [hFX] at hrec
                  have hFXH := Lib.hid hFX
                  clear hc3 hx3 hfx hv3 hbX hFX
                  go_wp2_with fail
                  refine hrec.out.mono ?_
                  rintro e w6 ⟨rfl, hb6⟩
                  have hqw6 := Lib.hid (hqws.out.trans (hb6.mono hqws.out.size))
                  clear hb6 hrec m0 m1 m2 m3 m4 y0 y1 y2 y3 y4
                  have hTb9 := hTb.out w6 hqw6.out
                  have y0 := Xp.cell_blk hTb9 (i := 0) rfl
                  have y1 := Xp.cell_blk hTb9 (i := 1) rfl
                  have y2 := Xp.cell_blk hTb9 (i := 2) rfl
                  have y3 := Xp.cell_blk hTb9 (i := 3) rfl
                  have y4 := Xp.cell_blk hTb9 (i := 4) rfl
                  clear hTb9
                  have k0 := at_kind (hK.out w6 hqw6.out) hlt3 hxH3.out
                  change w6.cell? _ = some (.int .i64 kx) at k0
                  have hval : Hid ((OK && fairL 0 (ks.take (q + 1))) = (FX && !(decide (lastK 0 (ks.take q) = 2) && decide (kx = 2)))) := Lib.hid (by
                    rw [take_snoc hxH3.out, fairL_snoc, ← Bool.and_assoc, ← hok2.out, hFXH.out]
                    rfl)
                  clear hok2 hFXH
                  cases FX with
                  | false =>
                    have hnext : Hid (false = (OK && fairL 0 (ks.take (q + 1)))) := Lib.hid (by rw [hval.out]; rfl)
                    clear hval
                    go_wp2_with fail
                    go_roundw
                    case rel => exact ⟨q + 1, false, by omega, by go_num, rfl, hnext, hqw6⟩
                    case measure => simp [intOf]; omega
                  | true =>
                    by_cases hq0 : q = 0
                    · subst hq0
                      have hnext : Hid (true = (OK && fairL 0 (ks.take (0 + 1)))) := Lib.hid (by rw [hval.out]; simp [lastK])
                      clear hval
                      go_wp2_with fail
                      go_roundw
                      case rel => exact ⟨0 + 1, true, by omega, by go_num, rfl, hnext, hqw6⟩
                      case measure => simp [intOf]; omega
                    · have r0 : ((q : Int) == 0) = false := by rw [beq_eq_false_iff_ne]; omega
                      by_cases h2 : kx = 2
                      · have r1 : (kx != 2) = false := by rw [h2]; rfl
                        obtain ⟨x5, hx5⟩ : ∃ x5, ks[q - 1]? = some x5 := ⟨_, List.getElem?_eq_getElem (by rw [hn2H.out]; omega)⟩
                        have k5 := at_kind (hK.out w6 hqw6.out) (show q - 1 < n2 by omega) hx5
                        obtain ⟨p, rfl⟩ : ∃ p, q = p + 1 := ⟨q - 1, by omega⟩
                        rw [Nat.add_sub_cancel] at k5 hx5
                        have hlk : lastK 0 (ks.take (p + 1)) = x5.kind := by rw [take_snoc hx5]; simp [lastK]
                        obtain ⟨kz, hkz⟩ : ∃ kz, x5.kind = kz := ⟨_, rfl⟩
                        rw [hkz] at k5 hlk
                        have p3 : (p : Int) < (n2 : Int) := by omega
                        by_cases h5 : kz = 2
                        · have r5 : (kz != 2) = false := by rw [h5]; rfl
                          have hnext : Hid (false = (OK && fairL 0 (ks.take (p + 1 + 1)))) := Lib.hid (by rw [hval.out, hlk, h5, h2]; simp)
                          clear hval h5 h2 hlk hkz hx5
                          go_wp2_with fail
                          go_roundw
                          case rel => exact ⟨p + 1 + 1, false, by omega, by go_num, rfl, hnext, hqw6⟩
                          case measure => simp [intOf]; omega
                        · have r5 : (kz != 2) = true := by simpa using h5
                          have hnext : Hid (true = (OK && fairL 0 (ks.take (p + 1 + 1)))) := Lib.hid (by rw [hval.out, hlk, decide_eq_false h5]; simp)
                          clear hval h5 h2 hlk hkz hx5
                          go_wp2_with fail
                          go_roundw
                          case rel => exact ⟨p + 1 + 1, true, by omega, by go_num, rfl, hnext, hqw6⟩
                          case measure => simp [intOf]; omega
                      · have r1 : (kx != 2) = true := by simpa using h2
                        have hnext : Hid (true = (OK && fairL 0 (ks.take (q + 1)))) := Lib.hid (by rw [hval.out, decide_eq_false h2]; simp)
                        clear hval h2
                        go_wp2_with fail
                        go_roundw
                        case rel => exact ⟨q + 1, true, by omega, by go_num, rfl, hnext, hqw6⟩
                        case measure => simp [intOf]; omega
              · have hie : q = n2 := by omega
                subst hie
                have i3 : decide ((q : Int) < (q : Int)) = false := by simp
                have hRf : Hid (R = OK2) := Lib.hid (by
                  have h9 := hok2.out
                  rw [List.take_of_length_le (Nat.le_of_eq hn2H.out)] at h9
                  rw [h9, hB1.out, hR.out])
                have hfin := Lib.hid (hbaH.out.trans (hqws.out.mono hbaH.out.size))
                clear hok2
                go_wp2_with fail
                (try simp only [Exit.inBlock, Exit.then])
                go_ret
                exact ⟨by rw [hRf.out]; rfl, hfin.out⟩
      | cons c0 r0 =>
        have e2 : S2.toList.isEmpty = false := ez2
        have hbv : Hid (B0 = false) := Lib.hid (by rw [← hB0H.out]; simp)
        clear ez2
        go_wp2_with fail
        clear y0 y1 y2 y3 y4
        go_loopw [3, 4] (fun v3 v4 wr => ∃ i : Nat, i ≤ n1 ∧ v4 = .int .i64 (i : Nat) ∧ v3 = .bool false ∧ Hid (Below w1.heap.size w1 wr)) (fun _ v4 _ => n1 - (intOf v4).toNat)
        case atStart => exact ⟨0, by omega, rfl, rfl, hqw3⟩
        case round =>
          obtain ⟨i, hi, rfl, rfl, hqwr⟩ := hrel
          have hTb9 := hTb.out wr hqwr.out
          have y0 := Xp.cell_blk hTb9 (i := 0) rfl
          have y1 := Xp.cell_blk hTb9 (i := 1) rfl
          have y2 := Xp.cell_blk hTb9 (i := 2) rfl
          have y3 := Xp.cell_blk hTb9 (i := 3) rfl
          have y4 := Xp.cell_blk hTb9 (i := 4) rfl
          clear hTb9
          by_cases hlt : i < n1
          · have i1 : decide ((i : Int) < (n1 : Int)) = true := by simp; omega
            go_wp2_with fail
            clear y0 y1 y2 y3 y4
            go_loopw [3, 5] (fun v3 v5 wq => ∃ k : Nat, k ≤ i ∧ v5 = .int .i64 (k : Nat) ∧ v3 = .bool false ∧ Hid (Below w1.heap.size w1 wq)) (fun _ v5 _ => i - (intOf v5).toNat)
            case atStart => exact ⟨0, by omega, rfl, rfl, hqwr⟩
            case round =>
              obtain ⟨k, hk, rfl, rfl, hqwq⟩ := hrel
              by_cases hkl : k < i
              · have j1 : decide ((k : Int) < (i : Int)) = true := by simp; omega
                have hbd9 := Lib.hid (hqwq.out.trans ((Joins.below_draws _ _ 1).mono hqwq.out.size))
                go_wp2_with fail
                refine Pl.wp_region_plan 14 (.take 0 (.take 1 (.take 2 (.take 3 (.take 4 (.take 5 (.take 6 (.take 7 (.take 8 (.take 9 (.take 10 (.take 11 (.take 12 (.take 13 .done)))))))))))))) (fun _ => True) (by kernel_rfl) (by kernel_rfl) (trivial) ?_
                simp only [Pl.fill, List.getElem?_cons_zero, List.getElem?_cons_succ, List.drop_succ_cons, List.drop_zero]
                iterate 14
                  first
                  | (refine Pl.take_go ?_ (by rfl) (fun _ _ _ h => h) ?_ ?_
                     rotate_left
                     · (intro x hSw; (try dsimp only at hSw); go_simp; try with_reducible rfl)
                     (try simp only [Act.put, List.setIfInBounds_toArray, List.set_cons_zero, List.set_cons_succ]))
                  | (refine Pl.take_skip (by rfl) (fun _ _ _ h => h) ?_
                     (try simp only [Act.put, List.setIfInBounds_toArray, List.set_cons_zero, List.set_cons_succ]))
                refine Pl.done_go ?_
                go_wp2_with fail
                go_roundw
                case rel => exact ⟨k + 1, by omega, by go_num, rfl, hbd9⟩
                case measure => simp [intOf]; omega
              · have hki : k = i := by omega
                subst hki
                have j1 : decide ((k : Int) < (k : Int)) = false := by simp
                go_wp2_with fail
                go_roundw
                case rel => exact ⟨k + 1, by omega, by go_num, rfl, hqwq⟩
                case measure => simp [intOf]; omega
          · have hie : i = n1 := by omega
            subst hie
            have i1 : decide ((i : Int) < (i : Int)) = false := by simp
            go_wp2_with fail
            clear y0 y1 y2 y3 y4
            go_loopw [3, 6] (fun v3 v6 wq => ∃ q : Nat, q ≤ n2 ∧ v6 = .int .i64 (q : Nat) ∧ v3 = .bool false ∧ Hid (Below w1.heap.size w1 wq)) (fun _ v6 _ => n2 - (intOf v6).toNat)
            case atStart => exact ⟨0, by omega, rfl, rfl, hqwr⟩
            case round =>
              obtain ⟨q, hq, rfl, rfl, hqws⟩ := hrel
              have hTb9 := hTb.out _ hqws.out
              have y0 := Xp.cell_blk hTb9 (i := 0) rfl
              have y1 := Xp.cell_blk hTb9 (i := 1) rfl
              have y2 := Xp.cell_blk hTb9 (i := 2) rfl
              have y3 := Xp.cell_blk hTb9 (i := 3) rfl
              have y4 := Xp.cell_blk hTb9 (i := 4) rfl
              clear hTb9
              by_cases hlt3 : q < n2
              · have i3 : decide ((q : Int) < (n2 : Int)) = true := by simp; omega
                go_wp2_with fail
                go_roundw
                case rel => exact ⟨q + 1, by omega, by go_num, rfl, hqws⟩
                case measure => simp [intOf]; omega
              · have hie : q = n2 := by omega
                subst hie
                have i3 : decide ((q : Int) < (q : Int)) = false := by simp
                have hRf : Hid (R = false) := Lib.hid (by rw [hR.out, hbv.out]; rfl)
                have hfin := Lib.hid (hbaH.out.trans (hqws.out.mono hbaH.out.size))
                go_wp2_with fail
                (try simp only [Exit.inBlock, Exit.then])
                go_ret
                exact ⟨by rw [hRf.out]; rfl, hfin.out⟩
    · have hbv : Hid (B0 = false) := Lib.hid (by rw [← hB0H.out]; rfl)
      go_wp2_with fail
      clear y0 y1 y2 y3 y4
      go_loopw [3, 4] (fun v3 v4 wr => ∃ i : Nat, i ≤ n1 ∧ v4 = .int .i64 (i : Nat) ∧ v3 = .bool false ∧ Hid (Below w1.heap.size w1 wr)) (fun _ v4 _ => n1 - (intOf v4).toNat)
      case atStart => exact ⟨0, by omega, rfl, rfl, hqw3⟩
      case round =>
        obtain ⟨i, hi, rfl, rfl, hqwr⟩ := hrel
        have hTb9 := hTb.out wr hqwr.out
        have y0 := Xp.cell_blk hTb9 (i := 0) rfl
        have y1 := Xp.cell_blk hTb9 (i := 1) rfl
        have y2 := Xp.cell_blk hTb9 (i := 2) rfl
        have y3 := Xp.cell_blk hTb9 (i := 3) rfl
        have y4 := Xp.cell_blk hTb9 (i := 4) rfl
        clear hTb9
        by_cases hlt : i < n1
        · have i1 : decide ((i : Int) < (n1 : Int)) = true := by simp; omega
          go_wp2_with fail
          clear y0 y1 y2 y3 y4
          go_loopw [3, 5] (fun v3 v5 wq => ∃ k : Nat, k ≤ i ∧ v5 = .int .i64 (k : Nat) ∧ v3 = .bool false ∧ Hid (Below w1.heap.size w1 wq)) (fun _ v5 _ => i - (intOf v5).toNat)
          case atStart => exact ⟨0, by omega, rfl, rfl, hqwr⟩
          case round =>
            obtain ⟨k, hk, rfl, rfl, hqwq⟩ := hrel
            by_cases hkl : k < i
            · have j1 : decide ((k : Int) < (i : Int)) = true := by simp; omega
              have hbd9 := Lib.hid (hqwq.out.trans ((Joins.below_draws _ _ 1).mono hqwq.out.size))
              go_wp2_with fail
              refine Pl.wp_region_plan 14 (.take 0 (.take 1 (.take 2 (.take 3 (.take 4 (.take 5 (.take 6 (.take 7 (.take 8 (.take 9 (.take 10 (.take 11 (.take 12 (.take 13 .done)))))))))))))) (fun _ => True) (by kernel_rfl) (by kernel_rfl) (trivial) ?_
              simp only [Pl.fill, List.getElem?_cons_zero, List.getElem?_cons_succ, List.drop_succ_cons, List.drop_zero]
              iterate 14
                first
                | (refine Pl.take_go ?_ (by rfl) (fun _ _ _ h => h) ?_ ?_
                   rotate_left
                   · (intro x hSw; (try dsimp only at hSw); go_simp; try with_reducible rfl)
                   (try simp only [Act.put, List.setIfInBounds_toArray, List.set_cons_zero, List.set_cons_succ]))
                | (refine Pl.take_skip (by rfl) (fun _ _ _ h => h) ?_
                   (try simp only [Act.put, List.setIfInBounds_toArray, List.set_cons_zero, List.set_cons_succ]))
              refine Pl.done_go ?_
              go_wp2_with fail
              go_roundw
              case rel => exact ⟨k + 1, by omega, by go_num, rfl, hbd9⟩
              case measure => simp [intOf]; omega
            · have hki : k = i := by omega
              subst hki
              have j1 : decide ((k : Int) < (k : Int)) = false := by simp
              go_wp2_with fail
              go_roundw
              case rel => exact ⟨k + 1, by omega, by go_num, rfl, hqwq⟩
              case measure => simp [intOf]; omega
        · have hie : i = n1 := by omega
          subst hie
          have i1 : decide ((i : Int) < (i : Int)) = false := by simp
          go_wp2_with fail
          clear y0 y1 y2 y3 y4
          go_loopw [3, 6] (fun v3 v6 wq => ∃ q : Nat, q ≤ n2 ∧ v6 = .int .i64 (q : Nat) ∧ v3 = .bool false ∧ Hid (Below w1.heap.size w1 wq)) (fun _ v6 _ => n2 - (intOf v6).toNat)
          case atStart => exact ⟨0, by omega, rfl, rfl, hqwr⟩
          case round =>
            obtain ⟨q, hq, rfl, rfl, hqws⟩ := hrel
            have hTb9 := hTb.out _ hqws.out
            have y0 := Xp.cell_blk hTb9 (i := 0) rfl
            have y1 := Xp.cell_blk hTb9 (i := 1) rfl
            have y2 := Xp.cell_blk hTb9 (i := 2) rfl
            have y3 := Xp.cell_blk hTb9 (i := 3) rfl
            have y4 := Xp.cell_blk hTb9 (i := 4) rfl
            clear hTb9
            by_cases hlt3 : q < n2
            · have i3 : decide ((q : Int) < (n2 : Int)) = true := by simp; omega
              go_wp2_with fail
              go_roundw
              case rel => exact ⟨q + 1, by omega, by go_num, rfl, hqws⟩
              case measure => simp [intOf]; omega
            · have hie : q = n2 := by omega
              subst hie
              have i3 : decide ((q : Int) < (q : Int)) = false := by simp
              have hRf : Hid (R = false) := Lib.hid (by rw [hR.out, hbv.out]; rfl)
              have hfin := Lib.hid (hbaH.out.trans (hqws.out.mono hbaH.out.size))
              go_wp2_with fail
              (try simp only [Exit.inBlock, Exit.then])
              go_ret
              exact ⟨by rw [hRf.out]; rfl, hfin.out⟩
end Go.Proofs.YtokdnhdfmgfkeaaGreatDoor.Xp
end
