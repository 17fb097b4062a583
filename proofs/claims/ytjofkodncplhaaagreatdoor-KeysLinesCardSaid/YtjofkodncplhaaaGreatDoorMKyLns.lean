/- strings.Lines: its iterator's contract. -/
import Derived.Test.YtjofkodncplhaaaGreatDoorMKySeq
import Derived.Test.YtjofkodncplhaaaGreatDoorMKyWalk
import Derived.Test.YtjofkodncplhaaaGreatDoorMKyRule
import Derived.Shelf.Abstract
import Derived.Shelf.RegionOpen
import Derived.WalkKit
import Derived.OwnWalkIn
import Derived.TacticsInMore
import Derived.LoopNIn
import Derived.LoopIn
import Derived.BigRegionIn
namespace Go.Proofs.YtjofkodncplhaaaGreatDoor.Ky
open Go.RowKit Go.Shelf UtfW
attribute [local go_sem] Oper.semAt_some

theorem ib_none {c : UInt8} {s : Tx} (h : c ∉ s) : Lib.indexByte s c = -1 := by
  induction s with
  | nil => rfl
  | cons b s ih =>
    rw [List.mem_cons, not_or] at h
    unfold Lib.indexByte
    rw [if_neg (by rw [beq_iff_eq]; exact fun e => h.1 e.symm), ih h.2]
    rfl
theorem ib_some {c : UInt8} {x : Tx} (h : c ∉ x) (r : Tx) : Lib.indexByte (x ++ c :: r) c = (x.length : Nat) := by
  induction x with
  | nil =>
    show Lib.indexByte (c :: r) c = 0
    unfold Lib.indexByte
    rw [if_pos (by simp)]
  | cons b x ih =>
    rw [List.mem_cons, not_or] at h
    rw [List.cons_append]
    unfold Lib.indexByte
    rw [if_neg (by rw [beq_iff_eq]; exact fun e => h.1 e.symm), ih h.2, if_neg (by rw [beq_iff_eq]; omega)]
    simp

/-- A text of no great length. -/
abbrev Pc := { s : ByteArray // s.size ≤ 900000 }
def Pc.tx (x : Pc) : Tx := x.1.data.toList
/-- How long the text in the box is. -/
def left (Bb : Nat) (w : World) : Nat := match w.cell? ⟨Bb, 0, none⟩ with
  | some (.string s) => s.size
  | _ => 0
theorem left_eq {Bb : Nat} {w : World} {s : ByteArray} (h : w.cell? ⟨Bb, 0, none⟩ = some (.string s)) : left Bb w = s.size := by
  unfold left
  rw [h]
/-- The box. -/
def Bx (w : World) (Bb : Nat) (t : Tx) : Prop := w.heap[Bb]? = some (.cells #[tv t] 9)
theorem Bx.cell {w : World} {Bb : Nat} {t : Tx} (h : Bx w Bb t) : w.cell? ⟨Bb, 0, none⟩ = some (tv t) := by
  unfold Bx at h
  simp [World.cell?, h]
theorem Bx.frozen {w : World} {Bb : Nat} {t : Tx} (h : Bx w Bb t) : w.frozen? ⟨Bb, 0, none⟩ = false := frozen_of_row w Bb 0 _ _ h
theorem Bx.set {w : World} {Bb : Nat} {t : Tx} (h : Bx w Bb t) (u : Tx) : Bx (w.setCell ⟨Bb, 0, none⟩ (tv u)) Bb u := setCell_kb h (i := 0) (tv u)
/-- What a round keeps: the box. -/
def BoxKp (Bb : Nat) (W W' : World) : Prop := W'.heap[Bb]? = W.heap[Bb]?

set_option maxRecDepth 100000 in
set_option maxHeartbeats 2000000 in
theorem lines1_in (n : Nat) (hn : 1 ≤ n) (l Bb : Nat) (s : Tx) (hlen : s.length ≤ 900000) (J Jx : List Pc → World → Prop)
    (hb : ∀ pre v W1, J pre W1 → J pre (W1.setCell ⟨Bb, 0, none⟩ v)) (hd : ∀ pre W1, J pre W1 → J pre W1.drew)
    (hY : ∀ pre x W, J pre W → pre.length < (pcs s).length → YieldAt Fence.wide (n - 1) Tryz.prog l #[.string x.1] W fun e W' =>
      (e = .returned (.bool true) ∧ J (pre ++ [x]) W' ∧ BoxKp Bb W W') ∨ (e = .returned (.bool false) ∧ Jx (pre ++ [x]) W'))
    (W : World) (hB : Bx W Bb s) (h0 : J [] W) :
    CallsIn Fence.wide n Tryz.prog 46 #[.func (.yield l) #[] #[], .pointer (some ⟨Bb, 0, none⟩)] W fun e W' => (∃ v, e = .returned v) ∧
      ((∃ ys : List Pc, ys.map Pc.tx = pcs s ∧ J ys W') ∨ (∃ pre : List Pc, (∃ rest, pcs s = pre.map Pc.tx ++ rest) ∧ Jx pre W')) := by
  refine callsIn_of_wp Tryz.func46 rfl trivial ?_ rfl
  simp only [Tryz.ntmps46, List.size_toArray, List.length_cons, List.length_nil, Nat.reduceAdd, Nat.reduceSub, Array.replicate_succ, Array.replicate_zero, List.push_toArray, List.append_toArray, List.nil_append, List.cons_append]
  have hlen' := Lib.hid hlen
  gi_wp2
  gi_loopw [3] (fun _ wr => ∃ (pre : List Pc) (rest : Tx), Hid (pcs s = pre.map Pc.tx ++ pcs rest) ∧ Hid (rest.length ≤ 900000) ∧ Hid (Bx wr Bb rest) ∧ J pre wr) (fun _ wr => left Bb wr)
  case atStart => exact ⟨[], s, Lib.hid rfl, hlen', Lib.hid hB, h0⟩
  case round =>
    obtain ⟨pre, rest, hp, hl, hbx, hJ⟩ := hrel
    have hcell := hbx.out.cell
    have hsz : (strOf rest).size = rest.length := strOf_size' rest
    cases hr : rest with
    | nil =>
      subst hr
      have i1 : (strOf []).size = 0 := rfl
      gi_wp2
      go_end0
      exact ⟨⟨_, rfl⟩, .inl ⟨pre, by rw [hp.out]; simp [pcs], hJ⟩⟩
    | cons b0 r0 =>
      have hpos : 0 < rest.length := by rw [hr]; simp
      have hne : rest ≠ [] := by rw [hr]; simp
      clear hr
      have hfz := hbx.out.frozen
      have hib := indexByte_any (strOf rest) 10
      rw [strOf_data'] at hib
      have i1 : decide (((strOf rest).size : Int) > 0) = true := by rw [decide_eq_true_eq, hsz]; omega
      have i2 : decide (0 < (strOf rest).size) = true := by rw [decide_eq_true_eq, hsz]; omega
      rcases byte_ways 10 rest with h1 | ⟨x, r, hxr, h1⟩
      · rw [ib_none h1] at hib
        have hpl := Lib.hid (pcs_last h1 hne)
        clear h1 hne
        obtain ⟨S, hS⟩ : ∃ S : Pc, S.1 = strOf rest := ⟨⟨strOf rest, by rw [hsz]; exact hl.out⟩, rfl⟩
        have hpos' := Lib.hid hpos
        have hlt : pre.length < (pcs s).length := by rw [hp.out, hpl.out]; simp
        obtain ⟨fn, tmps, assign, body, hy, hR⟩ := hY pre S (wr.setCell ⟨Bb, 0, none⟩ (.string ⟨#[]⟩)) (hb _ _ _ hJ) hlt
        rw [hS] at hy
        have hwb := Lib.hid (hbx.out.set [])
        have hS' := Lib.hid hS
        clear hS
        gi_wp2_with fail
        refine ⟨trivial, (callsIn_wide.2 (hib _)).mono ?_⟩
        rintro e w2 ⟨rfl, rfl⟩
        clear hib
        gi_wp2_with fail
        refine hR.mono ?_
        rintro e W3 (⟨rfl, hJ3, hk3⟩ | ⟨rfl, hJx3⟩)
        · have hb3 : Bx W3 Bb [] := hk3.trans hwb.out
          gi_wp2_with fail
          go_roundw
          case rel => exact ⟨pre ++ [S], [], Lib.hid (by rw [hp.out, hpl.out]; simp [pcs, Pc.tx, hS'.out, strOf_data']), Lib.hid (by simp), Lib.hid hb3, hJ3⟩
          case measure => rw [left_eq hb3.cell, left_eq hcell, hsz]; exact hpos'.out
        · gi_wp2_with fail
          refine bodyPost_ret (results_none rfl _ _ _) rfl ?_
          exact ⟨⟨_, rfl⟩, .inr ⟨pre ++ [S], ⟨[], by rw [hp.out, hpl.out]; simp [Pc.tx, hS'.out, strOf_data']⟩, hJx3⟩⟩
      · rw [hxr, ib_some h1] at hib
        rw [← hxr] at hib
        have hpl : Hid (pcs rest = (x ++ [10]) :: pcs r) := Lib.hid (by rw [hxr]; exact pcs_cut h1 r)
        have hrl : rest.length = x.length + 1 + r.length := by rw [hxr]; simp; omega
        have hxl := hl.out
        obtain ⟨m, hm⟩ : ∃ m, x.length = m := ⟨_, rfl⟩
        have hx1 : x ++ 10 :: r = (x ++ [10]) ++ r := by simp
        have hx2 : (x ++ [10]).length = m + 1 := by simp [hm]
        have e1 : (strOf rest).extract 0 (m + 1) = strOf (x ++ [10]) := by
          rw [strOf_cut, hxr, hx1, List.drop_zero, Nat.sub_zero, List.take_left' hx2]
        have e2 : (strOf rest).extract (m + 1) (m + 1 + r.length) = strOf r := by
          rw [strOf_cut, hxr, hx1, List.drop_left' hx2, Nat.add_sub_cancel_left, List.take_length]
        rw [hm] at hib hrl
        clear hx1 hx2
        obtain ⟨S, hS⟩ : ∃ S : Pc, S.1 = strOf (x ++ [10]) := ⟨⟨strOf (x ++ [10]), by rw [strOf_size']; simp; omega⟩, rfl⟩
        have hlt : pre.length < (pcs s).length := by rw [hp.out, hpl.out]; simp
        obtain ⟨fn, tmps, assign, body, hy, hR⟩ := hY pre S (wr.setCell ⟨Bb, 0, none⟩ (tv r)).drew (hd _ _ (hb _ _ _ hJ)) hlt
        rw [hS] at hy
        have hS' := Lib.hid hS
        have hwb : Hid (Bx (wr.setCell ⟨Bb, 0, none⟩ (tv r)).drew Bb r) := Lib.hid (hbx.out.set r)
        have hrl' := Lib.hid hrl
        have hms : m + 1 ≤ (strOf rest).size := by omega
        clear hS h1 hxr hne hm
        gi_wp2_with fail
        refine ⟨trivial, (callsIn_wide.2 (hib _)).mono ?_⟩
        rintro e w2 ⟨rfl, rfl⟩
        clear hib
        gi_wp2_with fail
        gi_region
        gi_wp2_with fail
        refine hR.mono ?_
        rintro e W3 (⟨rfl, hJ3, hk3⟩ | ⟨rfl, hJx3⟩)
        · have hb3 : Bx W3 Bb r := hk3.trans hwb.out
          gi_wp2_with fail
          go_roundw
          case rel => exact ⟨pre ++ [S], r, Lib.hid (by rw [hp.out, hpl.out]; simp [Pc.tx, hS'.out, strOf_data']), Lib.hid (by have := hl.out; have := hrl'.out; omega), Lib.hid hb3, hJ3⟩
          case measure => rw [left_eq hb3.cell, left_eq hcell, hsz, strOf_size']; have := hrl'.out; omega
        · gi_wp2_with fail
          refine bodyPost_ret (results_none rfl _ _ _) rfl ?_
          exact ⟨⟨_, rfl⟩, .inr ⟨pre ++ [S], ⟨pcs r, by rw [hp.out, hpl.out]; simp [Pc.tx, hS'.out, strOf_data']⟩, hJx3⟩⟩
end Go.Proofs.YtjofkodncplhaaaGreatDoor.Ky
