/- The law SegPlays (printed by wip/gen/sg_plays.py). -/
import Derived.Test.YtfdpnjebhllpkaaGreatDoorMSgLasts
import Derived.Test.YtfdpnjebhllpkaaGreatDoorMDkRa
namespace Go.Proofs.YtfdpnjebhllpkaaGreatDoor.Sg
open Go.RowKit Ma Dk

/-- The code's half: its disk, and its segment, if there is one. -/
def Hc (B a mb : Nat) (w : World) (d : D) (x : Option S) (p : Value) : Prop := (∃ L F tv, Da w B a mb L F tv d) ∧ match x with
  | none => p = .pointer none
  | some s => ∃ sb, p = .pointer (some ⟨sb, 0, none⟩) ∧ B ≤ sb ∧ w.heap[sb]? = some (SegB a 3 s)
/-- The document's half. -/
def Hr (B rb : Nat) (w : World) (d : D) (x : Option S) (p : Value) : Prop := (∃ lv tv, Ra w B rb lv tv d) ∧ match x with
  | none => p = .pointer none
  | some s => ∃ sb, p = .pointer (some ⟨sb, 0, none⟩) ∧ B ≤ sb ∧ w.heap[sb]? = some (RSegB rb 3 s)
/-- The error, and its code. -/
def Hx (w : World) (cc : Int) (e : Value) : Prop := (cc = 0 ∧ e = .nilIface) ∨ (cc ≠ 0 ∧ ErrB w cc 3 segT e)
def xOf (c : Int) (size : Nat) : Option S := if c = 0 then some ⟨size, false⟩ else none

section
variable {B a mb rb : Nat} {w w' : World} {d d' : D} {x : Option S} {p e : Value} {cc : Int}
theorem Hc.kr (h : Hc B a mb w d x p) (hk : Kr w w') : Hc B a mb w' d x p := by
  obtain ⟨⟨L, F, tv, hD⟩, h2⟩ := h
  refine ⟨⟨L, F, tv, Da.kr hD hk⟩, ?_⟩
  cases x with
  | none => exact h2
  | some s =>
    obtain ⟨sb, e1, e2, e3⟩ := h2
    exact ⟨sb, e1, e2, hk sb _ e3 (fun cs fr e => by injection e with _ e _; exact absurd e (by decide)) (fun cs fr e => by injection e with _ e _; exact absurd e (by decide)) (fun cs fr e => by injection e with _ e _; exact absurd e (by decide))⟩
theorem Hc.bel (h : Hc B a mb w d x p) (hb : Below w.heap.size w w') : Hc B a mb w' d x p := h.kr (Kr.below hb)
theorem Hc.op (h : Hc B a mb w d x p) (hst : Sd B a mb d' w w') : Hc B a mb w' d' x p := by
  refine ⟨hst.2.2, ?_⟩
  cases x with
  | none => exact h.2
  | some s =>
    obtain ⟨sb, e1, e2, e3⟩ := h.2
    exact ⟨sb, e1, e2, hst.2.1 sb _ _ _ e3 (by decide) (by decide)⟩
theorem Hc.blk {s : S} {sb : Nat} (h : Hc B a mb w d (some s) (.pointer (some ⟨sb, 0, none⟩))) : B ≤ sb ∧ w.heap[sb]? = some (SegB a 3 s) := by
  obtain ⟨sb', e1, e2, e3⟩ := h.2
  injection e1 with e1
  injection e1 with e1
  injection e1 with e1 _ _
  subst e1
  exact ⟨e2, e3⟩
theorem Hr.blk {s : S} {sb : Nat} (h : Hr B rb w d (some s) (.pointer (some ⟨sb, 0, none⟩))) : B ≤ sb ∧ w.heap[sb]? = some (RSegB rb 3 s) := by
  obtain ⟨sb', e1, e2, e3⟩ := h.2
  injection e1 with e1
  injection e1 with e1
  injection e1 with e1 _ _
  subst e1
  exact ⟨e2, e3⟩
theorem Hc.sc (h : Hc B a mb w d x p) : Sc B a mb d w w := ⟨Below.refl _ _, Kc.refl _, h.1⟩
theorem Hc.sd (h : Hc B a mb w d x p) : Sd B a mb d w w := ⟨Below.refl _ _, Fm.refl _, h.1⟩
theorem Hr.kc (h : Hr B rb w d x p) (hk : Kc w w') : Hr B rb w' d x p := by
  obtain ⟨⟨lv, tv, hR⟩, h2⟩ := h
  refine ⟨⟨lv, tv, Ra.kc hR hk⟩, ?_⟩
  cases x with
  | none => exact h2
  | some s =>
    obtain ⟨sb, e1, e2, e3⟩ := h2
    exact ⟨sb, e1, e2, hk sb _ _ _ e3 (by decide) (by decide) (by decide)⟩
theorem Hr.bel (h : Hr B rb w d x p) (hb : Below w.heap.size w w') : Hr B rb w' d x p := h.kc (Kc.below hb)
theorem Hr.op (h : Hr B rb w d x p) (hst : Rs B rb d' w w') : Hr B rb w' d' x p := by
  refine ⟨hst.2.2, ?_⟩
  cases x with
  | none => exact h.2
  | some s =>
    obtain ⟨sb, e1, e2, e3⟩ := h.2
    exact ⟨sb, e1, e2, hst.2.1 sb _ e3 (fun cs fr e => by injection e with _ e _; exact absurd e (by decide)) (fun cs fr e => by injection e with _ e _; exact absurd e (by decide))⟩
theorem Hr.rs (h : Hr B rb w d x p) : Rs B rb d w w := ⟨Below.refl _ _, Rm.refl _, h.1⟩
theorem Hx.kr (h : Hx w cc e) (hk : Kr w w') : Hx w' cc e := h.imp id fun h => ⟨h.1, h.2.kr hk⟩
theorem Hx.bel (h : Hx w cc e) (hb : Below w.heap.size w w') : Hx w' cc e := h.kr (Kr.below hb)
theorem Hx.code {T : Nat} (h : Hx w cc e) (hE : Er.En T w) : Calls Tryz.prog 29 #[e] w fun e' w' => e' = .returned (.int .i64 cc) ∧ Below w.heap.size w w' := by
  rcases h with ⟨rfl, rfl⟩ | ⟨h1, h2⟩
  · exact Er.Code_ok w
  · exact Er.Code_any cc 3 [segT] e T w hE h2.fe
theorem CrP.hc {X : Int × D} {size : Nat} {er : Value} (h : CrP B a mb 3 X size w p er w') (hB : B ≤ w.heap.size) : Hc B a mb w' X.2 (xOf X.1 size) p ∧ Hx w' X.1 er := by
  rcases h.res with ⟨h1, h2, sb, h3, h4, h5⟩ | ⟨h1, h2, h3⟩
  · unfold xOf
    rw [if_pos h1]
    exact ⟨⟨h.st.2.2, sb, h3, Nat.le_trans hB h4, h5⟩, .inl ⟨h1, h2⟩⟩
  · unfold xOf
    rw [if_neg h1]
    exact ⟨⟨h.st.2.2, h2⟩, .inr ⟨h1, h3⟩⟩
theorem RcP.hr {X : Int × D} {size : Nat} (h : RcP B rb 3 X size w p w') (hB : B ≤ w.heap.size) : Hr B rb w' X.2 (xOf X.1 size) p := by
  rcases h.res with ⟨h1, sb, h3, h4, h5⟩ | ⟨h1, h2⟩
  · unfold xOf
    rw [if_pos h1]
    exact ⟨h.st.2.2, sb, h3, Nat.le_trans hB h4, h5⟩
  · unfold xOf
    rw [if_neg h1]
    exact ⟨h.st.2.2, h2⟩
end

theorem rarm_op {B rb : Nat} {d : D} {w0 w : World} (h : Rs B rb d w0 w) (A : Option Addr) (n c : Nat) (l : List Tr) (hq : Sq TrEl 3 w A n c l) (hn : n ≤ 1000000) :
    Calls Tryz.prog 39 #[.pointer (some ⟨rb, 0, none⟩), .slice A n c] w fun e w' => e = .returned (.tuple #[]) ∧ Rs B rb (arm d l) w w' := by
  obtain ⟨_, _, lv, tv, hR⟩ := h
  exact rArm_any w B rb lv tv d hR A n c l hq hn
theorem rcrash_op {B rb N U : Nat} {d : D} {w0 w : World} (h : Rs B rb d w0 w) (hG : Bd d N U) (hU : U ≤ 1000000) (A : Option Addr) (n c : Nat) (l : List Int) (hT : ∀ w', Below B w w' → Rd w' A n c (l.map (Value.int .i64))) :
    Calls Tryz.prog 40 #[.pointer (some ⟨rb, 0, none⟩), .slice A n c] w fun e w' => e = .returned (.tuple #[]) ∧ Rs B rb (crash d l) w w' := by
  obtain ⟨_, _, lv, tv, hR⟩ := h
  exact rCrash_any w B rb lv tv d hR hG.inv.up (by have := hG.inv.most; omega) (fun p hp => ⟨by have := hG.fl hU p hp; omega, hG.inv.safe p hp⟩) A n c l hT
theorem files_op {B a mb N U : Nat} {d : D} {w : World} (h : ∃ L F tv, Da w B a mb L F tv d) (hG : Bd d N U) (hU : U ≤ 1000000) :
    Calls Tryz.prog 35 #[.pointer (some ⟨a, 0, none⟩)] w fun e w' => ∃ A c, e = .returned (.slice A d.fs.length c) ∧ Sq FeEl 3 w' A d.fs.length c (d.fs.map toIn) ∧ Below w.heap.size w w' := by
  obtain ⟨L, F, tv, hD⟩ := h
  refine (Files_any w B a mb L F tv d hD (by have := hD.len_eq; have := hG.inv.most; omega) (fun p hp => ⟨by have := may_len (hG.inv.names p hp); omega, by have := hG.fl hU p hp; omega⟩)).mono ?_
  rintro e w' ⟨v, rfl, hO, hb⟩
  obtain ⟨A8, c8, hv, hq⟩ := hO.sq (by omega)
  rw [List.length_map] at hv hq
  exact ⟨A8, c8, by rw [hv], fe_of hq, hb⟩
theorem Size_any (w : World) (a sb : Nat) (n : Int) (s : S) (h : w.heap[sb]? = some (SegB a n s)) :
    Calls Tryz.prog 37 #[.pointer (some ⟨sb, 0, none⟩)] w fun e w' => e = .returned (.int .i64 (s.size : Nat)) ∧ w' = w := by
  have k : w.cell? ⟨sb, 2, none⟩ = some (.int .i64 (s.size : Nat)) := cell_blk h rfl
  clear h
  go_enter Tryz.func37, Tryz.ntmps37
  go_wp2_with fail
  go_ret
  exact ⟨rfl, rfl⟩
theorem Number_any (w : World) (a sb : Nat) (n : Int) (s : S) (h : w.heap[sb]? = some (SegB a n s)) :
    Calls Tryz.prog 38 #[.pointer (some ⟨sb, 0, none⟩)] w fun e w' => e = .returned (.int .i64 n) ∧ w' = w := by
  have k : w.cell? ⟨sb, 1, none⟩ = some (.int .i64 n) := cell_blk h rfl
  clear h
  go_enter Tryz.func38, Tryz.ntmps38
  go_wp2_with fail
  go_ret
  exact ⟨rfl, rfl⟩

set_option maxHeartbeats 1000000 in
set_option maxRecDepth 100000 in
theorem plays_law (room : Int) (hroom : room ≤ 9223372036854775807) (A : Option Addr) (n c : Nat) (l : List Sx) (W : World) (hE : Er.En W.heap.size W) (hS : Sq SdEl 4 W A n c l) (hz : ∀ x ∈ l, ∀ r ∈ x.recs, r.length ≤ 140737488351232) :
    Calls Tryz.prog 6 #[.int .i64 room, .slice A n c] W fun e w' => e = .returned (.bool true) ∧ Below W.heap.size W w' := by
  have hle := hS.le
  have hmx := hS.max
  have hS' := Lib.hid hS
  have hz' := Lib.hid hz
  have hE' := Lib.hid hE
  obtain ⟨T, hT⟩ : ∃ T, W.heap.size = T := ⟨_, rfl⟩
  have hT' := Lib.hid hT
  have hok : okN 3 = true := by decide
  clear hS hz hE hT
  go_enter Tryz.func6, Tryz.ntmps6
  go_wp2_with fail
  refine (awake_any W (Te.of hE'.out)).mono ?_
  rintro e w1 ⟨rfl, hb1⟩
  have hx1 := Lib.hid hb1
  clear hb1
  go_wp2_with fail
  refine (small_any A n c l w1 (hS'.out.below (SdEl.below hx1.out) hx1.out) hz'.out).mono ?_
  rintro e w1' ⟨b, rfl, hsm, rfl⟩
  have hsm' := Lib.hid hsm
  clear hsm
  cases b with
  | false =>
    go_wp2_with fail
    go_ret
    exact ⟨rfl, hx1.out⟩
  | true =>
    have hSm := Lib.hid (hsm'.out rfl)
    clear hsm'
    go_wp2_with fail
    refine (New_any w1 room).mono ?_
    rintro e w2 ⟨a, mb, rfl, hD2, hb2⟩
    obtain ⟨B, hB⟩ : ∃ B, w1.heap.size = B := ⟨_, rfl⟩
    have hTB : T ≤ B := by have := hx1.out.size; have := hT'.out; omega
    have hBw2 : B ≤ w2.heap.size := by have := hb2.size; omega
    have hC2 : Hid (Hc B a mb w2 (new room) none (.pointer none)) := Lib.hid ⟨⟨[], fun _ => ⟨[], 0⟩, _, hD2.out B (fun _ => ⟨[], 0⟩) (by omega)⟩, rfl⟩
    have hx2 : Hid (Below T W w2) := Lib.hid (by rw [← hT'.out]; exact hx1.out.trans (hb2.mono hx1.out.size))
    have hTe : Hid (∀ w', Below B w2 w' → Te B w') := Lib.hid fun w' hb => by
      have h1 : Te W.heap.size w2 := (Te.of hE'.out).on (by rw [hT'.out]; exact hx2.out)
      exact (h1.up (by rw [hT'.out]; exact hTB) hBw2).on hb
    clear hb2 hD2 hB
    go_wp2_with fail
    refine (rNew_any w2 room).mono ?_
    rintro e w3 ⟨rb, rfl, hR3, hb3⟩
    have hR3' : Hid (Hr B rb w3 (new room) none (.pointer none)) := Lib.hid ⟨⟨_, _, hR3.out B hBw2⟩, rfl⟩
    have hC3 := Lib.hid (hC2.out.bel hb3)
    have hx3 := Lib.hid (hx2.out.trans (hb3.mono (by omega)))
    have hB3 := Lib.hid (hb3.mono hBw2)
    clear hb3 hR3 hC2
    have hG0 := Bd.new room hroom
    have hG1 := hG0.create nm3 (head 3)
    rw [head_len hok] at hG1
    go_wp2_with fail
    refine (Create_any w3 B a mb 0 0 (new room) hC3.out.sd hG0 (by omega) (by omega) 3 hok (hTe.out _ hB3.out)).mono ?_
    rintro e w4 ⟨p4, er4, rfl, hcr4⟩
    have hRx := refCreate_any w4 B rb 0 0 (new room) ((hR3'.out.kc (Kc.fm hcr4.st.2.1)).rs) hG0 (by omega) (by omega) 3 hok
    obtain ⟨XX, hXX⟩ : ∃ XX, create (new room) nm3 (head 3) = XX := ⟨_, rfl⟩
    rw [hXX] at hcr4 hRx hG1
    obtain ⟨c0, d0⟩ := XX
    simp only at hcr4 hRx hG1
    obtain ⟨k1, k2⟩ := hcr4.hc (Sd.le hC3.out.sd)
    have hC4 := Lib.hid k1
    have hX4 := Lib.hid k2
    have hx4 := Lib.hid (hx3.out.trans (hcr4.st.1.mono hTB))
    have hB4 := Lib.hid (hB3.out.trans hcr4.st.1)
    have hRx' := Lib.hid hRx
    clear hcr4 hRx hXX k1 k2
    go_wp2_with fail
    refine hRx'.out.mono ?_
    rintro e w5 ⟨p5, rfl, hcr5⟩
    have hR5 := Lib.hid (hcr5.hr (Sd.le hC4.out.sd))
    have hC5 := Lib.hid (hC4.out.kr (Kr.rm hcr5.st.2.1))
    have hX5 := Lib.hid (hX4.out.kr (Kr.rm hcr5.st.2.1))
    have hx5 := Lib.hid (hx4.out.trans (hcr5.st.1.mono hTB))
    have hB5 := Lib.hid (hB4.out.trans hcr5.st.1)
    have hG5 := Lib.hid (hG1.mono (N' := 100 + 4 * 0) (U' := 100 + 2400 * 0) (by omega) (by omega))
    clear hcr5 hRx' hC4 hX4 hx4 hB4 hC3 hx3 hB3 hG0 hG1
    go_wp2_with fail
    go_loopw [7, 8, 9, 10, 11] (fun px e py f i wr => ∃ (k : Nat) (d : D) (x : Option S) (cc : Int) (px' py' e' : Value), k ≤ n ∧ k ≤ 30 ∧ i = .int .i64 k ∧ px' = px ∧ py' = py ∧ e' = e ∧ f = .int .i64 cc ∧
      Hid (Hc B a mb wr d x px') ∧ Hid (Hr B rb wr d x py') ∧ Hid (Hx wr cc e') ∧ Hid (Bd d (100 + 4 * k) (100 + 2400 * k)) ∧ Hid (Below T W wr) ∧ Hid (Below B w2 wr) ∧ Hid (∀ s, x = some s → s.size ≤ 100 + 2400 * k)) (fun _ _ _ _ i _ => n - (intOf i).toNat)
    case atStart => exact ⟨0, d0, xOf c0 12, c0, p4, p5, er4, by omega, by omega, rfl, rfl, rfl, rfl, rfl, hC5, hR5, hX5, hG5, hx5, hB5, Lib.hid (fun s hs => by unfold xOf at hs; split at hs; (injection hs with hs; subst hs; simp only; omega); cases hs)⟩
    case round =>
      obtain ⟨k, d, x, cc, px, py, e, hk, hk30, rfl, rfl, rfl, rfl, rfl, hC, hR, hX, hG, hx, hB2, hz⟩ := hrel
      by_cases hend : k < n ∧ k < 30
      · obtain ⟨hlt, h30⟩ := hend
        have i1 : decide ((k : Int) < (n : Int)) = true := by rw [decide_eq_true_eq]; omega
        have i2 : decide (k < n) = true := by rw [decide_eq_true_eq]; omega
        have i3 : (k : Int) < (n : Int) := by omega
        have g1 : decide ((k : Int) < (30 : Int)) = true := by rw [decide_eq_true_eq]; omega
        have g2 : decide (k < 30) = true := by rw [decide_eq_true_eq]; omega
        obtain ⟨pb, off, xx, vs, rfl, hpb, hf, hvs, hel, hcs⟩ := hS'.out.at_ hlt
        have hxm := Lib.hid (hSm.out k xx hf h30)
        obtain ⟨Ar, nr, cr, At2, nt2, ct2, Al, nl, cl, rfl, hbs, hrd, hsq⟩ := hel
        have hpb' : pb < T := by rw [← hT'.out]; exact hpb
        have hMc : Hid (∀ z, Below T W z → z.cell? ⟨pb, off + k * 4, none⟩ = some (.int .i64 xx.kind) ∧ z.cell? ⟨pb, off + k * 4 + 1, none⟩ = some (.slice Ar nr cr) ∧ z.cell? ⟨pb, off + k * 4 + 2, none⟩ = some (.slice At2 nt2 ct2) ∧ z.cell? ⟨pb, off + k * 4 + 3, none⟩ = some (.slice Al nl cl)) := Lib.hid fun z hb =>
          ⟨(hb.cell (p := ⟨pb, off + k * 4, none⟩) hpb').trans (hcs 0 _ rfl), (hb.cell (p := ⟨pb, off + k * 4 + 1, none⟩) hpb').trans (hcs 1 _ rfl), (hb.cell (p := ⟨pb, off + k * 4 + 2, none⟩) hpb').trans (hcs 2 _ rfl), (hb.cell (p := ⟨pb, off + k * 4 + 3, none⟩) hpb').trans (hcs 3 _ rfl)⟩
        have hrecs : Hid (∀ w', Below T W w' → BsL w' Ar nr cr xx.recs) := Lib.hid fun w' hb => hbs.below (by rw [hT'.out]; exact hb)
        have hlist : Hid (∀ w', Below T W w' → Sq TrEl 3 w' Al nl cl xx.list) := Lib.hid fun w' hb => hsq.below (fun _ _ h => h) (by rw [hT'.out]; exact hb)
        have htl : Hid (∀ w', Below T W w' → Rd w' At2 nt2 ct2 (xx.tails.map (Value.int .i64))) := Lib.hid fun w' hb => Rd.below hrd (by rw [hT'.out]; exact hb)
        have hnl : nl ≤ 1000000 := by have := hsq.len; have := hxm.out.list; omega
        clear hcs hvs hbs hrd hsq hf hpb
        obtain ⟨kd, hkd⟩ : ∃ kd, xx.kind = kd := ⟨_, rfl⟩
        rw [hkd] at hMc
        clear hkd
        cases x with
        | none =>
          obtain rfl := hC.out.2
          obtain rfl := hR.out.2
          have hfl : Hid (∃ L F tv, Da wr B a mb L F tv d) := Lib.hid hC.out.1
          obtain ⟨lv, rtv, hRa⟩ := hR.out.1
          obtain ⟨A9, c9, rfl, hq9⟩ := hRa.sq
          have hlr := hRa.lt
          have hSr : Hid (∀ z, Below wr.heap.size wr z → z.cell? ⟨rb, 1, none⟩ = some (.slice A9 d.fs.length c9)) := Lib.hid fun z hb => (hb.cell (p := ⟨rb, 1, none⟩) hlr).trans (cell_blk hRa.blk rfl)
          have hq9' := Lib.hid (fe_of hq9)
          have hcode : Hid (∀ z, Below wr.heap.size wr z → Calls Tryz.prog 29 #[e] z fun e' w' => e' = .returned (.int .i64 cc) ∧ Below z.heap.size z w') := Lib.hid fun z hb =>
            (hX.out.bel hb).code (hE'.out.on (by rw [hT'.out]; exact hx.out.trans (hb.mono (by have := hx.out.size; have := hT'.out; omega))))
          have hcc : (cc != cc) = false := by simp
          have hcc2 : (cc == cc) = true := by simp
          clear hq9 hRa
          go_wp2_with fail
          refine Pl.wp_region_plan 18 (.take 0 (.take 2 (.run 1 (.take 3 (.take 4 (.take 5 (.take 6 (.take 7 (.take 8 (.take 9 (.take 10 (.take 11 (.take 12 (.take 14 (.take 15 (.take 16 (.take 17 (.run 13 .done))))))))))))))))))
            (fun z => z.cell? ⟨rb, 1, none⟩ = some (.slice A9 d.fs.length c9)) (by kernel_rfl) (by kernel_rfl) (by exact hSr.out _ (bD (Below.refl _ wr))) ?_
          simp only [Pl.fill, List.getElem?_cons_zero, List.getElem?_cons_succ, List.drop_succ_cons, List.drop_zero]
          iterate 2
            refine Pl.take_go ?_ (by rfl) (fun _ _ _ h => h) ?_ ?_
            rotate_left
            · (intro x hSw; (try dsimp only at hSw); go_simp; try with_reducible rfl)
            try simp only [Act.put, List.setIfInBounds_toArray, List.set_cons_zero, List.set_cons_succ]
          refine Pl.run_go (fun K hK => ?_)
          go_simp
          refine (hcode.out _ (bD (Below.refl _ wr))).mono ?_
          rintro e3 w3 ⟨rfl, hb3⟩
          have hx3 := Lib.hid ((bD (Below.refl wr.heap.size wr)).trans (hb3.mono (by simp)))
          clear hb3
          dsimp only
          refine hK.out _ _ (Pl.more_go _ (fun _ h => h) (by exact hSr.out _ hx3.out) ?_)
          clear hK K
          iterate 14
            refine Pl.take_go ?_ (by rfl) (fun _ _ _ h => h) ?_ ?_
            rotate_left
            · (intro x hSw; (try dsimp only at hSw); go_simp; try with_reducible rfl)
            try simp only [Act.put, List.setIfInBounds_toArray, List.set_cons_zero, List.set_cons_succ]
          refine Pl.run_go (fun K hK => ?_)
          go_simp
          refine (files_op (Hc.bel hC.out hx3.out).1 hG.out (by omega)).mono ?_
          rintro e4 w4 ⟨A8, c8, rfl, hq8, hb4⟩
          have hx4 := Lib.hid (hx3.out.trans (hb4.mono hx3.out.size))
          have hq8' := Lib.hid hq8
          clear hb4 hq8
          dsimp only
          refine hK.out _ _ (Pl.more_go _ (fun _ h => h) (by exact hSr.out _ hx4.out) ?_)
          clear hK K
          refine Pl.done_go ?_
          go_wp2_with fail
          refine (Same_refl A8 d.fs.length c8 A9 d.fs.length c9 (d.fs.map toIn) w4 hq8'.out (Sq.below hq9'.out (FeEl.below hx4.out) hx4.out)).mono ?_
          rintro e5 w5 ⟨rfl, q5, rfl⟩
          have hx5 := Lib.hid (hx4.out.trans ((Joins.below_draws _ w4 q5).mono hx4.out.size))
          generalize w4.drewN q5 = w5 at hx5 ⊢
          clear hq8' hq9' hcode hfl hSr hx3 hx4
          have hC5 := Lib.hid (hC.out.bel hx5.out)
          have hR5 := Lib.hid (hR.out.bel hx5.out)
          have hxT5 := Lib.hid (hx.out.trans (hx5.out.mono (by have := hx.out.size; have := hT'.out; omega)))
          have hB5 := Lib.hid (hB2.out.trans (hx5.out.mono (Sd.le hC.out.sd)))
          obtain ⟨m0, m1, m2, m3⟩ := hMc.out _ hxT5.out
          by_cases hk1 : kd = 1
          · subst hk1
            have hba := Lib.hid (below_alloc w5 (.cells #[.int .i64 1, .slice Ar nr cr, .slice At2 nt2 ct2, .slice Al nl cl] 48))
            have hnew := Lib.hid (heap_alloc_new w5 (.cells #[.int .i64 1, .slice Ar nr cr, .slice At2 nt2 ct2, .slice Al nl cl] 48))
            go_wp2_with fail
            have hC6 := Lib.hid (hC5.out.bel hba.out)
            have hR6 := Lib.hid (hR5.out.bel hba.out)
            have hxT6 := Lib.hid (hxT5.out.trans (hba.out.mono (by have := hxT5.out.size; have := hT'.out; omega)))
            have hB6 := Lib.hid (hB5.out.trans (hba.out.mono (Sd.le hC5.out.sd)))
            generalize hwv : w5.alloc (.cells #[.int .i64 1, .slice Ar nr cr, .slice At2 nt2 ct2, .slice Al nl cl] 48) = w6 at hba hnew hC6 hR6 hxT6 hB6 ⊢
            clear hwv
            refine (arm_op hC6.out.sc hG.out Al nl cl xx.list (hlist.out _ hxT6.out) hnl).mono ?_
            rintro e7 w7 ⟨rfl, hst7⟩
            have hC7 := Lib.hid (hC6.out.op hst7)
            have hR7 := Lib.hid (hR6.out.kc (Kc.fm hst7.2.1))
            have hxT7 := Lib.hid (hxT6.out.trans (hst7.1.mono hTB))
            have hB7 := Lib.hid (hB6.out.trans hst7.1)
            have n7 : w7.cell? ⟨w5.heap.size, 3, none⟩ = some (.slice Al nl cl) := cell_blk (hst7.2.1 _ _ _ _ hnew.out (by decide) (by decide)) rfl
            clear hst7 hba hnew
            go_wp2_with fail
            refine (rarm_op hR7.out.rs Al nl cl xx.list (hlist.out _ hxT7.out) hnl).mono ?_
            rintro e8 w8 ⟨rfl, hst8⟩
            have hR8 := Lib.hid (hR7.out.op hst8)
            have hC8 := Lib.hid (hC7.out.kr (Kr.rm hst8.2.1))
            have hxT8 := Lib.hid (hxT7.out.trans (hst8.1.mono hTB))
            have hB8 := Lib.hid (hB7.out.trans hst8.1)
            clear hst8
            go_wp2_with fail
            go_roundw
            case rel => exact ⟨k + 1, arm d xx.list, none, 0, _, _, .nilIface, by omega, by omega, by go_num, rfl, rfl, rfl, rfl, hC8, hR8, Lib.hid (.inl ⟨rfl, rfl⟩), Lib.hid ((hG.out.arm xx.list (by have := hxm.out.list; omega)).mono (by omega) (by omega)), hxT8, hB8, Lib.hid (fun s hs => by have := hz.out s hs; omega)⟩
            case measure => simp [intOf]; omega
          · by_cases hk0 : kd = 0
            · subst hk0
              clear hk1
              have hba := Lib.hid (below_alloc w5 (.cells #[.int .i64 0, .slice Ar nr cr, .slice At2 nt2 ct2, .slice Al nl cl] 48))
              have hnew := Lib.hid (heap_alloc_new w5 (.cells #[.int .i64 0, .slice Ar nr cr, .slice At2 nt2 ct2, .slice Al nl cl] 48))
              go_wp2_with fail
              have hC6 := Lib.hid (hC5.out.bel hba.out)
              have hR6 := Lib.hid (hR5.out.bel hba.out)
              have hxT6 := Lib.hid (hxT5.out.trans (hba.out.mono (by have := hxT5.out.size; have := hT'.out; omega)))
              have hB6 := Lib.hid (hB5.out.trans (hba.out.mono (Sd.le hC5.out.sd)))
              go_roundw
              case rel => exact ⟨k + 1, d, none, 0, _, _, .nilIface, by omega, by omega, by go_num, rfl, rfl, rfl, rfl, hC6, hR6, Lib.hid (.inl ⟨rfl, rfl⟩), Lib.hid (hG.out.mono (by omega) (by omega)), hxT6, hB6, Lib.hid (fun s hs => by cases hs)⟩
              case measure => simp [intOf]; omega
            · by_cases hk2 : kd = 2
              · subst hk2
                clear hk1 hk0
                have hba := Lib.hid (below_alloc w5 (.cells #[.int .i64 2, .slice Ar nr cr, .slice At2 nt2 ct2, .slice Al nl cl] 48))
                have hnew := Lib.hid (heap_alloc_new w5 (.cells #[.int .i64 2, .slice Ar nr cr, .slice At2 nt2 ct2, .slice Al nl cl] 48))
                go_wp2_with fail
                have hC6 := Lib.hid (hC5.out.bel hba.out)
                have hR6 := Lib.hid (hR5.out.bel hba.out)
                have hxT6 := Lib.hid (hxT5.out.trans (hba.out.mono (by have := hxT5.out.size; have := hT'.out; omega)))
                have hB6 := Lib.hid (hB5.out.trans (hba.out.mono (Sd.le hC5.out.sd)))
                generalize hwv : w5.alloc (.cells #[.int .i64 2, .slice Ar nr cr, .slice At2 nt2 ct2, .slice Al nl cl] 48) = w6 at hba hnew hC6 hR6 hxT6 hB6 ⊢
                clear hwv
                refine (crash_op hC6.out.sc hG.out (by omega) At2 nt2 ct2 xx.tails (fun w' hb _ => htl.out _ (hxT6.out.trans (hb.mono hTB)))).mono ?_
                rintro e7 w7 ⟨rfl, hst7⟩
                have hC7 := Lib.hid (hC6.out.op hst7)
                have hR7 := Lib.hid (hR6.out.kc (Kc.fm hst7.2.1))
                have hxT7 := Lib.hid (hxT6.out.trans (hst7.1.mono hTB))
                have hB7 := Lib.hid (hB6.out.trans hst7.1)
                have n7 : w7.cell? ⟨w5.heap.size, 2, none⟩ = some (.slice At2 nt2 ct2) := cell_blk (hst7.2.1 _ _ _ _ hnew.out (by decide) (by decide)) rfl
                clear hst7 hba hnew
                go_wp2_with fail
                refine (rcrash_op hR7.out.rs hG.out (by omega) At2 nt2 ct2 xx.tails (fun w' hb => htl.out _ (hxT7.out.trans (hb.mono hTB)))).mono ?_
                rintro e8 w8 ⟨rfl, hst8⟩
                have hR8 := Lib.hid (hR7.out.op hst8)
                have hC8 := Lib.hid (hC7.out.kr (Kr.rm hst8.2.1))
                have hxT8 := Lib.hid (hxT7.out.trans (hst8.1.mono hTB))
                have hB8 := Lib.hid (hB7.out.trans hst8.1)
                have hG8 := hG.out.crash xx.tails
                clear hst8 n7
                go_wp2_with fail
                have hOx := Open_any w8 B a mb _ _ (crash d xx.tails) hC8.out.sd hG8 (by omega) (by omega) 3 hok (hTe.out _ hB8.out)
                have hRg := fun (z : World) (hz9 : Rs B rb (crash d xx.tails) z z) => refOpen_any z B rb _ _ (crash d xx.tails) hz9 hG8 (by omega) (by omega) 3 hok
                obtain ⟨g1, g2⟩ := hG8.open_ nm3 (head 3)
                obtain ⟨XX, hXX⟩ : ∃ XX, open_ (crash d xx.tails) nm3 (head 3) = XX := ⟨_, rfl⟩
                rw [hXX] at hOx hRg g1 g2
                obtain ⟨⟨c0, rs, sz0⟩, d0⟩ := XX
                simp only at hOx hRg g1 g2
                have hRg' := Lib.hid hRg
                clear hRg hXX
                refine hOx.mono ?_
                clear hOx
                rintro e10 w10 ⟨p10, v10, er10, rfl, hcr10, A10, c10, rfl, ho10⟩
                have hRx := hRg'.out w10 ((hR8.out.kc (Kc.fm hcr10.st.2.1)).rs)
                (try simp only at hcr10 ho10 hRx)
                obtain ⟨k1, k2⟩ := hcr10.hc (Sd.le hC8.out.sd)
                have hC10 := Lib.hid k1
                have hX10 := Lib.hid k2
                have hxT10 := Lib.hid (hxT8.out.trans (hcr10.st.1.mono hTB))
                have hB10 := Lib.hid (hB8.out.trans hcr10.st.1)
                have hO10 := Lib.hid ho10
                have hRx' := Lib.hid hRx
                have g1' := Lib.hid g1
                have g2' := Lib.hid g2
                clear hcr10 ho10 hRx hRg' k1 k2 g1 g2
                go_wp2_with fail
                refine hRx'.out.mono ?_
                rintro e11 w11 ⟨p11, v11, rfl, hcr11, A11, c11, rfl, ho11⟩
                have hR11 := Lib.hid (hcr11.hr (Sd.le hC10.out.sd))
                have hC11 := Lib.hid (hC10.out.kr (Kr.rm hcr11.st.2.1))
                have hX11 := Lib.hid (hX10.out.kr (Kr.rm hcr11.st.2.1))
                have hxT11 := Lib.hid (hxT10.out.trans (hcr11.st.1.mono hTB))
                have hB11 := Lib.hid (hB10.out.trans hcr11.st.1)
                have hb1 := Lib.hid (OwR.bsl (OwR.rm hO10.out hcr11.st.2.1))
                have hb2 := Lib.hid (OwR.bsl ho11)
                clear hcr11 ho11 hO10 hRx'
                go_wp2_with fail
                refine (FrW.records_any _ _ _ rs _ _ _ rs w11 hb1.out hb2.out rfl).mono ?_
                rintro e12 w12 ⟨rfl, q12, rfl⟩
                have hbd12 : Below w11.heap.size w11 (w11.drewN q12) := Joins.below_draws _ w11 q12
                have hC12 := Lib.hid (hC11.out.bel hbd12)
                have hR12 := Lib.hid (hR11.out.bel hbd12)
                have hX12 := Lib.hid (hX11.out.bel hbd12)
                have hxT12 := Lib.hid (hxT11.out.trans (hbd12.mono (by have := hxT11.out.size; have := hT'.out; omega)))
                have hB12 := Lib.hid (hB11.out.trans (hbd12.mono (Sd.le hC11.out.sd)))
                generalize w11.drewN q12 = w12 at hC12 hR12 hX12 hxT12 hB12 ⊢
                clear hbd12 hb1 hb2
                go_wp2_with fail
                go_roundw
                case rel => exact ⟨k + 1, d0, xOf c0 sz0, c0, p10, p11, er10, by omega, by omega, by go_num, rfl, rfl, rfl, rfl, hC12, hR12, hX12, Lib.hid (g1'.out.mono (by omega) (by omega)), hxT12, hB12, Lib.hid (fun s hs => by unfold xOf at hs; split at hs; (injection hs with hs; subst hs; have := g2'.out; simp only; omega); cases hs)⟩
                case measure => simp [intOf]; omega
              · have hne0 : (kd == 0) = false := by rw [beq_eq_false_iff_ne]; exact hk0
                have hne1 : (kd == 1) = false := by rw [beq_eq_false_iff_ne]; exact hk1
                have hne2 : (kd == 2) = false := by rw [beq_eq_false_iff_ne]; exact hk2
                clear hk0 hk1 hk2
                have hba := Lib.hid (below_alloc w5 (.cells #[.int .i64 kd, .slice Ar nr cr, .slice At2 nt2 ct2, .slice Al nl cl] 48))
                have hnew := Lib.hid (heap_alloc_new w5 (.cells #[.int .i64 kd, .slice Ar nr cr, .slice At2 nt2 ct2, .slice Al nl cl] 48))
                go_wp2_with fail
                have hC6 := Lib.hid (hC5.out.bel hba.out)
                have hR6 := Lib.hid (hR5.out.bel hba.out)
                have hxT6 := Lib.hid (hxT5.out.trans (hba.out.mono (by have := hxT5.out.size; have := hT'.out; omega)))
                have hB6 := Lib.hid (hB5.out.trans (hba.out.mono (Sd.le hC5.out.sd)))
                generalize hwv : w5.alloc (.cells #[.int .i64 kd, .slice Ar nr cr, .slice At2 nt2 ct2, .slice Al nl cl] 48) = w6 at hba hnew hC6 hR6 hxT6 hB6 ⊢
                clear hwv
                have hOx := Open_any w6 B a mb _ _ d hC6.out.sd hG.out (by omega) (by omega) 3 hok (hTe.out _ hB6.out)
                have hRg := fun (z : World) (hz9 : Rs B rb d z z) => refOpen_any z B rb _ _ d hz9 hG.out (by omega) (by omega) 3 hok
                obtain ⟨g1, g2⟩ := hG.out.open_ nm3 (head 3)
                obtain ⟨XX, hXX⟩ : ∃ XX, open_ d nm3 (head 3) = XX := ⟨_, rfl⟩
                rw [hXX] at hOx hRg g1 g2
                obtain ⟨⟨c0, rs, sz0⟩, d0⟩ := XX
                simp only at hOx hRg g1 g2
                have hRg' := Lib.hid hRg
                clear hRg hXX
                refine hOx.mono ?_
                clear hOx
                rintro e10 w10 ⟨p10, v10, er10, rfl, hcr10, A10, c10, rfl, ho10⟩
                have hRx := hRg'.out w10 ((hR6.out.kc (Kc.fm hcr10.st.2.1)).rs)
                (try simp only at hcr10 ho10 hRx)
                obtain ⟨k1, k2⟩ := hcr10.hc (Sd.le hC6.out.sd)
                have hC10 := Lib.hid k1
                have hX10 := Lib.hid k2
                have hxT10 := Lib.hid (hxT6.out.trans (hcr10.st.1.mono hTB))
                have hB10 := Lib.hid (hB6.out.trans hcr10.st.1)
                have hO10 := Lib.hid ho10
                have hRx' := Lib.hid hRx
                have g1' := Lib.hid g1
                have g2' := Lib.hid g2
                clear hcr10 ho10 hRx hRg' k1 k2 g1 g2
                go_wp2_with fail
                refine hRx'.out.mono ?_
                rintro e11 w11 ⟨p11, v11, rfl, hcr11, A11, c11, rfl, ho11⟩
                have hR11 := Lib.hid (hcr11.hr (Sd.le hC10.out.sd))
                have hC11 := Lib.hid (hC10.out.kr (Kr.rm hcr11.st.2.1))
                have hX11 := Lib.hid (hX10.out.kr (Kr.rm hcr11.st.2.1))
                have hxT11 := Lib.hid (hxT10.out.trans (hcr11.st.1.mono hTB))
                have hB11 := Lib.hid (hB10.out.trans hcr11.st.1)
                have hb1 := Lib.hid (OwR.bsl (OwR.rm hO10.out hcr11.st.2.1))
                have hb2 := Lib.hid (OwR.bsl ho11)
                clear hcr11 ho11 hO10 hRx'
                go_wp2_with fail
                refine (FrW.records_any _ _ _ rs _ _ _ rs w11 hb1.out hb2.out rfl).mono ?_
                rintro e12 w12 ⟨rfl, q12, rfl⟩
                have hbd12 : Below w11.heap.size w11 (w11.drewN q12) := Joins.below_draws _ w11 q12
                have hC12 := Lib.hid (hC11.out.bel hbd12)
                have hR12 := Lib.hid (hR11.out.bel hbd12)
                have hX12 := Lib.hid (hX11.out.bel hbd12)
                have hxT12 := Lib.hid (hxT11.out.trans (hbd12.mono (by have := hxT11.out.size; have := hT'.out; omega)))
                have hB12 := Lib.hid (hB11.out.trans (hbd12.mono (Sd.le hC11.out.sd)))
                generalize w11.drewN q12 = w12 at hC12 hR12 hX12 hxT12 hB12 ⊢
                clear hbd12 hb1 hb2
                go_wp2_with fail
                go_roundw
                case rel => exact ⟨k + 1, d0, xOf c0 sz0, c0, p10, p11, er10, by omega, by omega, by go_num, rfl, rfl, rfl, rfl, hC12, hR12, hX12, Lib.hid (g1'.out.mono (by omega) (by omega)), hxT12, hB12, Lib.hid (fun s hs => by unfold xOf at hs; split at hs; (injection hs with hs; subst hs; have := g2'.out; simp only; omega); cases hs)⟩
                case measure => simp [intOf]; omega
        | some s =>
          obtain ⟨sb, rfl, hsb1, hsb2⟩ := hC.out.2
          obtain ⟨rsb, rfl, hrs1, hrs2⟩ := hR.out.2
          have hsb2' := Lib.hid hsb2
          have hrs2' := Lib.hid hrs2
          clear hsb2 hrs2
          have hfl : Hid (∃ L F tv, Da wr B a mb L F tv d) := Lib.hid hC.out.1
          obtain ⟨lv, rtv, hRa⟩ := hR.out.1
          obtain ⟨A9, c9, rfl, hq9⟩ := hRa.sq
          have hlr := hRa.lt
          have hSr : Hid (∀ z, Below wr.heap.size wr z → z.cell? ⟨rb, 1, none⟩ = some (.slice A9 d.fs.length c9)) := Lib.hid fun z hb => (hb.cell (p := ⟨rb, 1, none⟩) hlr).trans (cell_blk hRa.blk rfl)
          have hq9' := Lib.hid (fe_of hq9)
          have hcode : Hid (∀ z, Below wr.heap.size wr z → Calls Tryz.prog 29 #[e] z fun e' w' => e' = .returned (.int .i64 cc) ∧ Below z.heap.size z w') := Lib.hid fun z hb =>
            (hX.out.bel hb).code (hE'.out.on (by rw [hT'.out]; exact hx.out.trans (hb.mono (by have := hx.out.size; have := hT'.out; omega))))
          have hcc : (cc != cc) = false := by simp
          have hcc2 : (cc == cc) = true := by simp
          clear hq9 hRa
          go_wp2_with fail
          refine Pl.wp_region_plan 18 (.take 0 (.take 2 (.run 1 (.take 3 (.take 4 (.take 5 (.take 6 (.take 7 (.take 8 (.take 9 (.take 10 (.take 11 (.take 12 (.take 14 (.take 15 (.take 16 (.take 17 (.run 13 .done))))))))))))))))))
            (fun z => z.cell? ⟨rb, 1, none⟩ = some (.slice A9 d.fs.length c9)) (by kernel_rfl) (by kernel_rfl) (by exact hSr.out _ (bD (Below.refl _ wr))) ?_
          simp only [Pl.fill, List.getElem?_cons_zero, List.getElem?_cons_succ, List.drop_succ_cons, List.drop_zero]
          iterate 2
            refine Pl.take_go ?_ (by rfl) (fun _ _ _ h => h) ?_ ?_
            rotate_left
            · (intro x hSw; (try dsimp only at hSw); go_simp; try with_reducible rfl)
            try simp only [Act.put, List.setIfInBounds_toArray, List.set_cons_zero, List.set_cons_succ]
          refine Pl.run_go (fun K hK => ?_)
          go_simp
          refine (hcode.out _ (bD (Below.refl _ wr))).mono ?_
          rintro e3 w3 ⟨rfl, hb3⟩
          have hx3 := Lib.hid ((bD (Below.refl wr.heap.size wr)).trans (hb3.mono (by simp)))
          clear hb3
          dsimp only
          refine hK.out _ _ (Pl.more_go _ (fun _ h => h) (by exact hSr.out _ hx3.out) ?_)
          clear hK K
          iterate 14
            refine Pl.take_go ?_ (by rfl) (fun _ _ _ h => h) ?_ ?_
            rotate_left
            · (intro x hSw; (try dsimp only at hSw); go_simp; try with_reducible rfl)
            try simp only [Act.put, List.setIfInBounds_toArray, List.set_cons_zero, List.set_cons_succ]
          refine Pl.run_go (fun K hK => ?_)
          go_simp
          refine (files_op (Hc.bel hC.out hx3.out).1 hG.out (by omega)).mono ?_
          rintro e4 w4 ⟨A8, c8, rfl, hq8, hb4⟩
          have hx4 := Lib.hid (hx3.out.trans (hb4.mono hx3.out.size))
          have hq8' := Lib.hid hq8
          clear hb4 hq8
          dsimp only
          refine hK.out _ _ (Pl.more_go _ (fun _ h => h) (by exact hSr.out _ hx4.out) ?_)
          clear hK K
          refine Pl.done_go ?_
          go_wp2_with fail
          refine (Same_refl A8 d.fs.length c8 A9 d.fs.length c9 (d.fs.map toIn) w4 hq8'.out (Sq.below hq9'.out (FeEl.below hx4.out) hx4.out)).mono ?_
          rintro e5 w5 ⟨rfl, q5, rfl⟩
          have hx5 := Lib.hid (hx4.out.trans ((Joins.below_draws _ w4 q5).mono hx4.out.size))
          generalize w4.drewN q5 = w5 at hx5 ⊢
          clear hq8' hq9' hcode hfl hSr hx3 hx4
          have hC5 := Lib.hid (hC.out.bel hx5.out)
          have hR5 := Lib.hid (hR.out.bel hx5.out)
          have hxT5 := Lib.hid (hx.out.trans (hx5.out.mono (by have := hx.out.size; have := hT'.out; omega)))
          have hB5 := Lib.hid (hB2.out.trans (hx5.out.mono (Sd.le hC.out.sd)))
          obtain ⟨m0, m1, m2, m3⟩ := hMc.out _ hxT5.out
          by_cases hk1 : kd = 1
          · subst hk1
            have hba := Lib.hid (below_alloc w5 (.cells #[.int .i64 1, .slice Ar nr cr, .slice At2 nt2 ct2, .slice Al nl cl] 48))
            have hnew := Lib.hid (heap_alloc_new w5 (.cells #[.int .i64 1, .slice Ar nr cr, .slice At2 nt2 ct2, .slice Al nl cl] 48))
            go_wp2_with fail
            have hC6 := Lib.hid (hC5.out.bel hba.out)
            have hR6 := Lib.hid (hR5.out.bel hba.out)
            have hxT6 := Lib.hid (hxT5.out.trans (hba.out.mono (by have := hxT5.out.size; have := hT'.out; omega)))
            have hB6 := Lib.hid (hB5.out.trans (hba.out.mono (Sd.le hC5.out.sd)))
            generalize hwv : w5.alloc (.cells #[.int .i64 1, .slice Ar nr cr, .slice At2 nt2 ct2, .slice Al nl cl] 48) = w6 at hba hnew hC6 hR6 hxT6 hB6 ⊢
            clear hwv
            refine (arm_op hC6.out.sc hG.out Al nl cl xx.list (hlist.out _ hxT6.out) hnl).mono ?_
            rintro e7 w7 ⟨rfl, hst7⟩
            have hC7 := Lib.hid (hC6.out.op hst7)
            have hR7 := Lib.hid (hR6.out.kc (Kc.fm hst7.2.1))
            have hxT7 := Lib.hid (hxT6.out.trans (hst7.1.mono hTB))
            have hB7 := Lib.hid (hB6.out.trans hst7.1)
            have n7 : w7.cell? ⟨w5.heap.size, 3, none⟩ = some (.slice Al nl cl) := cell_blk (hst7.2.1 _ _ _ _ hnew.out (by decide) (by decide)) rfl
            clear hst7 hba hnew
            go_wp2_with fail
            refine (rarm_op hR7.out.rs Al nl cl xx.list (hlist.out _ hxT7.out) hnl).mono ?_
            rintro e8 w8 ⟨rfl, hst8⟩
            have hR8 := Lib.hid (hR7.out.op hst8)
            have hC8 := Lib.hid (hC7.out.kr (Kr.rm hst8.2.1))
            have hxT8 := Lib.hid (hxT7.out.trans (hst8.1.mono hTB))
            have hB8 := Lib.hid (hB7.out.trans hst8.1)
            clear hst8
            go_wp2_with fail
            go_roundw
            case rel => exact ⟨k + 1, arm d xx.list, some s, 0, _, _, .nilIface, by omega, by omega, by go_num, rfl, rfl, rfl, rfl, hC8, hR8, Lib.hid (.inl ⟨rfl, rfl⟩), Lib.hid ((hG.out.arm xx.list (by have := hxm.out.list; omega)).mono (by omega) (by omega)), hxT8, hB8, Lib.hid (fun s hs => by have := hz.out s hs; omega)⟩
            case measure => simp [intOf]; omega
          · by_cases hk0 : kd = 0
            · subst hk0
              clear hk1
              have hba := Lib.hid (below_alloc w5 (.cells #[.int .i64 0, .slice Ar nr cr, .slice At2 nt2 ct2, .slice Al nl cl] 48))
              have hnew := Lib.hid (heap_alloc_new w5 (.cells #[.int .i64 0, .slice Ar nr cr, .slice At2 nt2 ct2, .slice Al nl cl] 48))
              go_wp2_with fail
              have hC6 := Lib.hid (hC5.out.bel hba.out)
              have hR6 := Lib.hid (hR5.out.bel hba.out)
              have hxT6 := Lib.hid (hxT5.out.trans (hba.out.mono (by have := hxT5.out.size; have := hT'.out; omega)))
              have hB6 := Lib.hid (hB5.out.trans (hba.out.mono (Sd.le hC5.out.sd)))
              generalize hwv : w5.alloc (.cells #[.int .i64 0, .slice Ar nr cr, .slice At2 nt2 ct2, .slice Al nl cl] 48) = w6 at hba hnew hC6 hR6 hxT6 hB6 ⊢
              clear hwv
              obtain ⟨u1, u2⟩ := hC6.out.blk
              obtain ⟨u3, u4⟩ := hR6.out.blk
              have hsz0 := hz.out s rfl
              refine (Append_any w6 w6 B a mb sb _ _ d hC6.out.sd hG.out (by omega) (by omega) 3 hok (hTe.out _ hB6.out) s (by omega) u2 u1 Ar nr cr xx.recs (hrecs.out _ hxT6.out) (by have := hxm.out.puts; omega)).mono ?_
              rintro e7 w7 ⟨er7, rfl, hst7, hb7, hr7⟩
              have hAR := refAppend_any w7 B rb rsb _ _ d ((hR6.out.kc hst7.2.1).rs) hG.out (by omega) (by omega) 3 hok s (by omega) ((hR6.out.kc hst7.2.1).blk).2 u3 Ar nr cr xx.recs (hrecs.out _ (hxT6.out.trans (hst7.1.mono hTB))) (by have := hxm.out.puts; omega)
              obtain ⟨g1, g2⟩ := hG.out.append nm3 s xx.recs
              obtain ⟨XX, hXX⟩ : ∃ XX, append d nm3 s xx.recs = XX := ⟨_, rfl⟩
              rw [hXX] at hst7 hb7 hr7 hAR g1 g2
              obtain ⟨⟨cc7, sz7, sk7⟩, d7⟩ := XX
              simp only at hst7 hb7 hr7 hAR g1 g2
              have hC7 : Hid (Hc B a mb w7 d7 (some ⟨sz7, sk7⟩) (.pointer (some ⟨sb, 0, none⟩))) := Lib.hid ⟨hst7.2.2, sb, rfl, u1, hb7⟩
              have hX7 : Hid (Hx w7 cc7 er7) := Lib.hid hr7
              have hxT7 := Lib.hid (hxT6.out.trans (hst7.1.mono hTB))
              have hB7 := Lib.hid (hB6.out.trans hst7.1)
              have n7 : w7.cell? ⟨w5.heap.size, 1, none⟩ = some (.slice Ar nr cr) := cell_blk (hst7.2.1 _ _ _ _ hnew.out (by decide) (by decide) (by decide)) rfl
              have hAR' := Lib.hid hAR
              have hG7 : Hid (Bd d7 (100 + 4 * (k + 1)) (100 + 2400 * (k + 1))) := Lib.hid (g1.mono (by omega) (by have := hxm.out.puts; omega))
              have hz7 : Hid (∀ s', some (⟨sz7, sk7⟩ : S) = some s' → s'.size ≤ 100 + 2400 * (k + 1)) := Lib.hid (fun s' hs => by injection hs with hs; subst hs; have := hxm.out.puts; simp only at g2 ⊢; omega)
              have u3' := Lib.hid u3
              clear hst7 hb7 hr7 hAR hba hnew hXX g1 g2 u1 u2 u3 u4 hsz0
              go_wp2_with fail
              refine hAR'.out.mono ?_
              rintro e8 w8 ⟨rfl, hst8, hb8⟩
              have hR8 : Hid (Hr B rb w8 d7 (some ⟨sz7, sk7⟩) (.pointer (some ⟨rsb, 0, none⟩))) := Lib.hid ⟨hst8.2.2, rsb, rfl, u3'.out, hb8⟩
              have hC8 := Lib.hid (hC7.out.kr hst8.2.1)
              have hX8 := Lib.hid (hX7.out.kr hst8.2.1)
              have hxT8 := Lib.hid (hxT7.out.trans (hst8.1.mono hTB))
              have hB8 := Lib.hid (hB7.out.trans hst8.1)
              have k2 : w8.cell? ⟨rsb, 2, none⟩ = some (.int .i64 (sz7 : Nat)) := cell_blk hb8 rfl
              have k3 : w8.cell? ⟨rsb, 3, none⟩ = some (.bool sk7) := cell_blk hb8 rfl
              have hsq8 : Hid (∀ q, (w8.drewN q).heap[sb]? = some (SegB a 3 ⟨sz7, sk7⟩)) := Lib.hid fun q => ((Joins.below_draws _ w8 q).block sb (Array.getElem?_eq_some_iff.1 hC8.out.blk.2).1).trans hC8.out.blk.2
              have b1 : (sk7 != sk7) = false := by simp
              clear hst8 hb8 hAR' hC7 hX7 n7
              go_wp2_with fail
              go_quiet ((first | (go_at_call 37; exact Calls.quiet_of_same (Size_any _ a sb 3 ⟨sz7, sk7⟩ (hsq8.out _))) | (go_at_call 27; exact Calls.quiet_of_same ((Sick_any _ a sb 3 ⟨sz7, sk7⟩ (hsq8.out _)).mono (fun _ _ h => ⟨h.1, h.2.symm⟩))) | (go_at_call 38; exact Calls.quiet_of_same (Number_any _ a sb 3 ⟨sz7, sk7⟩ (hsq8.out _)))))
              have hbq : Below w8.heap.size w8 (w8.drewN nq) := Joins.below_draws _ w8 nq
              have hC9 := Lib.hid (hC8.out.bel hbq)
              have hR9 := Lib.hid (hR8.out.bel hbq)
              have hX9 := Lib.hid (hX8.out.bel hbq)
              have hxT9 := Lib.hid (hxT8.out.trans (hbq.mono (by have := hxT8.out.size; have := hT'.out; omega)))
              have hB9 := Lib.hid (hB8.out.trans (hbq.mono (Sd.le hC8.out.sd)))
              generalize w8.drewN nq = w9 at hC9 hR9 hX9 hxT9 hB9 ⊢
              clear hbq k2 k3
              go_wp2_with fail
              go_roundw
              case rel => exact ⟨k + 1, d7, some ⟨sz7, sk7⟩, cc7, _, _, er7, by omega, by omega, by go_num, rfl, rfl, rfl, rfl, hC9, hR9, hX9, hG7, hxT9, hB9, hz7⟩
              case measure => simp [intOf]; omega
            · by_cases hk2 : kd = 2
              · subst hk2
                clear hk1 hk0
                have hba := Lib.hid (below_alloc w5 (.cells #[.int .i64 2, .slice Ar nr cr, .slice At2 nt2 ct2, .slice Al nl cl] 48))
                have hnew := Lib.hid (heap_alloc_new w5 (.cells #[.int .i64 2, .slice Ar nr cr, .slice At2 nt2 ct2, .slice Al nl cl] 48))
                go_wp2_with fail
                have hC6 := Lib.hid (hC5.out.bel hba.out)
                have hR6 := Lib.hid (hR5.out.bel hba.out)
                have hxT6 := Lib.hid (hxT5.out.trans (hba.out.mono (by have := hxT5.out.size; have := hT'.out; omega)))
                have hB6 := Lib.hid (hB5.out.trans (hba.out.mono (Sd.le hC5.out.sd)))
                generalize hwv : w5.alloc (.cells #[.int .i64 2, .slice Ar nr cr, .slice At2 nt2 ct2, .slice Al nl cl] 48) = w6 at hba hnew hC6 hR6 hxT6 hB6 ⊢
                clear hwv
                refine (crash_op hC6.out.sc hG.out (by omega) At2 nt2 ct2 xx.tails (fun w' hb _ => htl.out _ (hxT6.out.trans (hb.mono hTB)))).mono ?_
                rintro e7 w7 ⟨rfl, hst7⟩
                have hC7 := Lib.hid (hC6.out.op hst7)
                have hR7 := Lib.hid (hR6.out.kc (Kc.fm hst7.2.1))
                have hxT7 := Lib.hid (hxT6.out.trans (hst7.1.mono hTB))
                have hB7 := Lib.hid (hB6.out.trans hst7.1)
                have n7 : w7.cell? ⟨w5.heap.size, 2, none⟩ = some (.slice At2 nt2 ct2) := cell_blk (hst7.2.1 _ _ _ _ hnew.out (by decide) (by decide)) rfl
                clear hst7 hba hnew
                go_wp2_with fail
                refine (rcrash_op hR7.out.rs hG.out (by omega) At2 nt2 ct2 xx.tails (fun w' hb => htl.out _ (hxT7.out.trans (hb.mono hTB)))).mono ?_
                rintro e8 w8 ⟨rfl, hst8⟩
                have hR8 := Lib.hid (hR7.out.op hst8)
                have hC8 := Lib.hid (hC7.out.kr (Kr.rm hst8.2.1))
                have hxT8 := Lib.hid (hxT7.out.trans (hst8.1.mono hTB))
                have hB8 := Lib.hid (hB7.out.trans hst8.1)
                have hG8 := hG.out.crash xx.tails
                clear hst8 n7
                go_wp2_with fail
                have hOx := Open_any w8 B a mb _ _ (crash d xx.tails) hC8.out.sd hG8 (by omega) (by omega) 3 hok (hTe.out _ hB8.out)
                have hRg := fun (z : World) (hz9 : Rs B rb (crash d xx.tails) z z) => refOpen_any z B rb _ _ (crash d xx.tails) hz9 hG8 (by omega) (by omega) 3 hok
                obtain ⟨g1, g2⟩ := hG8.open_ nm3 (head 3)
                obtain ⟨XX, hXX⟩ : ∃ XX, open_ (crash d xx.tails) nm3 (head 3) = XX := ⟨_, rfl⟩
                rw [hXX] at hOx hRg g1 g2
                obtain ⟨⟨c0, rs, sz0⟩, d0⟩ := XX
                simp only at hOx hRg g1 g2
                have hRg' := Lib.hid hRg
                clear hRg hXX
                refine hOx.mono ?_
                clear hOx
                rintro e10 w10 ⟨p10, v10, er10, rfl, hcr10, A10, c10, rfl, ho10⟩
                have hRx := hRg'.out w10 ((hR8.out.kc (Kc.fm hcr10.st.2.1)).rs)
                (try simp only at hcr10 ho10 hRx)
                obtain ⟨k1, k2⟩ := hcr10.hc (Sd.le hC8.out.sd)
                have hC10 := Lib.hid k1
                have hX10 := Lib.hid k2
                have hxT10 := Lib.hid (hxT8.out.trans (hcr10.st.1.mono hTB))
                have hB10 := Lib.hid (hB8.out.trans hcr10.st.1)
                have hO10 := Lib.hid ho10
                have hRx' := Lib.hid hRx
                have g1' := Lib.hid g1
                have g2' := Lib.hid g2
                clear hcr10 ho10 hRx hRg' k1 k2 g1 g2
                go_wp2_with fail
                refine hRx'.out.mono ?_
                rintro e11 w11 ⟨p11, v11, rfl, hcr11, A11, c11, rfl, ho11⟩
                have hR11 := Lib.hid (hcr11.hr (Sd.le hC10.out.sd))
                have hC11 := Lib.hid (hC10.out.kr (Kr.rm hcr11.st.2.1))
                have hX11 := Lib.hid (hX10.out.kr (Kr.rm hcr11.st.2.1))
                have hxT11 := Lib.hid (hxT10.out.trans (hcr11.st.1.mono hTB))
                have hB11 := Lib.hid (hB10.out.trans hcr11.st.1)
                have hb1 := Lib.hid (OwR.bsl (OwR.rm hO10.out hcr11.st.2.1))
                have hb2 := Lib.hid (OwR.bsl ho11)
                clear hcr11 ho11 hO10 hRx'
                go_wp2_with fail
                refine (FrW.records_any _ _ _ rs _ _ _ rs w11 hb1.out hb2.out rfl).mono ?_
                rintro e12 w12 ⟨rfl, q12, rfl⟩
                have hbd12 : Below w11.heap.size w11 (w11.drewN q12) := Joins.below_draws _ w11 q12
                have hC12 := Lib.hid (hC11.out.bel hbd12)
                have hR12 := Lib.hid (hR11.out.bel hbd12)
                have hX12 := Lib.hid (hX11.out.bel hbd12)
                have hxT12 := Lib.hid (hxT11.out.trans (hbd12.mono (by have := hxT11.out.size; have := hT'.out; omega)))
                have hB12 := Lib.hid (hB11.out.trans (hbd12.mono (Sd.le hC11.out.sd)))
                generalize w11.drewN q12 = w12 at hC12 hR12 hX12 hxT12 hB12 ⊢
                clear hbd12 hb1 hb2
                go_wp2_with fail
                go_roundw
                case rel => exact ⟨k + 1, d0, xOf c0 sz0, c0, p10, p11, er10, by omega, by omega, by go_num, rfl, rfl, rfl, rfl, hC12, hR12, hX12, Lib.hid (g1'.out.mono (by omega) (by omega)), hxT12, hB12, Lib.hid (fun s hs => by unfold xOf at hs; split at hs; (injection hs with hs; subst hs; have := g2'.out; simp only; omega); cases hs)⟩
                case measure => simp [intOf]; omega
              · have hne0 : (kd == 0) = false := by rw [beq_eq_false_iff_ne]; exact hk0
                have hne1 : (kd == 1) = false := by rw [beq_eq_false_iff_ne]; exact hk1
                have hne2 : (kd == 2) = false := by rw [beq_eq_false_iff_ne]; exact hk2
                clear hk0 hk1 hk2
                have hba := Lib.hid (below_alloc w5 (.cells #[.int .i64 kd, .slice Ar nr cr, .slice At2 nt2 ct2, .slice Al nl cl] 48))
                have hnew := Lib.hid (heap_alloc_new w5 (.cells #[.int .i64 kd, .slice Ar nr cr, .slice At2 nt2 ct2, .slice Al nl cl] 48))
                go_wp2_with fail
                have hC6 := Lib.hid (hC5.out.bel hba.out)
                have hR6 := Lib.hid (hR5.out.bel hba.out)
                have hxT6 := Lib.hid (hxT5.out.trans (hba.out.mono (by have := hxT5.out.size; have := hT'.out; omega)))
                have hB6 := Lib.hid (hB5.out.trans (hba.out.mono (Sd.le hC5.out.sd)))
                generalize hwv : w5.alloc (.cells #[.int .i64 kd, .slice Ar nr cr, .slice At2 nt2 ct2, .slice Al nl cl] 48) = w6 at hba hnew hC6 hR6 hxT6 hB6 ⊢
                clear hwv
                have hOx := Open_any w6 B a mb _ _ d hC6.out.sd hG.out (by omega) (by omega) 3 hok (hTe.out _ hB6.out)
                have hRg := fun (z : World) (hz9 : Rs B rb d z z) => refOpen_any z B rb _ _ d hz9 hG.out (by omega) (by omega) 3 hok
                obtain ⟨g1, g2⟩ := hG.out.open_ nm3 (head 3)
                obtain ⟨XX, hXX⟩ : ∃ XX, open_ d nm3 (head 3) = XX := ⟨_, rfl⟩
                rw [hXX] at hOx hRg g1 g2
                obtain ⟨⟨c0, rs, sz0⟩, d0⟩ := XX
                simp only at hOx hRg g1 g2
                have hRg' := Lib.hid hRg
                clear hRg hXX
                refine hOx.mono ?_
                clear hOx
                rintro e10 w10 ⟨p10, v10, er10, rfl, hcr10, A10, c10, rfl, ho10⟩
                have hRx := hRg'.out w10 ((hR6.out.kc (Kc.fm hcr10.st.2.1)).rs)
                (try simp only at hcr10 ho10 hRx)
                obtain ⟨k1, k2⟩ := hcr10.hc (Sd.le hC6.out.sd)
                have hC10 := Lib.hid k1
                have hX10 := Lib.hid k2
                have hxT10 := Lib.hid (hxT6.out.trans (hcr10.st.1.mono hTB))
                have hB10 := Lib.hid (hB6.out.trans hcr10.st.1)
                have hO10 := Lib.hid ho10
                have hRx' := Lib.hid hRx
                have g1' := Lib.hid g1
                have g2' := Lib.hid g2
                clear hcr10 ho10 hRx hRg' k1 k2 g1 g2
                go_wp2_with fail
                refine hRx'.out.mono ?_
                rintro e11 w11 ⟨p11, v11, rfl, hcr11, A11, c11, rfl, ho11⟩
                have hR11 := Lib.hid (hcr11.hr (Sd.le hC10.out.sd))
                have hC11 := Lib.hid (hC10.out.kr (Kr.rm hcr11.st.2.1))
                have hX11 := Lib.hid (hX10.out.kr (Kr.rm hcr11.st.2.1))
                have hxT11 := Lib.hid (hxT10.out.trans (hcr11.st.1.mono hTB))
                have hB11 := Lib.hid (hB10.out.trans hcr11.st.1)
                have hb1 := Lib.hid (OwR.bsl (OwR.rm hO10.out hcr11.st.2.1))
                have hb2 := Lib.hid (OwR.bsl ho11)
                clear hcr11 ho11 hO10 hRx'
                go_wp2_with fail
                refine (FrW.records_any _ _ _ rs _ _ _ rs w11 hb1.out hb2.out rfl).mono ?_
                rintro e12 w12 ⟨rfl, q12, rfl⟩
                have hbd12 : Below w11.heap.size w11 (w11.drewN q12) := Joins.below_draws _ w11 q12
                have hC12 := Lib.hid (hC11.out.bel hbd12)
                have hR12 := Lib.hid (hR11.out.bel hbd12)
                have hX12 := Lib.hid (hX11.out.bel hbd12)
                have hxT12 := Lib.hid (hxT11.out.trans (hbd12.mono (by have := hxT11.out.size; have := hT'.out; omega)))
                have hB12 := Lib.hid (hB11.out.trans (hbd12.mono (Sd.le hC11.out.sd)))
                generalize w11.drewN q12 = w12 at hC12 hR12 hX12 hxT12 hB12 ⊢
                clear hbd12 hb1 hb2
                go_wp2_with fail
                go_roundw
                case rel => exact ⟨k + 1, d0, xOf c0 sz0, c0, p10, p11, er10, by omega, by omega, by go_num, rfl, rfl, rfl, rfl, hC12, hR12, hX12, Lib.hid (g1'.out.mono (by omega) (by omega)), hxT12, hB12, Lib.hid (fun s hs => by unfold xOf at hs; split at hs; (injection hs with hs; subst hs; have := g2'.out; simp only; omega); cases hs)⟩
                case measure => simp [intOf]; omega
      · by_cases h9 : k < n
        · have i1 : decide ((k : Int) < (n : Int)) = true := by rw [decide_eq_true_eq]; omega
          have i2 : decide (k < n) = true := by rw [decide_eq_true_eq]; omega
          have g1 : decide ((k : Int) < (30 : Int)) = false := by rw [decide_eq_false_iff_not]; omega
          have g2 : decide (k < 30) = false := by rw [decide_eq_false_iff_not]; omega
          cases x with
          | none =>
            obtain rfl := hC.out.2
            obtain rfl := hR.out.2
            have hfl : Hid (∃ L F tv, Da wr B a mb L F tv d) := Lib.hid hC.out.1
            obtain ⟨lv, rtv, hRa⟩ := hR.out.1
            obtain ⟨A9, c9, rfl, hq9⟩ := hRa.sq
            have hlr := hRa.lt
            have hSr : Hid (∀ z, Below wr.heap.size wr z → z.cell? ⟨rb, 1, none⟩ = some (.slice A9 d.fs.length c9)) := Lib.hid fun z hb => (hb.cell (p := ⟨rb, 1, none⟩) hlr).trans (cell_blk hRa.blk rfl)
            have hq9' := Lib.hid (fe_of hq9)
            have hcode : Hid (∀ z, Below wr.heap.size wr z → Calls Tryz.prog 29 #[e] z fun e' w' => e' = .returned (.int .i64 cc) ∧ Below z.heap.size z w') := Lib.hid fun z hb =>
              (hX.out.bel hb).code (hE'.out.on (by rw [hT'.out]; exact hx.out.trans (hb.mono (by have := hx.out.size; have := hT'.out; omega))))
            have hcc : (cc != cc) = false := by simp
            have hcc2 : (cc == cc) = true := by simp
            clear hq9 hRa
            go_wp2_with fail
            refine Pl.wp_region_plan 18 (.take 0 (.take 2 (.run 1 (.take 3 (.take 4 (.take 5 (.take 6 (.take 7 (.take 8 (.take 9 (.take 10 (.take 11 (.take 12 (.take 14 (.take 15 (.take 16 (.take 17 (.run 13 .done))))))))))))))))))
              (fun z => z.cell? ⟨rb, 1, none⟩ = some (.slice A9 d.fs.length c9)) (by kernel_rfl) (by kernel_rfl) (by exact hSr.out _ (bD (Below.refl _ wr))) ?_
            simp only [Pl.fill, List.getElem?_cons_zero, List.getElem?_cons_succ, List.drop_succ_cons, List.drop_zero]
            iterate 2
              refine Pl.take_go ?_ (by rfl) (fun _ _ _ h => h) ?_ ?_
              rotate_left
              · (intro x hSw; (try dsimp only at hSw); go_simp; try with_reducible rfl)
              try simp only [Act.put, List.setIfInBounds_toArray, List.set_cons_zero, List.set_cons_succ]
            refine Pl.run_go (fun K hK => ?_)
            go_simp
            refine (hcode.out _ (bD (Below.refl _ wr))).mono ?_
            rintro e3 w3 ⟨rfl, hb3⟩
            have hx3 := Lib.hid ((bD (Below.refl wr.heap.size wr)).trans (hb3.mono (by simp)))
            clear hb3
            dsimp only
            refine hK.out _ _ (Pl.more_go _ (fun _ h => h) (by exact hSr.out _ hx3.out) ?_)
            clear hK K
            iterate 14
              refine Pl.take_go ?_ (by rfl) (fun _ _ _ h => h) ?_ ?_
              rotate_left
              · (intro x hSw; (try dsimp only at hSw); go_simp; try with_reducible rfl)
              try simp only [Act.put, List.setIfInBounds_toArray, List.set_cons_zero, List.set_cons_succ]
            refine Pl.run_go (fun K hK => ?_)
            go_simp
            refine (files_op (Hc.bel hC.out hx3.out).1 hG.out (by omega)).mono ?_
            rintro e4 w4 ⟨A8, c8, rfl, hq8, hb4⟩
            have hx4 := Lib.hid (hx3.out.trans (hb4.mono hx3.out.size))
            have hq8' := Lib.hid hq8
            clear hb4 hq8
            dsimp only
            refine hK.out _ _ (Pl.more_go _ (fun _ h => h) (by exact hSr.out _ hx4.out) ?_)
            clear hK K
            refine Pl.done_go ?_
            go_wp2_with fail
            refine (Same_refl A8 d.fs.length c8 A9 d.fs.length c9 (d.fs.map toIn) w4 hq8'.out (Sq.below hq9'.out (FeEl.below hx4.out) hx4.out)).mono ?_
            rintro e5 w5 ⟨rfl, q5, rfl⟩
            have hx5 := Lib.hid (hx4.out.trans ((Joins.below_draws _ w4 q5).mono hx4.out.size))
            generalize w4.drewN q5 = w5 at hx5 ⊢
            clear hq8' hq9' hcode hfl hSr hx3 hx4
            have hC5 := Lib.hid (hC.out.bel hx5.out)
            have hR5 := Lib.hid (hR.out.bel hx5.out)
            have hxT5 := Lib.hid (hx.out.trans (hx5.out.mono (by have := hx.out.size; have := hT'.out; omega)))
            have hB5 := Lib.hid (hB2.out.trans (hx5.out.mono (Sd.le hC.out.sd)))
            go_wp2_with fail
            go_ret
            exact ⟨rfl, by rw [hT'.out]; exact hxT5.out⟩
          | some s =>
            obtain ⟨sb, rfl, hsb1, hsb2⟩ := hC.out.2
            obtain ⟨rsb, rfl, hrs1, hrs2⟩ := hR.out.2
            clear hsb2 hrs2
            have hfl : Hid (∃ L F tv, Da wr B a mb L F tv d) := Lib.hid hC.out.1
            obtain ⟨lv, rtv, hRa⟩ := hR.out.1
            obtain ⟨A9, c9, rfl, hq9⟩ := hRa.sq
            have hlr := hRa.lt
            have hSr : Hid (∀ z, Below wr.heap.size wr z → z.cell? ⟨rb, 1, none⟩ = some (.slice A9 d.fs.length c9)) := Lib.hid fun z hb => (hb.cell (p := ⟨rb, 1, none⟩) hlr).trans (cell_blk hRa.blk rfl)
            have hq9' := Lib.hid (fe_of hq9)
            have hcode : Hid (∀ z, Below wr.heap.size wr z → Calls Tryz.prog 29 #[e] z fun e' w' => e' = .returned (.int .i64 cc) ∧ Below z.heap.size z w') := Lib.hid fun z hb =>
              (hX.out.bel hb).code (hE'.out.on (by rw [hT'.out]; exact hx.out.trans (hb.mono (by have := hx.out.size; have := hT'.out; omega))))
            have hcc : (cc != cc) = false := by simp
            have hcc2 : (cc == cc) = true := by simp
            clear hq9 hRa
            go_wp2_with fail
            refine Pl.wp_region_plan 18 (.take 0 (.take 2 (.run 1 (.take 3 (.take 4 (.take 5 (.take 6 (.take 7 (.take 8 (.take 9 (.take 10 (.take 11 (.take 12 (.take 14 (.take 15 (.take 16 (.take 17 (.run 13 .done))))))))))))))))))
              (fun z => z.cell? ⟨rb, 1, none⟩ = some (.slice A9 d.fs.length c9)) (by kernel_rfl) (by kernel_rfl) (by exact hSr.out _ (bD (Below.refl _ wr))) ?_
            simp only [Pl.fill, List.getElem?_cons_zero, List.getElem?_cons_succ, List.drop_succ_cons, List.drop_zero]
            iterate 2
              refine Pl.take_go ?_ (by rfl) (fun _ _ _ h => h) ?_ ?_
              rotate_left
              · (intro x hSw; (try dsimp only at hSw); go_simp; try with_reducible rfl)
              try simp only [Act.put, List.setIfInBounds_toArray, List.set_cons_zero, List.set_cons_succ]
            refine Pl.run_go (fun K hK => ?_)
            go_simp
            refine (hcode.out _ (bD (Below.refl _ wr))).mono ?_
            rintro e3 w3 ⟨rfl, hb3⟩
            have hx3 := Lib.hid ((bD (Below.refl wr.heap.size wr)).trans (hb3.mono (by simp)))
            clear hb3
            dsimp only
            refine hK.out _ _ (Pl.more_go _ (fun _ h => h) (by exact hSr.out _ hx3.out) ?_)
            clear hK K
            iterate 14
              refine Pl.take_go ?_ (by rfl) (fun _ _ _ h => h) ?_ ?_
              rotate_left
              · (intro x hSw; (try dsimp only at hSw); go_simp; try with_reducible rfl)
              try simp only [Act.put, List.setIfInBounds_toArray, List.set_cons_zero, List.set_cons_succ]
            refine Pl.run_go (fun K hK => ?_)
            go_simp
            refine (files_op (Hc.bel hC.out hx3.out).1 hG.out (by omega)).mono ?_
            rintro e4 w4 ⟨A8, c8, rfl, hq8, hb4⟩
            have hx4 := Lib.hid (hx3.out.trans (hb4.mono hx3.out.size))
            have hq8' := Lib.hid hq8
            clear hb4 hq8
            dsimp only
            refine hK.out _ _ (Pl.more_go _ (fun _ h => h) (by exact hSr.out _ hx4.out) ?_)
            clear hK K
            refine Pl.done_go ?_
            go_wp2_with fail
            refine (Same_refl A8 d.fs.length c8 A9 d.fs.length c9 (d.fs.map toIn) w4 hq8'.out (Sq.below hq9'.out (FeEl.below hx4.out) hx4.out)).mono ?_
            rintro e5 w5 ⟨rfl, q5, rfl⟩
            have hx5 := Lib.hid (hx4.out.trans ((Joins.below_draws _ w4 q5).mono hx4.out.size))
            generalize w4.drewN q5 = w5 at hx5 ⊢
            clear hq8' hq9' hcode hfl hSr hx3 hx4
            have hC5 := Lib.hid (hC.out.bel hx5.out)
            have hR5 := Lib.hid (hR.out.bel hx5.out)
            have hxT5 := Lib.hid (hx.out.trans (hx5.out.mono (by have := hx.out.size; have := hT'.out; omega)))
            have hB5 := Lib.hid (hB2.out.trans (hx5.out.mono (Sd.le hC.out.sd)))
            go_wp2_with fail
            go_ret
            exact ⟨rfl, by rw [hT'.out]; exact hxT5.out⟩
        · have i1 : decide ((k : Int) < (n : Int)) = false := by rw [decide_eq_false_iff_not]; omega
          have i2 : decide (k < n) = false := by rw [decide_eq_false_iff_not]; omega
          cases x with
          | none =>
            obtain rfl := hC.out.2
            obtain rfl := hR.out.2
            have hfl : Hid (∃ L F tv, Da wr B a mb L F tv d) := Lib.hid hC.out.1
            obtain ⟨lv, rtv, hRa⟩ := hR.out.1
            obtain ⟨A9, c9, rfl, hq9⟩ := hRa.sq
            have hlr := hRa.lt
            have hSr : Hid (∀ z, Below wr.heap.size wr z → z.cell? ⟨rb, 1, none⟩ = some (.slice A9 d.fs.length c9)) := Lib.hid fun z hb => (hb.cell (p := ⟨rb, 1, none⟩) hlr).trans (cell_blk hRa.blk rfl)
            have hq9' := Lib.hid (fe_of hq9)
            have hcode : Hid (∀ z, Below wr.heap.size wr z → Calls Tryz.prog 29 #[e] z fun e' w' => e' = .returned (.int .i64 cc) ∧ Below z.heap.size z w') := Lib.hid fun z hb =>
              (hX.out.bel hb).code (hE'.out.on (by rw [hT'.out]; exact hx.out.trans (hb.mono (by have := hx.out.size; have := hT'.out; omega))))
            have hcc : (cc != cc) = false := by simp
            have hcc2 : (cc == cc) = true := by simp
            clear hq9 hRa
            go_wp2_with fail
            refine Pl.wp_region_plan 18 (.take 0 (.take 2 (.run 1 (.take 3 (.take 4 (.take 5 (.take 6 (.take 7 (.take 8 (.take 9 (.take 10 (.take 11 (.take 12 (.take 14 (.take 15 (.take 16 (.take 17 (.run 13 .done))))))))))))))))))
              (fun z => z.cell? ⟨rb, 1, none⟩ = some (.slice A9 d.fs.length c9)) (by kernel_rfl) (by kernel_rfl) (by exact hSr.out _ (bD (Below.refl _ wr))) ?_
            simp only [Pl.fill, List.getElem?_cons_zero, List.getElem?_cons_succ, List.drop_succ_cons, List.drop_zero]
            iterate 2
              refine Pl.take_go ?_ (by rfl) (fun _ _ _ h => h) ?_ ?_
              rotate_left
              · (intro x hSw; (try dsimp only at hSw); go_simp; try with_reducible rfl)
              try simp only [Act.put, List.setIfInBounds_toArray, List.set_cons_zero, List.set_cons_succ]
            refine Pl.run_go (fun K hK => ?_)
            go_simp
            refine (hcode.out _ (bD (Below.refl _ wr))).mono ?_
            rintro e3 w3 ⟨rfl, hb3⟩
            have hx3 := Lib.hid ((bD (Below.refl wr.heap.size wr)).trans (hb3.mono (by simp)))
            clear hb3
            dsimp only
            refine hK.out _ _ (Pl.more_go _ (fun _ h => h) (by exact hSr.out _ hx3.out) ?_)
            clear hK K
            iterate 14
              refine Pl.take_go ?_ (by rfl) (fun _ _ _ h => h) ?_ ?_
              rotate_left
              · (intro x hSw; (try dsimp only at hSw); go_simp; try with_reducible rfl)
              try simp only [Act.put, List.setIfInBounds_toArray, List.set_cons_zero, List.set_cons_succ]
            refine Pl.run_go (fun K hK => ?_)
            go_simp
            refine (files_op (Hc.bel hC.out hx3.out).1 hG.out (by omega)).mono ?_
            rintro e4 w4 ⟨A8, c8, rfl, hq8, hb4⟩
            have hx4 := Lib.hid (hx3.out.trans (hb4.mono hx3.out.size))
            have hq8' := Lib.hid hq8
            clear hb4 hq8
            dsimp only
            refine hK.out _ _ (Pl.more_go _ (fun _ h => h) (by exact hSr.out _ hx4.out) ?_)
            clear hK K
            refine Pl.done_go ?_
            go_wp2_with fail
            refine (Same_refl A8 d.fs.length c8 A9 d.fs.length c9 (d.fs.map toIn) w4 hq8'.out (Sq.below hq9'.out (FeEl.below hx4.out) hx4.out)).mono ?_
            rintro e5 w5 ⟨rfl, q5, rfl⟩
            have hx5 := Lib.hid (hx4.out.trans ((Joins.below_draws _ w4 q5).mono hx4.out.size))
            generalize w4.drewN q5 = w5 at hx5 ⊢
            clear hq8' hq9' hcode hfl hSr hx3 hx4
            have hC5 := Lib.hid (hC.out.bel hx5.out)
            have hR5 := Lib.hid (hR.out.bel hx5.out)
            have hxT5 := Lib.hid (hx.out.trans (hx5.out.mono (by have := hx.out.size; have := hT'.out; omega)))
            have hB5 := Lib.hid (hB2.out.trans (hx5.out.mono (Sd.le hC.out.sd)))
            go_wp2_with fail
            go_ret
            exact ⟨rfl, by rw [hT'.out]; exact hxT5.out⟩
          | some s =>
            obtain ⟨sb, rfl, hsb1, hsb2⟩ := hC.out.2
            obtain ⟨rsb, rfl, hrs1, hrs2⟩ := hR.out.2
            clear hsb2 hrs2
            have hfl : Hid (∃ L F tv, Da wr B a mb L F tv d) := Lib.hid hC.out.1
            obtain ⟨lv, rtv, hRa⟩ := hR.out.1
            obtain ⟨A9, c9, rfl, hq9⟩ := hRa.sq
            have hlr := hRa.lt
            have hSr : Hid (∀ z, Below wr.heap.size wr z → z.cell? ⟨rb, 1, none⟩ = some (.slice A9 d.fs.length c9)) := Lib.hid fun z hb => (hb.cell (p := ⟨rb, 1, none⟩) hlr).trans (cell_blk hRa.blk rfl)
            have hq9' := Lib.hid (fe_of hq9)
            have hcode : Hid (∀ z, Below wr.heap.size wr z → Calls Tryz.prog 29 #[e] z fun e' w' => e' = .returned (.int .i64 cc) ∧ Below z.heap.size z w') := Lib.hid fun z hb =>
              (hX.out.bel hb).code (hE'.out.on (by rw [hT'.out]; exact hx.out.trans (hb.mono (by have := hx.out.size; have := hT'.out; omega))))
            have hcc : (cc != cc) = false := by simp
            have hcc2 : (cc == cc) = true := by simp
            clear hq9 hRa
            go_wp2_with fail
            refine Pl.wp_region_plan 18 (.take 0 (.take 2 (.run 1 (.take 3 (.take 4 (.take 5 (.take 6 (.take 7 (.take 8 (.take 9 (.take 10 (.take 11 (.take 12 (.take 14 (.take 15 (.take 16 (.take 17 (.run 13 .done))))))))))))))))))
              (fun z => z.cell? ⟨rb, 1, none⟩ = some (.slice A9 d.fs.length c9)) (by kernel_rfl) (by kernel_rfl) (by exact hSr.out _ (bD (Below.refl _ wr))) ?_
            simp only [Pl.fill, List.getElem?_cons_zero, List.getElem?_cons_succ, List.drop_succ_cons, List.drop_zero]
            iterate 2
              refine Pl.take_go ?_ (by rfl) (fun _ _ _ h => h) ?_ ?_
              rotate_left
              · (intro x hSw; (try dsimp only at hSw); go_simp; try with_reducible rfl)
              try simp only [Act.put, List.setIfInBounds_toArray, List.set_cons_zero, List.set_cons_succ]
            refine Pl.run_go (fun K hK => ?_)
            go_simp
            refine (hcode.out _ (bD (Below.refl _ wr))).mono ?_
            rintro e3 w3 ⟨rfl, hb3⟩
            have hx3 := Lib.hid ((bD (Below.refl wr.heap.size wr)).trans (hb3.mono (by simp)))
            clear hb3
            dsimp only
            refine hK.out _ _ (Pl.more_go _ (fun _ h => h) (by exact hSr.out _ hx3.out) ?_)
            clear hK K
            iterate 14
              refine Pl.take_go ?_ (by rfl) (fun _ _ _ h => h) ?_ ?_
              rotate_left
              · (intro x hSw; (try dsimp only at hSw); go_simp; try with_reducible rfl)
              try simp only [Act.put, List.setIfInBounds_toArray, List.set_cons_zero, List.set_cons_succ]
            refine Pl.run_go (fun K hK => ?_)
            go_simp
            refine (files_op (Hc.bel hC.out hx3.out).1 hG.out (by omega)).mono ?_
            rintro e4 w4 ⟨A8, c8, rfl, hq8, hb4⟩
            have hx4 := Lib.hid (hx3.out.trans (hb4.mono hx3.out.size))
            have hq8' := Lib.hid hq8
            clear hb4 hq8
            dsimp only
            refine hK.out _ _ (Pl.more_go _ (fun _ h => h) (by exact hSr.out _ hx4.out) ?_)
            clear hK K
            refine Pl.done_go ?_
            go_wp2_with fail
            refine (Same_refl A8 d.fs.length c8 A9 d.fs.length c9 (d.fs.map toIn) w4 hq8'.out (Sq.below hq9'.out (FeEl.below hx4.out) hx4.out)).mono ?_
            rintro e5 w5 ⟨rfl, q5, rfl⟩
            have hx5 := Lib.hid (hx4.out.trans ((Joins.below_draws _ w4 q5).mono hx4.out.size))
            generalize w4.drewN q5 = w5 at hx5 ⊢
            clear hq8' hq9' hcode hfl hSr hx3 hx4
            have hC5 := Lib.hid (hC.out.bel hx5.out)
            have hR5 := Lib.hid (hR.out.bel hx5.out)
            have hxT5 := Lib.hid (hx.out.trans (hx5.out.mono (by have := hx.out.size; have := hT'.out; omega)))
            have hB5 := Lib.hid (hB2.out.trans (hx5.out.mono (Sd.le hC.out.sd)))
            go_wp2_with fail
            go_ret
            exact ⟨rfl, by rw [hT'.out]; exact hxT5.out⟩
end Go.Proofs.YtfdpnjebhllpkaaGreatDoor.Sg
