/- The law SegLasts. -/
import Derived.Test.YtfdpnjebhllpkaaGreatDoorMSgStep
namespace Go.Proofs.YtfdpnjebhllpkaaGreatDoor.Sg
open Go.RowKit Ma Dk

abbrev nm3 : Name := nameOf seg4 3
theorem Te.up {B B' : Nat} {w : World} (h : Te B w) (hB : B ≤ B') (hle : B' ≤ w.heap.size) : Te B' w := ⟨hle, fun w'' hb => h.tab w'' (hb.mono hB)⟩
def c3 : Int × D := create (new 1048576) nm3 (head 3)
theorem c3_ok : c3.1 = 0 := by decide +kernel
theorem c3_file : (get c3.2.fs nm3).map (fun f => (f.data, f.safe)) = some (head 3, 12) := by decide +kernel
theorem kp3 : Kp c3.2 nm3 (head 3) ⟨12, false⟩ [] [] := by
  have h := c3_file
  cases hg : get c3.2.fs nm3 with
  | none => rw [hg] at h; cases h
  | some f =>
    rw [hg] at h
    simp only [Option.map_some, Option.some.injEq, Prod.mk.injEq] at h
    have hl : (head 3).length = 12 := head_len (by decide)
    refine ⟨?_, fun r hr => (by cases hr), fun r hr => (by cases hr), ⟨f, 0, hg, ?_, ?_, ?_⟩, fun _ => rfl⟩
    · rw [List.length_append, hl]; rfl
    · rw [h.1]; simp [Fr.puts]
    · rw [h.2, List.length_append, hl]; exact Nat.le_refl _
    · rw [h.1, h.2, hl]; exact Nat.le_refl _

theorem arm_op {B a mb N U : Nat} {d : D} {w0 w : World} (h : Sc B a mb d w0 w) (_hG : Bd d N U) (A : Option Addr) (n c : Nat) (l : List Tr) (hq : Sq TrEl 3 w A n c l) (hn : n ≤ 1000000) :
    Calls Tryz.prog 26 #[.pointer (some ⟨a, 0, none⟩), .slice A n c] w fun e w' => e = .returned (.tuple #[]) ∧ Sd B a mb (arm d l) w w' := by
  obtain ⟨_, _, L, F, tv, hD⟩ := h
  exact Arm_any w B a mb L F tv d hD A n c l hq hn
theorem crash_op {B a mb N U : Nat} {d : D} {w0 w : World} (h : Sc B a mb d w0 w) (hG : Bd d N U) (hU : U ≤ 1000000) (A : Option Addr) (n c : Nat) (l : List Int) (hT : ∀ w', Below B w w' → Fm w w' → Rd w' A n c (l.map (Value.int .i64))) :
    Calls Tryz.prog 30 #[.pointer (some ⟨a, 0, none⟩), .slice A n c] w fun e w' => e = .returned (.tuple #[]) ∧ Sd B a mb (crash d l) w w' := by
  obtain ⟨_, _, L, F, tv, hD⟩ := h
  have hfl := (hG.mono (Nat.le_refl N) hU : Bd d N 1000000)
  exact Crash_any w B a mb L F tv d hD (by have := hD.len_eq; have := hG.inv.most; omega) (fun p hp => by
    have h1 := may_len (hG.inv.names p hp)
    have h2 := hG.fl hU p hp
    exact ⟨by omega, by omega, hG.inv.safe p hp⟩) A n c l hT

/-- Behind k steps: the disk, the segment, what is kept, what may be; the row kr of what is kept, and that of what may be, in memory. -/
structure Li (T B a mb sb : Nat) (W w2 wr : World) (k : Nat) (d : D) (s : S) (kept kr maybe : List (List UInt8)) (Ak : Option Addr) (nk ck : Nat) (Am : Option Addr) (nm cm : Nat) : Prop where
  b2 : Below B w2 wr
  da : ∃ L F tv, Da wr B a mb L F tv d
  blk : wr.heap[sb]? = some (SegB a 3 s)
  kp : Kp d nm3 (head 3) s kept maybe
  bd : Bd d (100 + 4 * k) (100 + 2400 * k)
  sz : s.size ≤ 100 + 2400 * k
  lk : nk = kr.length ∧ nk ≤ 50 * k
  row : OwS (KeEl T) 1 wr B 22 (.slice Ak nk ck) kr
  may : ∀ w', Below T W w' → BsL w' Am nm cm maybe
  bel : Below T W wr
  tb : T ≤ B
  tw : T ≤ W.heap.size
theorem below_own {α : Type} {El : World → List Value → α → Prop} {k B E T : Nat} {w w' : World} {v : Value} {l : List α} (h : OwS El k w B E v l) (hg : w.grownBy w' v.ownBlock) (hT : T ≤ B) (hB : B ≤ w.heap.size) : Below T w w' := by
  cases hv : v.ownBlock with
  | none =>
    rw [hv] at hg
    exact ⟨hg.os, hg.tape, hg.output, hg.size, fun k hk => hg.block k (Nat.lt_of_lt_of_le hk (Nat.le_trans hT hB)) (by simp)⟩
  | some g =>
    rw [hv] at hg
    exact below_row hg (Nat.le_trans hT (h.lt g hv).1) (Nat.le_trans hT hB)
theorem keep_row {T B : Nat} {w w' : World} {v : Value} {l : List (List UInt8)} (h : OwS (KeEl T) 1 w B 22 v l) (hk : Kc w w') (hb : Below T w w') (hT : T ≤ w.heap.size) : OwS (KeEl T) 1 w' B 22 v l := by
  obtain ⟨xs, h3, h4⟩ := h
  exact ⟨xs, hk.row h3 (by decide) (by decide) (by decide), h4.mono (KeEl.below hb hT)⟩
theorem ows_own {α : Type} {El : World → List Value → α → Prop} {k : Nat} {w : World} {B E : Nat} {v : Value} {l : List α} (h : OwS El k w B E v l) {g : Nat} (hg : v.ownBlock = some g) : ∃ cs fr, w.heap[g]? = some (.cells cs E fr) := by
  obtain ⟨xs, ⟨_, h1⟩, _⟩ := h
  rcases h1 with ⟨rfl, _⟩ | ⟨g', cap, cur, rfl, _, hh, _⟩
  · cases hg
  · injection hg with hg
    subst hg
    exact ⟨_, _, hh⟩
theorem Da.row {w w' : World} {B a mb : Nat} {L : Al Nat} {F : Nat → Fl} {tv : Value} {d : D} (h : Da w B a mb L F tv d) {v : Value} {l : List (List UInt8)} {T : Nat} (ho : OwS (KeEl T) 1 w B 22 v l) (hg : w.grownBy w' v.ownBlock) : Da w' B a mb L F tv d := by
  refine h.kept hg (fun e => ?_) (fun e => ?_) (fun p hp e => ?_) (ows_noE ho (by decide)) (ows_noE ho (by decide))
  · obtain ⟨cs, fr, hh⟩ := ows_own ho e.symm
    rw [h.blk] at hh
    injection hh with hh
    injection hh with _ e2 _
    exact absurd e2 (by decide)
  · obtain ⟨cs, fr, hh⟩ := ows_own ho e.symm
    obtain ⟨es, cl, hm⟩ := h.mblk
    rw [hm] at hh
    cases hh
  · obtain ⟨cs, fr, hh⟩ := ows_own ho e.symm
    obtain ⟨_, v2, h2, _⟩ := h.files p hp
    rw [h2] at hh
    injection hh with hh
    injection hh with _ e2 _
    exact absurd e2 (by decide)
section
variable {T B a mb sb k : Nat} {W w2 wr w' : World} {d d' : D} {s s' : S} {kept kept' kr maybe maybe' : List (List UInt8)} {Ak Am Am' : Option Addr} {nk ck nm cm nm' cm' : Nat}
theorem Li.sd (h : Li T B a mb sb W w2 wr k d s kept kr maybe Ak nk ck Am nm cm) : Sd B a mb d wr wr := ⟨Below.refl _ _, Fm.refl _, h.da⟩
theorem Li.sc (h : Li T B a mb sb W w2 wr k d s kept kr maybe Ak nk ck Am nm cm) : Sc B a mb d wr wr := ⟨Below.refl _ _, Kc.refl _, h.da⟩
theorem Li.next (h : Li T B a mb sb W w2 wr k d s kept kr maybe Ak nk ck Am nm cm) : Li T B a mb sb W w2 wr (k + 1) d s kept kr maybe Ak nk ck Am nm cm :=
  ⟨h.b2, h.da, h.blk, h.kp, h.bd.mono (by omega) (by omega), by have := h.sz; omega, ⟨h.lk.1, by have := h.lk.2; omega⟩, h.row, h.may, h.bel, h.tb, h.tw⟩
theorem Li.sc_ (h : Li T B a mb sb W w2 wr k d s kept kr maybe Ak nk ck Am nm cm) (hst : Sc B a mb d' wr w') (hB : w'.heap[sb]? = some (SegB a 3 s')) (hkp : Kp d' nm3 (head 3) s' kept' maybe') (hmay : ∀ w', Below T W w' → BsL w' Am' nm' cm' maybe') {k' : Nat} (hbd : Bd d' (100 + 4 * k') (100 + 2400 * k')) (hsz : s'.size ≤ 100 + 2400 * k') (hk : k ≤ k') :
    Li T B a mb sb W w2 w' k' d' s' kept' kr maybe' Ak nk ck Am' nm' cm' :=
  ⟨h.b2.trans hst.1, hst.2.2, hB, hkp, hbd, hsz, ⟨h.lk.1, by have := h.lk.2; omega⟩, keep_row h.row hst.2.1 (hst.1.mono h.tb) (Nat.le_trans h.tw h.bel.size), hmay, h.bel.trans (hst.1.mono h.tb), h.tb, h.tw⟩
theorem Li.bel_ (h : Li T B a mb sb W w2 wr k d s kept kr maybe Ak nk ck Am nm cm) (hb : Below wr.heap.size wr w') : Li T B a mb sb W w2 w' k d s kept kr maybe Ak nk ck Am nm cm :=
  h.sc_ (Sc.bel h.sc hb) ((hb.block sb (Array.getElem?_eq_some_iff.1 h.blk).1).trans h.blk) h.kp h.may h.bd h.sz (Nat.le_refl _)
theorem Li.op_ (h : Li T B a mb sb W w2 wr k d s kept kr maybe Ak nk ck Am nm cm) (hst : Sd B a mb d' wr w') (hkp : Kp d' nm3 (head 3) s kept maybe) {k' : Nat} (hbd : Bd d' (100 + 4 * k') (100 + 2400 * k')) (hk : k ≤ k') :
    Li T B a mb sb W w2 w' k' d' s kept kr maybe Ak nk ck Am nm cm :=
  h.sc_ (Sc.of hst) (hst.2.1 sb _ _ _ h.blk (by decide) (by decide)) hkp h.may hbd (by have := h.sz; omega) hk
/-- The row of what is kept has grown. -/
theorem Li.grow (h : Li T B a mb sb W w2 wr k d s kept kr maybe Ak nk ck Am nm cm) {Ak' : Option Addr} {nk' ck' : Nat} {kr' : List (List UInt8)} (ho : OwS (KeEl T) 1 w' B 22 (.slice Ak' nk' ck') kr') (hg : wr.grownBy w' (Value.slice Ak nk ck).ownBlock) (hb : Below B wr w') (hl : nk' = kr'.length ∧ nk' ≤ 50 * k) :
    Li T B a mb sb W w2 w' k d s kept kr' maybe Ak' nk' ck' Am nm cm := by
  obtain ⟨L, F, tv, hD⟩ := h.da
  refine ⟨h.b2.trans hb, ⟨L, F, tv, Da.row hD h.row hg⟩, ?_, h.kp, h.bd, h.sz, hl, ho, h.may, h.bel.trans (hb.mono h.tb), h.tb, h.tw⟩
  refine (hg.block sb (Array.getElem?_eq_some_iff.1 h.blk).1 (fun e => ?_)).trans h.blk
  obtain ⟨cs, fr, hh⟩ := ows_own h.row e.symm
  rw [h.blk] at hh
  injection hh with hh
  injection hh with _ e2 _
  exact absurd e2 (by decide)
end

set_option maxHeartbeats 4000000 in
set_option maxRecDepth 100000 in
theorem lasts_law (A : Option Addr) (n c : Nat) (l : List Sx) (At : Option Addr) (nt ct : Nat) (tails : List Int) (W : World) (hE : Er.En W.heap.size W) (hS : Sq SdEl 4 W A n c l) (hz : ∀ x ∈ l, ∀ r ∈ x.recs, r.length ≤ 140737488351232)
    (ht : Rd W At nt ct (tails.map (Value.int .i64))) :
    Calls Tryz.prog 5 #[.slice A n c, .slice At nt ct] W fun e w' => e = .returned (.bool true) ∧ Below W.heap.size W w' := by
  have hle := hS.le
  have hmx := hS.max
  have htle := ht.le
  have htmx := ht.max
  have hS' := Lib.hid hS
  have ht' := Lib.hid ht
  have hz' := Lib.hid hz
  have hE' := Lib.hid hE
  obtain ⟨T, hT⟩ : ∃ T, W.heap.size = T := ⟨_, rfl⟩
  have hT' := Lib.hid hT
  have hok : okN 3 = true := by decide
  clear hS ht hz hE hT
  go_enter Tryz.func5, Tryz.ntmps5
  go_wp2_with fail
  refine (awake_any W (Te.of hE'.out)).mono ?_
  rintro e w1 ⟨rfl, hb1⟩
  have hx1 := Lib.hid hb1
  clear hb1
  go_wp2_with fail
  refine (small_any A n c l w1 (hS'.out.below (SdEl.below hx1.out) hx1.out) hz'.out).mono ?_
  rintro e w1' ⟨b, rfl, hsm, rfl⟩
  have hsm' := Lib.hid hsm
  clear hsm
  cases b with
  | false =>
    go_wp2_with fail
    go_ret
    exact ⟨rfl, hx1.out⟩
  | true =>
    have hSm := Lib.hid (hsm'.out rfl)
    clear hsm'
    by_cases hbig : 100 < nt
    · have i1 : decide ((100 : Int) < (nt : Int)) = true := by rw [decide_eq_true_eq]; omega
      have i2 : decide (100 < nt) = true := by rw [decide_eq_true_eq]; omega
      go_wp2_with fail
      go_ret
      exact ⟨rfl, hx1.out⟩
    · have i1 : decide ((100 : Int) < (nt : Int)) = false := by rw [decide_eq_false_iff_not]; omega
      have i2 : decide (100 < nt) = false := by rw [decide_eq_false_iff_not]; omega
      go_wp2_with fail
      refine (New_any w1 1048576).mono ?_
      rintro e w2 ⟨a, mb, rfl, hD2, hb2⟩
      obtain ⟨B, hB⟩ : ∃ B, w1.heap.size = B := ⟨_, rfl⟩
      have hTB : T ≤ B := by have := hx1.out.size; have := hT'.out; omega
      have hS2 : Hid (Sd B a mb (new 1048576) w2 w2) := Lib.hid (Sd.refl' (hD2.out B (fun _ => ⟨[], 0⟩) (by omega)))
      have hx2 : Hid (Below T W w2) := Lib.hid (by rw [← hT'.out]; exact hx1.out.trans (hb2.mono hx1.out.size))
      have hTe : Hid (∀ w', Below B w2 w' → Te B w') := Lib.hid fun w' hb => by
        have h1 : Te W.heap.size w2 := (Te.of hE'.out).on (by rw [hT'.out]; exact hx2.out)
        exact (h1.up (by rw [hT'.out]; exact hTB) (Sd.le hS2.out)).on hb
      clear hb2 hD2 hB
      go_wp2_with fail
      refine (Create_any w2 B a mb 0 0 (new 1048576) hS2.out (Bd.new 1048576 (by decide)) (by omega) (by omega) 3 hok (hTe.out _ (Below.refl _ _))).mono ?_
      rintro e w3 ⟨p, er, rfl, hst3, hres3⟩
      have hc1 : (create (new 1048576) (nameOf seg4 3) (head 3)).1 = 0 := c3_ok
      rcases hres3 with ⟨_, rfl, sb, rfl, hsb, hB3⟩ | ⟨hne, _⟩
      case inr => exact absurd hc1 hne
      have hS3 : Hid (Sc B a mb c3.2 w2 w3) := Lib.hid (Sc.of hst3)
      have hB3' := Lib.hid hB3
      have hsb' : Hid (B ≤ sb) := Lib.hid (Nat.le_trans (Sd.le hS2.out) hsb)
      have hx3 : Hid (Below T W w3) := Lib.hid (hx2.out.trans (hst3.1.mono hTB))
      have hG3 : Hid (Bd c3.2 100 100) := Lib.hid (by
        have := (Bd.new 1048576 (by decide)).create nm3 (head 3)
        exact this.mono (by omega) (by rw [head_len hok]; omega))
      clear hst3 hc1 hsb hB3
      go_wp2_with fail
      go_loopw [8, 9, 10] (fun kv mv i wr => ∃ (k : Nat) (d : D) (s : S) (kept maybe : List (List UInt8)) (Ak : Option Addr) (nk ck : Nat) (Am : Option Addr) (nm cm : Nat), k ≤ n ∧ k ≤ 30 ∧ i = .int .i64 k ∧ kv = .slice Ak nk ck ∧ mv = .slice Am nm cm ∧
        Hid (Li T B a mb sb W w2 wr k d s kept kept maybe Ak nk ck Am nm cm)) (fun _ _ i _ => n - (intOf i).toNat)
      case atStart => exact ⟨0, c3.2, ⟨12, false⟩, [], [], none, 0, 0, none, 0, 0, by omega, by omega, rfl, rfl, rfl, Lib.hid ⟨hS3.out.1, hS3.out.2.2, hB3'.out, kp3, hG3.out, by simp, ⟨rfl, by omega⟩, OwS.nil _ _ _, fun w' _ => BsL.nil w', hx3.out, hTB, by rw [hT'.out]; exact Nat.le_refl _⟩⟩
      case round =>
        obtain ⟨k, d, s, kept, maybe, Ak, nk, ck, Am, nm, cm, hk, hk30, rfl, rfl, rfl, hLi⟩ := hrel
        by_cases hend : k < n ∧ k < 30
        · obtain ⟨hlt, h30⟩ := hend
          have i1 : decide ((k : Int) < (n : Int)) = true := by rw [decide_eq_true_eq]; omega
          have i2 : decide (k < n) = true := by rw [decide_eq_true_eq]; omega
          have i3 : (k : Int) < (n : Int) := by omega
          have g1 : decide ((k : Int) < (30 : Int)) = true := by rw [decide_eq_true_eq]; omega
          have g2 : decide (k < 30) = true := by rw [decide_eq_true_eq]; omega
          obtain ⟨pb, off, x, vs, rfl, hpb, hf, hvs, hel, hcs⟩ := hS'.out.at_ hlt
          have hxm := Lib.hid (hSm.out k x hf h30)
          obtain ⟨Ar, nr, cr, At2, nt2, ct2, Al, nl, cl, rfl, hbs, hrd, hsq⟩ := hel
          have hpb' : pb < W.heap.size := hpb
          have hxW : Hid (Below W.heap.size W wr) := Lib.hid (by have := hLi.out.bel; rw [← hT'.out] at this; exact this)
          have m0 : wr.cell? ⟨pb, off + k * 4, none⟩ = some (.int .i64 x.kind) := (hxW.out.cell (p := ⟨pb, off + k * 4, none⟩) hpb').trans (hcs 0 _ rfl)
          have m1 : wr.cell? ⟨pb, off + k * 4 + 1, none⟩ = some (.slice Ar nr cr) := (hxW.out.cell (p := ⟨pb, off + k * 4 + 1, none⟩) hpb').trans (hcs 1 _ rfl)
          have m2 : wr.cell? ⟨pb, off + k * 4 + 2, none⟩ = some (.slice At2 nt2 ct2) := (hxW.out.cell (p := ⟨pb, off + k * 4 + 2, none⟩) hpb').trans (hcs 2 _ rfl)
          have m3 : wr.cell? ⟨pb, off + k * 4 + 3, none⟩ = some (.slice Al nl cl) := (hxW.out.cell (p := ⟨pb, off + k * 4 + 3, none⟩) hpb').trans (hcs 3 _ rfl)
          have hrecs : Hid (∀ w', Below T W w' → BsL w' Ar nr cr x.recs) := Lib.hid fun w' hb => hbs.below (by rw [hT'.out]; exact hb)
          have hke : Hid (Sq (KeEl T) 1 W Ar nr cr x.recs) := Lib.hid (by have := BsL.ke hbs; rw [hT'.out] at this; exact this)
          have hlist : Hid (∀ w', Below T W w' → Sq TrEl 3 w' Al nl cl x.list) := Lib.hid fun w' hb => hsq.below (fun _ _ h => h) (by rw [hT'.out]; exact hb)
          have hnr : Hid (x.recs.length = nr) := Lib.hid hbs.len
          have hnl : nl ≤ 1000000 := by have := hsq.len; have := hxm.out.list; omega
          have hba := Lib.hid (below_alloc wr (.cells #[.int .i64 x.kind, .slice Ar nr cr, .slice At2 nt2 ct2, .slice Al nl cl] 48))
          clear hcs hvs hbs hrd hsq hf hpb
          have hnew := Lib.hid (heap_alloc_new wr (.cells #[.int .i64 x.kind, .slice Ar nr cr, .slice At2 nt2 ct2, .slice Al nl cl] 48))
          obtain ⟨kd, hkd⟩ : ∃ kd, x.kind = kd := ⟨_, rfl⟩
          rw [hkd] at m0 hba hnew
          clear hkd
          by_cases hk1 : kd = 1
          · subst hk1
            go_wp2_with fail
            have hLa := Lib.hid (hLi.out.bel_ hba.out)
            generalize hwv : wr.alloc (.cells #[.int .i64 1, .slice Ar nr cr, .slice At2 nt2 ct2, .slice Al nl cl] 48) = wv at hba hnew hLa ⊢
            clear hwv
            refine (arm_op hLa.out.sc hLa.out.bd Al nl cl x.list (hlist.out _ hLa.out.bel) hnl).mono ?_
            rintro e w5 ⟨rfl, hst5⟩
            have hL5 := Lib.hid (hLa.out.op_ (k' := k + 1) hst5 (hLa.out.kp.tr 0 d.down x.list) ((hLa.out.bd.arm x.list (by have := hxm.out.list; omega)).mono (by omega) (by omega)) (by omega))
            have n5 : w5.cell? ⟨wr.heap.size, 0, none⟩ = some (.int .i64 1) := cell_blk (hst5.2.1 _ _ _ _ hnew.out (by decide) (by decide)) rfl
            clear hst5 hba hnew hLa
            go_wp2_with fail
            go_roundw
            case rel => exact ⟨k + 1, _, s, kept, maybe, Ak, nk, ck, Am, nm, cm, by omega, by omega, by go_num, rfl, rfl, hL5⟩
            case measure => simp [intOf]; omega
          · by_cases hk0 : kd = 0
            · subst hk0
              clear hk1
              go_wp2_with fail
              have hLa := Lib.hid (hLi.out.bel_ hba.out)
              generalize hwv : wr.alloc (.cells #[.int .i64 0, .slice Ar nr cr, .slice At2 nt2 ct2, .slice Al nl cl] 48) = wv at hba hnew hLa ⊢
              clear hwv
              obtain ⟨sz, sk⟩ := s
              refine (Sick_any wv a sb 3 _ hLa.out.blk).mono ?_
              rintro e w5 ⟨rfl, rfl⟩
              cases sk with
              | true =>
                go_wp2_with fail
                go_roundw
                case rel => exact ⟨k + 1, d, ⟨sz, true⟩, kept, maybe, Ak, nk, ck, Am, nm, cm, by omega, by omega, by go_num, rfl, rfl, Lib.hid hLa.out.next⟩
                case measure => simp [intOf]; omega
              | false =>
                have n1 : wv.cell? ⟨wr.heap.size, 1, none⟩ = some (.slice Ar nr cr) := cell_blk hnew.out rfl
                go_wp2_with fail
                refine (Append_any wv wv B a mb sb _ _ d hLa.out.sd hLa.out.bd (by omega) (by omega) 3 hok (hTe.out _ hLa.out.b2) ⟨sz, false⟩ (by have := hLa.out.sz; simp only at this ⊢; omega) hLa.out.blk hsb'.out Ar nr cr x.recs (hrecs.out _ hLa.out.bel) (by have := hxm.out.puts; omega)).mono ?_
                rintro e w5 ⟨er, rfl, hst5, hB5, hr5⟩
                obtain ⟨q1, q2, q3⟩ := hLa.out.kp.append rfl x.recs
                obtain ⟨p1, p2⟩ := hLa.out.bd.append nm3 ⟨sz, false⟩ x.recs
                obtain ⟨X, hX⟩ : ∃ X, append d nm3 ⟨sz, false⟩ x.recs = X := ⟨_, rfl⟩
                rw [hX] at q1 q2 q3 p1 p2 hst5 hB5 hr5
                obtain ⟨⟨cc, sz5, sk5⟩, d5⟩ := X
                simp only at q1 q2 q3 p1 p2 hst5 hB5 hr5
                have hpb := hxm.out.puts
                have hbd5 : Bd d5 (100 + 4 * (k + 1)) (100 + 2400 * (k + 1)) := p1.mono (by omega) (by omega)
                have hsz5 : sz5 ≤ 100 + 2400 * (k + 1) := by have := hLa.out.sz; simp only at this; omega
                have hn5 := hst5.2.1 _ _ _ _ hnew.out (by decide) (by decide) (by decide)
                have hn5' := Lib.hid hn5
                have hlk0 := Lib.hid hLi.out.lk
                rcases hr5 with ⟨hc0, rfl⟩ | ⟨hcn, herr⟩
                · have hL5 := Lib.hid (hLa.out.sc_ (s' := ⟨sz5, sk5⟩) (k' := k + 1) hst5 hB5 (q1 hc0) hLa.out.may hbd5 hsz5 (by omega))
                  clear q1 q2 q3 p1 p2 hst5 hB5 hpb hbd5 hsz5 hn5 hc0 hX hnew hLa hba n1
                  go_wp2_with fail
                  refine (Er.Code_ok w5).mono ?_
                  rintro e w6 ⟨rfl, hb6⟩
                  have hL6 := Lib.hid (hL5.out.bel_ hb6)
                  have hlt6 : wr.heap.size < w5.heap.size := (Array.getElem?_eq_some_iff.1 hn5'.out).1
                  have hn6 := (hb6.block _ hlt6).trans hn5'.out
                  have n6 : w6.cell? ⟨wr.heap.size, 1, none⟩ = some (.slice Ar nr cr) := cell_blk hn6 rfl
                  have hke6 := Lib.hid (Sq.below hke.out (KeEl.below hL6.out.bel hL6.out.tw) (by rw [hT'.out]; exact hL6.out.bel))
                  clear hb6 hn6 hlt6
                  go_wp2_with (at_builtin; apply stop_here)
                  refine Stop.go (append_sq (El := KeEl T) (k := 1) _ 24 22 (.slice none 0 0) 24 Tryz.underlying24 (by kernel_rfl) rfl (by omega) rfl _ _ rfl B _ kept rfl hL6.out.row _ nr cr x.recs rfl hke6.out (KeEl.one _) (fun w' hg => KeEl.below (below_own hL6.out.row hg hL6.out.tb (Sd.le hL6.out.sd)) (Nat.le_trans hL6.out.tw hL6.out.bel.size)) (nk + nr) (by have := hL6.out.lk.1; omega) ?h4 ?h5 (Sd.le hL6.out.sd) ?_)
                  case h4 => have := hL6.out.lk.2; have := hxm.out.recs; have := hnr.out; omega
                  case h5 => have := hL6.out.lk.2; have := hxm.out.recs; have := hnr.out; omega
                  intro A7 c7 w7 ho7 hg7 hb7 _
                  have hL7 := Lib.hid (hL6.out.grow ho7 hg7 hb7 ⟨by rw [List.length_append, hnr.out]; have := hL6.out.lk.1; omega, by have := hlk0.out.2; have := hxm.out.recs; have := hnr.out; omega⟩)
                  clear ho7 hg7 hb7 hL6 hke6 n6
                  go_wp2_with fail
                  go_roundw
                  case rel => exact ⟨k + 1, d5, ⟨sz5, sk5⟩, kept ++ x.recs, maybe, A7, nk + nr, c7, Am, nm, cm, by omega, by omega, by go_num, rfl, rfl, hL7⟩
                  case measure => simp [intOf]; omega
                · have hfe := herr.fe
                  have herr' := Lib.hid herr
                  have hEn5 : Er.En W.heap.size w5 := hE'.out.on (by rw [hT'.out]; exact hLa.out.bel.trans (hst5.1.mono hLa.out.tb))
                  have hcode := Lib.hid (Er.Code_any cc 3 [segT] er W.heap.size w5 hEn5 hfe)
                  have hne : (cc == 0) = false := by rw [beq_eq_false_iff_ne]; exact hcn
                  cases sk5 with
                  | true =>
                    have hL5 := Lib.hid (hLa.out.sc_ (s' := ⟨sz5, true⟩) (k' := k + 1) hst5 hB5 (q2 hcn rfl) (fun w' hb => hrecs.out w' hb) hbd5 hsz5 (by omega))
                    clear q1 q2 q3 p1 p2 hst5 hB5 hpb hbd5 hsz5 hn5 hcn hX hnew hLa hba n1 hfe herr hEn5
                    go_wp2_with fail
                    refine hcode.out.mono ?_
                    rintro e w6 ⟨rfl, hb6⟩
                    have hL6 := Lib.hid (hL5.out.bel_ hb6)
                    have hlt6 : wr.heap.size < w5.heap.size := (Array.getElem?_eq_some_iff.1 hn5'.out).1
                    have hn6 := (hb6.block _ hlt6).trans hn5'.out
                    have n6 : w6.cell? ⟨wr.heap.size, 1, none⟩ = some (.slice Ar nr cr) := cell_blk hn6 rfl
                    clear hb6 hn6 hlt6 hcode
                    go_wp2_with fail
                    refine (Sick_any w6 a sb 3 _ hL6.out.blk).mono ?_
                    rintro e w7 ⟨rfl, rfl⟩
                    go_wp2_with fail
                    go_roundw
                    case rel => exact ⟨k + 1, d5, ⟨sz5, true⟩, kept, x.recs, Ak, nk, ck, Ar, nr, cr, by omega, by omega, by go_num, rfl, rfl, hL6⟩
                    case measure => simp [intOf]; omega
                  | false =>
                    have hL5 := Lib.hid (hLa.out.sc_ (s' := ⟨sz5, false⟩) (k' := k + 1) hst5 hB5 (q3 hcn rfl) hLa.out.may hbd5 hsz5 (by omega))
                    clear q1 q2 q3 p1 p2 hst5 hB5 hpb hbd5 hsz5 hn5 hcn hX hnew hLa hba n1 hfe herr hEn5
                    go_wp2_with fail
                    refine hcode.out.mono ?_
                    rintro e w6 ⟨rfl, hb6⟩
                    have hL6 := Lib.hid (hL5.out.bel_ hb6)
                    clear hb6 hcode
                    go_wp2_with fail
                    refine (Sick_any w6 a sb 3 _ hL6.out.blk).mono ?_
                    rintro e w7 ⟨rfl, rfl⟩
                    go_wp2_with fail
                    go_roundw
                    case rel => exact ⟨k + 1, d5, ⟨sz5, false⟩, kept, maybe, Ak, nk, ck, Am, nm, cm, by omega, by omega, by go_num, rfl, rfl, hL6⟩
                    case measure => simp [intOf]; omega
            · have hne1 : (kd == 1) = false := by rw [beq_eq_false_iff_ne]; exact hk1
              have hne0 : (kd != 0) = true := by rw [bne_iff_ne]; exact hk0
              clear hk1 hk0
              go_wp2_with fail
              have hLa := Lib.hid (hLi.out.bel_ hba.out)
              go_roundw
              case rel => exact ⟨k + 1, d, s, kept, maybe, Ak, nk, ck, Am, nm, cm, by omega, by omega, by go_num, rfl, rfl, Lib.hid hLa.out.next⟩
              case measure => simp [intOf]; omega
        · by_cases hkn : k < n
          · have i1 : decide ((k : Int) < (n : Int)) = true := by rw [decide_eq_true_eq]; omega
            have i2 : decide (k < n) = true := by rw [decide_eq_true_eq]; omega
            have g1 : decide ((k : Int) < (30 : Int)) = false := by rw [decide_eq_false_iff_not]; omega
            have g2 : decide (k < 30) = false := by rw [decide_eq_false_iff_not]; omega
            have hbd := hLi.out.bd
            have hlk := hLi.out.lk
            have htb := hLi.out.tb
            go_wp2_with fail
            refine (crash_op hLi.out.sc hbd (by omega) At nt ct tails (fun w' hb _ => Rd.below ht'.out (by rw [hT'.out]; exact hLi.out.bel.trans (hb.mono htb)))).mono ?_
            rintro e w5 ⟨rfl, hst5⟩
            obtain ⟨hc0, i, hi, hrec⟩ := hLi.out.kp.opened (head_len hok) tails
            have hx5 := Lib.hid (hLi.out.bel.trans (hst5.1.mono htb))
            have hrow5 := Lib.hid (keep_row hLi.out.row (Kc.fm hst5.2.1) (hst5.1.mono htb) (Nat.le_trans hLi.out.tw hLi.out.bel.size))
            have hS5 := Lib.hid (Sd.refl_ hst5)
            have hT5 := Lib.hid (hTe.out _ (hLi.out.b2.trans hst5.1))
            have hmay := Lib.hid hLi.out.may
            have hG5 := hbd.crash tails
            have hmb5 := Lib.hid (hmay.out _ hx5.out)
            have hml := hmb5.out.len
            have hmle := hmb5.out.le
            have hmmx := hmb5.out.max
            obtain ⟨hlk1, hlk2⟩ := hlk
            have hlen : (kept ++ maybe.take i).length = nk + i := by rw [List.length_append, List.length_take, ← hlk1]; omega
            have htk : (kept ++ maybe.take i).take nk = kept := by rw [hlk1, List.take_left]
            have hdr : (kept ++ maybe.take i).drop nk = maybe.take i := by rw [hlk1, List.drop_left]
            have him : i ≤ nm := by omega
            clear hst5 hlk1 hbd
            go_wp2_with fail
            refine (Open_any w5 B a mb _ _ (crash d tails) hS5.out hG5 (by omega) (by omega) 3 hok hT5.out).mono ?_
            rintro e w6 ⟨p, v, er, rfl, ⟨hst6, hr6⟩, A6, c6, hv, ho6⟩
            obtain ⟨X, hX⟩ : ∃ X, open_ (crash d tails) nm3 (head 3) = X := ⟨_, rfl⟩
            rw [hX] at hc0 hrec hst6 hr6 hv ho6
            rcases hr6 with ⟨_, rfl, sb2, rfl, _, _⟩ | ⟨hne, _⟩
            case inr => exact absurd hc0 hne
            rw [hrec, hlen] at hv ho6
            subst hv
            obtain ⟨q, hq⟩ : ∃ q, nk + i = q := ⟨_, rfl⟩
            rw [hq] at ho6 ⊢
            have hx6 := Lib.hid (hx5.out.trans (hst6.1.mono htb))
            have hrow6 := Lib.hid (keep_row hrow5.out (Kc.fm hst6.2.1) (hst6.1.mono htb) (Nat.le_trans hLi.out.tw hx5.out.size))
            have ho6' := Lib.hid (OwR.bsl ho6)
            have hle6 := ho6'.out.le
            have hmx6 := ho6'.out.max
            have hTw := Lib.hid (Nat.le_trans hLi.out.tw hx6.out.size)
            clear hst6 hc0 hrec hX ho6 hrow5 hlen
            go_wp2_with fail
            refine (Er.Code_ok w6).mono ?_
            rintro e w7 ⟨rfl, hb7⟩
            have hx7 := Lib.hid (hx6.out.trans (hb7.mono hTw.out))
            have hl7 := Lib.hid (BsL.to (q := nk) (ho6'.out.below hb7) (by omega))
            rw [htk] at hl7
            have hk7 := Lib.hid (Sq.bsl (OwS.sq' (keep_row hrow6.out (Kc.below hb7) (hb7.mono hTw.out) hTw.out) (by decide)))
            have hkle := hk7.out.le
            have hkmx := hk7.out.max
            have ho7 := Lib.hid (ho6'.out.below hb7)
            have j1 : decide ((q : Int) < (nk : Int)) = false := by rw [decide_eq_false_iff_not]; omega
            have j2 : decide (q < nk) = false := by rw [decide_eq_false_iff_not]; omega
            clear hb7 hrow6 ho6'
            go_wp2_with fail
            refine (FrW.records_any _ _ _ kept _ _ _ kept w7 hl7.out hk7.out rfl).mono ?_
            rintro e w8 ⟨rfl, q8, rfl⟩
            have hbd8 : Below w7.heap.size w7 (w7.drewN q8) := Joins.below_draws _ w7 q8
            have hx8 := Lib.hid (hx7.out.trans (Joins.below_draws T w7 q8))
            have hmb8 := Lib.hid (BsL.to (q := i) (hmay.out _ hx8.out) him)
            obtain ⟨hfa, hfb⟩ := BsL.from_ (g := nk) (ho7.out.below hbd8) (by omega)
            rw [hdr] at hfa hfb
            generalize w7.drewN q8 = w8 at hx8 hmb8 hfa hfb ⊢
            have hqi : q - nk = i := by omega
            rw [hqi] at hfa hfb
            have j3 : decide ((i : Int) ≤ (nm : Int)) = true := by rw [decide_eq_true_eq]; omega
            have j4 : decide (i ≤ nm) = true := by rw [decide_eq_true_eq]; omega
            have j5 : (q : Int) - (nk : Int) = (i : Int) := by omega
            clear hbd8 hl7 hk7 ho7 htk hdr hq
            by_cases hcg : c6 = nk
            · have HR := Lib.hid (hfa hcg)
              subst hcg
              clear hfa hfb
              go_wp2_with fail
              refine (FrW.records_any _ _ _ (maybe.take i) _ _ _ (maybe.take i) w8 HR.out hmb8.out rfl).mono ?_
              rintro e w9 ⟨rfl, q9, rfl⟩
              have hx9 := Lib.hid (hx8.out.trans ((Joins.below_draws T w8 q9)))
              go_wp2_with fail
              go_ret
              exact ⟨rfl, by rw [hT'.out]; exact hx9.out⟩
            · have HR := Lib.hid (hfb hcg)
              clear hfa hfb
              go_wp2_with fail
              refine (FrW.records_any _ _ _ (maybe.take i) _ _ _ (maybe.take i) w8 HR.out hmb8.out rfl).mono ?_
              rintro e w9 ⟨rfl, q9, rfl⟩
              have hx9 := Lib.hid (hx8.out.trans ((Joins.below_draws T w8 q9)))
              go_wp2_with fail
              go_ret
              exact ⟨rfl, by rw [hT'.out]; exact hx9.out⟩
          · have i1 : decide ((k : Int) < (n : Int)) = false := by rw [decide_eq_false_iff_not]; omega
            have i2 : decide (k < n) = false := by rw [decide_eq_false_iff_not]; omega
            have hbd := hLi.out.bd
            have hlk := hLi.out.lk
            have htb := hLi.out.tb
            go_wp2_with fail
            refine (crash_op hLi.out.sc hbd (by omega) At nt ct tails (fun w' hb _ => Rd.below ht'.out (by rw [hT'.out]; exact hLi.out.bel.trans (hb.mono htb)))).mono ?_
            rintro e w5 ⟨rfl, hst5⟩
            obtain ⟨hc0, i, hi, hrec⟩ := hLi.out.kp.opened (head_len hok) tails
            have hx5 := Lib.hid (hLi.out.bel.trans (hst5.1.mono htb))
            have hrow5 := Lib.hid (keep_row hLi.out.row (Kc.fm hst5.2.1) (hst5.1.mono htb) (Nat.le_trans hLi.out.tw hLi.out.bel.size))
            have hS5 := Lib.hid (Sd.refl_ hst5)
            have hT5 := Lib.hid (hTe.out _ (hLi.out.b2.trans hst5.1))
            have hmay := Lib.hid hLi.out.may
            have hG5 := hbd.crash tails
            have hmb5 := Lib.hid (hmay.out _ hx5.out)
            have hml := hmb5.out.len
            have hmle := hmb5.out.le
            have hmmx := hmb5.out.max
            obtain ⟨hlk1, hlk2⟩ := hlk
            have hlen : (kept ++ maybe.take i).length = nk + i := by rw [List.length_append, List.length_take, ← hlk1]; omega
            have htk : (kept ++ maybe.take i).take nk = kept := by rw [hlk1, List.take_left]
            have hdr : (kept ++ maybe.take i).drop nk = maybe.take i := by rw [hlk1, List.drop_left]
            have him : i ≤ nm := by omega
            clear hst5 hlk1 hbd
            go_wp2_with fail
            refine (Open_any w5 B a mb _ _ (crash d tails) hS5.out hG5 (by omega) (by omega) 3 hok hT5.out).mono ?_
            rintro e w6 ⟨p, v, er, rfl, ⟨hst6, hr6⟩, A6, c6, hv, ho6⟩
            obtain ⟨X, hX⟩ : ∃ X, open_ (crash d tails) nm3 (head 3) = X := ⟨_, rfl⟩
            rw [hX] at hc0 hrec hst6 hr6 hv ho6
            rcases hr6 with ⟨_, rfl, sb2, rfl, _, _⟩ | ⟨hne, _⟩
            case inr => exact absurd hc0 hne
            rw [hrec, hlen] at hv ho6
            subst hv
            obtain ⟨q, hq⟩ : ∃ q, nk + i = q := ⟨_, rfl⟩
            rw [hq] at ho6 ⊢
            have hx6 := Lib.hid (hx5.out.trans (hst6.1.mono htb))
            have hrow6 := Lib.hid (keep_row hrow5.out (Kc.fm hst6.2.1) (hst6.1.mono htb) (Nat.le_trans hLi.out.tw hx5.out.size))
            have ho6' := Lib.hid (OwR.bsl ho6)
            have hle6 := ho6'.out.le
            have hmx6 := ho6'.out.max
            have hTw := Lib.hid (Nat.le_trans hLi.out.tw hx6.out.size)
            clear hst6 hc0 hrec hX ho6 hrow5 hlen
            go_wp2_with fail
            refine (Er.Code_ok w6).mono ?_
            rintro e w7 ⟨rfl, hb7⟩
            have hx7 := Lib.hid (hx6.out.trans (hb7.mono hTw.out))
            have hl7 := Lib.hid (BsL.to (q := nk) (ho6'.out.below hb7) (by omega))
            rw [htk] at hl7
            have hk7 := Lib.hid (Sq.bsl (OwS.sq' (keep_row hrow6.out (Kc.below hb7) (hb7.mono hTw.out) hTw.out) (by decide)))
            have hkle := hk7.out.le
            have hkmx := hk7.out.max
            have ho7 := Lib.hid (ho6'.out.below hb7)
            have j1 : decide ((q : Int) < (nk : Int)) = false := by rw [decide_eq_false_iff_not]; omega
            have j2 : decide (q < nk) = false := by rw [decide_eq_false_iff_not]; omega
            clear hb7 hrow6 ho6'
            go_wp2_with fail
            refine (FrW.records_any _ _ _ kept _ _ _ kept w7 hl7.out hk7.out rfl).mono ?_
            rintro e w8 ⟨rfl, q8, rfl⟩
            have hbd8 : Below w7.heap.size w7 (w7.drewN q8) := Joins.below_draws _ w7 q8
            have hx8 := Lib.hid (hx7.out.trans (Joins.below_draws T w7 q8))
            have hmb8 := Lib.hid (BsL.to (q := i) (hmay.out _ hx8.out) him)
            obtain ⟨hfa, hfb⟩ := BsL.from_ (g := nk) (ho7.out.below hbd8) (by omega)
            rw [hdr] at hfa hfb
            generalize w7.drewN q8 = w8 at hx8 hmb8 hfa hfb ⊢
            have hqi : q - nk = i := by omega
            rw [hqi] at hfa hfb
            have j3 : decide ((i : Int) ≤ (nm : Int)) = true := by rw [decide_eq_true_eq]; omega
            have j4 : decide (i ≤ nm) = true := by rw [decide_eq_true_eq]; omega
            have j5 : (q : Int) - (nk : Int) = (i : Int) := by omega
            clear hbd8 hl7 hk7 ho7 htk hdr hq
            by_cases hcg : c6 = nk
            · have HR := Lib.hid (hfa hcg)
              subst hcg
              clear hfa hfb
              go_wp2_with fail
              refine (FrW.records_any _ _ _ (maybe.take i) _ _ _ (maybe.take i) w8 HR.out hmb8.out rfl).mono ?_
              rintro e w9 ⟨rfl, q9, rfl⟩
              have hx9 := Lib.hid (hx8.out.trans ((Joins.below_draws T w8 q9)))
              go_wp2_with fail
              go_ret
              exact ⟨rfl, by rw [hT'.out]; exact hx9.out⟩
            · have HR := Lib.hid (hfb hcg)
              clear hfa hfb
              go_wp2_with fail
              refine (FrW.records_any _ _ _ (maybe.take i) _ _ _ (maybe.take i) w8 HR.out hmb8.out rfl).mono ?_
              rintro e w9 ⟨rfl, q9, rfl⟩
              have hx9 := Lib.hid (hx8.out.trans ((Joins.below_draws T w8 q9)))
              go_wp2_with fail
              go_ret
              exact ⟨rfl, by rw [hT'.out]; exact hx9.out⟩
end Go.Proofs.YtfdpnjebhllpkaaGreatDoor.Sg
