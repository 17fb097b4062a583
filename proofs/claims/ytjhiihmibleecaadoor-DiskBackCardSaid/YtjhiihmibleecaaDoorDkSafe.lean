/- The law DiskSafe. -/
import Derived.Test.YtjhiihmibleecaaDoorDkMoves
namespace Go.Proofs.YtjhiihmibleecaaDoor.Dk
open Go.RowKit

abbrev keptB : ByteArray := ⟨#[107, 101, 112, 116]⟩
theorem kept_list : keptB.toList = [107, 101, 112, 116] := by rw [Lib.toList_data]
def keptN : Name := [107, 101, 112, 116]
def sf0 : D := new 4000
def sf1 : D := ⟨4000, [(keptN, ⟨[], 0⟩)], [], 1, false⟩
def sf2 (l : List UInt8) : D := ⟨4000, [(keptN, ⟨l, 0⟩)], [], 2, false⟩
def sf3 (l : List UInt8) : D := ⟨4000, [(keptN, ⟨l, l.length⟩)], [], 3, false⟩
theorem sfe1 : op sf0 1 keptN [] 0 [] = (0, sf1) := by rfl
theorem sfe2 (l : List UInt8) (h : l.length ≤ 1000) : op sf1 2 keptN [] 0 l = (0, sf2 l) := by
  have hr : refuse sf1 2 keptN [] 0 l = 0 := by
    show (if ((4000 : Nat) : Int) - ((0 + 0 : Nat) : Int) < (l.length : Int) then (40 : Int) else 0) = 0
    rw [if_neg (by omega)]
  unfold op
  rw [hr]
  rfl
theorem sfe3 (l : List UInt8) : op (sf2 l) 4 keptN [] 0 [] = (0, sf3 l) := by rfl
theorem sf3_inv (l : List UInt8) (h : l.length ≤ 1000) : Inv (sf3 l) := by
  refine ⟨List.pairwise_singleton _ _, fun p hp => ?_, ?_, by show (1 : Nat) ≤ 64; omega, fun p hp => ?_⟩
  · rw [List.mem_singleton.1 hp]; exact Nat.le_refl _
  · show (l.length + 0 : Nat) ≤ 4000; omega
  · rw [List.mem_singleton.1 hp]; rfl
theorem sf3_kept (l : List UInt8) : Kept keptN l (sf3 l) := ⟨⟨l, l.length⟩, rfl, Nat.le_refl _, List.take_length⟩

/-- Steps that are left out. -/
def skipX (x : Dx) : Prop := ((x.kind = 3 ∨ x.kind = 5 ∨ x.kind = 6) ∧ x.nm = keptN) ∨ (x.kind = 5 ∧ x.to_ = keptN)
theorem kept_act_ {d : D} {l : List UInt8} {x : Dx} (hI : Inv d) (h : Kept keptN l d) (hno : ¬ skipX x) : Kept keptN l (actX d x).2 := by
  unfold skipX at hno
  unfold actX
  split
  · exact kept_op hI h (by omega)
  split
  · exact kept_op hI h (by omega)
  split
  · rename_i e; exact kept_op hI h (by rintro (⟨_, h2⟩ | ⟨h1, _⟩); exact hno (.inl ⟨.inl e, h2⟩); omega)
  split
  · exact kept_op hI h (by omega)
  split
  · rename_i e; exact kept_op hI h (by rintro (⟨_, h2⟩ | ⟨_, h2⟩); exact hno (.inl ⟨.inr (.inl e), h2⟩); exact hno (.inr ⟨e, h2⟩))
  split
  · rename_i e; exact kept_op hI h (by rintro (⟨_, h2⟩ | ⟨h1, _⟩); exact hno (.inl ⟨.inr (.inr e), h2⟩); omega)
  split
  · exact kept_crash hI h _
  split
  · exact h.ops_ 0 d.down x.list
  · exact h

structure Sf (l : List UInt8) (k : Nat) (d : D) : Prop where
  inv : Inv d
  room : d.room = 4000
  ops : d.ops ≤ 3 + k
  tr : d.tr.length ≤ 200
  kept : Kept keptN l d
theorem Sf.good {l : List UInt8} {k : Nat} {d : D} (h : Sf l k d) : Good d (3 + k) 200 4000 := ⟨h.inv, h.ops, h.tr, by have := h.inv.room; rw [h.room] at this; exact this⟩
theorem Sf.act_ {l : List UInt8} {k : Nat} {d : D} {x : Dx} (h : Sf l k d) (hx : Dm x) (hno : ¬ skipX x) : Sf l (k + 1) (actX d x).2 := by
  obtain ⟨h1, h2⟩ := h.good.act_ x hx (Nat.le_refl _)
  exact ⟨h1.inv, by rw [h2]; exact h.room, by have := h1.ops; omega, h1.tr, kept_act_ h.inv h.kept hno⟩

set_option maxHeartbeats 4000000 in
set_option maxRecDepth 100000 in
theorem safe_law (Ad : Option Addr) (nd cd : Nat) (data : List UInt8) (A : Option Addr) (n c : Nat) (l : List Dx) (At : Option Addr) (nt ct : Nat) (tails : List Int) (W : World) (hd : Bs W Ad nd cd data) (hS : Sq DoEl 7 W A n c l) (ht : Rd W At nt ct (tails.map (Value.int .i64))) :
    Calls Tryd.prog 4 #[.slice Ad nd cd, .slice A n c, .slice At nt ct] W fun e w' => e = .returned (.bool true) ∧ Below W.heap.size W w' := by
  obtain ⟨T, hT⟩ : ∃ T, W.heap.size = T := ⟨_, rfl⟩
  have hdl := Lib.hid hd.len
  have hdat : Hid (∀ w', Below T W w' → Bs w' Ad nd cd data) := Lib.hid fun w' hb => hd.below (by rw [hT]; exact hb)
  have htat : Hid (∀ w', Below T W w' → Rd w' At nt ct (tails.map (Value.int .i64))) := Lib.hid fun w' hb => ht.below (by rw [hT]; exact hb)
  have hSat : Hid (∀ w', Below T W w' → Sq DoEl 7 w' A n c l) := Lib.hid fun w' hb => hS.below (DoEl.below (by rw [hT]; exact hb)) (by rw [hT]; exact hb)
  have hel : Hid (∀ w', Below T W w' → ∀ vs x, DoEl W vs x → DoEl w' vs x) := Lib.hid fun w' hb => DoEl.below (by rw [hT]; exact hb)
  have hle := hS.le
  have hmx := hS.max
  have hled := Rd.le hd
  have hmxd := Rd.max hd
  have hlet := Rd.le ht
  have hmxt := Rd.max ht
  have hS' := Lib.hid hS
  have hll := Lib.hid hS.len
  have hT' := Lib.hid hT
  have hTw : T ≤ W.heap.size := by omega
  clear hd hS ht
  go_enter Tryd.func4, Tryd.ntmps4
  go_wp2_with fail
  refine (awake_any _).mono ?_
  rintro e w2 ⟨rfl, hb2⟩
  have hx2 := Lib.hid (hb2.mono hTw)
  clear hb2 hT
  by_cases z1 : 1000 < nd
  · have d1 : decide ((1000 : Int) < (nd : Int)) = true := by rw [decide_eq_true_eq]; omega
    have d2 : decide (1000 < nd) = true := by rw [decide_eq_true_eq]; omega
    go_wp2_with fail
    go_ret
    exact ⟨rfl, by rw [hT'.out]; exact hx2.out⟩
  have d1 : decide ((1000 : Int) < (nd : Int)) = false := by rw [decide_eq_false_iff_not]; omega
  have d2 : decide (1000 < nd) = false := by rw [decide_eq_false_iff_not]; omega
  go_wp2_with fail
  refine (small_any A n c l w2 (hSat.out _ hx2.out)).mono ?_
  rintro e w2' ⟨b, rfl, hdm, rfl⟩
  have hdm' := Lib.hid hdm
  clear hdm
  cases b with
  | false =>
    go_wp2_with fail
    go_ret
    exact ⟨rfl, by rw [hT'.out]; exact hx2.out⟩
  | true =>
    have hDm := Lib.hid (hdm'.out rfl)
    clear hdm'
    by_cases z2 : 200 < nt
    · have d3 : decide ((200 : Int) < (nt : Int)) = true := by rw [decide_eq_true_eq]; omega
      have d4 : decide (200 < nt) = true := by rw [decide_eq_true_eq]; omega
      go_wp2_with fail
      go_ret
      exact ⟨rfl, by rw [hT'.out]; exact hx2.out⟩
    have d3 : decide ((200 : Int) < (nt : Int)) = false := by rw [decide_eq_false_iff_not]; omega
    have d4 : decide (200 < nt) = false := by rw [decide_eq_false_iff_not]; omega
    have hlen : data.length ≤ 1000 := by rw [hdl.out]; omega
    have e2 := sfe2 data hlen
    have hI3 := sf3_inv data hlen
    have he2 := Lib.hid e2
    have hI3' := Lib.hid hI3
    clear e2 hI3
    go_wp2_with fail
    refine (New_any w2 4000).mono ?_
    rintro e w3 ⟨a, mb, rfl, hD, hb3⟩
    have hw2 : T ≤ w2.heap.size := by have := hx2.out.size; omega
    have hx3 := Lib.hid (hx2.out.trans (hb3.mono hw2))
    have hD3 := Lib.hid (hD.out w2.heap.size (fun _ => ⟨[], 0⟩) (Nat.le_refl _))
    clear hD hb3 d1 d2 d3 d4
    go_wp2_with fail
    have c0 := Create_any w3 w2.heap.size a mb _ _ _ sf0 hD3.out (by decide) (by decide) (by decide) keptB (by decide)
    rw [show keptB.data.toList = keptN from rfl, sfe1] at c0
    refine c0.mono ?_
    rintro e w4 ⟨rfl, hb4, _, L4, F4, hD4⟩
    have hx4 := Lib.hid (hx3.out.trans (hb4.mono hw2))
    have hD4' := Lib.hid hD4
    clear c0 hb4 hD4
    go_wp2_with fail
    have c1 := Append_any w4 w2.heap.size a mb _ _ _ sf1 hD4'.out (by decide) (by decide) keptB (by decide) Ad nd cd data (hdat.out _ hx4.out) (by omega) (by decide) (by decide)
    rw [show keptB.data.toList = keptN from rfl, he2.out] at c1
    refine c1.mono ?_
    rintro e w5 ⟨rfl, hb5, _, L5, F5, hD5⟩
    have hx5 := Lib.hid (hx4.out.trans (hb5.mono hw2))
    have hD5' := Lib.hid hD5
    clear c1 hb5 hD5
    go_wp2_with fail
    have c2 := Sync_any w5 w2.heap.size a mb _ _ _ (sf2 data) hD5'.out (by show (2 : Nat) ≤ 1000000; omega) (by show (0 : Nat) ≤ 1000000; omega) keptB (by decide)
    rw [show keptB.data.toList = keptN from rfl, sfe3] at c2
    refine c2.mono ?_
    rintro e w6 ⟨rfl, hb6, _, L6, F6, hD6⟩
    have hx6 := Lib.hid (hx5.out.trans (hb6.mono hw2))
    have hst : Hid (Sf data 0 (sf3 data)) := Lib.hid ⟨hI3'.out, rfl, Nat.le_refl _, Nat.zero_le _, sf3_kept data⟩
    have hD6' := Lib.hid hD6
    clear c2 hb6 hD6
    go_wp2_with fail
    go_loopw [8] (fun i wr => ∃ (k : Nat) (L : Al Nat) (F : Nat → Fl) (tv : Value) (d : D), k ≤ n ∧ k ≤ 60 ∧ i = .int .i64 k ∧ Hid (Sf data k d) ∧ Hid (Da wr w2.heap.size a mb L F tv d) ∧ Hid (Below T W wr)) (fun i _ => n - (intOf i).toNat)
    case atStart => exact ⟨0, L6, F6, _, _, by omega, by omega, rfl, hst, hD6', hx6⟩
    case round =>
      obtain ⟨k, L, F, tv, d, hk, hk60, rfl, hSf, hD, hx⟩ := hrel
      by_cases hend : k < n ∧ k < 60
      · obtain ⟨hlt, h60⟩ := hend
        have g1 : decide ((k : Int) < (60 : Int)) = true := by rw [decide_eq_true_eq]; omega
        have g2 : decide (k < 60) = true := by rw [decide_eq_true_eq]; omega
        obtain ⟨pb, off, x, vs, rfl, hpb, hfk, hvs, hel0, hcs⟩ := hS'.out.at_ hlt
        have hdo := Lib.hid hel0
        obtain ⟨s, s2, Ab, nb, cb, At2, nt2, ct2, Al, nl, cl, rfl, hnm, hto, _, _, _⟩ := hel0
        have hpb' : pb < T := by rw [← hT'.out]; exact hpb
        have k0 : wr.cell? ⟨pb, off + k * 7, none⟩ = some (.int .i64 x.kind) := (hx.out.cell (p := ⟨pb, off + k * 7, none⟩) hpb').trans (hcs 0 _ rfl)
        have k1 : wr.cell? ⟨pb, off + k * 7 + 1, none⟩ = some (.string s) := (hx.out.cell (p := ⟨pb, off + k * 7 + 1, none⟩) hpb').trans (hcs 1 _ rfl)
        have k2 : wr.cell? ⟨pb, off + k * 7 + 2, none⟩ = some (.string s2) := (hx.out.cell (p := ⟨pb, off + k * 7 + 2, none⟩) hpb').trans (hcs 2 _ rfl)
        have k3 : wr.cell? ⟨pb, off + k * 7 + 3, none⟩ = some (.int .i64 x.n) := (hx.out.cell (p := ⟨pb, off + k * 7 + 3, none⟩) hpb').trans (hcs 3 _ rfl)
        have k4 : wr.cell? ⟨pb, off + k * 7 + 4, none⟩ = some (.slice Ab nb cb) := (hx.out.cell (p := ⟨pb, off + k * 7 + 4, none⟩) hpb').trans (hcs 4 _ rfl)
        have k5 : wr.cell? ⟨pb, off + k * 7 + 5, none⟩ = some (.slice At2 nt2 ct2) := (hx.out.cell (p := ⟨pb, off + k * 7 + 5, none⟩) hpb').trans (hcs 5 _ rfl)
        have k6 : wr.cell? ⟨pb, off + k * 7 + 6, none⟩ = some (.slice Al nl cl) := (hx.out.cell (p := ⟨pb, off + k * 7 + 6, none⟩) hpb').trans (hcs 6 _ rfl)
        have hDmx := Lib.hid (hDm.out k x hfk h60)
        have hba := below_alloc wr (.cells #[.int .i64 x.kind, .string s, .string s2, .int .i64 x.n, .slice Ab nb cb, .slice At2 nt2 ct2, .slice Al nl cl] 45)
        have hnm' := Lib.hid hnm
        have hto' := Lib.hid hto
        have hwr : T ≤ wr.heap.size := by have := hx.out.size; omega
        have hwr2 : w2.heap.size ≤ wr.heap.size := by have := hD.out.alt; have := hD.out.base; omega
        have hxa := Lib.hid (hx.out.trans (hba.mono hwr))
        have hDa := Lib.hid (hD.out.below hba)
        clear hcs hvs hnm hto hba hfk
        obtain ⟨wa, hwa⟩ : ∃ wa, wr.alloc (.cells #[.int .i64 x.kind, .string s, .string s2, .int .i64 x.n, .slice Ab nb cb, .slice At2 nt2 ct2, .slice Al nl cl] 45) = wa := ⟨_, rfl⟩
        have hnew := heap_alloc_new wr (.cells #[.int .i64 x.kind, .string s, .string s2, .int .i64 x.n, .slice Ab nb cb, .slice At2 nt2 ct2, .slice Al nl cl] 45)
        rw [hwa] at hxa hDa hnew
        obtain ⟨V, hV⟩ : ∃ V, wr.heap.size = V := ⟨_, rfl⟩
        rw [hV] at hnew
        have m0 := cell_blk (i := 0) hnew rfl
        have m1 := cell_blk (i := 1) hnew rfl
        have m2 := cell_blk (i := 2) hnew rfl
        have m3 := cell_blk (i := 3) hnew rfl
        have m4 := cell_blk (i := 4) hnew rfl
        have m5 := cell_blk (i := 5) hnew rfl
        have m6 := cell_blk (i := 6) hnew rfl
        clear hnew
        have hact := Lib.hid (act_any wa w2.heap.size a mb L F tv d hDa.out (by have := hSf.out.good; exact ⟨this.inv, by have := this.ops; omega, by have := this.tr; omega, by have := this.used; omega⟩) (by rw [hSf.out.room]; decide) _ x (fun w' hb => hel.out w' (hxa.out.trans (hb.mono hw2)) _ _ hdo.out) hDmx.out)
        by_cases j3 : x.kind = 3
        · have f3 : (x.kind == 3) = true := by rw [beq_iff_eq]; exact j3
          have f5 : (x.kind == 5) = false := by rw [beq_eq_false_iff_ne]; omega
          have f6 : (x.kind == 6) = false := by rw [beq_eq_false_iff_ne]; omega
          have jj := Lib.hid j3
          clear j3
          by_cases en : s = keptB
          · have n1 : (s.toList == keptB.toList) = true := by rw [str_beq]; simpa using en
            have n2 : (s.toList == [107, 101, 112, 116]) = true := by rw [← n1, kept_list]
            clear en
            go_wp2_with fail
            go_roundw
            case rel => exact ⟨k + 1, L, F, tv, d, by omega, by omega, by go_num, Lib.hid ⟨hSf.out.inv, hSf.out.room, by have := hSf.out.ops; omega, hSf.out.tr, hSf.out.kept⟩, hDa, hxa⟩
            case measure => simp [intOf]; omega
          · have n1 : (s.toList == keptB.toList) = false := by rw [str_beq]; simpa using en
            have n2 : (s.toList == [107, 101, 112, 116]) = false := by rw [← n1, kept_list]
            have hn : ¬ x.nm = keptN := by rw [hnm'.out]; exact fun h => en (bytes_ext h)
            have hSf2 := Lib.hid (hSf.out.act_ hDmx.out (by rintro (⟨_, h⟩ | ⟨h, _⟩); exact hn h; (have := jj.out; omega)))
            go_wp2_with fail
            refine hact.out.mono ?_
            rintro e wb ⟨rfl, hbb, hfb, Lb, Fb, tvb, hDb⟩
            have hxb := Lib.hid (hxa.out.trans (hbb.mono hw2))
            have hDb' := Lib.hid hDb
            have hub : Hid (used (actX d x).2.fs ≤ 4000) := Lib.hid (by have := hSf2.out.good.used; exact this)
            clear hbb hfb hDb m0 m1 m2 m3 m4 m5 m6 k0 k1 k2 k3 k4 k5 k6
            go_wp2_with fail
            refine (Used_any wb _ a mb Lb Fb tvb _ hDb'.out (by have := hub.out; omega)).mono ?_
            rintro e wc ⟨rfl, hbc⟩
            have hwb : T ≤ wb.heap.size := by have := hxb.out.size; omega
            have hxc := Lib.hid (hxb.out.trans (hbc.mono hwb))
            have hDc := Lib.hid (hDb'.out.below hbc)
            obtain ⟨U, hU⟩ : ∃ U, used (actX d x).2.fs = U := ⟨_, rfl⟩
            rw [hU]
            have hUl : U ≤ 4000 := by rw [← hU]; exact hub.out
            have u1 : decide ((4000 : Int) < (U : Int)) = false := by rw [decide_eq_false_iff_not]; omega
            have u2 : decide (4000 < U) = false := by rw [decide_eq_false_iff_not]; omega
            clear hbc hU
            go_wp2_with fail
            go_roundw
            case rel => exact ⟨k + 1, Lb, Fb, tvb, _, by omega, by omega, by go_num, hSf2, hDc, hxc⟩
            case measure => simp [intOf]; omega
        have f3 : (x.kind == 3) = false := by rw [beq_eq_false_iff_ne]; exact j3
        by_cases j5 : x.kind = 5
        · have f5 : (x.kind == 5) = true := by rw [beq_iff_eq]; exact j5
          have f6 : (x.kind == 6) = false := by rw [beq_eq_false_iff_ne]; omega
          have jj := Lib.hid j5
          clear j5
          by_cases en : s = keptB
          · have n1 : (s.toList == keptB.toList) = true := by rw [str_beq]; simpa using en
            have n2 : (s.toList == [107, 101, 112, 116]) = true := by rw [← n1, kept_list]
            clear en
            go_wp2_with fail
            go_roundw
            case rel => exact ⟨k + 1, L, F, tv, d, by omega, by omega, by go_num, Lib.hid ⟨hSf.out.inv, hSf.out.room, by have := hSf.out.ops; omega, hSf.out.tr, hSf.out.kept⟩, hDa, hxa⟩
            case measure => simp [intOf]; omega
          · have n1 : (s.toList == keptB.toList) = false := by rw [str_beq]; simpa using en
            have n2 : (s.toList == [107, 101, 112, 116]) = false := by rw [← n1, kept_list]
            by_cases et : s2 = keptB
            · have t1 : (s2.toList == keptB.toList) = true := by rw [str_beq]; simpa using et
              have t2 : (s2.toList == [107, 101, 112, 116]) = true := by rw [← t1, kept_list]
              clear et
              go_wp2_with fail
              go_roundw
              case rel => exact ⟨k + 1, L, F, tv, d, by omega, by omega, by go_num, Lib.hid ⟨hSf.out.inv, hSf.out.room, by have := hSf.out.ops; omega, hSf.out.tr, hSf.out.kept⟩, hDa, hxa⟩
              case measure => simp [intOf]; omega
            · have t1 : (s2.toList == keptB.toList) = false := by rw [str_beq]; simpa using et
              have t2 : (s2.toList == [107, 101, 112, 116]) = false := by rw [← t1, kept_list]
              have hn : ¬ x.nm = keptN := by rw [hnm'.out]; exact fun h => en (bytes_ext h)
              have hto2 : ¬ x.to_ = keptN := by rw [hto'.out]; exact fun h => et (bytes_ext h)
              have hSf2 := Lib.hid (hSf.out.act_ hDmx.out (by rintro (⟨_, h⟩ | ⟨_, h⟩); exact hn h; exact hto2 h))
              go_wp2_with fail
              refine hact.out.mono ?_
              rintro e wb ⟨rfl, hbb, hfb, Lb, Fb, tvb, hDb⟩
              have hxb := Lib.hid (hxa.out.trans (hbb.mono hw2))
              have hDb' := Lib.hid hDb
              have hub : Hid (used (actX d x).2.fs ≤ 4000) := Lib.hid (by have := hSf2.out.good.used; exact this)
              clear hbb hfb hDb m0 m1 m2 m3 m4 m5 m6 k0 k1 k2 k3 k4 k5 k6
              go_wp2_with fail
              refine (Used_any wb _ a mb Lb Fb tvb _ hDb'.out (by have := hub.out; omega)).mono ?_
              rintro e wc ⟨rfl, hbc⟩
              have hwb : T ≤ wb.heap.size := by have := hxb.out.size; omega
              have hxc := Lib.hid (hxb.out.trans (hbc.mono hwb))
              have hDc := Lib.hid (hDb'.out.below hbc)
              obtain ⟨U, hU⟩ : ∃ U, used (actX d x).2.fs = U := ⟨_, rfl⟩
              rw [hU]
              have hUl : U ≤ 4000 := by rw [← hU]; exact hub.out
              have u1 : decide ((4000 : Int) < (U : Int)) = false := by rw [decide_eq_false_iff_not]; omega
              have u2 : decide (4000 < U) = false := by rw [decide_eq_false_iff_not]; omega
              clear hbc hU
              go_wp2_with fail
              go_roundw
              case rel => exact ⟨k + 1, Lb, Fb, tvb, _, by omega, by omega, by go_num, hSf2, hDc, hxc⟩
              case measure => simp [intOf]; omega
        have f5 : (x.kind == 5) = false := by rw [beq_eq_false_iff_ne]; exact j5
        by_cases j6 : x.kind = 6
        · have f6 : (x.kind == 6) = true := by rw [beq_iff_eq]; exact j6
          have jj := Lib.hid j6
          clear j6
          by_cases en : s = keptB
          · have n1 : (s.toList == keptB.toList) = true := by rw [str_beq]; simpa using en
            have n2 : (s.toList == [107, 101, 112, 116]) = true := by rw [← n1, kept_list]
            clear en
            go_wp2_with fail
            go_roundw
            case rel => exact ⟨k + 1, L, F, tv, d, by omega, by omega, by go_num, Lib.hid ⟨hSf.out.inv, hSf.out.room, by have := hSf.out.ops; omega, hSf.out.tr, hSf.out.kept⟩, hDa, hxa⟩
            case measure => simp [intOf]; omega
          · have n1 : (s.toList == keptB.toList) = false := by rw [str_beq]; simpa using en
            have n2 : (s.toList == [107, 101, 112, 116]) = false := by rw [← n1, kept_list]
            have hn : ¬ x.nm = keptN := by rw [hnm'.out]; exact fun h => en (bytes_ext h)
            have hSf2 := Lib.hid (hSf.out.act_ hDmx.out (by rintro (⟨_, h⟩ | ⟨h, _⟩); exact hn h; (have := jj.out; omega)))
            go_wp2_with fail
            refine hact.out.mono ?_
            rintro e wb ⟨rfl, hbb, hfb, Lb, Fb, tvb, hDb⟩
            have hxb := Lib.hid (hxa.out.trans (hbb.mono hw2))
            have hDb' := Lib.hid hDb
            have hub : Hid (used (actX d x).2.fs ≤ 4000) := Lib.hid (by have := hSf2.out.good.used; exact this)
            clear hbb hfb hDb m0 m1 m2 m3 m4 m5 m6 k0 k1 k2 k3 k4 k5 k6
            go_wp2_with fail
            refine (Used_any wb _ a mb Lb Fb tvb _ hDb'.out (by have := hub.out; omega)).mono ?_
            rintro e wc ⟨rfl, hbc⟩
            have hwb : T ≤ wb.heap.size := by have := hxb.out.size; omega
            have hxc := Lib.hid (hxb.out.trans (hbc.mono hwb))
            have hDc := Lib.hid (hDb'.out.below hbc)
            obtain ⟨U, hU⟩ : ∃ U, used (actX d x).2.fs = U := ⟨_, rfl⟩
            rw [hU]
            have hUl : U ≤ 4000 := by rw [← hU]; exact hub.out
            have u1 : decide ((4000 : Int) < (U : Int)) = false := by rw [decide_eq_false_iff_not]; omega
            have u2 : decide (4000 < U) = false := by rw [decide_eq_false_iff_not]; omega
            clear hbc hU
            go_wp2_with fail
            go_roundw
            case rel => exact ⟨k + 1, Lb, Fb, tvb, _, by omega, by omega, by go_num, hSf2, hDc, hxc⟩
            case measure => simp [intOf]; omega
        have f6 : (x.kind == 6) = false := by rw [beq_eq_false_iff_ne]; exact j6
        have hSf2 := Lib.hid (hSf.out.act_ hDmx.out (by rintro (⟨h, _⟩ | ⟨h, _⟩) <;> omega))
        go_wp2_with fail
        refine hact.out.mono ?_
        rintro e wb ⟨rfl, hbb, hfb, Lb, Fb, tvb, hDb⟩
        have hxb := Lib.hid (hxa.out.trans (hbb.mono hw2))
        have hDb' := Lib.hid hDb
        have hub : Hid (used (actX d x).2.fs ≤ 4000) := Lib.hid (by have := hSf2.out.good.used; exact this)
        clear hbb hfb hDb m0 m1 m2 m3 m4 m5 m6 k0 k1 k2 k3 k4 k5 k6
        go_wp2_with fail
        refine (Used_any wb _ a mb Lb Fb tvb _ hDb'.out (by have := hub.out; omega)).mono ?_
        rintro e wc ⟨rfl, hbc⟩
        have hwb : T ≤ wb.heap.size := by have := hxb.out.size; omega
        have hxc := Lib.hid (hxb.out.trans (hbc.mono hwb))
        have hDc := Lib.hid (hDb'.out.below hbc)
        obtain ⟨U, hU⟩ : ∃ U, used (actX d x).2.fs = U := ⟨_, rfl⟩
        rw [hU]
        have hUl : U ≤ 4000 := by rw [← hU]; exact hub.out
        have u1 : decide ((4000 : Int) < (U : Int)) = false := by rw [decide_eq_false_iff_not]; omega
        have u2 : decide (4000 < U) = false := by rw [decide_eq_false_iff_not]; omega
        clear hbc hU
        go_wp2_with fail
        go_roundw
        case rel => exact ⟨k + 1, Lb, Fb, tvb, _, by omega, by omega, by go_num, hSf2, hDc, hxc⟩
        case measure => simp [intOf]; omega
      · have hx' := hx
        have hwr : T ≤ wr.heap.size := by have := hx.out.size; omega
        have hcr := Lib.hid (Crash_any wr w2.heap.size a mb L F tv d hD.out (by have := hD.out.len_eq; have := hSf.out.inv.most; omega) (hSf.out.good.fl (by omega)) At nt ct tails (fun w' hb _ => htat.out w' (hx.out.trans (hb.mono hw2))))
        have hkept := kept_crash hSf.out.inv hSf.out.kept tails
        have hIc := inv_crash hSf.out.inv tails
        obtain ⟨f, hf1, hf2, hf3⟩ := hkept
        have hfs := hIc.safe _ (get_mem hf1)
        have hf1' := Lib.hid hf1
        have hf3' := Lib.hid hf3
        have hlf : nd ≤ f.data.length := by have := hdl.out; simp only at hfs; omega
        have hzc : Hid (∀ p ∈ (crash d tails).fs, p.2.data.length ≤ 1000000) := Lib.hid fun p hp => by
          have h1 := len_le_used hp
          have h2 := hIc.room
          have h3 : (crash d tails).room = 4000 := hSf.out.room
          rw [h3] at h2
          omega
        have hG : Hid ((Dk.get (crash d tails).fs keptN).isSome = true) := Lib.hid (by rw [hf1]; rfl)
        clear hf1 hf2 hf3 hfs hIc
        have hdone : ∀ (Q : Prop), (¬ k < n → Q) → (¬ k < 60 → Q) → Q := fun Q h1 h2 => by
          by_cases q : k < n
          · exact h2 fun h => hend ⟨q, h⟩
          · exact h1 q
        have hd2 := Lib.hid hdone
        clear hdone
        by_cases hlt : k < n
        · have h60 : ¬ k < 60 := fun h => hend ⟨hlt, h⟩
          have g1 : decide ((k : Int) < (60 : Int)) = false := by rw [decide_eq_false_iff_not]; omega
          have g2 : decide (k < 60) = false := by rw [decide_eq_false_iff_not]; omega
          clear hend
          go_wp2_with fail
          refine hcr.out.mono ?_
          rintro e wb ⟨rfl, hbb, hfb, Lb, Fb, tvb, hDb⟩
          have hxb := Lib.hid (hx.out.trans (hbb.mono hw2))
          have hDb' := Lib.hid hDb
          have hwb : T ≤ wb.heap.size := by have := hxb.out.size; omega
          clear hbb hfb hDb
          go_wp2_with fail
          refine (Read_any wb _ a mb Lb Fb tvb _ hDb'.out keptB (by decide) hzc.out).mono ?_
          rintro e wc ⟨hbc, v, lc, rfl, hoc, hlc⟩
          have hxc := Lib.hid (hxb.out.trans (hbc.mono hwb))
          rw [show keptB.data.toList = keptN from rfl, hf1'.out] at hlc
          have hlc' : lc = f.data := hlc
          subst hlc'
          obtain ⟨A7, c7, rfl, hbs7⟩ := OwB.slice hoc
          rw [show (if (Dk.get (crash d tails).fs keptB.data.toList).isSome = true then (0 : Int) else 42) = 0 from if_pos hG.out]
          have hcut := hbs7.cut 0 nd (by omega) hlf A7 (by intro b off e _; rw [e]; rfl) (fun e => e) (fun e => e)
          rw [Nat.sub_zero, Nat.sub_zero, List.drop_zero, ← hdl.out, hf3'.out, hdl.out] at hcut
          have hby := Lib.hid (bytes_same A7 nd c7 data Ad nd cd wc hcut (hdat.out _ hxc.out))
          have hc7 := Rd.le hbs7
          have hm7 := Rd.max hbs7
          obtain ⟨N7, hN7⟩ : ∃ N7, f.data.length = N7 := ⟨_, rfl⟩
          rw [hN7] at hc7 hlf ⊢
          have q1 : (nd : Int) ≤ (c7 : Int) := by omega
          have q2 : decide (nd ≤ N7) = true := by rw [decide_eq_true_eq]; exact hlf
          have q3 : decide ((nd : Int) ≤ (N7 : Int)) = true := by rw [decide_eq_true_eq]; omega
          clear hbc hoc hbs7 hcut hlc hN7
          go_wp2_with fail
          refine hby.out.mono ?_
          rintro e wd ⟨rfl, j, rfl⟩
          go_wp2_with fail
          go_ret
          exact ⟨rfl, by rw [hT'.out]; exact bN hxc.out j⟩
        · clear hend
          go_wp2_with fail
          refine hcr.out.mono ?_
          rintro e wb ⟨rfl, hbb, hfb, Lb, Fb, tvb, hDb⟩
          have hxb := Lib.hid (hx.out.trans (hbb.mono hw2))
          have hDb' := Lib.hid hDb
          have hwb : T ≤ wb.heap.size := by have := hxb.out.size; omega
          clear hbb hfb hDb
          go_wp2_with fail
          refine (Read_any wb _ a mb Lb Fb tvb _ hDb'.out keptB (by decide) hzc.out).mono ?_
          rintro e wc ⟨hbc, v, lc, rfl, hoc, hlc⟩
          have hxc := Lib.hid (hxb.out.trans (hbc.mono hwb))
          rw [show keptB.data.toList = keptN from rfl, hf1'.out] at hlc
          have hlc' : lc = f.data := hlc
          subst hlc'
          obtain ⟨A7, c7, rfl, hbs7⟩ := OwB.slice hoc
          rw [show (if (Dk.get (crash d tails).fs keptB.data.toList).isSome = true then (0 : Int) else 42) = 0 from if_pos hG.out]
          have hcut := hbs7.cut 0 nd (by omega) hlf A7 (by intro b off e _; rw [e]; rfl) (fun e => e) (fun e => e)
          rw [Nat.sub_zero, Nat.sub_zero, List.drop_zero, ← hdl.out, hf3'.out, hdl.out] at hcut
          have hby := Lib.hid (bytes_same A7 nd c7 data Ad nd cd wc hcut (hdat.out _ hxc.out))
          have hc7 := Rd.le hbs7
          have hm7 := Rd.max hbs7
          obtain ⟨N7, hN7⟩ : ∃ N7, f.data.length = N7 := ⟨_, rfl⟩
          rw [hN7] at hc7 hlf ⊢
          have q1 : (nd : Int) ≤ (c7 : Int) := by omega
          have q2 : decide (nd ≤ N7) = true := by rw [decide_eq_true_eq]; exact hlf
          have q3 : decide ((nd : Int) ≤ (N7 : Int)) = true := by rw [decide_eq_true_eq]; omega
          clear hbc hoc hbs7 hcut hlc hN7
          go_wp2_with fail
          refine hby.out.mono ?_
          rintro e wd ⟨rfl, j, rfl⟩
          go_wp2_with fail
          go_ret
          exact ⟨rfl, by rw [hT'.out]; exact bN hxc.out j⟩
end Go.Proofs.YtjhiihmibleecaaDoor.Dk
