/- man.Newest. -/
import Derived.Test.YtfdpnjebhllpkaaGreatDoorMMnBwd
import Derived.Test.YtfdpnjebhllpkaaGreatDoorMMnClean
import Derived.Test.YtfdpnjebhllpkaaGreatDoorMMnNew
import Derived.Test.YtfdpnjebhllpkaaGreatDoorMMnCod
import Derived.Test.YtfdpnjebhllpkaaGreatDoorMDkClos4
namespace Go.Proofs.YtfdpnjebhllpkaaGreatDoor.Mn
open Go.RowKit Go.Shelf Dk Ma Sg
attribute [local go_sem] Oper.semAt_some

/-- What a file of a disk is as a manifest. -/
def candN (fs : Fs) (x : Name) : Option Mf := match get fs x with
  | none => none
  | some f => cand x f.data

theorem rd_own {W W' : World} {row : Option Nat} (hg : W.grownBy W' row) (hr : ∀ r, row = some r → ∃ o : Obj, W.heap[r]? = some o ∧ o.isCells = false) {A : Option Addr} {n c : Nat} {xs : List Value} (h : Rd W A n c xs) : Rd W' A n c xs :=
  ⟨h.len, h.le, h.max, h.nil, fun h0 => by
    obtain ⟨b, off, e, hb, hc⟩ := h.cell h0
    exact ⟨b, off, e, Nat.lt_of_lt_of_le hb hg.size, fun j u hu => cell_kept (hc j u hu) hg hr⟩⟩
theorem mb_own {W W' : World} {row : Option Nat} (hg : W.grownBy W' row) (hr : ∀ r, row = some r → ∃ o : Obj, W.heap[r]? = some o ∧ o.isCells = false) {b : Nat} {g la : Int} {A : Option Addr} {n c : Nat} (h : Mb W b g la A n c) : Mb W' b g la A n c := by
  refine (hg.block b h.lt (fun e => ?_)).trans h
  obtain ⟨o, h1, h2⟩ := hr b e.symm
  rw [h] at h1
  injection h1 with h1
  subst h1
  cases h2
theorem keeps_of_below {W W' : World} (h : Below W.heap.size W W') : KeepsOthers W W' := ⟨h.size, fun k o hk _ => (h.block k (Array.getElem?_eq_some_iff.1 hk).1).trans hk⟩

theorem candN_eq (fs : Fs) (x : Name) : candN fs x = if (genR x).2 = true ∧ (decM (((get fs x).map (·.data)).getD [])).1 = true ∧ (decM (((get fs x).map (·.data)).getD [])).2.1 = (genR x).1 then some (decM (((get fs x).map (·.data)).getD [])).2 else none := by
  unfold candN
  cases get fs x with
  | none =>
    rw [if_neg]
    rintro ⟨_, h, _⟩
    exact absurd h (by decide)
  | some f => rfl
theorem dec_may {b : List UInt8} {g la : Int} {ss : List Int} (h : decM b = (true, g, la, ss)) : mayM g la ss = true := by
  unfold decM at h
  split at h
  · unfold ofRec at h
    split at h
    · split at h
      · rename_i h1
        simp only [Prod.mk.injEq] at h
        obtain ⟨_, rfl, rfl, rfl⟩ := h
        exact h1.2
      · simp at h
    · simp at h
  · simp at h
/-- A row of numbers that may be is none of the result's cells. -/
theorem row_apart {W : World} {A : Option Addr} {n c : Nat} {ss : List Int} {g la : Int} (hI : Is W A n c ss) (hm : mayM g la ss = true) {b : Nat} {cs : Array Value} {E : TypeId} (hb : W.heap[b]? = some (.cells cs E)) (hcs : ∀ (j : Nat) z, cs[j]? = some (.int .i64 z) → z = 0) :
    ∀ ad, A = some ad → 0 < n → ad.block ≠ b := by
  intro ad e h0 hne
  obtain ⟨b', off, x, e', _, hx, hc⟩ := hI.at_ h0
  rw [e] at e'
  injection e' with e'
  subst e'
  have hbb : b' = b := hne
  subst hbb
  have hok := segs_ok (may_facts hm).2.2.2.2.2 0 (by have := hI.len; omega)
  rw [hx] at hok
  simp only [World.cell?, hb] at hc
  have h9 : cs[off + 0]? = some (.int .i64 x) := by simpa using hc
  have := hcs _ _ h9
  subst this
  exact absurd hok (by decide)

/-- The names of files, from the back. -/
def mkNm (s : ByteArray) : Nm := if h : s.size ≤ 1000 then ⟨s, h⟩ else nm0
theorem mkNm_val {s : ByteArray} (h : s.size ≤ 1000) : (mkNm s).1 = s := by unfold mkNm; rw [dif_pos h]
def nms (fs : Fs) : List Nm := fs.map fun p => mkNm (strOf p.1)
theorem nms_len (fs : Fs) : (nms fs).length = fs.length := List.length_map ..
theorem bk_at {fs : Fs} (hsz : ∀ p ∈ fs, (strOf p.1).size ≤ 1000) {j : Nat} {q : Name × Fl} (hq : fs[j]? = some q) : (bk (nms fs) (fs.length - 1 - j)).2.1 = strOf q.1 := by
  have hj := (List.getElem?_eq_some_iff.1 hq).1
  unfold bk
  rw [nms_len, show fs.length - 1 - (fs.length - 1 - j) = j by omega]
  unfold nms
  rw [List.getElem?_map, hq]
  exact mkNm_val (hsz q (List.mem_of_getElem? hq))
theorem candN_mem {fs : Fs} (hU : Up fs) {q : Name × Fl} (hq : q ∈ fs) : candN fs q.1 = cand q.1 q.2.data := by
  unfold candN
  rw [get_of_mem hU hq]
theorem back_none {fs : Fs} (hU : Up fs) (hsz : ∀ p ∈ fs, (strOf p.1).size ≤ 1000) {k : Nat} (h : ∀ y ∈ upto (nms fs) k, candN fs y.2.1.data.toList = none) :
    ∀ (j : Nat) q, fs.length - k ≤ j → fs[j]? = some q → cand q.1 q.2.data = none := by
  intro j q hj hq
  have hjl := (List.getElem?_eq_some_iff.1 hq).1
  have hm : bk (nms fs) (fs.length - 1 - j) ∈ upto (nms fs) k := List.mem_map.2 ⟨_, List.mem_range.2 (by omega), rfl⟩
  have := h _ hm
  rw [bk_at hsz hq] at this
  rw [← candN_mem hU (List.mem_of_getElem? hq)]
  exact this
theorem back_some {fs : Fs} (hU : Up fs) (hsz : ∀ p ∈ fs, (strOf p.1).size ≤ 1000) {k : Nat} {pre : List (Nat × Nm)} {x : Nat × Nm} {m : Mf} (hk : k ≤ fs.length) (hpre : upto (nms fs) k = pre ++ [x]) (hno : ∀ y ∈ pre, candN fs y.2.1.data.toList = none)
    (hc : candN fs x.2.1.data.toList = some m) : NewL fs (some m) := by
  cases k with
  | zero =>
    have := congrArg List.length hpre
    rw [upto_length, List.length_append] at this
    simp at this
  | succ k =>
    rw [upto_succ] at hpre
    obtain ⟨h1, h2⟩ := List.append_inj' hpre rfl
    injection h2 with h2 _
    subst h1; subst h2
    have hb := back_none hU hsz hno
    obtain ⟨q, hq⟩ : ∃ q, fs[fs.length - 1 - k]? = some q := ⟨_, List.getElem?_eq_getElem (by omega)⟩
    have hx := bk_at hsz hq
    rw [show fs.length - 1 - (fs.length - 1 - k) = k by omega] at hx
    rw [hx] at hc
    have hc' : candN fs q.1 = some m := hc
    rw [candN_mem hU (List.mem_of_getElem? hq)] at hc'
    exact newL_back hU hq hc' fun j q' hj hq' => hb j q' (by omega) hq'

theorem mb_other {w : World} {b b' i : Nat} {g la : Int} {A : Option Addr} {n c : Nat} (h : Mb w b g la A n c) (hne : b ≠ b') (v : Value) : Mb (w.setCell ⟨b', i, none⟩ v) b g la A n c := by
  unfold Mb at h ⊢
  have := Deep.blk_setCell_other w ⟨b', i, none⟩ v b (by simpa using hne)
  exact this.trans h

/-- What Newest answers. -/
def NwP (fs : Fs) (w : World) (e : Ending) (w' : World) : Prop :=
  ∃ r A n c, NewL fs r ∧ e = .returned (.tuple #[.agg #[.int .i64 (bestV r).1, .int .i64 (bestV r).2.1, .slice A n c], .bool r.isSome]) ∧ Is w' A n c (bestV r).2.2 ∧ Below w.heap.size w w'

set_option maxHeartbeats 4000000 in
set_option maxRecDepth 100000 in
theorem Newest_in (w : World) (B a mb N U : Nat) (d : D) (h : Sc B a mb d w w) (hG : Bd d N U) (hU : U ≤ 1000000) (hT : Te B w) (hE : Eb B w) :
    CallsIn Fence.wide 3 Tryz.prog 49 #[.pointer (some ⟨a, 0, none⟩)] w (NwP d.fs w) := by
  have hle := Sc.le h
  have hb1 := below_alloc w (.cells #[.pointer (some ⟨a, 0, none⟩)] 39)
  have hn1 := heap_alloc_new w (.cells #[.pointer (some ⟨a, 0, none⟩)] 39)
  have hb2 := below_alloc (w.alloc (.cells #[.pointer (some ⟨a, 0, none⟩)] 39)) (.cells #[.int .i64 0, .int .i64 0, .slice none 0 0] 75)
  have hn2 := mb_new (w.alloc (.cells #[.pointer (some ⟨a, 0, none⟩)] 39)) 0 0 none 0 0
  have hb3 := below_alloc ((w.alloc (.cells #[.pointer (some ⟨a, 0, none⟩)] 39)).alloc (.cells #[.int .i64 0, .int .i64 0, .slice none 0 0] 75)) (.cells #[.bool false] 4)
  have hn3 := heap_alloc_new ((w.alloc (.cells #[.pointer (some ⟨a, 0, none⟩)] 39)).alloc (.cells #[.int .i64 0, .int .i64 0, .slice none 0 0] 75)) (.cells #[.bool false] 4)
  have hn1' := (hb3.block w.heap.size (by simp; omega)).trans ((hb2.block w.heap.size (by simp)).trans hn1)
  have hn2' := hn2.below hb3
  have hx3 := hb1.trans ((hb2.trans (hb3.mono (by simp))).mono (by simp))
  rw [World.size_alloc] at hn2'
  rw [World.size_alloc, World.size_alloc] at hn3
  obtain ⟨T, hT0⟩ : ∃ T, w.heap.size = T := ⟨_, rfl⟩
  have hT0' := Lib.hid hT0
  obtain ⟨w3, hw3⟩ : ∃ w3, ((w.alloc (.cells #[.pointer (some ⟨a, 0, none⟩)] 39)).alloc (.cells #[.int .i64 0, .int .i64 0, .slice none 0 0] 75)).alloc (.cells #[.bool false] 4) = w3 := ⟨_, rfl⟩
  have hsz3 : w3.heap.size = T + 3 := by rw [← hw3, World.size_alloc, World.size_alloc, World.size_alloc, hT0]
  rw [hw3, hT0] at hn1' hn2' hn3
  rw [hw3] at hx3
  have hS3 := Lib.hid (Sd.bel (Sc.sd h) hx3)
  rw [hT0] at hx3
  have hx3' := Lib.hid hx3
  have q1 := Lib.hid hn1'
  have q2 := Lib.hid hn2'
  have q3 := Lib.hid hn3
  have hT' := Lib.hid hT
  have hE' := Lib.hid hE
  clear hb1 hn1 hb2 hn2 hb3 hn1' hn2' hn3 hx3 hT hE h
  refine callsIn_of_wp_marks Tryz.func49 rfl trivial ?_ rfl
  simp only [Tryz.ntmps49, List.size_toArray, List.length_cons, List.length_nil, Nat.reduceAdd, Nat.reduceSub, Array.replicate_succ, Array.replicate_zero, List.push_toArray, List.append_toArray, List.nil_append, List.cons_append]
  have k3 : w3.cell? ⟨T, 0, none⟩ = some (.pointer (some ⟨a, 0, none⟩)) := cell_blk q1.out rfl
  gi_wp2_with fail
  clear hw3 hT0
  refine ⟨trivial, (callsIn_wide.2 (names_op hS3.out.2.2 hG)).mono ?_⟩
  rintro e w4 ⟨A4, c4, rfl, hb4, ho4⟩
  have hS4 := Lib.hid (Sd.bel hS3.out hb4)
  have hx4 := Lib.hid (hx3'.out.trans (hb4.mono (by omega)))
  have hr4 := Lib.hid (rd_of_own ho4)
  have r1 := Lib.hid (show w4.heap[T]? = _ from (hb4.block T (by omega)).trans q1.out)
  have r2 := Lib.hid (q2.out.below hb4)
  have r3 := Lib.hid (show w4.heap[T + 1 + 1]? = _ from (hb4.block (T + 1 + 1) (by omega)).trans q3.out)
  have hs4 := hb4.size
  clear hb4 ho4 q1 q2 q3 hS3 hx3' k3
  gi_wp2_with fail
  refine ⟨trivial, (back_in Fence.wide 2 trivial rfl A4 d.fs.length c4 w4).mono ?_⟩
  rintro e w5 ⟨rfl, rfl⟩
  have hbL := below_alloc w4 (.cells #[.slice A4 d.fs.length c4] 80)
  have hnL := heap_alloc_new w4 (.cells #[.slice A4 d.fs.length c4] 80)
  obtain ⟨pb, hpb⟩ : ∃ pb, w4.heap.size = pb := ⟨_, rfl⟩
  obtain ⟨wL, hwL⟩ : ∃ wL, w4.alloc (.cells #[.slice A4 d.fs.length c4] 80) = wL := ⟨_, rfl⟩
  have hszL : wL.heap.size = pb + 1 := by rw [← hwL, World.size_alloc, hpb]
  rw [hwL] at hbL hnL
  have hSL := Lib.hid (Sd.bel hS4.out hbL)
  have hxL := Lib.hid (hx4.out.trans (hbL.mono (by omega)))
  have hrL := Lib.hid (hr4.out.below hbL)
  have s1 := Lib.hid (show wL.heap[T]? = _ from (hbL.block T (by omega)).trans r1.out)
  have s2 := Lib.hid (r2.out.below hbL)
  have s3 := Lib.hid (show wL.heap[T + 1 + 1]? = _ from (hbL.block (T + 1 + 1) (by omega)).trans r3.out)
  rw [hpb] at hnL
  have hnL' := Lib.hid hnL
  clear hbL hnL r1 r2 r3 hr4 hx4 hS4
  rw [hwL, hpb]
  clear hwL
  gi_wp2_with fail
  have hszs : Hid (∀ p ∈ d.fs, (strOf p.1).size ≤ 1000) := Lib.hid fun p hp => nm_size hG (List.mem_map.2 ⟨p, hp, rfl⟩)
  have hmost := hG.inv.most
  refine wpIn_rangeFunc_ownF rfl (by omega) (gf := 162) (lb := #[.pointer (some ⟨pb, 0, none⟩)]) rfl trivial (enters_of Tryz.func162 (by kernel_rfl) rfl)
    (back_stops Fence.wide 2 trivial rfl (by omega) pb wL.heap.size c4 A4 (nms d.fs) (by rw [nms_len]; omega) wL (by omega) (Nat.le_refl _) (by rw [nms_len]; exact cell_blk hnL'.out rfl) (fun h0 => by
      rw [nms_len] at h0
      obtain ⟨b, off, e, hb, hc⟩ := hrL.out.cell h0
      refine ⟨b, off, e, hb, fun j s hs => hc j _ ?_⟩
      unfold nms at hs
      rw [List.getElem?_map, Option.map_eq_some_iff] at hs
      obtain ⟨p, hp, rfl⟩ := hs
      rw [List.getElem?_map, List.getElem?_map, hp, mkNm_val (hszs.out p (List.mem_of_getElem? hp))]
      rfl)) belowK_t (belowK_b (Nat.le_refl _)) (Below.refl _ _) (fun _ => rfl)
    (fun pre W => (∀ y ∈ pre, candN d.fs y.2.1.data.toList = none) ∧ Below wL.heap.size wL W)
    (fun c pre W => (c = .ret ∧ ∃ pre' x m A n c', pre = pre' ++ [x] ∧ (∀ y ∈ pre', candN d.fs y.2.1.data.toList = none) ∧ candN d.fs x.2.1.data.toList = some m ∧ Mb W (T + 1) m.1 m.2.1 A n c' ∧ Is W A n c' m.2.2 ∧ W.cell? ⟨T + 1 + 1, 0, none⟩ = some (.bool true)) ∧ Below T w W)
    (OwnFrom.and (Own.from (fun s A B row hs hg hr => hs) _) (ownFrom_below (Nat.le_refl _) (Nat.le_refl _)))
    (fun c => OwnFrom.and (Own.from (fun s A B row hs hg hr => by
      obtain ⟨h1, pre', x, m, A, n, c', h2, h3, h4, h5, h6, h7⟩ := hs
      exact ⟨h1, pre', x, m, A, n, c', h2, h3, h4, mb_own hg hr h5, rd_own hg hr h6, cell_kept h7 hg hr⟩) _) (ownFrom_below (by have := hT0'.out; omega) (by have := hT0'.out; omega)))
    ⟨fun y hy => (by cases hy), Below.refl _ _⟩
    (fun x => { tmps := #[.pointer (some ⟨a, 0, none⟩), .pointer (some ⟨T, 0, none⟩), .pointer (some ⟨T + 1, 0, none⟩), .pointer (some ⟨T + 1 + 1, 0, none⟩), .slice A4 d.fs.length c4, undef, .string x.2.1, undef, undef, undef, undef, undef, undef, .pointer (some ⟨a, 0, none⟩), .slice A4 d.fs.length c4, .slice A4 d.fs.length c4, .func (.func 162) #[] #[.pointer (some ⟨pb, 0, none⟩)], .int .i64 (x.1 : Int), .string x.2.1, undef, undef, undef, undef, undef, undef, undef, undef, undef, undef, undef, undef, undef, undef, undef, undef, undef, undef, undef, undef, undef, undef, undef, undef, undef, undef, undef], defers := [] }) ?assign ?body ?done ?stop
  case assign =>
    intro l x W K hK
    gi_wp2
    exact hK
  case body =>
    rintro l pre x W ⟨hp, hB⟩ _
    have hxW := Lib.hid (hxL.out.trans (hB.mono (by have := hxL.out.size; have := hT0'.out; omega)))
    have hBW := Lib.hid (show Below B w W from hxW.out.mono (by have := hT0'.out; omega))
    have hSW := Lib.hid (Sd.bel hSL.out hB)
    have hcn := candN_eq d.fs x.2.1.data.toList
    have hs1000 := x.2.2
    obtain ⟨s, hs⟩ : ∃ s, x.2.1 = s := ⟨_, rfl⟩
    rw [hs] at hcn hs1000 ⊢
    have hs' := Lib.hid hs
    have hB' := Lib.hid hB
    have hp' := Lib.hid hp
    have hnext : Hid (candN d.fs s.data.toList = none → ∀ y ∈ pre ++ [x], candN d.fs y.2.1.data.toList = none) := Lib.hid fun h0 y hy => by
      rcases List.mem_append.1 hy with hy | hy
      · exact hp'.out y hy
      · rw [List.mem_singleton.1 hy, hs'.out]
        exact h0
    obtain ⟨R, hR⟩ : ∃ R, genR s.data.toList = R := ⟨_, rfl⟩
    have hgen := manGen_any s hs1000 W (hT'.out.on hBW.out).tens (hE'.out.on hBW.out).ev
    rw [gen_eq, hR] at hgen
    rw [hR] at hcn
    obtain ⟨n2, b2⟩ := R
    have hcn' := Lib.hid hcn
    clear hB hp hs hR hcn
    gi_wp2_with fail
    refine ⟨trivial, (CallsIn.inRound l (callsIn_wide.2 hgen)).mono ?_⟩
    rintro e w2 ⟨rfl, hb2⟩
    unfold genV
    have hx2 := Lib.hid (hxW.out.trans (hb2.mono (by have := hxW.out.size; have := hT0'.out; omega)))
    have hS2 := Lib.hid (Sd.bel hSW.out hb2)
    have hb2' := Lib.hid hb2
    have hw2 := hb2.size
    have hWL := hB'.out.size
    clear hgen hb2
    cases b2 with
    | false =>
      have hno : candN d.fs s.data.toList = none := by rw [hcn'.out, if_neg]; rintro ⟨h, _⟩; cases h
      have hno' := Lib.hid hno
      clear hno
      gi_wp2_with fail
      exact ⟨keeps_of_below hb2'.out, hb2'.out.mono hWL, hnext.out hno'.out, hB'.out.trans (hb2'.out.mono hWL)⟩
    | true =>
      have k1 : w2.cell? ⟨T, 0, none⟩ = some (.pointer (some ⟨a, 0, none⟩)) := cell_blk ((hb2'.out.block T (by omega)).trans ((hB'.out.block T (by omega)).trans s1.out)) rfl
      obtain ⟨L2, F2, tv2, hD2⟩ := hS2.out.2.2
      have hrd := Read_any w2 B a mb L2 F2 tv2 d hD2 s (by omega) (hG.fl hU)
      have hrd' := Lib.hid hrd
      clear hrd hD2
      gi_wp2_with fail
      refine ⟨trivial, (CallsIn.inRound l (callsIn_wide.2 hrd'.out)).mono ?_⟩
      rintro e w3 ⟨hb3, v, l0, rfl, ho3, hl3⟩
      obtain ⟨A3, c3, rfl, hbs3⟩ := OwB.slice ho3
      rw [← hl3] at hcn'
      have hx3 := Lib.hid (hx2.out.trans (hb3.mono (by have := hx2.out.size; have := hT0'.out; omega)))
      have hb3' := Lib.hid (hb2'.out.trans (hb3.mono hw2))
      have hdec := manDecode_any A3 _ c3 l0 w3 (hT'.out.on (hx3.out.mono (by have := hT0'.out; omega))).tens hbs3
      obtain ⟨nl, hnl⟩ : ∃ nl, l0.length = nl := ⟨_, rfl⟩
      obtain ⟨rc, hrc⟩ : ∃ rc : Int, (if (Dk.get d.fs s.data.toList).isSome = true then 0 else 42) = rc := ⟨_, rfl⟩
      rw [hnl] at hdec ⊢
      rw [hrc]
      have hmx := hb3'.out.size
      obtain ⟨D, hD⟩ : ∃ D, decM l0 = D := ⟨_, rfl⟩
      rw [hD] at hdec hcn'
      obtain ⟨okd, g, la, sg⟩ := D
      have hdec' := Lib.hid hdec
      have hD' := Lib.hid hD
      clear hdec hD hb3 ho3 hl3 hbs3 hnl hrc k1 hrd'
      gi_wp2_with fail
      refine ⟨trivial, (CallsIn.inRound l (callsIn_wide.2 hdec'.out)).mono ?_⟩
      rintro e w4 ⟨⟨A6, n6, c6, rfl, hI6⟩, hb4⟩
      have hx4 := Lib.hid (hx3.out.trans (hb4.mono (by have := hx3.out.size; have := hT0'.out; omega)))
      have hb4' := Lib.hid (hb3'.out.trans (hb4.mono hmx))
      have hI6' := Lib.hid hI6
      have hmx4 := hb4'.out.size
      have hba5 := below_alloc w4 (.cells #[.int .i64 g, .int .i64 la, .slice A6 n6 c6] 75)
      have hn5 := mb_new w4 g la A6 n6 c6
      obtain ⟨p5, hp5⟩ : ∃ p5, w4.heap.size = p5 := ⟨_, rfl⟩
      obtain ⟨w5, hw5⟩ : ∃ w5, w4.alloc (.cells #[.int .i64 g, .int .i64 la, .slice A6 n6 c6] 75) = w5 := ⟨_, rfl⟩
      rw [hw5] at hba5 hn5
      rw [hp5] at hn5
      have hb5' := Lib.hid (hb4'.out.trans (hba5.mono hmx4))
      have hx5 := Lib.hid (hx4.out.trans (hba5.mono (by have := hx4.out.size; have := hT0'.out; omega)))
      have hI5 := Lib.hid (hI6'.out.below hba5)
      have hn5' := Lib.hid hn5
      clear hb4 hI6 hdec' hba5 hn5
      cases okd with
      | false =>
        have hno : candN d.fs s.data.toList = none := by rw [hcn'.out, if_neg]; rintro ⟨_, h, _⟩; cases h
        have hno' := Lib.hid hno
        clear hno
        gi_wp2_with fail
        exact ⟨keeps_of_below hb5'.out, hb5'.out.mono hWL, hnext.out hno'.out, hB'.out.trans (hb5'.out.mono hWL)⟩
      | true =>
        obtain ⟨m0, m1, m2, _⟩ := hn5'.out.mf
        have hLw5 := Lib.hid (hB'.out.trans (hb5'.out.mono hWL))
        have hM5 : Hid (Mb w5 (T + 1) 0 0 none 0 0) := Lib.hid ((hLw5.out.block (T + 1) (by omega)).trans s2.out)
        have hb35 := Lib.hid ((hLw5.out.block (T + 1 + 1) (by omega)).trans s3.out)
        by_cases hgn : g = n2
        · subst hgn
          have hsome : candN d.fs s.data.toList = some (g, la, sg) := by rw [hcn'.out]; simp
          have hsome' := Lib.hid hsome
          obtain ⟨t0, t1, t2, _⟩ := hM5.out.mf
          have f0 := hM5.out.frozen 0
          have f1 := hM5.out.frozen 1
          have f2 := hM5.out.frozen 2
          have t3 : w5.cell? ⟨T + 1 + 1, 0, none⟩ = some (.bool false) := cell_blk hb35.out rfl
          have f3 : w5.frozen? ⟨T + 1 + 1, 0, none⟩ = false := frozen_of_row w5 _ 0 _ _ hb35.out
          clear hsome
          gi_wp2_with fail
          have hmay := dec_may hD'.out
          have hap1 := row_apart hI5.out hmay hM5.out (fun j z hj => by
            match j, hj with
            | 0, hj => simp at hj; omega
            | 1, hj => simp at hj; omega
            | 2, hj => simp at hj
            | j + 3, hj => simp at hj)
          have hap2 := row_apart hI5.out hmay hb35.out (fun j z hj => by
            match j, hj with
            | 0, hj => simp at hj
            | j + 1, hj => simp at hj)
          have hMf := mb_other (b' := T + 1 + 1) (i := 0) (mb_set hM5.out g la A6 n6 c6) (by omega) (.bool true)
          have hIf := rd_set (rd_set (rd_set (rd_set hI5.out hap1 (i := 0) (.int .i64 g)) hap1 (i := 1) (.int .i64 la)) hap1 (i := 2) (.slice A6 n6 c6)) hap2 (i := 0) (.bool true)
          have hBf : Below T w ((((w5.setCell ⟨T + 1, 0, none⟩ (.int .i64 g)).setCell ⟨T + 1, 1, none⟩ (.int .i64 la)).setCell ⟨T + 1, 2, none⟩ (.slice A6 n6 c6)).setCell ⟨T + 1 + 1, 0, none⟩ (.bool true)) := Ma.below_set (Ma.below_set (Ma.below_set (Ma.below_set hx5.out (by omega) _) (by omega) _) (by omega) _) (by omega) _
          have hcf : ((((w5.setCell ⟨T + 1, 0, none⟩ (.int .i64 g)).setCell ⟨T + 1, 1, none⟩ (.int .i64 la)).setCell ⟨T + 1, 2, none⟩ (.slice A6 n6 c6)).setCell ⟨T + 1 + 1, 0, none⟩ (.bool true)).cell? ⟨T + 1 + 1, 0, none⟩ = some (.bool true) :=
            World.cell?_setCell_same' _ _ _ (by
              rw [World.cell?_setCell_other _ _ _ _ (by intro e; injection e; omega), World.cell?_setCell_other _ _ _ _ (by intro e; injection e; omega), World.cell?_setCell_other _ _ _ _ (by intro e; injection e; omega), t3]
              rfl)
          exact ⟨(keeps_of_below hb5'.out).trans ((((KeepsOthers.setCell w5 _ _).trans (KeepsOthers.setCell _ _ _)).trans (KeepsOthers.setCell _ _ _)).trans (KeepsOthers.setCell _ _ _)), ⟨rfl, pre, x, (g, la, sg), A6, n6, c6, rfl, hp'.out, by rw [hs'.out]; exact hsome'.out, hMf, hIf, hcf⟩, hBf⟩
        · have hno : candN d.fs s.data.toList = none := by rw [hcn'.out, if_neg]; rintro ⟨_, _, h⟩; exact hgn h
          have hno' := Lib.hid hno
          have hne : (g == n2) = false := by rw [beq_eq_false_iff_ne]; exact hgn
          clear hno hgn
          gi_wp2_with fail
          exact ⟨keeps_of_below hb5'.out, hb5'.out.mono hWL, hnext.out hno'.out, hB'.out.trans (hb5'.out.mono hWL)⟩
  case done =>
    rintro D ys W hD rfl ⟨hno, hB⟩ hK
    have hM5 : Hid (Mb W (T + 1) 0 0 none 0 0) := Lib.hid ((hB.block (T + 1) (by omega)).trans s2.out)
    have hb35 := Lib.hid ((hB.block (T + 1 + 1) (by omega)).trans s3.out)
    obtain ⟨t0, t1, t2, _⟩ := hM5.out.mf
    have f0 := hM5.out.frozen 0
    have f1 := hM5.out.frozen 1
    have f2 := hM5.out.frozen 2
    have t3 : W.cell? ⟨T + 1 + 1, 0, none⟩ = some (.bool false) := cell_blk hb35.out rfl
    have f3 : W.frozen? ⟨T + 1 + 1, 0, none⟩ = false := frozen_of_row W _ 0 _ _ hb35.out
    have hno' := Lib.hid hno
    have hB' := Lib.hid hB
    have hK' := Lib.hid hK
    clear hno hB hK
    gi_wp2_with fail
    have hKp := ((((KeepsOthers.setCell W ⟨T + 1, 0, none⟩ (.int .i64 0)).trans (KeepsOthers.setCell _ ⟨T + 1, 1, none⟩ (.int .i64 0))).trans (KeepsOthers.setCell _ ⟨T + 1, 2, none⟩ (.slice none 0 0))).trans (KeepsOthers.setCell _ ⟨T + 1 + 1, 0, none⟩ (.bool false))).same D _ hK'.out rfl
    have hMf := mb_other (b' := T + 1 + 1) (i := 0) (mb_set hM5.out 0 0 none 0 0) (by omega) (.bool false)
    have hBf : Below T w ((((W.setCell ⟨T + 1, 0, none⟩ (.int .i64 0)).setCell ⟨T + 1, 1, none⟩ (.int .i64 0)).setCell ⟨T + 1, 2, none⟩ (.slice none 0 0)).setCell ⟨T + 1 + 1, 0, none⟩ (.bool false)) := Ma.below_set (Ma.below_set (Ma.below_set (Ma.below_set (hxL.out.trans (hB'.out.mono (by omega))) (by omega) _) (by omega) _) (by omega) _) (by omega) _
    have hcf : ((((W.setCell ⟨T + 1, 0, none⟩ (.int .i64 0)).setCell ⟨T + 1, 1, none⟩ (.int .i64 0)).setCell ⟨T + 1, 2, none⟩ (.slice none 0 0)).setCell ⟨T + 1 + 1, 0, none⟩ (.bool false)).cell? ⟨T + 1 + 1, 0, none⟩ = some (.bool false) :=
      World.cell?_setCell_same' _ _ _ (by
        rw [World.cell?_setCell_other _ _ _ _ (by intro e; injection e; omega), World.cell?_setCell_other _ _ _ _ (by intro e; injection e; omega), World.cell?_setCell_other _ _ _ _ (by intro e; injection e; omega), t3]
        rfl)
    generalize ((((W.setCell ⟨T + 1, 0, none⟩ (.int .i64 0)).setCell ⟨T + 1, 1, none⟩ (.int .i64 0)).setCell ⟨T + 1, 2, none⟩ (.slice none 0 0)).setCell ⟨T + 1 + 1, 0, none⟩ (.bool false)) = W2 at hKp hMf hBf hcf ⊢
    have hrow : ∀ r, some D = some r → ∃ o : Obj, W2.heap[r]? = some o ∧ o.isCells = false := fun r e => by cases e; exact ⟨_, hKp, rfl⟩
    have hM6 := mb_own (grownBy_putObj' W2 D (.deferred none)) hrow hMf
    have hc6 := cell_kept hcf (grownBy_putObj' W2 D (.deferred none)) hrow
    have hB6 := hBf.trans (belowK_b (n₀ := T) (w := wL) (by omega) W2 D _ (.deferred none) hD hKp rfl rfl)
    obtain ⟨z0, z1, z2, _⟩ := hM6.mf
    refine ⟨by simp, .inl ⟨_, _, rfl, run_takeDeferred hKp, ?_⟩⟩
    refine ⟨.tuple #[.agg #[.int .i64 0, .int .i64 0, .slice none 0 0], .bool false], ?_, none, none, 0, 0, ?_, rfl, Rd.none_ _, by rw [hT0'.out]; exact hB6⟩
    · simp [results, Tryz.f49, go_sem, z0, z1, z2, hc6]
    · intro p hp
      obtain ⟨j, hj⟩ := List.mem_iff_getElem?.1 hp
      exact back_none hG.inv.up hszs.out hno'.out j p (by rw [nms_len]; omega) hj
  case stop =>
    rintro D c pre W hD ⟨k, hk, hpre0⟩ ⟨⟨rfl, pre', x, m, A, n, c', hpre, hno, hc, hm, hI, hb⟩, hB⟩ hK
    gi_wp2_with fail
    have hrow : ∀ r, some D = some r → ∃ o : Obj, W.heap[r]? = some o ∧ o.isCells = false := fun r e => by cases e; exact ⟨_, hK, rfl⟩
    have hM6 := mb_own (grownBy_putObj' W D (.deferred none)) hrow hm
    have hI6 := rd_own (grownBy_putObj' W D (.deferred none)) hrow hI
    have hc6 := cell_kept hb (grownBy_putObj' W D (.deferred none)) hrow
    have hB6 := hB.trans (belowK_b (n₀ := T) (w := wL) (by omega) W D _ (.deferred none) hD hK rfl rfl)
    obtain ⟨z0, z1, z2, _⟩ := hM6.mf
    refine ⟨by simp, .inl ⟨_, _, rfl, run_takeDeferred hK, ?_⟩⟩
    refine ⟨.tuple #[.agg #[.int .i64 m.1, .int .i64 m.2.1, .slice A n c'], .bool true], ?_, some m, A, n, c', ?_, rfl, hI6, by rw [hT0'.out]; exact hB6⟩
    · simp [results, Tryz.f49, go_sem, z0, z1, z2, hc6]
    · rw [nms_len] at hk
      exact back_some hG.inv.up hszs.out hk (hpre0.symm.trans hpre) hno hc
theorem Newest_any (w : World) (B a mb N U : Nat) (d : D) (h : Sc B a mb d w w) (hG : Bd d N U) (hU : U ≤ 1000000) (hT : Te B w) (hE : Eb B w) :
    Calls Tryz.prog 49 #[.pointer (some ⟨a, 0, none⟩)] w (NwP d.fs w) := callsIn_wide.1 (Newest_in w B a mb N U d h hG hU hT hE)
end Go.Proofs.YtfdpnjebhllpkaaGreatDoor.Mn
