/- man.Write. -/
import Derived.Test.YtfdpnjebhllpkaaGreatDoorMMnClean
import Derived.Test.YtfdpnjebhllpkaaGreatDoorMMnIns
import Derived.Test.YtfdpnjebhllpkaaGreatDoorMDkMeth4
import Derived.Test.YtfdpnjebhllpkaaGreatDoorMMfCell
import Derived.Test.YtfdpnjebhllpkaaGreatDoorMMnCod
import Derived.Shelf.Lay
import Derived.Ground.NamesProg
import Derived.Shelf.Slices.Turned
section
namespace Go.Proofs.YtfdpnjebhllpkaaGreatDoor.Mn
open Go.RowKit Dk Ma Sg

theorem rename_op {B a mb : Nat} {d : D} {w0 w : World} {N U : Nat} (h : Sd B a mb d w0 w) (hG : Bd d N U) (hN : N ≤ 900) (s s2 : ByteArray) (hs : s.size ≤ 1000) (hs2 : s2.size ≤ 1000) :
    Calls Tryz.prog 98 #[.pointer (some ⟨a, 0, none⟩), .string s, .string s2] w (OpS B a mb (op d 5 s.data.toList s2.data.toList 0 []) w) := by
  obtain ⟨_, _, L, F, tv, hD⟩ := h
  exact (Rename_any w B a mb L F tv d hD (by have := hG.ops; omega) (by have := hG.tr; omega) (by have := hG.inv.most; omega) s (by omega) s2 (by omega)).mono fun _ _ h => OpS.of h

/-- "man.tmp" -/
def tmpS : ByteArray := ⟨#[109, 97, 110, 46, 116, 109, 112]⟩
theorem tmpS_list : tmpS.data.toList = tmp := rfl

/-- A step that goes on from a world w0. -/
def Does (B a mb : Nat) (w0 : World) (v : Value) (s : D → Int × D) : Prop :=
  ∃ f caps, v = .func (.func f) #[] caps ∧ (∀ args w, (callFunc f args).run Tryz.prog w = .ok (.enter f args) w) ∧
    (∀ w d N U, Sd B a mb d w0 w → Bd d N U → N ≤ 900 → U ≤ 900000 → Calls Tryz.prog f caps w (OpS B a mb (s d) w)) ∧ ∀ d N U, Bd d N U → Bd (s d).2 (N + 1) (U + 300)

section
variable {B a mb : Nat} {w0 : World} {pd pb pm : Nat}
theorem does1 (h : w0.heap[pd]? = some (.cells #[.pointer (some ⟨a, 0, none⟩)] 39)) : Does B a mb w0 (.func (.func 94) #[] #[.pointer (some ⟨pd, 0, none⟩)]) (fun d => op d 1 tmp [] 0 []) := by
  refine ⟨_, _, rfl, enters_of Tryz.func94 (by kernel_rfl) rfl, fun w d N U hS hG hN hU => ?_, fun d N U h => (h.op0 ..).mono (Nat.le_refl _) (by omega)⟩
  have k0 : w.cell? ⟨pd, 0, none⟩ = some (.pointer (some ⟨a, 0, none⟩)) := cell_blk (hS.2.1 _ _ _ _ h (by decide) (by decide)) rfl
  have hc := create_op hS hG hN tmpS (by decide)
  rw [tmpS_list] at hc
  have hc' := Lib.hid hc
  clear hc h
  go_enter Tryz.func94, Tryz.ntmps94
  go_wp2_with fail
  refine hc'.out.mono ?_
  rintro e w2 ⟨rfl, hst⟩
  have hst' := Lib.hid hst
  clear hst
  go_wp2_with fail
  go_ret
  exact ⟨rfl, hst'.out⟩
theorem does3 (h : w0.heap[pd]? = some (.cells #[.pointer (some ⟨a, 0, none⟩)] 39)) : Does B a mb w0 (.func (.func 96) #[] #[.pointer (some ⟨pd, 0, none⟩)]) (fun d => op d 4 tmp [] 0 []) := by
  refine ⟨_, _, rfl, enters_of Tryz.func96 (by kernel_rfl) rfl, fun w d N U hS hG hN hU => ?_, fun d N U h => (h.op0 ..).mono (Nat.le_refl _) (by omega)⟩
  have k0 : w.cell? ⟨pd, 0, none⟩ = some (.pointer (some ⟨a, 0, none⟩)) := cell_blk (hS.2.1 _ _ _ _ h (by decide) (by decide)) rfl
  have hc := sync_op hS hG hN tmpS (by decide)
  rw [tmpS_list] at hc
  have hc' := Lib.hid hc
  clear hc h
  go_enter Tryz.func96, Tryz.ntmps96
  go_wp2_with fail
  refine hc'.out.mono ?_
  rintro e w2 ⟨rfl, hst⟩
  have hst' := Lib.hid hst
  clear hst
  go_wp2_with fail
  go_ret
  exact ⟨rfl, hst'.out⟩
theorem does5 (h : w0.heap[pd]? = some (.cells #[.pointer (some ⟨a, 0, none⟩)] 39)) : Does B a mb w0 (.func (.func 101) #[] #[.pointer (some ⟨pd, 0, none⟩)]) (fun d => op d 6 tmp [] 0 []) := by
  refine ⟨_, _, rfl, enters_of Tryz.func101 (by kernel_rfl) rfl, fun w d N U hS hG hN hU => ?_, fun d N U h => (h.op0 ..).mono (Nat.le_refl _) (by omega)⟩
  have k0 : w.cell? ⟨pd, 0, none⟩ = some (.pointer (some ⟨a, 0, none⟩)) := cell_blk (hS.2.1 _ _ _ _ h (by decide) (by decide)) rfl
  have hc := delete_op hS hG hN tmpS (by decide)
  rw [tmpS_list] at hc
  have hc' := Lib.hid hc
  clear hc h
  go_enter Tryz.func101, Tryz.ntmps101
  go_wp2_with fail
  refine hc'.out.mono ?_
  rintro e w2 ⟨rfl, hst⟩
  have hst' := Lib.hid hst
  clear hst
  go_wp2_with fail
  go_ret
  exact ⟨rfl, hst'.out⟩
theorem does2 {b : List UInt8} {Ab : Option Addr} {cb : Nat} (hb : b.length ≤ 300) (h : w0.heap[pd]? = some (.cells #[.pointer (some ⟨a, 0, none⟩)] 39)) (hpb : w0.heap[pb]? = some (.cells #[.slice Ab b.length cb] 22)) (ho : OwB w0 B 5 (.slice Ab b.length cb) b) :
    Does B a mb w0 (.func (.func 95) #[] #[.pointer (some ⟨pd, 0, none⟩), .pointer (some ⟨pb, 0, none⟩)]) (fun d => op d 2 tmp [] 0 b) := by
  refine ⟨_, _, rfl, enters_of Tryz.func95 (by kernel_rfl) rfl, fun w d N U hS hG hN hU => ?_, fun d N U h => (h.op 2 tmp [] 0 b).mono (Nat.le_refl _) (by omega)⟩
  have k0 : w.cell? ⟨pd, 0, none⟩ = some (.pointer (some ⟨a, 0, none⟩)) := cell_blk (hS.2.1 _ _ _ _ h (by decide) (by decide)) rfl
  have k1 : w.cell? ⟨pb, 0, none⟩ = some (.slice Ab b.length cb) := cell_blk (hS.2.1 _ _ _ _ hpb (by decide) (by decide)) rfl
  have hbs := (hS.2.1.owb ho).bs
  obtain ⟨nb, hnb⟩ : ∃ nb, b.length = nb := ⟨_, rfl⟩
  rw [hnb] at hbs k1 hb
  have hc := append_op hS hG hN (by omega) tmpS (by decide) Ab nb cb b hbs (by omega)
  rw [tmpS_list] at hc
  have hc' := Lib.hid hc
  clear hc h hpb ho hbs hnb
  go_enter Tryz.func95, Tryz.ntmps95
  go_wp2_with fail
  refine hc'.out.mono ?_
  rintro e w2 ⟨rfl, hst⟩
  have hst' := Lib.hid hst
  clear hst
  go_wp2_with fail
  go_ret
  exact ⟨rfl, hst'.out⟩
theorem man_nm (g : Int) : ∃ s : ByteArray, strOf (nameOf man4 g) = s ∧ s.data.toList = nameOf man4 g ∧ s.size ≤ 1000 := by
  refine ⟨_, rfl, rfl, ?_⟩
  rw [strOf_size']
  unfold nameOf
  split
  · rw [List.length_append, Nu.eight_len]; decide
  · simp
set_option maxRecDepth 100000 in
theorem does4 {g la : Int} {As : Option Addr} {ns cs : Nat} (hT : ∀ w', Below B w0 w' → Te B w') (h : w0.heap[pd]? = some (.cells #[.pointer (some ⟨a, 0, none⟩)] 39)) (hm : Mb w0 pm g la As ns cs) :
    Does B a mb w0 (.func (.func 97) #[] #[.pointer (some ⟨pd, 0, none⟩), .pointer (some ⟨pm, 0, none⟩)]) (fun d => op d 5 tmp (nameOf man4 g) 0 []) := by
  refine ⟨_, _, rfl, enters_of Tryz.func97 (by kernel_rfl) rfl, fun w d N U hS hG hN hU => ?_, fun d N U h => (h.op0 ..).mono (Nat.le_refl _) (by omega)⟩
  have k0 : w.cell? ⟨pd, 0, none⟩ = some (.pointer (some ⟨a, 0, none⟩)) := cell_blk (hS.2.1 _ _ _ _ h (by decide) (by decide)) rfl
  obtain ⟨m0, m1, m2, _⟩ := (mb_fm hm hS.2.1).mf
  have hTe := hT w hS.1
  obtain ⟨s, hs1, hs2, hs3⟩ := man_nm g
  have hnm := manName_any g w.drew (hTe.tens.below (bD (Below.refl _ _)))
  rw [show strOf (nameOf [109, 97, 110, 46] g) = s from hs1] at hnm
  have hc := fun (w' : World) (hb : Below w.heap.size w w') => rename_op (Sd.bel (B := B) (a := a) (mb := mb) (d := d) ⟨Below.refl B w, Fm.refl w, hS.2.2⟩ hb) hG hN tmpS s (by decide) hs3
  rw [tmpS_list, hs2] at hc
  have hS0 : Sd B a mb d w w := ⟨Below.refl _ _, Fm.refl _, hS.2.2⟩
  have hc' := Lib.hid hc
  have hnm' := Lib.hid hnm
  have hS0' := Lib.hid hS0
  clear hc h hm hnm hTe hT hs1 hs2 hS0
  go_enter Tryz.func97, Tryz.ntmps97
  go_wp2_with fail
  refine Pl.wp_region_plan 4 (.take 0 (.take 1 (.take 2 (.run 3 .done)))) (fun x => x.cell? ⟨pd, 0, none⟩ = some (.pointer (some ⟨a, 0, none⟩)) ∧ x.cell? ⟨pm, 0, none⟩ = some (.int .i64 g)) (by kernel_rfl) (by kernel_rfl) (by exact ⟨k0, m0⟩) ?_
  simp only [Pl.fill, List.getElem?_cons_zero, List.getElem?_cons_succ, List.drop_succ_cons, List.drop_zero]
  iterate 3
    refine Pl.take_go ?_ (by rfl) (fun _ _ _ h => h) ?_ ?_
    rotate_left
    · (intro x hSw; (try dsimp only at hSw); go_simp; try with_reducible rfl)
    try simp only [Act.put, List.setIfInBounds_toArray, List.set_cons_zero, List.set_cons_succ]
  refine Pl.run_go (fun K hK => ?_)
  go_simp
  refine hnm'.out.mono ?_
  rintro e w4 ⟨rfl, hb4⟩
  have hx4 := Lib.hid ((bD (Below.refl w.heap.size w)).trans (hb4.mono (by simp)))
  clear hb4
  dsimp only
  have hk1 := (hx4.out.cell (p := ⟨pd, 0, none⟩) (World.block_lt_of_cell? w _ k0)).trans k0
  have hk2 := (hx4.out.cell (p := ⟨pm, 0, none⟩) (World.block_lt_of_cell? w _ m0)).trans m0
  refine hK.out _ _ (Pl.more_go _ (fun _ h => h) (by exact ⟨hk1, hk2⟩) ?_)
  clear hK K
  refine Pl.done_go ?_
  go_wp2_with fail
  refine (hc'.out w4 hx4.out).mono ?_
  rintro e w5 ⟨rfl, hst⟩
  have hst' := Lib.hid (Sd.then_ (Sd.bel hS0'.out hx4.out) hst)
  clear hst
  go_wp2_with fail
  go_ret
  exact ⟨rfl, hst'.out⟩
end
end Go.Proofs.YtfdpnjebhllpkaaGreatDoor.Mn
end

section
namespace Go.Proofs
open Go.Shelf Go.RowKit
shelf_lay Lays.n110 Nm 110 at Tryz as Tryz.laysCs
end Go.Proofs
namespace Go.Proofs.YtfdpnjebhllpkaaGreatDoor.Mn
open Go.RowKit Dk Ma Sg

/-- A row of functions, in a block of its own. -/
def Hv (w : World) (A : Option Addr) (n c : Nat) (vs : List Value) : Prop := Rd w A n c vs ∧ (0 < n → ∃ b cur, A = some ⟨b, 0, none⟩ ∧ w.heap[b]? = some (Obj.cells cur 142))
theorem Hv.fm {w w' : World} {A : Option Addr} {n c : Nat} {vs : List Value} (h : Hv w A n c vs) (hf : Fm w w') : Hv w' A n c vs := by
  obtain ⟨h1, h2⟩ := h
  have hk : ∀ (b : Nat) (cur : Array Value), w.heap[b]? = some (Obj.cells cur 142) → w'.heap[b]? = some (Obj.cells cur 142) := fun b cur e => hf b _ _ _ e (by decide) (by decide)
  refine ⟨⟨h1.len, h1.le, h1.max, h1.nil, fun h0 => ?_⟩, fun h0 => ?_⟩
  · obtain ⟨b, off, e, hb, hc⟩ := h1.cell h0
    obtain ⟨b2, cur, e2, h3⟩ := h2 h0
    rw [e] at e2
    injection e2 with e2
    injection e2 with e3 e4 _
    subst e3
    have h4 := hk _ _ h3
    refine ⟨b, off, e, (Array.getElem?_eq_some_iff.1 h4).1, fun j u hu => ?_⟩
    have := hc j u hu
    simp only [World.cell?, h3] at this
    simp only [World.cell?, h4]
    exact this
  · obtain ⟨b2, cur, e2, h3⟩ := h2 h0
    exact ⟨b2, cur, e2, hk _ _ h3⟩

theorem containsS_any (A : Option Addr) (n c : Nat) (zs : List ByteArray) (x : ByteArray) (w : World) (h : Rd w A n c (zs.map .string)) :
    Calls Tryz.prog 99 #[.slice A n c, .string x] w fun e w' => e = .returned (.bool (Lib.containsS zs x)) ∧ w' = w := by
  have hl : zs.length = n := by simpa using h.len
  have hle := h.le
  have hm := h.max
  rcases Nat.eq_zero_or_pos n with h0 | h0
  · subst h0
    obtain rfl : zs = [] := List.length_eq_zero_iff.1 hl
    refine (Any.slices_Contains_string_empty Tryz.laysCs A c x w).mono ?_
    rintro e w' ⟨rfl, rfl⟩
    refine ⟨?_, rfl⟩
    cases h9 : Lib.containsS [] x with
    | false => rfl
    | true => exact absurd ((Lib.containsS_iff [] x).1 h9) (by simp)
  · obtain ⟨b, off, rfl, _, hc⟩ := h.cell h0
    have := Any.slices_Contains_string Tryz.laysCs b off n c zs x w (by omega) (by omega) (by
      intro j hj
      rw [hc j (.string zs[j]) (by rw [List.getElem?_map, List.getElem?_eq_getElem hj]; rfl)]
      simp [List.getD, List.getElem?_eq_getElem hj])
    rw [List.take_of_length_le (by omega)] at this
    exact this

theorem tmp_there {fs : Fs} (hU : Up fs) : Lib.containsS (fs.map fun p => strOf p.1) tmpS = (get fs tmp).isSome := by
  rw [Bool.eq_iff_iff, Lib.containsS_iff, List.mem_map]
  constructor
  · rintro ⟨p, hp, e⟩
    have : p.1 = tmp := by rw [← tmpS_list, ← e]; rfl
    rw [← this, get_of_mem hU hp]
    rfl
  · intro h
    obtain ⟨f, hf⟩ := Option.isSome_iff_exists.1 h
    exact ⟨(tmp, f), get_mem hf, rfl⟩

/-- What Write does to a disk. -/
def writeM (d : D) (g la : Int) (ss : List Int) : Int × D := if mayM g la ss = true then write d (encM g la ss) (nameOf man4 g) else (80, d)
theorem encM_none {g la : Int} {ss : List Int} (h : mayM g la ss = false) : encM g la ss = [] := by unfold encM; rw [h]; rfl

set_option maxHeartbeats 4000000 in
set_option maxRecDepth 100000 in
theorem Write_any (w : World) (B a mb N U : Nat) (d : D) (h : Sc B a mb d w w) (hG : Bd d N U) (hN : N ≤ 800) (hU : U ≤ 800000) (hT : Te B w) (g la : Int) (A : Option Addr) (n c : Nat) (ss : List Int) (hI : Mg B w A n c ss) :
    Calls Tryz.prog 48 #[.pointer (some ⟨a, 0, none⟩), .agg #[.int .i64 g, .int .i64 la, .slice A n c]] w (ClP B a mb (writeM d g la ss) g w) := by
  have hle := Sc.le h
  obtain ⟨X, hX⟩ : ∃ X, writeM d g la ss = X := ⟨_, rfl⟩
  rw [hX]
  have hX' := Lib.hid hX
  clear hX
  have hba1 := below_alloc w (.cells #[.pointer (some ⟨a, 0, none⟩)] 39)
  have hnd := heap_alloc_new w (.cells #[.pointer (some ⟨a, 0, none⟩)] 39)
  have hba2 := below_alloc (w.alloc (.cells #[.pointer (some ⟨a, 0, none⟩)] 39)) (.cells #[.int .i64 g, .int .i64 la, .slice A n c] 75)
  have hmb := mb_new (w.alloc (.cells #[.pointer (some ⟨a, 0, none⟩)] 39)) g la A n c
  have hnd2 := (hba2.block w.heap.size (by simp)).trans hnd
  rw [World.size_alloc] at hmb
  obtain ⟨pd, hpd⟩ : ∃ pd, w.heap.size = pd := ⟨_, rfl⟩
  obtain ⟨wA, hwA⟩ : ∃ wA, (w.alloc (.cells #[.pointer (some ⟨a, 0, none⟩)] 39)).alloc (.cells #[.int .i64 g, .int .i64 la, .slice A n c] 75) = wA := ⟨_, rfl⟩
  have hsz : wA.heap.size = pd + 2 := by rw [← hwA, World.size_alloc, World.size_alloc, hpd]
  have hxA := Lib.hid (show Below pd w wA by rw [← hwA, ← hpd]; exact hba1.trans (hba2.mono (by simp)))
  rw [hwA] at hmb hnd2
  rw [hpd] at hmb hnd2
  have hS : Hid (Sd B a mb d w wA) := Lib.hid (Sd.bel (w1 := w) ⟨Below.refl _ _, Fm.refl _, h.2.2⟩ (by rw [hpd]; exact hxA.out))
  have hTA : Hid (∀ w', Below B wA w' → Te B w') := Lib.hid fun w' hb => hT.on ((hxA.out.mono (by omega)).trans hb)
  have hEnc := Lib.hid (manEncode_any g la A n c ss wA (hTA.out _ (Below.refl _ _)).tens (hI wA (hxA.out.mono (by omega))))
  have hmb' := Lib.hid hmb
  have hnd' := Lib.hid hnd2
  have hpd' := Lib.hid hpd
  have hBpd : B ≤ pd := by omega
  clear hba1 hnd hba2 hmb hnd2 h hT hI
  go_enter Tryz.func48, Tryz.ntmps48
  go_upto_region 1 with fail
  clear hwA hpd
  obtain ⟨m0, m1, m2, _⟩ := hmb'.out.mf
  go_wp2_with fail
  refine hEnc.out.mono ?_
  rintro e w1 ⟨A1, c1, rfl, ho1, hb1⟩
  clear hEnc m0 m1 m2
  go_upto_region 2 with fail
  obtain ⟨b, hb⟩ : ∃ b, encM g la ss = b := ⟨_, rfl⟩
  rw [hb] at ho1 ⊢
  have hb' := Lib.hid hb
  clear hb
  have hba3 := below_alloc w1 (.cells #[.slice A1 b.length c1] 22)
  have hnb := heap_alloc_new w1 (.cells #[.slice A1 b.length c1] 22)
  obtain ⟨pb, hpb⟩ : ∃ pb, w1.heap.size = pb := ⟨_, rfl⟩
  obtain ⟨wB, hwB⟩ : ∃ wB, w1.alloc (.cells #[.slice A1 b.length c1] 22) = wB := ⟨_, rfl⟩
  rw [hwB] at hba3 hnb ⊢
  rw [hpb] at hnb ⊢
  have hxB := Lib.hid (hb1.trans (hba3.mono hb1.size))
  have hmB := Lib.hid (hmb'.out.below hxB.out)
  have hdB := Lib.hid ((hxB.out.block pd (by omega)).trans hnd'.out)
  have hoB := Lib.hid (OwB.base (OwB.below ho1 hba3) (B' := B) (by have := hpd'.out; omega))
  have hnb' := Lib.hid hnb
  have hSB := Lib.hid (Sd.bel hS.out hxB.out)
  clear hwB hpb hba3 hnb hb1 ho1 hS hmb' hnd'
  cases hmy : mayM g la ss with
  | false =>
    have hb0 : b = [] := by rw [← hb'.out]; exact encM_none hmy
    subst hb0
    have hX2 := hX'.out
    unfold writeM at hX2
    rw [hmy, if_neg (by simp)] at hX2
    subst hX2
    have kb : wB.cell? ⟨pb, 0, none⟩ = some (.slice A1 0 c1) := cell_blk hnb'.out rfl
    obtain ⟨m0, m1, m2, _⟩ := hmB.out.mf
    clear hmy
    rw [List.length_nil]
    go_wp2_with fail
    refine (mfail_any 80 g (by decide) wB).mono ?_
    rintro e w4 ⟨v, rfl, hb4, hf4⟩
    have hS4 := Lib.hid (Sd.bel hSB.out hb4)
    have hf4' := Lib.hid hf4
    clear hb4 hf4
    go_wp2_with fail
    go_ret
    exact ⟨hS4.out, _, rfl, .inr ⟨(show (80 : Int) ≠ 0 by decide), hf4'.out⟩⟩
  | true =>
    have hX2 := hX'.out
    unfold writeM at hX2
    rw [hmy, if_pos rfl, hb'.out] at hX2
    have hl := (encM_len hmy).1
    have hl64 := (may_facts hmy).2.2.2.2.1
    rw [hb'.out] at hl
    unfold write at hX2
    have hX3 := Lib.hid hX2
    have kb : wB.cell? ⟨pb, 0, none⟩ = some (.slice A1 b.length c1) := cell_blk hnb'.out rfl
    obtain ⟨nb, hnbl⟩ : ∃ nb, b.length = nb := ⟨_, rfl⟩
    have i1 : ((nb : Int) == 0) = false := by rw [beq_eq_false_iff_ne]; omega
    have i2 : (nb == 0) = false := by rw [beq_eq_false_iff_ne]; omega
    rw [hnbl] at kb ⊢
    have hbl : b.length ≤ 300 := by omega
    clear hX' hX2 hmy hl
    have hbaS := below_alloc wB (.cells #[.func (.func 94) #[] #[.pointer (some ⟨pd, 0, none⟩)], .func (.func 95) #[] #[.pointer (some ⟨pd, 0, none⟩), .pointer (some ⟨pb, 0, none⟩)], .func (.func 96) #[] #[.pointer (some ⟨pd, 0, none⟩)], .func (.func 97) #[] #[.pointer (some ⟨pd, 0, none⟩), .pointer (some ⟨pd + 1, 0, none⟩)]] 142)
    have hnS := heap_alloc_new wB (.cells #[.func (.func 94) #[] #[.pointer (some ⟨pd, 0, none⟩)], .func (.func 95) #[] #[.pointer (some ⟨pd, 0, none⟩), .pointer (some ⟨pb, 0, none⟩)], .func (.func 96) #[] #[.pointer (some ⟨pd, 0, none⟩)], .func (.func 97) #[] #[.pointer (some ⟨pd, 0, none⟩), .pointer (some ⟨pd + 1, 0, none⟩)]] 142)
    obtain ⟨wS, hwS⟩ : ∃ wS, wB.alloc (.cells #[.func (.func 94) #[] #[.pointer (some ⟨pd, 0, none⟩)], .func (.func 95) #[] #[.pointer (some ⟨pd, 0, none⟩), .pointer (some ⟨pb, 0, none⟩)], .func (.func 96) #[] #[.pointer (some ⟨pd, 0, none⟩)], .func (.func 97) #[] #[.pointer (some ⟨pd, 0, none⟩), .pointer (some ⟨pd + 1, 0, none⟩)]] 142) = wS := ⟨_, rfl⟩
    obtain ⟨ps, hps⟩ : ∃ ps, wB.heap.size = ps := ⟨_, rfl⟩
    rw [hwS] at hbaS hnS
    rw [hps] at hnS
    have hSS := Lib.hid (Sd.bel hSB.out hbaS)
    have hS0 : Hid (Sd B a mb d wS wS) := Lib.hid ⟨Below.refl _ _, Fm.refl _, hSS.out.2.2⟩
    have hdS := (hbaS.block pd (Array.getElem?_eq_some_iff.1 hdB.out).1).trans hdB.out
    have hbS := (hbaS.block pb (Array.getElem?_eq_some_iff.1 hnb'.out).1).trans hnb'.out
    have hmS := Lib.hid (hmB.out.below hbaS)
    have hoS := OwB.below hoB.out hbaS
    have hBB : B ≤ wB.heap.size := Sd.le hSB.out
    have hTS : ∀ w', Below B wS w' → Te B w' := fun w' hb => hTA.out w' (((hxB.out.trans (hbaS.mono hxB.out.size)).mono (by omega)).trans hb)
    have D1 := does1 (B := B) (mb := mb) hdS
    have D2 := does2 (B := B) (mb := mb) hbl hdS hbS hoS
    have D3 := does3 (B := B) (mb := mb) hdS
    have D4 := does4 (B := B) (mb := mb) hTS hdS hmS.out
    have D5 := Lib.hid (does5 (B := B) (mb := mb) hdS)
    have hD : Hid (∀ (i : Nat) v s, [Value.func (.func 94) #[] #[.pointer (some ⟨pd, 0, none⟩)], .func (.func 95) #[] #[.pointer (some ⟨pd, 0, none⟩), .pointer (some ⟨pb, 0, none⟩)], .func (.func 96) #[] #[.pointer (some ⟨pd, 0, none⟩)], .func (.func 97) #[] #[.pointer (some ⟨pd, 0, none⟩), .pointer (some ⟨pd + 1, 0, none⟩)]][i]? = some v → (wOps b (nameOf man4 g))[i]? = some s → Does B a mb wS v s) := Lib.hid (by
      intro i v s hv hs
      unfold wOps at hs
      match i with
      | 0 => simp at hv hs; subst hv; subst hs; exact D1
      | 1 => simp at hv hs; subst hv; subst hs; exact D2
      | 2 => simp at hv hs; subst hv; subst hs; exact D3
      | 3 => simp at hv hs; subst hv; subst hs; exact D4
      | i + 4 => simp at hv)
    have hdS' := Lib.hid hdS
    have hnS' := Lib.hid hnS
    clear hbaS hdS hbS hoS D1 D2 D3 D4 hnS hTS
    go_upto_region 5 with fail
    clear hwS hps kb i1 i2
    have kd : wS.cell? ⟨pd, 0, none⟩ = some (.pointer (some ⟨a, 0, none⟩)) := cell_blk hdS'.out rfl
    go_wp2_with fail
    refine (names_op hS0.out.2.2 hG).mono ?_
    rintro e w5 ⟨A5, c5, rfl, hb5, ho5⟩
    have hr5 := Lib.hid (rd_of_own ho5)
    have hS5 := Lib.hid (Sd.bel hS0.out hb5)
    have hn5 := Lib.hid (show w5.heap[ps]? = _ from (hb5.block ps (Array.getElem?_eq_some_iff.1 hnS'.out).1).trans hnS'.out)
    clear hb5 ho5 kd
    go_wp2_with fail
    refine (containsS_any A5 d.fs.length c5 _ tmpS w5 hr5.out).mono ?_
    rintro e w5' ⟨rfl, rfl⟩
    rw [tmp_there hG.inv.up]
    obtain ⟨cnd, hcnd⟩ : ∃ cnd, (get d.fs tmp).isSome = cnd := ⟨_, rfl⟩
    rw [hcnd] at hX3 ⊢
    clear hcnd hr5
    obtain ⟨F4, hF4⟩ : ∃ F4 : List Value, F4 = [.func (.func 94) #[] #[.pointer (some ⟨pd, 0, none⟩)], .func (.func 95) #[] #[.pointer (some ⟨pd, 0, none⟩), .pointer (some ⟨pb, 0, none⟩)], .func (.func 96) #[] #[.pointer (some ⟨pd, 0, none⟩)], .func (.func 97) #[] #[.pointer (some ⟨pd, 0, none⟩), .pointer (some ⟨pd + 1, 0, none⟩)]] := ⟨_, rfl⟩
    have hF4l : F4.length = 4 := by rw [hF4]; rfl
    have hF4o : ∀ u ∈ F4, u.oneCell' = true := by
      rw [hF4]
      intro u hu
      simp only [List.mem_cons, List.not_mem_nil, or_false] at hu
      rcases hu with rfl | rfl | rfl | rfl <;> rfl
    have hc5 : Hid (∀ (j : Nat) u, F4[j]? = some u → w5'.cell? ⟨ps, j, none⟩ = some u) := Lib.hid (by
      rw [hF4]
      intro j u hj
      have h6 := hn5.out
      simp only [World.cell?, h6]
      simpa using hj)
    rw [← hF4] at hD
    have hF4' := Lib.hid hF4
    have hF4o' := Lib.hid hF4o
    clear hF4 hF4o
    go_upto_if 25 with fail
    go_cut [6] (fun v wx => ∃ (A6 : Option Addr) (n6 c6 : Nat) (vs : List Value), v = .slice A6 n6 c6 ∧ n6 ≤ 5 ∧ Hid (Hv wx A6 n6 c6 vs) ∧ Hid (Sd B a mb d wS wx) ∧ Hid (vs.length = (dOps cnd ++ wOps b (nameOf man4 g)).length) ∧ Hid (∀ (i : Nat) v s, vs[i]? = some v → (dOps cnd ++ wOps b (nameOf man4 g))[i]? = some s → Does B a mb wS v s))
    case first =>
      cases cnd with
      | false =>
        go_wp2_with fail
        go_meet
        refine ⟨some ⟨ps, 0, none⟩, 4, 4, F4, rfl, by omega, Lib.hid ⟨⟨hF4l, by omega, by omega, fun h => (by cases h), fun _ => ⟨ps, 0, rfl, (Array.getElem?_eq_some_iff.1 hn5.out).1, fun j u hj => by rw [Nat.zero_add]; exact hc5.out j u hj⟩⟩, fun _ => ⟨ps, _, rfl, hn5.out⟩⟩, hS5, Lib.hid hF4l, hD⟩
      | true =>
        have hba6 := below_alloc w5' (.cells #[.func (.func 101) #[] #[.pointer (some ⟨pd, 0, none⟩)]] 142)
        have hn6 := heap_alloc_new w5' (.cells #[.func (.func 101) #[] #[.pointer (some ⟨pd, 0, none⟩)]] 142)
        obtain ⟨w6, hw6⟩ : ∃ w6, w5'.alloc (.cells #[.func (.func 101) #[] #[.pointer (some ⟨pd, 0, none⟩)]] 142) = w6 := ⟨_, rfl⟩
        rw [hw6] at hba6 hn6
        have hlt5 := (Array.getElem?_eq_some_iff.1 hn5.out).1
        have hins := insert_any ps w5'.heap.size F4 (.func (.func 101) #[] #[.pointer (some ⟨pd, 0, none⟩)]) hF4l w6 (fun j u hj => (hba6.cell (p := ⟨ps, j, none⟩) hlt5).trans (hc5.out j u hj)) (cell_blk hn6 rfl) hF4o'.out rfl
        have hS6 := Lib.hid (Sd.bel hS5.out hba6)
        have hins' := Lib.hid hins
        clear hba6 hn6 hins hlt5
        go_wp2_with fail
        clear hw6
        refine hins'.out.mono ?_
        rintro e w7 ⟨c7, rfl, hc51, hc52, hb7, hcur7, hcs7⟩
        have hS7 := Lib.hid (Sd.bel hS6.out hb7)
        have hcur7' := Lib.hid hcur7
        have hcs7' := Lib.hid hcs7
        clear hb7 hcur7 hcs7 hins'
        go_wp2_with fail
        go_meet
        refine ⟨some ⟨w6.heap.size, 0, none⟩, 5, c7, (.func (.func 101) #[] #[.pointer (some ⟨pd, 0, none⟩)]) :: F4, rfl, by omega, Lib.hid ⟨⟨by rw [List.length_cons, hF4l], hc51, hc52, fun h => (by cases h), fun _ => ⟨w6.heap.size, 0, rfl, ?_, fun j u hj => by rw [Nat.zero_add]; exact hcs7'.out j u hj⟩⟩, fun _ => by obtain ⟨cur, h8⟩ := hcur7'.out; exact ⟨w6.heap.size, cur, rfl, h8⟩⟩, hS7, Lib.hid (by rw [List.length_cons, hF4l]; rfl), Lib.hid fun i v s hv hs => ?_⟩
        · obtain ⟨cur, h8⟩ := hcur7'.out
          exact (Array.getElem?_eq_some_iff.1 h8).1
        · cases i with
          | zero =>
            simp at hv
            subst hv
            have hs' : some (fun d => op d 6 tmp [] 0 []) = some s := hs
            injection hs' with hs'
            subst hs'
            exact D5.out
          | succ i => exact hD.out i v s hv hs
    case rest =>
    obtain ⟨A6, n6, c6, vs, rfl, hn65, hv6, hS6, hvl, hD6⟩ := hcut
    obtain ⟨ops, hops⟩ : ∃ ops, dOps cnd ++ wOps b (nameOf man4 g) = ops := ⟨_, rfl⟩
    rw [hops] at hX3 hvl hD6
    have hle6 := hv6.out.1.le
    have hmx6 := hv6.out.1.max
    have hvn : Hid (vs.length = n6) := Lib.hid hv6.out.1.len
    clear hops hc5 hn5 hS5 hD D5 hF4' hF4o' hF4l
    go_wp2_with fail
    go_loopw [32] (fun iv wr => ∃ (k : Nat) (d' : D), k ≤ n6 ∧ iv = .int .i64 k ∧ Hid (runW (ops.drop k) d' = X) ∧ Hid (Bd d' (N + k) (U + 300 * k)) ∧ Hid (Sd B a mb d' wS wr) ∧ Hid (Hv wr A6 n6 c6 vs)) (fun iv _ => n6 - (intOf iv).toNat)
    case atStart => exact ⟨0, d, by omega, rfl, hX3, Lib.hid (hG.mono (by omega) (by omega)), hS6, hv6⟩
    case round =>
      obtain ⟨k, d', hk, rfl, hrun, hBd, hSr, hvr⟩ := hrel
      by_cases hlt : k < n6
      · have i1 : decide ((k : Int) < (n6 : Int)) = true := by rw [decide_eq_true_eq]; omega
        have i2 : decide (k < n6) = true := by rw [decide_eq_true_eq]; omega
        have i3 : (k : Int) < (n6 : Int) := by omega
        obtain ⟨b6, off6, u, rfl, hb6, hu, hc⟩ := Rd.at_ hvr.out.1 hlt
        obtain ⟨s, hs⟩ : ∃ s, ops[k]? = some s := ⟨_, List.getElem?_eq_getElem (by have := hvl.out; have := hvn.out; omega)⟩
        obtain ⟨f, caps, rfl, eg, hdo, hgr⟩ := hD6.out k u s hu hs
        have hdr : ops.drop k = s :: ops.drop (k + 1) := by
          obtain ⟨h1, h2⟩ := List.getElem?_eq_some_iff.1 hs
          rw [List.drop_eq_getElem_cons h1, h2]
        have hr2 := hrun.out
        rw [hdr, runW] at hr2
        have hop := hdo wr d' (N + k) (U + 300 * k) hSr.out hBd.out (by omega) (by omega)
        have hB2 := hgr d' _ _ hBd.out
        obtain ⟨Y, hY⟩ : ∃ Y, s d' = Y := ⟨_, rfl⟩
        rw [hY] at hr2 hop hB2
        obtain ⟨q1, d1⟩ := Y
        simp only at hr2 hop hB2
        have hop' := Lib.hid hop
        have hB2' := Lib.hid hB2
        have hr2' := Lib.hid hr2
        clear hop hB2 hr2 hY hdr hs hdo hgr hu hb6
        go_wp2_with fail
        refine hop'.out.mono ?_
        rintro e w8 ⟨rfl, hst⟩
        have hS8 := Lib.hid (Sd.then_ hSr.out hst)
        have hv8 := Lib.hid (hvr.out.fm hst.2.1)
        clear hst hop' hvr
        by_cases h0 : q1 = 0
        · subst h0
          have hr3 := hr2'.out
          rw [if_neg (by simp)] at hr3
          have hr3' := Lib.hid hr3
          clear hr3 hr2'
          go_wp2_with fail
          go_roundw
          case rel => exact ⟨k + 1, d1, by omega, by go_num, hr3', Lib.hid (hB2'.out.mono (by omega) (by omega)), hS8, hv8⟩
          case measure => simp [intOf]; omega
        · have hr3 := hr2'.out
          rw [if_pos h0] at hr3
          subst hr3
          have hne : (q1 != 0) = true := by simpa using h0
          obtain ⟨m0, m1, m2, _⟩ := (mb_fm hmS.out hS8.out.2.1).mf
          go_wp2_with fail
          refine (mfail_any q1 g h0 w8).mono ?_
          rintro e w9 ⟨v, rfl, hb9, hf9⟩
          have hS9 := Lib.hid (Sd.then_ hSS.out (Sd.bel hS8.out hb9))
          have hf9' := Lib.hid hf9
          clear hb9 hf9
          go_wp2_with fail
          go_ret
          exact ⟨hS9.out, _, rfl, .inr ⟨h0, hf9'.out⟩⟩
      · have i1 : decide ((k : Int) < (n6 : Int)) = false := by rw [decide_eq_false_iff_not]; omega
        have i2 : decide (k < n6) = false := by rw [decide_eq_false_iff_not]; omega
        have hend := hrun.out
        rw [List.drop_of_length_le (by have := hvl.out; have := hvn.out; omega), runW] at hend
        subst hend
        have hSe := Lib.hid (Sd.then_ hSS.out hSr.out)
        go_wp2_with fail
        go_ret
        exact ⟨hSe.out, _, rfl, .inl ⟨rfl, rfl⟩⟩
end Go.Proofs.YtfdpnjebhllpkaaGreatDoor.Mn
end
