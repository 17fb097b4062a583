/- The document's Less, Used, Read, Arm. -/
import Derived.Test.YtfdpnjebhllpkaaGreatDoorMMnClean
import Derived.Test.YtfdpnjebhllpkaaGreatDoorMMnIns
import Derived.Test.YtfdpnjebhllpkaaGreatDoorMDkMeth4
import Derived.Test.YtfdpnjebhllpkaaGreatDoorMMnCod
import Derived.Shelf.Lay
import Derived.Ground.NamesProg
import Derived.Shelf.Slices.Turned
import Derived.Test.YtfdpnjebhllpkaaGreatDoorMDkRa
section
namespace Go.Proofs.YtfdpnjebhllpkaaGreatDoor.Mn
open Go.RowKit Dk Ma Sg

theorem rename_op {B a mb : Nat} {d : D} {w0 w : World} {N U : Nat} (h : Sd B a mb d w0 w) (hG : Bd d N U) (hN : N ≤ 900) (s s2 : ByteArray) (hs : s.size ≤ 1000) (hs2 : s2.size ≤ 1000) :
    Calls Tryz.prog 98 #[.pointer (some ⟨a, 0, none⟩), .string s, .string s2] w (OpS B a mb (op d 5 s.data.toList s2.data.toList 0 []) w) := by
  obtain ⟨_, _, L, F, tv, hD⟩ := h
  exact (Rename_any w B a mb L F tv d hD (by have := hG.ops; omega) (by have := hG.tr; omega) (by have := hG.inv.most; omega) s (by omega) s2 (by omega)).mono fun _ _ h => OpS.of h

/-- "man.tmp" -/
def tmpS : ByteArray := ⟨#[109, 97, 110, 46, 116, 109, 112]⟩
theorem tmpS_list : tmpS.data.toList = tmp := rfl

/-- A step that goes on from a world w0. -/
def Does (B a mb : Nat) (w0 : World) (v : Value) (s : D → Int × D) : Prop :=
  ∃ f caps, v = .func (.func f) #[] caps ∧ (∀ args w, (callFunc f args).run Tryz.prog w = .ok (.enter f args) w) ∧
    (∀ w d N U, Sd B a mb d w0 w → Bd d N U → N ≤ 900 → U ≤ 900000 → Calls Tryz.prog f caps w (OpS B a mb (s d) w)) ∧ ∀ d N U, Bd d N U → Bd (s d).2 (N + 1) (U + 300)

section
variable {B a mb : Nat} {w0 : World} {pd pb pm : Nat}
theorem does1 (h : w0.heap[pd]? = some (.cells #[.pointer (some ⟨a, 0, none⟩)] 39)) : Does B a mb w0 (.func (.func 94) #[] #[.pointer (some ⟨pd, 0, none⟩)]) (fun d => op d 1 tmp [] 0 []) := by
  refine ⟨_, _, rfl, enters_of Tryz.func94 (by kernel_rfl) rfl, fun w d N U hS hG hN hU => ?_, fun d N U h => (h.op0 ..).mono (Nat.le_refl _) (by omega)⟩
  have k0 : w.cell? ⟨pd, 0, none⟩ = some (.pointer (some ⟨a, 0, none⟩)) := cell_blk (hS.2.1 _ _ _ _ h (by decide) (by decide)) rfl
  have hc := create_op hS hG hN tmpS (by decide)
  rw [tmpS_list] at hc
  have hc' := Lib.hid hc
  clear hc h
  go_enter Tryz.func94, Tryz.ntmps94
  go_wp2_with fail
  refine hc'.out.mono ?_
  rintro e w2 ⟨rfl, hst⟩
  have hst' := Lib.hid hst
  clear hst
  go_wp2_with fail
  go_ret
  exact ⟨rfl, hst'.out⟩
theorem does3 (h : w0.heap[pd]? = some (.cells #[.pointer (some ⟨a, 0, none⟩)] 39)) : Does B a mb w0 (.func (.func 96) #[] #[.pointer (some ⟨pd, 0, none⟩)]) (fun d => op d 4 tmp [] 0 []) := by
  refine ⟨_, _, rfl, enters_of Tryz.func96 (by kernel_rfl) rfl, fun w d N U hS hG hN hU => ?_, fun d N U h => (h.op0 ..).mono (Nat.le_refl _) (by omega)⟩
  have k0 : w.cell? ⟨pd, 0, none⟩ = some (.pointer (some ⟨a, 0, none⟩)) := cell_blk (hS.2.1 _ _ _ _ h (by decide) (by decide)) rfl
  have hc := sync_op hS hG hN tmpS (by decide)
  rw [tmpS_list] at hc
  have hc' := Lib.hid hc
  clear hc h
  go_enter Tryz.func96, Tryz.ntmps96
  go_wp2_with fail
  refine hc'.out.mono ?_
  rintro e w2 ⟨rfl, hst⟩
  have hst' := Lib.hid hst
  clear hst
  go_wp2_with fail
  go_ret
  exact ⟨rfl, hst'.out⟩
theorem does5 (h : w0.heap[pd]? = some (.cells #[.pointer (some ⟨a, 0, none⟩)] 39)) : Does B a mb w0 (.func (.func 101) #[] #[.pointer (some ⟨pd, 0, none⟩)]) (fun d => op d 6 tmp [] 0 []) := by
  refine ⟨_, _, rfl, enters_of Tryz.func101 (by kernel_rfl) rfl, fun w d N U hS hG hN hU => ?_, fun d N U h => (h.op0 ..).mono (Nat.le_refl _) (by omega)⟩
  have k0 : w.cell? ⟨pd, 0, none⟩ = some (.pointer (some ⟨a, 0, none⟩)) := cell_blk (hS.2.1 _ _ _ _ h (by decide) (by decide)) rfl
  have hc := delete_op hS hG hN tmpS (by decide)
  rw [tmpS_list] at hc
  have hc' := Lib.hid hc
  clear hc h
  go_enter Tryz.func101, Tryz.ntmps101
  go_wp2_with fail
  refine hc'.out.mono ?_
  rintro e w2 ⟨rfl, hst⟩
  have hst' := Lib.hid hst
  clear hst
  go_wp2_with fail
  go_ret
  exact ⟨rfl, hst'.out⟩
theorem does2 {b : List UInt8} {Ab : Option Addr} {cb : Nat} (hb : b.length ≤ 300) (h : w0.heap[pd]? = some (.cells #[.pointer (some ⟨a, 0, none⟩)] 39)) (hpb : w0.heap[pb]? = some (.cells #[.slice Ab b.length cb] 22)) (ho : OwB w0 B 5 (.slice Ab b.length cb) b) :
    Does B a mb w0 (.func (.func 95) #[] #[.pointer (some ⟨pd, 0, none⟩), .pointer (some ⟨pb, 0, none⟩)]) (fun d => op d 2 tmp [] 0 b) := by
  refine ⟨_, _, rfl, enters_of Tryz.func95 (by kernel_rfl) rfl, fun w d N U hS hG hN hU => ?_, fun d N U h => (h.op 2 tmp [] 0 b).mono (Nat.le_refl _) (by omega)⟩
  have k0 : w.cell? ⟨pd, 0, none⟩ = some (.pointer (some ⟨a, 0, none⟩)) := cell_blk (hS.2.1 _ _ _ _ h (by decide) (by decide)) rfl
  have k1 : w.cell? ⟨pb, 0, none⟩ = some (.slice Ab b.length cb) := cell_blk (hS.2.1 _ _ _ _ hpb (by decide) (by decide)) rfl
  have hbs := (hS.2.1.owb ho).bs
  obtain ⟨nb, hnb⟩ : ∃ nb, b.length = nb := ⟨_, rfl⟩
  rw [hnb] at hbs k1 hb
  have hc := append_op hS hG hN (by omega) tmpS (by decide) Ab nb cb b hbs (by omega)
  rw [tmpS_list] at hc
  have hc' := Lib.hid hc
  clear hc h hpb ho hbs hnb
  go_enter Tryz.func95, Tryz.ntmps95
  go_wp2_with fail
  refine hc'.out.mono ?_
  rintro e w2 ⟨rfl, hst⟩
  have hst' := Lib.hid hst
  clear hst
  go_wp2_with fail
  go_ret
  exact ⟨rfl, hst'.out⟩
theorem man_nm (g : Int) : ∃ s : ByteArray, strOf (nameOf man4 g) = s ∧ s.data.toList = nameOf man4 g ∧ s.size ≤ 1000 := by
  refine ⟨_, rfl, rfl, ?_⟩
  rw [strOf_size']
  unfold nameOf
  split
  · rw [List.length_append, Nu.eight_len]; decide
  · simp
set_option maxRecDepth 100000 in
theorem does4 {g la : Int} {As : Option Addr} {ns cs : Nat} (hT : ∀ w', Below B w0 w' → Te B w') (h : w0.heap[pd]? = some (.cells #[.pointer (some ⟨a, 0, none⟩)] 39)) (hm : Mb w0 pm g la As ns cs) :
    Does B a mb w0 (.func (.func 97) #[] #[.pointer (some ⟨pd, 0, none⟩), .pointer (some ⟨pm, 0, none⟩)]) (fun d => op d 5 tmp (nameOf man4 g) 0 []) := by
  refine ⟨_, _, rfl, enters_of Tryz.func97 (by kernel_rfl) rfl, fun w d N U hS hG hN hU => ?_, fun d N U h => (h.op0 ..).mono (Nat.le_refl _) (by omega)⟩
  have k0 : w.cell? ⟨pd, 0, none⟩ = some (.pointer (some ⟨a, 0, none⟩)) := cell_blk (hS.2.1 _ _ _ _ h (by decide) (by decide)) rfl
  obtain ⟨m0, m1, m2, _⟩ := (mb_fm hm hS.2.1).mf
  have hTe := hT w hS.1
  obtain ⟨s, hs1, hs2, hs3⟩ := man_nm g
  have hnm := manName_any g w.drew (hTe.tens.below (bD (Below.refl _ _)))
  rw [show strOf (nameOf [109, 97, 110, 46] g) = s from hs1] at hnm
  have hc := fun (w' : World) (hb : Below w.heap.size w w') => rename_op (Sd.bel (B := B) (a := a) (mb := mb) (d := d) ⟨Below.refl B w, Fm.refl w, hS.2.2⟩ hb) hG hN tmpS s (by decide) hs3
  rw [tmpS_list, hs2] at hc
  have hS0 : Sd B a mb d w w := ⟨Below.refl _ _, Fm.refl _, hS.2.2⟩
  have hc' := Lib.hid hc
  have hnm' := Lib.hid hnm
  have hS0' := Lib.hid hS0
  clear hc h hm hnm hTe hT hs1 hs2 hS0
  go_enter Tryz.func97, Tryz.ntmps97
  go_wp2_with fail
  refine Pl.wp_region_plan 4 (.take 0 (.take 1 (.take 2 (.run 3 .done)))) (fun x => x.cell? ⟨pd, 0, none⟩ = some (.pointer (some ⟨a, 0, none⟩)) ∧ x.cell? ⟨pm, 0, none⟩ = some (.int .i64 g)) (by kernel_rfl) (by kernel_rfl) (by exact ⟨k0, m0⟩) ?_
  simp only [Pl.fill, List.getElem?_cons_zero, List.getElem?_cons_succ, List.drop_succ_cons, List.drop_zero]
  iterate 3
    refine Pl.take_go ?_ (by rfl) (fun _ _ _ h => h) ?_ ?_
    rotate_left
    · (intro x hSw; (try dsimp only at hSw); go_simp; try with_reducible rfl)
    try simp only [Act.put, List.setIfInBounds_toArray, List.set_cons_zero, List.set_cons_succ]
  refine Pl.run_go (fun K hK => ?_)
  go_simp
  refine hnm'.out.mono ?_
  rintro e w4 ⟨rfl, hb4⟩
  have hx4 := Lib.hid ((bD (Below.refl w.heap.size w)).trans (hb4.mono (by simp)))
  clear hb4
  dsimp only
  have hk1 := (hx4.out.cell (p := ⟨pd, 0, none⟩) (World.block_lt_of_cell? w _ k0)).trans k0
  have hk2 := (hx4.out.cell (p := ⟨pm, 0, none⟩) (World.block_lt_of_cell? w _ m0)).trans m0
  refine hK.out _ _ (Pl.more_go _ (fun _ h => h) (by exact ⟨hk1, hk2⟩) ?_)
  clear hK K
  refine Pl.done_go ?_
  go_wp2_with fail
  refine (hc'.out w4 hx4.out).mono ?_
  rintro e w5 ⟨rfl, hst⟩
  have hst' := Lib.hid (Sd.then_ (Sd.bel hS0'.out hx4.out) hst)
  clear hst
  go_wp2_with fail
  go_ret
  exact ⟨rfl, hst'.out⟩
end
end Go.Proofs.YtfdpnjebhllpkaaGreatDoor.Mn
end

section
namespace Go.Proofs
open Go.Shelf Go.RowKit
shelf_lay Lays.n110 Nm 110 at Tryz as Tryz.laysCs
end Go.Proofs
namespace Go.Proofs.YtfdpnjebhllpkaaGreatDoor.Mn
open Go.RowKit Dk Ma Sg

/-- A row of functions, in a block of its own. -/
def Hv (w : World) (A : Option Addr) (n c : Nat) (vs : List Value) : Prop := Rd w A n c vs ∧ (0 < n → ∃ b cur, A = some ⟨b, 0, none⟩ ∧ w.heap[b]? = some (Obj.cells cur 142))
theorem Hv.fm {w w' : World} {A : Option Addr} {n c : Nat} {vs : List Value} (h : Hv w A n c vs) (hf : Fm w w') : Hv w' A n c vs := by
  obtain ⟨h1, h2⟩ := h
  have hk : ∀ (b : Nat) (cur : Array Value), w.heap[b]? = some (Obj.cells cur 142) → w'.heap[b]? = some (Obj.cells cur 142) := fun b cur e => hf b _ _ _ e (by decide) (by decide)
  refine ⟨⟨h1.len, h1.le, h1.max, h1.nil, fun h0 => ?_⟩, fun h0 => ?_⟩
  · obtain ⟨b, off, e, hb, hc⟩ := h1.cell h0
    obtain ⟨b2, cur, e2, h3⟩ := h2 h0
    rw [e] at e2
    injection e2 with e2
    injection e2 with e3 e4 _
    subst e3
    have h4 := hk _ _ h3
    refine ⟨b, off, e, (Array.getElem?_eq_some_iff.1 h4).1, fun j u hu => ?_⟩
    have := hc j u hu
    simp only [World.cell?, h3] at this
    simp only [World.cell?, h4]
    exact this
  · obtain ⟨b2, cur, e2, h3⟩ := h2 h0
    exact ⟨b2, cur, e2, hk _ _ h3⟩

theorem containsS_any (A : Option Addr) (n c : Nat) (zs : List ByteArray) (x : ByteArray) (w : World) (h : Rd w A n c (zs.map .string)) :
    Calls Tryz.prog 99 #[.slice A n c, .string x] w fun e w' => e = .returned (.bool (Lib.containsS zs x)) ∧ w' = w := by
  have hl : zs.length = n := by simpa using h.len
  have hle := h.le
  have hm := h.max
  rcases Nat.eq_zero_or_pos n with h0 | h0
  · subst h0
    obtain rfl : zs = [] := List.length_eq_zero_iff.1 hl
    refine (Any.slices_Contains_string_empty Tryz.laysCs A c x w).mono ?_
    rintro e w' ⟨rfl, rfl⟩
    refine ⟨?_, rfl⟩
    cases h9 : Lib.containsS [] x with
    | false => rfl
    | true => exact absurd ((Lib.containsS_iff [] x).1 h9) (by simp)
  · obtain ⟨b, off, rfl, _, hc⟩ := h.cell h0
    have := Any.slices_Contains_string Tryz.laysCs b off n c zs x w (by omega) (by omega) (by
      intro j hj
      rw [hc j (.string zs[j]) (by rw [List.getElem?_map, List.getElem?_eq_getElem hj]; rfl)]
      simp [List.getD, List.getElem?_eq_getElem hj])
    rw [List.take_of_length_le (by omega)] at this
    exact this

theorem tmp_there {fs : Fs} (hU : Up fs) : Lib.containsS (fs.map fun p => strOf p.1) tmpS = (get fs tmp).isSome := by
  rw [Bool.eq_iff_iff, Lib.containsS_iff, List.mem_map]
  constructor
  · rintro ⟨p, hp, e⟩
    have : p.1 = tmp := by rw [← tmpS_list, ← e]; rfl
    rw [← this, get_of_mem hU hp]
    rfl
  · intro h
    obtain ⟨f, hf⟩ := Option.isSome_iff_exists.1 h
    exact ⟨(tmp, f), get_mem hf, rfl⟩

/-- What Write does to a disk. -/
def writeM (d : D) (g la : Int) (ss : List Int) : Int × D := if mayM g la ss = true then write d (encM g la ss) (nameOf man4 g) else (80, d)
theorem encM_none {g la : Int} {ss : List Int} (h : mayM g la ss = false) : encM g la ss = [] := by unfold encM; rw [h]; rfl

set_option maxHeartbeats 4000000 in
set_option maxRecDepth 100000 in
theorem Write_any (w : World) (B a mb N U : Nat) (d : D) (h : Sc B a mb d w w) (hG : Bd d N U) (hN : N ≤ 800) (hU : U ≤ 800000) (hT : Te B w) (g la : Int) (A : Option Addr) (n c : Nat) (ss : List Int) (hI : Mg B w A n c ss) :
    Calls Tryz.prog 48 #[.pointer (some ⟨a, 0, none⟩), .agg #[.int .i64 g, .int .i64 la, .slice A n c]] w (ClP B a mb (writeM d g la ss) g w) := by
  have hle := Sc.le h
  obtain ⟨X, hX⟩ : ∃ X, writeM d g la ss = X := ⟨_, rfl⟩
  rw [hX]
  have hX' := Lib.hid hX
  clear hX
  have hba1 := below_alloc w (.cells #[.pointer (some ⟨a, 0, none⟩)] 39)
  have hnd := heap_alloc_new w (.cells #[.pointer (some ⟨a, 0, none⟩)] 39)
  have hba2 := below_alloc (w.alloc (.cells #[.pointer (some ⟨a, 0, none⟩)] 39)) (.cells #[.int .i64 g, .int .i64 la, .slice A n c] 75)
  have hmb := mb_new (w.alloc (.cells #[.pointer (some ⟨a, 0, none⟩)] 39)) g la A n c
  have hnd2 := (hba2.block w.heap.size (by simp)).trans hnd
  rw [World.size_alloc] at hmb
  obtain ⟨pd, hpd⟩ : ∃ pd, w.heap.size = pd := ⟨_, rfl⟩
  obtain ⟨wA, hwA⟩ : ∃ wA, (w.alloc (.cells #[.pointer (some ⟨a, 0, none⟩)] 39)).alloc (.cells #[.int .i64 g, .int .i64 la, .slice A n c] 75) = wA := ⟨_, rfl⟩
  have hsz : wA.heap.size = pd + 2 := by rw [← hwA, World.size_alloc, World.size_alloc, hpd]
  have hxA := Lib.hid (show Below pd w wA by rw [← hwA, ← hpd]; exact hba1.trans (hba2.mono (by simp)))
  rw [hwA] at hmb hnd2
  rw [hpd] at hmb hnd2
  have hS : Hid (Sd B a mb d w wA) := Lib.hid (Sd.bel (w1 := w) ⟨Below.refl _ _, Fm.refl _, h.2.2⟩ (by rw [hpd]; exact hxA.out))
  have hTA : Hid (∀ w', Below B wA w' → Te B w') := Lib.hid fun w' hb => hT.on ((hxA.out.mono (by omega)).trans hb)
  have hEnc := Lib.hid (manEncode_any g la A n c ss wA (hTA.out _ (Below.refl _ _)).tens (hI wA (hxA.out.mono (by omega))))
  have hmb' := Lib.hid hmb
  have hnd' := Lib.hid hnd2
  have hpd' := Lib.hid hpd
  have hBpd : B ≤ pd := by omega
  clear hba1 hnd hba2 hmb hnd2 h hT hI
  go_enter Tryz.func48, Tryz.ntmps48
  go_upto_region 1 with fail
  clear hwA hpd
  obtain ⟨m0, m1, m2, _⟩ := hmb'.out.mf
  go_wp2_with fail
  refine hEnc.out.mono ?_
  rintro e w1 ⟨A1, c1, rfl, ho1, hb1⟩
  clear hEnc m0 m1 m2
  go_upto_region 2 with fail
  obtain ⟨b, hb⟩ : ∃ b, encM g la ss = b := ⟨_, rfl⟩
  rw [hb] at ho1 ⊢
  have hb' := Lib.hid hb
  clear hb
  have hba3 := below_alloc w1 (.cells #[.slice A1 b.length c1] 22)
  have hnb := heap_alloc_new w1 (.cells #[.slice A1 b.length c1] 22)
  obtain ⟨pb, hpb⟩ : ∃ pb, w1.heap.size = pb := ⟨_, rfl⟩
  obtain ⟨wB, hwB⟩ : ∃ wB, w1.alloc (.cells #[.slice A1 b.length c1] 22) = wB := ⟨_, rfl⟩
  rw [hwB] at hba3 hnb ⊢
  rw [hpb] at hnb ⊢
  have hxB := Lib.hid (hb1.trans (hba3.mono hb1.size))
  have hmB := Lib.hid (hmb'.out.below hxB.out)
  have hdB := Lib.hid ((hxB.out.block pd (by omega)).trans hnd'.out)
  have hoB := Lib.hid (OwB.base (OwB.below ho1 hba3) (B' := B) (by have := hpd'.out; omega))
  have hnb' := Lib.hid hnb
  have hSB := Lib.hid (Sd.bel hS.out hxB.out)
  clear hwB hpb hba3 hnb hb1 ho1 hS hmb' hnd'
  cases hmy : mayM g la ss with
  | false =>
    have hb0 : b = [] := by rw [← hb'.out]; exact encM_none hmy
    subst hb0
    have hX2 := hX'.out
    unfold writeM at hX2
    rw [hmy, if_neg (by simp)] at hX2
    subst hX2
    have kb : wB.cell? ⟨pb, 0, none⟩ = some (.slice A1 0 c1) := cell_blk hnb'.out rfl
    obtain ⟨m0, m1, m2, _⟩ := hmB.out.mf
    clear hmy
    rw [List.length_nil]
    go_wp2_with fail
    refine (mfail_any 80 g (by decide) wB).mono ?_
    rintro e w4 ⟨v, rfl, hb4, hf4⟩
    have hS4 := Lib.hid (Sd.bel hSB.out hb4)
    have hf4' := Lib.hid hf4
    clear hb4 hf4
    go_wp2_with fail
    go_ret
    exact ⟨hS4.out, _, rfl, .inr ⟨(show (80 : Int) ≠ 0 by decide), hf4'.out⟩⟩
  | true =>
    have hX2 := hX'.out
    unfold writeM at hX2
    rw [hmy, if_pos rfl, hb'.out] at hX2
    have hl := (encM_len hmy).1
    have hl64 := (may_facts hmy).2.2.2.2.1
    rw [hb'.out] at hl
    unfold write at hX2
    have hX3 := Lib.hid hX2
    have kb : wB.cell? ⟨pb, 0, none⟩ = some (.slice A1 b.length c1) := cell_blk hnb'.out rfl
    obtain ⟨nb, hnbl⟩ : ∃ nb, b.length = nb := ⟨_, rfl⟩
    have i1 : ((nb : Int) == 0) = false := by rw [beq_eq_false_iff_ne]; omega
    have i2 : (nb == 0) = false := by rw [beq_eq_false_iff_ne]; omega
    rw [hnbl] at kb ⊢
    have hbl : b.length ≤ 300 := by omega
    clear hX' hX2 hmy hl
    have hbaS := below_alloc wB (.cells #[.func (.func 94) #[] #[.pointer (some ⟨pd, 0, none⟩)], .func (.func 95) #[] #[.pointer (some ⟨pd, 0, none⟩), .pointer (some ⟨pb, 0, none⟩)], .func (.func 96) #[] #[.pointer (some ⟨pd, 0, none⟩)], .func (.func 97) #[] #[.pointer (some ⟨pd, 0, none⟩), .pointer (some ⟨pd + 1, 0, none⟩)]] 142)
    have hnS := heap_alloc_new wB (.cells #[.func (.func 94) #[] #[.pointer (some ⟨pd, 0, none⟩)], .func (.func 95) #[] #[.pointer (some ⟨pd, 0, none⟩), .pointer (some ⟨pb, 0, none⟩)], .func (.func 96) #[] #[.pointer (some ⟨pd, 0, none⟩)], .func (.func 97) #[] #[.pointer (some ⟨pd, 0, none⟩), .pointer (some ⟨pd + 1, 0, none⟩)]] 142)
    obtain ⟨wS, hwS⟩ : ∃ wS, wB.alloc (.cells #[.func (.func 94) #[] #[.pointer (some ⟨pd, 0, none⟩)], .func (.func 95) #[] #[.pointer (some ⟨pd, 0, none⟩), .pointer (some ⟨pb, 0, none⟩)], .func (.func 96) #[] #[.pointer (some ⟨pd, 0, none⟩)], .func (.func 97) #[] #[.pointer (some ⟨pd, 0, none⟩), .pointer (some ⟨pd + 1, 0, none⟩)]] 142) = wS := ⟨_, rfl⟩
    obtain ⟨ps, hps⟩ : ∃ ps, wB.heap.size = ps := ⟨_, rfl⟩
    rw [hwS] at hbaS hnS
    rw [hps] at hnS
    have hSS := Lib.hid (Sd.bel hSB.out hbaS)
    have hS0 : Hid (Sd B a mb d wS wS) := Lib.hid ⟨Below.refl _ _, Fm.refl _, hSS.out.2.2⟩
    have hdS := (hbaS.block pd (Array.getElem?_eq_some_iff.1 hdB.out).1).trans hdB.out
    have hbS := (hbaS.block pb (Array.getElem?_eq_some_iff.1 hnb'.out).1).trans hnb'.out
    have hmS := Lib.hid (hmB.out.below hbaS)
    have hoS := OwB.below hoB.out hbaS
    have hBB : B ≤ wB.heap.size := Sd.le hSB.out
    have hTS : ∀ w', Below B wS w' → Te B w' := fun w' hb => hTA.out w' (((hxB.out.trans (hbaS.mono hxB.out.size)).mono (by omega)).trans hb)
    have D1 := does1 (B := B) (mb := mb) hdS
    have D2 := does2 (B := B) (mb := mb) hbl hdS hbS hoS
    have D3 := does3 (B := B) (mb := mb) hdS
    have D4 := does4 (B := B) (mb := mb) hTS hdS hmS.out
    have D5 := Lib.hid (does5 (B := B) (mb := mb) hdS)
    have hD : Hid (∀ (i : Nat) v s, [Value.func (.func 94) #[] #[.pointer (some ⟨pd, 0, none⟩)], .func (.func 95) #[] #[.pointer (some ⟨pd, 0, none⟩), .pointer (some ⟨pb, 0, none⟩)], .func (.func 96) #[] #[.pointer (some ⟨pd, 0, none⟩)], .func (.func 97) #[] #[.pointer (some ⟨pd, 0, none⟩), .pointer (some ⟨pd + 1, 0, none⟩)]][i]? = some v → (wOps b (nameOf man4 g))[i]? = some s → Does B a mb wS v s) := Lib.hid (by
      intro i v s hv hs
      unfold wOps at hs
      match i with
      | 0 => simp at hv hs; subst hv; subst hs; exact D1
      | 1 => simp at hv hs; subst hv; subst hs; exact D2
      | 2 => simp at hv hs; subst hv; subst hs; exact D3
      | 3 => simp at hv hs; subst hv; subst hs; exact D4
      | i + 4 => simp at hv)
    have hdS' := Lib.hid hdS
    have hnS' := Lib.hid hnS
    clear hbaS hdS hbS hoS D1 D2 D3 D4 hnS hTS
    go_upto_region 5 with fail
    clear hwS hps kb i1 i2
    have kd : wS.cell? ⟨pd, 0, none⟩ = some (.pointer (some ⟨a, 0, none⟩)) := cell_blk hdS'.out rfl
    go_wp2_with fail
    refine (names_op hS0.out.2.2 hG).mono ?_
    rintro e w5 ⟨A5, c5, rfl, hb5, ho5⟩
    have hr5 := Lib.hid (rd_of_own ho5)
    have hS5 := Lib.hid (Sd.bel hS0.out hb5)
    have hn5 := Lib.hid (show w5.heap[ps]? = _ from (hb5.block ps (Array.getElem?_eq_some_iff.1 hnS'.out).1).trans hnS'.out)
    clear hb5 ho5 kd
    go_wp2_with fail
    refine (containsS_any A5 d.fs.length c5 _ tmpS w5 hr5.out).mono ?_
    rintro e w5' ⟨rfl, rfl⟩
    rw [tmp_there hG.inv.up]
    obtain ⟨cnd, hcnd⟩ : ∃ cnd, (get d.fs tmp).isSome = cnd := ⟨_, rfl⟩
    rw [hcnd] at hX3 ⊢
    clear hcnd hr5
    obtain ⟨F4, hF4⟩ : ∃ F4 : List Value, F4 = [.func (.func 94) #[] #[.pointer (some ⟨pd, 0, none⟩)], .func (.func 95) #[] #[.pointer (some ⟨pd, 0, none⟩), .pointer (some ⟨pb, 0, none⟩)], .func (.func 96) #[] #[.pointer (some ⟨pd, 0, none⟩)], .func (.func 97) #[] #[.pointer (some ⟨pd, 0, none⟩), .pointer (some ⟨pd + 1, 0, none⟩)]] := ⟨_, rfl⟩
    have hF4l : F4.length = 4 := by rw [hF4]; rfl
    have hF4o : ∀ u ∈ F4, u.oneCell' = true := by
      rw [hF4]
      intro u hu
      simp only [List.mem_cons, List.not_mem_nil, or_false] at hu
      rcases hu with rfl | rfl | rfl | rfl <;> rfl
    have hc5 : Hid (∀ (j : Nat) u, F4[j]? = some u → w5'.cell? ⟨ps, j, none⟩ = some u) := Lib.hid (by
      rw [hF4]
      intro j u hj
      have h6 := hn5.out
      simp only [World.cell?, h6]
      simpa using hj)
    rw [← hF4] at hD
    have hF4' := Lib.hid hF4
    have hF4o' := Lib.hid hF4o
    clear hF4 hF4o
    go_upto_if 25 with fail
    go_cut [6] (fun v wx => ∃ (A6 : Option Addr) (n6 c6 : Nat) (vs : List Value), v = .slice A6 n6 c6 ∧ n6 ≤ 5 ∧ Hid (Hv wx A6 n6 c6 vs) ∧ Hid (Sd B a mb d wS wx) ∧ Hid (vs.length = (dOps cnd ++ wOps b (nameOf man4 g)).length) ∧ Hid (∀ (i : Nat) v s, vs[i]? = some v → (dOps cnd ++ wOps b (nameOf man4 g))[i]? = some s → Does B a mb wS v s))
    case first =>
      cases cnd with
      | false =>
        go_wp2_with fail
        go_meet
        refine ⟨some ⟨ps, 0, none⟩, 4, 4, F4, rfl, by omega, Lib.hid ⟨⟨hF4l, by omega, by omega, fun h => (by cases h), fun _ => ⟨ps, 0, rfl, (Array.getElem?_eq_some_iff.1 hn5.out).1, fun j u hj => by rw [Nat.zero_add]; exact hc5.out j u hj⟩⟩, fun _ => ⟨ps, _, rfl, hn5.out⟩⟩, hS5, Lib.hid hF4l, hD⟩
      | true =>
        have hba6 := below_alloc w5' (.cells #[.func (.func 101) #[] #[.pointer (some ⟨pd, 0, none⟩)]] 142)
        have hn6 := heap_alloc_new w5' (.cells #[.func (.func 101) #[] #[.pointer (some ⟨pd, 0, none⟩)]] 142)
        obtain ⟨w6, hw6⟩ : ∃ w6, w5'.alloc (.cells #[.func (.func 101) #[] #[.pointer (some ⟨pd, 0, none⟩)]] 142) = w6 := ⟨_, rfl⟩
        rw [hw6] at hba6 hn6
        have hlt5 := (Array.getElem?_eq_some_iff.1 hn5.out).1
        have hins := insert_any ps w5'.heap.size F4 (.func (.func 101) #[] #[.pointer (some ⟨pd, 0, none⟩)]) hF4l w6 (fun j u hj => (hba6.cell (p := ⟨ps, j, none⟩) hlt5).trans (hc5.out j u hj)) (cell_blk hn6 rfl) hF4o'.out rfl
        have hS6 := Lib.hid (Sd.bel hS5.out hba6)
        have hins' := Lib.hid hins
        clear hba6 hn6 hins hlt5
        go_wp2_with fail
        clear hw6
        refine hins'.out.mono ?_
        rintro e w7 ⟨c7, rfl, hc51, hc52, hb7, hcur7, hcs7⟩
        have hS7 := Lib.hid (Sd.bel hS6.out hb7)
        have hcur7' := Lib.hid hcur7
        have hcs7' := Lib.hid hcs7
        clear hb7 hcur7 hcs7 hins'
        go_wp2_with fail
        go_meet
        refine ⟨some ⟨w6.heap.size, 0, none⟩, 5, c7, (.func (.func 101) #[] #[.pointer (some ⟨pd, 0, none⟩)]) :: F4, rfl, by omega, Lib.hid ⟨⟨by rw [List.length_cons, hF4l], hc51, hc52, fun h => (by cases h), fun _ => ⟨w6.heap.size, 0, rfl, ?_, fun j u hj => by rw [Nat.zero_add]; exact hcs7'.out j u hj⟩⟩, fun _ => by obtain ⟨cur, h8⟩ := hcur7'.out; exact ⟨w6.heap.size, cur, rfl, h8⟩⟩, hS7, Lib.hid (by rw [List.length_cons, hF4l]; rfl), Lib.hid fun i v s hv hs => ?_⟩
        · obtain ⟨cur, h8⟩ := hcur7'.out
          exact (Array.getElem?_eq_some_iff.1 h8).1
        · cases i with
          | zero =>
            simp at hv
            subst hv
            have hs' : some (fun d => op d 6 tmp [] 0 []) = some s := hs
            injection hs' with hs'
            subst hs'
            exact D5.out
          | succ i => exact hD.out i v s hv hs
    case rest =>
    obtain ⟨A6, n6, c6, vs, rfl, hn65, hv6, hS6, hvl, hD6⟩ := hcut
    obtain ⟨ops, hops⟩ : ∃ ops, dOps cnd ++ wOps b (nameOf man4 g) = ops := ⟨_, rfl⟩
    rw [hops] at hX3 hvl hD6
    have hle6 := hv6.out.1.le
    have hmx6 := hv6.out.1.max
    have hvn : Hid (vs.length = n6) := Lib.hid hv6.out.1.len
    clear hops hc5 hn5 hS5 hD D5 hF4' hF4o' hF4l
    go_wp2_with fail
    go_loopw [32] (fun iv wr => ∃ (k : Nat) (d' : D), k ≤ n6 ∧ iv = .int .i64 k ∧ Hid (runW (ops.drop k) d' = X) ∧ Hid (Bd d' (N + k) (U + 300 * k)) ∧ Hid (Sd B a mb d' wS wr) ∧ Hid (Hv wr A6 n6 c6 vs)) (fun iv _ => n6 - (intOf iv).toNat)
    case atStart => exact ⟨0, d, by omega, rfl, hX3, Lib.hid (hG.mono (by omega) (by omega)), hS6, hv6⟩
    case round =>
      obtain ⟨k, d', hk, rfl, hrun, hBd, hSr, hvr⟩ := hrel
      by_cases hlt : k < n6
      · have i1 : decide ((k : Int) < (n6 : Int)) = true := by rw [decide_eq_true_eq]; omega
        have i2 : decide (k < n6) = true := by rw [decide_eq_true_eq]; omega
        have i3 : (k : Int) < (n6 : Int) := by omega
        obtain ⟨b6, off6, u, rfl, hb6, hu, hc⟩ := Rd.at_ hvr.out.1 hlt
        obtain ⟨s, hs⟩ : ∃ s, ops[k]? = some s := ⟨_, List.getElem?_eq_getElem (by have := hvl.out; have := hvn.out; omega)⟩
        obtain ⟨f, caps, rfl, eg, hdo, hgr⟩ := hD6.out k u s hu hs
        have hdr : ops.drop k = s :: ops.drop (k + 1) := by
          obtain ⟨h1, h2⟩ := List.getElem?_eq_some_iff.1 hs
          rw [List.drop_eq_getElem_cons h1, h2]
        have hr2 := hrun.out
        rw [hdr, runW] at hr2
        have hop := hdo wr d' (N + k) (U + 300 * k) hSr.out hBd.out (by omega) (by omega)
        have hB2 := hgr d' _ _ hBd.out
        obtain ⟨Y, hY⟩ : ∃ Y, s d' = Y := ⟨_, rfl⟩
        rw [hY] at hr2 hop hB2
        obtain ⟨q1, d1⟩ := Y
        simp only at hr2 hop hB2
        have hop' := Lib.hid hop
        have hB2' := Lib.hid hB2
        have hr2' := Lib.hid hr2
        clear hop hB2 hr2 hY hdr hs hdo hgr hu hb6
        go_wp2_with fail
        refine hop'.out.mono ?_
        rintro e w8 ⟨rfl, hst⟩
        have hS8 := Lib.hid (Sd.then_ hSr.out hst)
        have hv8 := Lib.hid (hvr.out.fm hst.2.1)
        clear hst hop' hvr
        by_cases h0 : q1 = 0
        · subst h0
          have hr3 := hr2'.out
          rw [if_neg (by simp)] at hr3
          have hr3' := Lib.hid hr3
          clear hr3 hr2'
          go_wp2_with fail
          go_roundw
          case rel => exact ⟨k + 1, d1, by omega, by go_num, hr3', Lib.hid (hB2'.out.mono (by omega) (by omega)), hS8, hv8⟩
          case measure => simp [intOf]; omega
        · have hr3 := hr2'.out
          rw [if_pos h0] at hr3
          subst hr3
          have hne : (q1 != 0) = true := by simpa using h0
          obtain ⟨m0, m1, m2, _⟩ := (mb_fm hmS.out hS8.out.2.1).mf
          go_wp2_with fail
          refine (mfail_any q1 g h0 w8).mono ?_
          rintro e w9 ⟨v, rfl, hb9, hf9⟩
          have hS9 := Lib.hid (Sd.then_ hSS.out (Sd.bel hS8.out hb9))
          have hf9' := Lib.hid hf9
          clear hb9 hf9
          go_wp2_with fail
          go_ret
          exact ⟨hS9.out, _, rfl, .inr ⟨h0, hf9'.out⟩⟩
      · have i1 : decide ((k : Int) < (n6 : Int)) = false := by rw [decide_eq_false_iff_not]; omega
        have i2 : decide (k < n6) = false := by rw [decide_eq_false_iff_not]; omega
        have hend := hrun.out
        rw [List.drop_of_length_le (by have := hvl.out; have := hvn.out; omega), runW] at hend
        subst hend
        have hSe := Lib.hid (Sd.then_ hSS.out hSr.out)
        go_wp2_with fail
        go_ret
        exact ⟨hSe.out, _, rfl, .inl ⟨rfl, rfl⟩⟩
end Go.Proofs.YtfdpnjebhllpkaaGreatDoor.Mn
end

section
namespace Go.Proofs.YtfdpnjebhllpkaaGreatDoor.Dk
open Go.RowKit

theorem before_app : ∀ (c x y : Name), bytesBefore (c ++ x) (c ++ y) = bytesBefore x y
  | [], _, _ => rfl
  | a :: c, x, y => by
    show bytesBefore (a :: (c ++ x)) (a :: (c ++ y)) = _
    simp only [bytesBefore]
    rw [before_app c x y]
    simp
theorem before_at {a b : Name} {k : Nat} (h : a.take k = b.take k) : bytesBefore a b = bytesBefore (a.drop k) (b.drop k) := by
  conv => lhs; rw [← List.take_append_drop k a, ← List.take_append_drop k b, h]
  exact before_app _ _ _
theorem before_ne_ {x y : UInt8} {a b : Name} (h : x ≠ y) : bytesBefore (x :: a) (y :: b) = decide (x.toNat < y.toNat) := by
  simp only [bytesBefore]
  have : (x == y) = false := by simpa using h
  rw [this, Bool.false_and, Bool.or_false]
  rw [Bool.eq_iff_iff]
  simp [UInt8.lt_iff_toNat_lt]

set_option maxHeartbeats 1000000 in
set_option maxRecDepth 100000 in
theorem Less_any (a b : ByteArray) (ha : a.size ≤ 1000000) (hb : b.size ≤ 1000000) (w : World) :
    Calls Tryz.prog 163 #[.string a, .string b] w fun e w' => e = .returned (.bool (bytesBefore a.data.toList b.data.toList)) ∧ ∃ k, w' = w.drewN k := by
  have hal : Hid (a.data.toList.length = a.size) := Lib.hid (Array.length_toList ..)
  have hbl : Hid (b.data.toList.length = b.size) := Lib.hid (Array.length_toList ..)
  obtain ⟨X, hX⟩ : ∃ X, bytesBefore a.data.toList b.data.toList = X := ⟨_, rfl⟩
  rw [hX]
  have hX' := Lib.hid hX
  clear hX
  go_enter Tryz.func163, Tryz.ntmps163
  go_wp2_with fail
  go_loopw [5] (fun i wr => ∃ k m : Nat, k ≤ a.size ∧ k ≤ b.size ∧ i = .int .i64 k ∧ wr = w.drewN m ∧ Hid (a.data.toList.take k = b.data.toList.take k)) (fun i _ => a.size - (intOf i).toNat)
  case atStart => exact ⟨0, 0, by omega, by omega, rfl, rfl, Lib.hid rfl⟩
  case round =>
    obtain ⟨k, m, hka, hkb, rfl, rfl, hpre⟩ := hrel
    by_cases hla : k < a.size
    · by_cases hlb : k < b.size
      · have i0 : decide ((k : Int) < (b.size : Int)) = true := by rw [decide_eq_true_eq]; omega
        have i1 : decide (k < b.size) = true := by rw [decide_eq_true_eq]; omega
        have i2 : (k : Int) < (a.size : Int) := by omega
        have i3 : (k : Int) < (b.size : Int) := by omega
        obtain ⟨x, hx⟩ : ∃ x : UInt8, a[k] = x := ⟨_, rfl⟩
        obtain ⟨y, hy⟩ : ∃ y : UInt8, b[k] = y := ⟨_, rfl⟩
        have hga : Hid (a.data.toList[k]? = some x) := Lib.hid (by rw [List.getElem?_eq_getElem (by rw [hal.out]; exact hla), ← hx]; rfl)
        have hgb : Hid (b.data.toList[k]? = some y) := Lib.hid (by rw [List.getElem?_eq_getElem (by rw [hbl.out]; exact hlb), ← hy]; rfl)
        by_cases hxy : x = y
        · have hne : ((x.toNat : Int) != (y.toNat : Int)) = false := by rw [hxy]; simp
          have hxy' := Lib.hid hxy
          clear hxy
          go_wp2_with fail
          go_quiet (fail)
          go_wp2_with fail
          go_roundw
          case rel => exact ⟨k + 1, _, by omega, by omega, by go_num, rfl, Lib.hid (by rw [take_snoc hga.out, take_snoc hgb.out, hpre.out, hxy'.out])⟩
          case measure => simp [intOf]; omega
        · have hne : ((x.toNat : Int) != (y.toNat : Int)) = true := by
            rw [bne_iff_ne]
            intro h
            exact hxy (UInt8.toNat_inj.1 (by omega))
          have hv : Hid (X = decide (x.toNat < y.toNat)) := Lib.hid (by
            rw [← hX'.out, before_at hpre.out, List.drop_eq_getElem_cons (l := a.data.toList) (i := k) (by rw [hal.out]; exact hla), List.drop_eq_getElem_cons (l := b.data.toList) (i := k) (by rw [hbl.out]; exact hlb)]
            have e1 := hga.out
            have e2 := hgb.out
            rw [List.getElem?_eq_getElem (by rw [hal.out]; exact hla)] at e1
            rw [List.getElem?_eq_getElem (by rw [hbl.out]; exact hlb)] at e2
            injection e1 with e1
            injection e2 with e2
            rw [e1, e2]
            exact before_ne_ hxy)
          clear hxy
          go_wp2_with fail
          go_quiet (fail)
          go_wp2_with fail
          go_quiet (fail)
          go_wp2_with fail
          go_ret
          refine ⟨ret_bool ?_, _, (World.drewN_drewN _ _ _).trans (World.drewN_drewN _ _ _)⟩
          rw [hv.out]
      · have i0 : decide ((k : Int) < (b.size : Int)) = false := by rw [decide_eq_false_iff_not]; omega
        have i1 : decide (k < b.size) = false := by rw [decide_eq_false_iff_not]; omega
        have i2 : decide (a.size < b.size) = false := by rw [decide_eq_false_iff_not]; omega
        have hv : Hid (X = false) := Lib.hid (by
          rw [← hX'.out, before_at hpre.out, @List.drop_eq_nil_of_le _ b.data.toList k (by rw [hbl.out]; omega)]
          cases a.data.toList.drop k <;> rfl)
        go_wp2_with fail
        go_ret
        exact ⟨ret_bool (by rw [hv.out]), _, rfl⟩
    · have hv : Hid (X = decide (a.size < b.size)) := Lib.hid (by
        rw [← hX'.out, before_at hpre.out, @List.drop_eq_nil_of_le _ a.data.toList k (by rw [hal.out]; omega)]
        have hl : (b.data.toList.drop k).length = b.size - k := by rw [List.length_drop, hbl.out]
        cases hd : b.data.toList.drop k with
        | nil => rw [hd] at hl; simp at hl; show false = _; symm; rw [decide_eq_false_iff_not]; omega
        | cons c r => rw [hd] at hl; simp at hl; show true = _; symm; rw [decide_eq_true_eq]; omega)
      go_wp2_with fail
      go_ret
      refine ⟨ret_bool ?_, _, rfl⟩
      rw [hv.out]

set_option maxHeartbeats 1000000 in
set_option maxRecDepth 100000 in
theorem rUsed_any (w : World) (B rb : Nat) (lv tv : Value) (d : D) (h : Ra w B rb lv tv d) (hu : used d.fs ≤ 1000000000) :
    Calls Tryz.prog 107 #[.pointer (some ⟨rb, 0, none⟩)] w fun e w' => e = .returned (.int .i64 (used d.fs : Nat)) ∧ w = w' := by
  have k1 : w.cell? ⟨rb, 1, none⟩ = some lv := cell_blk h.blk rfl
  obtain ⟨A, c, rfl, hq⟩ := h.sq
  obtain ⟨X, hX⟩ : ∃ X, used d.fs = X := ⟨_, rfl⟩
  obtain ⟨n, hn⟩ : ∃ n, d.fs.length = n := ⟨_, rfl⟩
  rw [hn] at hq k1
  rw [hX] at hu ⊢
  have hle := hq.le
  have hmx := hq.max
  have hq' := Lib.hid hq
  have hX' := Lib.hid hX
  have hn' := Lib.hid hn
  clear h hq hX hn
  go_enter Tryz.func107, Tryz.ntmps107
  go_wp2_with fail
  go_loop [3, 4] (fun s i => ∃ k m : Nat, k ≤ n ∧ i = .int .i64 k ∧ s = .int .i64 m ∧ m ≤ X ∧ Hid (m + used (d.fs.drop k) = X)) (fun _ i => n - (intOf i).toNat)
  case atStart => exact ⟨0, 0, by omega, rfl, rfl, by omega, Lib.hid (by rw [List.drop_zero, Nat.zero_add]; exact hX'.out)⟩
  case round =>
    obtain ⟨k, m, hk, rfl, rfl, hmX, hsum⟩ := hrel
    by_cases hlt : k < n
    · obtain ⟨b, off, f, vs, rfl, hb, hf, hvs, hel, hcs⟩ := hq'.out.at_ hlt
      obtain ⟨sk, dv, rfl, _, hdv⟩ := hel
      obtain ⟨A0, c0, rfl, _⟩ := OwB.slice hdv
      have m1 : w.cell? ⟨b, off + k * 3 + 1, none⟩ = some (.slice A0 f.data.length c0) := hcs 1 _ rfl
      rw [List.getElem?_map, Option.map_eq_some_iff] at hf
      obtain ⟨p, hp, hpf⟩ := hf
      have hst : m + f.data.length + used (d.fs.drop (k + 1)) = X := by
        have h1 := hsum.out
        have hk2 : k < d.fs.length := by have := hn'.out; omega
        rw [List.drop_eq_getElem_cons hk2, used_cons] at h1
        rw [List.getElem?_eq_getElem hk2] at hp
        injection hp with hp
        rw [hp] at h1
        have : f.data = p.2.data := by rw [← hpf]; rfl
        rw [this]
        omega
      obtain ⟨nf, hnf⟩ : ∃ nf, f.data.length = nf := ⟨_, rfl⟩
      rw [hnf] at m1 hst
      have hmx2 : m + nf ≤ X := by omega
      have hst' := Lib.hid hst
      have i0 : (k : Int) < (n : Int) := by omega
      clear hcs hvs hp hpf hdv hnf hst
      go_wp2_with fail
      go_round
      case rel => exact ⟨k + 1, m + nf, by omega, by go_num, by go_num, hmx2, hst'⟩
      case measure => simp [intOf]; omega
    · go_wp2_with fail
      go_ret
      exact ⟨ret_int (by have := hsum.out; rw [List.drop_eq_nil_of_le (by have := hn'.out; omega)] at this; simp [used] at this; omega), rfl⟩

set_option maxHeartbeats 1000000 in
set_option maxRecDepth 100000 in
theorem rRead_any (w : World) (B rb : Nat) (lv tv : Value) (d : D) (h : Ra w B rb lv tv d) (s : ByteArray) (hz : ∀ p ∈ d.fs, p.2.data.length ≤ 1000000) :
    Calls Tryz.prog 84 #[.pointer (some ⟨rb, 0, none⟩), .string s] w (ReadP B d s.data.toList w) := by
  have hat := rAt_any w B rb lv tv d h s
  have k1 : w.cell? ⟨rb, 1, none⟩ = some lv := cell_blk h.blk rfl
  obtain ⟨A, c, rfl, hq⟩ := h.sq
  have hle := hq.le
  have hmx := hq.max
  have hq' := Lib.hid hq
  rcases atI_get (fs := d.fs) (nm := s.data.toList) with ⟨e1, e2⟩ | ⟨i, f, e1, e2, e3⟩
  · rw [e1] at hat
    have hP : Hid (ReadP B d s.data.toList w (.returned (.tuple #[.slice none 0 0, .int .i64 42])) w) := Lib.hid ⟨Below.refl _ _, _, [], by rw [e2]; rfl, OwB.nil _ _ _, by rw [e2]; rfl⟩
    clear h hq e1 e2
    go_enter Tryz.func84, Tryz.ntmps84
    go_wp2_with fail
    refine hat.mono ?_
    rintro e w2 ⟨rfl, rfl⟩
    go_wp2_with fail
    go_ret2
    exact hP.out
  · rw [e1] at hat
    have hil : i < d.fs.length := (List.getElem?_eq_some_iff.1 e2).1
    obtain ⟨n, hn⟩ : ∃ n, d.fs.length = n := ⟨_, rfl⟩
    rw [hn] at hil hq' k1 hle
    obtain ⟨b, off, g, vs, rfl, hb, hf, hvs, hel, hcs⟩ := hq'.out.at_ hil
    obtain ⟨sk, dv, rfl, _, hdv⟩ := hel
    obtain ⟨A0, c0, rfl, hbs⟩ := OwB.slice hdv
    have hg : g.data = f.data := by
      rw [List.getElem?_map, e2] at hf
      simp at hf
      rw [← hf]
      rfl
    rw [hg] at hcs hbs
    have m1 : w.cell? ⟨b, off + i * 3 + 1, none⟩ = some (.slice A0 f.data.length c0) := hcs 1 _ rfl
    have hlen := hz _ (List.mem_of_getElem? e2)
    have e3' := Lib.hid e3
    have hbs' := Lib.hid hbs
    obtain ⟨N, hN⟩ : ∃ N, f.data.length = N := ⟨_, rfl⟩
    rw [hN] at m1
    have hN' := Lib.hid hN
    have i0 : (i : Int) < (n : Int) := by omega
    have i1 : (0 : Int) ≤ (i : Int) := by omega
    have i2 : decide ((i : Int) < 0) = false := by rw [decide_eq_false_iff_not]; omega
    have k1a := ((below_alloc w (.cells #[] 5)).cell (p := ⟨rb, 1, none⟩) h.lt).trans k1
    have m1a := ((below_alloc w (.cells #[] 5)).cell (p := ⟨b, off + i * 3 + 1, none⟩) hb).trans m1
    simp only at hlen
    rw [hN] at hlen
    clear h hq e1 e2 e3 hcs hvs hf hdv hbs hg hN hn
    go_enter Tryz.func84, Tryz.ntmps84
    go_wp2_with fail
    refine hat.mono ?_
    rintro e w2 ⟨rfl, rfl⟩
    go_wp2_with (at_builtin; apply stop_here)
    have hbs2 := Lib.hid (hbs'.out.below (below_alloc w (.cells #[] 5)))
    rw [hN'.out] at hbs2
    refine Stop.go (append_bytes _ 22 5 Tryz.underlying22 (by kernel_rfl) rfl _ _ rfl w.heap.size _ [] rfl ?h1 A0 N c0 f.data rfl hbs2.out N ?h3 ?h4 ?h5 ?_)
    case h1 => exact ⟨by simp, .inr ⟨_, _, #[], rfl, Nat.le_refl _, heap_alloc_new w _, Nat.le_refl _, by decide, by simp, by simp⟩⟩
    case h3 => simp
    case h4 => omega
    case h5 => simp
    intro A2 c2 w3 ho hg3 hb3
    have ho' := Lib.hid ho
    have hb' := Lib.hid ((below_alloc w (.cells #[] 5)).trans hb3)
    clear ho hg3 hb3
    go_wp2_with fail
    go_ret2
    exact ⟨hb'.out, _, f.data, by rw [e3'.out]; rfl, by have := ho'.out; rw [List.nil_append] at this; exact this, by rw [e3'.out]; rfl⟩
end Go.Proofs.YtfdpnjebhllpkaaGreatDoor.Dk
end
