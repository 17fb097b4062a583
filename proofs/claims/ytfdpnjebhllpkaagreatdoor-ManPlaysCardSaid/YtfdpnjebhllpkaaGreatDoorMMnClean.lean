/- man.Clean. -/
import Derived.Test.YtfdpnjebhllpkaaGreatDoorMSgOpen
import Derived.Test.YtfdpnjebhllpkaaGreatDoorMPlan2
import Derived.Test.YtfdpnjebhllpkaaGreatDoorMMnDel
import Derived.Test.YtfdpnjebhllpkaaGreatDoorMMnLive
import Derived.Test.YtfdpnjebhllpkaaGreatDoorMDkNew
import Derived.Test.YtfdpnjebhllpkaaGreatDoorMMnCod
section
namespace Go.Proofs.YtfdpnjebhllpkaaGreatDoor.Sg
open Go.RowKit Ma Dk

/-- The disk is now so; nothing else of the caller's but segments has turned. -/
def Sc (B a mb : Nat) (d : D) (w w' : World) : Prop := Below B w w' ∧ Kc w w' ∧ ∃ L F tv, Da w' B a mb L F tv d
section
variable {B a mb : Nat} {d d1 d2 : D} {w w1 w2 : World}
theorem Sc.of (h : Sd B a mb d w w1) : Sc B a mb d w w1 := ⟨h.1, Kc.fm h.2.1, h.2.2⟩
theorem Sc.sd (h : Sc B a mb d w w1) : Sd B a mb d w1 w1 := ⟨Below.refl _ _, Fm.refl _, h.2.2⟩
theorem Sd.refl_ (h : Sd B a mb d w w1) : Sd B a mb d w1 w1 := ⟨Below.refl _ _, Fm.refl _, h.2.2⟩
theorem Sc.le (h : Sc B a mb d w w1) : B ≤ w1.heap.size := Sd.le (Sc.sd h)
theorem Sc.then_ (h : Sc B a mb d1 w w1) (h2 : Sc B a mb d2 w1 w2) : Sc B a mb d2 w w2 := ⟨h.1.trans h2.1, h.2.1.trans h2.2.1, h2.2.2⟩
theorem Sc.op (h : Sc B a mb d1 w w1) (h2 : Sd B a mb d2 w1 w2) : Sc B a mb d2 w w2 := h.then_ (Sc.of h2)
theorem Sc.bel (h : Sc B a mb d w w1) (hb : Below w1.heap.size w1 w2) : Sc B a mb d w w2 := h.op (Sd.bel (Sc.sd h) hb)
theorem Sc.seg {sb i : Nat} {cs : Array Value} (h : Sc B a mb d w w1) (hh : w1.heap[sb]? = some (.cells cs 118)) (hB : B ≤ sb) (u : Value) : Sc B a mb d w (w1.setCell ⟨sb, i, none⟩ u) := by
  have hle := Sc.le h
  obtain ⟨h1, h2, L, F, tv, hD⟩ := h
  exact ⟨h1.trans (below_row (grown_set w1 ⟨sb, i, none⟩ u) hB hle), h2.trans (Kc.seg hh u), L, F, tv, Da.seg hD hh u⟩
end

def UnP (B a mb sb : Nat) (n : Int) (X : (Int × S) × D) (w : World) (e : Ending) (w' : World) : Prop :=
  ∃ v, e = .returned v ∧ Sc B a mb X.2 w w' ∧ w'.heap[sb]? = some (SegB a n X.1.2) ∧ ErrB w' X.1.1 n segT v

set_option maxHeartbeats 1000000 in
set_option maxRecDepth 100000 in
theorem undo_any (w w0 : World) (B a mb sb N U : Nat) (d : D) (h : Sd B a mb d w0 w) (hG : Bd d N U) (hN : N ≤ 850) (hU : U ≤ 950000) (n : Int) (hok : okN n = true) (hE : Te B w) (sz : Nat) (hsz : sz ≤ 1000000)
    (hsb : w.heap[sb]? = some (SegB a n ⟨sz, false⟩)) (hB : B ≤ sb) (c : Int) (hc : c ≠ 0) :
    Calls Tryz.prog 76 #[.pointer (some ⟨sb, 0, none⟩), .int .i64 c] w (UnP B a mb sb n (undo (c, d) (nameOf seg4 n) ⟨sz, false⟩) w) := by
  obtain ⟨s, hs1, hs2, hs3⟩ := seg_nm hok
  obtain ⟨X, hX⟩ : ∃ X, undo (c, d) (nameOf seg4 n) ⟨sz, false⟩ = X := ⟨_, rfl⟩
  rw [hX]
  rw [← hs2] at hX
  unfold undo at hX
  have hnm : ∀ w', Below B w w' → Calls Tryz.prog 17 #[.int .i64 n] w' fun e w'' => e = .returned (.string s) ∧ Below w'.heap.size w' w'' := fun w' hb => by
    have := segName_any n w' (hE.on hb).tens
    rw [show strOf (nameOf [115, 101, 103, 46] n) = s from hs1] at this
    exact this
  have hnm' := Lib.hid hnm
  have hX' := Lib.hid hX
  have hlt : sb < w.heap.size := (Array.getElem?_eq_some_iff.1 hsb).1
  have hle := Sd.le h
  have k0 : w.cell? ⟨sb, 0, none⟩ = some (.pointer (some ⟨a, 0, none⟩)) := cell_blk hsb rfl
  have k1 : w.cell? ⟨sb, 1, none⟩ = some (.int .i64 n) := cell_blk hsb rfl
  have k2 : w.cell? ⟨sb, 2, none⟩ = some (.int .i64 (sz : Nat)) := cell_blk hsb rfl
  have hSc : Hid (∀ x, Below w.heap.size w x → x.cell? ⟨sb, 0, none⟩ = some (.pointer (some ⟨a, 0, none⟩)) ∧ x.cell? ⟨sb, 1, none⟩ = some (.int .i64 n) ∧ x.cell? ⟨sb, 2, none⟩ = some (.int .i64 (sz : Nat))) := Lib.hid fun x hb =>
    ⟨(hb.cell (p := ⟨sb, 0, none⟩) hlt).trans k0, (hb.cell (p := ⟨sb, 1, none⟩) hlt).trans k1, (hb.cell (p := ⟨sb, 2, none⟩) hlt).trans k2⟩
  have hsb' := Lib.hid hsb
  have h' := Lib.hid h
  have hE' := Lib.hid hE
  clear hX hs1 hs2 hok hnm hsb h hE
  go_enter Tryz.func76, Tryz.ntmps76
  go_wp2_with fail
  refine Pl.wp_region_plan 13 (.take 0 (.take 1 (.take 2 (.take 3 (.take 4 (.take 5 (.take 6 (.take 7 (.take 9 (.take 10 (.take 11 (.take 12 (.run 8 .done)))))))))))))
    (fun x => x.cell? ⟨sb, 0, none⟩ = some (.pointer (some ⟨a, 0, none⟩)) ∧ x.cell? ⟨sb, 1, none⟩ = some (.int .i64 n) ∧ x.cell? ⟨sb, 2, none⟩ = some (.int .i64 (sz : Nat))) (by kernel_rfl) (by kernel_rfl) (by exact ⟨k0, k1, k2⟩) ?_
  simp only [Pl.fill, List.getElem?_cons_zero, List.getElem?_cons_succ, List.drop_succ_cons, List.drop_zero]
  iterate 12
    refine Pl.take_go ?_ (by rfl) (fun _ _ _ h => h) ?_ ?_
    rotate_left
    · (intro x hSw; (try dsimp only at hSw); go_simp; try with_reducible rfl)
    try simp only [Act.put, List.setIfInBounds_toArray, List.set_cons_zero, List.set_cons_succ]
  refine Pl.run_go (fun K hK => ?_)
  go_simp
  refine (hnm'.out _ (bD (Below.refl _ _))).mono ?_
  rintro e w2 ⟨rfl, hb2⟩
  have hx2 := Lib.hid ((bD (Below.refl w.heap.size w)).trans (hb2.mono (by simp)))
  clear hb2 hnm' k0 k1 k2
  dsimp only
  refine hK.out _ _ (Pl.more_go _ (fun _ h => h) (by exact hSc.out _ hx2.out) ?_)
  clear hK K
  refine Pl.done_go ?_
  have hS2 := Lib.hid (Sd.bel h'.out hx2.out)
  go_wp2_with fail
  refine (cut_op hS2.out hG (by omega) (by omega) s (by omega) (sz : Int)).mono ?_
  rintro e w3 ⟨rfl, hst3⟩
  have hB2 : w2.heap[sb]? = some (SegB a n ⟨sz, false⟩) := (hx2.out.block sb hlt).trans hsb'.out
  have hB3 : w3.heap[sb]? = some (SegB a n ⟨sz, false⟩) := hst3.2.1 sb _ _ _ hB2 (by decide) (by decide)
  have hS3 := Lib.hid (Sc.op (Sc.bel (Sc.of (Sd.refl_ h'.out)) hx2.out) hst3)
  clear hst3 hS2 hB2
  obtain ⟨Y, hY⟩ : ∃ Y, op d 3 s.data.toList [] (sz : Int) [] = Y := ⟨_, rfl⟩
  have hX2 := hX'.out
  rw [hY] at hX2 hS3 ⊢
  obtain ⟨c3, d3⟩ := Y
  simp only at hS3 hX2 ⊢
  clear hY hX'
  have k1 : w3.cell? ⟨sb, 1, none⟩ = some (.int .i64 n) := cell_blk hB3 rfl
  by_cases hc3 : c3 = 0
  · subst hc3
    have hX3 : ((c, (⟨sz, false⟩ : S)), d3) = X := hX2
    subst hX3
    clear hX2
    go_wp2_with fail
    refine (fail_any c n hc w3).mono ?_
    rintro e w4 ⟨v, rfl, hb4, he4⟩
    have hS4 := Lib.hid (Sc.bel hS3.out hb4)
    have hB4 : Hid (w4.heap[sb]? = some (SegB a n ⟨sz, false⟩)) := Lib.hid ((hb4.block sb (Array.getElem?_eq_some_iff.1 hB3).1).trans hB3)
    have he4' := Lib.hid he4
    clear hb4 he4
    go_wp2_with fail
    go_ret
    exact ⟨_, rfl, hS4.out, hB4.out, he4'.out⟩
  · have hX3 : ((c, (⟨sz, true⟩ : S)), d3) = X := by rw [← hX2]; simp [hc3]
    subst hX3
    have hne : (c3 != 0) = true := by simpa using hc3
    have k3 : w3.cell? ⟨sb, 3, none⟩ = some (.bool false) := cell_blk hB3 rfl
    have f3 : w3.frozen? ⟨sb, 3, none⟩ = false := frozen_of_row w3 sb 3 _ _ hB3
    have hB5 : (w3.setCell ⟨sb, 3, none⟩ (.bool true)).heap[sb]? = some (SegB a n ⟨sz, true⟩) := setCell_blk hB3 _
    have hS5 := Lib.hid (Sc.seg (i := 3) hS3.out hB3 hB (.bool true))
    have k5 : (w3.setCell ⟨sb, 3, none⟩ (.bool true)).cell? ⟨sb, 1, none⟩ = some (.int .i64 n) := cell_blk hB5 rfl
    clear hX2
    go_wp2_with fail
    refine (fail_any c n hc _).mono ?_
    rintro e w4 ⟨v, rfl, hb4, he4⟩
    have hS4 := Lib.hid (Sc.bel hS5.out hb4)
    have hB4 : Hid (w4.heap[sb]? = some (SegB a n ⟨sz, true⟩)) := Lib.hid ((hb4.block sb (Array.getElem?_eq_some_iff.1 hB5).1).trans hB5)
    have he4' := Lib.hid he4
    clear hb4 he4
    go_wp2_with fail
    go_ret
    exact ⟨_, rfl, hS4.out, hB4.out, he4'.out⟩
end Go.Proofs.YtfdpnjebhllpkaaGreatDoor.Sg
end

section
namespace Go.Proofs.YtfdpnjebhllpkaaGreatDoor.Mn
open Go.RowKit Dk Ma Sg

/-- A row of strings of the call's own may be written to. -/
theorem ho_of_own {w : World} {B n : Nat} {A : Option Addr} {c : Nat} {ss : List ByteArray} (h : w.ownsRow B 9 1 (.slice A n c) n (ss.map Value.string)) (h0 : 0 < n) : ∃ gb, A = some ⟨gb, 0, none⟩ ∧ B ≤ gb ∧ Ho w gb n ss := by
  obtain ⟨hl, h⟩ := h
  rw [List.length_map, Nat.mul_one] at hl
  rcases h with ⟨_, h1⟩ | ⟨g, cap, cur, hv, hB, hh, hnc, hm, hs, ht⟩
  · omega
  · injection hv with h1 h2 h3
    subst h1
    refine ⟨g, rfl, hB, hl, (Array.getElem?_eq_some_iff.1 hh).1, ⟨cur, hh⟩, fun t s hts => ⟨?_, frozen_of_row w g t cur _ hh⟩⟩
    have h5 : (ss.map Value.string)[t]? = some (.string s) := by rw [List.getElem?_map, hts]; rfl
    have h6 : t < n := by have := (List.getElem?_eq_some_iff.1 hts).1; omega
    rw [← ht, Nat.mul_one, List.getElem?_take_of_lt h6, Array.getElem?_toList] at h5
    simp [World.cell?, hh, h5]

theorem names_op {B a mb N U : Nat} {d : D} {w : World} (h : ∃ L F tv, Da w B a mb L F tv d) (hG : Bd d N U) :
    Calls Tryz.prog 78 #[.pointer (some ⟨a, 0, none⟩)] w fun e w' => ∃ A c, e = .returned (.slice A d.fs.length c) ∧ Below w.heap.size w w' ∧ w'.ownsRow w.heap.size 9 1 (.slice A d.fs.length c) d.fs.length ((d.fs.map fun p => strOf p.1).map Value.string) := by
  obtain ⟨L, F, tv, hD⟩ := h
  refine (Names_any w B a mb L F tv d hD (by have := hD.len_eq; have := hG.inv.most; omega)).mono ?_
  rintro e w' ⟨A, n, c, rfl, rfl, hb, ho⟩
  have hl := hD.len_eq
  rw [hl]
  refine ⟨A, c, rfl, hb, ?_⟩
  have e : (d.fs.map fun p => strOf p.1).map Value.string = L.map fun p => encStr p.1 := by
    rw [hD.fs, List.map_map, List.map_map]
    rfl
  rw [e]
  exact ho

/-- A manifest's segments lie below B. -/
def Mg (B : Nat) (w : World) (A : Option Addr) (n c : Nat) (ss : List Int) : Prop := ∀ w', Below B w w' → Is w' A n c ss
theorem Mg.on {B : Nat} {w w' : World} {A : Option Addr} {n c : Nat} {ss : List Int} (h : Mg B w A n c ss) (hb : Below B w w') : Mg B w' A n c ss := fun w'' h' => h w'' (hb.trans h')

def OrP (B : Nat) (X : List (List UInt8)) (w : World) (e : Ending) (w' : World) : Prop :=
  ∃ A n c, e = .returned (.slice A n c) ∧ Below B w w' ∧ Hs w' A n c (X.map strOf)

theorem orph_filter (f : List UInt8 → Bool) (fs : Fs) : ((fs.map fun p => strOf p.1).filter fun s => !f s.data.toList) = (orphans f fs).map strOf := by
  unfold orphans
  induction fs with
  | nil => rfl
  | cons p fs ih =>
    have e : (strOf p.1).data.toList = p.1 := rfl
    simp only [List.map_cons, List.filter_cons, e, ih]
    split <;> rfl

/-- The closure in Orphans. -/
theorem orph1_any (g la : Int) (A : Option Addr) (n c : Nat) (ss : List Int) (pm : Nat) (s : ByteArray) (hs : s.size ≤ 1000) (w : World) (hT : Nu.Tens w) (hE : Ev w) (hI : Is w A n c ss) (hm : Mb w pm g la A n c) :
    Calls Tryz.prog 91 #[.string s, .pointer (some ⟨pm, 0, none⟩)] w fun e w' => e = .returned (.bool (live g ss s.data.toList)) ∧ Below w.heap.size w w' := by
  have hl := live_any g la A n c ss s hs w hT hE hI
  have hload := load_mb hm
  obtain ⟨k0, k1, k2, _⟩ := hm.mf
  go_enter Tryz.func91, Tryz.ntmps91
  go_wp2_with fail
  refine hl.mono ?_
  rintro e w2 ⟨rfl, hb⟩
  have hb' := Lib.hid hb
  clear hb
  go_wp2_with fail
  go_ret
  exact ⟨rfl, hb'.out⟩

theorem nm_size {d : D} {N U : Nat} (hG : Bd d N U) {s : ByteArray} (h : s ∈ d.fs.map fun p => strOf p.1) : s.size ≤ 1000 := by
  obtain ⟨p, hp, rfl⟩ := List.mem_map.1 h
  rw [strOf_size']
  have := may_len (hG.inv.names p hp)
  omega

set_option maxHeartbeats 1000000 in
set_option maxRecDepth 100000 in
theorem Orphans_any (w : World) (B a mb N U : Nat) (d : D) (h : Sc B a mb d w w) (hG : Bd d N U) (hT : Te B w) (hE : Eb B w) (g la : Int) (A : Option Addr) (n c : Nat) (ss : List Int) (hI : Mg B w A n c ss) :
    Calls Tryz.prog 46 #[.pointer (some ⟨a, 0, none⟩), .agg #[.int .i64 g, .int .i64 la, .slice A n c]] w (OrP w.heap.size (orphans (live g ss) d.fs) w) := by
  have hle := Sc.le h
  have hba := below_alloc w (.cells #[.int .i64 g, .int .i64 la, .slice A n c] 75)
  have hmb := mb_new w g la A n c
  obtain ⟨pm, hpm⟩ : ∃ pm, w.heap.size = pm := ⟨_, rfl⟩
  obtain ⟨w1, hw1⟩ : ∃ w1, w.alloc (.cells #[.int .i64 g, .int .i64 la, .slice A n c] 75) = w1 := ⟨_, rfl⟩
  have hsz : w1.heap.size = pm + 1 := by rw [← hw1, World.size_alloc, hpm]
  rw [hw1] at hba hmb
  rw [hpm] at hba hmb
  have hn := names_op (w := w1) (Sc.bel h (by rw [hpm]; exact hba)).2.2 hG
  have hbB := Lib.hid (hba.mono (show B ≤ pm by omega))
  have hba' := Lib.hid hba
  have hmb' := Lib.hid hmb
  have hn' := Lib.hid hn
  have hT' := Lib.hid hT
  have hE' := Lib.hid hE
  have hI' := Lib.hid hI
  have hpm' := Lib.hid hpm
  clear hba hmb hn hT hE hI h
  go_enter Tryz.func46, Tryz.ntmps46
  go_wp2_with fail
  clear hw1 hpm
  have hle' := hle
  rw [hpm'.out] at hle'
  refine hn'.out.mono ?_
  rintro e w2 ⟨A2, c2, rfl, hb2, ho2⟩
  have hx2 := Lib.hid (hbB.out.trans (hb2.mono (by rw [hsz]; omega)))
  have hp2 := Lib.hid (hba'.out.trans (hb2.mono (by rw [hsz]; omega)))
  have hm2 := Lib.hid (hmb'.out.below hb2)
  have hrd2 := Lib.hid (rd_of_own ho2)
  have ho2' := Lib.hid ho2
  have hw2 := hb2.size
  clear hb2 ho2 hn'
  have hdel := DeleteFunc_any w1.heap.size w2 91 #[.pointer (some ⟨pm, 0, none⟩)] (fun s => live g ss s.data.toList) (enters_of Tryz.func91 (by kernel_rfl) rfl) A2 d.fs.length c2 (d.fs.map fun p => strOf p.1)
    (fun w' hb s hs => by
      have hx' := hx2.out.trans (hb.mono (show B ≤ w1.heap.size by omega))
      exact orph1_any g la A n c ss pm s (nm_size hG hs) w' (hT'.out.on hx').tens (hE'.out.on hx').ev (hI'.out w' hx') ((hb.block pm (by omega)).trans hm2.out))
    w2 (Below.refl _ _) hw2 hrd2.out (fun h0 => ho_of_own ho2'.out h0)
  have hdel' := Lib.hid hdel
  clear hdel
  go_wp2_with fail
  refine hdel'.out.mono ?_
  rintro e w3 ⟨A3, n3, c3, rfl, hb3, hs3⟩
  rw [orph_filter] at hs3
  have hx3 := Lib.hid (hp2.out.trans (hb3.mono (show pm ≤ w1.heap.size by omega)))
  have hs3' := Lib.hid hs3
  clear hb3 hs3 hdel'
  go_wp2_with fail
  go_ret
  exact ⟨_, _, _, rfl, by rw [hpm'.out]; exact hx3.out, hs3'.out⟩
end Go.Proofs.YtfdpnjebhllpkaaGreatDoor.Mn
end

section
namespace Go.Proofs.YtfdpnjebhllpkaaGreatDoor.Mn
open Go.RowKit Dk Ma Sg

theorem Hs.fm {w w' : World} {A : Option Addr} {n c : Nat} {ss : List ByteArray} (h : Hs w A n c ss) (hf : Fm w w') : Hs w' A n c ss := by
  obtain ⟨h1, h2⟩ := h
  have hk : ∀ (b : Nat) (cur : Array Value), w.heap[b]? = some (Obj.cells cur 9) → w'.heap[b]? = some (Obj.cells cur 9) := fun b cur e => hf b _ _ _ e (by decide) (by decide)
  refine ⟨⟨h1.len, h1.le, h1.max, h1.nil, fun h0 => ?_⟩, fun h0 => ?_⟩
  · obtain ⟨b, off, e, hb, hc⟩ := h1.cell h0
    obtain ⟨b2, cur, e2, h3⟩ := h2 h0
    rw [e] at e2
    injection e2 with e2
    injection e2 with e3 e4 _
    subst e3
    have h4 := hk _ _ h3
    refine ⟨b, off, e, (Array.getElem?_eq_some_iff.1 h4).1, fun j u hu => ?_⟩
    have := hc j u hu
    simp only [World.cell?, h3] at this
    simp only [World.cell?, h4]
    exact this
  · obtain ⟨b2, cur, e2, h3⟩ := h2 h0
    exact ⟨b2, cur, e2, hk _ _ h3⟩
theorem Hs.below {w w' : World} {A : Option Addr} {n c : Nat} {ss : List ByteArray} (h : Hs w A n c ss) (hb : Below w.heap.size w w') : Hs w' A n c ss := h.fm (Fm.below hb)
theorem mb_fm {w w' : World} {b : Nat} {g la : Int} {A : Option Addr} {n c : Nat} (h : Mb w b g la A n c) (hf : Fm w w') : Mb w' b g la A n c := hf b _ _ _ h (by decide) (by decide)

theorem bd_clean {U : Nat} : ∀ (l : List Name) {d : D} {N : Nat}, Bd d N U → Bd (clean l d).2 (N + l.length) U
  | [], _, _, h => h
  | x :: l, d, N, h => by
    unfold clean
    have h1 := h.op0 6 x [] 0
    split
    · exact h1.mono (by simp) (Nat.le_refl _)
    · exact (bd_clean l h1).mono (by simp; omega) (Nat.le_refl _)

/-- What Clean, or Write, answers. -/
structure ClP (B a mb : Nat) (X : Int × D) (g : Int) (w : World) (e : Ending) (w' : World) : Prop where
  st : Sd B a mb X.2 w w'
  res : ∃ er, e = .returned er ∧ ((X.1 = 0 ∧ er = .nilIface) ∨ (X.1 ≠ 0 ∧ ErrB w' X.1 g manT er))

set_option maxHeartbeats 2000000 in
set_option maxRecDepth 100000 in
theorem Clean_any (w : World) (B a mb N U : Nat) (d : D) (h : Sc B a mb d w w) (hG : Bd d N U) (hN : N ≤ 800) (hT : Te B w) (hE : Eb B w) (g la : Int) (A : Option Addr) (n c : Nat) (ss : List Int) (hI : Mg B w A n c ss) :
    Calls Tryz.prog 47 #[.pointer (some ⟨a, 0, none⟩), .agg #[.int .i64 g, .int .i64 la, .slice A n c]] w (ClP B a mb (clean (orphans (live g ss) d.fs) d) g w) := by
  have hle := Sc.le h
  have hba := below_alloc w (.cells #[.int .i64 g, .int .i64 la, .slice A n c] 75)
  have hmb := mb_new w g la A n c
  obtain ⟨pm, hpm⟩ : ∃ pm, w.heap.size = pm := ⟨_, rfl⟩
  obtain ⟨w1, hw1⟩ : ∃ w1, w.alloc (.cells #[.int .i64 g, .int .i64 la, .slice A n c] 75) = w1 := ⟨_, rfl⟩
  rw [hw1] at hba hmb
  have hS1 := Lib.hid (Sd.bel (Sc.sd h) hba)
  have hC1 := Sc.bel h hba
  rw [hpm] at hba hmb
  have hbB := hba.mono (show B ≤ pm by omega)
  have hor := Orphans_any w1 B a mb N U d ⟨Below.refl _ _, Kc.refl _, hC1.2.2⟩ hG (hT.on hbB) (hE.on hbB) g la A n c ss (hI.on hbB)
  obtain ⟨l, hl⟩ : ∃ l, orphans (live g ss) d.fs = l := ⟨_, rfl⟩
  have hll : l.length ≤ 64 := by
    rw [← hl]
    have := hG.inv.most
    have h2 : (orphans (live g ss) d.fs).length ≤ (d.fs.map (·.1)).length := List.length_filter_le _ _
    rw [List.length_map] at h2
    omega
  have hls : ∀ x ∈ l, (strOf x).size ≤ 1000 := fun x hx => by
    rw [← hl] at hx
    obtain ⟨p, hp, rfl⟩ := List.mem_map.1 (List.mem_filter.1 hx).1
    rw [strOf_size']
    have := may_len (hG.inv.names p hp)
    omega
  rw [hl] at hor ⊢
  obtain ⟨X, hX⟩ : ∃ X, clean l d = X := ⟨_, rfl⟩
  rw [hX]
  have hor' := Lib.hid hor
  have hmb' := Lib.hid hmb
  have hX' := Lib.hid hX
  have hls' := Lib.hid hls
  have hb1 := Lib.hid hba
  clear hl hor hX hT hE hI hba hbB hC1 h hmb hls
  go_enter Tryz.func47, Tryz.ntmps47
  go_upto_region 1 with fail
  clear hw1 hpm
  obtain ⟨k0, k1, k2, _⟩ := hmb'.out.mf
  go_wp2_with fail
  refine hor'.out.mono ?_
  rintro e w2 ⟨A2, n2, c2, rfl, hb2, hs2⟩
  have hln : n2 = l.length := by have := hs2.1.len; simpa using this.symm
  have hle2 := hs2.1.le
  have hmx2 := hs2.1.max
  have hS2 := Lib.hid (Sd.bel hS1.out hb2)
  have hm2 := Lib.hid (hmb'.out.below hb2)
  have hs2' := Lib.hid hs2
  clear hb2 hs2 hor' hmb' k0 k1 k2
  go_wp2_with fail
  go_loopw [12] (fun iv wr => ∃ (k : Nat) (d' : D), k ≤ n2 ∧ iv = .int .i64 k ∧ Hid (clean (l.drop k) d' = X) ∧ Hid (Bd d' (N + k) U) ∧ Hid (Sd B a mb d' w wr) ∧ Hid (Hs wr A2 n2 c2 (l.map strOf)) ∧ Hid (Mb wr pm g la A n c)) (fun iv _ => n2 - (intOf iv).toNat)
  case atStart => exact ⟨0, d, by omega, rfl, hX', Lib.hid (hG.mono (by omega) (Nat.le_refl _)), hS2, hs2', hm2⟩
  case round =>
    obtain ⟨k, d', hk, rfl, hcl, hBd, hSr, hsr, hmr⟩ := hrel
    by_cases hlt : k < n2
    · have i1 : decide ((k : Int) < (n2 : Int)) = true := by rw [decide_eq_true_eq]; omega
      have i2 : decide (k < n2) = true := by rw [decide_eq_true_eq]; omega
      have i3 : (k : Int) < (n2 : Int) := by omega
      obtain ⟨b, off, u, rfl, hb, hu, hc⟩ := Rd.at_ hsr.out.1 hlt
      obtain ⟨x, hx⟩ : ∃ x, l[k]? = some x := ⟨_, List.getElem?_eq_getElem (by omega)⟩
      rw [List.getElem?_map, List.getElem?_map, hx] at hu
      simp only [Option.map_some] at hu
      injection hu with hu
      subst hu
      obtain ⟨s, hs⟩ : ∃ s, strOf x = s := ⟨_, rfl⟩
      have hsx : s.data.toList = x := by rw [← hs]; rfl
      have hss : s.size ≤ 1000 := by rw [← hs]; exact hls'.out x (List.mem_of_getElem? hx)
      rw [hs] at hc
      have hdr : l.drop k = x :: l.drop (k + 1) := by
        obtain ⟨h1, h2⟩ := List.getElem?_eq_some_iff.1 hx
        rw [List.drop_eq_getElem_cons h1, h2]
      have hcl2 := hcl.out
      rw [hdr] at hcl2
      unfold clean at hcl2
      have hop := delete_op hSr.out hBd.out (by omega) s hss
      rw [hsx] at hop
      have hB2 := hBd.out.op0 6 x [] 0
      obtain ⟨Y, hY⟩ : ∃ Y, op d' 6 x [] 0 [] = Y := ⟨_, rfl⟩
      rw [hY] at hcl2 hop hB2
      obtain ⟨c1, d1⟩ := Y
      simp only at hcl2 hop hB2
      have hop' := Lib.hid hop
      have hB2' := Lib.hid hB2
      have hcl2' := Lib.hid hcl2
      clear hop hB2 hcl2 hY hdr hsx hs hx
      go_wp2_with fail
      refine hop'.out.mono ?_
      rintro e w3 ⟨rfl, hst⟩
      have hS3 := Lib.hid (Sd.then_ hSr.out hst)
      have hs3 := Lib.hid (hsr.out.fm hst.2.1)
      have hm3 := Lib.hid (mb_fm hmr.out hst.2.1)
      obtain ⟨k0, k1, k2, _⟩ := (mb_fm hmr.out hst.2.1).mf
      clear hst hop'
      by_cases h0 : c1 = 0
      · subst h0
        have hcl3 := hcl2'.out
        rw [if_neg (by simp)] at hcl3
        have hcl3' := Lib.hid hcl3
        clear hcl3 hcl2'
        go_wp2_with fail
        go_roundw
        case rel => exact ⟨k + 1, d1, by omega, by go_num, hcl3', Lib.hid (hB2'.out.mono (by omega) (Nat.le_refl _)), hS3, hs3, hm3⟩
        case measure => simp [intOf]; omega
      · have hcl3 := hcl2'.out
        rw [if_pos h0] at hcl3
        subst hcl3
        have hne : (c1 != 0) = true := by simpa using h0
        go_wp2_with fail
        refine (mfail_any c1 g h0 w3).mono ?_
        rintro e w4 ⟨v, rfl, hb4, hf4⟩
        have hS4 := Lib.hid (Sd.bel hS3.out hb4)
        have hf4' := Lib.hid hf4
        clear hb4 hf4
        go_wp2_with fail
        go_ret
        exact ⟨hS4.out, _, rfl, .inr ⟨h0, hf4'.out⟩⟩
    · have i1 : decide ((k : Int) < (n2 : Int)) = false := by rw [decide_eq_false_iff_not]; omega
      have i2 : decide (k < n2) = false := by rw [decide_eq_false_iff_not]; omega
      have hend := hcl.out
      rw [List.drop_of_length_le (by omega)] at hend
      unfold clean at hend
      subst hend
      go_wp2_with fail
      go_ret
      exact ⟨hSr.out, _, rfl, .inl ⟨rfl, rfl⟩⟩
end Go.Proofs.YtfdpnjebhllpkaaGreatDoor.Mn
end
