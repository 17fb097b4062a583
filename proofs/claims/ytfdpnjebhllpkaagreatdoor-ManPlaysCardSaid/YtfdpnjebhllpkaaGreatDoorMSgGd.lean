/- How large a disk may be, behind what segments and manifests do to it. -/
import Derived.Test.YtfdpnjebhllpkaaGreatDoorMDkNew
import Derived.Test.YtfdpnjebhllpkaaGreatDoorMRowS
import Derived.Test.YtfdpnjebhllpkaaGreatDoorMMnLaw
section
namespace Go.Proofs.YtfdpnjebhllpkaaGreatDoor.Dk
open Go.RowKit

/-- A trouble's cells. -/
def TrEl (_ : World) (vs : List Value) (t : Tr) : Prop := vs = trC t
/-- A file that came in: its cells. -/
def FeEl (w : World) (vs : List Value) (f : In) : Prop := ∃ s A n c, vs = [.string s, .slice A n c, .int .i64 f.safe] ∧ f.nm = s.data.toList ∧ Bs w A n c f.data
theorem TrEl.one : ∀ (w : World) (vs : List Value) (t : Tr), TrEl w vs t → ∀ u ∈ vs, u.oneCell' = true := by
  rintro w vs t rfl u hu
  simp [trC] at hu
  rcases hu with rfl | rfl | rfl <;> rfl
theorem FeEl.one : ∀ (w : World) (vs : List Value) (t : In), FeEl w vs t → ∀ u ∈ vs, u.oneCell' = true := by
  rintro w vs t ⟨s, A, n, c, rfl, _, _⟩ u hu
  simp at hu
  rcases hu with rfl | rfl | rfl <;> rfl
theorem FeEl.below {w w' : World} (hb : Below w.heap.size w w') : ∀ vs x, FeEl w vs x → FeEl w' vs x := by
  rintro vs x ⟨s, A, n, c, rfl, h1, h2⟩
  exact ⟨s, A, n, c, rfl, h1, h2.below hb⟩

theorem reads_trf {w : World} {xs : List Value} {l : List Tr} (h : Reads TrEl 3 w xs l) : xs = trf l := by
  obtain ⟨L, rfl, h1, _, h3⟩ := h
  have : L = l.map trC := by
    apply List.ext_getElem?
    intro i
    rw [List.getElem?_map]
    cases hi : L[i]? with
    | none =>
      have := List.getElem?_eq_none_iff.1 hi
      rw [List.getElem?_eq_none (by omega)]
      rfl
    | some vs =>
      have hlt : i < l.length := by have := (List.getElem?_eq_some_iff.1 hi).1; omega
      have := h3 i vs l[i] hi (List.getElem?_eq_getElem hlt)
      rw [List.getElem?_eq_getElem hlt, this]
      rfl
  rw [this]
  rfl

/-- The disk is now so (its troubles may be others too). -/
def Sd (B a mb : Nat) (dd : D) (w w' : World) : Prop := Below B w w' ∧ Fm w w' ∧ ∃ L F tv, Da w' B a mb L F tv dd
theorem St.sd {B a mb : Nat} {tv : Value} {dd : D} {w w' : World} (h : St B a mb tv dd w w') : Sd B a mb dd w w' := ⟨h.1, h.2.1, h.2.2.choose, h.2.2.choose_spec.choose, tv, h.2.2.choose_spec.choose_spec⟩
theorem Sd.on {B a mb : Nat} {dd : D} {w0 w w' : World} (h : Sd B a mb dd w w') (hb : Below B w0 w) (hf : Fm w0 w) : Sd B a mb dd w0 w' := ⟨hb.trans h.1, hf.trans h.2.1, h.2.2⟩

set_option maxHeartbeats 1000000 in
set_option maxRecDepth 100000 in
theorem cloneT_any (A : Option Addr) (n c : Nat) (l : List Tr) (w : World) (h : Sq TrEl 3 w A n c l) (hn : n ≤ 1000000) :
    Calls Tryz.prog 74 #[.slice A n c] w fun e w' => ∃ v, e = .returned v ∧ w'.ownsRow w.heap.size 121 3 v l.length (trf l) ∧ Below w.heap.size w w' := by
  have hnil : ∀ (w : World) (a : Option Addr) (n c n' c' : Nat), (binOp .eql 46 (.slice a n c) (.slice none n' c')).run Tryz.prog w = .ok (.bool a.isNone) w := fun w a n c n' c' => Lib.run_eql_slice_nil w _ _ a n c n' c' Tryz.underlying46
  have hl := h.len
  rcases A with _ | ad
  · obtain ⟨rfl, rfl⟩ := h.nil rfl
    have : l = [] := List.eq_nil_of_length_eq_zero hl
    subst this
    clear h hl
    go_enter Tryz.func74, Tryz.ntmps74
    go_wp2_with fail
    go_ret
    exact ⟨_, rfl, World.ownsRow_nil _ _ _ _, Below.refl _ _⟩
  · have hq := Lib.hid h
    have hl' := Lib.hid hl
    clear h hl
    go_enter Tryz.func74, Tryz.ntmps74
    go_wp2_with (at_builtin; apply stop_here)
    refine Stop.go (append_sq (El := TrEl) (k := 3) _ 46 121 (.agg #[.int .i64 0, .int .i64 0, .int .i64 0]) 24 Tryz.underlying46 (by kernel_rfl) rfl (by omega) rfl _ _ rfl w.heap.size _ [] rfl ?h1 _ _ _ l rfl ?h2 (TrEl.one _) (fun _ _ _ _ h => h) n ?h3 (by omega) (by omega) ?h4 ?_)
    case h1 => exact ⟨[], World.ownsRow_made w #[] 0 (Nat.le_refl _) (Nat.zero_le _) (by simp), Reads.nil _⟩
    case h2 => exact hq.out.below (fun _ _ h => h) (below_alloc _ _)
    case h3 => simp
    case h4 => simp
    intro A' c' w2 ho hg hb _
    have ho' := Lib.hid ho
    have hb' := Lib.hid ((below_alloc w (.cells #[] 121)).trans hb)
    clear ho hg hb hnil
    go_wp2_with fail
    go_ret
    obtain ⟨xs, h1, h2⟩ := ho'.out
    rw [List.nil_append] at h1 h2
    rw [reads_trf h2] at h1
    exact ⟨_, rfl, h1, hb'.out⟩

set_option maxHeartbeats 1000000 in
set_option maxRecDepth 100000 in
theorem Arm_any (w : World) (B a mb : Nat) (L : Al Nat) (F : Nat → Fl) (tv : Value) (d : D) (h : Da w B a mb L F tv d) (A : Option Addr) (n c : Nat) (l : List Tr) (hq : Sq TrEl 3 w A n c l) (hn : n ≤ 1000000) :
    Calls Tryz.prog 26 #[.pointer (some ⟨a, 0, none⟩), .slice A n c] w fun e w' => e = .returned (.tuple #[]) ∧ Sd B a mb (arm d l) w w' := by
  have hcl := cloneT_any A n c l w hq hn
  have h' := Lib.hid h
  clear h hq
  go_enter Tryz.func26, Tryz.ntmps26
  go_wp2_with fail
  refine hcl.mono ?_
  rintro e w2 ⟨v, rfl, ho, hb⟩
  have hB : B ≤ w.heap.size := by have := h'.out.alt; have := h'.out.base; omega
  have hD := h'.out.below hb
  have hD1 := hD.setA (grown_set w2 ⟨a, 2, none⟩ v) (tr' := l) (ops' := d.ops) (down' := d.down) (setCell_blk hD.blk v) (row_kept (ownsRow_base ho hB) (grown_set w2 ⟨a, 2, none⟩ v) hD.noT)
  obtain ⟨hD2, _⟩ := hD1.setOps 0
  have g1 := grown_set w2 ⟨a, 2, none⟩ v
  have g2 := grown_set (w2.setCell ⟨a, 2, none⟩ v) ⟨a, 3, none⟩ (.int .i64 ((0 : Nat) : Int))
  have hbl : Below B w2 ((w2.setCell ⟨a, 2, none⟩ v).setCell ⟨a, 3, none⟩ (.int .i64 ((0 : Nat) : Int))) := (below_row g1 hD.base.1 (by have := hD.alt; have := hD.base; omega)).trans (below_row g2 hD1.base.1 (by have := hD1.alt; have := hD1.base; omega))
  have hfm : Fm w2 ((w2.setCell ⟨a, 2, none⟩ v).setCell ⟨a, 3, none⟩ (.int .i64 ((0 : Nat) : Int))) :=
    (Fm.grown g1 (fun cs E fr he => by rw [hD.blk] at he; injection he with he; injection he with _ he _; exact .inr he.symm)).trans (Fm.grown g2 (fun cs E fr he => by rw [hD1.blk] at he; injection he with he; injection he with _ he _; exact .inr he.symm))
  have hfin : Hid (Sd B a mb (arm d l) w ((w2.setCell ⟨a, 2, none⟩ v).setCell ⟨a, 3, none⟩ (.int .i64 ((0 : Nat) : Int)))) := Lib.hid ⟨(hb.mono hB).trans hbl, (Fm.below hb).trans hfm, _, _, _, hD2⟩
  have f1 : w2.frozen? ⟨a, 2, none⟩ = false := frozen_of_row w2 a 2 _ _ hD.blk
  have f2 : (w2.setCell ⟨a, 2, none⟩ v).frozen? ⟨a, 3, none⟩ = false := frozen_of_row _ a 3 _ _ hD1.blk
  have c1 : w2.cell? ⟨a, 2, none⟩ = some tv := by simp [World.cell?, hD.blk]
  have c2 : (w2.setCell ⟨a, 2, none⟩ v).cell? ⟨a, 3, none⟩ = some (.int .i64 (d.ops : Nat)) := by simp [World.cell?, hD1.blk]
  obtain ⟨A2, c2', rfl⟩ : ∃ A c, v = .slice A l.length c := by
    obtain ⟨A2, c2', e, _⟩ := row3_at ho
    exact ⟨A2, c2', e⟩
  clear hD hD1 hD2 g1 g2 hbl hfm ho hb hcl
  go_wp2_with fail
  go_end0
  exact ⟨rfl, hfin.out⟩
end Go.Proofs.YtfdpnjebhllpkaaGreatDoor.Dk
end

section
namespace Go.Proofs.YtfdpnjebhllpkaaGreatDoor.Dk
open Go.RowKit

/-- A file's cells, its bytes in memory of the call's own. -/
def FoEl (B : Nat) (w : World) (vs : List Value) (f : In) : Prop := ∃ s v, vs = [.string s, v, .int .i64 f.safe] ∧ f.nm = s.data.toList ∧ OwB w B 5 v f.data
theorem FoEl.fe {B : Nat} {w : World} {vs : List Value} {f : In} (h : FoEl B w vs f) : FeEl w vs f := by
  obtain ⟨s, v, rfl, h1, h2⟩ := h
  obtain ⟨A, c, rfl, h3⟩ := OwB.slice h2
  exact ⟨s, A, _, c, rfl, h1, h3⟩
theorem FoEl.one {B : Nat} (w : World) : ∀ (vs : List Value) (t : In), FoEl B w vs t → ∀ u ∈ vs, u.oneCell' = true := fun vs t h => FeEl.one w vs t h.fe
theorem FoEl.kept {B : Nat} {w w' : World} {row : Option Nat} (hg : w.grownBy w' row) (hn : NoE 5 w row) : ∀ vs x, FoEl B w vs x → FoEl B w' vs x := by
  rintro vs x ⟨s, v, rfl, h1, h2⟩
  exact ⟨s, v, rfl, h1, row_kept h2 hg hn⟩
theorem FoEl.below {B : Nat} {w w' : World} (hb : Below w.heap.size w w') : ∀ vs x, FoEl B w vs x → FoEl B w' vs x := FoEl.kept (grown_of_below hb) NoE.none
theorem FoEl.fm {B : Nat} {w w' : World} (hb : Fm w w') : ∀ vs x, FoEl B w vs x → FoEl B w' vs x := by
  rintro vs x ⟨s, v, rfl, h1, h2⟩
  exact ⟨s, v, rfl, h1, hb.owb h2⟩
theorem FoEl.base {B B' : Nat} {w : World} (hB : B' ≤ B) : ∀ vs x, FoEl B w vs x → FoEl B' w vs x := by
  rintro vs x ⟨s, v, rfl, h1, h2⟩
  exact ⟨s, v, rfl, h1, OwB.base h2 hB⟩
theorem ows_noE {α : Type} {El : World → List Value → α → Prop} {k : Nat} {w : World} {B E E' : Nat} {v : Value} {l : List α} (h : OwS El k w B E v l) (hne : E ≠ E') : NoE E' w v.ownBlock := by
  obtain ⟨xs, ⟨_, h1⟩, _⟩ := h
  rcases h1 with ⟨rfl, _⟩ | ⟨g, cap, cur, rfl, _, hh, _⟩
  · exact NoE.none
  · exact NoE.of hh (by intro cs fr e; injection e with _ e _; exact hne e)
theorem ows_fm {α : Type} {El : World → List Value → α → Prop} {k : Nat} {w w' : World} {B E : Nat} {v : Value} {l : List α} (h : OwS El k w B E v l) (hf : Fm w w') (h1 : E ≠ 132) (h2 : E ≠ 113) (hE : ∀ vs x, El w vs x → El w' vs x) : OwS El k w' B E v l := by
  obtain ⟨xs, h3, h4⟩ := h
  exact ⟨xs, hf.row h3 h1 h2, h4.mono hE⟩

/-- The files as they are handed out. -/
abbrev OwF (w : World) (B : Nat) (v : Value) (l : List In) : Prop := OwS (FoEl B) 3 w B 84 v l
theorem OwF.below {w w' : World} {B : Nat} {v : Value} {l : List In} (h : OwF w B v l) (hb : Below w.heap.size w w') : OwF w' B v l := OwS.below h hb (FoEl.below hb)
theorem OwF.fm {w w' : World} {B : Nat} {v : Value} {l : List In} (h : OwF w B v l) (hb : Fm w w') : OwF w' B v l := ows_fm h hb (by decide) (by decide) (FoEl.fm hb)

theorem OwS_base {w : World} {B B' : Nat} {v : Value} {l : List In} (h : OwF w B v l) (hB : B' ≤ B) : OwF w B' v l := by
  obtain ⟨xs, h1, h2⟩ := h
  exact ⟨xs, ownsRow_base h1 hB, h2.mono (FoEl.base hB)⟩

set_option maxHeartbeats 2000000 in
set_option maxRecDepth 100000 in
theorem Files_any (w : World) (B a mb : Nat) (L : Al Nat) (F : Nat → Fl) (tv : Value) (d : D) (h : Da w B a mb L F tv d) (hl : L.length ≤ 1000) (hfl : ∀ p ∈ d.fs, p.1.length ≤ 1000 ∧ p.2.data.length ≤ 1000000000) :
    Calls Tryz.prog 35 #[.pointer (some ⟨a, 0, none⟩)] w fun e w' => ∃ v, e = .returned v ∧ OwF w' w.heap.size v (d.fs.map toIn) ∧ Below w.heap.size w w' := by
  have hnm := Names_any w B a mb L F tv d h (by omega)
  have h' := Lib.hid h
  have hfl' := Lib.hid hfl
  have hfs : Hid (d.fs.map toIn = L.map fun p => toIn (p.1, F p.2)) := Lib.hid (by rw [h.fs, List.map_map]; rfl)
  clear h hfl
  go_enter Tryz.func35, Tryz.ntmps35
  go_wp2_with fail
  refine hnm.mono ?_
  rintro e w1 ⟨A, n, c, rfl, hnl, hb1, ho1⟩
  have hr1 := Lib.hid (rd_of_own ho1)
  have hb1' := Lib.hid hb1
  have hle := Rd.le hr1.out
  have hmx := Rd.max hr1.out
  obtain rfl : L.length = n := hnl.symm
  clear hnm hb1 ho1 hnl
  go_wp2_with fail
  go_loopw [3, 10] (fun o i wr => ∃ (k : Nat) (A' : Option Addr) (c' : Nat), k ≤ L.length ∧ i = .int .i64 k ∧ o = .slice A' k c' ∧ Hid (OwF wr w1.heap.size (.slice A' k c') ((L.take k).map fun p => toIn (p.1, F p.2))) ∧ Hid (Below w1.heap.size w1 wr)) (fun _ i _ => L.length - (intOf i).toNat)
  case atStart => exact ⟨0, none, 0, by omega, rfl, rfl, Lib.hid (OwS.nil _ _ _), Lib.hid (Below.refl _ _)⟩
  case round =>
    obtain ⟨k, A', c', hk, rfl, rfl, hO, hbw⟩ := hrel
    by_cases hlt : k < L.length
    · obtain ⟨b', off, u, rfl, hb, hu, hc1⟩ := Rd.at_ (Rd.below hr1.out hbw.out) hlt
      have hLk : L[k]? = some L[k] := List.getElem?_eq_getElem hlt
      obtain ⟨nm, fb, hp⟩ : ∃ nm fb, L[k] = (nm, fb) := ⟨_, _, rfl⟩
      rw [List.getElem?_map, hLk, hp] at hu
      simp only [Option.map_some, Option.some.injEq] at hu
      rw [hp] at hLk
      have hmem := List.mem_of_getElem? hLk
      have hD := h'.out.below (hb1'.out.trans (hbw.out.mono hb1'.out.size))
      have hget : Dk.get L nm = some fb := get_of_mem h'.out.up hmem
      have hfp := hfl'.out (nm, F fb) (by rw [h'.out.fs]; exact List.mem_map.2 ⟨_, hmem, rfl⟩)
      obtain ⟨s, hs⟩ : ∃ s : ByteArray, encStr nm = .string s ∧ s.data.toList = nm ∧ s.size ≤ 1000 := ⟨⟨nm.toArray⟩, rfl, by simp, by simp only at hfp; show nm.toArray.size ≤ 1000; simp; exact hfp.1⟩
      obtain ⟨hs1, hs2, hs3⟩ := hs
      rw [← hu, hs1] at hc1
      have hlk := hD.look s (by unfold maxLen; omega)
      rw [hs2, hget] at hlk
      simp only [Option.map_some] at hlk
      obtain ⟨hBb, hblt, A0, c0, hfb, hbs⟩ := hD.file hget
      have kf : wr.cell? ⟨fb, 0, none⟩ = some (.slice A0 (F fb).data.length c0) := by simp [World.cell?, hfb]
      have ks : wr.cell? ⟨fb, 1, none⟩ = some (.int .i64 ((F fb).safe : Nat)) := by simp [World.cell?, hfb]
      have c1 := hD.c1
      have hlen : (F fb).data.length ≤ 140737488355328 := by simp only at hfp; omega
      have hcl : ∀ w2, Below wr.heap.size wr w2 → Calls Tryz.prog 79 #[.slice A0 (F fb).data.length c0] w2 fun e w3 => ∃ v, e = .returned v ∧ Hid (OwB w3 w2.heap.size 5 v (F fb).data) ∧ Hid (Below w2.heap.size w2 w3) := fun w2 hb2 => by
        refine (clone_any A0 _ c0 _ w2 (hbs.below hb2) hlen).mono ?_
        rintro e w3 ⟨v, rfl, h1, h2⟩
        exact ⟨v, rfl, Lib.hid h1, Lib.hid h2⟩
      have hcl' := Lib.hid hcl
      have hfin : Hid ((L.take (k + 1)).map (fun p => toIn (p.1, F p.2)) = (L.take k).map (fun p => toIn (p.1, F p.2)) ++ [⟨nm, (F fb).data, ((F fb).safe : Nat)⟩]) := Lib.hid (by rw [take_snoc hLk, List.map_append]; rfl)
      have hlk2 := Lib.hid hLk
      obtain ⟨n0, hn0⟩ : ∃ n0, (F fb).data.length = n0 := ⟨_, rfl⟩
      obtain ⟨sf, hsf⟩ : ∃ sf, (F fb).safe = sf := ⟨_, rfl⟩
      rw [hn0] at kf hcl'
      rw [hsf] at ks hfin
      have hs2' := Lib.hid hs2
      have hblt' := Lib.hid hblt
      clear hD hu hp hfb hbs hmem hget hfp hs1 hcl hn0 hsf hLk hs2 hblt
      go_wp2_with fail
      refine Pl.wp_region_plan 13 (.take 0 (.take 1 (.take 2 (.take 3 (.take 4 (.take 5 (.take 7 (.take 8 (.take 9 (.take 10 (.run 6 (.take 11 (.run 12 .done)))))))))))))
        (fun x => x.cell? ⟨fb, 0, none⟩ = some (.slice A0 n0 c0) ∧ x.cell? ⟨fb, 1, none⟩ = some (.int .i64 (sf : Nat))) (by kernel_rfl) (by kernel_rfl) (by exact ⟨kf, ks⟩) ?_
      simp only [Pl.fill, List.getElem?_cons_zero, List.getElem?_cons_succ, List.drop_succ_cons, List.drop_zero]
      iterate 10
        refine Pl.take_go ?_ (by rfl) (fun _ _ _ h => h) ?_ ?_
        rotate_left
        · (intro x hSw; (try dsimp only at hSw); go_simp; try with_reducible rfl)
        try simp only [Act.put, List.setIfInBounds_toArray, List.set_cons_zero, List.set_cons_succ]
      refine Pl.run_go (fun K hK => ?_)
      go_simp
      refine (hcl'.out wr.drew (bD (Below.refl _ wr))).mono ?_
      rintro e w3 ⟨v, rfl, ho3, hb3⟩
      obtain ⟨A3, c3, rfl⟩ : ∃ A3 c3, v = .slice A3 (F fb).data.length c3 := by
        obtain ⟨A3, c3, e3, _⟩ := OwB.slice ho3.out
        exact ⟨A3, c3, e3⟩
      have hbw3 := Lib.hid ((bD (Below.refl wr.heap.size wr)).trans (hb3.out.mono (by simp)))
      have m1 := (hbw3.out.cell (p := ⟨fb, 0, none⟩) hblt'.out).trans kf
      have m2 := (hbw3.out.cell (p := ⟨fb, 1, none⟩) hblt'.out).trans ks
      have hxw := Lib.hid (hbw.out.trans (hbw3.out.mono hbw.out.size))
      have hO3 := Lib.hid (OwF.below hO.out hbw3.out)
      have ho3' := Lib.hid (OwB.base ho3.out (B' := w1.heap.size) (by have := hbw.out.size; simp; omega))
      clear ho3 hb3 hcl' hO hbw hbw3 kf ks
      dsimp only
      refine hK.out _ _ (Pl.more_go _ (fun _ h => h) (by exact ⟨m1, m2⟩) ?_)
      clear hK K
      refine Pl.take_go ?_ (by rfl) (fun _ _ _ h => h) ?_ ?_
      rotate_left
      · (intro x hSw; (try dsimp only at hSw); go_simp; try with_reducible rfl)
      try simp only [Act.put, List.setIfInBounds_toArray, List.set_cons_zero, List.set_cons_succ]
      refine Pl.run_go (fun K hK => ?_)
      go_simp
      have hba := below_alloc w3 (.cells #[.string s, .slice A3 (F fb).data.length c3, .int .i64 (sf : Nat)] 84)
      have hlt3 : fb < w3.heap.size := by
        have := hxw.out.size
        have := hb
        rcases Nat.lt_or_ge fb w3.heap.size with h | h
        · exact h
        · simp [World.cell?, Array.getElem?_eq_none h] at m1
      have p1 := (hba.cell (p := ⟨fb, 0, none⟩) hlt3).trans m1
      have p2 := (hba.cell (p := ⟨fb, 1, none⟩) hlt3).trans m2
      have hel : FoEl w1.heap.size (w3.alloc (.cells [.string s, .slice A3 (F fb).data.length c3, .int .i64 (sf : Nat)].toArray 84)) [.string s, .slice A3 (F fb).data.length c3, .int .i64 (sf : Nat)] ⟨nm, (F fb).data, ((sf : Nat) : Int)⟩ :=
        ⟨s, _, rfl, hs2'.out.symm, OwB.below ho3'.out hba⟩
      have hsq := Lib.hid (sq_one (El := FoEl w1.heap.size) (k := 3) w3 [.string s, .slice A3 (F fb).data.length c3, .int .i64 (sf : Nat)] ⟨nm, (F fb).data, ((sf : Nat) : Int)⟩ 84 (0, 0) rfl hel)
      have hO4 := Lib.hid (OwF.below hO3.out hba)
      have hxw4 := Lib.hid (hxw.out.trans (hba.mono hxw.out.size))
      have hkl : ((L.take k).map fun p => toIn (p.1, F p.2)).length = k := by rw [List.length_map, List.length_take]; omega
      have hkl' := Lib.hid hkl
      refine hK.out _ _ (Pl.more_go _ (fun _ h => h) (by exact ⟨p1, p2⟩) ?_)
      clear hK K m1 m2 p1 p2 hba hel hO3 ho3' hxw hlt3 hkl
      refine Pl.done_go ?_
      refine append_sq (El := FoEl w1.heap.size) (k := 3) _ 63 84 (.agg #[.string ⟨#[]⟩, .slice none 0 0, .int .i64 0]) 48 Tryz.underlying63 (by kernel_rfl) rfl (by omega) rfl _ _ rfl w1.heap.size _ _ rfl hO4.out _ 1 1 _ rfl hsq.out (FoEl.one _) (fun w' hg => FoEl.kept hg (ows_noE hO4.out (by decide))) (k + 1) ?h3 ?h4 ?h5 ?h6 ?_
      case h3 => rw [hkl'.out]
      case h4 => omega
      case h5 => omega
      case h6 => exact hxw4.out.size
      intro A6 c6 w6 ho6 _ hb6 _
      rw [← hfin.out] at ho6
      have ho6' := Lib.hid ho6
      have hb6' := Lib.hid (hxw4.out.trans hb6)
      clear ho6 hb6
      go_wp2_with fail
      go_roundw
      case rel => exact ⟨k + 1, A6, c6, by omega, by go_num, by go_num, ho6', hb6'⟩
      case measure => simp [intOf]; omega
    · have : k = L.length := by omega
      subst this
      rw [List.take_of_length_le (Nat.le_refl _), ← hfs.out] at hO
      go_wp2_with fail
      go_ret
      exact ⟨_, rfl, OwS_base hO.out hb1'.out.size, hb1'.out.trans (hbw.out.mono hb1'.out.size)⟩
end Go.Proofs.YtfdpnjebhllpkaaGreatDoor.Dk
end

section
namespace Go.Proofs.YtfdpnjebhllpkaaGreatDoor.Dk
open Go.RowKit

theorem crashF_eq (tails : List Int) (F F' : Nat → Fl) : ∀ (L : Al Nat) (i : Nat), (∀ (j : Nat) p, L[j]? = some p → F' p.2 = keep (F p.2) tails[i + j]?) → L.map (fun p => (p.1, F' p.2)) = crashF tails i (L.map fun p => (p.1, F p.2))
  | [], _, _ => rfl
  | p :: L, i, h => by
    rw [List.map_cons, List.map_cons, crashF, crashF_eq tails F F' L (i + 1) (fun j q hq => by
      have := h (j + 1) q (by simpa using hq)
      rw [show i + 1 + j = i + (j + 1) by omega]
      exact this)]
    have := h 0 p rfl
    rw [Nat.add_zero] at this
    rw [this]

theorem cell_blk {w : World} {b i : Nat} {cs : Array Value} {E : TypeId} {fr : Nat × Nat} {v : Value} (h : w.heap[b]? = some (.cells cs E fr)) (hi : cs[i]? = some v) : w.cell? ⟨b, i, none⟩ = some v := by
  simp only [World.cell?, h]
  exact hi
theorem nodup_idx : ∀ {l : List Nat}, l.Nodup → ∀ {i k : Nat} {x : Nat}, l[i]? = some x → l[k]? = some x → i = k
  | [], _, _, _, _, h, _ => by simp at h
  | a :: l, hn, i, k, x, hi, hk => by
    obtain ⟨h1, h2⟩ := List.nodup_cons.1 hn
    cases i with
    | zero =>
      cases k with
      | zero => rfl
      | succ k => simp at hi hk; subst hi; exact absurd (List.mem_of_getElem? hk) h1
    | succ i =>
      cases k with
      | zero => simp at hi hk; subst hk; exact absurd (List.mem_of_getElem? hi) h1
      | succ k => simp at hi hk; rw [nodup_idx h2 hi hk]

/-- How the disk is behind k of the names. -/
structure Cr (w0 w : World) (B a mb : Nat) (L : Al Nat) (F : Nat → Fl) (d : D) (tails : List Int) (k : Nat) (F' : Nat → Fl) (dd : D) : Prop where
  da : Da w B a mb L F' (.slice none 0 0) dd
  down : dd.down = false
  tr : dd.tr = []
  room : dd.room = d.room
  ops : dd.ops = d.ops
  at_ : ∀ (i : Nat) p, L[i]? = some p → F' p.2 = if i < k then keep (F p.2) tails[i]? else F p.2
  bel : Below B w0 w
  fm : Fm w0 w

theorem Cr.done {w0 w : World} {B a mb : Nat} {L : Al Nat} {F : Nat → Fl} {tv : Value} {d : D} {tails : List Int} {F' : Nat → Fl} {dd : D} (h : Cr w0 w B a mb L F d tails L.length F' dd) (h0 : d.fs = L.map fun p => (p.1, F p.2)) : Sd B a mb (crash d tails) w0 w := by
  have e : dd = crash d tails := by
    have hfs : dd.fs = crashF tails 0 d.fs := by
      rw [h.da.fs, h0]
      refine crashF_eq tails F F' L 0 fun j p hp => ?_
      have := h.at_ j p hp
      rw [if_pos (List.getElem?_eq_some_iff.1 hp).1] at this
      rw [Nat.zero_add]
      exact this
    have h1 := h.down; have h2 := h.tr; have h3 := h.room; have h4 := h.ops
    cases dd
    cases d
    simp only at *
    subst h1 h2 h3 h4 hfs
    rfl
  rw [← e]
  exact ⟨h.bel, h.fm, L, F', _, h.da⟩

set_option maxHeartbeats 2000000 in
set_option maxRecDepth 100000 in
theorem Crash_any (w : World) (B a mb : Nat) (L : Al Nat) (F : Nat → Fl) (tv : Value) (d : D) (h : Da w B a mb L F tv d) (hl : L.length ≤ 1000) (hfl : ∀ p ∈ d.fs, p.1.length ≤ 1000 ∧ p.2.data.length ≤ 1000000000 ∧ p.2.safe ≤ p.2.data.length)
    (At : Option Addr) (nt ct : Nat) (tails : List Int) (hT : ∀ w', Below B w w' → Fm w w' → Rd w' At nt ct (tails.map (Value.int .i64))) :
    Calls Tryz.prog 30 #[.pointer (some ⟨a, 0, none⟩), .slice At nt ct] w fun e w' => e = .returned (.tuple #[]) ∧ Sd B a mb (crash d tails) w w' := by
  have hB : B ≤ w.heap.size := by have := h.alt; have := h.base; omega
  have hrt := hT w (Below.refl _ _) (Fm.refl _)
  have hnt : tails.length = nt := by have := Rd.len hrt; simpa using this
  have hle := Rd.le hrt
  have hmx := Rd.max hrt
  obtain ⟨hD0, hb0⟩ := h.setDown false
  have g1 := grown_set (w.setCell ⟨a, 4, none⟩ (.bool false)) ⟨a, 2, none⟩ (.slice none 0 0)
  have hD1 := hD0.setA g1 (tr' := []) (ops' := d.ops) (down' := false) (setCell_blk hD0.blk (.slice none 0 0)) (World.ownsRow_nil _ _ _ _)
  have hf0 : Fm w (w.setCell ⟨a, 4, none⟩ (.bool false)) := Fm.grown (grown_set w ⟨a, 4, none⟩ (.bool false)) (fun cs E fr he => by rw [h.blk] at he; injection he with he; injection he with _ he _; exact .inr he.symm)
  have hf1 : Fm w ((w.setCell ⟨a, 4, none⟩ (.bool false)).setCell ⟨a, 2, none⟩ (.slice none 0 0)) := hf0.trans (Fm.grown g1 (fun cs E fr he => by rw [hD0.blk] at he; injection he with he; injection he with _ he _; exact .inr he.symm))
  have hb1 : Below B w ((w.setCell ⟨a, 4, none⟩ (.bool false)).setCell ⟨a, 2, none⟩ (.slice none 0 0)) := hb0.trans (below_row g1 hD0.base.1 (by have := hD0.alt; have := hD0.base; omega))
  have c4 : w.cell? ⟨a, 4, none⟩ = some (.bool d.down) := by simp [World.cell?, h.blk]
  have f4 : w.frozen? ⟨a, 4, none⟩ = false := frozen_of_row w a 4 _ _ h.blk
  have c2 : (w.setCell ⟨a, 4, none⟩ (.bool false)).cell? ⟨a, 2, none⟩ = some tv := by simp [World.cell?, hD0.blk]
  have f2 : (w.setCell ⟨a, 4, none⟩ (.bool false)).frozen? ⟨a, 2, none⟩ = false := frozen_of_row _ a 2 _ _ hD0.blk
  obtain ⟨w1, hw1⟩ : ∃ w1, (w.setCell ⟨a, 4, none⟩ (.bool false)).setCell ⟨a, 2, none⟩ (.slice none 0 0) = w1 := ⟨_, rfl⟩
  rw [hw1] at hD1 hf1 hb1
  have hnm := Names_any w1 B a mb L F _ _ hD1 (by omega)
  have hD1' := Lib.hid hD1
  have hf1' := Lib.hid hf1
  have hb1' := Lib.hid hb1
  have hT' := Lib.hid hT
  have hfl' := Lib.hid hfl
  have hfs := Lib.hid h.fs
  have hnt' := Lib.hid hnt
  clear h hfl hT hrt hD0 hb0 g1 hD1 hf0 hf1 hb1 hnt
  go_enter Tryz.func30, Tryz.ntmps30
  go_wp2_with fail
  refine hnm.mono ?_
  rintro e w2 ⟨A, n, c, rfl, hnl, hb2, ho2⟩
  have hbb : Below B w w2 := hb1'.out.trans (hb2.mono (by have := hb1'.out.size; omega))
  have hff : Fm w w2 := hf1'.out.trans (Fm.below hb2)
  have hst : Hid (Cr w w2 B a mb L F d tails 0 F { d with tr := [], ops := d.ops, down := false }) := Lib.hid ⟨hD1'.out.below hb2, rfl, rfl, rfl, rfl, fun i p _ => by rw [if_neg (by omega)], hbb, hff⟩
  have hrn := Lib.hid ho2
  obtain rfl : L.length = n := hnl.symm
  have hr2 := rd_of_own ho2
  have hle2 := Rd.le hr2
  have hmx2 := Rd.max hr2
  have hs2 := hbb.size
  clear hnm hb2 ho2 hnl hbb hff hr2 c4 f4 c2 f2 hw1
  go_wp2_with fail
  go_loopw [17] (fun i wr => ∃ (k : Nat) (F' : Nat → Fl) (dd : D), k ≤ L.length ∧ i = .int .i64 k ∧ Hid (Cr w wr B a mb L F d tails k F' dd) ∧ Hid (wr.ownsRow w1.heap.size 9 1 (.slice A L.length c) L.length (L.map fun p => encStr p.1))) (fun i _ => L.length - (intOf i).toNat)
  case atStart => exact ⟨0, F, _, by omega, rfl, hst, hrn⟩
  case round =>
    obtain ⟨k, F', dd, hk, rfl, hC, hN⟩ := hrel
    by_cases hlt : k < L.length
    · obtain ⟨b', off, u, rfl, hb, hu, hc1⟩ := Rd.at_ (rd_of_own hN.out) hlt
      have hLk : L[k]? = some L[k] := List.getElem?_eq_getElem hlt
      obtain ⟨nm, fb, hp⟩ : ∃ nm fb, L[k] = (nm, fb) := ⟨_, _, rfl⟩
      rw [List.getElem?_map, hLk, hp] at hu
      simp only [Option.map_some, Option.some.injEq] at hu
      rw [hp] at hLk
      have hmem := List.mem_of_getElem? hLk
      have hD := hC.out.da
      have hget : Dk.get L nm = some fb := get_of_mem hD.up hmem
      have hfp := hfl'.out (nm, F fb) (by rw [hfs.out]; exact List.mem_map.2 ⟨_, hmem, rfl⟩)
      have hFF : F' fb = F fb := by have := hC.out.at_ k _ hLk; rw [if_neg (by omega)] at this; exact this
      obtain ⟨s, hs⟩ : ∃ s : ByteArray, encStr nm = .string s ∧ s.data.toList = nm ∧ s.size ≤ 1000 := ⟨⟨nm.toArray⟩, rfl, by simp, by simp only at hfp; show nm.toArray.size ≤ 1000; simp; exact hfp.1⟩
      obtain ⟨hs1, hs2, hs3⟩ := hs
      rw [← hu, hs1] at hc1
      have hlk := hD.look s (by unfold maxLen; omega)
      rw [hs2, hget] at hlk
      simp only [Option.map_some] at hlk
      obtain ⟨hBb, hblt, A0, c0, hfb, hbs⟩ := hD.file hget
      rw [hFF] at hfb hbs
      have kf : wr.cell? ⟨fb, 0, none⟩ = some (.slice A0 (F fb).data.length c0) := by simp [World.cell?, hfb]
      have ks : wr.cell? ⟨fb, 1, none⟩ = some (.int .i64 ((F fb).safe : Nat)) := by simp [World.cell?, hfb]
      have ff0 : wr.frozen? ⟨fb, 0, none⟩ = false := frozen_of_row wr fb 0 _ _ hfb
      have c1 := hD.c1
      obtain ⟨h1000, hdl, hsd⟩ := hfp
      simp only at hdl hsd
      --BEGIN
      have hkp : ∃ kp, keepN (F fb) tails[k]? = kp ∧ (F fb).safe + kp ≤ (F fb).data.length := ⟨_, rfl, keepN_le hsd⟩
      obtain ⟨kp, hkp, hkl⟩ := hkp
      have hcl : ∀ m, m ≤ (F fb).data.length → ∀ w2, Below wr.heap.size wr w2 → Calls Tryz.prog 79 #[.slice A0 m c0] w2 fun e w3 => ∃ v, e = .returned v ∧ Hid (OwB w3 w2.heap.size 5 v ((F fb).data.take m)) ∧ Hid (Below w2.heap.size w2 w3) := fun m hm w2 hb2 => by
        have hcut := hbs.cut 0 m (by omega) hm A0 (by intro b off e _; rw [e]; rfl) (fun e => e) (fun e => e)
        rw [Nat.sub_zero, Nat.sub_zero, List.drop_zero] at hcut
        refine (clone_any A0 m c0 _ w2 (hcut.below hb2) (by omega)).mono ?_
        rintro e w3 ⟨v, rfl, h1, h2⟩
        exact ⟨v, rfl, Lib.hid h1, Lib.hid h2⟩
      have hcl' := Lib.hid (hcl ((F fb).safe + kp) hkl)
      have hnc := Rd.le hbs
      have hget' := Lib.hid hget
      have hLk' := Lib.hid hLk
      have hFF' := Lib.hid hFF
      have hkpv : Hid (keep (F fb) tails[k]? = ⟨(F fb).data.take ((F fb).safe + kp), ((F fb).data.take ((F fb).safe + kp)).length⟩) := Lib.hid (by unfold keep; rw [hkp])
      have hlt' := Lib.hid hblt
      obtain ⟨N, hN0⟩ : ∃ N, (F fb).data.length = N := ⟨_, rfl⟩
      obtain ⟨sf, hsf⟩ : ∃ sf, (F fb).safe = sf := ⟨_, rfl⟩
      have hN0' := Lib.hid hN0
      have hsf' := Lib.hid hsf
      have hkp' := Lib.hid hkp
      have hrt := hT'.out wr hC.out.bel hC.out.fm
      have htk : ∀ z, tails[k]? = some z → (k < tails.length) := fun z hz => (List.getElem?_eq_some_iff.1 hz).1
      rw [hN0] at kf hdl hsd hkl hnc
      rw [hsf] at ks hsd hkl hcl' hkpv
      clear hD hu hp hfb hbs hmem hget hs1 hcl hN0 hsf hLk hs2 hblt hFF hkp
      have q1 : (0 : Int) ≤ (sf : Int) + (kp : Int) ∧ (sf : Int) + (kp : Int) ≤ (c0 : Int) := by omega
      have q2 : IntKind.i64.wrap ((sf : Int) + (kp : Int)) = (sf : Int) + (kp : Int) := IntWalk.i64_in _ (by omega)
      have q3 : ((sf : Int) + (kp : Int)).toNat = sf + kp := by omega
      have q4 : (sf : Int) + (kp : Int) ≤ (c0 : Int) := by omega
      have q5 : (0 : Int) ≤ (sf : Int) + (kp : Int) := by omega
      by_cases hkt : k < tails.length
      · have hz : tails[k]? = some tails[k] := List.getElem?_eq_getElem hkt
        obtain ⟨z, hz1⟩ : ∃ z, tails[k] = z := ⟨_, rfl⟩
        rw [hz1] at hz
        have hkk : Hid (min (max z 0) ((N : Int) - (sf : Int)) = (kp : Int)) := Lib.hid (by have := hkp'.out; rw [hz] at this; unfold keepN at this; simp only [hN0'.out, hsf'.out] at this; omega)
        obtain ⟨bt, offt, ut, rfl, hbt, hut, hct⟩ := Rd.at_ hrt (k := k) (by rw [← hnt'.out]; exact hkt)
        rw [List.getElem?_map, hz] at hut
        simp only [Option.map_some, Option.some.injEq] at hut
        subst hut
        have hkn : k < nt := by have := hnt'.out; omega
        have q6 : IntKind.i64.wrap ((N : Int) - (sf : Int)) = (N : Int) - (sf : Int) := IntWalk.i64_in _ (by omega)
        clear hrt htk hz hz1
        go_wp2_with fail
        go_big_quiet (fail)
        have hbq : Hid (Below wr.heap.size wr (wr.drewN nq)) := Lib.hid (Joins.below_draws _ wr nq)
        go_wp2_with fail
        rw [hkk.out]
        have kf := (hbq.out.cell (p := ⟨fb, 0, none⟩) hlt'.out).trans kf
        have ks := (hbq.out.cell (p := ⟨fb, 1, none⟩) hlt'.out).trans ks
        generalize wr.drewN nq = wq at *
        clear hct
        refine Pl.wp_region_plan 13 (.take 0 (.take 1 (.take 2 (.take 3 (.take 4 (.take 5 (.take 6 (.take 7 (.take 8 (.take 9 (.take 10 (.take 11 (.run 12 .done)))))))))))))
          (fun x => x.cell? ⟨fb, 0, none⟩ = some (.slice A0 N c0) ∧ x.cell? ⟨fb, 1, none⟩ = some (.int .i64 (sf : Nat))) (by kernel_rfl) (by kernel_rfl) (by exact ⟨kf, ks⟩) ?_
        simp only [Pl.fill, List.getElem?_cons_zero, List.getElem?_cons_succ, List.drop_succ_cons, List.drop_zero]
        iterate 12
          refine Pl.take_go ?_ (by rfl) (fun _ _ _ h => h) ?_ ?_
          rotate_left
          · (intro x hSw; (try dsimp only at hSw); go_simp; try with_reducible rfl)
          try simp only [Act.put, List.setIfInBounds_toArray, List.set_cons_zero, List.set_cons_succ]
        refine Pl.run_go (fun K hK => ?_)
        go_simp
        have hbd := bD (Below.refl wq.heap.size wq)
        refine (hcl'.out wq.drew (hbq.out.trans (hbd.mono hbq.out.size))).mono ?_
        rintro e w3 ⟨v, rfl, ho3, hb3⟩
        have htl : ((F fb).data.take (sf + kp)).length = (sf + kp) := by rw [List.length_take, hN0'.out]; omega
        have hv : ∃ A3 c3, v = .slice A3 (sf + kp) c3 := by
          obtain ⟨A3, c3, e3, _⟩ := OwB.slice ho3.out
          rw [htl] at e3
          exact ⟨A3, c3, e3⟩
        obtain ⟨A3, c3, rfl⟩ := hv
        have hbw3 := Lib.hid (hbd.trans (hb3.out.mono (by simp)))
        have hx3 := Lib.hid (hbq.out.trans (hbw3.out.mono hbq.out.size))
        have hD3 := hC.out.da.below hx3.out
        have hfile := hD3.file hget'.out
        obtain ⟨hB3, hlt3, A9, c9, hb9, _⟩ := hfile
        have hBw : B ≤ wq.drew.heap.size := by have := hC.out.bel.size; have := hbq.out.size; simp; omega
        have g2 := grown_set w3 ⟨fb, 0, none⟩ (.slice A3 (sf + kp) c3)
        have hD4 := hD3.setF (get_mem hget'.out) g2 (g := fun f => ⟨f.data.take (sf + kp), f.safe⟩) (v' := .slice A3 (sf + kp) c3) (setCell_blk hb9 _)
          (row_kept (by rw [hFF'.out]; exact OwB.base ho3.out hBw) g2 (file_noE hb9 (by decide)))
        have hfile4 := hD4.file hget'.out
        obtain ⟨_, _, A10, c10, hb10, _⟩ := hfile4
        have g3 := grown_set (w3.setCell ⟨fb, 0, none⟩ (.slice A3 (sf + kp) c3)) ⟨fb, 1, none⟩ (.int .i64 (((sf + kp) : Nat) : Int))
        have hown4 := (hD4.files _ (get_mem hget'.out)).2
        have hblk4 : (w3.setCell ⟨fb, 0, none⟩ (.slice A3 (sf + kp) c3)).heap[fb]? = some (.cells #[.slice A3 (sf + kp) c3, .int .i64 ((F' fb).safe : Nat)] 132) := setCell_blk hb9 _
        have hD5 := hD4.setF (get_mem hget'.out) g3 (g := fun f => ⟨f.data, f.data.length⟩) (v' := .slice A3 (sf + kp) c3) (by
            rw [setCell_blk hblk4]
            simp only [if_pos, hFF'.out, htl]
            rfl)
          (row_kept (by simp only [if_pos, hFF'.out]; exact row_kept (OwB.base ho3.out hBw) g2 (file_noE hb9 (by decide))) g3 (file_noE hblk4 (by decide)))
        have hb5 : Below B w3 ((w3.setCell ⟨fb, 0, none⟩ (.slice A3 (sf + kp) c3)).setCell ⟨fb, 1, none⟩ (.int .i64 (((sf + kp) : Nat) : Int))) := (below_row g2 hB3 (by omega)).trans (below_row g3 hB3 (by rw [set_size]; omega))
        have hf5 : Fm w3 ((w3.setCell ⟨fb, 0, none⟩ (.slice A3 (sf + kp) c3)).setCell ⟨fb, 1, none⟩ (.int .i64 (((sf + kp) : Nat) : Int))) := (file_fm hb9 _).trans (file_fm hblk4 _)
        have hnd := hC.out.da.nd
        have hL := hLk'.out
        have hfin : Hid (∃ F2 dd2, Cr w ((w3.setCell ⟨fb, 0, none⟩ (.slice A3 (sf + kp) c3)).setCell ⟨fb, 1, none⟩ (.int .i64 (((sf + kp) : Nat) : Int))) B a mb L F d tails (k + 1) F2 dd2) := by
          refine Lib.hid ⟨_, _, hD5, hC.out.down, hC.out.tr, hC.out.room, hC.out.ops, fun i p hp => ?_, hC.out.bel.trans ((hx3.out.mono (by have := hC.out.da.alt; have := hC.out.da.base; omega)).trans hb5), hC.out.fm.trans ((Fm.below hx3.out).trans hf5)⟩
          have hat := hC.out.at_ i p hp
          by_cases e : p.2 = fb
          · have hpe : p = (nm, fb) := nodup_inj L hnd p (List.mem_of_getElem? hp) (nm, fb) (List.mem_of_getElem? hL) e
            subst hpe
            have hik : i = k := by
              have h1 := hC.out.da.nd
              have hi1 : (L.map (·.2))[i]? = some fb := by rw [List.getElem?_map, hp]; rfl
              have hk1 : (L.map (·.2))[k]? = some fb := by rw [List.getElem?_map, hL]; rfl
              exact nodup_idx h1 hi1 hk1
            subst hik
            simp only [if_pos]
            rw [if_pos (by omega), hkpv.out, hFF'.out]
          · simp only [if_neg e]
            rw [hat]
            have hne : i ≠ k := fun e2 => by
              subst e2
              rw [hL] at hp
              injection hp with hp
              rw [← hp] at e
              exact e rfl
            by_cases h1 : i < k
            · rw [if_pos h1, if_pos (by omega)]
            · rw [if_neg h1, if_neg (by omega)]
        have hN5 := Lib.hid (Fm.row ((Fm.below hx3.out).trans hf5) hN.out (by decide) (by decide))
        have m1 : w3.cell? ⟨fb, 0, none⟩ = some (.slice A0 N c0) := (hbw3.out.cell (p := ⟨fb, 0, none⟩) (by have := hlt'.out; have := hbq.out.size; show fb < wq.heap.size; omega)).trans kf
        have m2 : w3.cell? ⟨fb, 1, none⟩ = some (.int .i64 (sf : Nat)) := (hbw3.out.cell (p := ⟨fb, 1, none⟩) (by have := hlt'.out; have := hbq.out.size; show fb < wq.heap.size; omega)).trans ks
        have fz0 : w3.frozen? ⟨fb, 0, none⟩ = false := frozen_of_row w3 fb 0 _ _ hb9
        have m3 : (w3.setCell ⟨fb, 0, none⟩ (.slice A3 (sf + kp) c3)).cell? ⟨fb, 0, none⟩ = some (.slice A3 (sf + kp) c3) := cell_blk hblk4 rfl
        have m4 : (w3.setCell ⟨fb, 0, none⟩ (.slice A3 (sf + kp) c3)).cell? ⟨fb, 1, none⟩ = some (.int .i64 ((F' fb).safe : Nat)) := cell_blk hblk4 rfl
        have fz1 : (w3.setCell ⟨fb, 0, none⟩ (.slice A3 (sf + kp) c3)).frozen? ⟨fb, 1, none⟩ = false := frozen_of_row _ fb 1 _ _ hblk4
        clear hD3 hD4 hD5 hb5 hf5 g2 g3 hown4 hblk4 hb9 hb10 ho3 hb3 hnd hL hbd htl
        dsimp only
        refine hK.out _ _ (Pl.more_go _ (fun _ h => h) (by exact ⟨m1, m2⟩) ?_)
        clear hK K
        refine Pl.done_go ?_
        go_wp2_with fail
        go_roundw
        case rel =>
          obtain ⟨F2, dd2, h2⟩ := hfin.out
          exact ⟨k + 1, F2, dd2, by omega, by go_num, Lib.hid h2, hN5⟩
        case measure => simp [intOf]; omega
      · have hkn : ¬ k < nt := by have := hnt'.out; omega
        have hk0 : kp = 0 := by have := hkp'.out; rw [List.getElem?_eq_none (by omega)] at this; unfold keepN at this; exact this.symm
        subst hk0
        rw [Nat.add_zero] at hcl' hkpv
        have q7 : IntKind.i64.wrap (sf : Int) = (sf : Int) := IntWalk.i64_in _ (by omega)
        have q8 : (0 : Int) ≤ (sf : Int) ∧ (sf : Int) ≤ (c0 : Int) := by omega
        have q9 : sf ≤ c0 := by omega
        have hbq : Hid (Below wr.heap.size wr wr) := Lib.hid (Below.refl _ _)
        clear hrt htk q1 q2 q3 q4 q5
        go_wp2_with fail
        refine Pl.wp_region_plan 13 (.take 0 (.take 1 (.take 2 (.take 3 (.take 4 (.take 5 (.take 6 (.take 7 (.take 8 (.take 9 (.take 10 (.take 11 (.run 12 .done)))))))))))))
          (fun x => x.cell? ⟨fb, 0, none⟩ = some (.slice A0 N c0) ∧ x.cell? ⟨fb, 1, none⟩ = some (.int .i64 (sf : Nat))) (by kernel_rfl) (by kernel_rfl) (by exact ⟨kf, ks⟩) ?_
        simp only [Pl.fill, List.getElem?_cons_zero, List.getElem?_cons_succ, List.drop_succ_cons, List.drop_zero]
        iterate 12
          refine Pl.take_go ?_ (by rfl) (fun _ _ _ h => h) ?_ ?_
          rotate_left
          · (intro x hSw; (try dsimp only at hSw); go_simp; try with_reducible rfl)
          try simp only [Act.put, List.setIfInBounds_toArray, List.set_cons_zero, List.set_cons_succ]
        refine Pl.run_go (fun K hK => ?_)
        go_simp
        have hbd := bD (Below.refl wr.heap.size wr)
        refine (hcl'.out wr.drew (hbq.out.trans (hbd.mono hbq.out.size))).mono ?_
        rintro e w3 ⟨v, rfl, ho3, hb3⟩
        have htl : ((F fb).data.take sf).length = sf := by rw [List.length_take, hN0'.out]; omega
        have hv : ∃ A3 c3, v = .slice A3 sf c3 := by
          obtain ⟨A3, c3, e3, _⟩ := OwB.slice ho3.out
          rw [htl] at e3
          exact ⟨A3, c3, e3⟩
        obtain ⟨A3, c3, rfl⟩ := hv
        have hbw3 := Lib.hid (hbd.trans (hb3.out.mono (by simp)))
        have hx3 := Lib.hid (hbq.out.trans (hbw3.out.mono hbq.out.size))
        have hD3 := hC.out.da.below hx3.out
        have hfile := hD3.file hget'.out
        obtain ⟨hB3, hlt3, A9, c9, hb9, _⟩ := hfile
        have hBw : B ≤ wr.drew.heap.size := by have := hC.out.bel.size; have := hbq.out.size; simp; omega
        have g2 := grown_set w3 ⟨fb, 0, none⟩ (.slice A3 sf c3)
        have hD4 := hD3.setF (get_mem hget'.out) g2 (g := fun f => ⟨f.data.take sf, f.safe⟩) (v' := .slice A3 sf c3) (setCell_blk hb9 _)
          (row_kept (by rw [hFF'.out]; exact OwB.base ho3.out hBw) g2 (file_noE hb9 (by decide)))
        have hfile4 := hD4.file hget'.out
        obtain ⟨_, _, A10, c10, hb10, _⟩ := hfile4
        have g3 := grown_set (w3.setCell ⟨fb, 0, none⟩ (.slice A3 sf c3)) ⟨fb, 1, none⟩ (.int .i64 ((sf : Nat) : Int))
        have hown4 := (hD4.files _ (get_mem hget'.out)).2
        have hblk4 : (w3.setCell ⟨fb, 0, none⟩ (.slice A3 sf c3)).heap[fb]? = some (.cells #[.slice A3 sf c3, .int .i64 ((F' fb).safe : Nat)] 132) := setCell_blk hb9 _
        have hD5 := hD4.setF (get_mem hget'.out) g3 (g := fun f => ⟨f.data, f.data.length⟩) (v' := .slice A3 sf c3) (by
            rw [setCell_blk hblk4]
            simp only [if_pos, hFF'.out, htl]
            rfl)
          (row_kept (by simp only [if_pos, hFF'.out]; exact row_kept (OwB.base ho3.out hBw) g2 (file_noE hb9 (by decide))) g3 (file_noE hblk4 (by decide)))
        have hb5 : Below B w3 ((w3.setCell ⟨fb, 0, none⟩ (.slice A3 sf c3)).setCell ⟨fb, 1, none⟩ (.int .i64 ((sf : Nat) : Int))) := (below_row g2 hB3 (by omega)).trans (below_row g3 hB3 (by rw [set_size]; omega))
        have hf5 : Fm w3 ((w3.setCell ⟨fb, 0, none⟩ (.slice A3 sf c3)).setCell ⟨fb, 1, none⟩ (.int .i64 ((sf : Nat) : Int))) := (file_fm hb9 _).trans (file_fm hblk4 _)
        have hnd := hC.out.da.nd
        have hL := hLk'.out
        have hfin : Hid (∃ F2 dd2, Cr w ((w3.setCell ⟨fb, 0, none⟩ (.slice A3 sf c3)).setCell ⟨fb, 1, none⟩ (.int .i64 ((sf : Nat) : Int))) B a mb L F d tails (k + 1) F2 dd2) := by
          refine Lib.hid ⟨_, _, hD5, hC.out.down, hC.out.tr, hC.out.room, hC.out.ops, fun i p hp => ?_, hC.out.bel.trans ((hx3.out.mono (by have := hC.out.da.alt; have := hC.out.da.base; omega)).trans hb5), hC.out.fm.trans ((Fm.below hx3.out).trans hf5)⟩
          have hat := hC.out.at_ i p hp
          by_cases e : p.2 = fb
          · have hpe : p = (nm, fb) := nodup_inj L hnd p (List.mem_of_getElem? hp) (nm, fb) (List.mem_of_getElem? hL) e
            subst hpe
            have hik : i = k := by
              have h1 := hC.out.da.nd
              have hi1 : (L.map (·.2))[i]? = some fb := by rw [List.getElem?_map, hp]; rfl
              have hk1 : (L.map (·.2))[k]? = some fb := by rw [List.getElem?_map, hL]; rfl
              exact nodup_idx h1 hi1 hk1
            subst hik
            simp only [if_pos]
            rw [if_pos (by omega), hkpv.out, hFF'.out]
          · simp only [if_neg e]
            rw [hat]
            have hne : i ≠ k := fun e2 => by
              subst e2
              rw [hL] at hp
              injection hp with hp
              rw [← hp] at e
              exact e rfl
            by_cases h1 : i < k
            · rw [if_pos h1, if_pos (by omega)]
            · rw [if_neg h1, if_neg (by omega)]
        have hN5 := Lib.hid (Fm.row ((Fm.below hx3.out).trans hf5) hN.out (by decide) (by decide))
        have m1 : w3.cell? ⟨fb, 0, none⟩ = some (.slice A0 N c0) := (hbw3.out.cell (p := ⟨fb, 0, none⟩) (by have := hlt'.out; have := hbq.out.size; show fb < wr.heap.size; omega)).trans kf
        have m2 : w3.cell? ⟨fb, 1, none⟩ = some (.int .i64 (sf : Nat)) := (hbw3.out.cell (p := ⟨fb, 1, none⟩) (by have := hlt'.out; have := hbq.out.size; show fb < wr.heap.size; omega)).trans ks
        have fz0 : w3.frozen? ⟨fb, 0, none⟩ = false := frozen_of_row w3 fb 0 _ _ hb9
        have m3 : (w3.setCell ⟨fb, 0, none⟩ (.slice A3 sf c3)).cell? ⟨fb, 0, none⟩ = some (.slice A3 sf c3) := cell_blk hblk4 rfl
        have m4 : (w3.setCell ⟨fb, 0, none⟩ (.slice A3 sf c3)).cell? ⟨fb, 1, none⟩ = some (.int .i64 ((F' fb).safe : Nat)) := cell_blk hblk4 rfl
        have fz1 : (w3.setCell ⟨fb, 0, none⟩ (.slice A3 sf c3)).frozen? ⟨fb, 1, none⟩ = false := frozen_of_row _ fb 1 _ _ hblk4
        clear hD3 hD4 hD5 hb5 hf5 g2 g3 hown4 hblk4 hb9 hb10 ho3 hb3 hnd hL hbd htl
        dsimp only
        refine hK.out _ _ (Pl.more_go _ (fun _ h => h) (by exact ⟨m1, m2⟩) ?_)
        clear hK K
        refine Pl.done_go ?_
        go_wp2_with fail
        go_roundw
        case rel =>
          obtain ⟨F2, dd2, h2⟩ := hfin.out
          exact ⟨k + 1, F2, dd2, by omega, by go_num, Lib.hid h2, hN5⟩
        case measure => simp [intOf]; omega
    · have : k = L.length := by omega
      subst this
      go_wp2_with fail
      go_end0
      exact ⟨rfl, hC.out.done (tv := tv) hfs.out⟩
end Go.Proofs.YtfdpnjebhllpkaaGreatDoor.Dk
end

section
namespace Go.Proofs.YtfdpnjebhllpkaaGreatDoor.Dk
open Go.RowKit

theorem loadF_take : ∀ (l : List In) (k : Nat) (fs0 fs : Fs), loadF (l.take k) fs0 = some fs → loadF l fs0 = loadF (l.drop k) fs
  | l, 0, fs0, fs, h => by simp [loadF] at h; subst h; rfl
  | [], k + 1, fs0, fs, h => by simp [loadF] at h; subst h; simp
  | f :: l, k + 1, fs0, fs, h => by
    rw [List.take_succ_cons, loadF] at h
    rw [loadF, List.drop_succ_cons]
    split at h
    · cases h
    · rename_i hn
      rw [if_neg hn]
      exact loadF_take l k _ _ h

theorem loadF_append : ∀ (a b : List In) (fs : Fs), loadF (a ++ b) fs = (loadF a fs).bind (loadF b)
  | [], b, fs => rfl
  | f :: a, b, fs => by
    rw [List.cons_append, loadF, loadF]
    split
    · rfl
    · exact loadF_append a b _
theorem loadF_used : ∀ (l : List In) (fs fs' : Fs), loadF l fs = some fs' → (∀ f ∈ l, f.data.length ≤ 1000000) → used fs' ≤ used fs + l.length * 1000000
  | [], fs, fs', h, _ => by simp [loadF] at h; subst h; simp
  | f :: l, fs, fs', h, hs => by
    rw [loadF] at h
    split at h
    · cases h
    · have := loadF_used l _ fs' h fun g hg => hs g (List.mem_cons_of_mem _ hg)
      rw [used_ins] at this
      have h1 := hs f (List.mem_cons_self ..)
      rw [List.length_cons, Nat.succ_mul]
      simp only at this
      omega

/-- A disk, or none. -/
def LdP (W : World) (X : Option D) (e : Ending) (w' : World) : Prop := Below W.heap.size W w' ∧
  match X with
  | none => e = .returned (.tuple #[.pointer none, .int .i64 80])
  | some d => ∃ b mb, e = .returned (.tuple #[.pointer (some ⟨b, 0, none⟩), .int .i64 0]) ∧ ∃ L F, Da w' W.heap.size b mb L F (.slice none 0 0) d

set_option maxHeartbeats 2000000 in
set_option maxRecDepth 100000 in
theorem Load_any (w : World) (A : Option Addr) (n c : Nat) (l : List In) (room : Int) (h : Sq FeEl 3 w A n c l) (hn : n ≤ 1000) (hsz : ∀ f ∈ l, f.nm.length ≤ 1000 ∧ f.data.length ≤ 1000000) (hroom : room ≤ 9223372036854775807) :
    Calls Tryz.prog 45 #[.slice A n c, .int .i64 room] w (LdP w (load l room)) := by
  have hnew := New_any w room
  have hl := h.len
  have hle := h.le
  have hmx := h.max
  have h' := Lib.hid h
  have hsz' := Lib.hid hsz
  have hl' := Lib.hid hl
  clear h hsz hl
  go_enter Tryz.func45, Tryz.ntmps45
  go_wp2_with fail
  refine hnew.mono ?_
  rintro e w1 ⟨b, mb, rfl, hD, hb1⟩
  have hst : Hid (Da w1 w.heap.size b mb [] (fun _ => ⟨[], 0⟩) (.slice none 0 0) (new room)) := Lib.hid (hD.out _ _ (Nat.le_refl _))
  have hb1' := Lib.hid hb1
  clear hnew hD hb1
  go_wp2_with fail
  go_loopw [13] (fun i wr => ∃ (k : Nat) (L : Al Nat) (F : Nat → Fl) (fs : Fs), k ≤ n ∧ i = .int .i64 k ∧ Hid (loadF (l.take k) [] = some fs) ∧ Hid (Da wr w.heap.size b mb L F (.slice none 0 0) { new room with fs := fs }) ∧ Hid (Below w.heap.size w wr) ∧ Hid (L.length ≤ k)) (fun i _ => n - (intOf i).toNat)
  case atStart => exact ⟨0, [], _, [], by omega, rfl, Lib.hid rfl, hst, hb1', Lib.hid (Nat.le_refl _)⟩
  case round =>
    obtain ⟨k, L, F, fs, hk, rfl, hF, hD, hb, hLk⟩ := hrel
    by_cases hlt : k < n
    · obtain ⟨ab, off, f, vs, rfl, hab, hfk, hvs, hel, hcs⟩ := (h'.out.below (fun vs x => FeEl.below hb.out vs x) hb.out).at_ hlt
      obtain ⟨s, A0, n0, c0, rfl, hnm, hbs⟩ := hel
      have k0 : wr.cell? ⟨ab, off + k * 3, none⟩ = some (.string s) := hcs 0 _ rfl
      have k1 : wr.cell? ⟨ab, off + k * 3 + 1, none⟩ = some (.slice A0 n0 c0) := hcs 1 _ rfl
      have k2 : wr.cell? ⟨ab, off + k * 3 + 2, none⟩ = some (.int .i64 f.safe) := hcs 2 _ rfl
      clear hcs hvs
      --BEGIN
      have hfg : l[k]'(by rw [hl'.out]; exact hlt) = f := by
        rw [List.getElem?_eq_getElem (by rw [hl'.out]; exact hlt)] at hfk
        injection hfk
      have hmemf := List.mem_of_getElem? hfk
      obtain ⟨hz1, hz2⟩ := hsz'.out f hmemf
      have hss : s.size ≤ 1000 := by rw [hnm, Array.length_toList] at hz1; exact hz1
      have hba := below_alloc wr (.cells #[.string s, .slice A0 n0 c0, .int .i64 f.safe] 84)
      have hnew := heap_alloc_new wr (.cells #[.string s, .slice A0 n0 c0, .int .i64 f.safe] 84)
      have hwfs : (wr.alloc (.cells #[.string s, .slice A0 n0 c0, .int .i64 f.safe] 84)).heap.size = wr.heap.size + 1 := by simp
      have hDf := hD.out.below hba
      obtain ⟨T, hT⟩ : ∃ T, wr.heap.size = T := ⟨_, rfl⟩
      obtain ⟨wf, hwf⟩ : ∃ wf, wr.alloc (.cells #[.string s, .slice A0 n0 c0, .int .i64 f.safe] 84) = wf := ⟨_, rfl⟩
      rw [hwf] at hba hnew hDf hwfs
      rw [hT] at hnew hba hwfs
      obtain ⟨G, hG⟩ : ∃ G, Dk.get L f.nm = G := ⟨_, rfl⟩
      have hSx : Hid (∀ x, Below wf.heap.size wf x → x.cell? ⟨T, 0, none⟩ = some (.string s) ∧ x.cell? ⟨T, 1, none⟩ = some (.slice A0 n0 c0) ∧ x.cell? ⟨T, 2, none⟩ = some (.int .i64 f.safe) ∧ x.cell? ⟨b, 1, none⟩ = some (.map (some mb)) ∧
          (Instr.lookup 111 (.map (some mb)) (.string s) false).run Tryz.prog x = .ok (.pointer (G.map fun b => ⟨b, 0, none⟩)) x) := Lib.hid fun x hx => by
        have hDx := hDf.below hx
        have hbx := (hx.block T (by omega)).trans hnew
        refine ⟨cell_blk hbx rfl, cell_blk hbx rfl, cell_blk hbx rfl, hDx.c1, ?_⟩
        have := hDx.look s (by unfold maxLen; omega)
        rw [← hnm, hG] at this
        exact this
      have hS0 := hSx.out wf (Below.refl _ _)
      have hbf : Hid (Below w.heap.size w wf) := Lib.hid (hb.out.trans (hba.mono (by have := hb.out.size; omega)))
      have hDf' := Lib.hid hDf
      have hgetd : Hid (Dk.get fs f.nm = G.map F) := Lib.hid (by have := hD.out.get f.nm; rw [hG] at this; exact this)
      have hn0 : f.data.length = n0 := hbs.len
      have hbs' : Hid (Bs wf A0 n0 c0 f.data) := Lib.hid (hbs.below (by rw [hT]; exact hba))
      have hnc0 := Rd.le hbs
      have hmx0 := Rd.max hbs
      have hn0' := Lib.hid hn0
      have hTblk := Lib.hid hnew
      have hwfs' := Lib.hid hwfs
      have hnm' := Lib.hid hnm
      have hG' := Lib.hid hG
      have hn0b : n0 ≤ 1000000 := by omega
      clear hba hnew hDf hG hmemf hbs hn0 hab hwfs hz1 hz2
      cases G with
      | some gb =>
        simp only [Option.map_some] at hSx hS0 hgetd
        clear hnm
        go_wp2_with fail
        refine Pl.wp_region_plan 27 (.take 0 (.take 1 (.take 2 (.take 3 (.take 4 (.take 5 (.take 6 (.take 7 (.take 8 (.take 9 (.take 10 (.run 11 (.take 12 (.take 13 (.take 14 (.take 15 (.take 16 (.take 17 (.take 18 (.take 19 (.take 20 (.take 21 (.take 22 (.take 23 (.take 24 (.take 25 (.take 26 .done))))))))))))))))))))))))))) (fun x => x.cell? ⟨T, 0, none⟩ = some (.string s) ∧ x.cell? ⟨T, 1, none⟩ = some (.slice A0 n0 c0) ∧ x.cell? ⟨T, 2, none⟩ = some (.int .i64 f.safe) ∧ x.cell? ⟨b, 1, none⟩ = some (.map (some mb)) ∧ (Instr.lookup 111 (.map (some mb)) (.string s) false).run Tryz.prog x = .ok (.pointer (some ⟨gb, 0, none⟩)) x) (by kernel_rfl) (by kernel_rfl) (by exact hSx.out _ (bD (Below.refl _ _))) ?_
        simp only [Pl.fill, List.getElem?_cons_zero, List.getElem?_cons_succ, List.drop_succ_cons, List.drop_zero]
        iterate 9
          refine Pl.take_go ?_ (by rfl) (fun _ _ _ h => h) ?_ ?_
          rotate_left
          · (intro x hSw; (try dsimp only at hSw); go_simp; try with_reducible rfl)
          try simp only [Act.put, List.setIfInBounds_toArray, List.set_cons_zero, List.set_cons_succ]
        iterate 2
          refine Pl.take_skip (by rfl) (fun _ _ _ h => h) ?_
          try simp only [Act.put, List.setIfInBounds_toArray, List.set_cons_zero, List.set_cons_succ]
        refine Pl.run_go (fun K hK => ?_)
        go_simp
        refine hK.out _ _ (Pl.more_go _ (fun _ h => h) (by exact hSx.out _ (bD (Below.refl _ _))) ?_)
        clear hK K
        iterate 1
          refine Pl.take_skip (by rfl) (fun _ _ _ h => h) ?_
          try simp only [Act.put, List.setIfInBounds_toArray, List.set_cons_zero, List.set_cons_succ]
        iterate 2
          refine Pl.take_go ?_ (by rfl) (fun _ _ _ h => h) ?_ ?_
          rotate_left
          · (intro x hSw; (try dsimp only at hSw); go_simp; try with_reducible rfl)
          try simp only [Act.put, List.setIfInBounds_toArray, List.set_cons_zero, List.set_cons_succ]
        iterate 3
          refine Pl.take_skip (by rfl) (fun _ _ _ h => h) ?_
          try simp only [Act.put, List.setIfInBounds_toArray, List.set_cons_zero, List.set_cons_succ]
        iterate 2
          refine Pl.take_go ?_ (by rfl) (fun _ _ _ h => h) ?_ ?_
          rotate_left
          · (intro x hSw; (try dsimp only at hSw); go_simp; try with_reducible rfl)
          try simp only [Act.put, List.setIfInBounds_toArray, List.set_cons_zero, List.set_cons_succ]
        iterate 6
          refine Pl.take_skip (by rfl) (fun _ _ _ h => h) ?_
          try simp only [Act.put, List.setIfInBounds_toArray, List.set_cons_zero, List.set_cons_succ]
        iterate 1
          refine Pl.take_go ?_ (by rfl) (fun _ _ _ h => h) ?_ ?_
          rotate_left
          · (intro x hSw; (try dsimp only at hSw); go_simp; try with_reducible rfl)
          try simp only [Act.put, List.setIfInBounds_toArray, List.set_cons_zero, List.set_cons_succ]
        have hno : Hid (load l room = none) := Lib.hid (by unfold load; rw [loadF_take l k [] fs hF.out, List.drop_eq_getElem_cons (by rw [hl'.out]; exact hlt), hfg, loadF, if_pos (.inl (by rw [hgetd.out]; rfl))])
        refine Pl.done_go ?_
        clear hS0
        go_wp2_with fail
        go_ret2
        rw [hno.out]
        exact ⟨hbf.out.trans (Joins.below_draws _ wf 1), rfl⟩
      | none =>
        simp only [Option.map_none] at hSx hS0 hgetd
        cases hmay : may s.data.toList with
        | false =>
          clear hnm
          go_wp2_with fail
          refine Pl.wp_region_plan 27 (.take 0 (.take 1 (.take 2 (.take 3 (.take 4 (.take 5 (.take 6 (.take 7 (.take 8 (.take 9 (.take 10 (.run 11 (.take 12 (.take 13 (.take 14 (.take 15 (.take 16 (.take 17 (.take 18 (.take 19 (.take 20 (.take 21 (.take 22 (.take 23 (.take 24 (.take 25 (.take 26 .done))))))))))))))))))))))))))) (fun x => x.cell? ⟨T, 0, none⟩ = some (.string s) ∧ x.cell? ⟨T, 1, none⟩ = some (.slice A0 n0 c0) ∧ x.cell? ⟨T, 2, none⟩ = some (.int .i64 f.safe) ∧ x.cell? ⟨b, 1, none⟩ = some (.map (some mb)) ∧ (Instr.lookup 111 (.map (some mb)) (.string s) false).run Tryz.prog x = .ok (.pointer none) x) (by kernel_rfl) (by kernel_rfl) (by exact hSx.out _ (bD (Below.refl _ _))) ?_
          simp only [Pl.fill, List.getElem?_cons_zero, List.getElem?_cons_succ, List.drop_succ_cons, List.drop_zero]
          iterate 11
            refine Pl.take_go ?_ (by rfl) (fun _ _ _ h => h) ?_ ?_
            rotate_left
            · (intro x hSw; (try dsimp only at hSw); go_simp; try with_reducible rfl)
            try simp only [Act.put, List.setIfInBounds_toArray, List.set_cons_zero, List.set_cons_succ]
          refine Pl.run_go (fun K hK => ?_)
          go_simp
          refine (may_any s (by omega) _).mono ?_
          rintro e w3 ⟨rfl, hb3⟩
          have hbm := (bD (Below.refl wf.heap.size wf)).trans (hb3.mono (by simp))
          have hbm' := Lib.hid hbm
          clear hb3
          rw [hmay]
          dsimp only
          refine hK.out _ _ (Pl.more_go _ (fun _ h => h) (by exact hSx.out _ hbm) ?_)
          clear hK K hbm
          iterate 3
            refine Pl.take_go ?_ (by rfl) (fun _ _ _ h => h) ?_ ?_
            rotate_left
            · (intro x hSw; (try dsimp only at hSw); go_simp; try with_reducible rfl)
            try simp only [Act.put, List.setIfInBounds_toArray, List.set_cons_zero, List.set_cons_succ]
          iterate 3
            refine Pl.take_skip (by rfl) (fun _ _ _ h => h) ?_
            try simp only [Act.put, List.setIfInBounds_toArray, List.set_cons_zero, List.set_cons_succ]
          iterate 2
            refine Pl.take_go ?_ (by rfl) (fun _ _ _ h => h) ?_ ?_
            rotate_left
            · (intro x hSw; (try dsimp only at hSw); go_simp; try with_reducible rfl)
            try simp only [Act.put, List.setIfInBounds_toArray, List.set_cons_zero, List.set_cons_succ]
          iterate 6
            refine Pl.take_skip (by rfl) (fun _ _ _ h => h) ?_
            try simp only [Act.put, List.setIfInBounds_toArray, List.set_cons_zero, List.set_cons_succ]
          iterate 1
            refine Pl.take_go ?_ (by rfl) (fun _ _ _ h => h) ?_ ?_
            rotate_left
            · (intro x hSw; (try dsimp only at hSw); go_simp; try with_reducible rfl)
            try simp only [Act.put, List.setIfInBounds_toArray, List.set_cons_zero, List.set_cons_succ]
          have hno : Hid (load l room = none) := Lib.hid (by unfold load; rw [loadF_take l k [] fs hF.out, List.drop_eq_getElem_cons (by rw [hl'.out]; exact hlt), hfg, loadF, if_pos (.inr (.inl (by rw [hnm'.out]; exact hmay)))])
          refine Pl.done_go ?_
          clear hS0
          go_wp2_with fail
          go_ret2
          rw [hno.out]
          exact ⟨hbf.out.trans (hbm'.out.mono (by have := hbf.out.size; omega)), rfl⟩
        | true =>
          by_cases hs0 : f.safe < 0
          · have hd0 : decide (f.safe < 0) = true := by simpa using hs0
            clear hnm
            go_wp2_with fail
            refine Pl.wp_region_plan 27 (.take 0 (.take 1 (.take 2 (.take 3 (.take 4 (.take 5 (.take 6 (.take 7 (.take 8 (.take 9 (.take 10 (.run 11 (.take 12 (.take 13 (.take 14 (.take 15 (.take 16 (.take 17 (.take 18 (.take 19 (.take 20 (.take 21 (.take 22 (.take 23 (.take 24 (.take 25 (.take 26 .done))))))))))))))))))))))))))) (fun x => x.cell? ⟨T, 0, none⟩ = some (.string s) ∧ x.cell? ⟨T, 1, none⟩ = some (.slice A0 n0 c0) ∧ x.cell? ⟨T, 2, none⟩ = some (.int .i64 f.safe) ∧ x.cell? ⟨b, 1, none⟩ = some (.map (some mb)) ∧ (Instr.lookup 111 (.map (some mb)) (.string s) false).run Tryz.prog x = .ok (.pointer none) x) (by kernel_rfl) (by kernel_rfl) (by exact hSx.out _ (bD (Below.refl _ _))) ?_
            simp only [Pl.fill, List.getElem?_cons_zero, List.getElem?_cons_succ, List.drop_succ_cons, List.drop_zero]
            iterate 11
              refine Pl.take_go ?_ (by rfl) (fun _ _ _ h => h) ?_ ?_
              rotate_left
              · (intro x hSw; (try dsimp only at hSw); go_simp; try with_reducible rfl)
              try simp only [Act.put, List.setIfInBounds_toArray, List.set_cons_zero, List.set_cons_succ]
            refine Pl.run_go (fun K hK => ?_)
            go_simp
            refine (may_any s (by omega) _).mono ?_
            rintro e w3 ⟨rfl, hb3⟩
            have hbm := (bD (Below.refl wf.heap.size wf)).trans (hb3.mono (by simp))
            have hbm' := Lib.hid hbm
            clear hb3
            rw [hmay]
            dsimp only
            refine hK.out _ _ (Pl.more_go _ (fun _ h => h) (by exact hSx.out _ hbm) ?_)
            clear hK K hbm
            iterate 8
              refine Pl.take_go ?_ (by rfl) (fun _ _ _ h => h) ?_ ?_
              rotate_left
              · (intro x hSw; (try dsimp only at hSw); go_simp; try with_reducible rfl)
              try simp only [Act.put, List.setIfInBounds_toArray, List.set_cons_zero, List.set_cons_succ]
            iterate 6
              refine Pl.take_skip (by rfl) (fun _ _ _ h => h) ?_
              try simp only [Act.put, List.setIfInBounds_toArray, List.set_cons_zero, List.set_cons_succ]
            iterate 1
              refine Pl.take_go ?_ (by rfl) (fun _ _ _ h => h) ?_ ?_
              rotate_left
              · (intro x hSw; (try dsimp only at hSw); go_simp; try with_reducible rfl)
              try simp only [Act.put, List.setIfInBounds_toArray, List.set_cons_zero, List.set_cons_succ]
            have hno : Hid (load l room = none) := Lib.hid (by unfold load; rw [loadF_take l k [] fs hF.out, List.drop_eq_getElem_cons (by rw [hl'.out]; exact hlt), hfg, loadF, if_pos (.inr (.inr (.inl hs0)))])
            refine Pl.done_go ?_
            clear hS0
            go_wp2_with fail
            go_ret2
            rw [hno.out]
            exact ⟨hbf.out.trans (hbm'.out.mono (by have := hbf.out.size; omega)), rfl⟩
          · have hd0 : decide (f.safe < 0) = false := by simpa using hs0
            by_cases hs1 : (n0 : Int) < f.safe
            · have hd1 : decide ((n0 : Int) < f.safe) = true := by simpa using hs1
              clear hnm
              go_wp2_with fail
              refine Pl.wp_region_plan 27 (.take 0 (.take 1 (.take 2 (.take 3 (.take 4 (.take 5 (.take 6 (.take 7 (.take 8 (.take 9 (.take 10 (.run 11 (.take 12 (.take 13 (.take 14 (.take 15 (.take 16 (.take 17 (.take 18 (.take 19 (.take 20 (.take 21 (.take 22 (.take 23 (.take 24 (.take 25 (.take 26 .done))))))))))))))))))))))))))) (fun x => x.cell? ⟨T, 0, none⟩ = some (.string s) ∧ x.cell? ⟨T, 1, none⟩ = some (.slice A0 n0 c0) ∧ x.cell? ⟨T, 2, none⟩ = some (.int .i64 f.safe) ∧ x.cell? ⟨b, 1, none⟩ = some (.map (some mb)) ∧ (Instr.lookup 111 (.map (some mb)) (.string s) false).run Tryz.prog x = .ok (.pointer none) x) (by kernel_rfl) (by kernel_rfl) (by exact hSx.out _ (bD (Below.refl _ _))) ?_
              simp only [Pl.fill, List.getElem?_cons_zero, List.getElem?_cons_succ, List.drop_succ_cons, List.drop_zero]
              iterate 11
                refine Pl.take_go ?_ (by rfl) (fun _ _ _ h => h) ?_ ?_
                rotate_left
                · (intro x hSw; (try dsimp only at hSw); go_simp; try with_reducible rfl)
                try simp only [Act.put, List.setIfInBounds_toArray, List.set_cons_zero, List.set_cons_succ]
              refine Pl.run_go (fun K hK => ?_)
              go_simp
              refine (may_any s (by omega) _).mono ?_
              rintro e w3 ⟨rfl, hb3⟩
              have hbm := (bD (Below.refl wf.heap.size wf)).trans (hb3.mono (by simp))
              have hbm' := Lib.hid hbm
              clear hb3
              rw [hmay]
              dsimp only
              refine hK.out _ _ (Pl.more_go _ (fun _ h => h) (by exact hSx.out _ hbm) ?_)
              clear hK K hbm
              iterate 15
                refine Pl.take_go ?_ (by rfl) (fun _ _ _ h => h) ?_ ?_
                rotate_left
                · (intro x hSw; (try dsimp only at hSw); go_simp; try with_reducible rfl)
                try simp only [Act.put, List.setIfInBounds_toArray, List.set_cons_zero, List.set_cons_succ]
              have hno : Hid (load l room = none) := Lib.hid (by unfold load; rw [loadF_take l k [] fs hF.out, List.drop_eq_getElem_cons (by rw [hl'.out]; exact hlt), hfg, loadF, if_pos (.inr (.inr (.inr (by rw [hn0'.out]; exact hs1))))])
              refine Pl.done_go ?_
              clear hS0
              go_wp2_with fail
              go_ret2
              rw [hno.out]
              exact ⟨hbf.out.trans (hbm'.out.mono (by have := hbf.out.size; omega)), rfl⟩
            · have hd1 : decide ((n0 : Int) < f.safe) = false := by simpa using hs1
              clear hnm
              go_wp2_with fail
              refine Pl.wp_region_plan 27 (.take 0 (.take 1 (.take 2 (.take 3 (.take 4 (.take 5 (.take 6 (.take 7 (.take 8 (.take 9 (.take 10 (.run 11 (.take 12 (.take 13 (.take 14 (.take 15 (.take 16 (.take 17 (.take 18 (.take 19 (.take 20 (.take 21 (.take 22 (.take 23 (.take 24 (.take 25 (.take 26 .done))))))))))))))))))))))))))) (fun x => x.cell? ⟨T, 0, none⟩ = some (.string s) ∧ x.cell? ⟨T, 1, none⟩ = some (.slice A0 n0 c0) ∧ x.cell? ⟨T, 2, none⟩ = some (.int .i64 f.safe) ∧ x.cell? ⟨b, 1, none⟩ = some (.map (some mb)) ∧ (Instr.lookup 111 (.map (some mb)) (.string s) false).run Tryz.prog x = .ok (.pointer none) x) (by kernel_rfl) (by kernel_rfl) (by exact hSx.out _ (bD (Below.refl _ _))) ?_
              simp only [Pl.fill, List.getElem?_cons_zero, List.getElem?_cons_succ, List.drop_succ_cons, List.drop_zero]
              iterate 11
                refine Pl.take_go ?_ (by rfl) (fun _ _ _ h => h) ?_ ?_
                rotate_left
                · (intro x hSw; (try dsimp only at hSw); go_simp; try with_reducible rfl)
                try simp only [Act.put, List.setIfInBounds_toArray, List.set_cons_zero, List.set_cons_succ]
              refine Pl.run_go (fun K hK => ?_)
              go_simp
              refine (may_any s (by omega) _).mono ?_
              rintro e w3 ⟨rfl, hb3⟩
              have hbm := (bD (Below.refl wf.heap.size wf)).trans (hb3.mono (by simp))
              have hbm' := Lib.hid hbm
              clear hb3
              rw [hmay]
              dsimp only
              refine hK.out _ _ (Pl.more_go _ (fun _ h => h) (by exact hSx.out _ hbm) ?_)
              clear hK K hbm
              iterate 15
                refine Pl.take_go ?_ (by rfl) (fun _ _ _ h => h) ?_ ?_
                rotate_left
                · (intro x hSw; (try dsimp only at hSw); go_simp; try with_reducible rfl)
                try simp only [Act.put, List.setIfInBounds_toArray, List.set_cons_zero, List.set_cons_succ]
              refine Pl.done_go ?_
              have hS3 := hSx.out w3 hbm'.out
              have hbw3 := Lib.hid (hbf.out.trans (hbm'.out.mono hbf.out.size))
              obtain ⟨p0, p1, p2, p3, _⟩ := hS3
              clear hS0
              go_wp2_with fail
              clear p0
              obtain ⟨m, hm⟩ := Int.eq_ofNat_of_zero_le (show 0 ≤ f.safe by omega)
              rw [hm] at p2
              have hlt' := Lib.hid hlt
              have hD3 := hDf'.out.below hbm'.out
              have hD3' := Lib.hid hD3
              have hbs3 := Lib.hid (hbs'.out.below hbm'.out)
              have hm' := Lib.hid hm
              have hT3 : Hid (w3.heap[T]? = some (.cells #[.string s, .slice A0 n0 c0, .int .i64 f.safe] 84)) := Lib.hid ((hbm'.out.block T (by have := hwfs'.out; omega)).trans hTblk.out)
              clear hD3 hm hfg hlt
              refine Pl.wp_region_plan 13 (.take 0 (.take 1 (.take 2 (.take 3 (.take 4 (.take 5 (.take 6 (.take 7 (.take 9 (.take 10 (.run 8 (.take 11 (.run 12 .done)))))))))))))
                (fun x => x.cell? ⟨T, 0, none⟩ = some (.string s) ∧ x.cell? ⟨T, 1, none⟩ = some (.slice A0 n0 c0) ∧ x.cell? ⟨T, 2, none⟩ = some (.int .i64 (m : Nat)) ∧ x.cell? ⟨b, 1, none⟩ = some (.map (some mb))) (by kernel_rfl) (by kernel_rfl) (by exact ⟨cell_blk hT3.out rfl, p1, p2, p3⟩) ?_
              simp only [Pl.fill, List.getElem?_cons_zero, List.getElem?_cons_succ, List.drop_succ_cons, List.drop_zero]
              iterate 10
                refine Pl.take_go ?_ (by rfl) (fun _ _ _ h => h) ?_ ?_
                rotate_left
                · (intro x hSw; (try dsimp only at hSw); go_simp; try with_reducible rfl)
                try simp only [Act.put, List.setIfInBounds_toArray, List.set_cons_zero, List.set_cons_succ]
              refine Pl.run_go (fun K hK => ?_)
              go_simp
              refine (clone_any A0 n0 c0 f.data w3.drew (hbs3.out.below (bD (Below.refl _ _))) (by omega)).mono ?_
              rintro e w4 ⟨v, rfl, ho4, hb4⟩
              have hb34 := (bD (Below.refl w3.heap.size w3)).trans (hb4.mono (by simp))
              have hT4 := (hb34.block T (Array.getElem?_eq_some_iff.1 hT3.out).1).trans hT3.out
              have hb34' := Lib.hid hb34
              have ho4' := Lib.hid (OwB.base ho4 (B' := w.heap.size) (by have := hbw3.out.size; simp; omega))
              have hD4 := Lib.hid (hD3'.out.below hb34)
              rw [hm'.out] at hT4
              obtain ⟨A4, c4, rfl⟩ : ∃ A c, v = .slice A n0 c := by
                obtain ⟨A4, c4, e4, _⟩ := OwB.slice ho4
                rw [hn0'.out] at e4
                exact ⟨A4, c4, e4⟩
              have hT4' := Lib.hid hT4
              clear hb4 ho4 hb34 hT4 p1 p2 p3
              dsimp only
              refine hK.out _ _ (Pl.more_go _ (fun _ h => h) (by exact ⟨cell_blk hT4'.out rfl, cell_blk hT4'.out rfl, cell_blk hT4'.out rfl, hD4.out.c1⟩) ?_)
              clear hK K
              iterate 1
                refine Pl.take_go ?_ (by rfl) (fun _ _ _ h => h) ?_ ?_
                rotate_left
                · (intro x hSw; (try dsimp only at hSw); go_simp; try with_reducible rfl)
                try simp only [Act.put, List.setIfInBounds_toArray, List.set_cons_zero, List.set_cons_succ]
              refine Pl.run_go (fun K hK => ?_)
              go_simp
              have hba := below_alloc w4 (.cells #[.slice A4 n0 c4, .int .i64 (m : Nat)] 132)
              have hnew := heap_alloc_new w4 (.cells #[.slice A4 n0 c4, .int .i64 (m : Nat)] 132)
              obtain ⟨V, hV⟩ : ∃ V, w4.heap.size = V := ⟨_, rfl⟩
              obtain ⟨w5, hw5⟩ : ∃ w5, w4.alloc (.cells #[.slice A4 n0 c4, .int .i64 (m : Nat)] 132) = w5 := ⟨_, rfl⟩
              rw [hw5] at hba hnew ⊢
              rw [hV] at hnew ⊢
              have hT5 := (hba.block T (Array.getElem?_eq_some_iff.1 hT4'.out).1).trans hT4'.out
              have hD5 := hD4.out.below hba
              have hB5 : w.heap.size ≤ V := by have h1 := hbw3.out.size; have h2 := hb34'.out.size; omega
              have hf5 : FileAt w5 w.heap.size V ⟨f.data, m⟩ := ⟨hB5, _, hnew, OwB.below ho4'.out hba⟩
              have hfr : ∀ p ∈ L, p.2 ≠ V := fun p hp => by have := (hD4.out.files p hp).lt; omega
              have hb5 := Lib.hid (hbw3.out.trans ((hb34'.out.mono (by have := hbw3.out.size; omega)).trans (hba.mono (by omega))))
              have hT5' := Lib.hid hT5
              have hD5' := Lib.hid hD5
              have hf5' := Lib.hid hf5
              have hfr' := Lib.hid hfr
              refine hK.out _ _ (Pl.more_go _ (fun _ h => h) (by exact ⟨cell_blk hT5 rfl, cell_blk hT5 rfl, cell_blk hT5 rfl, hD5.c1⟩) ?_)
              clear hK K hT5 hD5 hf5 hfr hba hnew hw5 hV hB5
              refine Pl.done_go ?_
              have hkey := WideMaps.keyOf_string_mk (P := Tryz.prog) Tryz.underlying9 (s := s) (by unfold maxLen; omega)
              have hdl : L.length < maxLen := by have := hLk.out; unfold maxLen; omega
              refine wpList_mapUpdate_own _ rfl _ _ _ 111 rfl 9 130 law_str Tryz.underlying111 ptrElem mb L.length (mp L) rfl hD5'.out.own hdl _ _ _ rfl rfl hkey (.lit (.int .i64 (V : Nat))) [] rfl ?_
              intro w6 h1 h2
              have hno6 : Dk.get L s.data.toList = none := by rw [← hnm'.out]; exact hG'.out
              have hD6 := hD5'.out.addF (n := _) hf5'.out hfr'.out hno6 h2 h1
              have hb6 := Lib.hid (hb5.out.trans (below_row h2 hD5'.out.base.2 hb5.out.size))
              have hD6' := Lib.hid hD6
              have hlen6 : Hid ((ins s.data.toList V L).length ≤ k + 1) := Lib.hid (by rw [ins_len]; have := hLk.out; omega)
              have hF6 : Hid (loadF (l.take (k + 1)) [] = some (ins s.data.toList ⟨f.data, m⟩ fs)) := Lib.hid (by
                rw [take_snoc hfk, loadF_append, hF.out]
                simp only [Option.bind_some]
                rw [loadF, if_neg, loadF, hnm'.out, hm'.out]
                · rfl
                · have e1 := hn0'.out
                  have e2 := hm'.out
                  rw [hgetd.out, hnm'.out, hmay]
                  simp
                  omega)
              clear h1 h2 hD6 hkey hdl hno6
              go_wp2_with fail
              go_roundw
              case rel => exact ⟨k + 1, _, _, _, by have := hlt'.out; omega, by go_num, hF6, hD6', hb6, hlen6⟩
              case measure => simp [intOf]; have := hlt'.out; omega
    · have hkn : k = n := by omega
      subst hkn
      have hFl : Hid (loadF l [] = some fs) := Lib.hid (by have := hF.out; rwa [List.take_of_length_le (by have := hl'.out; omega)] at this)
      have hub := loadF_used l [] fs hFl.out (fun f hf => (hsz'.out f hf).2)
      have hul : used fs ≤ 1000000000 := by rw [used_nil, hl'.out] at hub; have : k * 1000000 ≤ 1000 * 1000000 := Nat.mul_le_mul_right _ hn; omega
      clear hub
      have kr : wr.cell? ⟨b, 0, none⟩ = some (.int .i64 ((room.toNat : Nat) : Int)) := cell_blk hD.out.blk rfl
      have hkr : ∀ x, Below wr.heap.size wr x → x.cell? ⟨b, 0, none⟩ = some (.int .i64 ((room.toNat : Nat) : Int)) := fun x hx => cell_blk (hD.out.below hx).blk rfl
      have hkr' := Lib.hid hkr
      obtain ⟨R, hR⟩ : ∃ R, room.toNat = R := ⟨_, rfl⟩
      obtain ⟨U, hU⟩ : ∃ U, used fs = U := ⟨_, rfl⟩
      have hload : Hid (load l room = if 64 < k ∨ (R : Int) < U then none else some { new room with fs := fs }) := Lib.hid (by unfold load; rw [hFl.out]; show (if 64 < l.length ∨ (room.toNat : Int) < used fs then none else some _) = _; rw [hl'.out, hR, hU])
      rw [hR] at kr hkr'
      rw [hU] at hul
      have hU' := Lib.hid hU
      clear hkr hR hU
      by_cases h64 : 64 < k
      · have hno : Hid (load l room = none) := Lib.hid (by rw [hload.out, if_pos (.inl h64)])
        have d1 : decide ((64 : Int) < (k : Int)) = true := by rw [decide_eq_true_eq]; omega
        have d2 : decide (64 < k) = true := by simpa using h64
        go_wp2_with fail
        refine Pl.wp_region_plan 12 (.take 0 (.take 1 (.take 2 (.take 3 (.take 4 (.take 6 (.take 7 (.take 8 (.take 9 (.run 5 (.take 10 (.take 11 .done)))))))))))) (fun x => x.cell? ⟨b, 0, none⟩ = some (.int .i64 ((R : Nat) : Int))) (by kernel_rfl) (by kernel_rfl) (by exact hkr'.out _ (bD (Below.refl _ _))) ?_
        simp only [Pl.fill, List.getElem?_cons_zero, List.getElem?_cons_succ, List.drop_succ_cons, List.drop_zero]
        iterate 4
          refine Pl.take_go ?_ (by rfl) (fun _ _ _ h => h) ?_ ?_
          rotate_left
          · (intro x hSw; (try dsimp only at hSw); go_simp; try with_reducible rfl)
          try simp only [Act.put, List.setIfInBounds_toArray, List.set_cons_zero, List.set_cons_succ]
        iterate 5
          refine Pl.take_skip (by rfl) (fun _ _ _ h => h) ?_
          try simp only [Act.put, List.setIfInBounds_toArray, List.set_cons_zero, List.set_cons_succ]
        refine Pl.run_go (fun K hK => ?_)
        go_simp
        refine hK.out _ _ (Pl.more_go _ (fun _ h => h) (by exact hkr'.out _ (bD (Below.refl _ _))) ?_)
        clear hK K
        iterate 1
          refine Pl.take_skip (by rfl) (fun _ _ _ h => h) ?_
          try simp only [Act.put, List.setIfInBounds_toArray, List.set_cons_zero, List.set_cons_succ]
        iterate 1
          refine Pl.take_go ?_ (by rfl) (fun _ _ _ h => h) ?_ ?_
          rotate_left
          · (intro x hSw; (try dsimp only at hSw); go_simp; try with_reducible rfl)
          try simp only [Act.put, List.setIfInBounds_toArray, List.set_cons_zero, List.set_cons_succ]
        refine Pl.done_go ?_
        clear kr
        go_wp2_with fail
        go_ret2
        rw [hno.out]
        exact ⟨hb.out.trans (bD (Below.refl _ _) |>.mono hb.out.size), rfl⟩
      · have d1 : decide ((64 : Int) < (k : Int)) = false := by rw [decide_eq_false_iff_not]; omega
        have d2 : decide (64 < k) = false := by simpa using h64
        by_cases hru : R < U
        · have hno : Hid (load l room = none) := Lib.hid (by rw [hload.out, if_pos (.inr (by omega))])
          have d3 : decide (R < U) = true := by simpa using hru
          go_wp2_with fail
          refine Pl.wp_region_plan 12 (.take 0 (.take 1 (.take 2 (.take 3 (.take 4 (.take 6 (.take 7 (.take 8 (.take 9 (.run 5 (.take 10 (.take 11 .done)))))))))))) (fun x => x.cell? ⟨b, 0, none⟩ = some (.int .i64 ((R : Nat) : Int))) (by kernel_rfl) (by kernel_rfl) (by exact hkr'.out _ (bD (Below.refl _ _))) ?_
          simp only [Pl.fill, List.getElem?_cons_zero, List.getElem?_cons_succ, List.drop_succ_cons, List.drop_zero]
          iterate 9
            refine Pl.take_go ?_ (by rfl) (fun _ _ _ h => h) ?_ ?_
            rotate_left
            · (intro x hSw; (try dsimp only at hSw); go_simp; try with_reducible rfl)
            try simp only [Act.put, List.setIfInBounds_toArray, List.set_cons_zero, List.set_cons_succ]
          refine Pl.run_go (fun K hK => ?_)
          go_simp
          refine (Used_any _ _ _ _ _ _ _ _ (hD.out.below (bD (Below.refl _ _))) (by show used fs ≤ 1000000000; rw [hU'.out]; exact hul)).mono ?_
          rintro e w3 ⟨rfl, hb3⟩
          have hbu := Lib.hid ((bD (Below.refl wr.heap.size wr)).trans (hb3.mono (by simp)))
          clear hb3
          rw [show used ({ new room with fs := fs } : D).fs = U from hU'.out]
          dsimp only
          refine hK.out _ _ (Pl.more_go _ (fun _ h => h) (by exact hkr'.out _ hbu.out) ?_)
          clear hK K
          iterate 2
            refine Pl.take_go ?_ (by rfl) (fun _ _ _ h => h) ?_ ?_
            rotate_left
            · (intro x hSw; (try dsimp only at hSw); go_simp; try with_reducible rfl)
            try simp only [Act.put, List.setIfInBounds_toArray, List.set_cons_zero, List.set_cons_succ]
          refine Pl.done_go ?_
          clear kr
          go_wp2_with fail
          go_ret2
          rw [hno.out]
          exact ⟨hb.out.trans (hbu.out.mono hb.out.size), rfl⟩
        · have hyes : Hid (load l room = some { new room with fs := fs }) := Lib.hid (by rw [hload.out, if_neg (by omega)])
          have d3 : decide (R < U) = false := by simpa using hru
          go_wp2_with fail
          refine Pl.wp_region_plan 12 (.take 0 (.take 1 (.take 2 (.take 3 (.take 4 (.take 6 (.take 7 (.take 8 (.take 9 (.run 5 (.take 10 (.take 11 .done)))))))))))) (fun x => x.cell? ⟨b, 0, none⟩ = some (.int .i64 ((R : Nat) : Int))) (by kernel_rfl) (by kernel_rfl) (by exact hkr'.out _ (bD (Below.refl _ _))) ?_
          simp only [Pl.fill, List.getElem?_cons_zero, List.getElem?_cons_succ, List.drop_succ_cons, List.drop_zero]
          iterate 9
            refine Pl.take_go ?_ (by rfl) (fun _ _ _ h => h) ?_ ?_
            rotate_left
            · (intro x hSw; (try dsimp only at hSw); go_simp; try with_reducible rfl)
            try simp only [Act.put, List.setIfInBounds_toArray, List.set_cons_zero, List.set_cons_succ]
          refine Pl.run_go (fun K hK => ?_)
          go_simp
          refine (Used_any _ _ _ _ _ _ _ _ (hD.out.below (bD (Below.refl _ _))) (by show used fs ≤ 1000000000; rw [hU'.out]; exact hul)).mono ?_
          rintro e w3 ⟨rfl, hb3⟩
          have hbu := Lib.hid ((bD (Below.refl wr.heap.size wr)).trans (hb3.mono (by simp)))
          clear hb3
          rw [show used ({ new room with fs := fs } : D).fs = U from hU'.out]
          dsimp only
          refine hK.out _ _ (Pl.more_go _ (fun _ h => h) (by exact hkr'.out _ hbu.out) ?_)
          clear hK K
          iterate 2
            refine Pl.take_go ?_ (by rfl) (fun _ _ _ h => h) ?_ ?_
            rotate_left
            · (intro x hSw; (try dsimp only at hSw); go_simp; try with_reducible rfl)
            try simp only [Act.put, List.setIfInBounds_toArray, List.set_cons_zero, List.set_cons_succ]
          refine Pl.done_go ?_
          clear kr
          go_wp2_with fail
          go_ret2
          rw [hyes.out]
          exact ⟨hb.out.trans (hbu.out.mono hb.out.size), b, mb, rfl, L, F, hD.out.below hbu.out⟩
end Go.Proofs.YtfdpnjebhllpkaaGreatDoor.Dk
end

section
namespace Go.Proofs.YtfdpnjebhllpkaaGreatDoor.Dk
open Go.RowKit

set_option maxHeartbeats 400000 in
theorem bytes_same (A : Option Addr) (n c : Nat) (l : List UInt8) (A2 : Option Addr) (n2 c2 : Nat) (w : World) (hBs : Bs w A n c l) (hBs2 : Bs w A2 n2 c2 l) :
    Calls Tryz.prog 19 #[.slice A n c, .slice A2 n2 c2] w fun e w' => e = .returned (.bool true) ∧ ∃ k, w' = w.drewN k := by
  have hn := Rd.le hBs
  have hm := Rd.max hBs
  have hn2 := Rd.le hBs2
  have hm2 := Rd.max hBs2
  have HN : Hid (l.length = n) := hBs.len
  have HN2 : Hid (l.length = n2) := hBs2.len
  obtain rfl : n = n2 := HN.out.symm.trans HN2.out
  go_enter Tryz.func19, Tryz.ntmps19
  go_wp2
  go_loopw [5] (fun i wr => ∃ k m : Nat, k ≤ n ∧ i = .int .i64 k ∧ wr = w.drewN m) (fun i _ => n - (intOf i).toNat)
  case atStart => exact ⟨0, 0, by omega, rfl, rfl⟩
  case round =>
    obtain ⟨k, m, hk, rfl, rfl⟩ := hrel
    by_cases hlt : k < n
    · obtain ⟨b, off, x, rfl, _, hx, hx8, hc⟩ := hBs.at_ hlt
      obtain ⟨b2, off2, y, rfl, _, hy, hy8, hc2⟩ := hBs2.at_ hlt
      obtain rfl : x = y := Option.some.inj (hx.symm.trans hy)
      have HX := Lib.hid hx
      clear hx hy
      have i0 : (k : Int) < (n : Int) := by omega
      have hb : ((x.toNat : Int) != (x.toNat : Int)) = false := by simp
      go_wp2_with fail
      go_quiet (fail)
      go_wp2_with fail
      go_roundw
      case rel => exact ⟨k + 1, _, by omega, by go_num, rfl⟩
      case measure => simp [intOf]; omega
    · obtain rfl : k = n := by omega
      go_wp2_with fail
      go_ret
      exact ⟨rfl, _, rfl⟩

/-- Files such as are gone through. -/
structure Sm (l : List In) : Prop where
  len : l.length ≤ 100
  nm : ∀ f ∈ l, f.nm.length ≤ 1000
  sum : (l.map (·.data.length)).sum ≤ 16384

def SmP (l : List In) (w : World) (e : Ending) (w' : World) : Prop := ∃ b, e = .returned (.bool b) ∧ (b = true → Sm l) ∧ w = w'

theorem sum_take_succ {l : List In} {k : Nat} {f : In} (h : l[k]? = some f) : ((l.take (k + 1)).map (·.data.length)).sum = ((l.take k).map (·.data.length)).sum + f.data.length := by
  rw [take_snoc h]; simp

set_option maxHeartbeats 1000000 in
set_option maxRecDepth 100000 in
theorem Small_any (A : Option Addr) (n c : Nat) (l : List In) (w : World) (h : Sq FeEl 3 w A n c l) (hsz : ∀ f ∈ l, f.data.length ≤ 140737488351232) :
    Calls Tryz.prog 43 #[.slice A n c] w (SmP l w) := by
  have hl := Lib.hid h.len
  have hle := h.le
  have hmx := h.max
  have h' := Lib.hid h
  have hsz' := Lib.hid hsz
  clear h hsz
  go_enter Tryz.func43, Tryz.ntmps43
  go_wp2_with fail
  go_loop [3, 4] (fun s i => ∃ (k m : Nat), k ≤ n ∧ k ≤ 100 ∧ i = .int .i64 k ∧ s = .int .i64 m ∧ m ≤ k * 140737488351232 ∧ Hid (m = ((l.take k).map (·.data.length)).sum ∧ ∀ f ∈ l.take k, f.nm.length ≤ 1000)) (fun _ i => n - (intOf i).toNat)
  case atStart => exact ⟨0, 0, by omega, by omega, rfl, rfl, by omega, Lib.hid ⟨rfl, fun f hf => (by simp at hf)⟩⟩
  case round =>
    obtain ⟨k, m, hk, hk100, rfl, rfl, hm, hrel⟩ := hrel
    by_cases hlt : k < n
    · obtain ⟨b, off, f, vs, rfl, hb, hf, hvs, hel, hcs⟩ := h'.out.at_ hlt
      obtain ⟨s, A0, n0, c0, rfl, hnm, hbs⟩ := hel
      have k0 : w.cell? ⟨b, off + k * 3, none⟩ = some (.string s) := hcs 0 _ rfl
      have k1 : w.cell? ⟨b, off + k * 3 + 1, none⟩ = some (.slice A0 n0 c0) := hcs 1 _ rfl
      have hn0 := hbs.len
      have hf2 := hsz'.out f (List.mem_of_getElem? hf)
      rw [hn0] at hf2
      have hn0' := Lib.hid hn0
      have hnm' := Lib.hid hnm
      have hf' := Lib.hid hf
      clear hcs hvs hbs hn0 hnm hf
      by_cases h100 : 100 ≤ k
      · have d1 : decide ((100 : Int) ≤ (k : Int)) = true := by rw [decide_eq_true_eq]; omega
        have d2 : decide (100 ≤ k) = true := by rw [decide_eq_true_eq]; omega
        go_wp2_with fail
        go_ret
        exact ⟨false, rfl, fun h => (by cases h), rfl⟩
      · have d1 : decide ((100 : Int) ≤ (k : Int)) = false := by rw [decide_eq_false_iff_not]; omega
        have d2 : decide (100 ≤ k) = false := by rw [decide_eq_false_iff_not]; omega
        by_cases hs : 1000 < s.size
        · have d3 : decide (1000 < s.size) = true := by rw [decide_eq_true_eq]; omega
          have d4 : decide ((1000 : Int) < (s.size : Int)) = true := by rw [decide_eq_true_eq]; omega
          go_wp2_with fail
          go_ret
          exact ⟨false, rfl, fun h => (by cases h), rfl⟩
        · have d3 : decide (1000 < s.size) = false := by rw [decide_eq_false_iff_not]; omega
          have d4 : decide ((1000 : Int) < (s.size : Int)) = false := by rw [decide_eq_false_iff_not]; omega
          have q1 : IntKind.i64.wrap ((m : Int) + (n0 : Int)) = ((m + n0 : Nat) : Int) := by rw [IntWalk.i64_in _ (by omega)]; omega
          go_wp2_with fail
          go_round
          case rel =>
            refine ⟨k + 1, m + n0, by omega, by omega, by go_num, by go_num, by omega, Lib.hid ⟨?_, ?_⟩⟩
            · rw [sum_take_succ hf'.out, ← hrel.out.1, hn0'.out]
            · intro g hg
              rw [take_snoc hf'.out] at hg
              rcases List.mem_append.1 hg with hg | hg
              · exact hrel.out.2 g hg
              · rw [List.mem_singleton.1 hg, hnm'.out, Array.length_toList]
                show s.size ≤ 1000
                omega
          case measure => simp [intOf]; omega
    · have hkn : k = n := by omega
      subst hkn
      go_wp2_with fail
      go_ret
      refine ⟨_, rfl, fun hm2 => ?_, rfl⟩
      have := hrel.out
      rw [List.take_of_length_le (by have := hl.out; omega)] at this
      refine ⟨by rw [hl.out]; exact hk100, this.2, ?_⟩
      have h3 := this.1
      have h4 : (m : Int) ≤ 16384 := by simpa using hm2
      omega

set_option maxHeartbeats 1000000 in
set_option maxRecDepth 100000 in
theorem Same_refl (A : Option Addr) (n c : Nat) (A2 : Option Addr) (n2 c2 : Nat) (l : List In) (w : World) (h : Sq FeEl 3 w A n c l) (h2 : Sq FeEl 3 w A2 n2 c2 l) :
    Calls Tryz.prog 34 #[.slice A n c, .slice A2 n2 c2] w fun e w' => e = .returned (.bool true) ∧ ∃ k, w' = w.drewN k := by
  obtain rfl : n = n2 := h.len.symm.trans h2.len
  have hle := h.le
  have hmx := h.max
  have hle2 := h2.le
  have hmx2 := h2.max
  have h' := Lib.hid h
  have h2' := Lib.hid h2
  clear h h2
  go_enter Tryz.func34, Tryz.ntmps34
  go_wp2_with fail
  go_loopw [5] (fun i wr => ∃ k m : Nat, k ≤ n ∧ i = .int .i64 k ∧ wr = w.drewN m) (fun i _ => n - (intOf i).toNat)
  case atStart => exact ⟨0, 0, by omega, rfl, rfl⟩
  case round =>
    obtain ⟨k, m, hk, rfl, rfl⟩ := hrel
    by_cases hlt : k < n
    · obtain ⟨b, off, f, vs, rfl, hb, hf, hvs, hel, hcs⟩ := h'.out.at_ hlt
      obtain ⟨b2, off2, f2, vs2, rfl, hb2, hf2, hvs2, hel2, hcs2⟩ := h2'.out.at_ hlt
      obtain rfl : f = f2 := Option.some.inj (hf.symm.trans hf2)
      obtain ⟨s, A0, n0, c0, rfl, hnm, hbs⟩ := hel
      obtain ⟨s2, A20, n20, c20, rfl, hnm2, hbs2⟩ := hel2
      obtain rfl : s = s2 := by
        have : s.data.toList = s2.data.toList := hnm.symm.trans hnm2
        cases s; cases s2
        rw [Array.toList_inj] at this
        rw [ByteArray.mk.injEq]
        exact this
      have k0 : w.cell? ⟨b, off + k * 3, none⟩ = some (.string s) := hcs 0 _ rfl
      have k1 : w.cell? ⟨b, off + k * 3 + 1, none⟩ = some (.slice A0 n0 c0) := hcs 1 _ rfl
      have k2 : w.cell? ⟨b, off + k * 3 + 2, none⟩ = some (.int .i64 f.safe) := hcs 2 _ rfl
      have m0 : w.cell? ⟨b2, off2 + k * 3, none⟩ = some (.string s) := hcs2 0 _ rfl
      have m1 : w.cell? ⟨b2, off2 + k * 3 + 1, none⟩ = some (.slice A20 n20 c20) := hcs2 1 _ rfl
      have m2 : w.cell? ⟨b2, off2 + k * 3 + 2, none⟩ = some (.int .i64 f.safe) := hcs2 2 _ rfl
      have e1 : (f.safe != f.safe) = false := by simp
      have hbs' := Lib.hid hbs
      have hbs2' := Lib.hid hbs2
      clear hcs hvs hbs hnm hf hcs2 hvs2 hbs2 hnm2 hf2
      have i0 : (k : Int) < (n : Int) := by omega
      go_wp2_with fail
      refine Pl.wp_region_plan 38 (.take 0 (.take 1 (.take 2 (.take 3 (.take 4 (.take 5 (.take 6 (.take 7 (.take 8 (.take 9 (.take 10 (.take 11 (.take 12 (.take 13 (.take 14 (.take 15 (.take 16 (.take 17 (.take 18 (.take 19 (.take 20 (.take 21 (.take 22 (.take 23 (.take 24 (.take 25 (.take 26 (.take 27 (.take 28 (.take 29 (.take 30 (.take 31 (.take 32 (.take 33 (.take 34 (.run 35 (.take 36 (.take 37 .done))))))))))))))))))))))))))))))))))))))
        (fun x => x.cell? ⟨b, off + k * 3, none⟩ = some (.string s) ∧ x.cell? ⟨b, off + k * 3 + 1, none⟩ = some (.slice A0 n0 c0) ∧ x.cell? ⟨b, off + k * 3 + 2, none⟩ = some (.int .i64 f.safe) ∧ x.cell? ⟨b2, off2 + k * 3, none⟩ = some (.string s) ∧ x.cell? ⟨b2, off2 + k * 3 + 1, none⟩ = some (.slice A20 n20 c20) ∧ x.cell? ⟨b2, off2 + k * 3 + 2, none⟩ = some (.int .i64 f.safe)) (by kernel_rfl) (by kernel_rfl) (by exact ⟨k0, k1, k2, m0, m1, m2⟩) ?_
      simp only [Pl.fill, List.getElem?_cons_zero, List.getElem?_cons_succ, List.drop_succ_cons, List.drop_zero]
      iterate 35
        refine Pl.take_go ?_ (by rfl) (fun _ _ _ h => h) ?_ ?_
        rotate_left
        · (intro x hSw; (try dsimp only at hSw); go_simp; try with_reducible rfl)
        try simp only [Act.put, List.setIfInBounds_toArray, List.set_cons_zero, List.set_cons_succ]
      refine Pl.run_go (fun K hK => ?_)
      go_simp
      refine (bytes_same _ _ _ _ _ _ _ _ (hbs'.out.below (Joins.below_draws _ w (m + 1))) (hbs2'.out.below (Joins.below_draws _ w (m + 1)))).mono ?_
      rintro e w3 ⟨rfl, j, rfl⟩
      dsimp only
      refine hK.out _ _ (Pl.more_go _ (fun _ h => h) (by exact ⟨k0, k1, k2, m0, m1, m2⟩) ?_)
      clear hK K
      iterate 2
        refine Pl.take_go ?_ (by rfl) (fun _ _ _ h => h) ?_ ?_
        rotate_left
        · (intro x hSw; (try dsimp only at hSw); go_simp; try with_reducible rfl)
        try simp only [Act.put, List.setIfInBounds_toArray, List.set_cons_zero, List.set_cons_succ]
      refine Pl.done_go ?_
      go_wp2_with fail
      go_roundw
      case rel => exact ⟨k + 1, m + 1 + j, by omega, by go_num, rfl⟩
      case measure => simp [intOf]; omega
    · obtain rfl : k = n := by omega
      go_wp2_with fail
      go_ret
      exact ⟨rfl, _, rfl⟩
end Go.Proofs.YtfdpnjebhllpkaaGreatDoor.Dk
end

section
namespace Go.Proofs.YtfdpnjebhllpkaaGreatDoor.Dk
open Go.RowKit

/-- A step, plainly. -/
structure Dx where
  kind : Int
  nm : Name
  to_ : Name
  n : Int
  bytes : List UInt8
  tails : List Int
  list : List Tr

def DoEl (w : World) (vs : List Value) (x : Dx) : Prop := ∃ s s2 Ab nb cb At nt ct Al nl cl, vs = [.int .i64 x.kind, .string s, .string s2, .int .i64 x.n, .slice Ab nb cb, .slice At nt ct, .slice Al nl cl] ∧
  x.nm = s.data.toList ∧ x.to_ = s2.data.toList ∧ Bs w Ab nb cb x.bytes ∧ Rd w At nt ct (x.tails.map (Value.int .i64)) ∧ Sq TrEl 3 w Al nl cl x.list
theorem DoEl.below {w w' : World} (hb : Below w.heap.size w w') : ∀ vs x, DoEl w vs x → DoEl w' vs x := by
  rintro vs x ⟨s, s2, Ab, nb, cb, At, nt, ct, Al, nl, cl, rfl, h1, h2, h3, h4, h5⟩
  exact ⟨s, s2, Ab, nb, cb, At, nt, ct, Al, nl, cl, rfl, h1, h2, h3.below hb, h4.below hb, h5.below (fun _ _ h => h) hb⟩

/-- A step that is small enough. -/
structure Dm (x : Dx) : Prop where
  bytes : x.bytes.length ≤ 2000
  nm : x.nm.length ≤ 1000
  to_ : x.to_.length ≤ 1000
  tails : x.tails.length ≤ 200
  list : x.list.length ≤ 200

/-- A step: its code, and the disk behind it. -/
def actX (d : D) (x : Dx) : Int × D :=
  if x.kind = 1 then op d 1 x.nm [] 0 []
  else if x.kind = 2 then op d 2 x.nm [] 0 x.bytes
  else if x.kind = 3 then op d 3 x.nm [] x.n []
  else if x.kind = 4 then op d 4 x.nm [] 0 []
  else if x.kind = 5 then op d 5 x.nm x.to_ 0 []
  else if x.kind = 6 then op d 6 x.nm [] 0 []
  else if x.kind = 7 then (0, crash d x.tails)
  else if x.kind = 8 then (0, arm d x.list)
  else (0, d)

/-- What the walks ask of a disk. -/
structure Good (d : D) (N M U : Nat) : Prop where
  inv : Inv d
  ops : d.ops ≤ N
  tr : d.tr.length ≤ M
  used : used d.fs ≤ U

theorem may_len {nm : Name} (h : may nm = true) : nm.length ≤ 40 := by
  unfold may at h
  simp at h
  exact h.1.2

theorem Good.fl {d : D} {N M U : Nat} (h : Good d N M U) (hU : U ≤ 1000000000) : ∀ p ∈ d.fs, p.1.length ≤ 1000 ∧ p.2.data.length ≤ 1000000000 ∧ p.2.safe ≤ p.2.data.length := fun p hp => by
  have h1 := may_len (h.inv.names p hp)
  have h2 := len_le_used hp
  have h3 := h.used
  exact ⟨by omega, by omega, h.inv.safe p hp⟩

theorem used_upd_le {nm : Name} {g : Fl → Fl} {k : Nat} (hg : ∀ f, (g f).data.length ≤ f.data.length + k) : ∀ {l : Fs}, Up l → used (upd nm g l) ≤ used l + k
  | [], _ => by simp [upd, used]
  | p :: l, hU => by
    have ih := used_upd_le (nm := nm) hg hU.tail
    unfold upd at ih ⊢
    rw [List.map_cons, used_cons, used_cons]
    by_cases e : p.1 = nm
    · rw [if_pos e]
      have h2 : l.map (fun p => if p.1 = nm then (p.1, g p.2) else p) = l := by
        conv => rhs; rw [← List.map_id l]
        apply List.map_congr_left
        intro q hq
        have := before_ne (hU.head hq)
        rw [e] at this
        rw [if_neg this.symm]
        rfl
      rw [h2]
      have := hg p.2
      simp only
      omega
    · rw [if_neg e]
      omega

theorem used_op {d : D} (hI : Inv d) (k : Nat) (nm nt : Name) (n : Int) (b : List UInt8) : used (op d k nm nt n b).2.fs ≤ used d.fs + b.length := by
  have hpart : ∀ p, used (part d.fs k nm p b) ≤ used d.fs + b.length := fun p => by
    unfold part
    split
    · exact used_upd_le (fun f => by simp only [List.length_append, List.length_take]; omega) hI.up
    · omega
  have hact : used (act d.fs k nm nt n b) ≤ used d.fs + b.length := by
    unfold act
    split
    · rw [used_ins]; simp
    split
    · exact used_upd_le (fun f => by simp only [List.length_append]; omega) hI.up
    split
    · exact Nat.le_trans (used_upd_le (k := 0) (fun f => by simp only [List.length_take]; omega) hI.up) (by omega)
    split
    · exact Nat.le_trans (used_upd_le (k := 0) (fun f => by simp) hI.up) (by omega)
    split
    · split
      · omega
      · rename_i f hf
        have h1 := used_del hI.up hf
        have h2 := used_del_le nt (del nm d.fs)
        rw [used_ins]
        omega
    · have := used_del_le nm d.fs
      omega
  unfold op
  split
  · simp only; omega
  split
  · simp only; omega
  · split
    · exact hact
    · split
      · exact hpart _
      · exact hpart _
theorem op_ops (d : D) (k : Nat) (nm nt : Name) (n : Int) (b : List UInt8) : (op d k nm nt n b).2.ops ≤ d.ops + 1 ∧ (op d k nm nt n b).2.tr = d.tr ∧ (op d k nm nt n b).2.room = d.room := by
  unfold op
  split
  · exact ⟨Nat.le_succ _, rfl, rfl⟩
  split
  · exact ⟨Nat.le_refl _, rfl, rfl⟩
  · split
    · exact ⟨Nat.le_refl _, rfl, rfl⟩
    · split
      · exact ⟨Nat.le_refl _, rfl, rfl⟩
      · exact ⟨Nat.le_refl _, rfl, rfl⟩

theorem Good.op_ {d : D} {N M U : Nat} (h : Good d N M U) (k : Nat) (nm nt : Name) (n : Int) (b : List UInt8) (hb : b.length ≤ 2000) : Good (op d k nm nt n b).2 (N + 1) M (U + 2000) := by
  obtain ⟨h1, h2, h3⟩ := op_ops d k nm nt n b
  have h4 := used_op h.inv k nm nt n b
  have h5 := h.ops
  have h6 := h.used
  exact ⟨inv_op h.inv _ _ _ _ _, by omega, by rw [h2]; exact h.tr, by omega⟩
theorem Good.act_ {d : D} {N M U : Nat} (h : Good d N M U) (x : Dx) (hx : Dm x) (hM : 200 ≤ M) : Good (actX d x).2 (N + 1) M (U + 2000) ∧ (actX d x).2.room = d.room := by
  unfold actX
  split
  · exact ⟨h.op_ _ _ _ _ _ (by simp), (op_ops d _ _ _ _ _).2.2⟩
  split
  · exact ⟨h.op_ _ _ _ _ _ hx.bytes, (op_ops d _ _ _ _ _).2.2⟩
  split
  · exact ⟨h.op_ _ _ _ _ _ (by simp), (op_ops d _ _ _ _ _).2.2⟩
  split
  · exact ⟨h.op_ _ _ _ _ _ (by simp), (op_ops d _ _ _ _ _).2.2⟩
  split
  · exact ⟨h.op_ _ _ _ _ _ (by simp), (op_ops d _ _ _ _ _).2.2⟩
  split
  · exact ⟨h.op_ _ _ _ _ _ (by simp), (op_ops d _ _ _ _ _).2.2⟩
  have h5 := h.ops
  have h6 := h.used
  have h7 := h.tr
  split
  · exact ⟨⟨inv_crash h.inv _, by show d.ops ≤ N + 1; omega, Nat.zero_le _, by have := crashF_used x.tails 0 d.fs h.inv.safe; show Dk.used (crashF x.tails 0 d.fs) ≤ _; omega⟩, rfl⟩
  split
  · exact ⟨⟨h.inv.ops_ 0 d.down x.list, Nat.zero_le _, by have := hx.list; show x.list.length ≤ M; omega, by show Dk.used d.fs ≤ _; omega⟩, rfl⟩
  · exact ⟨⟨h.inv, by show d.ops ≤ N + 1; omega, h7, by show Dk.used d.fs ≤ _; omega⟩, rfl⟩
end Go.Proofs.YtfdpnjebhllpkaaGreatDoor.Dk
end

section
namespace Go.Proofs.YtfdpnjebhllpkaaGreatDoor.Sg
open Go Dk

structure Bd (d : D) (N U : Nat) : Prop where
  inv : Dk.Inv d
  ops : d.ops ≤ N
  tr : d.tr.length ≤ 1000
  used : Dk.used d.fs ≤ U
  room : d.room ≤ 9223372036854775807

section
variable {d : D} {N U N' U' : Nat}
theorem Bd.mono (h : Bd d N U) (hN : N ≤ N') (hU : U ≤ U') : Bd d N' U' := ⟨h.inv, Nat.le_trans h.ops hN, h.tr, Nat.le_trans h.used hU, h.room⟩
theorem Bd.good (h : Bd d N U) (hN : N ≤ 1000) (hU : U ≤ 1000000) : Dk.Good d 1000 1000 1000000 := ⟨h.inv, Nat.le_trans h.ops hN, h.tr, Nat.le_trans h.used hU⟩
theorem Bd.op (h : Bd d N U) (k : Nat) (nm nt : Name) (n : Int) (b : List UInt8) : Bd (Dk.op d k nm nt n b).2 (N + 1) (U + b.length) := by
  obtain ⟨h1, h2, h3⟩ := op_ops d k nm nt n b
  have h4 := used_op h.inv k nm nt n b
  exact ⟨inv_op h.inv .., by have := h.ops; omega, by rw [h2]; exact h.tr, by have := h.used; omega, by rw [h3]; exact h.room⟩
theorem Bd.op0 (h : Bd d N U) (k : Nat) (nm nt : Name) (n : Int) : Bd (Dk.op d k nm nt n []).2 (N + 1) U := h.op k nm nt n []
theorem Bd.appB (h : Bd d N U) (nm : Name) (b : List UInt8) : Bd (Sg.appB d nm b).2 (N + 2) (U + b.length) := by
  unfold Sg.appB
  split
  · exact (h.op 2 nm [] 0 b).op0 ..
  · exact (h.op 2 nm [] 0 b).mono (by omega) (by omega)
theorem Bd.create (h : Bd d N U) (nm : Name) (hd : List UInt8) : Bd (Sg.create d nm hd).2 (N + 4) (U + hd.length) := by
  unfold Sg.create
  split
  · exact (h.op0 ..).mono (by omega) (by omega)
  · have h1 := (h.op0 1 nm [] 0).appB nm hd
    unfold createC
    split
    · exact (h1.op0 ..).mono (by omega) (by omega)
    · exact h1.mono (by omega) (by omega)
theorem Bd.append (h : Bd d N U) (nm : Name) (s : S) (l : List (List UInt8)) : Bd (Sg.append d nm s l).2 (N + 3) (U + (Fr.puts l).length) ∧ (Sg.append d nm s l).1.2.size ≤ s.size + (Fr.puts l).length := by
  unfold Sg.append
  split
  · exact ⟨h.mono (by omega) (by omega), by simp⟩
  split
  · exact ⟨h.mono (by omega) (by omega), by simp⟩
  · have h1 := h.appB nm (Fr.puts l)
    unfold appC
    split
    · exact ⟨(h1.op0 ..).mono (by omega) (by omega), by simp [undo]⟩
    · exact ⟨h1.mono (by omega) (by omega), by simp⟩
theorem scan_good (hd b : List UInt8) : (scan hd b).2.1 ≤ b.length := by
  unfold scan
  split
  · exact Nat.zero_le _
  split
  · exact Nat.zero_le _
  · have := Fr.all_le (b.drop 12)
    rw [List.length_drop] at this
    simp only
    omega
theorem len_le_used_ {fs : Fs} {nm : Name} {f : Fl} (h : get fs nm = some f) : f.data.length ≤ Dk.used fs := len_le_used (get_mem h)
theorem Bd.open_ (h : Bd d N U) (nm : Name) (hd : List UInt8) : Bd (Sg.open_ d nm hd).2 (N + 2) U ∧ (Sg.open_ d nm hd).1.2.2 ≤ U := by
  unfold Sg.open_
  cases hf : get d.fs nm with
  | none => exact ⟨h.mono (by omega) (Nat.le_refl _), Nat.zero_le _⟩
  | some f =>
    have hl := len_le_used_ hf
    have hg := scan_good hd f.data
    have hu := h.used
    simp only
    unfold openS
    split
    · exact ⟨h.mono (by omega) (Nat.le_refl _), Nat.zero_le _⟩
    · have h1 : Bd (openA d nm (scan hd f.data)).2 (N + 1) U := by
        unfold openA
        split
        · exact h.op0 ..
        · exact h.mono (by omega) (Nat.le_refl _)
      have h2 : Bd (openB (openA d nm (scan hd f.data)) nm).2 (N + 2) U := by
        unfold openB
        split
        · exact h1.op0 ..
        · exact h1.mono (by omega) (Nat.le_refl _)
      unfold openC
      split
      · exact ⟨h2, Nat.zero_le _⟩
      · exact ⟨h2, by simp only; omega⟩
theorem Bd.crash (h : Bd d N U) (tails : List Int) : Bd (Dk.crash d tails) N U :=
  ⟨inv_crash h.inv tails, h.ops, Nat.zero_le _, Nat.le_trans (crashF_used tails 0 d.fs h.inv.safe) h.used, h.room⟩
theorem Bd.arm (h : Bd d N U) (tr : List Tr) (ht : tr.length ≤ 1000) : Bd (Dk.arm d tr) 0 U := ⟨h.inv.ops_ 0 d.down tr, Nat.zero_le _, ht, h.used, h.room⟩
theorem Bd.new (room : Int) (hr : room ≤ 9223372036854775807) : Bd (Dk.new room) 0 0 := ⟨inv_new room, Nat.le_refl _, Nat.zero_le _, Nat.le_refl _, by show room.toNat ≤ _; omega⟩
theorem Bd.write (h : Bd d N U) (b : List UInt8) (nm : Name) : Bd (Mn.write d b nm).2 (N + 5) (U + b.length) := by
  have hs : ∀ {d : D} {N U : Nat}, Bd d N U → Bd (Mn.runW (Mn.wOps b nm) d).2 (N + 4) (U + b.length) := by
    intro d N U h
    unfold Mn.wOps Mn.runW
    simp only
    split
    · exact (h.op0 ..).mono (by omega) (by omega)
    have h1 := h.op0 1 Mn.tmp [] 0
    unfold Mn.runW
    simp only
    split
    · exact (h1.op ..).mono (by omega) (by omega)
    have h2 := h1.op 2 Mn.tmp [] 0 b
    unfold Mn.runW
    simp only
    split
    · exact (h2.op0 ..).mono (by omega) (by omega)
    have h3 := h2.op0 4 Mn.tmp [] 0
    unfold Mn.runW
    simp only
    split
    · exact (h3.op0 ..).mono (by omega) (by omega)
    · unfold Mn.runW
      exact (h3.op0 ..).mono (by omega) (by omega)
  unfold Mn.write Mn.dOps
  split
  · rw [List.cons_append, List.nil_append]
    unfold Mn.runW
    simp only
    split
    · exact (h.op0 ..).mono (by omega) (by omega)
    · exact (hs (h.op0 6 Mn.tmp [] 0)).mono (by omega) (by omega)
  · exact (hs h).mono (by omega) (by omega)
theorem Bd.clean : ∀ (l : List Name) {d : D} {N : Nat}, Bd d N U → Bd (Mn.clean l d).2 (N + l.length) U
  | [], _, _, h => h
  | x :: l, d, N, h => by
    unfold Mn.clean
    have h1 := h.op0 6 x [] 0
    split
    · exact h1.mono (by rw [List.length_cons]; omega) (Nat.le_refl _)
    · exact (Bd.clean l h1).mono (by rw [List.length_cons]; omega) (Nat.le_refl _)
end
end Go.Proofs.YtfdpnjebhllpkaaGreatDoor.Sg
end
