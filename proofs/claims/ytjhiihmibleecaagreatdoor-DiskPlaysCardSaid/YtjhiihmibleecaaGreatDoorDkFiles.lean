/- Files. -/
import Derived.Test.YtjhiihmibleecaaGreatDoorDkArm
namespace Go.Proofs.YtjhiihmibleecaaGreatDoor.Dk
open Go.RowKit

/-- A file's cells, its bytes in memory of the call's own. -/
def FoEl (B : Nat) (w : World) (vs : List Value) (f : In) : Prop := ∃ s v, vs = [.string s, v, .int .i64 f.safe] ∧ f.nm = s.data.toList ∧ OwB w B 5 v f.data
theorem FoEl.fe {B : Nat} {w : World} {vs : List Value} {f : In} (h : FoEl B w vs f) : FeEl w vs f := by
  obtain ⟨s, v, rfl, h1, h2⟩ := h
  obtain ⟨A, c, rfl, h3⟩ := OwB.slice h2
  exact ⟨s, A, _, c, rfl, h1, h3⟩
theorem FoEl.one {B : Nat} (w : World) : ∀ (vs : List Value) (t : In), FoEl B w vs t → ∀ u ∈ vs, u.oneCell' = true := fun vs t h => FeEl.one w vs t h.fe
theorem FoEl.kept {B : Nat} {w w' : World} {row : Option Nat} (hg : w.grownBy w' row) (hn : NoE 5 w row) : ∀ vs x, FoEl B w vs x → FoEl B w' vs x := by
  rintro vs x ⟨s, v, rfl, h1, h2⟩
  exact ⟨s, v, rfl, h1, row_kept h2 hg hn⟩
theorem FoEl.below {B : Nat} {w w' : World} (hb : Below w.heap.size w w') : ∀ vs x, FoEl B w vs x → FoEl B w' vs x := FoEl.kept (grown_of_below hb) NoE.none
theorem FoEl.fm {B : Nat} {w w' : World} (hb : Fm w w') : ∀ vs x, FoEl B w vs x → FoEl B w' vs x := by
  rintro vs x ⟨s, v, rfl, h1, h2⟩
  exact ⟨s, v, rfl, h1, hb.owb h2⟩
theorem FoEl.base {B B' : Nat} {w : World} (hB : B' ≤ B) : ∀ vs x, FoEl B w vs x → FoEl B' w vs x := by
  rintro vs x ⟨s, v, rfl, h1, h2⟩
  exact ⟨s, v, rfl, h1, OwB.base h2 hB⟩
theorem ows_noE {α : Type} {El : World → List Value → α → Prop} {k : Nat} {w : World} {B E E' : Nat} {v : Value} {l : List α} (h : OwS El k w B E v l) (hne : E ≠ E') : NoE E' w v.ownBlock := by
  obtain ⟨xs, ⟨_, h1⟩, _⟩ := h
  rcases h1 with ⟨rfl, _⟩ | ⟨g, cap, cur, rfl, _, hh, _⟩
  · exact NoE.none
  · exact NoE.of hh (by intro cs fr e; injection e with _ e _; exact hne e)
theorem ows_fm {α : Type} {El : World → List Value → α → Prop} {k : Nat} {w w' : World} {B E : Nat} {v : Value} {l : List α} (h : OwS El k w B E v l) (hf : Fm w w') (h1 : E ≠ 65) (h2 : E ≠ 61) (hE : ∀ vs x, El w vs x → El w' vs x) : OwS El k w' B E v l := by
  obtain ⟨xs, h3, h4⟩ := h
  exact ⟨xs, hf.row h3 h1 h2, h4.mono hE⟩

/-- The files as they are handed out. -/
abbrev OwF (w : World) (B : Nat) (v : Value) (l : List In) : Prop := OwS (FoEl B) 3 w B 52 v l
theorem OwF.below {w w' : World} {B : Nat} {v : Value} {l : List In} (h : OwF w B v l) (hb : Below w.heap.size w w') : OwF w' B v l := OwS.below h hb (FoEl.below hb)
theorem OwF.fm {w w' : World} {B : Nat} {v : Value} {l : List In} (h : OwF w B v l) (hb : Fm w w') : OwF w' B v l := ows_fm h hb (by decide) (by decide) (FoEl.fm hb)

theorem OwS_base {w : World} {B B' : Nat} {v : Value} {l : List In} (h : OwF w B v l) (hB : B' ≤ B) : OwF w B' v l := by
  obtain ⟨xs, h1, h2⟩ := h
  exact ⟨xs, ownsRow_base h1 hB, h2.mono (FoEl.base hB)⟩

set_option maxHeartbeats 2000000 in
set_option maxRecDepth 100000 in
theorem Files_any (w : World) (B a mb : Nat) (L : Al Nat) (F : Nat → Fl) (tv : Value) (d : D) (h : Da w B a mb L F tv d) (hl : L.length ≤ 1000) (hfl : ∀ p ∈ d.fs, p.1.length ≤ 1000 ∧ p.2.data.length ≤ 1000000000) :
    Calls Tryz.prog 12 #[.pointer (some ⟨a, 0, none⟩)] w fun e w' => ∃ v, e = .returned v ∧ OwF w' w.heap.size v (d.fs.map toIn) ∧ Below w.heap.size w w' := by
  have hnm := Names_any w B a mb L F tv d h (by omega)
  have h' := Lib.hid h
  have hfl' := Lib.hid hfl
  have hfs : Hid (d.fs.map toIn = L.map fun p => toIn (p.1, F p.2)) := Lib.hid (by rw [h.fs, List.map_map]; rfl)
  clear h hfl
  go_enter Tryz.func12, Tryz.ntmps12
  go_wp2_with fail
  refine hnm.mono ?_
  rintro e w1 ⟨A, n, c, rfl, hnl, hb1, ho1⟩
  have hr1 := Lib.hid (rd_of_own ho1)
  have hb1' := Lib.hid hb1
  have hle := Rd.le hr1.out
  have hmx := Rd.max hr1.out
  obtain rfl : L.length = n := hnl.symm
  clear hnm hb1 ho1 hnl
  go_wp2_with fail
  go_loopw [3, 10] (fun o i wr => ∃ (k : Nat) (A' : Option Addr) (c' : Nat), k ≤ L.length ∧ i = .int .i64 k ∧ o = .slice A' k c' ∧ Hid (OwF wr w1.heap.size (.slice A' k c') ((L.take k).map fun p => toIn (p.1, F p.2))) ∧ Hid (Below w1.heap.size w1 wr)) (fun _ i _ => L.length - (intOf i).toNat)
  case atStart => exact ⟨0, none, 0, by omega, rfl, rfl, Lib.hid (OwS.nil _ _ _), Lib.hid (Below.refl _ _)⟩
  case round =>
    obtain ⟨k, A', c', hk, rfl, rfl, hO, hbw⟩ := hrel
    by_cases hlt : k < L.length
    · obtain ⟨b', off, u, rfl, hb, hu, hc1⟩ := Rd.at_ (Rd.below hr1.out hbw.out) hlt
      have hLk : L[k]? = some L[k] := List.getElem?_eq_getElem hlt
      obtain ⟨nm, fb, hp⟩ : ∃ nm fb, L[k] = (nm, fb) := ⟨_, _, rfl⟩
      rw [List.getElem?_map, hLk, hp] at hu
      simp only [Option.map_some, Option.some.injEq] at hu
      rw [hp] at hLk
      have hmem := List.mem_of_getElem? hLk
      have hD := h'.out.below (hb1'.out.trans (hbw.out.mono hb1'.out.size))
      have hget : Dk.get L nm = some fb := get_of_mem h'.out.up hmem
      have hfp := hfl'.out (nm, F fb) (by rw [h'.out.fs]; exact List.mem_map.2 ⟨_, hmem, rfl⟩)
      obtain ⟨s, hs⟩ : ∃ s : ByteArray, encStr nm = .string s ∧ s.data.toList = nm ∧ s.size ≤ 1000 := ⟨⟨nm.toArray⟩, rfl, by simp, by simp only at hfp; show nm.toArray.size ≤ 1000; simp; exact hfp.1⟩
      obtain ⟨hs1, hs2, hs3⟩ := hs
      rw [← hu, hs1] at hc1
      have hlk := hD.look s (by unfold maxLen; omega)
      rw [hs2, hget] at hlk
      simp only [Option.map_some] at hlk
      obtain ⟨hBb, hblt, A0, c0, hfb, hbs⟩ := hD.file hget
      have kf : wr.cell? ⟨fb, 0, none⟩ = some (.slice A0 (F fb).data.length c0) := by simp [World.cell?, hfb]
      have ks : wr.cell? ⟨fb, 1, none⟩ = some (.int .i64 ((F fb).safe : Nat)) := by simp [World.cell?, hfb]
      have c1 := hD.c1
      have hlen : (F fb).data.length ≤ 140737488355328 := by simp only at hfp; omega
      have hcl : ∀ w2, Below wr.heap.size wr w2 → Calls Tryz.prog 27 #[.slice A0 (F fb).data.length c0] w2 fun e w3 => ∃ v, e = .returned v ∧ Hid (OwB w3 w2.heap.size 5 v (F fb).data) ∧ Hid (Below w2.heap.size w2 w3) := fun w2 hb2 => by
        refine (clone_any A0 _ c0 _ w2 (hbs.below hb2) hlen).mono ?_
        rintro e w3 ⟨v, rfl, h1, h2⟩
        exact ⟨v, rfl, Lib.hid h1, Lib.hid h2⟩
      have hcl' := Lib.hid hcl
      have hfin : Hid ((L.take (k + 1)).map (fun p => toIn (p.1, F p.2)) = (L.take k).map (fun p => toIn (p.1, F p.2)) ++ [⟨nm, (F fb).data, ((F fb).safe : Nat)⟩]) := Lib.hid (by rw [take_snoc hLk, List.map_append]; rfl)
      have hlk2 := Lib.hid hLk
      obtain ⟨n0, hn0⟩ : ∃ n0, (F fb).data.length = n0 := ⟨_, rfl⟩
      obtain ⟨sf, hsf⟩ : ∃ sf, (F fb).safe = sf := ⟨_, rfl⟩
      rw [hn0] at kf hcl'
      rw [hsf] at ks hfin
      have hs2' := Lib.hid hs2
      have hblt' := Lib.hid hblt
      clear hD hu hp hfb hbs hmem hget hfp hs1 hcl hn0 hsf hLk hs2 hblt
      go_wp2_with fail
      refine Pl.wp_region_plan 13 (.take 0 (.take 1 (.take 2 (.take 3 (.take 4 (.take 5 (.take 7 (.take 8 (.take 9 (.take 10 (.run 6 (.take 11 (.run 12 .done)))))))))))))
        (fun x => x.cell? ⟨fb, 0, none⟩ = some (.slice A0 n0 c0) ∧ x.cell? ⟨fb, 1, none⟩ = some (.int .i64 (sf : Nat))) (by kernel_rfl) (by kernel_rfl) (by exact ⟨kf, ks⟩) ?_
      simp only [Pl.fill, List.getElem?_cons_zero, List.getElem?_cons_succ, List.drop_succ_cons, List.drop_zero]
      iterate 10
        refine Pl.take_go ?_ (by rfl) (fun _ _ _ h => h) ?_ ?_
        rotate_left
        · (intro x hSw; (try dsimp only at hSw); go_simp; try with_reducible rfl)
        try simp only [Act.put, List.setIfInBounds_toArray, List.set_cons_zero, List.set_cons_succ]
      refine Pl.run_go (fun K hK => ?_)
      go_simp
      refine (hcl'.out wr.drew (bD (Below.refl _ wr))).mono ?_
      rintro e w3 ⟨v, rfl, ho3, hb3⟩
      obtain ⟨A3, c3, rfl⟩ : ∃ A3 c3, v = .slice A3 (F fb).data.length c3 := by
        obtain ⟨A3, c3, e3, _⟩ := OwB.slice ho3.out
        exact ⟨A3, c3, e3⟩
      have hbw3 := Lib.hid ((bD (Below.refl wr.heap.size wr)).trans (hb3.out.mono (by simp)))
      have m1 := (hbw3.out.cell (p := ⟨fb, 0, none⟩) hblt'.out).trans kf
      have m2 := (hbw3.out.cell (p := ⟨fb, 1, none⟩) hblt'.out).trans ks
      have hxw := Lib.hid (hbw.out.trans (hbw3.out.mono hbw.out.size))
      have hO3 := Lib.hid (OwF.below hO.out hbw3.out)
      have ho3' := Lib.hid (OwB.base ho3.out (B' := w1.heap.size) (by have := hbw.out.size; simp; omega))
      clear ho3 hb3 hcl' hO hbw hbw3 kf ks
      dsimp only
      refine hK.out _ _ (Pl.more_go _ (fun _ h => h) (by exact ⟨m1, m2⟩) ?_)
      clear hK K
      refine Pl.take_go ?_ (by rfl) (fun _ _ _ h => h) ?_ ?_
      rotate_left
      · (intro x hSw; (try dsimp only at hSw); go_simp; try with_reducible rfl)
      try simp only [Act.put, List.setIfInBounds_toArray, List.set_cons_zero, List.set_cons_succ]
      refine Pl.run_go (fun K hK => ?_)
      go_simp
      have hba := below_alloc w3 (.cells #[.string s, .slice A3 (F fb).data.length c3, .int .i64 (sf : Nat)] 52)
      have hlt3 : fb < w3.heap.size := by
        have := hxw.out.size
        have := hb
        rcases Nat.lt_or_ge fb w3.heap.size with h | h
        · exact h
        · simp [World.cell?, Array.getElem?_eq_none h] at m1
      have p1 := (hba.cell (p := ⟨fb, 0, none⟩) hlt3).trans m1
      have p2 := (hba.cell (p := ⟨fb, 1, none⟩) hlt3).trans m2
      have hel : FoEl w1.heap.size (w3.alloc (.cells [.string s, .slice A3 (F fb).data.length c3, .int .i64 (sf : Nat)].toArray 52)) [.string s, .slice A3 (F fb).data.length c3, .int .i64 (sf : Nat)] ⟨nm, (F fb).data, ((sf : Nat) : Int)⟩ :=
        ⟨s, _, rfl, hs2'.out.symm, OwB.below ho3'.out hba⟩
      have hsq := Lib.hid (sq_one (El := FoEl w1.heap.size) (k := 3) w3 [.string s, .slice A3 (F fb).data.length c3, .int .i64 (sf : Nat)] ⟨nm, (F fb).data, ((sf : Nat) : Int)⟩ 52 (0, 0) rfl hel)
      have hO4 := Lib.hid (OwF.below hO3.out hba)
      have hxw4 := Lib.hid (hxw.out.trans (hba.mono hxw.out.size))
      have hkl : ((L.take k).map fun p => toIn (p.1, F p.2)).length = k := by rw [List.length_map, List.length_take]; omega
      have hkl' := Lib.hid hkl
      refine hK.out _ _ (Pl.more_go _ (fun _ h => h) (by exact ⟨p1, p2⟩) ?_)
      clear hK K m1 m2 p1 p2 hba hel hO3 ho3' hxw hlt3 hkl
      refine Pl.done_go ?_
      refine append_sq (El := FoEl w1.heap.size) (k := 3) _ 22 52 (.agg #[.string ⟨#[]⟩, .slice none 0 0, .int .i64 0]) 48 Tryz.underlying22 (by kernel_rfl) rfl (by omega) rfl _ _ rfl w1.heap.size _ _ rfl hO4.out _ 1 1 _ rfl hsq.out (FoEl.one _) (fun w' hg => FoEl.kept hg (ows_noE hO4.out (by decide))) (k + 1) ?h3 ?h4 ?h5 ?h6 ?_
      case h3 => rw [hkl'.out]
      case h4 => omega
      case h5 => omega
      case h6 => exact hxw4.out.size
      intro A6 c6 w6 ho6 _ hb6 _
      rw [← hfin.out] at ho6
      have ho6' := Lib.hid ho6
      have hb6' := Lib.hid (hxw4.out.trans hb6)
      clear ho6 hb6
      go_wp2_with fail
      go_roundw
      case rel => exact ⟨k + 1, A6, c6, by omega, by go_num, by go_num, ho6', hb6'⟩
      case measure => simp [intOf]; omega
    · have : k = L.length := by omega
      subst this
      rw [List.take_of_length_le (Nat.le_refl _), ← hfs.out] at hO
      go_wp2_with fail
      go_ret
      exact ⟨_, rfl, OwS_base hO.out hb1'.out.size, hb1'.out.trans (hbw.out.mono hb1'.out.size)⟩
end Go.Proofs.YtjhiihmibleecaaGreatDoor.Dk
