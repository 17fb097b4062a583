/- A file is gone. -/
import Derived.Test.YtjhiihmibleecaaGreatDoorDkRc
namespace Go.Proofs.YtjhiihmibleecaaGreatDoor.Dk
open Go.RowKit

/-- The same, its values named. -/
def Rw (B rb : Nat) (lv tv : Value) (dd : D) (w w' : World) : Prop := Below B w w' ∧ Rm w w' ∧ Ra w' B rb lv tv dd
theorem Rw.rs {B rb : Nat} {lv tv : Value} {dd : D} {w w' : World} (h : Rw B rb lv tv dd w w') : Rs B rb dd w w' := ⟨h.1, h.2.1, _, _, h.2.2⟩
/-- What drop leaves. -/
def Dr (B rb : Nat) (lv : Value) (dd : D) (w w' : World) : Prop := ∃ lv' tv', Rw B rb lv' tv' dd w w' ∧ w.grownBy w' (some rb) ∧ (lv' = lv ∨ ∀ b, lv'.ownBlock = some b → w.heap.size ≤ b)
theorem Dr.rs {B rb : Nat} {lv : Value} {dd : D} {w w' : World} (h : Dr B rb lv dd w w') : Rs B rb dd w w' := by
  obtain ⟨_, _, h, _⟩ := h
  exact h.rs
theorem Rs.refl {w : World} {B rb : Nat} {lv tv : Value} {d : D} (h : Ra w B rb lv tv d) : Rs B rb d w w := ⟨Below.refl _ _, Rm.refl _, lv, tv, h⟩

theorem wrap_nat (n : Nat) (h : n < 9223372036854775808) : IntKind.i64.wrap (n : Int) = (n : Int) := by
  have e : (n : Int) % 2 ^ 64 = n := Int.emod_eq_of_lt (by omega) (by omega)
  simp only [IntKind.wrap, IntKind.bits, IntKind.signed, e]
  rw [if_neg]
  simp
  omega

set_option maxHeartbeats 2000000 in
set_option maxRecDepth 100000 in
theorem rDrop_any (w : World) (B rb : Nat) (lv tv : Value) (d : D) (h : Ra w B rb lv tv d) (s : ByteArray) (hU : Up d.fs) (hl : d.fs.length ≤ 1000000) :
    Calls Tryz.prog 61 #[.pointer (some ⟨rb, 0, none⟩), .string s] w fun e w' => e = .returned (.tuple #[]) ∧ Dr B rb lv { d with fs := del s.data.toList d.fs } w w' := by
  have hat := rAt_any w B rb lv tv d h s
  rcases atI_get (fs := d.fs) (nm := s.data.toList) with ⟨e1, e2⟩ | ⟨k, f, e1, e2, e3⟩
  · rw [e1] at hat
    have hf : Hid (Dr B rb lv { d with fs := del s.data.toList d.fs } w w) := Lib.hid (by rw [del_none e2]; exact ⟨lv, tv, ⟨Below.refl _ _, Rm.refl _, h⟩, World.grownBy.refl _ _, .inl rfl⟩)
    clear h e1 e2
    go_enter Tryz.func61, Tryz.ntmps61
    go_wp2_with fail
    refine hat.mono ?_
    rintro e w2 ⟨rfl, rfl⟩
    go_wp2_with fail
    go_end0
    exact ⟨rfl, hf.out⟩
  · rw [e1] at hat
    have hkl0 : k < d.fs.length := (List.getElem?_eq_some_iff.1 e2).1
    have hdel := Lib.hid (del_at hU e2)
    obtain ⟨A, c, hlv, hsq4⟩ := h.sq
    have hle := hsq4.le
    have hmx := hsq4.max
    obtain ⟨n, hn⟩ : ∃ n, d.fs.length = n := ⟨_, rfl⟩
    have r1 : w.cell? ⟨rb, 1, none⟩ = some (.slice A d.fs.length c) := by
      rw [← hlv]
      exact cell_blk h.blk rfl
    rw [hn] at r1 hsq4 hkl0 hle hl
    obtain ⟨T, hT⟩ : ∃ T, w.heap.size = T := ⟨_, rfl⟩
    have hp0 := Lib.hid (PS.start (B := B) (f := toIn (s.data.toList, f)) hT.symm)
    have hTe : Hid (T ≤ w.heap.size) := Lib.hid (by omega)
    have hBT : B ≤ T := by have := h.base; have := h.lt; omega
    have hup : ∀ x, Below T w x → Below w.heap.size w x := fun x hb => by rw [hT]; exact hb
    have hSall : Hid (∀ x, Below T w x → x.cell? ⟨rb, 1, none⟩ = some (.slice A n c)) := Lib.hid fun x hb => ((hup x hb).cell (p := ⟨rb, 1, none⟩) h.lt).trans r1
    have hL : Hid (∀ x, Below T w x → Sq (FoEl B) 3 x A k c ((d.fs.map toIn).take k)) := Lib.hid fun x hb => by
      have := (hsq4.below (FoEl.below (hup x hb)) (hup x hb)).cut 0 k (by omega) (by omega) A (fun b off e _ => by rw [e, Nat.zero_mul]; rfl) (fun e => e)
      rw [Nat.sub_zero, Nat.sub_zero, List.drop_zero] at this
      exact this
    have hR : Hid (∀ x, Below T w x → Sq (FoEl B) 3 x (if c = k + 1 then A else Option.map (fun x => x.add ((k + 1) * 3)) A) (n - (k + 1)) (c - (k + 1)) ((d.fs.map toIn).drop (k + 1))) := Lib.hid fun x hb => by
      have := (hsq4.below (FoEl.below (hup x hb)) (hup x hb)).cut (k + 1) n (by omega) (Nat.le_refl _) (if c = k + 1 then A else Option.map (fun x => x.add ((k + 1) * 3)) A) (fun b off e hkc => by
        rw [if_neg (by omega), e]
        show some (Addr.add ⟨b, off, none⟩ ((k + 1) * 3)) = _
        unfold Addr.add
        split
        · rename_i h0; rw [h0]; rfl
        · rfl) (fun hne => by
        split
        · exact hne
        · intro e; cases A with
          | none => exact hne rfl
          | some a => cases e)
      rw [List.take_of_length_le (by rw [List.length_drop, List.length_map]; omega)] at this
      exact this
    have hkl : Hid (((d.fs.map toIn).take k).length = k) := Lib.hid (by rw [List.length_take, List.length_map]; omega)
    have hfz : Hid (∀ x, Below T w x → x.frozen? ⟨rb, 1, none⟩ = false) := Lib.hid fun x hb => frozen_of_row x rb 1 _ _ (h.below (hup x hb)).blk
    have hfin : Hid (∀ x A5 c5, Below T w x → OwG x B T (.slice A5 (n - 1) c5) ((d.fs.map toIn).take k ++ (d.fs.map toIn).drop (k + 1)) → Dr B rb lv { d with fs := del s.data.toList d.fs } w (x.setCell ⟨rb, 1, none⟩ (.slice A5 (n - 1) c5))) := Lib.hid fun x A5 c5 hb ho => by
      have hx := h.below (hup x hb)
      have e : (d.fs.map toIn).take k ++ (d.fs.map toIn).drop (k + 1) = (del s.data.toList d.fs).map toIn := by
        rw [hdel.out]; simp
      have ho0 := ho
      rw [e] at ho
      obtain ⟨g1, g2, g3⟩ := hx.setA (d' := { d with fs := del s.data.toList d.fs }) (grown_set x ⟨rb, 1, none⟩ (.slice A5 (n - 1) c5)) (setCell_blk hx.blk _) (OwS_base3 (ows_keptN ho (grown_set x ⟨rb, 1, none⟩ (.slice A5 (n - 1) c5)) hx.noF (FoEl.kept (grown_set x ⟨rb, 1, none⟩ (.slice A5 (n - 1) c5)) hx.noB)) hBT) (hx.tr_set 1 _)
      exact ⟨_, _, ⟨(hb.mono hBT).trans g2, (Rm.below (hup x hb)).trans g3, g1⟩, grown_after (hup x hb) (grown_set x ⟨rb, 1, none⟩ (.slice A5 (n - 1) c5)), .inr fun b hb5 => by rw [hT]; exact (OwS.lt ho0 b hb5).1⟩
    have j1 : decide ((k : Int) ≥ 0) = true := by rw [decide_eq_true_eq]; omega
    have j2 : decide ((0 : Int) ≤ (k : Int)) = true := by rw [decide_eq_true_eq]; omega
    have q0 : (k : Int) ≤ (c : Int) := by omega
    have q1 : (0 : Int) ≤ (k : Int) ∧ (k : Int) ≤ (c : Int) := ⟨by omega, by omega⟩
    have q2 : (0 : Int) ≤ ((k + 1 : Nat) : Int) ∧ ((k + 1 : Nat) : Int) ≤ (n : Int) := ⟨by omega, by omega⟩
    have q3 : k ≤ c := by omega
    have q4 : k + 1 ≤ n := by omega
    have q5 : (0 : Int) ≤ (k : Int) := by omega
    have q6 : IntKind.i64.wrap ((k : Int) + 1) = ((k + 1 : Nat) : Int) := by rw [show (k : Int) + 1 = ((k + 1 : Nat) : Int) by omega]; exact wrap_nat (k + 1) (by omega)
    have q7 : (0 : Int) ≤ (k : Int) + 1 ∧ (k : Int) + 1 ≤ (n : Int) := ⟨by omega, by omega⟩
    clear h hlv hup hsq4 hn hT hU e1 e2 e3 hdel hBT
    go_enter Tryz.func61, Tryz.ntmps61
    go_wp2_with fail
    refine hat.mono ?_
    rintro e w2 ⟨rfl, rfl⟩
    go_wp2_with fail
    refine Pl.wp_region_plan 17 (.take 0 (.take 2 (.take 3 (.take 4 (.take 5 (.take 6 (.take 7 (.take 9 (.take 10 (.take 11 (.take 12 (.take 13 (.take 14 (.take 15 (.run 1 (.run 8 (.run 16 .done)))))))))))))))))
      (fun x => x.cell? ⟨rb, 1, none⟩ = some (.slice A n c)) (by kernel_rfl) (by kernel_rfl) (by exact r1) ?_
    simp only [Pl.fill, List.getElem?_cons_zero, List.getElem?_cons_succ, List.drop_succ_cons, List.drop_zero]
    iterate 14
      refine Pl.take_go ?_ (by rfl) (fun _ _ _ h => h) ?_ ?_
      rotate_left
      · (intro x hSw; (try dsimp only at hSw); go_simp; try with_reducible rfl)
      try simp only [Act.put, List.setIfInBounds_toArray, List.set_cons_zero, List.set_cons_succ]
    refine Pl.run_go (fun K hK => ?_)
    go_simp
    have hp1 := Lib.hid ((hp0.out.nil (hp0.out.bel_size hTe.out)).drew_ hTe.out)
    have p1 := hSall.out _ hp1.out.bel
    generalize w.heap.size = kr at hp1 ⊢
    generalize (w.alloc (.cells #[] 52)).drew = x1 at hp1 p1 ⊢
    refine hK.out _ _ (Pl.more_go _ (fun _ h => h) (by exact p1) ?_)
    clear hK K p1
    try simp only [Act.put, List.setIfInBounds_toArray, List.set_cons_zero, List.set_cons_succ]
    refine Pl.run_list (fun K hK => ?_)
    refine append_sq (El := FoEl B) (k := 3) _ 22 52 (.agg #[.string ⟨#[]⟩, .slice none 0 0, .int .i64 0]) 48 Tryz.underlying22 (by kernel_rfl) rfl (by omega) rfl _ _ rfl T _ _ rfl (hp1.out.row _ _ rfl) _ k c _ rfl (hL.out _ hp1.out.bel) (FoEl.one _) (fun w' hg => FoEl.kept hg (ows_noE (hp1.out.row _ _ rfl) (by decide))) k ?h3 ?h4 ?h5 ?h6 ?_
    case h3 => simp
    case h4 => omega
    case h5 => omega
    case h6 => exact hp1.out.bel_size hTe.out
    intro A7 c7 x2 ho hg hb hv
    rw [List.nil_append] at ho
    have hp2 := Lib.hid (hp1.out.app (hp1.out.bel_size hTe.out) hg hb ho hv)
    have p1 := hSall.out _ hp2.out.bel
    clear ho hg hb hv
    refine hK.out _ _ (Pl.more_go _ (fun _ h => h) (by exact p1) ?_)
    clear hK K p1
    try simp only [Act.put, List.setIfInBounds_toArray, List.set_cons_zero, List.set_cons_succ]
    refine Pl.run_list (fun K hK => ?_)
    refine append_sq (El := FoEl B) (k := 3) _ 22 52 (.agg #[.string ⟨#[]⟩, .slice none 0 0, .int .i64 0]) 48 Tryz.underlying22 (by kernel_rfl) rfl (by omega) rfl _ _ rfl T _ _ rfl (hp2.out.row _ _ rfl) _ (n - (k + 1)) (c - (k + 1)) _ rfl (hR.out _ hp2.out.bel) (FoEl.one _) (fun w' hg => FoEl.kept hg (ows_noE (hp2.out.row _ _ rfl) (by decide))) (n - 1) ?h3 ?h4 ?h5 ?h6 ?_
    case h3 => rw [hkl.out]; omega
    case h4 => omega
    case h5 => omega
    case h6 => exact hp2.out.bel_size hTe.out
    intro A8 c8 x3 ho hg hb hv
    have hp3 := Lib.hid (hp2.out.app (hp2.out.bel_size hTe.out) hg hb ho hv)
    have p1 := hSall.out _ hp3.out.bel
    clear ho hg hb hv
    refine hK.out _ _ (Pl.more_go _ (fun _ h => h) (by exact p1) ?_)
    clear hK K
    try simp only [Act.put, List.setIfInBounds_toArray, List.set_cons_zero, List.set_cons_succ]
    refine Pl.done_go ?_
    have fz := hfz.out _ hp3.out.bel
    have hf := Lib.hid (hfin.out _ _ _ hp3.out.bel (hp3.out.row _ _ rfl))
    clear hfin hfz hSall hp0 hp1 hp2 hp3
    go_wp2_with fail
    all_goals (go_end0; exact ⟨rfl, hf.out⟩)
end Go.Proofs.YtjhiihmibleecaaGreatDoor.Dk
