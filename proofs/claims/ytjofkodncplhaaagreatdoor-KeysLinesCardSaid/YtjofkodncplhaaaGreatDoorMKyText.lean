/- keys.Text. -/
import Derived.Test.YtjofkodncplhaaaGreatDoorMKyRule
import Derived.Shelf.Strings.OnBuilder
namespace Go.Proofs.YtjofkodncplhaaaGreatDoor.Ky
open Go.RowKit Go.Shelf UtfW

/-- A builder of the call's own. -/
abbrev Bd (B b : Nat) (l : List UInt8) (w : World) : Prop := Lib.IsBuilder 65 5 B b (Lib.byteCells l) w
theorem Bd.below {B b : Nat} {l : List UInt8} {w w' : World} (h : Bd B b l w) (hb : Below w.heap.size w w') : Bd B b l w' := by
  have key : ∀ p, Lib.BuilderAt 65 5 B b p (Lib.byteCells l) w → Lib.BuilderAt 65 5 B b p (Lib.byteCells l) w' := fun p h => by
    have hlt := h.lt
    obtain ⟨hB, v, hv, hown, hne⟩ := h
    exact ⟨hB, v, (hb.block b hlt).trans hv, hown.kept (row := none) (grown_of_below hb) (Classical.em _), hne⟩
  exact h.elim (fun x => .inl (key _ x)) (fun x => .inr (key _ x))
theorem bd_new (w : World) (B : Nat) (hB : B ≤ w.heap.size) : Bd B w.heap.size [] (w.alloc (.cells #[.pointer none, .slice none 0 0] 65)) :=
  .inl ⟨hB, _, heap_alloc_new w _, World.ownsRow_nil _ B _ 1, by simp [Value.ownBlock]⟩
theorem write_any (B b : Nat) (l : List UInt8) (s : ByteArray) (w : World) (h : Bd B b l w) (hlen : l.length + s.size ≤ 1000000) (hBw : B ≤ w.heap.size) :
    Calls Tryz.prog 41 #[.pointer (some ⟨b, 0, none⟩), .string s] w fun e w' => e = .returned (.tuple #[.int .i64 s.size, .nilIface]) ∧ Bd B b (l ++ s.data.toList) w' ∧ Below B w w' := by
  refine (Any.Builder_WriteString { Tryz.lays156 with } Tryz.extra156 B b (Lib.byteCells l) s w h (by simp [Lib.byteCells]; omega) hBw).mono ?_
  rintro e w' ⟨rfl, h1, h2⟩
  refine ⟨rfl, .inr ?_, h2⟩
  have e : Lib.byteCells (l ++ s.data.toList) = Lib.byteCells l ++ Lib.strCells s := by simp [Lib.byteCells, Lib.strCells]
  rw [e]
  exact h1
theorem string_any (B b : Nat) (l : List UInt8) (w : World) (h : Bd B b l w) (hBw : B ≤ w.heap.size) :
    Calls Tryz.prog 43 #[.pointer (some ⟨b, 0, none⟩)] w fun e w' => e = .returned (.string (strOf l)) ∧ Below B w w' :=
  Any.Builder_String_any { Tryz.lays156 with } Tryz.extra156 B b l w h hBw

set_option maxHeartbeats 2000000 in
set_option maxRecDepth 100000 in
/-- keys.Text. -/
theorem Text_any (A : Option Addr) (n c : Nat) (l : List Rl) (w : World) (h : Rs w A n c l) (hW : wts l ≤ 100000) :
    Calls Tryz.prog 22 #[.slice A n c] w fun e w' => e = .returned (.string (strOf (textR l))) ∧ Below w.heap.size w w' := by
  have hl' := Lib.hid h.len
  have hm := h.max
  have hle := h.le
  have hnb := bd_new w w.heap.size (Nat.le_refl _)
  have hb0 := below_alloc w (.cells #[.pointer none, .slice none 0 0] 65)
  obtain ⟨T, hT⟩ : ∃ T, w.heap.size = T := ⟨_, rfl⟩
  obtain ⟨w0, hw0⟩ : ∃ w0, w.alloc (.cells #[.pointer none, .slice none 0 0] 65) = w0 := ⟨_, rfl⟩
  have hs0 : w0.heap.size = T + 1 := by rw [← hw0, World.size_alloc, hT]
  rw [hw0] at hb0 hnb
  have h' := Lib.hid h
  rw [hT] at hnb
  have hnb' := Lib.hid hnb
  have hb0' := Lib.hid hb0
  have hT' := Lib.hid hT
  have hW' := Lib.hid hW
  clear h hnb hb0 hW
  obtain ⟨X, hX⟩ : ∃ X, textR l = X := ⟨_, rfl⟩
  rw [hX]
  have hX' := Lib.hid hX
  clear hX
  go_enter Tryz.func22, Tryz.ntmps22
  go_wp2_with fail
  clear hw0 hT
  go_loopw [8] (fun i wr => ∃ k : Nat, k ≤ n ∧ i = .int .i64 k ∧ Hid (Bd T T (textR (l.take k)) wr) ∧ Hid (Below w.heap.size w wr)) (fun i _ => n - (intOf i).toNat)
  case atStart => exact ⟨0, by omega, rfl, hnb', hb0'⟩
  case round =>
    obtain ⟨k, hk, rfl, hbd, hb⟩ := hrel
    have hTr : T ≤ wr.heap.size := by have := hb.out.size; have := hT'.out; omega
    by_cases hlt : k < n
    · have i1 : decide ((k : Int) < (n : Int)) = true := by rw [decide_eq_true_eq]; omega
      have i2 : decide (k < n) = true := by rw [decide_eq_true_eq]; omega
      have i3 : (k : Int) < (n : Int) := by omega
      obtain ⟨b, off, r, A1, n1, c1, A2, n2, c2, rfl, hbl, hr, t1, t2, k0, k1⟩ := Rs.at_ (h'.out.below hb.out) hlt
      have hn7 := kb_new wr A1 n1 c1 A2 n2 c2
      have hb7 := below_alloc wr (.cells #[.slice A1 n1 c1, .slice A2 n2 c2] 27)
      obtain ⟨p7, hp7⟩ : ∃ p7, wr.heap.size = p7 := ⟨_, rfl⟩
      obtain ⟨w7, hw7⟩ : ∃ w7, wr.alloc (.cells #[.slice A1 n1 c1, .slice A2 n2 c2] 27) = w7 := ⟨_, rfl⟩
      rw [hw7] at hn7 hb7
      have hbd7 := Lib.hid (hbd.out.below hb7)
      have t17 := Lib.hid (t1.below hb7)
      have t27 := Lib.hid (t2.below hb7)
      rw [hp7] at hn7
      have hb7' := Lib.hid (hb.out.trans (hb7.mono hb.out.size))
      have hwr := small_of hW'.out r (List.mem_of_getElem? hr)
      have hrw := wts_le (List.mem_of_getElem? hr)
      have hW9 := hW'.out
      have htx := textL_len r
      have hjl1 := join_len [47] r.1
      have hjl2 := join_len [44, 32] r.2
      have hl1 := t1.len
      have hl2 := t2.len
      have hwr' : 1 + n1 + n2 + lens r.1 + lens r.2 ≤ 100000 := by
        have h9 : wt r ≤ 100000 := by omega
        unfold wt at h9
        omega
      have hacc : Hid ((textR (l.take k)).length + (textL r ++ [10]).length ≤ 500000 ∧ textR (l.take (k + 1)) = textR (l.take k) ++ (textL r ++ [10])) := Lib.hid (by
        have e : textR (l.take (k + 1)) = textR (l.take k) ++ (textL r ++ [10]) := by rw [take_snoc hr]; simp [textR]
        refine ⟨?_, e⟩
        have h1 := textR_len (l.take (k + 1))
        have h2 : wts (l.take (k + 1)) ≤ wts l := by
          have := wts_append (l.take (k + 1)) (l.drop (k + 1))
          rw [List.take_append_drop] at this
          omega
        rw [e, List.length_append] at h1
        omega)
      have hq0 : Hid (∀ x, Below w7.heap.size w7 x → x.cell? ⟨p7, 0, none⟩ = some (.slice A1 n1 c1) ∧ x.cell? ⟨p7, 1, none⟩ = some (.slice A2 n2 c2)) := Lib.hid fun x hbx => (hn7.below hbx).cells
      have hdr : Hid (Below w7.heap.size w7 w7.drew) := Lib.hid (Joins.below_draws w7.heap.size w7 1)
      have hc1 : Hid (∀ x, Below w7.heap.size w7 x → Calls Tryz.prog 42 #[.slice A1 n1 c1, .string ⟨#[47]⟩] x fun e w' => e = .returned (.string (strOf (join [47] r.1))) ∧ Below x.heap.size x w') := Lib.hid fun x hbx => join_any A1 n1 c1 r.1 ⟨#[47]⟩ x (t17.out.below hbx) (by omega) (by
        have e : (⟨#[47]⟩ : ByteArray).data.toList = [47] := rfl
        rw [e]
        simp at hjl1
        omega)
      have hc2 : Hid (∀ x, Below w7.heap.size w7 x → Calls Tryz.prog 42 #[.slice A2 n2 c2, .string ⟨#[44, 32]⟩] x fun e w' => e = .returned (.string (strOf (join [44, 32] r.2))) ∧ Below x.heap.size x w') := Lib.hid fun x hbx => join_any A2 n2 c2 r.2 ⟨#[44, 32]⟩ x (t27.out.below hbx) (by omega) (by
        have e : (⟨#[44, 32]⟩ : ByteArray).data.toList = [44, 32] := rfl
        rw [e]
        simp at hjl2
        omega)
      have hT7 : T ≤ w7.heap.size := by have := hb7.size; omega
      have hs7 := hb7'.out.size
      obtain ⟨J1, hJ1⟩ : ∃ J1, join [47] r.1 = J1 := ⟨_, rfl⟩
      obtain ⟨J2, hJ2⟩ : ∃ J2, join [44, 32] r.2 = J2 := ⟨_, rfl⟩
      rw [hJ1] at hc1
      rw [hJ2] at hc2
      have htl : Hid (textL r ++ [10] = 47 :: J1 ++ 32 :: 123 :: J2 ++ [125, 10]) := Lib.hid (by unfold textL; rw [hJ1, hJ2]; simp)
      have hlJ := hacc.out.1
      rw [htl.out] at hlJ
      simp at hlJ
      have hz1 : ¬ 9223372036854775807 < 1 + (strOf J1).size := by rw [strOf_size']; omega
      have hz2 : ¬ 9223372036854775807 < (strOf (47 :: J1)).size + 2 := by rw [strOf_size']; simp; omega
      have hz3 : ¬ 9223372036854775807 < (strOf (47 :: J1 ++ [32, 123])).size + (strOf J2).size := by rw [strOf_size', strOf_size']; simp; omega
      have hz4 : ¬ 9223372036854775807 < (strOf (47 :: (J1 ++ [32, 123]))).size + (strOf J2).size + 2 := by rw [strOf_size', strOf_size']; simp; omega
      have hz5 : ¬ 9223372036854775807 < (strOf (47 :: (J1 ++ [32, 123])) ++ strOf J2).size + 2 := by rw [strOf_add, strOf_size']; simp; omega
      clear hn7 hb7 t1 t2 hr hwr hrw hW9 htx hjl1 hjl2 hl1 hl2 hwr' hJ1 hJ2
      go_wp2_with fail
      clear k0 k1
      obtain ⟨q0, q1⟩ := hq0.out _ hdr.out
      refine Pl.wp_region_plan 8 (.take 0 (.take 1 (.take 5 (.take 6 (.run 2 (.take 3 (.take 4 (.run 7 .done)))))))) (fun x => x.cell? ⟨p7, 0, none⟩ = some (.slice A1 n1 c1) ∧ x.cell? ⟨p7, 1, none⟩ = some (.slice A2 n2 c2)) (by kernel_rfl) (by kernel_rfl) (by exact ⟨q0, q1⟩) ?_
      simp only [Pl.fill, List.getElem?_cons_zero, List.getElem?_cons_succ, List.drop_succ_cons, List.drop_zero]
      iterate 4
        refine Pl.take_go ?_ (by rfl) (fun _ _ _ h => h) ?_ ?_
        rotate_left
        · (intro x hSw; (try dsimp only at hSw); go_simp; try with_reducible rfl)
        try simp only [Act.put, List.setIfInBounds_toArray, List.set_cons_zero, List.set_cons_succ]
      refine Pl.run_go (fun K hK => ?_)
      go_simp
      refine (hc1.out _ hdr.out).mono ?_
      rintro e w9 ⟨rfl, hb9⟩
      have hb9' := Lib.hid (hdr.out.trans (hb9.mono hdr.out.size))
      have hs9 := hb9'.out.size
      clear hb9 q0 q1
      obtain ⟨q0, q1⟩ := hq0.out _ hb9'.out
      dsimp only
      refine hK.out _ _ (Pl.more_go _ (fun _ h => h) (by exact ⟨q0, q1⟩) ?_)
      clear hK K q0 q1
      try simp only [Act.put, List.setIfInBounds_toArray, List.set_cons_zero, List.set_cons_succ]
      refine Pl.take_go (.string (strOf (47 :: J1))) (by rfl) (fun _ _ _ h => h) ?_ ?_
      · intro x hSw
        go_simp
        exact strOf_add [47] J1
      try simp only [Act.put, List.setIfInBounds_toArray, List.set_cons_zero, List.set_cons_succ]
      refine Pl.take_go (.string (strOf (47 :: J1 ++ [32, 123]))) (by rfl) (fun _ _ _ h => h) ?_ ?_
      · intro x hSw
        go_simp
        exact strOf_add (47 :: J1) [32, 123]
      try simp only [Act.put, List.setIfInBounds_toArray, List.set_cons_zero, List.set_cons_succ]
      refine Pl.run_go (fun K hK => ?_)
      go_simp
      refine (hc2.out _ hb9'.out).mono ?_
      rintro e wA ⟨rfl, hbA⟩
      have hbA' := Lib.hid (hb9'.out.trans (hbA.mono hs9))
      have hsA := hbA'.out.size
      clear hbA
      obtain ⟨q0, q1⟩ := hq0.out _ hbA'.out
      dsimp only
      refine hK.out _ _ (Pl.more_go _ (fun _ h => h) (by exact ⟨q0, q1⟩) ?_)
      clear hK K q0 q1
      try simp only [Act.put, List.setIfInBounds_toArray, List.set_cons_zero, List.set_cons_succ]
      refine Pl.done_go ?_
      go_wp2_with fail
      have eS : strOf (47 :: (J1 ++ [32, 123])) ++ strOf J2 ++ ⟨#[125, 10]⟩ = strOf (textL r ++ [10]) := by
        have e1 : (⟨#[125, 10]⟩ : ByteArray) = strOf [125, 10] := rfl
        rw [e1, strOf_add, strOf_add, htl.out]
        simp
      rw [eS]
      have hwt := write_any T T (textR (l.take k)) (strOf (textL r ++ [10])) wA (hbd7.out.below hbA'.out) (by rw [strOf_size']; have := hacc.out.1; omega) (by omega)
      rw [strOf_data', ← hacc.out.2] at hwt
      obtain ⟨zz, hzz⟩ : ∃ zz : Nat, (strOf (textL r ++ [10])).size = zz := ⟨_, rfl⟩
      rw [hzz] at hwt
      refine hwt.mono ?_
      rintro e wB ⟨rfl, hbB, hbelow⟩
      have hbB' := Lib.hid hbB
      have hxB := Lib.hid (hb7'.out.trans ((hbA'.out.mono hs7).trans (by rw [hT'.out]; exact hbelow)))
      clear hwt hbelow hbB hzz eS hz1 hz2 hz3 hz4 hz5 hlJ
      go_wp2_with fail
      go_roundw
      case rel => exact ⟨k + 1, by omega, by go_num, hbB', hxB⟩
      case measure => simp [intOf]; omega
    · have i1 : decide ((k : Int) < (n : Int)) = false := by rw [decide_eq_false_iff_not]; omega
      have i2 : decide (k < n) = false := by rw [decide_eq_false_iff_not]; omega
      have e : l.take k = l := List.take_of_length_le (by have := hl'.out; omega)
      rw [e, hX'.out] at hbd
      have hstr := string_any T T X wr hbd.out hTr
      clear hbd e
      go_wp2_with fail
      refine hstr.mono ?_
      rintro e w2 ⟨rfl, hb2⟩
      have hx := Lib.hid (hb.out.trans (by rw [hT'.out]; exact hb2))
      clear hb2 hstr
      go_wp2_with fail
      go_ret
      exact ⟨rfl, hx.out⟩
end Go.Proofs.YtjofkodncplhaaaGreatDoor.Ky
