/- The document's segments (printed by wip/gen/sg_ref.py). -/
import Derived.Test.YtfdpnjebhllpkaaGreatDoorMSgOpen
import Derived.Test.YtfdpnjebhllpkaaGreatDoorMSgGd
import Derived.Test.YtfdpnjebhllpkaaGreatDoorMSgScan2
import Derived.Test.YtfdpnjebhllpkaaGreatDoorMMnNeed
import Derived.Test.YtfdpnjebhllpkaaGreatDoorMDkRj
namespace Go.Proofs.YtfdpnjebhllpkaaGreatDoor.Sg
open Go.RowKit Ma Dk

section
variable {B rb : Nat} {d d1 d2 : D} {w w1 w2 : World}
theorem Rs.le (h : Rs B rb d w w1) : B ≤ w1.heap.size := by
  obtain ⟨_, _, _, _, hR⟩ := h
  have := hR.lt
  have := hR.base
  omega
theorem Rs.then_ (h : Rs B rb d1 w w1) (h2 : Rs B rb d2 w1 w2) : Rs B rb d2 w w2 := h2.on h.1 h.2.1
theorem Rs.bel (h : Rs B rb d w w1) (hb : Below w1.heap.size w1 w2) : Rs B rb d w w2 := by
  have hle := Rs.le h
  obtain ⟨h1, h2, lv, tv, hR⟩ := h
  exact ⟨h1.trans (hb.mono hle), h2.trans (Rm.below hb), lv, tv, hR.below hb⟩
theorem Rs.refl_ (h : Rs B rb d w w1) : Rs B rb d w1 w1 := ⟨Below.refl _ _, Rm.refl _, h.2.2⟩
end

/-- The document's segment in memory. -/
def RSegB (rb : Nat) (n : Int) (s : S) : Obj := .cells #[.pointer (some ⟨rb, 0, none⟩), .int .i64 n, .int .i64 (s.size : Nat), .bool s.sick] 70
structure RcP (B rb : Nat) (n : Int) (X : Int × D) (size : Nat) (w : World) (p : Value) (w' : World) : Prop where
  st : Rs B rb X.2 w w'
  res : (X.1 = 0 ∧ ∃ sb, p = .pointer (some ⟨sb, 0, none⟩) ∧ w.heap.size ≤ sb ∧ w'.heap[sb]? = some (RSegB rb n ⟨size, false⟩)) ∨ (X.1 ≠ 0 ∧ p = .pointer none)

theorem rdo {B rb N U : Nat} {d : D} {w0 w : World} (h : Rs B rb d w0 w) (hG : Bd d N U) (hN : N ≤ 900) (hU : U ≤ 1000000) (K : Nat) (hK : 1 ≤ K ∧ K ≤ 6) (s : ByteArray) (hs : s.size ≤ 1000) (n : Int) (Ab : Option Addr) (nb cb : Nat) (b : List UInt8)
    (hb : ∀ w', Below B w w' → Rm w w' → Bs w' Ab nb cb b) (hnb : nb ≤ 100000) :
    Calls Tryz.prog 82 #[.pointer (some ⟨rb, 0, none⟩), .int .i64 (K : Nat), .string s, .string ⟨#[]⟩, .int .i64 n, .slice Ab nb cb] w
      fun e w' => e = .returned (.int .i64 (op d K s.data.toList [] n b).1) ∧ Rs B rb (op d K s.data.toList [] n b).2 w w' := by
  obtain ⟨_, _, lv, tv, hR⟩ := h
  exact rDo_any w B rb lv tv d hR (hG.good (by omega) hU) hG.room K hK s ⟨#[]⟩ hs (by decide) n Ab nb cb b hb hnb

set_option maxHeartbeats 2000000 in
set_option maxRecDepth 100000 in
theorem refCreate_any (w : World) (B rb N U : Nat) (d : D) (h : Rs B rb d w w) (hG : Bd d N U) (hN : N ≤ 800) (hU : U ≤ 900000) (n : Int) (hok : okN n = true) :
    Calls Tryz.prog 33 #[.pointer (some ⟨rb, 0, none⟩), .int .i64 n] w fun e w' => ∃ p, e = .returned (.tuple #[p, .int .i64 (create d (nameOf seg4 n) (head n)).1]) ∧ RcP B rb n (create d (nameOf seg4 n) (head n)) 12 w p w' := by
  obtain ⟨s, hs1, hs2, hs3⟩ := seg_nm hok
  obtain ⟨X, hX⟩ : ∃ X, create d (nameOf seg4 n) (head n) = X := ⟨_, rfl⟩
  rw [hX]
  rw [← hs2] at hX
  unfold create at hX
  have hl12 := head_len hok
  have hm := may7_any n w
  rw [hok] at hm
  have hnm := refSegName_any n
  rw [hs1] at hnm
  have hnm' := Lib.hid hnm
  have hX3 := Lib.hid hX
  have hl12' := Lib.hid hl12
  have h' := Lib.hid h
  clear hX hs1 hs2 hok hl12 hnm h
  go_enter Tryz.func33, Tryz.ntmps33
  go_wp2_with fail
  refine hm.mono ?_
  rintro e w1 ⟨rfl, rfl⟩
  clear hm
  go_wp2_with fail
  refine (hnm'.out _).mono ?_
  rintro e v2 ⟨rfl, hb2⟩
  have hT2 := Lib.hid (Rs.bel h'.out hb2)
  clear hb2
  go_wp2_with fail
  refine (rdo hT2.out hG (by omega) (by omega) 1 (by omega) s (by omega) 0 none 0 0 [] (fun w9 _ _ => Rd.none_ w9) (by omega)).mono ?_
  rintro e w2 ⟨rfl, hst2⟩
  have hS2 := Lib.hid (Rs.then_ hT2.out hst2)
  have hG2 := hG.op0 1 s.data.toList [] 0
  obtain ⟨Y, hY⟩ : ∃ Y, Dk.op d 1 s.data.toList [] 0 [] = Y := ⟨_, rfl⟩
  rw [hY] at hX3 hS2 hG2 ⊢
  obtain ⟨c2, d2⟩ := Y
  simp only at hX3 hS2 hG2 ⊢
  clear hY
  by_cases hc2 : c2 = 0
  · subst hc2
    rw [if_neg (by simp)] at hX3
    go_wp2_with fail
    refine (hnm'.out _).mono ?_
    rintro e v3 ⟨rfl, hb3⟩
    have hT3 := Lib.hid (Rs.bel hS2.out hb3)
    clear hb3
    go_wp2_with fail
    refine (refHead_any n v3).mono ?_
    rw [hl12'.out]
    rintro e v4 ⟨Ah, ch, rfl, ho4, hb4⟩
    have hT4 := Lib.hid (Rs.bel hT3.out hb4)
    have ho4' := Lib.hid ho4
    clear hb4 ho4 hT3
    go_wp2_with fail
    refine (rdo hT4.out hG2 (by omega) (by omega) 2 (by omega) s (by omega) 0 Ah 12 ch (head n) (fun w9 _ hrm => OwB.bs (hrm.row ho4'.out (by decide) (by decide))) (by omega)).mono ?_
    rintro e w5 ⟨rfl, hst5⟩
    have hS5 := Lib.hid (Rs.then_ hT4.out hst5)
    have hG5 := hG2.op 2 s.data.toList [] 0 (head n)
    rw [hl12'.out] at hG5
    unfold appB at hX3
    obtain ⟨Y, hY⟩ : ∃ Y, Dk.op d2 2 s.data.toList [] 0 (head n) = Y := ⟨_, rfl⟩
    rw [hY] at hX3 hS5 hG5 ⊢
    obtain ⟨c5, d5⟩ := Y
    simp only at hX3 hS5 hG5 ⊢
    clear hY hst5
    by_cases hc5 : c5 = 0
    · subst hc5
      rw [if_pos rfl] at hX3
      go_wp2_with fail
      refine (hnm'.out _).mono ?_
      rintro e v6 ⟨rfl, hb6⟩
      have hT6 := Lib.hid (Rs.bel hS5.out hb6)
      clear hb6
      go_wp2_with fail
      refine (rdo hT6.out hG5 (by omega) (by omega) 4 (by omega) s (by omega) 0 none 0 0 [] (fun w9 _ _ => Rd.none_ w9) (by omega)).mono ?_
      rintro e w6 ⟨rfl, hst6⟩
      have hS6 := Lib.hid (Rs.then_ hT6.out hst6)
      have hG6 := hG5.op0 4 s.data.toList [] 0
      obtain ⟨Y, hY⟩ : ∃ Y, Dk.op d5 4 s.data.toList [] 0 [] = Y := ⟨_, rfl⟩
      rw [hY] at hX3 hS6 hG6 ⊢
      obtain ⟨c6, d6⟩ := Y
      simp only at hX3 hS6 hG6 ⊢
      clear hY
      unfold createC at hX3
      simp only at hX3
      by_cases hc6 : c6 = 0
      · subst hc6
        rw [if_neg (by simp)] at hX3
        have hX4 := hX3.out
        subst hX4
        go_wp2_with fail
        go_ret2
        have hba := below_alloc w6 (RSegB rb n ⟨12, false⟩)
        have hh := hS6.out.1.size
        exact ⟨_, rfl, ⟨Rs.bel hS6.out hba, .inl ⟨rfl, w6.heap.size, rfl, hh, heap_alloc_new w6 _⟩⟩⟩
      · rw [if_pos hc6] at hX3
        have hX4 := hX3.out
        subst hX4
        have hne : (c6 != 0) = true := by simpa using hc6
        go_wp2_with fail
        refine (hnm'.out _).mono ?_
        rintro e v7 ⟨rfl, hb7⟩
        have hT7 := Lib.hid (Rs.bel hS6.out hb7)
        clear hb7
        go_wp2_with fail
        refine (rdo hT7.out hG6 (by omega) (by omega) 6 (by omega) s (by omega) 0 none 0 0 [] (fun w9 _ _ => Rd.none_ w9) (by omega)).mono ?_
        rintro e w7 ⟨rfl, hst7⟩
        have hS7 := Lib.hid (Rs.then_ hT7.out hst7)
        clear hst7
        go_wp2_with fail
        go_ret2
        exact ⟨_, rfl, ⟨hS7.out, .inr ⟨hc6, rfl⟩⟩⟩
    · rw [if_neg hc5] at hX3
      unfold createC at hX3
      rw [if_pos hc5] at hX3
      have hX4 := hX3.out
      subst hX4
      have hne : (c5 != 0) = true := by simpa using hc5
      have hne2 : (c5 == 0) = false := by simpa using hc5
      go_wp2_with fail
      refine (hnm'.out _).mono ?_
      rintro e v7 ⟨rfl, hb7⟩
      have hT7 := Lib.hid (Rs.bel hS5.out hb7)
      clear hb7
      go_wp2_with fail
      refine (rdo hT7.out hG5 (by omega) (by omega) 6 (by omega) s (by omega) 0 none 0 0 [] (fun w9 _ _ => Rd.none_ w9) (by omega)).mono ?_
      rintro e w7 ⟨rfl, hst7⟩
      have hS7 := Lib.hid (Rs.then_ hT7.out hst7)
      clear hst7
      go_wp2_with fail
      go_ret2
      exact ⟨_, rfl, ⟨hS7.out, .inr ⟨hc5, rfl⟩⟩⟩
  · rw [if_pos hc2] at hX3
    have hX4 := hX3.out
    subst hX4
    have hne : (c2 != 0) = true := by simpa using hc2
    go_wp2_with fail
    go_ret2
    exact ⟨_, rfl, ⟨hS2.out, .inr ⟨hc2, rfl⟩⟩⟩

def ROpenP (B rb : Nat) (n : Int) (X : (Int × List (List UInt8) × Nat) × D) (w : World) (e : Ending) (w' : World) : Prop :=
  ∃ p v, e = .returned (.tuple #[p, v, .int .i64 X.1.1]) ∧ RcP B rb n (X.1.1, X.2) X.1.2.2 w p w' ∧ ∃ A c, v = .slice A X.1.2.1.length c ∧ OwR w' w.heap.size (.slice A X.1.2.1.length c) X.1.2.1

set_option maxHeartbeats 2000000 in
set_option maxRecDepth 100000 in
theorem refOpen_any (w : World) (B rb N U : Nat) (d : D) (h : Rs B rb d w w) (hG : Bd d N U) (hN : N ≤ 800) (hU : U ≤ 900000) (n : Int) (hok : okN n = true) :
    Calls Tryz.prog 41 #[.pointer (some ⟨rb, 0, none⟩), .int .i64 n, .bool true] w (ROpenP B rb n (open_ d (nameOf seg4 n) (head n)) w) := by
  obtain ⟨s, hs1, hs2, hs3⟩ := seg_nm hok
  obtain ⟨X, hX⟩ : ∃ X, open_ d (nameOf seg4 n) (head n) = X := ⟨_, rfl⟩
  rw [hX]
  rw [← hs2] at hX
  unfold open_ at hX
  have hnm := refSegName_any n
  rw [hs1] at hnm
  have hnm' := Lib.hid hnm
  have hsc : ∀ b, scanN n b = scan (head n) b := fun b => by unfold scanN; rw [if_pos hok]
  have hsc' := Lib.hid hsc
  have hX' := Lib.hid hX
  have h' := Lib.hid h
  clear hX hs1 hs2 hok hsc hnm h
  go_enter Tryz.func41, Tryz.ntmps41
  go_wp2_with fail
  refine (hnm'.out w).mono ?_
  rintro e w2 ⟨rfl, hb2⟩
  have hS2 := Lib.hid (Rs.bel h'.out hb2)
  clear hb2
  have hrd : Calls Tryz.prog 84 #[.pointer (some ⟨rb, 0, none⟩), .string s] w2 (ReadP B d s.data.toList w2) := by
    obtain ⟨_, _, lv, tv, hR⟩ := hS2.out
    exact rRead_any w2 B rb lv tv d hR s (hG.fl (by omega))
  go_wp2_with fail
  refine hrd.mono ?_
  rintro e w3 ⟨hb3, v3, l3, rfl, ho3, hl3⟩
  have hS3 := Lib.hid (Rs.bel hS2.out hb3)
  obtain ⟨A3, c3, rfl, hbs3⟩ := OwB.slice ho3
  have hbs3' := Lib.hid hbs3
  clear hb3 hS2 ho3 hbs3 hrd
  cases hf : Dk.get d.fs s.data.toList with
  | none =>
    rw [hf] at hX'
    have hX4 := hX'.out
    simp only at hX4
    subst hX4
    clear hl3 hf hX'
    have hne42 : (42 : Int) ≠ 0 := by decide
    go_wp2_with fail
    go_ret3
    exact ⟨_, _, rfl, ⟨hS3.out, .inr ⟨hne42, rfl⟩⟩, none, 0, rfl, OwS.nil _ _ _⟩
  | some f =>
    rw [hf] at hX' hl3
    simp only [Option.map_some, Option.getD_some] at hl3
    subst hl3
    have hlu : f.data.length ≤ 1000000 := by have := len_le_used_ hf; have := hG.used; omega
    clear hf
    go_wp2_with fail
    refine (refScan_any n A3 _ c3 f.data w3 hbs3'.out (by omega)).mono ?_
    rintro e w4 ⟨A4, c4, he4, ho4, hb4⟩
    have hS4 := Lib.hid (Rs.bel hS3.out hb4)
    have hwle := hS3.out.1.size
    have hO4 := Lib.hid (OwR.base ho4 hwle)
    have hgl := scan_good (head n) f.data
    rw [hsc'.out] at he4 hO4
    obtain ⟨R, hR⟩ : ∃ R, scan (head n) f.data = R := ⟨_, rfl⟩
    have hX2 := hX'.out
    rw [hR] at hX2 he4 hO4 hgl
    obtain ⟨ls, g, st⟩ := R
    simp only at he4 hO4 hgl
    subst he4
    have hX3 := Lib.hid hX2
    clear hb4 ho4 hR hX2 hX' hS3 hbs3' hsc'
    unfold openS at hX3
    by_cases hs4 : st = 4
    · subst hs4
      rw [if_pos (.inl rfl)] at hX3
      have hX4 := hX3.out
      subst hX4
      have hne50 : (50 : Int) ≠ 0 := by decide
      go_wp2_with fail
      go_ret3
      exact ⟨_, _, rfl, ⟨hS4.out, .inr ⟨hne50, rfl⟩⟩, none, 0, rfl, OwS.nil _ _ _⟩
    · by_cases hs3' : st = 3
      · subst hs3'
        by_cases hg0 : g = 0
        · rw [if_pos (.inr ⟨rfl, hg0⟩)] at hX3
          have hX4 := hX3.out
          subst hX4
          subst hg0
          have hne50 : (50 : Int) ≠ 0 := by decide
          go_wp2_with fail
          go_ret3
          exact ⟨_, _, rfl, ⟨hS4.out, .inr ⟨hne50, rfl⟩⟩, none, 0, rfl, OwS.nil _ _ _⟩
        · rw [if_neg (by rintro (h9 | ⟨_, h9⟩); exact absurd (show (3 : Nat) = 4 from h9) (by decide); exact hg0 h9)] at hX3
          have i0 : ((g : Int) == 0) = false := by rw [beq_eq_false_iff_ne]; omega
          have i1 : (g == 0) = false := by rw [beq_eq_false_iff_ne]; omega
          unfold openA at hX3
          rw [if_pos rfl] at hX3
          clear hg0 hs4
          go_wp2_with fail
          refine (hnm'.out _).mono ?_
          rintro e v5 ⟨rfl, hb5⟩
          have hT5 := Lib.hid (Rs.bel hS4.out hb5)
          have hP5 := Lib.hid (OwR.below hO4.out hb5)
          clear hb5
          go_wp2_with fail
          refine (rdo hT5.out hG (by omega) (by omega) 3 (by omega) s (by omega) (g : Int) none 0 0 [] (fun w9 _ _ => Rd.none_ w9) (by omega)).mono ?_
          rintro e w5 ⟨rfl, hst5⟩
          have hS5 := Lib.hid (Rs.then_ hT5.out hst5)
          have hO5 := Lib.hid (OwR.rm hP5.out hst5.2.1)
          have hG5 := hG.op0 3 s.data.toList [] (g : Int)
          clear hst5 hS4 hO4
          obtain ⟨Y, hY⟩ : ∃ Y, Dk.op d 3 s.data.toList [] (g : Int) [] = Y := ⟨_, rfl⟩
          rw [hY] at hX3 hS5 hG5 ⊢
          obtain ⟨c5, d5⟩ := Y
          simp only at hS5 hG5 ⊢
          clear hY
          by_cases hc5 : c5 = 0
          · subst hc5
            go_wp2_with fail
            refine (hnm'.out _).mono ?_
            rintro e v7 ⟨rfl, hb7⟩
            have hT7 := Lib.hid (Rs.bel hS5.out hb7)
            have hP7 := Lib.hid (OwR.below hO5.out hb7)
            clear hb7
            go_wp2_with fail
            refine (rdo hT7.out hG5 (by omega) (by omega) 4 (by omega) s (by omega) 0 none 0 0 [] (fun w9 _ _ => Rd.none_ w9) (by omega)).mono ?_
            rintro e w7 ⟨rfl, hst7⟩
            have hS7 := Lib.hid (Rs.then_ hT7.out hst7)
            have hO7 := Lib.hid (OwR.rm hP7.out hst7.2.1)
            clear hst7
            unfold openB at hX3
            rw [if_pos rfl] at hX3
            obtain ⟨Y, hY⟩ : ∃ Y, Dk.op d5 4 s.data.toList [] 0 [] = Y := ⟨_, rfl⟩
            try simp only at hX3
            rw [hY] at hX3 hS7 ⊢
            obtain ⟨c7, d7⟩ := Y
            simp only at hS7 hX3 ⊢
            clear hY
            unfold openC at hX3
            simp only at hX3
            by_cases hc7 : c7 = 0
            · subst hc7
              rw [if_neg (by simp)] at hX3
              have hX4 := hX3.out
              subst hX4
              go_wp2_with fail
              go_ret3
              have hba := below_alloc w7 (RSegB rb n ⟨g, false⟩)
              have hh := hS7.out.1.size
              exact ⟨_, _, rfl, ⟨Rs.bel hS7.out hba, .inl ⟨rfl, w7.heap.size, rfl, hh, heap_alloc_new w7 _⟩⟩, A4, c4, rfl, OwR.below hO7.out hba⟩
            · rw [if_pos hc7] at hX3
              have hX4 := hX3.out
              subst hX4
              have hne : (c7 != 0) = true := by simpa using hc7
              go_wp2_with fail
              go_ret3
              exact ⟨_, _, rfl, ⟨hS7.out, .inr ⟨hc7, rfl⟩⟩, none, 0, rfl, OwS.nil _ _ _⟩
          · unfold openB at hX3
            rw [if_neg hc5] at hX3
            unfold openC at hX3
            rw [if_pos hc5] at hX3
            have hX4 := hX3.out
            subst hX4
            have hne : (c5 != 0) = true := by simpa using hc5
            have hne2 : (c5 == 0) = false := by simpa using hc5
            go_wp2_with fail
            go_ret3
            exact ⟨_, _, rfl, ⟨hS5.out, .inr ⟨hc5, rfl⟩⟩, none, 0, rfl, OwS.nil _ _ _⟩
      · rw [if_neg (by rintro (h9 | ⟨h9, _⟩); exact hs4 h9; exact hs3' h9)] at hX3
        have i0 : ((st : Int) == 4) = false := by rw [beq_eq_false_iff_ne]; omega
        have i1 : ((st : Int) == 3) = false := by rw [beq_eq_false_iff_ne]; omega
        have i2 : (st == 4) = false := by rw [beq_eq_false_iff_ne]; exact hs4
        have i3 : (st == 3) = false := by rw [beq_eq_false_iff_ne]; exact hs3'
        unfold openA at hX3
        rw [if_neg (by exact hs3')] at hX3
        clear hs4 hs3'
        go_wp2_with fail
        refine (hnm'.out _).mono ?_
        rintro e v7 ⟨rfl, hb7⟩
        have hT7 := Lib.hid (Rs.bel hS4.out hb7)
        have hP7 := Lib.hid (OwR.below hO4.out hb7)
        clear hb7
        go_wp2_with fail
        refine (rdo hT7.out hG (by omega) (by omega) 4 (by omega) s (by omega) 0 none 0 0 [] (fun w9 _ _ => Rd.none_ w9) (by omega)).mono ?_
        rintro e w7 ⟨rfl, hst7⟩
        have hS7 := Lib.hid (Rs.then_ hT7.out hst7)
        have hO7 := Lib.hid (OwR.rm hP7.out hst7.2.1)
        clear hst7
        unfold openB at hX3
        rw [if_pos rfl] at hX3
        obtain ⟨Y, hY⟩ : ∃ Y, Dk.op d 4 s.data.toList [] 0 [] = Y := ⟨_, rfl⟩
        try simp only at hX3
        rw [hY] at hX3 hS7 ⊢
        obtain ⟨c7, d7⟩ := Y
        simp only at hS7 hX3 ⊢
        clear hY
        unfold openC at hX3
        simp only at hX3
        by_cases hc7 : c7 = 0
        · subst hc7
          rw [if_neg (by simp)] at hX3
          have hX4 := hX3.out
          subst hX4
          go_wp2_with fail
          go_ret3
          have hba := below_alloc w7 (RSegB rb n ⟨g, false⟩)
          have hh := hS7.out.1.size
          exact ⟨_, _, rfl, ⟨Rs.bel hS7.out hba, .inl ⟨rfl, w7.heap.size, rfl, hh, heap_alloc_new w7 _⟩⟩, A4, c4, rfl, OwR.below hO7.out hba⟩
        · rw [if_pos hc7] at hX3
          have hX4 := hX3.out
          subst hX4
          have hne : (c7 != 0) = true := by simpa using hc7
          go_wp2_with fail
          go_ret3
          exact ⟨_, _, rfl, ⟨hS7.out, .inr ⟨hc7, rfl⟩⟩, none, 0, rfl, OwS.nil _ _ _⟩
end Go.Proofs.YtfdpnjebhllpkaaGreatDoor.Sg
