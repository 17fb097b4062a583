/- The document's Lines, where its Trim is not at hand. -/
import Derived.Test.YtcecmbbhjaeodaaGreatDoorMXlLines
import Derived.Test.YtcecmbbhjaeodaaGreatDoorMUtfEnc2
import Derived.Deep.QuietTactic
import Derived.BigQuiet
namespace Go.Proofs.YtcecmbbhjaeodaaGreatDoor.UtfW
open Go.RowKit
theorem rd_one (w : World) (v : Value) (E : TypeId) : Rd (w.alloc (.cells #[v] E)) (some ⟨w.heap.size, 0, none⟩) 1 1 [v] :=
  { len := rfl, le := Nat.le_refl _, max := by omega, nil := (fun h => by cases h), cell := fun _ => ⟨w.heap.size, 0, rfl, by simp, fun j u hu => by
    obtain rfl : j = 0 := by have := (List.getElem?_eq_some_iff.1 hu).1; simp at this; omega
    simp at hu
    subst hu
    exact World.cell?_alloc_at _ _ _ _ rfl⟩ }

set_option maxHeartbeats 2000000 in
set_option maxRecDepth 100000 in

set_option maxHeartbeats 2000000 in
set_option maxRecDepth 100000 in
/-- The document's Lines. -/
theorem refLines_any (s : ByteArray) (hs : s.size ≤ 1000000) (w : World) :
    Calls Tryz.prog 20 #[.string s] w fun e w' => e = .returned (.string (strOf (Utf.lines s.data.toList))) ∧ Below w.heap.size w w' := by
  have HL : Hid (s.data.toList.length = s.size) := Lib.hid (by rw [Array.length_toList]; rfl)
  go_enter Tryz.func20, Tryz.ntmps20
  go_wp2_with fail
  go_loopw [3, 4] (fun out v wr => ∃ (k : Nat) (A : Option Addr) (c m : Nat) (acc : List UInt8), k ≤ s.size ∧ m ≤ k ∧ v = .int .i64 (k : Nat) ∧ out = .slice A m c ∧ acc.length = m ∧ Hid (Utf.lines s.data.toList = acc ++ Utf.lines (s.data.toList.drop k)) ∧ Hid (OwB wr w.heap.size 5 out acc) ∧ Hid (Below w.heap.size w wr)) (fun _ v _ => s.size - (intOf v).toNat)
  case atStart => exact ⟨0, none, 0, 0, [], by omega, by omega, rfl, rfl, rfl, Lib.hid rfl, Lib.hid (OwB.nil _ _ _), Lib.hid (Below.refl _ _)⟩
  case round =>
    obtain ⟨k, A, c, m, acc, hk, hmk, rfl, rfl, hm, hr, ho, hb⟩ := hrel
    by_cases hlt : k < s.size
    · have i0 : decide ((k : Int) < (s.size : Int)) = true := by simp; omega
      have i1 : (k : Int) < (s.size : Int) := by omega
      have hd : s.data.toList.drop k = s[k] :: s.data.toList.drop (k + 1) := by
        rw [List.drop_eq_getElem_cons (by have := HL.out; omega)]
        rfl
      have hd' := Lib.hid hd
      clear hd
      have i2 : (0 : Int) ≤ (k : Int) + 1 := by omega
      by_cases h13 : s[k] = 13
      · have t1 : ((s[k].toNat : Int) != 13) = false := by rw [h13]; rfl
        have h13' := Lib.hid h13
        clear h13
        by_cases hB : ∃ h : k + 1 < s.size, s[k + 1] = 10
        · obtain ⟨h2, h10⟩ := hB
          have t2 : ((s[k + 1].toNat : Int) != 10) = false := by rw [h10]; rfl
          have t3 : decide ((s.size : Int) ≤ (k : Int) + 1) = false := by simp; omega
          have t4 : (k : Int) + 1 < (s.size : Int) := by omega
          have h10' := Lib.hid h10
          clear h10
          go_wp2_with fail
          go_roundw
          case rel =>
            refine ⟨k + 1, A, c, m, acc, by omega, by omega, by go_num, rfl, hm, Lib.hid ?_, ho, hb⟩
            rw [hr.out, hd'.out, Utf.lines, if_pos h13'.out, if_pos]
            rw [List.head?_drop]
            exact (List.getElem?_eq_getElem (by have := HL.out; omega)).trans (congrArg some h10'.out)
          case measure => simp [intOf]; omega
        · have hB' := Lib.hid hB
          clear hB
          have hl2 : Utf.lines s.data.toList = (acc ++ [10]) ++ Utf.lines (s.data.toList.drop (k + 1)) := by
            rw [hr.out, hd'.out, Utf.lines, if_pos h13'.out, if_neg, List.append_assoc]
            · rfl
            · intro h
              rw [List.head?_drop] at h
              obtain ⟨h3, h4⟩ := List.getElem?_eq_some_iff.1 h
              exact hB'.out ⟨by have := HL.out; omega, h4⟩
          have hl2' := Lib.hid hl2
          clear hl2
          by_cases h2 : k + 1 < s.size
          · have t2 : ((s[k + 1].toNat : Int) != 10) = true := by
              rw [bne_iff_ne]
              intro h
              exact hB'.out ⟨h2, UInt8.toNat_inj.1 (by rw [show (s[k + 1]).toNat = 10 by omega]; rfl)⟩
            have t3 : decide ((s.size : Int) ≤ (k : Int) + 1) = false := by simp; omega
            have t4 : (k : Int) + 1 < (s.size : Int) := by omega
            go_wp2_with (at_builtin; apply stop_here)
            refine Stop.go (append_bytes _ 22 5 Tryz.underlying22 (by kernel_rfl) rfl _ _ rfl w.heap.size _ acc rfl (ho.out.below (below_alloc _ _)) _ 1 _ [10] rfl (rd_one _ _ _) (m + 1) (by omega) (by omega) (by have := hb.out.size; simp; omega) ?_)
            intro A' c' w' h1 h2 h3
            have h1' := Lib.hid h1
            have hx := Lib.hid ((hb.out.trans ((below_alloc _ _).mono hb.out.size)).trans h3)
            clear h1 h2 h3
            go_wp2_with fail
            go_roundw
            case rel => exact ⟨k + 1, A', c', m + 1, acc ++ [10], by omega, by omega, by go_num, rfl, by simp; omega, hl2', h1', hx⟩
            case measure => simp [intOf]; omega
          · have t3 : decide ((s.size : Int) ≤ (k : Int) + 1) = true := by simp; omega
            go_wp2_with (at_builtin; apply stop_here)
            refine Stop.go (append_bytes _ 22 5 Tryz.underlying22 (by kernel_rfl) rfl _ _ rfl w.heap.size _ acc rfl (ho.out.below (below_alloc _ _)) _ 1 _ [10] rfl (rd_one _ _ _) (m + 1) (by omega) (by omega) (by have := hb.out.size; simp; omega) ?_)
            intro A' c' w' h1 h2 h3
            have h1' := Lib.hid h1
            have hx := Lib.hid ((hb.out.trans ((below_alloc _ _).mono hb.out.size)).trans h3)
            clear h1 h2 h3
            go_wp2_with fail
            go_roundw
            case rel => exact ⟨k + 1, A', c', m + 1, acc ++ [10], by omega, by omega, by go_num, rfl, by simp; omega, hl2', h1', hx⟩
            case measure => simp [intOf]; omega
      · have t1 : ((s[k].toNat : Int) != 13) = true := by
          rw [bne_iff_ne]
          intro h
          exact h13 (UInt8.toNat_inj.1 (by rw [show (s[k]).toNat = 13 by omega]; rfl))
        have hl2 : Utf.lines s.data.toList = (acc ++ [s[k]]) ++ Utf.lines (s.data.toList.drop (k + 1)) := by
          rw [hr.out, hd'.out, Utf.lines, if_neg h13, List.append_assoc]
          rfl
        have hl2' := Lib.hid hl2
        clear hl2 h13
        go_wp2_with (at_builtin; apply stop_here)
        refine Stop.go (append_bytes _ 22 5 Tryz.underlying22 (by kernel_rfl) rfl _ _ rfl w.heap.size _ acc rfl (ho.out.below (below_alloc _ _)) _ 1 _ [s[k]] rfl (rd_one _ _ _) (m + 1) (by omega) (by omega) (by have := hb.out.size; simp; omega) ?_)
        intro A' c' w' h1 h2 h3
        have h1' := Lib.hid h1
        have hx := Lib.hid ((hb.out.trans ((below_alloc _ _).mono hb.out.size)).trans h3)
        clear h1 h2 h3
        go_wp2_with fail
        go_roundw
        case rel => exact ⟨k + 1, A', c', m + 1, acc ++ [s[k]], by omega, by omega, by go_num, rfl, by simp; omega, hl2', h1', hx⟩
        case measure => simp [intOf]; omega
    · have i0 : decide ((k : Int) < (s.size : Int)) = false := by simp; omega
      have hfin : Utf.lines s.data.toList = acc := by
        rw [hr.out, List.drop_eq_nil_of_le (by have := HL.out; omega), Utf.lines, List.append_nil]
      rw [hfin]
      have hfin' := Lib.hid hfin
      clear hfin
      have hcv := ho.out.bs.conv (P := Tryz.prog) (src := 22) (dst := 9) (e := 5) Tryz.underlying22 Tryz.underlying5 Tryz.underlying9
      go_wp2_with fail
      go_ret
      exact ⟨by rw [hfin'.out]; rfl, hb.out⟩
end Go.Proofs.YtcecmbbhjaeodaaGreatDoor.UtfW
