/- The document's Lines and Trim. -/
import Derived.Test.YtjofkodncplhaaaGreatDoorMUtfLines
import Derived.Test.YtjofkodncplhaaaGreatDoorMUtfName2
import Derived.Deep.QuietTactic
import Derived.BigQuiet
namespace Go.Proofs.YtjofkodncplhaaaGreatDoor.UtfW
open Go.RowKit

set_option maxHeartbeats 2000000 in
set_option maxRecDepth 100000 in
/-- The document's Lines. -/
theorem refLines_any (s : ByteArray) (hs : s.size ≤ 1000000) (w : World) :
    Calls Tryz.prog 36 #[.string s] w fun e w' => e = .returned (.string (strOf (Utf.lines s.data.toList))) ∧ Below w.heap.size w w' := by
  have HL : Hid (s.data.toList.length = s.size) := Lib.hid (by rw [Array.length_toList]; rfl)
  go_enter Tryz.func36, Tryz.ntmps36
  go_wp2_with fail
  go_loopw [3, 4] (fun out v wr => ∃ (k : Nat) (A : Option Addr) (c m : Nat) (acc : List UInt8), k ≤ s.size ∧ m ≤ k ∧ v = .int .i64 (k : Nat) ∧ out = .slice A m c ∧ acc.length = m ∧ Hid (Utf.lines s.data.toList = acc ++ Utf.lines (s.data.toList.drop k)) ∧ Hid (OwB wr w.heap.size 5 out acc) ∧ Hid (Below w.heap.size w wr)) (fun _ v _ => s.size - (intOf v).toNat)
  case atStart => exact ⟨0, none, 0, 0, [], by omega, by omega, rfl, rfl, rfl, Lib.hid rfl, Lib.hid (OwB.nil _ _ _), Lib.hid (Below.refl _ _)⟩
  case round =>
    obtain ⟨k, A, c, m, acc, hk, hmk, rfl, rfl, hm, hr, ho, hb⟩ := hrel
    by_cases hlt : k < s.size
    · have i0 : decide ((k : Int) < (s.size : Int)) = true := by simp; omega
      have i1 : (k : Int) < (s.size : Int) := by omega
      have hd : s.data.toList.drop k = s[k] :: s.data.toList.drop (k + 1) := by
        rw [List.drop_eq_getElem_cons (by have := HL.out; omega)]
        rfl
      have hd' := Lib.hid hd
      clear hd
      have i2 : (0 : Int) ≤ (k : Int) + 1 := by omega
      by_cases h13 : s[k] = 13
      · have t1 : ((s[k].toNat : Int) != 13) = false := by rw [h13]; rfl
        have h13' := Lib.hid h13
        clear h13
        by_cases hB : ∃ h : k + 1 < s.size, s[k + 1] = 10
        · obtain ⟨h2, h10⟩ := hB
          have t2 : ((s[k + 1].toNat : Int) != 10) = false := by rw [h10]; rfl
          have t3 : decide ((s.size : Int) ≤ (k : Int) + 1) = false := by simp; omega
          have t4 : (k : Int) + 1 < (s.size : Int) := by omega
          have h10' := Lib.hid h10
          clear h10
          go_wp2_with fail
          go_roundw
          case rel =>
            refine ⟨k + 1, A, c, m, acc, by omega, by omega, by go_num, rfl, hm, Lib.hid ?_, ho, hb⟩
            rw [hr.out, hd'.out, Utf.lines, if_pos h13'.out, if_pos]
            rw [List.head?_drop]
            exact (List.getElem?_eq_getElem (by have := HL.out; omega)).trans (congrArg some h10'.out)
          case measure => simp [intOf]; omega
        · have hB' := Lib.hid hB
          clear hB
          have hl2 : Utf.lines s.data.toList = (acc ++ [10]) ++ Utf.lines (s.data.toList.drop (k + 1)) := by
            rw [hr.out, hd'.out, Utf.lines, if_pos h13'.out, if_neg, List.append_assoc]
            · rfl
            · intro h
              rw [List.head?_drop] at h
              obtain ⟨h3, h4⟩ := List.getElem?_eq_some_iff.1 h
              exact hB'.out ⟨by have := HL.out; omega, h4⟩
          have hl2' := Lib.hid hl2
          clear hl2
          by_cases h2 : k + 1 < s.size
          · have t2 : ((s[k + 1].toNat : Int) != 10) = true := by
              rw [bne_iff_ne]
              intro h
              exact hB'.out ⟨h2, UInt8.toNat_inj.1 (by rw [show (s[k + 1]).toNat = 10 by omega]; rfl)⟩
            have t3 : decide ((s.size : Int) ≤ (k : Int) + 1) = false := by simp; omega
            have t4 : (k : Int) + 1 < (s.size : Int) := by omega
            go_wp2_with (at_builtin; apply stop_here)
            refine Stop.go (append_bytes _ 63 5 Tryz.underlying63 (by kernel_rfl) rfl _ _ rfl w.heap.size _ acc rfl (ho.out.below (below_alloc _ _)) _ 1 _ [10] rfl (rd_one _ _ _) (m + 1) (by omega) (by omega) (by have := hb.out.size; simp; omega) ?_)
            intro A' c' w' h1 h2 h3
            have h1' := Lib.hid h1
            have hx := Lib.hid ((hb.out.trans ((below_alloc _ _).mono hb.out.size)).trans h3)
            clear h1 h2 h3
            go_wp2_with fail
            go_roundw
            case rel => exact ⟨k + 1, A', c', m + 1, acc ++ [10], by omega, by omega, by go_num, rfl, by simp; omega, hl2', h1', hx⟩
            case measure => simp [intOf]; omega
          · have t3 : decide ((s.size : Int) ≤ (k : Int) + 1) = true := by simp; omega
            go_wp2_with (at_builtin; apply stop_here)
            refine Stop.go (append_bytes _ 63 5 Tryz.underlying63 (by kernel_rfl) rfl _ _ rfl w.heap.size _ acc rfl (ho.out.below (below_alloc _ _)) _ 1 _ [10] rfl (rd_one _ _ _) (m + 1) (by omega) (by omega) (by have := hb.out.size; simp; omega) ?_)
            intro A' c' w' h1 h2 h3
            have h1' := Lib.hid h1
            have hx := Lib.hid ((hb.out.trans ((below_alloc _ _).mono hb.out.size)).trans h3)
            clear h1 h2 h3
            go_wp2_with fail
            go_roundw
            case rel => exact ⟨k + 1, A', c', m + 1, acc ++ [10], by omega, by omega, by go_num, rfl, by simp; omega, hl2', h1', hx⟩
            case measure => simp [intOf]; omega
      · have t1 : ((s[k].toNat : Int) != 13) = true := by
          rw [bne_iff_ne]
          intro h
          exact h13 (UInt8.toNat_inj.1 (by rw [show (s[k]).toNat = 13 by omega]; rfl))
        have hl2 : Utf.lines s.data.toList = (acc ++ [s[k]]) ++ Utf.lines (s.data.toList.drop (k + 1)) := by
          rw [hr.out, hd'.out, Utf.lines, if_neg h13, List.append_assoc]
          rfl
        have hl2' := Lib.hid hl2
        clear hl2 h13
        go_wp2_with (at_builtin; apply stop_here)
        refine Stop.go (append_bytes _ 63 5 Tryz.underlying63 (by kernel_rfl) rfl _ _ rfl w.heap.size _ acc rfl (ho.out.below (below_alloc _ _)) _ 1 _ [s[k]] rfl (rd_one _ _ _) (m + 1) (by omega) (by omega) (by have := hb.out.size; simp; omega) ?_)
        intro A' c' w' h1 h2 h3
        have h1' := Lib.hid h1
        have hx := Lib.hid ((hb.out.trans ((below_alloc _ _).mono hb.out.size)).trans h3)
        clear h1 h2 h3
        go_wp2_with fail
        go_roundw
        case rel => exact ⟨k + 1, A', c', m + 1, acc ++ [s[k]], by omega, by omega, by go_num, rfl, by simp; omega, hl2', h1', hx⟩
        case measure => simp [intOf]; omega
    · have i0 : decide ((k : Int) < (s.size : Int)) = false := by simp; omega
      have hfin : Utf.lines s.data.toList = acc := by
        rw [hr.out, List.drop_eq_nil_of_le (by have := HL.out; omega), Utf.lines, List.append_nil]
      rw [hfin]
      have hfin' := Lib.hid hfin
      clear hfin
      have hcv := ho.out.bs.conv (P := Tryz.prog) (src := 63) (dst := 9) (e := 5) Tryz.underlying63 Tryz.underlying5 Tryz.underlying9
      go_wp2_with fail
      go_ret
      exact ⟨by rw [hfin'.out]; rfl, hb.out⟩

set_option maxRecDepth 100000 in
theorem blank_cs (x : UInt8) : Utf.cs.contains x = Blank (x.toNat : Int) := by
  have key : ∀ n : Fin 256, Utf.cs.contains (UInt8.ofNat n.val) = Blank (n.val : Int) := by decide
  have := key ⟨x.toNat, x.toNat_lt⟩
  simpa using this

theorem extract_cut (s : ByteArray) (a b : Nat) : s.extract a b = strOf ((s.data.toList.drop a).take (b - a)) := by
  apply ByteArray.ext
  apply Array.ext'
  rw [ByteArray.data_extract, Array.toList_extract]
  rfl

set_option maxHeartbeats 2000000 in
set_option maxRecDepth 100000 in
/-- The document's Trim. -/
theorem refTrim_any (s : ByteArray) (hs : s.size ≤ 281474976710656) (w : World) :
    Calls Tryz.prog 37 #[.string s] w fun e w' => e = .returned (.string (strOf (Lib.trimS s.data.toList Utf.cs))) ∧ w' = w := by
  have HL : Hid (s.data.toList.length = s.size) := Lib.hid (by rw [Array.length_toList]; rfl)
  have HG : ∀ (k : Nat) (h : k < s.size), Hid (s.data.toList[k]? = some s[k]) := fun k h => Lib.hid (List.getElem?_eq_getElem (by have := HL.out; omega))
  obtain ⟨z, hz⟩ : ∃ z, Lib.trimS s.data.toList Utf.cs = z := ⟨_, rfl⟩
  rw [hz]
  have hz' := Lib.hid hz
  clear hz
  go_enter Tryz.func37, Tryz.ntmps37
  go_wp2_with fail
  go_loop [3] (fun v => ∃ k : Nat, k ≤ s.size ∧ v = .int .i64 (k : Nat) ∧ Hid (∀ (j : Nat) x, j < k → s.data.toList[j]? = some x → Utf.cs.contains x = true)) (fun v => s.size - (intOf v).toNat)
  case atStart => exact ⟨0, by omega, rfl, Lib.hid (by intro j x h; omega)⟩
  case round =>
    obtain ⟨a, ha, rfl, h1⟩ := hrel
    have more : (a < s.size ∧ ∃ h : a < s.size, Utf.cs.contains s[a] = true) ∨ (a = s.size ∨ ∃ h : a < s.size, Utf.cs.contains s[a] = false) := by
      by_cases h : a < s.size
      · cases hc : Utf.cs.contains s[a]
        · exact .inr (.inr ⟨h, hc⟩)
        · exact .inl ⟨h, h, hc⟩
      · exact .inr (.inl (by omega))
    rcases more with ⟨hlt, h, hc⟩ | hstop
    · have i0 : decide ((a : Int) < (s.size : Int)) = true := by simp; omega
      have i1 : (a : Int) < (s.size : Int) := by omega
      have hg := HG a h
      have h8 : s[a].toNat < 256 := UInt8.toNat_lt _
      rw [blank_cs] at hc
      go_wp2_with fail
      refine (refblank_any _ w).mono ?_
      rintro e w1 ⟨rfl, rfl⟩
      rw [hc]
      go_wp2_with fail
      go_round
      case rel =>
        refine ⟨a + 1, by omega, by go_num, Lib.hid ?_⟩
        intro j x hj hx
        by_cases hja : j < a
        · exact h1.out j x hja hx
        · obtain rfl : j = a := by omega
          rw [hg.out] at hx
          injection hx with hx
          rw [← hx, blank_cs]
          exact hc
      case measure => simp [intOf]; omega
    · rcases hstop with rfl | ⟨hlt, hc⟩
      · have i0 : decide ((s.size : Int) < (s.size : Int)) = false := by simp
        have hz2 : strOf z = s.extract s.size s.size := by
          rw [extract_cut, ← hz'.out]
          congr 1
          exact Utf.trim_cut (Nat.le_refl _) (by rw [HL.out]; exact Nat.le_refl _) h1.out (by intro x h; omega) (by intro j x hj hx; have := (List.getElem?_eq_some_iff.1 hx).1; have := HL.out; omega) (by intro x h; omega) (fun _ => HL.out.symm)
        have hz2' := Lib.hid hz2
        clear hz2
        go_wp2_with fail
        go_loop [4] (fun v => v = .int .i64 (s.size : Nat)) (fun v => 0)
        case atStart => rfl
        case round =>
          subst hrel
          go_wp2_with fail
          go_ret
          exact ⟨by rw [hz2'.out]; simp, rfl⟩
      · have i0 : decide ((a : Int) < (s.size : Int)) = true := by simp; omega
        have i1 : (a : Int) < (s.size : Int) := by omega
        have hg := HG a hlt
        have h8 : s[a].toNat < 256 := UInt8.toNat_lt _
        have hca := Lib.hid hc
        rw [blank_cs] at hc
        go_wp2_with fail
        refine (refblank_any _ w).mono ?_
        rintro e w1 ⟨rfl, rfl⟩
        rw [hc]
        clear hc
        go_wp2_with fail
        go_loop [4] (fun v => ∃ b : Nat, a < b ∧ b ≤ s.size ∧ v = .int .i64 (b : Nat) ∧ Hid (∀ (j : Nat) x, b ≤ j → s.data.toList[j]? = some x → Utf.cs.contains x = true)) (fun v => (intOf v).toNat)
        case atStart => exact ⟨s.size, hlt, Nat.le_refl _, rfl, Lib.hid (by intro j x hj hx; have := (List.getElem?_eq_some_iff.1 hx).1; have := HL.out; omega)⟩
        case round =>
          obtain ⟨b, hab, hb, rfl, h3⟩ := hrel
          obtain ⟨b, rfl⟩ : ∃ b', b = b' + 1 := ⟨b - 1, by omega⟩
          have j0 : decide ((a : Int) < (b : Int) + 1) = true := by simp; omega
          have j1 : (b : Int) < (s.size : Int) := by omega
          have k8 : s[b].toNat < 256 := UInt8.toNat_lt _
          have hgb := HG b (by omega)
          cases hcb : Utf.cs.contains s[b]
          · have hz2 : strOf z = s.extract a (b + 1) := by
              rw [extract_cut, ← hz'.out]
              congr 1
              refine Utf.trim_cut (by omega) (by rw [HL.out]; exact hb) h1.out ?_ h3.out ?_ (fun h => by omega)
              · intro x _ hx
                rw [hg.out] at hx
                injection hx with hx
                rw [← hx]
                exact hca.out
              · intro x _ hx
                rw [Nat.add_sub_cancel, hgb.out] at hx
                injection hx with hx
                rw [← hx]
                exact hcb
            have hz2' := Lib.hid hz2
            rw [blank_cs] at hcb
            clear hz2
            go_wp2_with fail
            refine (refblank_any _ w1).mono ?_
            rintro e w2 ⟨rfl, rfl⟩
            rw [hcb]
            clear hcb
            go_wp2_with fail
            go_ret
            exact ⟨by rw [hz2'.out]; rfl, rfl⟩
          · have hne : a ≠ b := by
              rintro rfl
              have := hca.out
              rw [hcb] at this
              cases this
            have hcb' := Lib.hid hcb
            rw [blank_cs] at hcb
            go_wp2_with fail
            refine (refblank_any _ w1).mono ?_
            rintro e w2 ⟨rfl, rfl⟩
            rw [hcb]
            clear hcb
            go_wp2_with fail
            go_round
            case rel =>
              refine ⟨b, by omega, by omega, by go_num, Lib.hid ?_⟩
              intro j x hj hx
              by_cases hjb : j = b
              · subst hjb
                rw [hgb.out] at hx
                injection hx with hx
                rw [← hx]
                exact hcb'.out
              · exact h3.out j x (by omega) hx
            case measure => simp [intOf]
end Go.Proofs.YtjofkodncplhaaaGreatDoor.UtfW
