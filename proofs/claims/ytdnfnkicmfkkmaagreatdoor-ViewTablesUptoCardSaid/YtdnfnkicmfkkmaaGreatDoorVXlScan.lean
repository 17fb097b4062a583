/- scan of the scanner. Printed by xl_scan.py. -/
import Derived.Test.YtdnfnkicmfkkmaaGreatDoorVKyRb
import Derived.Test.YtdnfnkicmfkkmaaGreatDoorVXnSt1
import Derived.Test.YtdnfnkicmfkkmaaGreatDoorVVwMem
import Derived.Deep.QuietTactic
import Derived.BigQuiet
import Derived.Test.YtdnfnkicmfkkmaaGreatDoorVUtfEnc
import Derived.Lib.OthersKept
import Derived.Lib.ConvBytes
import Derived.Test.YtdnfnkicmfkkmaaGreatDoorVKyPcs
import Derived.Shelf.Strings.SlTrimAscii
import Derived.Test.YtdnfnkicmfkkmaaGreatDoorVXlStep
import Derived.Shelf.Strings.CaseAny
import Derived.Test.YtdnfnkicmfkkmaaGreatDoorVXlPlaces
import Derived.Tactics2
import Derived.Defers
import Derived.Recover
import Derived.Laws.Pointers
set_option linter.unusedVariables false
set_option linter.unusedSimpArgs false
section
namespace Go.Proofs.YtdnfnkicmfkkmaaGreatDoor.UtfW
open Go.RowKit
end Go.Proofs.YtdnfnkicmfkkmaaGreatDoor.UtfW
end

section
namespace Go.Proofs.YtdnfnkicmfkkmaaGreatDoor.UtfW
open Go.RowKit
end Go.Proofs.YtdnfnkicmfkkmaaGreatDoor.UtfW
end

section
namespace Go.Proofs
open Go.Shelf Go.RowKit
end Go.Proofs
namespace Go.Proofs.YtdnfnkicmfkkmaaGreatDoor.UtfW
open Go.RowKit
set_option maxHeartbeats 2000000 in
set_option maxRecDepth 100000 in
theorem blank_cs (x : UInt8) : Utf.cs.contains x = Blank (x.toNat : Int) := by
 have key : ∀ n : Fin 256, Utf.cs.contains (UInt8.ofNat n.val) = Blank (n.val : Int) := by decide
 have := key ⟨x.toNat, x.toNat_lt⟩
 simpa using this
set_option maxHeartbeats 2000000 in
set_option maxRecDepth 100000 in
theorem refTrim_any (s : ByteArray) (hs : s.size <= 281474976710656) (w : World) :
  Calls Tryz.prog 93 #[.string s] w fun e w' => e = .returned (.string (strOf (Lib.trimS s.data.toList Utf.cs))) /\ w' = w := by
 have HL : Hid (s.data.toList.length = s.size) := Hd (by rw [Array.length_toList]; rfl);have HG : ∀ (k : Nat) (h : k < s.size), Hid (s.data.toList[k]? = some s[k]) := fun k h => Hd (List.getElem?_eq_getElem (by have := HL.out; omega))
 obtain ⟨z, hz⟩ : ∃ z, Lib.trimS s.data.toList Utf.cs = z := ⟨_, rfl⟩;rw [hz];have hz' := Hd hz;clear hz
 go_enter Tryz.func93, Tryz.ntmps93
 go_wp2_with fail
 go_loop [3] (fun v => ∃ k : Nat, k <= s.size /\ v = .int .i64 (k : Nat) /\ Hid (∀ (j : Nat) x, j < k -> s.data.toList[j]? = some x -> Utf.cs.contains x = true)) (fun v => s.size - (intOf v).toNat)
 case atStart => exact ⟨0, by omega, rfl, Hd (by intro j x h; omega)⟩
 case round =>
  obtain ⟨a, ha, rfl, h1⟩ := hrel
  have more : (a < s.size /\ ∃ h : a < s.size, Utf.cs.contains s[a] = true) \/ (a = s.size \/ ∃ h : a < s.size, Utf.cs.contains s[a] = false) := by
   by_cases h : a < s.size
   ·cases hc : Utf.cs.contains s[a]
    ·exact .inr (.inr ⟨h, hc⟩)
    ·exact .inl ⟨h, h, hc⟩
   ·exact .inr (.inl (by omega))
  rcases more with ⟨hlt, h, hc⟩ | hstop
  ·have i0 : decide ((a : Int) < (s.size : Int)) = true := by simp; omega
   have i1 : (a : Int) < (s.size : Int) := by omega
   have hg := HG a h;have h8 : s[a].toNat < 256 := UInt8.toNat_lt _;rw [blank_cs] at hc;go_wp2_with fail;refine (refblank_any _ w).mono ?_;rintro e w1 ⟨rfl, rfl⟩;rw [hc];go_wp2_with fail
   go_round
   case rel =>
    refine ⟨a + 1, by omega, by go_num, Hd ?_⟩;intro j x hj hx
    by_cases hja : j < a
    ·exact h1.out j x hja hx
    ·obtain rfl : j = a := by omega
     rw [hg.out] at hx;injection hx with hx;rw [<- hx, blank_cs];exact hc
   case measure => simp [intOf]; omega
  ·rcases hstop with rfl | ⟨hlt, hc⟩
   ·have i0 : decide ((s.size : Int) < (s.size : Int)) = false := by simp
    have hz2 : strOf z = s.extract s.size s.size := by
     rw [extract_cut, <- hz'.out]
     congr 1
     exact Utf.trim_cut (Nat.le_refl _) (by rw [HL.out]; exact Nat.le_refl _) h1.out (by intro x h; omega) (by intro j x hj hx; have := (List.getElem?_eq_some_iff.1 hx).1; have := HL.out; omega) (by intro x h; omega) (fun _ => HL.out.symm)
    have hz2' := Hd hz2;clear hz2;go_wp2_with fail
    go_loop [4] (fun v => v = .int .i64 (s.size : Nat)) (fun v => 0)
    case atStart => rfl
    case round =>
     subst hrel;go_wp2_with fail;go_ret;exact ⟨by rw [hz2'.out]; simp, rfl⟩
   ·have i0 : decide ((a : Int) < (s.size : Int)) = true := by simp; omega
    have i1 : (a : Int) < (s.size : Int) := (by omega);have hg := HG a hlt;have h8 : s[a].toNat < 256 := UInt8.toNat_lt _;have hca := Hd hc;rw [blank_cs] at hc;go_wp2_with fail;refine (refblank_any _ w).mono ?_;rintro e w1 ⟨rfl, rfl⟩;rw [hc];clear hc;go_wp2_with fail
    go_loop [4] (fun v => ∃ b : Nat, a < b /\ b <= s.size /\ v = .int .i64 (b : Nat) /\ Hid (∀ (j : Nat) x, b <= j -> s.data.toList[j]? = some x -> Utf.cs.contains x = true)) (fun v => (intOf v).toNat)
    case atStart => exact ⟨s.size, hlt, Nat.le_refl _, rfl, Hd (by intro j x hj hx; have := (List.getElem?_eq_some_iff.1 hx).1; have := HL.out; omega)⟩
    case round =>
     obtain ⟨b, hab, hb, rfl, h3⟩ := hrel;obtain ⟨b, rfl⟩ : ∃ b', b = b' + 1 := ⟨b - 1, by omega⟩;have j0 : decide ((a : Int) < (b : Int) + 1) = true := by simp; omega
     have j1 : (b : Int) < (s.size : Int) := (by omega);have k8 : s[b].toNat < 256 := UInt8.toNat_lt _;have hgb := HG b (by omega)
     cases hcb : Utf.cs.contains s[b]
     ·have hz2 : strOf z = s.extract a (b + 1) := by
       rw [extract_cut, <- hz'.out]
       congr 1
       refine Utf.trim_cut (by omega) (by rw [HL.out]; exact hb) h1.out ?_ h3.out ?_ (fun h => by omega)
       ·intro x _ hx;rw [hg.out] at hx;injection hx with hx;rw [<- hx];exact hca.out
       ·intro x _ hx;rw [Nat.add_sub_cancel, hgb.out] at hx;injection hx with hx;rw [<- hx];exact hcb
      have hz2' := Hd hz2;rw [blank_cs] at hcb;clear hz2;go_wp2_with fail;refine (refblank_any _ w1).mono ?_;rintro e w2 ⟨rfl, rfl⟩;rw [hcb];clear hcb;go_wp2_with fail;go_ret;exact ⟨by rw [hz2'.out]; rfl, rfl⟩
     ·have hne : a ≠ b := by
       rintro rfl;have := hca.out;rw [hcb] at this
       cases this
      have hcb' := Hd hcb;rw [blank_cs] at hcb;go_wp2_with fail;refine (refblank_any _ w1).mono ?_;rintro e w2 ⟨rfl, rfl⟩;rw [hcb];clear hcb;go_wp2_with fail
      go_round
      case rel =>
       refine ⟨b, by omega, by omega, by go_num, Hd ?_⟩;intro j x hj hx
       by_cases hjb : j = b
       ·subst hjb;rw [hgb.out] at hx;injection hx with hx;rw [<- hx];exact hcb'.out
       ·exact h3.out j x (by omega) hx
      case measure => simp [intOf]
theorem rtrim_any (s : Ky.Tx) (hs : (strOf s).size <= 281474976710656) (w : World) :
  Calls Tryz.prog 93 #[.string (strOf s)] w fun e w' => e = .returned (.string (strOf (Ky.trim s))) /\ w' = w := by
 have h := refTrim_any (strOf s) hs w
 have e : Lib.trimS (strOf s).data.toList Utf.cs = Ky.trim s := by
  rw [show (strOf s).data.toList = s by simp [strOf]];exact Ky.trim_eq s
 rw [e] at h;exact h
end Go.Proofs.YtdnfnkicmfkkmaaGreatDoor.UtfW
end

section

end

section

end

section
namespace Go.Proofs.YtdnfnkicmfkkmaaGreatDoor.Xl
open Go.RowKit UtfW
end Go.Proofs.YtdnfnkicmfkkmaaGreatDoor.Xl
end

section

end

section

end

section

end

section
namespace Go.Proofs.YtdnfnkicmfkkmaaGreatDoor.Xl
open Go.RowKit UtfW Qx
end Go.Proofs.YtdnfnkicmfkkmaaGreatDoor.Xl
end

section
namespace Go.Proofs.YtdnfnkicmfkkmaaGreatDoor.Xl
open Go.RowKit UtfW
end Go.Proofs.YtdnfnkicmfkkmaaGreatDoor.Xl
end
