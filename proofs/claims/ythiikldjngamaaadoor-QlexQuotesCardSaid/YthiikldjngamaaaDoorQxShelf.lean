/- What the library's functions on texts compute, by the shelf. -/
import Derived.Test.YthiikldjngamaaaDoorQxRow
import Derived.Shelf.Lay
import Derived.Ground.NamesProg
import Derived.Shelf.Strings.Prefix
import Derived.Shelf.Small.Strs
import Derived.Shelf.Slices.Turned
import Derived.Shelf.Strings.SlTrimAscii
namespace Go.Proofs
open Go.Shelf Go.RowKit

shelf_lay Lays.n99 Nm 99 at Tryd as Tryd.lays99
shelf_lay Lays.n137 Nm 137 at Tryd as Tryd.lays137
shelf_lay Lays.n110 Nm 110 at Tryd as Tryd.lays110
shelf_lay Lays.n161 Nm 161 at Tryd as Tryd.lays161

end Go.Proofs
namespace Go.Proofs.YthiikldjngamaaaDoor.Qx
open Go.RowKit Go.Shelf

theorem hasPrefix_any (s p : List UInt8) (w : World) :
    Calls Tryd.prog 48 #[.string (strOf s), .string (strOf p)] w fun e w' => e = .returned (.bool (Lib.hasPrefix s p)) ∧ w' = w := by
  refine Calls.mono (Any.strings_HasPrefix Tryd.lays99 (strOf s) (strOf p) w) ?_
  rintro e w' ⟨rfl, rfl⟩
  exact ⟨rfl, rfl⟩

theorem indexByte_any (s : List UInt8) (c : UInt8) (w : World) :
    Calls Tryd.prog 42 #[.string (strOf s), .int .u8 c.toNat] w fun e w' => e = .returned (.int .i64 (Lib.indexByte s c)) ∧ w' = w := by
  refine Calls.mono (Any.strings_IndexByte Tryd.lays137 (strOf s) c.toNat w) ?_
  rintro e w' ⟨rfl, rfl⟩
  have : (c.toNat : Int).toNat.toUInt8 = c := by simp
  rw [this]
  exact ⟨rfl, rfl⟩

/-- The cutset that utf's blanks are. -/
def bl : List UInt8 := [9, 10, 13, 32]
theorem byte_of {c : UInt8} {n : Nat} (hn : n < 256) (h : (c.toNat : Int) = (n : Nat)) : c = UInt8.ofNat n := by
  apply UInt8.toNat_inj.1
  simp
  omega
theorem blank_bl (c : UInt8) : blank c = bl.contains c := by
  unfold blank UtfW.Blank bl
  rw [Bool.eq_iff_iff]
  simp only [decide_eq_true_eq, List.contains_eq_mem, List.mem_cons, List.not_mem_nil, or_false]
  constructor
  · rintro (h | h | h | h)
    · exact .inl (byte_of (n := 9) (by omega) h)
    · exact .inr (.inl (byte_of (n := 10) (by omega) h))
    · exact .inr (.inr (.inl (byte_of (n := 13) (by omega) h)))
    · exact .inr (.inr (.inr (byte_of (n := 32) (by omega) h)))
  · rintro (rfl | rfl | rfl | rfl) <;> decide
theorem skip_trim (l : List UInt8) : skip l = Lib.trimLeftS l bl := by
  unfold skip Lib.trimLeftS
  congr 1
  funext c
  exact blank_bl c

theorem trimLeft_any (s : List UInt8) (w : World) :
    Calls Tryd.prog 47 #[.string (strOf s), .string (strOf bl)] w fun e w' => e = .returned (.string (strOf (skip s))) ∧ Below w.heap.size w w' := by
  refine Calls.mono (Any.strings_TrimLeft_laid Tryd.lays161 (by kernel_rfl) (strOf s) (strOf bl) w (by decide) (ascii_of_all (by decide))) ?_
  rintro e w' ⟨rfl, hb⟩
  rw [skip_trim]
  exact ⟨rfl, hb⟩

theorem contains_any (b n : Nat) (zs : List (List UInt8)) (x : List UInt8) (w : World) (hn : zs.length = n) (hn2 : n ≤ 1000) (hc : ∀ j z, zs[j]? = some z → w.cell? ⟨b, j, none⟩ = some (.string (strOf z))) :
    Calls Tryd.prog 43 #[.slice (some ⟨b, 0, none⟩) n n, .string (strOf x)] w fun e w' => e = .returned (.bool (decide (x ∈ zs))) ∧ w' = w := by
  have := Any.slices_Contains_string Tryd.lays110 b 0 n n (zs.map strOf) (strOf x) w (by simp; omega) (by omega) (by
    intro j hj
    rw [List.length_map] at hj
    have h := hc j zs[j] (List.getElem?_eq_getElem hj)
    rw [Nat.zero_add, h]
    simp [List.getD, List.getElem?_eq_getElem hj])
  rw [List.take_of_length_le (by simp; omega)] at this
  have e : Lib.containsS (zs.map strOf) (strOf x) = decide (x ∈ zs) := by
    rw [Bool.eq_iff_iff, Lib.containsS_iff, decide_eq_true_eq, List.mem_map]
    constructor
    · rintro ⟨z, hz, he⟩
      have : z = x := by simpa [strOf] using he
      exact this ▸ hz
    · exact fun h => ⟨x, h, rfl⟩
  rw [e] at this
  exact this
end Go.Proofs.YthiikldjngamaaaDoor.Qx
