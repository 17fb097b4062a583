/- The walks of the laws over keys, continued. -/
import Derived.Test.YtjofkodncplhaaaGreatDoorMKyLawT
import Derived.Test.YtjofkodncplhaaaGreatDoorMKyLawF
import Derived.Test.YtjofkodncplhaaaGreatDoorMKyLawL
import Derived.Test.YtjofkodncplhaaaGreatDoorMKyWalks
namespace Go.Proofs.YtjofkodncplhaaaGreatDoor
open Go.RowKit UtfW Er Ky

theorem Ky.u8_of {n : Int} (h : (Lit.int .u8 n).wf) : ∃ x : UInt8, n = (x.toNat : Int) := by
  have h1 : IntKind.u8.min ≤ n ∧ n ≤ IntKind.u8.max := by simpa [Lit.wf] using h
  have h2 : 0 ≤ n ∧ n ≤ 255 := h1
  exact ⟨UInt8.ofNat n.toNat, by rw [UInt8.toNat_ofNat']; omega⟩

namespace keysTellsW
theorem walk (A : Option Addr) (n c : Nat) (l : List Rl) (Ap : Option Addr) (np cp : Nat) (ps : List ByteArray) (W : World) (hL : laidMetH Tryz.prog Ky.laidList W) (hsh : W.ShapedOpen Tryz.prog) (h : Rs W A n c l) (hB : Big l) (hp : Ss W Ap np cp ps) (_ : ∀ s ∈ ps, s.size ≤ 140737488351232) :
    Calls Tryz.prog 6 #[.slice A n c, .slice Ap np cp] W fun e w' => e = .returned (.bool true) ∧ Below W.heap.size W w' :=
  tells_any A n c l Ap np cp _ W h hB (Ts.of_ss hp) (ut_of_laid hL hsh) (en_of_laid hL)
end keysTellsW
namespace keysFrontiersW
theorem walk (A : Option Addr) (n c : Nat) (l : List Rl) (Ap : Option Addr) (np cp : Nat) (ps : List ByteArray) (W : World) (hL : laidMetH Tryz.prog Ky.laidList W) (hsh : W.ShapedOpen Tryz.prog) (h : Rs W A n c l) (hB : Big l) (hp : Ss W Ap np cp ps) (_ : ∀ s ∈ ps, s.size ≤ 140737488351232) :
    Calls Tryz.prog 3 #[.slice A n c, .slice Ap np cp] W fun e w' => e = .returned (.bool true) ∧ Below W.heap.size W w' :=
  fronts_any A n c l Ap np cp _ W h hB (Ts.of_ss hp) (ut_of_laid hL hsh) (en_of_laid hL)
end keysFrontiersW
namespace keysLinesW
theorem walk (A : Option Addr) (n c : Nat) (l : List Rl) (y : Int) (W : World) (hL : laidMetH Tryz.prog Ky.laidList W) (hsh : W.ShapedOpen Tryz.prog) (h : Rs W A n c l) (hB : Big l) (hy : (Lit.int .u8 y).wf) :
    Calls Tryz.prog 4 #[.slice A n c, .int .u8 y] W fun e w' => e = .returned (.bool true) ∧ Below W.heap.size W w' := by
  obtain ⟨x, rfl⟩ := u8_of hy
  exact lines_any A n c l x.toNat (UInt8.toNat_lt x) W h hB (ut_of_laid hL hsh) (en_of_laid hL)
end keysLinesW
end Go.Proofs.YtjofkodncplhaaaGreatDoor
