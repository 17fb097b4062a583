/- Numbers as texts: strconv.Itoa by the library's contract. -/
import Derived.Shelf.Strconv.Itoa3
import Derived.Shelf.Lay
import Derived.Ground.NamesProg
import Derived.Test.YtppmnelgekhbnaaGreatDoorProg
import Derived.Test.YtppmnelgekhbnaaGreatDoorWords
import Derived.WalkKit
import Derived.Below
import Derived.Lib.AppendIntMem
import Derived.Lib.SmallJoins
import Derived.Lib.ItoaLen
import Derived.Laws.Concat
import Derived.Deep.DeepCutAuto
namespace Go.Proofs
open Go.Shelf Go.RowKit

shelf_lay LaysM.n171 Nm 171 at Tryz as Tryz.lays171

end Go.Proofs
namespace Go.Proofs.YtppmnelgekhbnaaGreatDoor.Er
open Go.RowKit Go.Shelf

/-- A number's text. -/
def itx (n : Int) : ByteArray := strOf (Lib.itoa n)

theorem strconv_Itoa (n : Int) (h0 : -9223372036854775808 ≤ n) (h1 : n ≤ 9223372036854775807) (w : World) (htab : Lib.TabIs Tryz.prog w "internal/strconv.uint64pow10" .u64 Lib.pow10Tab) :
    Calls Tryz.prog 31 #[.int .i64 n] w fun e w' => e = .returned (.string (itx n)) ∧ Below w.heap.size w w' := by
  refine (Any.strconv_Itoa Tryz.lays171 n h0 h1 w htab).mono ?_
  rintro e w' ⟨rfl, k, os, rfl⟩
  exact ⟨rfl, Lib.below_grow _ _ (Nat.le_refl _) _ _⟩

end Go.Proofs.YtppmnelgekhbnaaGreatDoor.Er
