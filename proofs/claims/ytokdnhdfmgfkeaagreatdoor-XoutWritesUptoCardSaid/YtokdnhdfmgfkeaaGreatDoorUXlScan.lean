/- scan of the scanner. Printed by xl_scan.py. -/
import Derived.Test.YtokdnhdfmgfkeaaGreatDoorUXpRc
import Derived.Test.YtokdnhdfmgfkeaaGreatDoorUKyLib
import Derived.Shelf.Strings.SlTrimAscii
import Derived.Test.YtokdnhdfmgfkeaaGreatDoorUXnSt1
import Derived.Test.YtokdnhdfmgfkeaaGreatDoorUXlPlaces
import Derived.Test.YtokdnhdfmgfkeaaGreatDoorUXlStep
import Derived.Test.YtokdnhdfmgfkeaaGreatDoorUStrLaws
import Derived.Tactics2
import Derived.Defers
import Derived.Recover
import Derived.Laws.Pointers
set_option linter.unusedVariables false
set_option linter.unusedSimpArgs false
section
namespace Go.Proofs
open Go.Shelf Go.RowKit

shelf_lay Lays.n160 Nm 160 at Tryz as Tryz.laysTrim
end Go.Proofs
namespace Go.Proofs.YtokdnhdfmgfkeaaGreatDoor.UtfW
open Go.RowKit

end Go.Proofs.YtokdnhdfmgfkeaaGreatDoor.UtfW
end

section
namespace Go.Proofs.YtokdnhdfmgfkeaaGreatDoor.Xl
open Go.RowKit UtfW

section
variable {S p t : Tx} {k B1 B2 n : Nat} {q : UInt8}
end
section
variable (w : World) (b : Nat) (S : Tx) (k : Nat) (A : Option Addr) (c : Nat) (vo : Value)
end
end Go.Proofs.YtokdnhdfmgfkeaaGreatDoor.Xl
end

section
namespace Go.Proofs.YtokdnhdfmgfkeaaGreatDoor.Xl
open Go.RowKit UtfW

section
variable {r : Tx} {y : Tx} {n : Nat} {s : Bool}
theorem drop_nil {x : Tx} {K : Nat} (h : K ≤ x.length) : decide (x.drop K = []) = decide (K = x.length) := by
  rw [decide_eq_decide, List.drop_eq_nil_iff]
  omega
end

section
variable (w : World) (hU : Un w) (x : Tx) (hx : x.length ≤ 65536)
include hU hx
end
end Go.Proofs.YtokdnhdfmgfkeaaGreatDoor.Xl
end

section
namespace Go.Proofs.YtokdnhdfmgfkeaaGreatDoor.Xl
open Go.RowKit UtfW

end Go.Proofs.YtokdnhdfmgfkeaaGreatDoor.Xl
end

section
namespace Go.Proofs.YtokdnhdfmgfkeaaGreatDoor.Xl
open Go.RowKit UtfW

section
variable {S x : Tx} {n o : Nat} {ec : Int}
end

section
variable (w : World) (b : Nat) (S : Tx) (A : Option Addr) (c : Nat) (vo : Value)
end
end Go.Proofs.YtokdnhdfmgfkeaaGreatDoor.Xl
end

section
namespace Go.Proofs.YtokdnhdfmgfkeaaGreatDoor.Xl
open Go.RowKit UtfW

end Go.Proofs.YtokdnhdfmgfkeaaGreatDoor.Xl
end

section
namespace Go.Proofs.YtokdnhdfmgfkeaaGreatDoor.Xl
open Go.RowKit UtfW Qx

def Cd (c : Int) : Prop := c = 2 ∨ c = 4 ∨ c = 5 ∨ c = 6
theorem Cd.ne {c : Int} (h : Cd c) : c ≠ 0 := by rcases h with h | h | h | h <;> omega
end Go.Proofs.YtokdnhdfmgfkeaaGreatDoor.Xl
end

section
namespace Go.Proofs.YtokdnhdfmgfkeaaGreatDoor.Xl
open Go.RowKit UtfW

section
variable {S : Tx} {f q n o : Nat} {ts : List Tok} {t : Tok} {ec : Int}
end
theorem OwTk.low {w : World} {B B' : Nat} {v : Value} {ts : List Tok} (h : OwTk w B v ts) (hB : B' ≤ B) : OwTk w B' v ts := by
  obtain ⟨xs, h1, h2⟩ := h
  refine ⟨xs, Joins.ownsRow_le h1 hB, h2.mono ?_⟩
  rintro vs t ⟨A, c, rfl, ho⟩
  exact ⟨A, c, rfl, OwS.low ho hB⟩
def Nb (w : World) (p : Nat) (x : Int) (E : TypeId) : Prop := w.heap[p]? = some (.cells #[.int .i64 x] E)
theorem Nb.cell {w : World} {p : Nat} {x : Int} {E : TypeId} (h : Nb w p x E) : w.cell? ⟨p, 0, none⟩ = some (.int .i64 x) := by unfold Nb at h; simp [World.cell?, h]
theorem Nb.frozen {w : World} {p : Nat} {x : Int} {E : TypeId} (h : Nb w p x E) : w.frozen? ⟨p, 0, none⟩ = false := frozen_of_row w p 0 _ _ h
theorem Nb.on {w w' : World} {p b : Nat} {x : Int} {E : TypeId} (h : Nb w p x E) (hg : w.grownBy w' (some b)) (hne : p ≠ b) : Nb w' p x E := (hg.block p (Array.getElem?_eq_some_iff.1 h).1 (by simpa using hne)).trans h

section
variable (w : World) (b : Nat) (S : Tx) (A : Option Addr) (c : Nat)
end
end Go.Proofs.YtokdnhdfmgfkeaaGreatDoor.Xl
end
