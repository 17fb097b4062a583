/- count, flush, other of the tree's builder. -/
import Derived.Test.YtdnfnkicmfkkmaaGreatDoorVVwMem
import Derived.Laws.OwnMore
import Derived.Test.YtdnfnkicmfkkmaaGreatDoorVXlPlaces
import Derived.Test.YtdnfnkicmfkkmaaGreatDoorVXlStep
import Derived.Shelf.Strings.Replace
import Derived.Shelf.Strings.OnBuilder
import Derived.Deep.LoopGhost
import Derived.Test.YtdnfnkicmfkkmaaGreatDoorVPlan2
import Derived.Test.YtdnfnkicmfkkmaaGreatDoorVStrLaws
set_option linter.unusedVariables false
set_option linter.unusedSimpArgs false
section
namespace Go.Proofs.YtdnfnkicmfkkmaaGreatDoor.Xt
open Go.RowKit UtfW Xl
inductive Ro where
 | no | bld | opn | bef | aft | nod (i : Nat) | kid (i : Nat) | fin
deriving DecidableEq
abbrev Rol := Nat -> Ro
structure Pp where
 lo : Nat
 hi : Nat
instance : CoeOut Pp Nat := ⟨Pp.hi⟩
theorem ownsRow_stay {w w' : World} {B E size n : Nat} {v : Value} {xs : List Value} (h : w.ownsRow B E size v n xs) (hs : ∀ k, v.ownBlock = some k -> w'.heap[k]? = w.heap[k]?) : w'.ownsRow B E size v n xs := by
 obtain ⟨h1, h2⟩ := h;refine ⟨h1, ?_⟩;rcases h2 with h2 | ⟨g, cap, cur, hv, hB, hc, h3⟩
 ·exact .inl h2
 ·refine .inr ⟨g, cap, cur, hv, hB, (hs g (by rw [hv]; rfl)).trans hc, h3⟩
theorem OwS.stay {α : Type} {El : World -> List Value -> α -> Prop} {El' : World -> List Value -> α -> Prop} {k : Nat} {w w' : World} {B E : Nat} {v : Value} {l : List α} (h : OwS El k w B E v l) (hs : ∀ k, v.ownBlock = some k -> w'.heap[k]? = w.heap[k]?) (hE : ∀ vs x, El w vs x -> El' w' vs x) : OwS El' k w' B E v l := by
 obtain ⟨xs, h1, h2⟩ := h;exact ⟨xs, ownsRow_stay h1 hs, h2.mono hE⟩
end Go.Proofs.YtdnfnkicmfkkmaaGreatDoor.Xt
end

section
namespace Go.Proofs.YtdnfnkicmfkkmaaGreatDoor.Xt
open Go.RowKit UtfW Xl
section
variable {E PT BT : TypeId} {ρ ρ' : Rol} {P0 : Pp} {w w' : World} {H : Ro -> Prop} {b : Nat} {v1 v2 v3 : Value} {vr : List Value} {nb : List Nat} {s : St}
theorem Sq.mono_ {α : Type} {El El' : World -> List Value -> α -> Prop} {k : Nat} {w : World} {A : Option Addr} {n c : Nat} {l : List α} (h : Sq El k w A n c l) (hE : ∀ vs x, El w vs x -> El' w vs x) : Sq El' k w A n c l :=
 ⟨h.len, h.le, h.max, h.nil, fun hn => by
  obtain ⟨b, off, e, hb, hc⟩ := h.cell hn;refine ⟨b, off, e, hb, fun i x hi => ?_⟩;obtain ⟨vs, h1, h2, h3⟩ := hc i x hi
  exact ⟨vs, h1, hE _ _ h2, h3⟩⟩
end
end Go.Proofs.YtdnfnkicmfkkmaaGreatDoor.Xt
end

section
namespace Go.Proofs.YtdnfnkicmfkkmaaGreatDoor.Xt
open Go.RowKit UtfW Xl
end Go.Proofs.YtdnfnkicmfkkmaaGreatDoor.Xt
end

section
namespace Go.Proofs.YtdnfnkicmfkkmaaGreatDoor.Xt
open Go.RowKit UtfW Xl
end Go.Proofs.YtdnfnkicmfkkmaaGreatDoor.Xt
end

section

end

section

end

section

end

section

end

section

end

section

end

section

end

section

end

section

end

section

end

section

end

section

end

section

end

section
namespace Go.Proofs.YtdnfnkicmfkkmaaGreatDoor.Xl
open Go.RowKit UtfW
end Go.Proofs.YtdnfnkicmfkkmaaGreatDoor.Xl
end

section
namespace Go.Proofs.YtdnfnkicmfkkmaaGreatDoor.Xt
open Go.RowKit UtfW Xl
theorem cell_blk {w : World} {b i : Nat} {cs : Array Value} {E : TypeId} {v : Value} (h : w.heap[b]? = some (.cells cs E)) (hi : cs[i]? = some v) : w.cell? ⟨b, i, none⟩ = some v := by
 simp [World.cell?, h, hi]
end Go.Proofs.YtdnfnkicmfkkmaaGreatDoor.Xt
end

section
namespace Go.Proofs.YtdnfnkicmfkkmaaGreatDoor.Xt
open Go.RowKit UtfW Xl
theorem info_node : (Tryz.prog.info? 26).map (fun i => (i.zero, i.size, i.bytes)) = some (some (.agg #[.int .i64 0, .string ⟨#[]⟩, .string ⟨#[]⟩, .slice none 0 0, .slice none 0 0]), 5, 88) := by kernel_rfl
end Go.Proofs.YtdnfnkicmfkkmaaGreatDoor.Xt
end

section

end

section

end

section

end

section
namespace Go.Proofs.YtdnfnkicmfkkmaaGreatDoor.Xt
open Go.RowKit UtfW Xl
end Go.Proofs.YtdnfnkicmfkkmaaGreatDoor.Xt
end
