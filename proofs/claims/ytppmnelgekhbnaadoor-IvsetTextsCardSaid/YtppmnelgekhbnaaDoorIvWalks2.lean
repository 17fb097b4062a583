/- What the frames of IvsetLaws, IvsetTexts, IvsetOnes call. -/
import Derived.Test.YtppmnelgekhbnaaDoorIvLawLaws
import Derived.Test.YtppmnelgekhbnaaDoorIvLawTexts
import Derived.Test.YtppmnelgekhbnaaDoorIvLawOnes2
import Derived.Test.YtppmnelgekhbnaaDoorIvLaid
import Derived.Test.YtppmnelgekhbnaaDoorIvOpen
namespace Go.Proofs.YtppmnelgekhbnaaDoor
open Go.RowKit

theorem ivsetLawsW.walk (A : Option Addr) (n c : Nat) (la : List Iv.Span) (B : Option Addr) (m d : Nat) (lb : List Iv.Span) (C : Option Addr) (r f : Nat) (lc : List Iv.Span) (W : World) (hL : laidMetH Tryd.prog IvW.laidList W) (hsh : W.ShapedOpen Tryd.prog)
    (hA : Rp W A n c la) (_z0 : True) (hB : Rp W B m d lb) (_z1 : True) (hC : Rp W C r f lc) (_z2 : True) :
    Calls Tryd.prog 5 #[.slice A n c, .slice B m d, .slice C r f] W fun e w' => e = .returned (.bool true) ∧ Below W.heap.size W w' :=
  IvW.laws_law A n c la B m d lb C r f lc W (IvW.iw_of_laid hL hsh) hA hB hC

theorem ivsetTextsW.walk (A : Option Addr) (n c : Nat) (la : List Iv.Span) (s : ByteArray) (W : World) (hL : laidMetH Tryd.prog IvW.laidList W) (hsh : W.ShapedOpen Tryd.prog)
    (hA : Rp W A n c la) (_z0 : True) (_hw : s.size ≤ maxLen) (_hz3 : s.size ≤ 140737488351232) :
    Calls Tryd.prog 3 #[.slice A n c, .string s] W fun e w' => e = .returned (.bool true) ∧ Below W.heap.size W w' :=
  IvW.texts_law A n c la s W (IvW.iw_of_laid hL hsh) hA

theorem ivsetOnesW.walk (A : Option Addr) (n c : Nat) (la : List Iv.Span) (t : Int) (W : World) (hL : laidMetH Tryd.prog IvW.laidList W) (hsh : W.ShapedOpen Tryd.prog)
    (hA : Rp W A n c la) (_z0 : True) (hw : (Lit.int .u8 t).wf) :
    Calls Tryd.prog 6 #[.slice A n c, .int .u8 t] W fun e w' => e = .returned (.bool true) ∧ Below W.heap.size W w' := by
  have h : 0 ≤ t ∧ t < 256 := by
    simp [Lit.wf, IntKind.min, IntKind.max, IntKind.signed, IntKind.bits] at hw
    omega
  obtain ⟨k, rfl⟩ : ∃ k : Nat, t = k := ⟨t.toNat, by omega⟩
  exact IvW.ones_law A n c la k (by omega) W (IvW.iw_of_laid hL hsh) hA
end Go.Proofs.YtppmnelgekhbnaaDoor
