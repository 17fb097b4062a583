/- The walks of the layer utf, second part: with what a name begins. -/
import Derived.Test.YthiikldjngamaaaDoorUtfWalk
namespace Go.Proofs.YthiikldjngamaaaDoor.UtfW
open Go.RowKit

def inb (a b r : Int) : Bool := decide (a ≤ r ∧ r ≤ b)

def Begins (r : Int) : Bool := inb 65 90 r || (r == 95) || inb 97 122 r || inb 192 214 r || inb 216 246 r || inb 248 767 r || inb 880 893 r || inb 895 8191 r || inb 8204 8205 r || inb 8304 8591 r || inb 11264 12271 r || inb 12289 55295 r || inb 63744 64975 r || inb 65008 65533 r || inb 65536 983039 r


def GoesOn (r : Int) : Bool := Begins r || (r == 45) || (r == 46) || inb 48 57 r || (r == 183) || inb 768 879 r || (r == 8255) || (r == 8256)

end Go.Proofs.YthiikldjngamaaaDoor.UtfW
