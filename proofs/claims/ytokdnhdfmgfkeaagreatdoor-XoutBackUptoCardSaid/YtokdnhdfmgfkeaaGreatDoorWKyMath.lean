

set_option linter.unusedVariables false
set_option linter.unusedSimpArgs false
/- Key specifications, plainly: texts cut and put together, rules, what a text's lines are as rules. No program stands here. -/
namespace Go.Proofs.YtokdnhdfmgfkeaaGreatDoor.Ky
abbrev Tx := List UInt8
def blank (b : UInt8) : Bool := b == 9 || b == 10 || b == 13 || b == 32
def trimL (s : Tx) : Tx := s.dropWhile blank
def trim (s : Tx) : Tx := (trimL (trimL s).reverse).reverse
section
variable (nm : Tx -> Bool)
/-! ### What is read may be -/
end
end Go.Proofs.YtokdnhdfmgfkeaaGreatDoor.Ky
