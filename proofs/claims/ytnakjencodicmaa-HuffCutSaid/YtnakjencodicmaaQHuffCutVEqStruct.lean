/- Part HuffCutVEqStruct of what the layer's laws stand on: WEqStruct. Written by a program (merge.py) out of this session's own texts and of what the kit's print wrote over stand-ins (sp.py). Conditions: those that each theorem names. -/
import Derived.Test.YtnakjencodicmaaQHuffCutVWords
import Derived.Laws.StructEq
-- ---- WEqStruct
/-! ### 53. '==' of structs as_ one Bool -/
namespace Go.Proofs.YtnakjencodicmaaW.PrintWords
open Go.RowKit
section
variable {P : Program} {d : Nat} {xs ys : Array Value} {f : Field} {fs : List Field} {a b : Value} {r s : Bool} {w : World}
end
end Go.Proofs.YtnakjencodicmaaW.PrintWords
