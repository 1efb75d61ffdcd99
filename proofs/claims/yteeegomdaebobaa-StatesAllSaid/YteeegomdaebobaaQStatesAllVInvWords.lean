/- Part StatesAllVInvWords of what the layer's laws stand on: WInvWords. Written by a program (merge.py) out of this session's own texts and of what the kit's print wrote over stand-ins (sp.py). Conditions: those that each theorem names. -/
import Derived.Test.YteeegomdaebobaaQStatesAllVInv
import Derived.Test.YteeegomdaebobaaQStatesAllVFootNe
-- ---- WInvWords

namespace Go.Proofs.YteeegomdaebobaaW.PrintWords
open Go.RowKit
end Go.Proofs.YteeegomdaebobaaW.PrintWords
namespace Go.Proofs.YteeegomdaebobaaW.PrintLast
section
variable {ops : Array Oper} {a : Act} {o og : Oper} {g : Nat} {t : Tmp} {u : Bool}
end
end Go.Proofs.YteeegomdaebobaaW.PrintLast
