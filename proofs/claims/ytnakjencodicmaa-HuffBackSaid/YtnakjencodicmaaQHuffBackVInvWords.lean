/- Part HuffBackVInvWords of what the layer's laws stand on: WInvWords. Written by a program (merge.py) out of this session's own texts and of what the kit's print wrote over stand-ins (sp.py). Conditions: those that each theorem names. -/
import Derived.Test.YtnakjencodicmaaQHuffBackVInv
import Derived.Test.YtnakjencodicmaaQHuffBackVFootNe
-- ---- WInvWords

namespace Go.Proofs.YtnakjencodicmaaW.PrintWords
open Go.RowKit
end Go.Proofs.YtnakjencodicmaaW.PrintWords
namespace Go.Proofs.YtnakjencodicmaaW.PrintLast
section
variable {ops : Array Oper} {a : Act} {o og : Oper} {g : Nat} {t : Tmp} {u : Bool}
end
end Go.Proofs.YtnakjencodicmaaW.PrintLast
