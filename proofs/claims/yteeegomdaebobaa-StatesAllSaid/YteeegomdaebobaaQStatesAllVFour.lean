/- Part StatesAllVFour of what the layer's laws stand on: WFour. Written by a program (merge.py) out of this session's own texts and of what the kit's print wrote over stand-ins (sp.py). Conditions: those that each theorem names. -/
import Derived.Test.YteeegomdaebobaaQStatesAllVTab
-- ---- WFour
/-! ### 56. Four, five, six operations that may come up next, in any order -/
namespace Go.Proofs.YteeegomdaebobaaW.PrintLast
section
variable {P : Program} {ops : Array Oper} {Q : Exit → Act → World → Prop} {md : Region.Mode} {S : World → Prop} {ds : List Nat} {T : Bool × List (List Nat × List Nat)}
end
end Go.Proofs.YteeegomdaebobaaW.PrintLast
