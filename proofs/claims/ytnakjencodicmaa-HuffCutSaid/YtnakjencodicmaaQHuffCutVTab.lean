/- Part HuffCutVTab of what the layer's laws stand on: WTab. Written by a program (merge.py) out of this session's own texts and of what the kit's print wrote over stand-ins (sp.py). Conditions: those that each theorem names. -/
import Derived.Test.YtnakjencodicmaaQHuffCutVLast
import Derived.Test.YtnakjencodicmaaQHuffCutVWords
-- ---- WTab
/-! ### 50. A region's order in a table, made once a region: each step asks the table (numbers alone), not the operations -/
namespace Go.Proofs.YtnakjencodicmaaW.PrintLast
open Go.Proofs.YtnakjencodicmaaW.PrintWords (Aside0)
section
variable {md : Region.Mode} {ops : Array Oper} {T : Bool × List (List Nat × List Nat)} {l l' li lj lk : Array Bool} {ds : List Nat} {i j k : Nat}
theorem gd (l : Array Bool) (j : Nat) (b : Bool) : l.getD j b = l.toList.getD j b := by simp [Array.getD_eq_getD_getElem?, List.getD_eq_getElem?_getD]
end
end Go.Proofs.YtnakjencodicmaaW.PrintLast
