/-
  No cell of these rows narrows 'for every input' (looked for: loops, veiled, ifaces, maps, wideKeys, modest, calm, conditions, laid).
  DERIVED. THE GIVEN ROWS OF THIS SEAT. 5 by the template 'for every input the law returns true; each argument reads behind the call as it read before'; 0 by the template 'total and deterministic' (their statements: YtlfakfdlifipnaaTotals.lean).
  GIVEN WITH THE SEED: the statements are not yours to turn. If you find one false, say at which input.
  Laid BY PROGRAM, IN A SANDBOX (cutbox-rows.mjs): the forced cells as the released guide's own fill.sh prints them over the translation 76f877c77e21fff4… (all of the seat's roots in one cut). By AI agents, Wed Nov 11 2026. No macro, syntax, notation, axiom, sorry.
-/
import Derived.Test.YtlfakfdlifipnaaChecked
import GoSem.Claim
import GoSem.ClaimJoined
import GoSem.ClaimMapViews
import Derived.JoinedTies
import Derived.KernelRfl
namespace Go.Proofs.Ytlfakfdlifipnaa
/- THE CELL 'sum', in the pinned program and in every row, IS THE sha256 OF THE DUMP (.gsa) THAT YtlfakfdlifipnaaProg.lean LOADS. Nothing in Lean hashes anything: it is a label: what it is worth is what the hold of that sum in a sandbox is worth. -/
noncomputable def Try.pinned : Pinned := { name := "ytlfakfdlifipnaa", sum := "76f877c77e21fff41caeb0617e26b37e8a5d8aefcb0d9af9e2e8e82d332cec35", checked := Try.checked }
namespace Rows
def none {H : Type} : Left H := { results := [], args := [] }

/-- 'wringerlaw7.HistOrder': WHATEVER THE INPUT: true; the input reads as it did. -/
def histOrderSpec : ChangeSpec := { name := "histOrder", fn := fun _ => fun
  | [d] => { results := [.lit (.bool true)], args := [d] }
  | _ => none }
def histOrderRow : OpenClaim := { program := "ytlfakfdlifipnaa", sum := "76f877c77e21fff41caeb0617e26b37e8a5d8aefcb0d9af9e2e8e82d332cec35", func := "wringer/wringerlaw7.HistOrder", spec := "histOrder", unfollowed := true, recurses := true, apart := false }
def HistOrderSaid : Prop := histOrderRow.holds Try.pinned (OpenSpec.ofChange histOrderSpec)

/-- ITS FALSE NEIGHBOUR: 'it returns false'. Refute it at one input. -/
def histOrderWrong : ChangeSpec := { name := "histOrder", fn := fun _ => fun
  | [d] => { results := [.lit (.bool false)], args := [d] }
  | _ => none }
def HistOrderWrongFalsely : Prop := histOrderRow.holds Try.pinned (OpenSpec.ofChange histOrderWrong)

/-- 'wringerlaw7.HistJoins': WHATEVER THE INPUT: true; the input reads as it did. -/
def histJoinsSpec : ChangeSpec := { name := "histJoins", fn := fun _ => fun
  | [d1, d2, d3] => { results := [.lit (.bool true)], args := [d1, d2, d3] }
  | _ => none }
def histJoinsRow : OpenClaim := { program := "ytlfakfdlifipnaa", sum := "76f877c77e21fff41caeb0617e26b37e8a5d8aefcb0d9af9e2e8e82d332cec35", func := "wringer/wringerlaw7.HistJoins", spec := "histJoins", unfollowed := true, recurses := true, apart := false }
def HistJoinsSaid : Prop := histJoinsRow.holds Try.pinned (OpenSpec.ofChange histJoinsSpec)

/-- ITS FALSE NEIGHBOUR: 'it returns false'. Refute it at one input. -/
def histJoinsWrong : ChangeSpec := { name := "histJoins", fn := fun _ => fun
  | [d1, d2, d3] => { results := [.lit (.bool false)], args := [d1, d2, d3] }
  | _ => none }
def HistJoinsWrongFalsely : Prop := histJoinsRow.holds Try.pinned (OpenSpec.ofChange histJoinsWrong)

/-- 'wringerlaw7.HistAll': WHATEVER THE INPUT: true; the input reads as it did. -/
def histAllSpec : ChangeSpec := { name := "histAll", fn := fun _ => fun
  | [d1, d2, d3] => { results := [.lit (.bool true)], args := [d1, d2, d3] }
  | _ => none }
def histAllRow : OpenClaim := { program := "ytlfakfdlifipnaa", sum := "76f877c77e21fff41caeb0617e26b37e8a5d8aefcb0d9af9e2e8e82d332cec35", func := "wringer/wringerlaw7.HistAll", spec := "histAll", unfollowed := true, recurses := true, apart := false }
def HistAllSaid : Prop := histAllRow.holds Try.pinned (OpenSpec.ofChange histAllSpec)

/-- ITS FALSE NEIGHBOUR: 'it returns false'. Refute it at one input. -/
def histAllWrong : ChangeSpec := { name := "histAll", fn := fun _ => fun
  | [d1, d2, d3] => { results := [.lit (.bool false)], args := [d1, d2, d3] }
  | _ => none }
def HistAllWrongFalsely : Prop := histAllRow.holds Try.pinned (OpenSpec.ofChange histAllWrong)

/-- 'wringerlaw7.HistBack': WHATEVER THE INPUT: true; the input reads as it did. -/
def histBackSpec : ChangeSpec := { name := "histBack", fn := fun _ => fun
  | [d] => { results := [.lit (.bool true)], args := [d] }
  | _ => none }
def histBackRow : OpenClaim := { program := "ytlfakfdlifipnaa", sum := "76f877c77e21fff41caeb0617e26b37e8a5d8aefcb0d9af9e2e8e82d332cec35", func := "wringer/wringerlaw7.HistBack", spec := "histBack", unfollowed := true, recurses := true, apart := false }
def HistBackSaid : Prop := histBackRow.holds Try.pinned (OpenSpec.ofChange histBackSpec)

/-- ITS FALSE NEIGHBOUR: 'it returns false'. Refute it at one input. -/
def histBackWrong : ChangeSpec := { name := "histBack", fn := fun _ => fun
  | [d] => { results := [.lit (.bool false)], args := [d] }
  | _ => none }
def HistBackWrongFalsely : Prop := histBackRow.holds Try.pinned (OpenSpec.ofChange histBackWrong)

/-- 'wringerlaw7.HistBad': WHATEVER THE INPUT: true; the input reads as it did. -/
def histBadSpec : ChangeSpec := { name := "histBad", fn := fun _ => fun
  | [d1, d2, d3, d4] => { results := [.lit (.bool true)], args := [d1, d2, d3, d4] }
  | _ => none }
def histBadRow : OpenClaim := { program := "ytlfakfdlifipnaa", sum := "76f877c77e21fff41caeb0617e26b37e8a5d8aefcb0d9af9e2e8e82d332cec35", func := "wringer/wringerlaw7.HistBad", spec := "histBad", unfollowed := true, recurses := true, apart := false }
def HistBadSaid : Prop := histBadRow.holds Try.pinned (OpenSpec.ofChange histBadSpec)

/-- ITS FALSE NEIGHBOUR: 'it returns false'. Refute it at one input. -/
def histBadWrong : ChangeSpec := { name := "histBad", fn := fun _ => fun
  | [d1, d2, d3, d4] => { results := [.lit (.bool false)], args := [d1, d2, d3, d4] }
  | _ => none }
def HistBadWrongFalsely : Prop := histBadRow.holds Try.pinned (OpenSpec.ofChange histBadWrong)

/- THE SECOND FORM. 'bulk': how many values and letters a reading holds, each counted each time it is reached (what is shared counts as often as it is met; a slice's spare places count too). A statement '..UptoSaid' is the law's where the arguments, and the package variables that the reading takes, are together of bulk at most 1048576: NARROWER than '..Said'. Prove '..Said' where nothing that the law and all that it calls make is longer than what came in: it says more and counts as full. Else prove '..UptoSaid'. A law counts once. -/
mutual
def uptoBulk {H : Type} : DataW H → Nat
  | .lit (.string bytes) => bytes.length + 1
  | .lit _ => 1
  | .nil => 1
  | .ptr d => uptoBulk d + 1
  | .slice elems spare => uptoBulkAll elems + uptoBulkAll spare + 1
  | .agg parts => uptoBulkAll parts + 1
  | .iface _ d => uptoBulk d + 1
  | .map entries => uptoBulkEntries entries + 1
  | .held _ => 1
def uptoBulkAll {H : Type} : List (DataW H) → Nat
  | [] => 0
  | d :: r => uptoBulk d + uptoBulkAll r
def uptoBulkEntries {H : Type} : List (Lit × DataW H) → Nat
  | [] => 0
  | x :: r => uptoBulkEntry x + uptoBulkEntries r
def uptoBulkEntry {H : Type} : Lit × DataW H → Nat
  | (.string bytes, d) => bytes.length + uptoBulk d + 1
  | (_, d) => uptoBulk d + 1
 end
def uptoSmall : (H : Type) → List (DataW H) → Bool := fun _ ds => decide (uptoBulkAll ds ≤ 1048576)
def OpenSpec.upto (s : _root_.Go.ChangeSpec) : _root_.Go.OpenSpec := { _root_.Go.OpenSpec.ofChange s with cond := some uptoSmall }

/-- 'wringerlaw7.HistOrder', WHERE WHAT IT READS IS OF BULK AT MOST 1048576: true; the input reads as it did. -/
def histOrderUptoRow : OpenClaim := { program := "ytlfakfdlifipnaa", sum := "76f877c77e21fff41caeb0617e26b37e8a5d8aefcb0d9af9e2e8e82d332cec35", func := "wringer/wringerlaw7.HistOrder", spec := "histOrder", unfollowed := true, recurses := true, apart := false, narrowed := true }
def HistOrderUptoSaid : Prop := histOrderUptoRow.holds Try.pinned (OpenSpec.upto histOrderSpec)

/-- 'wringerlaw7.HistJoins', WHERE WHAT IT READS IS OF BULK AT MOST 1048576: true; the input reads as it did. -/
def histJoinsUptoRow : OpenClaim := { program := "ytlfakfdlifipnaa", sum := "76f877c77e21fff41caeb0617e26b37e8a5d8aefcb0d9af9e2e8e82d332cec35", func := "wringer/wringerlaw7.HistJoins", spec := "histJoins", unfollowed := true, recurses := true, apart := false, narrowed := true }
def HistJoinsUptoSaid : Prop := histJoinsUptoRow.holds Try.pinned (OpenSpec.upto histJoinsSpec)

/-- 'wringerlaw7.HistAll', WHERE WHAT IT READS IS OF BULK AT MOST 1048576: true; the input reads as it did. -/
def histAllUptoRow : OpenClaim := { program := "ytlfakfdlifipnaa", sum := "76f877c77e21fff41caeb0617e26b37e8a5d8aefcb0d9af9e2e8e82d332cec35", func := "wringer/wringerlaw7.HistAll", spec := "histAll", unfollowed := true, recurses := true, apart := false, narrowed := true }
def HistAllUptoSaid : Prop := histAllUptoRow.holds Try.pinned (OpenSpec.upto histAllSpec)

/-- 'wringerlaw7.HistBack', WHERE WHAT IT READS IS OF BULK AT MOST 1048576: true; the input reads as it did. -/
def histBackUptoRow : OpenClaim := { program := "ytlfakfdlifipnaa", sum := "76f877c77e21fff41caeb0617e26b37e8a5d8aefcb0d9af9e2e8e82d332cec35", func := "wringer/wringerlaw7.HistBack", spec := "histBack", unfollowed := true, recurses := true, apart := false, narrowed := true }
def HistBackUptoSaid : Prop := histBackUptoRow.holds Try.pinned (OpenSpec.upto histBackSpec)

/-- 'wringerlaw7.HistBad', WHERE WHAT IT READS IS OF BULK AT MOST 1048576: true; the input reads as it did. -/
def histBadUptoRow : OpenClaim := { program := "ytlfakfdlifipnaa", sum := "76f877c77e21fff41caeb0617e26b37e8a5d8aefcb0d9af9e2e8e82d332cec35", func := "wringer/wringerlaw7.HistBad", spec := "histBad", unfollowed := true, recurses := true, apart := false, narrowed := true }
def HistBadUptoSaid : Prop := histBadUptoRow.holds Try.pinned (OpenSpec.upto histBadSpec)

end Rows
end Go.Proofs.Ytlfakfdlifipnaa
