/-
  No cell of these rows narrows 'for every input' (looked for: loops, veiled, ifaces, maps, wideKeys, modest, calm, conditions, laid).
  DERIVED. THE GIVEN ROWS OF THIS SEAT. 6 by the template 'for every input the law returns true; each argument reads behind the call as it read before'; 0 by the template 'total and deterministic' (their statements: YteeegomdaebobaaTotals.lean).
  GIVEN WITH THE SEED: the statements are not yours to turn. If you find one false, say at which input.
  Laid BY PROGRAM, IN A SANDBOX (cutbox-rows.mjs): the forced cells as the released guide's own fill.sh prints them over the translation 0e03134347d378a1… (all of the seat's roots in one cut). By AI agents, Wed Nov 11 2026. No macro, syntax, notation, axiom, sorry.
-/
import Derived.Test.YteeegomdaebobaaChecked
import GoSem.Claim
import GoSem.ClaimJoined
import GoSem.ClaimMapViews
import Derived.JoinedTies
import Derived.KernelRfl
namespace Go.Proofs.Yteeegomdaebobaa
/- THE CELL 'sum', in the pinned program and in every row, IS THE sha256 OF THE DUMP (.gsa) THAT YteeegomdaebobaaProg.lean LOADS. Nothing in Lean hashes anything: it is a label: what it is worth is what the hold of that sum in a sandbox is worth. -/
noncomputable def Try.pinned : Pinned := { name := "yteeegomdaebobaa", sum := "0e03134347d378a1cd4749d711fdd4e19ddc6ad1663d0f480bb58740f63bb5d6", checked := Try.checked }
namespace Rows
def none {H : Type} : Left H := { results := [], args := [] }

/-- 'wringerlaw14.StatesCut': WHATEVER THE INPUT: true; the input reads as it did. -/
def statesCutSpec : ChangeSpec := { name := "statesCut", fn := fun _ => fun
  | [d1, d2, d3] => { results := [.lit (.bool true)], args := [d1, d2, d3] }
  | _ => none }
def statesCutRow : OpenClaim := { program := "yteeegomdaebobaa", sum := "0e03134347d378a1cd4749d711fdd4e19ddc6ad1663d0f480bb58740f63bb5d6", func := "wringer/wringerlaw14.StatesCut", spec := "statesCut", unfollowed := true, recurses := true, apart := false }
def StatesCutSaid : Prop := statesCutRow.holds Try.pinned (OpenSpec.ofChange statesCutSpec)

/-- ITS FALSE NEIGHBOUR: 'it returns false'. Refute it at one input. -/
def statesCutWrong : ChangeSpec := { name := "statesCut", fn := fun _ => fun
  | [d1, d2, d3] => { results := [.lit (.bool false)], args := [d1, d2, d3] }
  | _ => none }
def StatesCutWrongFalsely : Prop := statesCutRow.holds Try.pinned (OpenSpec.ofChange statesCutWrong)

/-- 'wringerlaw14.StatesEmpty': WHATEVER THE INPUT: true; the input reads as it did. -/
def statesEmptySpec : ChangeSpec := { name := "statesEmpty", fn := fun _ => fun
  | [d1, d2, d3] => { results := [.lit (.bool true)], args := [d1, d2, d3] }
  | _ => none }
def statesEmptyRow : OpenClaim := { program := "yteeegomdaebobaa", sum := "0e03134347d378a1cd4749d711fdd4e19ddc6ad1663d0f480bb58740f63bb5d6", func := "wringer/wringerlaw14.StatesEmpty", spec := "statesEmpty", unfollowed := true, recurses := true, apart := false }
def StatesEmptySaid : Prop := statesEmptyRow.holds Try.pinned (OpenSpec.ofChange statesEmptySpec)

/-- ITS FALSE NEIGHBOUR: 'it returns false'. Refute it at one input. -/
def statesEmptyWrong : ChangeSpec := { name := "statesEmpty", fn := fun _ => fun
  | [d1, d2, d3] => { results := [.lit (.bool false)], args := [d1, d2, d3] }
  | _ => none }
def StatesEmptyWrongFalsely : Prop := statesEmptyRow.holds Try.pinned (OpenSpec.ofChange statesEmptyWrong)

/-- 'wringerlaw14.StatesAll': WHATEVER THE INPUT: true; the input reads as it did. -/
def statesAllSpec : ChangeSpec := { name := "statesAll", fn := fun _ => fun
  | [d1, d2, d3, d4, d5] => { results := [.lit (.bool true)], args := [d1, d2, d3, d4, d5] }
  | _ => none }
def statesAllRow : OpenClaim := { program := "yteeegomdaebobaa", sum := "0e03134347d378a1cd4749d711fdd4e19ddc6ad1663d0f480bb58740f63bb5d6", func := "wringer/wringerlaw14.StatesAll", spec := "statesAll", unfollowed := true, recurses := true, apart := false }
def StatesAllSaid : Prop := statesAllRow.holds Try.pinned (OpenSpec.ofChange statesAllSpec)

/-- ITS FALSE NEIGHBOUR: 'it returns false'. Refute it at one input. -/
def statesAllWrong : ChangeSpec := { name := "statesAll", fn := fun _ => fun
  | [d1, d2, d3, d4, d5] => { results := [.lit (.bool false)], args := [d1, d2, d3, d4, d5] }
  | _ => none }
def StatesAllWrongFalsely : Prop := statesAllRow.holds Try.pinned (OpenSpec.ofChange statesAllWrong)

/-- 'wringerlaw14.StatesMade': WHATEVER THE INPUT: true; the input reads as it did. -/
def statesMadeSpec : ChangeSpec := { name := "statesMade", fn := fun _ => fun
  | [d1, d2, d3, d4, d5] => { results := [.lit (.bool true)], args := [d1, d2, d3, d4, d5] }
  | _ => none }
def statesMadeRow : OpenClaim := { program := "yteeegomdaebobaa", sum := "0e03134347d378a1cd4749d711fdd4e19ddc6ad1663d0f480bb58740f63bb5d6", func := "wringer/wringerlaw14.StatesMade", spec := "statesMade", unfollowed := true, recurses := true, apart := false }
def StatesMadeSaid : Prop := statesMadeRow.holds Try.pinned (OpenSpec.ofChange statesMadeSpec)

/-- ITS FALSE NEIGHBOUR: 'it returns false'. Refute it at one input. -/
def statesMadeWrong : ChangeSpec := { name := "statesMade", fn := fun _ => fun
  | [d1, d2, d3, d4, d5] => { results := [.lit (.bool false)], args := [d1, d2, d3, d4, d5] }
  | _ => none }
def StatesMadeWrongFalsely : Prop := statesMadeRow.holds Try.pinned (OpenSpec.ofChange statesMadeWrong)

/-- 'wringerlaw14.StatesBack': WHATEVER THE INPUT: true; the input reads as it did. -/
def statesBackSpec : ChangeSpec := { name := "statesBack", fn := fun _ => fun
  | [d1, d2, d3] => { results := [.lit (.bool true)], args := [d1, d2, d3] }
  | _ => none }
def statesBackRow : OpenClaim := { program := "yteeegomdaebobaa", sum := "0e03134347d378a1cd4749d711fdd4e19ddc6ad1663d0f480bb58740f63bb5d6", func := "wringer/wringerlaw14.StatesBack", spec := "statesBack", unfollowed := true, recurses := true, apart := false }
def StatesBackSaid : Prop := statesBackRow.holds Try.pinned (OpenSpec.ofChange statesBackSpec)

/-- ITS FALSE NEIGHBOUR: 'it returns false'. Refute it at one input. -/
def statesBackWrong : ChangeSpec := { name := "statesBack", fn := fun _ => fun
  | [d1, d2, d3] => { results := [.lit (.bool false)], args := [d1, d2, d3] }
  | _ => none }
def StatesBackWrongFalsely : Prop := statesBackRow.holds Try.pinned (OpenSpec.ofChange statesBackWrong)

/-- 'wringerlaw14.StatesShort': WHATEVER THE INPUT: true; the input reads as it did. -/
def statesShortSpec : ChangeSpec := { name := "statesShort", fn := fun _ => fun
  | [d1, d2, d3, d4] => { results := [.lit (.bool true)], args := [d1, d2, d3, d4] }
  | _ => none }
def statesShortRow : OpenClaim := { program := "yteeegomdaebobaa", sum := "0e03134347d378a1cd4749d711fdd4e19ddc6ad1663d0f480bb58740f63bb5d6", func := "wringer/wringerlaw14.StatesShort", spec := "statesShort", unfollowed := true, recurses := true, apart := false }
def StatesShortSaid : Prop := statesShortRow.holds Try.pinned (OpenSpec.ofChange statesShortSpec)

/-- ITS FALSE NEIGHBOUR: 'it returns false'. Refute it at one input. -/
def statesShortWrong : ChangeSpec := { name := "statesShort", fn := fun _ => fun
  | [d1, d2, d3, d4] => { results := [.lit (.bool false)], args := [d1, d2, d3, d4] }
  | _ => none }
def StatesShortWrongFalsely : Prop := statesShortRow.holds Try.pinned (OpenSpec.ofChange statesShortWrong)

/- THE SECOND FORM. 'bulk': how many values and letters a reading holds, each counted each time it is reached (what is shared counts as often as it is met; a slice's spare places count too). A statement '..UptoSaid' is the law's where the arguments, and the package variables that the reading takes, are together of bulk at most 1048576: NARROWER than '..Said'. Prove '..Said' where nothing that the law and all that it calls make is longer than what came in: it says more and counts as full. Else prove '..UptoSaid'. A law counts once. -/
mutual
def uptoBulk {H : Type} : DataW H → Nat
  | .lit (.string bytes) => bytes.length + 1
  | .lit _ => 1
  | .nil => 1
  | .ptr d => uptoBulk d + 1
  | .slice elems spare => uptoBulkAll elems + uptoBulkAll spare + 1
  | .agg parts => uptoBulkAll parts + 1
  | .iface _ d => uptoBulk d + 1
  | .map entries => uptoBulkEntries entries + 1
  | .held _ => 1
def uptoBulkAll {H : Type} : List (DataW H) → Nat
  | [] => 0
  | d :: r => uptoBulk d + uptoBulkAll r
def uptoBulkEntries {H : Type} : List (Lit × DataW H) → Nat
  | [] => 0
  | x :: r => uptoBulkEntry x + uptoBulkEntries r
def uptoBulkEntry {H : Type} : Lit × DataW H → Nat
  | (.string bytes, d) => bytes.length + uptoBulk d + 1
  | (_, d) => uptoBulk d + 1
 end
def uptoSmall : (H : Type) → List (DataW H) → Bool := fun _ ds => decide (uptoBulkAll ds ≤ 1048576)
def OpenSpec.upto (s : _root_.Go.ChangeSpec) : _root_.Go.OpenSpec := { _root_.Go.OpenSpec.ofChange s with cond := some uptoSmall }

/-- 'wringerlaw14.StatesCut', WHERE WHAT IT READS IS OF BULK AT MOST 1048576: true; the input reads as it did. -/
def statesCutUptoRow : OpenClaim := { program := "yteeegomdaebobaa", sum := "0e03134347d378a1cd4749d711fdd4e19ddc6ad1663d0f480bb58740f63bb5d6", func := "wringer/wringerlaw14.StatesCut", spec := "statesCut", unfollowed := true, recurses := true, apart := false, narrowed := true }
def StatesCutUptoSaid : Prop := statesCutUptoRow.holds Try.pinned (OpenSpec.upto statesCutSpec)

/-- 'wringerlaw14.StatesEmpty', WHERE WHAT IT READS IS OF BULK AT MOST 1048576: true; the input reads as it did. -/
def statesEmptyUptoRow : OpenClaim := { program := "yteeegomdaebobaa", sum := "0e03134347d378a1cd4749d711fdd4e19ddc6ad1663d0f480bb58740f63bb5d6", func := "wringer/wringerlaw14.StatesEmpty", spec := "statesEmpty", unfollowed := true, recurses := true, apart := false, narrowed := true }
def StatesEmptyUptoSaid : Prop := statesEmptyUptoRow.holds Try.pinned (OpenSpec.upto statesEmptySpec)

/-- 'wringerlaw14.StatesAll', WHERE WHAT IT READS IS OF BULK AT MOST 1048576: true; the input reads as it did. -/
def statesAllUptoRow : OpenClaim := { program := "yteeegomdaebobaa", sum := "0e03134347d378a1cd4749d711fdd4e19ddc6ad1663d0f480bb58740f63bb5d6", func := "wringer/wringerlaw14.StatesAll", spec := "statesAll", unfollowed := true, recurses := true, apart := false, narrowed := true }
def StatesAllUptoSaid : Prop := statesAllUptoRow.holds Try.pinned (OpenSpec.upto statesAllSpec)

/-- 'wringerlaw14.StatesMade', WHERE WHAT IT READS IS OF BULK AT MOST 1048576: true; the input reads as it did. -/
def statesMadeUptoRow : OpenClaim := { program := "yteeegomdaebobaa", sum := "0e03134347d378a1cd4749d711fdd4e19ddc6ad1663d0f480bb58740f63bb5d6", func := "wringer/wringerlaw14.StatesMade", spec := "statesMade", unfollowed := true, recurses := true, apart := false, narrowed := true }
def StatesMadeUptoSaid : Prop := statesMadeUptoRow.holds Try.pinned (OpenSpec.upto statesMadeSpec)

/-- 'wringerlaw14.StatesBack', WHERE WHAT IT READS IS OF BULK AT MOST 1048576: true; the input reads as it did. -/
def statesBackUptoRow : OpenClaim := { program := "yteeegomdaebobaa", sum := "0e03134347d378a1cd4749d711fdd4e19ddc6ad1663d0f480bb58740f63bb5d6", func := "wringer/wringerlaw14.StatesBack", spec := "statesBack", unfollowed := true, recurses := true, apart := false, narrowed := true }
def StatesBackUptoSaid : Prop := statesBackUptoRow.holds Try.pinned (OpenSpec.upto statesBackSpec)

/-- 'wringerlaw14.StatesShort', WHERE WHAT IT READS IS OF BULK AT MOST 1048576: true; the input reads as it did. -/
def statesShortUptoRow : OpenClaim := { program := "yteeegomdaebobaa", sum := "0e03134347d378a1cd4749d711fdd4e19ddc6ad1663d0f480bb58740f63bb5d6", func := "wringer/wringerlaw14.StatesShort", spec := "statesShort", unfollowed := true, recurses := true, apart := false, narrowed := true }
def StatesShortUptoSaid : Prop := statesShortUptoRow.holds Try.pinned (OpenSpec.upto statesShortSpec)

end Rows
end Go.Proofs.Yteeegomdaebobaa
