/-
  No cell of these rows narrows 'for every input' (looked for: loops, veiled, ifaces, maps, wideKeys, modest, calm, conditions, laid).
  DERIVED. THE GIVEN ROWS OF THIS SEAT. 7 by the template 'for every input the law returns true; each argument reads behind the call as it read before'; 0 by the template 'total and deterministic' (their statements: YtejecpmfhgplmaaTotals.lean).
  GIVEN WITH THE SEED: the statements are not yours to turn. If you find one false, say at which input.
  Laid BY PROGRAM, IN A SANDBOX (cutbox-rows.mjs): the forced cells as the released guide's own fill.sh prints them over the translation b2f94bdc2a14c895… (all of the seat's roots in one cut). By AI agents, Wed Nov 11 2026. No macro, syntax, notation, axiom, sorry.
-/
import Derived.Test.YtejecpmfhgplmaaChecked
import GoSem.Claim
import GoSem.ClaimJoined
import GoSem.ClaimMapViews
import Derived.JoinedTies
import Derived.KernelRfl
namespace Go.Proofs.Ytejecpmfhgplmaa
/- THE CELL 'sum', in the pinned program and in every row, IS THE sha256 OF THE DUMP (.gsa) THAT YtejecpmfhgplmaaProg.lean LOADS. Nothing in Lean hashes anything: it is a label: what it is worth is what the hold of that sum in a sandbox is worth. -/
noncomputable def Try.pinned : Pinned := { name := "ytejecpmfhgplmaa", sum := "b2f94bdc2a14c895b0a432f31bf067aa378ed454cf02e224cbb7c6bfd2b5b78f", checked := Try.checked }
namespace Rows
def none {H : Type} : Left H := { results := [], args := [] }

/-- 'wringerlaw8.MergeAll': WHATEVER THE INPUT: true; the input reads as it did. -/
def mergeAllSpec : ChangeSpec := { name := "mergeAll", fn := fun _ => fun
  | [d1, d2, d3] => { results := [.lit (.bool true)], args := [d1, d2, d3] }
  | _ => none }
def mergeAllRow : OpenClaim := { program := "ytejecpmfhgplmaa", sum := "b2f94bdc2a14c895b0a432f31bf067aa378ed454cf02e224cbb7c6bfd2b5b78f", func := "wringer/wringerlaw8.MergeAll", spec := "mergeAll", unfollowed := true, recurses := true, apart := false }
def MergeAllSaid : Prop := mergeAllRow.holds Try.pinned (OpenSpec.ofChange mergeAllSpec)

/-- ITS FALSE NEIGHBOUR: 'it returns false'. Refute it at one input. -/
def mergeAllWrong : ChangeSpec := { name := "mergeAll", fn := fun _ => fun
  | [d1, d2, d3] => { results := [.lit (.bool false)], args := [d1, d2, d3] }
  | _ => none }
def MergeAllWrongFalsely : Prop := mergeAllRow.holds Try.pinned (OpenSpec.ofChange mergeAllWrong)

/-- 'wringerlaw8.MergeMade': WHATEVER THE INPUT: true; the input reads as it did. -/
def mergeMadeSpec : ChangeSpec := { name := "mergeMade", fn := fun _ => fun
  | [d1, d2] => { results := [.lit (.bool true)], args := [d1, d2] }
  | _ => none }
def mergeMadeRow : OpenClaim := { program := "ytejecpmfhgplmaa", sum := "b2f94bdc2a14c895b0a432f31bf067aa378ed454cf02e224cbb7c6bfd2b5b78f", func := "wringer/wringerlaw8.MergeMade", spec := "mergeMade", unfollowed := true, recurses := true, apart := false }
def MergeMadeSaid : Prop := mergeMadeRow.holds Try.pinned (OpenSpec.ofChange mergeMadeSpec)

/-- ITS FALSE NEIGHBOUR: 'it returns false'. Refute it at one input. -/
def mergeMadeWrong : ChangeSpec := { name := "mergeMade", fn := fun _ => fun
  | [d1, d2] => { results := [.lit (.bool false)], args := [d1, d2] }
  | _ => none }
def MergeMadeWrongFalsely : Prop := mergeMadeRow.holds Try.pinned (OpenSpec.ofChange mergeMadeWrong)

/-- 'wringerlaw8.MergeLeast': WHATEVER THE INPUT: true; the input reads as it did. -/
def mergeLeastSpec : ChangeSpec := { name := "mergeLeast", fn := fun _ => fun
  | [d1, d2, d3, d4] => { results := [.lit (.bool true)], args := [d1, d2, d3, d4] }
  | _ => none }
def mergeLeastRow : OpenClaim := { program := "ytejecpmfhgplmaa", sum := "b2f94bdc2a14c895b0a432f31bf067aa378ed454cf02e224cbb7c6bfd2b5b78f", func := "wringer/wringerlaw8.MergeLeast", spec := "mergeLeast", unfollowed := true, recurses := true, apart := false }
def MergeLeastSaid : Prop := mergeLeastRow.holds Try.pinned (OpenSpec.ofChange mergeLeastSpec)

/-- ITS FALSE NEIGHBOUR: 'it returns false'. Refute it at one input. -/
def mergeLeastWrong : ChangeSpec := { name := "mergeLeast", fn := fun _ => fun
  | [d1, d2, d3, d4] => { results := [.lit (.bool false)], args := [d1, d2, d3, d4] }
  | _ => none }
def MergeLeastWrongFalsely : Prop := mergeLeastRow.holds Try.pinned (OpenSpec.ofChange mergeLeastWrong)

/-- 'wringerlaw8.MergeTried': WHATEVER THE INPUT: true; the input reads as it did. -/
def mergeTriedSpec : ChangeSpec := { name := "mergeTried", fn := fun _ => fun
  | [d1, d2] => { results := [.lit (.bool true)], args := [d1, d2] }
  | _ => none }
def mergeTriedRow : OpenClaim := { program := "ytejecpmfhgplmaa", sum := "b2f94bdc2a14c895b0a432f31bf067aa378ed454cf02e224cbb7c6bfd2b5b78f", func := "wringer/wringerlaw8.MergeTried", spec := "mergeTried", unfollowed := true, recurses := true, apart := false }
def MergeTriedSaid : Prop := mergeTriedRow.holds Try.pinned (OpenSpec.ofChange mergeTriedSpec)

/-- ITS FALSE NEIGHBOUR: 'it returns false'. Refute it at one input. -/
def mergeTriedWrong : ChangeSpec := { name := "mergeTried", fn := fun _ => fun
  | [d1, d2] => { results := [.lit (.bool false)], args := [d1, d2] }
  | _ => none }
def MergeTriedWrongFalsely : Prop := mergeTriedRow.holds Try.pinned (OpenSpec.ofChange mergeTriedWrong)

/-- 'wringerlaw8.MergeFlat': WHATEVER THE INPUT: true; the input reads as it did. -/
def mergeFlatSpec : ChangeSpec := { name := "mergeFlat", fn := fun _ => fun
  | [d1, d2, d3] => { results := [.lit (.bool true)], args := [d1, d2, d3] }
  | _ => none }
def mergeFlatRow : OpenClaim := { program := "ytejecpmfhgplmaa", sum := "b2f94bdc2a14c895b0a432f31bf067aa378ed454cf02e224cbb7c6bfd2b5b78f", func := "wringer/wringerlaw8.MergeFlat", spec := "mergeFlat", unfollowed := true, recurses := true, apart := false }
def MergeFlatSaid : Prop := mergeFlatRow.holds Try.pinned (OpenSpec.ofChange mergeFlatSpec)

/-- ITS FALSE NEIGHBOUR: 'it returns false'. Refute it at one input. -/
def mergeFlatWrong : ChangeSpec := { name := "mergeFlat", fn := fun _ => fun
  | [d1, d2, d3] => { results := [.lit (.bool false)], args := [d1, d2, d3] }
  | _ => none }
def MergeFlatWrongFalsely : Prop := mergeFlatRow.holds Try.pinned (OpenSpec.ofChange mergeFlatWrong)

/-- 'wringerlaw8.MergeSteep': WHATEVER THE INPUT: true; the input reads as it did. -/
def mergeSteepSpec : ChangeSpec := { name := "mergeSteep", fn := fun _ => fun
  | [d1, d2] => { results := [.lit (.bool true)], args := [d1, d2] }
  | _ => none }
def mergeSteepRow : OpenClaim := { program := "ytejecpmfhgplmaa", sum := "b2f94bdc2a14c895b0a432f31bf067aa378ed454cf02e224cbb7c6bfd2b5b78f", func := "wringer/wringerlaw8.MergeSteep", spec := "mergeSteep", unfollowed := true, recurses := true, apart := false }
def MergeSteepSaid : Prop := mergeSteepRow.holds Try.pinned (OpenSpec.ofChange mergeSteepSpec)

/-- ITS FALSE NEIGHBOUR: 'it returns false'. Refute it at one input. -/
def mergeSteepWrong : ChangeSpec := { name := "mergeSteep", fn := fun _ => fun
  | [d1, d2] => { results := [.lit (.bool false)], args := [d1, d2] }
  | _ => none }
def MergeSteepWrongFalsely : Prop := mergeSteepRow.holds Try.pinned (OpenSpec.ofChange mergeSteepWrong)

/-- 'wringerlaw8.MergeRefuses': WHATEVER THE INPUT: true; the input reads as it did. -/
def mergeRefusesSpec : ChangeSpec := { name := "mergeRefuses", fn := fun _ => fun
  | [d1, d2] => { results := [.lit (.bool true)], args := [d1, d2] }
  | _ => none }
def mergeRefusesRow : OpenClaim := { program := "ytejecpmfhgplmaa", sum := "b2f94bdc2a14c895b0a432f31bf067aa378ed454cf02e224cbb7c6bfd2b5b78f", func := "wringer/wringerlaw8.MergeRefuses", spec := "mergeRefuses", unfollowed := true, recurses := true, apart := false }
def MergeRefusesSaid : Prop := mergeRefusesRow.holds Try.pinned (OpenSpec.ofChange mergeRefusesSpec)

/-- ITS FALSE NEIGHBOUR: 'it returns false'. Refute it at one input. -/
def mergeRefusesWrong : ChangeSpec := { name := "mergeRefuses", fn := fun _ => fun
  | [d1, d2] => { results := [.lit (.bool false)], args := [d1, d2] }
  | _ => none }
def MergeRefusesWrongFalsely : Prop := mergeRefusesRow.holds Try.pinned (OpenSpec.ofChange mergeRefusesWrong)

/- THE SECOND FORM. 'bulk': how many values and letters a reading holds, each counted each time it is reached (what is shared counts as often as it is met; a slice's spare places count too). A statement '..UptoSaid' is the law's where the arguments, and the package variables that the reading takes, are together of bulk at most 1048576: NARROWER than '..Said'. Prove '..Said' where nothing that the law and all that it calls make is longer than what came in: it says more and counts as full. Else prove '..UptoSaid'. A law counts once. -/
mutual
def uptoBulk {H : Type} : DataW H → Nat
  | .lit (.string bytes) => bytes.length + 1
  | .lit _ => 1
  | .nil => 1
  | .ptr d => uptoBulk d + 1
  | .slice elems spare => uptoBulkAll elems + uptoBulkAll spare + 1
  | .agg parts => uptoBulkAll parts + 1
  | .iface _ d => uptoBulk d + 1
  | .map entries => uptoBulkEntries entries + 1
  | .held _ => 1
def uptoBulkAll {H : Type} : List (DataW H) → Nat
  | [] => 0
  | d :: r => uptoBulk d + uptoBulkAll r
def uptoBulkEntries {H : Type} : List (Lit × DataW H) → Nat
  | [] => 0
  | x :: r => uptoBulkEntry x + uptoBulkEntries r
def uptoBulkEntry {H : Type} : Lit × DataW H → Nat
  | (.string bytes, d) => bytes.length + uptoBulk d + 1
  | (_, d) => uptoBulk d + 1
 end
def uptoSmall : (H : Type) → List (DataW H) → Bool := fun _ ds => decide (uptoBulkAll ds ≤ 1048576)
def OpenSpec.upto (s : _root_.Go.ChangeSpec) : _root_.Go.OpenSpec := { _root_.Go.OpenSpec.ofChange s with cond := some uptoSmall }

/-- 'wringerlaw8.MergeAll', WHERE WHAT IT READS IS OF BULK AT MOST 1048576: true; the input reads as it did. -/
def mergeAllUptoRow : OpenClaim := { program := "ytejecpmfhgplmaa", sum := "b2f94bdc2a14c895b0a432f31bf067aa378ed454cf02e224cbb7c6bfd2b5b78f", func := "wringer/wringerlaw8.MergeAll", spec := "mergeAll", unfollowed := true, recurses := true, apart := false, narrowed := true }
def MergeAllUptoSaid : Prop := mergeAllUptoRow.holds Try.pinned (OpenSpec.upto mergeAllSpec)

/-- 'wringerlaw8.MergeMade', WHERE WHAT IT READS IS OF BULK AT MOST 1048576: true; the input reads as it did. -/
def mergeMadeUptoRow : OpenClaim := { program := "ytejecpmfhgplmaa", sum := "b2f94bdc2a14c895b0a432f31bf067aa378ed454cf02e224cbb7c6bfd2b5b78f", func := "wringer/wringerlaw8.MergeMade", spec := "mergeMade", unfollowed := true, recurses := true, apart := false, narrowed := true }
def MergeMadeUptoSaid : Prop := mergeMadeUptoRow.holds Try.pinned (OpenSpec.upto mergeMadeSpec)

/-- 'wringerlaw8.MergeLeast', WHERE WHAT IT READS IS OF BULK AT MOST 1048576: true; the input reads as it did. -/
def mergeLeastUptoRow : OpenClaim := { program := "ytejecpmfhgplmaa", sum := "b2f94bdc2a14c895b0a432f31bf067aa378ed454cf02e224cbb7c6bfd2b5b78f", func := "wringer/wringerlaw8.MergeLeast", spec := "mergeLeast", unfollowed := true, recurses := true, apart := false, narrowed := true }
def MergeLeastUptoSaid : Prop := mergeLeastUptoRow.holds Try.pinned (OpenSpec.upto mergeLeastSpec)

/-- 'wringerlaw8.MergeTried', WHERE WHAT IT READS IS OF BULK AT MOST 1048576: true; the input reads as it did. -/
def mergeTriedUptoRow : OpenClaim := { program := "ytejecpmfhgplmaa", sum := "b2f94bdc2a14c895b0a432f31bf067aa378ed454cf02e224cbb7c6bfd2b5b78f", func := "wringer/wringerlaw8.MergeTried", spec := "mergeTried", unfollowed := true, recurses := true, apart := false, narrowed := true }
def MergeTriedUptoSaid : Prop := mergeTriedUptoRow.holds Try.pinned (OpenSpec.upto mergeTriedSpec)

/-- 'wringerlaw8.MergeFlat', WHERE WHAT IT READS IS OF BULK AT MOST 1048576: true; the input reads as it did. -/
def mergeFlatUptoRow : OpenClaim := { program := "ytejecpmfhgplmaa", sum := "b2f94bdc2a14c895b0a432f31bf067aa378ed454cf02e224cbb7c6bfd2b5b78f", func := "wringer/wringerlaw8.MergeFlat", spec := "mergeFlat", unfollowed := true, recurses := true, apart := false, narrowed := true }
def MergeFlatUptoSaid : Prop := mergeFlatUptoRow.holds Try.pinned (OpenSpec.upto mergeFlatSpec)

/-- 'wringerlaw8.MergeSteep', WHERE WHAT IT READS IS OF BULK AT MOST 1048576: true; the input reads as it did. -/
def mergeSteepUptoRow : OpenClaim := { program := "ytejecpmfhgplmaa", sum := "b2f94bdc2a14c895b0a432f31bf067aa378ed454cf02e224cbb7c6bfd2b5b78f", func := "wringer/wringerlaw8.MergeSteep", spec := "mergeSteep", unfollowed := true, recurses := true, apart := false, narrowed := true }
def MergeSteepUptoSaid : Prop := mergeSteepUptoRow.holds Try.pinned (OpenSpec.upto mergeSteepSpec)

/-- 'wringerlaw8.MergeRefuses', WHERE WHAT IT READS IS OF BULK AT MOST 1048576: true; the input reads as it did. -/
def mergeRefusesUptoRow : OpenClaim := { program := "ytejecpmfhgplmaa", sum := "b2f94bdc2a14c895b0a432f31bf067aa378ed454cf02e224cbb7c6bfd2b5b78f", func := "wringer/wringerlaw8.MergeRefuses", spec := "mergeRefuses", unfollowed := true, recurses := true, apart := false, narrowed := true }
def MergeRefusesUptoSaid : Prop := mergeRefusesUptoRow.holds Try.pinned (OpenSpec.upto mergeRefusesSpec)

end Rows
end Go.Proofs.Ytejecpmfhgplmaa
