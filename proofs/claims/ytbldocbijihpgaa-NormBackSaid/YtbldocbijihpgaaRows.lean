/-
  No cell of these rows narrows 'for every input' (looked for: loops, veiled, ifaces, maps, wideKeys, modest, calm, conditions, laid).
  DERIVED. THE GIVEN ROWS OF THIS SEAT. 6 by the template 'for every input the law returns true; each argument reads behind the call as it read before'; 0 by the template 'total and deterministic' (their statements: YtbldocbijihpgaaTotals.lean).
  GIVEN WITH THE SEED: the statements are not yours to turn. If you find one false, say at which input.
  Laid BY PROGRAM, IN A SANDBOX (cutbox-rows.mjs): the forced cells as the released guide's own fill.sh prints them over the translation 5bf8d6e78491f9fa… (all of the seat's roots in one cut). By AI agents, Wed Nov 11 2026. No macro, syntax, notation, axiom, sorry.
-/
import Derived.Test.YtbldocbijihpgaaChecked
import GoSem.Claim
import GoSem.ClaimJoined
import GoSem.ClaimMapViews
import Derived.JoinedTies
import Derived.KernelRfl
namespace Go.Proofs.Ytbldocbijihpgaa
/- THE CELL 'sum', in the pinned program and in every row, IS THE sha256 OF THE DUMP (.gsa) THAT YtbldocbijihpgaaProg.lean LOADS. Nothing in Lean hashes anything: it is a label: what it is worth is what the hold of that sum in a sandbox is worth. -/
noncomputable def Try.pinned : Pinned := { name := "ytbldocbijihpgaa", sum := "5bf8d6e78491f9fa258afbd056ee31cb0ea35e2e709e96b60cff3b0b06c2cd32", checked := Try.checked }
namespace Rows
def none {H : Type} : Left H := { results := [], args := [] }

/-- 'wringerlaw12.NormMade': WHATEVER THE INPUT: true; the input reads as it did. -/
def normMadeSpec : ChangeSpec := { name := "normMade", fn := fun _ => fun
  | [d1, d2] => { results := [.lit (.bool true)], args := [d1, d2] }
  | _ => none }
def normMadeRow : OpenClaim := { program := "ytbldocbijihpgaa", sum := "5bf8d6e78491f9fa258afbd056ee31cb0ea35e2e709e96b60cff3b0b06c2cd32", func := "wringer/wringerlaw12.NormMade", spec := "normMade", unfollowed := true, recurses := true, apart := false }
def NormMadeSaid : Prop := normMadeRow.holds Try.pinned (OpenSpec.ofChange normMadeSpec)

/-- ITS FALSE NEIGHBOUR: 'it returns false'. Refute it at one input. -/
def normMadeWrong : ChangeSpec := { name := "normMade", fn := fun _ => fun
  | [d1, d2] => { results := [.lit (.bool false)], args := [d1, d2] }
  | _ => none }
def NormMadeWrongFalsely : Prop := normMadeRow.holds Try.pinned (OpenSpec.ofChange normMadeWrong)

/-- 'wringerlaw12.NormEven': WHATEVER THE INPUT: true; the input reads as it did. -/
def normEvenSpec : ChangeSpec := { name := "normEven", fn := fun _ => fun
  | [d1, d2, d3] => { results := [.lit (.bool true)], args := [d1, d2, d3] }
  | _ => none }
def normEvenRow : OpenClaim := { program := "ytbldocbijihpgaa", sum := "5bf8d6e78491f9fa258afbd056ee31cb0ea35e2e709e96b60cff3b0b06c2cd32", func := "wringer/wringerlaw12.NormEven", spec := "normEven", unfollowed := true, recurses := true, apart := false }
def NormEvenSaid : Prop := normEvenRow.holds Try.pinned (OpenSpec.ofChange normEvenSpec)

/-- ITS FALSE NEIGHBOUR: 'it returns false'. Refute it at one input. -/
def normEvenWrong : ChangeSpec := { name := "normEven", fn := fun _ => fun
  | [d1, d2, d3] => { results := [.lit (.bool false)], args := [d1, d2, d3] }
  | _ => none }
def NormEvenWrongFalsely : Prop := normEvenRow.holds Try.pinned (OpenSpec.ofChange normEvenWrong)

/-- 'wringerlaw12.NormAll': WHATEVER THE INPUT: true; the input reads as it did. -/
def normAllSpec : ChangeSpec := { name := "normAll", fn := fun _ => fun
  | [d1, d2, d3, d4, d5] => { results := [.lit (.bool true)], args := [d1, d2, d3, d4, d5] }
  | _ => none }
def normAllRow : OpenClaim := { program := "ytbldocbijihpgaa", sum := "5bf8d6e78491f9fa258afbd056ee31cb0ea35e2e709e96b60cff3b0b06c2cd32", func := "wringer/wringerlaw12.NormAll", spec := "normAll", inPlace := ["internal/abi.NoEscape"], unfollowed := true, recurses := true, apart := false }
def NormAllSaid : Prop := normAllRow.holds Try.pinned (OpenSpec.ofChange normAllSpec)

/-- ITS FALSE NEIGHBOUR: 'it returns false'. Refute it at one input. -/
def normAllWrong : ChangeSpec := { name := "normAll", fn := fun _ => fun
  | [d1, d2, d3, d4, d5] => { results := [.lit (.bool false)], args := [d1, d2, d3, d4, d5] }
  | _ => none }
def NormAllWrongFalsely : Prop := normAllRow.holds Try.pinned (OpenSpec.ofChange normAllWrong)

/-- 'wringerlaw12.NormBack': WHATEVER THE INPUT: true; the input reads as it did. -/
def normBackSpec : ChangeSpec := { name := "normBack", fn := fun _ => fun
  | [d1, d2, d3, d4, d5, d6, d7] => { results := [.lit (.bool true)], args := [d1, d2, d3, d4, d5, d6, d7] }
  | _ => none }
def normBackRow : OpenClaim := { program := "ytbldocbijihpgaa", sum := "5bf8d6e78491f9fa258afbd056ee31cb0ea35e2e709e96b60cff3b0b06c2cd32", func := "wringer/wringerlaw12.NormBack", spec := "normBack", inPlace := ["internal/abi.NoEscape"], unfollowed := true, recurses := true, apart := false }
def NormBackSaid : Prop := normBackRow.holds Try.pinned (OpenSpec.ofChange normBackSpec)

/-- ITS FALSE NEIGHBOUR: 'it returns false'. Refute it at one input. -/
def normBackWrong : ChangeSpec := { name := "normBack", fn := fun _ => fun
  | [d1, d2, d3, d4, d5, d6, d7] => { results := [.lit (.bool false)], args := [d1, d2, d3, d4, d5, d6, d7] }
  | _ => none }
def NormBackWrongFalsely : Prop := normBackRow.holds Try.pinned (OpenSpec.ofChange normBackWrong)

/-- 'wringerlaw12.NormRefuses': WHATEVER THE INPUT: true; the input reads as it did. -/
def normRefusesSpec : ChangeSpec := { name := "normRefuses", fn := fun _ => fun
  | [d1, d2] => { results := [.lit (.bool true)], args := [d1, d2] }
  | _ => none }
def normRefusesRow : OpenClaim := { program := "ytbldocbijihpgaa", sum := "5bf8d6e78491f9fa258afbd056ee31cb0ea35e2e709e96b60cff3b0b06c2cd32", func := "wringer/wringerlaw12.NormRefuses", spec := "normRefuses", inPlace := ["internal/abi.NoEscape"], unfollowed := true, recurses := true, apart := false }
def NormRefusesSaid : Prop := normRefusesRow.holds Try.pinned (OpenSpec.ofChange normRefusesSpec)

/-- ITS FALSE NEIGHBOUR: 'it returns false'. Refute it at one input. -/
def normRefusesWrong : ChangeSpec := { name := "normRefuses", fn := fun _ => fun
  | [d1, d2] => { results := [.lit (.bool false)], args := [d1, d2] }
  | _ => none }
def NormRefusesWrongFalsely : Prop := normRefusesRow.holds Try.pinned (OpenSpec.ofChange normRefusesWrong)

/-- 'wringerlaw12.NormRuns': WHATEVER THE INPUT: true; the input reads as it did. -/
def normRunsSpec : ChangeSpec := { name := "normRuns", fn := fun _ => fun
  | [d1, d2] => { results := [.lit (.bool true)], args := [d1, d2] }
  | _ => none }
def normRunsRow : OpenClaim := { program := "ytbldocbijihpgaa", sum := "5bf8d6e78491f9fa258afbd056ee31cb0ea35e2e709e96b60cff3b0b06c2cd32", func := "wringer/wringerlaw12.NormRuns", spec := "normRuns", inPlace := ["internal/abi.NoEscape"], unfollowed := true, recurses := true, apart := false }
def NormRunsSaid : Prop := normRunsRow.holds Try.pinned (OpenSpec.ofChange normRunsSpec)

/-- ITS FALSE NEIGHBOUR: 'it returns false'. Refute it at one input. -/
def normRunsWrong : ChangeSpec := { name := "normRuns", fn := fun _ => fun
  | [d1, d2] => { results := [.lit (.bool false)], args := [d1, d2] }
  | _ => none }
def NormRunsWrongFalsely : Prop := normRunsRow.holds Try.pinned (OpenSpec.ofChange normRunsWrong)

/- THE SECOND FORM. 'bulk': how many values and letters a reading holds, each counted each time it is reached (what is shared counts as often as it is met; a slice's spare places count too). A statement '..UptoSaid' is the law's where the arguments, and the package variables that the reading takes, are together of bulk at most 1048576: NARROWER than '..Said'. Prove '..Said' where nothing that the law and all that it calls make is longer than what came in: it says more and counts as full. Else prove '..UptoSaid'. A law counts once. -/
mutual
def uptoBulk {H : Type} : DataW H → Nat
  | .lit (.string bytes) => bytes.length + 1
  | .lit _ => 1
  | .nil => 1
  | .ptr d => uptoBulk d + 1
  | .slice elems spare => uptoBulkAll elems + uptoBulkAll spare + 1
  | .agg parts => uptoBulkAll parts + 1
  | .iface _ d => uptoBulk d + 1
  | .map entries => uptoBulkEntries entries + 1
  | .held _ => 1
def uptoBulkAll {H : Type} : List (DataW H) → Nat
  | [] => 0
  | d :: r => uptoBulk d + uptoBulkAll r
def uptoBulkEntries {H : Type} : List (Lit × DataW H) → Nat
  | [] => 0
  | x :: r => uptoBulkEntry x + uptoBulkEntries r
def uptoBulkEntry {H : Type} : Lit × DataW H → Nat
  | (.string bytes, d) => bytes.length + uptoBulk d + 1
  | (_, d) => uptoBulk d + 1
 end
def uptoSmall : (H : Type) → List (DataW H) → Bool := fun _ ds => decide (uptoBulkAll ds ≤ 1048576)
def OpenSpec.upto (s : _root_.Go.ChangeSpec) : _root_.Go.OpenSpec := { _root_.Go.OpenSpec.ofChange s with cond := some uptoSmall }

/-- 'wringerlaw12.NormMade', WHERE WHAT IT READS IS OF BULK AT MOST 1048576: true; the input reads as it did. -/
def normMadeUptoRow : OpenClaim := { program := "ytbldocbijihpgaa", sum := "5bf8d6e78491f9fa258afbd056ee31cb0ea35e2e709e96b60cff3b0b06c2cd32", func := "wringer/wringerlaw12.NormMade", spec := "normMade", unfollowed := true, recurses := true, apart := false, narrowed := true }
def NormMadeUptoSaid : Prop := normMadeUptoRow.holds Try.pinned (OpenSpec.upto normMadeSpec)

/-- 'wringerlaw12.NormEven', WHERE WHAT IT READS IS OF BULK AT MOST 1048576: true; the input reads as it did. -/
def normEvenUptoRow : OpenClaim := { program := "ytbldocbijihpgaa", sum := "5bf8d6e78491f9fa258afbd056ee31cb0ea35e2e709e96b60cff3b0b06c2cd32", func := "wringer/wringerlaw12.NormEven", spec := "normEven", unfollowed := true, recurses := true, apart := false, narrowed := true }
def NormEvenUptoSaid : Prop := normEvenUptoRow.holds Try.pinned (OpenSpec.upto normEvenSpec)

/-- 'wringerlaw12.NormAll', WHERE WHAT IT READS IS OF BULK AT MOST 1048576: true; the input reads as it did. -/
def normAllUptoRow : OpenClaim := { program := "ytbldocbijihpgaa", sum := "5bf8d6e78491f9fa258afbd056ee31cb0ea35e2e709e96b60cff3b0b06c2cd32", func := "wringer/wringerlaw12.NormAll", spec := "normAll", inPlace := ["internal/abi.NoEscape"], unfollowed := true, recurses := true, apart := false, narrowed := true }
def NormAllUptoSaid : Prop := normAllUptoRow.holds Try.pinned (OpenSpec.upto normAllSpec)

/-- 'wringerlaw12.NormBack', WHERE WHAT IT READS IS OF BULK AT MOST 1048576: true; the input reads as it did. -/
def normBackUptoRow : OpenClaim := { program := "ytbldocbijihpgaa", sum := "5bf8d6e78491f9fa258afbd056ee31cb0ea35e2e709e96b60cff3b0b06c2cd32", func := "wringer/wringerlaw12.NormBack", spec := "normBack", inPlace := ["internal/abi.NoEscape"], unfollowed := true, recurses := true, apart := false, narrowed := true }
def NormBackUptoSaid : Prop := normBackUptoRow.holds Try.pinned (OpenSpec.upto normBackSpec)

/-- 'wringerlaw12.NormRefuses', WHERE WHAT IT READS IS OF BULK AT MOST 1048576: true; the input reads as it did. -/
def normRefusesUptoRow : OpenClaim := { program := "ytbldocbijihpgaa", sum := "5bf8d6e78491f9fa258afbd056ee31cb0ea35e2e709e96b60cff3b0b06c2cd32", func := "wringer/wringerlaw12.NormRefuses", spec := "normRefuses", inPlace := ["internal/abi.NoEscape"], unfollowed := true, recurses := true, apart := false, narrowed := true }
def NormRefusesUptoSaid : Prop := normRefusesUptoRow.holds Try.pinned (OpenSpec.upto normRefusesSpec)

/-- 'wringerlaw12.NormRuns', WHERE WHAT IT READS IS OF BULK AT MOST 1048576: true; the input reads as it did. -/
def normRunsUptoRow : OpenClaim := { program := "ytbldocbijihpgaa", sum := "5bf8d6e78491f9fa258afbd056ee31cb0ea35e2e709e96b60cff3b0b06c2cd32", func := "wringer/wringerlaw12.NormRuns", spec := "normRuns", inPlace := ["internal/abi.NoEscape"], unfollowed := true, recurses := true, apart := false, narrowed := true }
def NormRunsUptoSaid : Prop := normRunsUptoRow.holds Try.pinned (OpenSpec.upto normRunsSpec)

end Rows
end Go.Proofs.Ytbldocbijihpgaa
