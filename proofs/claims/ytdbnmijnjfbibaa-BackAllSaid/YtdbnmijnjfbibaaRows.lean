/-
  No cell of these rows narrows 'for every input' (looked for: loops, veiled, ifaces, maps, wideKeys, modest, calm, conditions, laid).
  DERIVED. THE GIVEN ROWS OF THIS SEAT. 4 by the template 'for every input the law returns true; each argument reads behind the call as it read before'; 0 by the template 'total and deterministic' (their statements: YtdbnmijnjfbibaaTotals.lean).
  GIVEN WITH THE SEED: the statements are not yours to turn. If you find one false, say at which input.
  Laid BY PROGRAM, IN A SANDBOX (cutbox-rows.mjs): the forced cells as the released guide's own fill.sh prints them over the translation 126c3c9e290962b3… (all of the seat's roots in one cut). By AI agents, Wed Nov 11 2026. No macro, syntax, notation, axiom, sorry.
-/
import Derived.Test.YtdbnmijnjfbibaaChecked
import GoSem.Claim
import GoSem.ClaimJoined
import GoSem.ClaimMapViews
import Derived.JoinedTies
import Derived.KernelRfl
namespace Go.Proofs.Ytdbnmijnjfbibaa
/- THE CELL 'sum', in the pinned program and in every row, IS THE sha256 OF THE DUMP (.gsa) THAT YtdbnmijnjfbibaaProg.lean LOADS. Nothing in Lean hashes anything: it is a label: what it is worth is what the hold of that sum in a sandbox is worth. -/
noncomputable def Try.pinned : Pinned := { name := "ytdbnmijnjfbibaa", sum := "126c3c9e290962b38d451b301e0eeb54bdc731432605e9143379cb67b93a360b", checked := Try.checked }
namespace Rows
def none {H : Type} : Left H := { results := [], args := [] }

/-- 'wringerlaw4.BackMarks': WHATEVER THE INPUT: true; the input reads as it did. -/
def backMarksSpec : ChangeSpec := { name := "backMarks", fn := fun _ => fun
  | [d1, d2] => { results := [.lit (.bool true)], args := [d1, d2] }
  | _ => none }
def backMarksRow : OpenClaim := { program := "ytdbnmijnjfbibaa", sum := "126c3c9e290962b38d451b301e0eeb54bdc731432605e9143379cb67b93a360b", func := "wringer/wringerlaw4.BackMarks", spec := "backMarks", unfollowed := true, recurses := true, apart := false }
def BackMarksSaid : Prop := backMarksRow.holds Try.pinned (OpenSpec.ofChange backMarksSpec)

/-- ITS FALSE NEIGHBOUR: 'it returns false'. Refute it at one input. -/
def backMarksWrong : ChangeSpec := { name := "backMarks", fn := fun _ => fun
  | [d1, d2] => { results := [.lit (.bool false)], args := [d1, d2] }
  | _ => none }
def BackMarksWrongFalsely : Prop := backMarksRow.holds Try.pinned (OpenSpec.ofChange backMarksWrong)

/-- 'wringerlaw4.BackAll': WHATEVER THE INPUT: true; the input reads as it did. -/
def backAllSpec : ChangeSpec := { name := "backAll", fn := fun _ => fun
  | [d1, d2, d3, d4] => { results := [.lit (.bool true)], args := [d1, d2, d3, d4] }
  | _ => none }
def backAllRow : OpenClaim := { program := "ytdbnmijnjfbibaa", sum := "126c3c9e290962b38d451b301e0eeb54bdc731432605e9143379cb67b93a360b", func := "wringer/wringerlaw4.BackAll", spec := "backAll", unfollowed := true, recurses := true, apart := false }
def BackAllSaid : Prop := backAllRow.holds Try.pinned (OpenSpec.ofChange backAllSpec)

/-- ITS FALSE NEIGHBOUR: 'it returns false'. Refute it at one input. -/
def backAllWrong : ChangeSpec := { name := "backAll", fn := fun _ => fun
  | [d1, d2, d3, d4] => { results := [.lit (.bool false)], args := [d1, d2, d3, d4] }
  | _ => none }
def BackAllWrongFalsely : Prop := backAllRow.holds Try.pinned (OpenSpec.ofChange backAllWrong)

/-- 'wringerlaw4.BackTells': WHATEVER THE INPUT: true; the input reads as it did. -/
def backTellsSpec : ChangeSpec := { name := "backTells", fn := fun _ => fun
  | [d1, d2] => { results := [.lit (.bool true)], args := [d1, d2] }
  | _ => none }
def backTellsRow : OpenClaim := { program := "ytdbnmijnjfbibaa", sum := "126c3c9e290962b38d451b301e0eeb54bdc731432605e9143379cb67b93a360b", func := "wringer/wringerlaw4.BackTells", spec := "backTells", unfollowed := true, recurses := true, apart := false }
def BackTellsSaid : Prop := backTellsRow.holds Try.pinned (OpenSpec.ofChange backTellsSpec)

/-- ITS FALSE NEIGHBOUR: 'it returns false'. Refute it at one input. -/
def backTellsWrong : ChangeSpec := { name := "backTells", fn := fun _ => fun
  | [d1, d2] => { results := [.lit (.bool false)], args := [d1, d2] }
  | _ => none }
def BackTellsWrongFalsely : Prop := backTellsRow.holds Try.pinned (OpenSpec.ofChange backTellsWrong)

/-- 'wringerlaw4.BackMore': WHATEVER THE INPUT: true; the input reads as it did. -/
def backMoreSpec : ChangeSpec := { name := "backMore", fn := fun _ => fun
  | [d1, d2] => { results := [.lit (.bool true)], args := [d1, d2] }
  | _ => none }
def backMoreRow : OpenClaim := { program := "ytdbnmijnjfbibaa", sum := "126c3c9e290962b38d451b301e0eeb54bdc731432605e9143379cb67b93a360b", func := "wringer/wringerlaw4.BackMore", spec := "backMore", unfollowed := true, recurses := true, apart := false }
def BackMoreSaid : Prop := backMoreRow.holds Try.pinned (OpenSpec.ofChange backMoreSpec)

/-- ITS FALSE NEIGHBOUR: 'it returns false'. Refute it at one input. -/
def backMoreWrong : ChangeSpec := { name := "backMore", fn := fun _ => fun
  | [d1, d2] => { results := [.lit (.bool false)], args := [d1, d2] }
  | _ => none }
def BackMoreWrongFalsely : Prop := backMoreRow.holds Try.pinned (OpenSpec.ofChange backMoreWrong)

/- THE SECOND FORM. 'bulk': how many values and letters a reading holds, each counted each time it is reached (what is shared counts as often as it is met; a slice's spare places count too). A statement '..UptoSaid' is the law's where the arguments, and the package variables that the reading takes, are together of bulk at most 1048576: NARROWER than '..Said'. Prove '..Said' where nothing that the law and all that it calls make is longer than what came in: it says more and counts as full. Else prove '..UptoSaid'. A law counts once. -/
mutual
def uptoBulk {H : Type} : DataW H → Nat
  | .lit (.string bytes) => bytes.length + 1
  | .lit _ => 1
  | .nil => 1
  | .ptr d => uptoBulk d + 1
  | .slice elems spare => uptoBulkAll elems + uptoBulkAll spare + 1
  | .agg parts => uptoBulkAll parts + 1
  | .iface _ d => uptoBulk d + 1
  | .map entries => uptoBulkEntries entries + 1
  | .held _ => 1
def uptoBulkAll {H : Type} : List (DataW H) → Nat
  | [] => 0
  | d :: r => uptoBulk d + uptoBulkAll r
def uptoBulkEntries {H : Type} : List (Lit × DataW H) → Nat
  | [] => 0
  | x :: r => uptoBulkEntry x + uptoBulkEntries r
def uptoBulkEntry {H : Type} : Lit × DataW H → Nat
  | (.string bytes, d) => bytes.length + uptoBulk d + 1
  | (_, d) => uptoBulk d + 1
 end
def uptoSmall : (H : Type) → List (DataW H) → Bool := fun _ ds => decide (uptoBulkAll ds ≤ 1048576)
def OpenSpec.upto (s : _root_.Go.ChangeSpec) : _root_.Go.OpenSpec := { _root_.Go.OpenSpec.ofChange s with cond := some uptoSmall }

/-- 'wringerlaw4.BackMarks', WHERE WHAT IT READS IS OF BULK AT MOST 1048576: true; the input reads as it did. -/
def backMarksUptoRow : OpenClaim := { program := "ytdbnmijnjfbibaa", sum := "126c3c9e290962b38d451b301e0eeb54bdc731432605e9143379cb67b93a360b", func := "wringer/wringerlaw4.BackMarks", spec := "backMarks", unfollowed := true, recurses := true, apart := false, narrowed := true }
def BackMarksUptoSaid : Prop := backMarksUptoRow.holds Try.pinned (OpenSpec.upto backMarksSpec)

/-- 'wringerlaw4.BackAll', WHERE WHAT IT READS IS OF BULK AT MOST 1048576: true; the input reads as it did. -/
def backAllUptoRow : OpenClaim := { program := "ytdbnmijnjfbibaa", sum := "126c3c9e290962b38d451b301e0eeb54bdc731432605e9143379cb67b93a360b", func := "wringer/wringerlaw4.BackAll", spec := "backAll", unfollowed := true, recurses := true, apart := false, narrowed := true }
def BackAllUptoSaid : Prop := backAllUptoRow.holds Try.pinned (OpenSpec.upto backAllSpec)

/-- 'wringerlaw4.BackTells', WHERE WHAT IT READS IS OF BULK AT MOST 1048576: true; the input reads as it did. -/
def backTellsUptoRow : OpenClaim := { program := "ytdbnmijnjfbibaa", sum := "126c3c9e290962b38d451b301e0eeb54bdc731432605e9143379cb67b93a360b", func := "wringer/wringerlaw4.BackTells", spec := "backTells", unfollowed := true, recurses := true, apart := false, narrowed := true }
def BackTellsUptoSaid : Prop := backTellsUptoRow.holds Try.pinned (OpenSpec.upto backTellsSpec)

/-- 'wringerlaw4.BackMore', WHERE WHAT IT READS IS OF BULK AT MOST 1048576: true; the input reads as it did. -/
def backMoreUptoRow : OpenClaim := { program := "ytdbnmijnjfbibaa", sum := "126c3c9e290962b38d451b301e0eeb54bdc731432605e9143379cb67b93a360b", func := "wringer/wringerlaw4.BackMore", spec := "backMore", unfollowed := true, recurses := true, apart := false, narrowed := true }
def BackMoreUptoSaid : Prop := backMoreUptoRow.holds Try.pinned (OpenSpec.upto backMoreSpec)

end Rows
end Go.Proofs.Ytdbnmijnjfbibaa
