/-
  No cell of these rows narrows 'for every input' (looked for: loops, veiled, ifaces, maps, wideKeys, modest, calm, conditions, laid).
  DERIVED. THE GIVEN ROWS OF THIS SEAT. 6 by the template 'for every input the law returns true; each argument reads behind the call as it read before'; 0 by the template 'total and deterministic' (their statements: YtcgmofakibfpiaaTotals.lean).
  GIVEN WITH THE SEED: the statements are not yours to turn. If you find one false, say at which input.
  Laid BY PROGRAM, IN A SANDBOX (cutbox-rows.mjs): the forced cells as the released guide's own fill.sh prints them over the translation 455db63ccd2730f0… (all of the seat's roots in one cut). By AI agents, Wed Nov 11 2026. No macro, syntax, notation, axiom, sorry.
-/
import Derived.Test.YtcgmofakibfpiaaChecked
import GoSem.Claim
import GoSem.ClaimJoined
import GoSem.ClaimMapViews
import Derived.JoinedTies
import Derived.KernelRfl
namespace Go.Proofs.Ytcgmofakibfpiaa
/- THE CELL 'sum', in the pinned program and in every row, IS THE sha256 OF THE DUMP (.gsa) THAT YtcgmofakibfpiaaProg.lean LOADS. Nothing in Lean hashes anything: it is a label: what it is worth is what the hold of that sum in a sandbox is worth. -/
noncomputable def Try.pinned : Pinned := { name := "ytcgmofakibfpiaa", sum := "455db63ccd2730f0700b3c88cf8814af52a9f2cfb89614164fb8c49a9af4b64a", checked := Try.checked }
namespace Rows
def none {H : Type} : Left H := { results := [], args := [] }

/-- 'wringerlaw3.BitsPut': WHATEVER THE INPUT: true; the input reads as it did. -/
def bitsPutSpec : ChangeSpec := { name := "bitsPut", fn := fun _ => fun
  | [d1, d2] => { results := [.lit (.bool true)], args := [d1, d2] }
  | _ => none }
def bitsPutRow : OpenClaim := { program := "ytcgmofakibfpiaa", sum := "455db63ccd2730f0700b3c88cf8814af52a9f2cfb89614164fb8c49a9af4b64a", func := "wringer/wringerlaw3.BitsPut", spec := "bitsPut", unfollowed := true, recurses := true, apart := false }
def BitsPutSaid : Prop := bitsPutRow.holds Try.pinned (OpenSpec.ofChange bitsPutSpec)

/-- ITS FALSE NEIGHBOUR: 'it returns false'. Refute it at one input. -/
def bitsPutWrong : ChangeSpec := { name := "bitsPut", fn := fun _ => fun
  | [d1, d2] => { results := [.lit (.bool false)], args := [d1, d2] }
  | _ => none }
def BitsPutWrongFalsely : Prop := bitsPutRow.holds Try.pinned (OpenSpec.ofChange bitsPutWrong)

/-- 'wringerlaw3.BitsOne': WHATEVER THE INPUT: true; the input reads as it did. -/
def bitsOneSpec : ChangeSpec := { name := "bitsOne", fn := fun _ => fun
  | [d1, d2] => { results := [.lit (.bool true)], args := [d1, d2] }
  | _ => none }
def bitsOneRow : OpenClaim := { program := "ytcgmofakibfpiaa", sum := "455db63ccd2730f0700b3c88cf8814af52a9f2cfb89614164fb8c49a9af4b64a", func := "wringer/wringerlaw3.BitsOne", spec := "bitsOne", unfollowed := true, recurses := true, apart := false }
def BitsOneSaid : Prop := bitsOneRow.holds Try.pinned (OpenSpec.ofChange bitsOneSpec)

/-- ITS FALSE NEIGHBOUR: 'it returns false'. Refute it at one input. -/
def bitsOneWrong : ChangeSpec := { name := "bitsOne", fn := fun _ => fun
  | [d1, d2] => { results := [.lit (.bool false)], args := [d1, d2] }
  | _ => none }
def BitsOneWrongFalsely : Prop := bitsOneRow.holds Try.pinned (OpenSpec.ofChange bitsOneWrong)

/-- 'wringerlaw3.BitsGet': WHATEVER THE INPUT: true; the input reads as it did. -/
def bitsGetSpec : ChangeSpec := { name := "bitsGet", fn := fun _ => fun
  | [d1, d2] => { results := [.lit (.bool true)], args := [d1, d2] }
  | _ => none }
def bitsGetRow : OpenClaim := { program := "ytcgmofakibfpiaa", sum := "455db63ccd2730f0700b3c88cf8814af52a9f2cfb89614164fb8c49a9af4b64a", func := "wringer/wringerlaw3.BitsGet", spec := "bitsGet", unfollowed := true, recurses := true, apart := false }
def BitsGetSaid : Prop := bitsGetRow.holds Try.pinned (OpenSpec.ofChange bitsGetSpec)

/-- ITS FALSE NEIGHBOUR: 'it returns false'. Refute it at one input. -/
def bitsGetWrong : ChangeSpec := { name := "bitsGet", fn := fun _ => fun
  | [d1, d2] => { results := [.lit (.bool false)], args := [d1, d2] }
  | _ => none }
def BitsGetWrongFalsely : Prop := bitsGetRow.holds Try.pinned (OpenSpec.ofChange bitsGetWrong)

/-- 'wringerlaw3.BitsBack': WHATEVER THE INPUT: true; the input reads as it did. -/
def bitsBackSpec : ChangeSpec := { name := "bitsBack", fn := fun _ => fun
  | [d1, d2] => { results := [.lit (.bool true)], args := [d1, d2] }
  | _ => none }
def bitsBackRow : OpenClaim := { program := "ytcgmofakibfpiaa", sum := "455db63ccd2730f0700b3c88cf8814af52a9f2cfb89614164fb8c49a9af4b64a", func := "wringer/wringerlaw3.BitsBack", spec := "bitsBack", unfollowed := true, recurses := true, apart := false }
def BitsBackSaid : Prop := bitsBackRow.holds Try.pinned (OpenSpec.ofChange bitsBackSpec)

/-- ITS FALSE NEIGHBOUR: 'it returns false'. Refute it at one input. -/
def bitsBackWrong : ChangeSpec := { name := "bitsBack", fn := fun _ => fun
  | [d1, d2] => { results := [.lit (.bool false)], args := [d1, d2] }
  | _ => none }
def BitsBackWrongFalsely : Prop := bitsBackRow.holds Try.pinned (OpenSpec.ofChange bitsBackWrong)

/-- 'wringerlaw3.BitsMore': WHATEVER THE INPUT: true; the input reads as it did. -/
def bitsMoreSpec : ChangeSpec := { name := "bitsMore", fn := fun _ => fun
  | [d1, d2, d3] => { results := [.lit (.bool true)], args := [d1, d2, d3] }
  | _ => none }
def bitsMoreRow : OpenClaim := { program := "ytcgmofakibfpiaa", sum := "455db63ccd2730f0700b3c88cf8814af52a9f2cfb89614164fb8c49a9af4b64a", func := "wringer/wringerlaw3.BitsMore", spec := "bitsMore", unfollowed := true, recurses := true, apart := false }
def BitsMoreSaid : Prop := bitsMoreRow.holds Try.pinned (OpenSpec.ofChange bitsMoreSpec)

/-- ITS FALSE NEIGHBOUR: 'it returns false'. Refute it at one input. -/
def bitsMoreWrong : ChangeSpec := { name := "bitsMore", fn := fun _ => fun
  | [d1, d2, d3] => { results := [.lit (.bool false)], args := [d1, d2, d3] }
  | _ => none }
def BitsMoreWrongFalsely : Prop := bitsMoreRow.holds Try.pinned (OpenSpec.ofChange bitsMoreWrong)

/-- 'wringerlaw3.BitsBytes': WHATEVER THE INPUT: true; the input reads as it did. -/
def bitsBytesSpec : ChangeSpec := { name := "bitsBytes", fn := fun _ => fun
  | [d1, d2] => { results := [.lit (.bool true)], args := [d1, d2] }
  | _ => none }
def bitsBytesRow : OpenClaim := { program := "ytcgmofakibfpiaa", sum := "455db63ccd2730f0700b3c88cf8814af52a9f2cfb89614164fb8c49a9af4b64a", func := "wringer/wringerlaw3.BitsBytes", spec := "bitsBytes", unfollowed := true, recurses := true, apart := false }
def BitsBytesSaid : Prop := bitsBytesRow.holds Try.pinned (OpenSpec.ofChange bitsBytesSpec)

/-- ITS FALSE NEIGHBOUR: 'it returns false'. Refute it at one input. -/
def bitsBytesWrong : ChangeSpec := { name := "bitsBytes", fn := fun _ => fun
  | [d1, d2] => { results := [.lit (.bool false)], args := [d1, d2] }
  | _ => none }
def BitsBytesWrongFalsely : Prop := bitsBytesRow.holds Try.pinned (OpenSpec.ofChange bitsBytesWrong)

/- THE SECOND FORM. 'bulk': how many values and letters a reading holds, each counted each time it is reached (what is shared counts as often as it is met; a slice's spare places count too). A statement '..UptoSaid' is the law's where the arguments, and the package variables that the reading takes, are together of bulk at most 1048576: NARROWER than '..Said'. Prove '..Said' where nothing that the law and all that it calls make is longer than what came in: it says more and counts as full. Else prove '..UptoSaid'. A law counts once. -/
mutual
def uptoBulk {H : Type} : DataW H → Nat
  | .lit (.string bytes) => bytes.length + 1
  | .lit _ => 1
  | .nil => 1
  | .ptr d => uptoBulk d + 1
  | .slice elems spare => uptoBulkAll elems + uptoBulkAll spare + 1
  | .agg parts => uptoBulkAll parts + 1
  | .iface _ d => uptoBulk d + 1
  | .map entries => uptoBulkEntries entries + 1
  | .held _ => 1
def uptoBulkAll {H : Type} : List (DataW H) → Nat
  | [] => 0
  | d :: r => uptoBulk d + uptoBulkAll r
def uptoBulkEntries {H : Type} : List (Lit × DataW H) → Nat
  | [] => 0
  | x :: r => uptoBulkEntry x + uptoBulkEntries r
def uptoBulkEntry {H : Type} : Lit × DataW H → Nat
  | (.string bytes, d) => bytes.length + uptoBulk d + 1
  | (_, d) => uptoBulk d + 1
 end
def uptoSmall : (H : Type) → List (DataW H) → Bool := fun _ ds => decide (uptoBulkAll ds ≤ 1048576)
def OpenSpec.upto (s : _root_.Go.ChangeSpec) : _root_.Go.OpenSpec := { _root_.Go.OpenSpec.ofChange s with cond := some uptoSmall }

/-- 'wringerlaw3.BitsPut', WHERE WHAT IT READS IS OF BULK AT MOST 1048576: true; the input reads as it did. -/
def bitsPutUptoRow : OpenClaim := { program := "ytcgmofakibfpiaa", sum := "455db63ccd2730f0700b3c88cf8814af52a9f2cfb89614164fb8c49a9af4b64a", func := "wringer/wringerlaw3.BitsPut", spec := "bitsPut", unfollowed := true, recurses := true, apart := false, narrowed := true }
def BitsPutUptoSaid : Prop := bitsPutUptoRow.holds Try.pinned (OpenSpec.upto bitsPutSpec)

/-- 'wringerlaw3.BitsOne', WHERE WHAT IT READS IS OF BULK AT MOST 1048576: true; the input reads as it did. -/
def bitsOneUptoRow : OpenClaim := { program := "ytcgmofakibfpiaa", sum := "455db63ccd2730f0700b3c88cf8814af52a9f2cfb89614164fb8c49a9af4b64a", func := "wringer/wringerlaw3.BitsOne", spec := "bitsOne", unfollowed := true, recurses := true, apart := false, narrowed := true }
def BitsOneUptoSaid : Prop := bitsOneUptoRow.holds Try.pinned (OpenSpec.upto bitsOneSpec)

/-- 'wringerlaw3.BitsGet', WHERE WHAT IT READS IS OF BULK AT MOST 1048576: true; the input reads as it did. -/
def bitsGetUptoRow : OpenClaim := { program := "ytcgmofakibfpiaa", sum := "455db63ccd2730f0700b3c88cf8814af52a9f2cfb89614164fb8c49a9af4b64a", func := "wringer/wringerlaw3.BitsGet", spec := "bitsGet", unfollowed := true, recurses := true, apart := false, narrowed := true }
def BitsGetUptoSaid : Prop := bitsGetUptoRow.holds Try.pinned (OpenSpec.upto bitsGetSpec)

/-- 'wringerlaw3.BitsBack', WHERE WHAT IT READS IS OF BULK AT MOST 1048576: true; the input reads as it did. -/
def bitsBackUptoRow : OpenClaim := { program := "ytcgmofakibfpiaa", sum := "455db63ccd2730f0700b3c88cf8814af52a9f2cfb89614164fb8c49a9af4b64a", func := "wringer/wringerlaw3.BitsBack", spec := "bitsBack", unfollowed := true, recurses := true, apart := false, narrowed := true }
def BitsBackUptoSaid : Prop := bitsBackUptoRow.holds Try.pinned (OpenSpec.upto bitsBackSpec)

/-- 'wringerlaw3.BitsMore', WHERE WHAT IT READS IS OF BULK AT MOST 1048576: true; the input reads as it did. -/
def bitsMoreUptoRow : OpenClaim := { program := "ytcgmofakibfpiaa", sum := "455db63ccd2730f0700b3c88cf8814af52a9f2cfb89614164fb8c49a9af4b64a", func := "wringer/wringerlaw3.BitsMore", spec := "bitsMore", unfollowed := true, recurses := true, apart := false, narrowed := true }
def BitsMoreUptoSaid : Prop := bitsMoreUptoRow.holds Try.pinned (OpenSpec.upto bitsMoreSpec)

/-- 'wringerlaw3.BitsBytes', WHERE WHAT IT READS IS OF BULK AT MOST 1048576: true; the input reads as it did. -/
def bitsBytesUptoRow : OpenClaim := { program := "ytcgmofakibfpiaa", sum := "455db63ccd2730f0700b3c88cf8814af52a9f2cfb89614164fb8c49a9af4b64a", func := "wringer/wringerlaw3.BitsBytes", spec := "bitsBytes", unfollowed := true, recurses := true, apart := false, narrowed := true }
def BitsBytesUptoSaid : Prop := bitsBytesUptoRow.holds Try.pinned (OpenSpec.upto bitsBytesSpec)

end Rows
end Go.Proofs.Ytcgmofakibfpiaa
