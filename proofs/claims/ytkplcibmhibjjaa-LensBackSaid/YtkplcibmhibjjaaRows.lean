/-
  No cell of these rows narrows 'for every input' (looked for: loops, veiled, ifaces, maps, wideKeys, modest, calm, conditions, laid).
  DERIVED. THE GIVEN ROWS OF THIS SEAT. 4 by the template 'for every input the law returns true; each argument reads behind the call as it read before'; 0 by the template 'total and deterministic' (their statements: YtkplcibmhibjjaaTotals.lean).
  GIVEN WITH THE SEED: the statements are not yours to turn. If you find one false, say at which input.
  Laid BY PROGRAM, IN A SANDBOX (cutbox-rows.mjs): the forced cells as the released guide's own fill.sh prints them over the translation f7a0855e0f29b2db… (all of the seat's roots in one cut). By AI agents, Wed Nov 11 2026. No macro, syntax, notation, axiom, sorry.
-/
import Derived.Test.YtkplcibmhibjjaaChecked
import GoSem.Claim
import GoSem.ClaimJoined
import GoSem.ClaimMapViews
import Derived.JoinedTies
import Derived.KernelRfl
namespace Go.Proofs.Ytkplcibmhibjjaa
/- THE CELL 'sum', in the pinned program and in every row, IS THE sha256 OF THE DUMP (.gsa) THAT YtkplcibmhibjjaaProg.lean LOADS. Nothing in Lean hashes anything: it is a label: what it is worth is what the hold of that sum in a sandbox is worth. -/
noncomputable def Try.pinned : Pinned := { name := "ytkplcibmhibjjaa", sum := "f7a0855e0f29b2db71100df9fb8d6e1686701cc972dbe1336e8a26ea2ce02860", checked := Try.checked }
namespace Rows
def none {H : Type} : Left H := { results := [], args := [] }

/-- 'wringerlaw10.LensAll': WHATEVER THE INPUT: true; the input reads as it did. -/
def lensAllSpec : ChangeSpec := { name := "lensAll", fn := fun _ => fun
  | [d1, d2, d3] => { results := [.lit (.bool true)], args := [d1, d2, d3] }
  | _ => none }
def lensAllRow : OpenClaim := { program := "ytkplcibmhibjjaa", sum := "f7a0855e0f29b2db71100df9fb8d6e1686701cc972dbe1336e8a26ea2ce02860", func := "wringer/wringerlaw10.LensAll", spec := "lensAll", unfollowed := true, recurses := true, apart := false }
def LensAllSaid : Prop := lensAllRow.holds Try.pinned (OpenSpec.ofChange lensAllSpec)

/-- ITS FALSE NEIGHBOUR: 'it returns false'. Refute it at one input. -/
def lensAllWrong : ChangeSpec := { name := "lensAll", fn := fun _ => fun
  | [d1, d2, d3] => { results := [.lit (.bool false)], args := [d1, d2, d3] }
  | _ => none }
def LensAllWrongFalsely : Prop := lensAllRow.holds Try.pinned (OpenSpec.ofChange lensAllWrong)

/-- 'wringerlaw10.LensBack': WHATEVER THE INPUT: true; the input reads as it did. -/
def lensBackSpec : ChangeSpec := { name := "lensBack", fn := fun _ => fun
  | [d1, d2, d3, d4, d5, d6, d7] => { results := [.lit (.bool true)], args := [d1, d2, d3, d4, d5, d6, d7] }
  | _ => none }
def lensBackRow : OpenClaim := { program := "ytkplcibmhibjjaa", sum := "f7a0855e0f29b2db71100df9fb8d6e1686701cc972dbe1336e8a26ea2ce02860", func := "wringer/wringerlaw10.LensBack", spec := "lensBack", unfollowed := true, recurses := true, apart := false }
def LensBackSaid : Prop := lensBackRow.holds Try.pinned (OpenSpec.ofChange lensBackSpec)

/-- ITS FALSE NEIGHBOUR: 'it returns false'. Refute it at one input. -/
def lensBackWrong : ChangeSpec := { name := "lensBack", fn := fun _ => fun
  | [d1, d2, d3, d4, d5, d6, d7] => { results := [.lit (.bool false)], args := [d1, d2, d3, d4, d5, d6, d7] }
  | _ => none }
def LensBackWrongFalsely : Prop := lensBackRow.holds Try.pinned (OpenSpec.ofChange lensBackWrong)

/-- 'wringerlaw10.LensRuns': WHATEVER THE INPUT: true; the input reads as it did. -/
def lensRunsSpec : ChangeSpec := { name := "lensRuns", fn := fun _ => fun
  | [d] => { results := [.lit (.bool true)], args := [d] }
  | _ => none }
def lensRunsRow : OpenClaim := { program := "ytkplcibmhibjjaa", sum := "f7a0855e0f29b2db71100df9fb8d6e1686701cc972dbe1336e8a26ea2ce02860", func := "wringer/wringerlaw10.LensRuns", spec := "lensRuns", unfollowed := true, recurses := true, apart := false }
def LensRunsSaid : Prop := lensRunsRow.holds Try.pinned (OpenSpec.ofChange lensRunsSpec)

/-- ITS FALSE NEIGHBOUR: 'it returns false'. Refute it at one input. -/
def lensRunsWrong : ChangeSpec := { name := "lensRuns", fn := fun _ => fun
  | [d] => { results := [.lit (.bool false)], args := [d] }
  | _ => none }
def LensRunsWrongFalsely : Prop := lensRunsRow.holds Try.pinned (OpenSpec.ofChange lensRunsWrong)

/-- 'wringerlaw10.LensRefuses': WHATEVER THE INPUT: true; the input reads as it did. -/
def lensRefusesSpec : ChangeSpec := { name := "lensRefuses", fn := fun _ => fun
  | [d1, d2] => { results := [.lit (.bool true)], args := [d1, d2] }
  | _ => none }
def lensRefusesRow : OpenClaim := { program := "ytkplcibmhibjjaa", sum := "f7a0855e0f29b2db71100df9fb8d6e1686701cc972dbe1336e8a26ea2ce02860", func := "wringer/wringerlaw10.LensRefuses", spec := "lensRefuses", unfollowed := true, recurses := true, apart := false }
def LensRefusesSaid : Prop := lensRefusesRow.holds Try.pinned (OpenSpec.ofChange lensRefusesSpec)

/-- ITS FALSE NEIGHBOUR: 'it returns false'. Refute it at one input. -/
def lensRefusesWrong : ChangeSpec := { name := "lensRefuses", fn := fun _ => fun
  | [d1, d2] => { results := [.lit (.bool false)], args := [d1, d2] }
  | _ => none }
def LensRefusesWrongFalsely : Prop := lensRefusesRow.holds Try.pinned (OpenSpec.ofChange lensRefusesWrong)

/- THE SECOND FORM. 'bulk': how many values and letters a reading holds, each counted each time it is reached (what is shared counts as often as it is met; a slice's spare places count too). A statement '..UptoSaid' is the law's where the arguments, and the package variables that the reading takes, are together of bulk at most 1048576: NARROWER than '..Said'. Prove '..Said' where nothing that the law and all that it calls make is longer than what came in: it says more and counts as full. Else prove '..UptoSaid'. A law counts once. -/
mutual
def uptoBulk {H : Type} : DataW H → Nat
  | .lit (.string bytes) => bytes.length + 1
  | .lit _ => 1
  | .nil => 1
  | .ptr d => uptoBulk d + 1
  | .slice elems spare => uptoBulkAll elems + uptoBulkAll spare + 1
  | .agg parts => uptoBulkAll parts + 1
  | .iface _ d => uptoBulk d + 1
  | .map entries => uptoBulkEntries entries + 1
  | .held _ => 1
def uptoBulkAll {H : Type} : List (DataW H) → Nat
  | [] => 0
  | d :: r => uptoBulk d + uptoBulkAll r
def uptoBulkEntries {H : Type} : List (Lit × DataW H) → Nat
  | [] => 0
  | x :: r => uptoBulkEntry x + uptoBulkEntries r
def uptoBulkEntry {H : Type} : Lit × DataW H → Nat
  | (.string bytes, d) => bytes.length + uptoBulk d + 1
  | (_, d) => uptoBulk d + 1
 end
def uptoSmall : (H : Type) → List (DataW H) → Bool := fun _ ds => decide (uptoBulkAll ds ≤ 1048576)
def OpenSpec.upto (s : _root_.Go.ChangeSpec) : _root_.Go.OpenSpec := { _root_.Go.OpenSpec.ofChange s with cond := some uptoSmall }

/-- 'wringerlaw10.LensAll', WHERE WHAT IT READS IS OF BULK AT MOST 1048576: true; the input reads as it did. -/
def lensAllUptoRow : OpenClaim := { program := "ytkplcibmhibjjaa", sum := "f7a0855e0f29b2db71100df9fb8d6e1686701cc972dbe1336e8a26ea2ce02860", func := "wringer/wringerlaw10.LensAll", spec := "lensAll", unfollowed := true, recurses := true, apart := false, narrowed := true }
def LensAllUptoSaid : Prop := lensAllUptoRow.holds Try.pinned (OpenSpec.upto lensAllSpec)

/-- 'wringerlaw10.LensBack', WHERE WHAT IT READS IS OF BULK AT MOST 1048576: true; the input reads as it did. -/
def lensBackUptoRow : OpenClaim := { program := "ytkplcibmhibjjaa", sum := "f7a0855e0f29b2db71100df9fb8d6e1686701cc972dbe1336e8a26ea2ce02860", func := "wringer/wringerlaw10.LensBack", spec := "lensBack", unfollowed := true, recurses := true, apart := false, narrowed := true }
def LensBackUptoSaid : Prop := lensBackUptoRow.holds Try.pinned (OpenSpec.upto lensBackSpec)

/-- 'wringerlaw10.LensRuns', WHERE WHAT IT READS IS OF BULK AT MOST 1048576: true; the input reads as it did. -/
def lensRunsUptoRow : OpenClaim := { program := "ytkplcibmhibjjaa", sum := "f7a0855e0f29b2db71100df9fb8d6e1686701cc972dbe1336e8a26ea2ce02860", func := "wringer/wringerlaw10.LensRuns", spec := "lensRuns", unfollowed := true, recurses := true, apart := false, narrowed := true }
def LensRunsUptoSaid : Prop := lensRunsUptoRow.holds Try.pinned (OpenSpec.upto lensRunsSpec)

/-- 'wringerlaw10.LensRefuses', WHERE WHAT IT READS IS OF BULK AT MOST 1048576: true; the input reads as it did. -/
def lensRefusesUptoRow : OpenClaim := { program := "ytkplcibmhibjjaa", sum := "f7a0855e0f29b2db71100df9fb8d6e1686701cc972dbe1336e8a26ea2ce02860", func := "wringer/wringerlaw10.LensRefuses", spec := "lensRefuses", unfollowed := true, recurses := true, apart := false, narrowed := true }
def LensRefusesUptoSaid : Prop := lensRefusesUptoRow.holds Try.pinned (OpenSpec.upto lensRefusesSpec)

end Rows
end Go.Proofs.Ytkplcibmhibjjaa
