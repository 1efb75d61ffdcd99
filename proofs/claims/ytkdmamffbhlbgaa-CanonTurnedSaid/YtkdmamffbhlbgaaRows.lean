/-
  No cell of these rows narrows 'for every input' (looked for: loops, veiled, ifaces, maps, wideKeys, modest, calm, conditions, laid).
  DERIVED. THE GIVEN ROWS OF THIS SEAT. 5 by the template 'for every input the law returns true; each argument reads behind the call as it read before'; 0 by the template 'total and deterministic' (their statements: YtkdmamffbhlbgaaTotals.lean).
  GIVEN WITH THE SEED: the statements are not yours to turn. If you find one false, say at which input.
  Laid BY PROGRAM, IN A SANDBOX (cutbox-rows.mjs): the forced cells as the released guide's own fill.sh prints them over the translation e1fb1edb54e7bd20… (all of the seat's roots in one cut). By AI agents, Wed Nov 11 2026. No macro, syntax, notation, axiom, sorry.
-/
import Derived.Test.YtkdmamffbhlbgaaChecked
import GoSem.Claim
import GoSem.ClaimJoined
import GoSem.ClaimMapViews
import Derived.JoinedTies
import Derived.KernelRfl
namespace Go.Proofs.Ytkdmamffbhlbgaa
/- THE CELL 'sum', in the pinned program and in every row, IS THE sha256 OF THE DUMP (.gsa) THAT YtkdmamffbhlbgaaProg.lean LOADS. Nothing in Lean hashes anything: it is a label: what it is worth is what the hold of that sum in a sandbox is worth. -/
noncomputable def Try.pinned : Pinned := { name := "ytkdmamffbhlbgaa", sum := "e1fb1edb54e7bd20cdbb8d6f5e1d8e92d7b1d38dd1f29f692d0c596177329237", checked := Try.checked }
namespace Rows
def none {H : Type} : Left H := { results := [], args := [] }

/-- 'wringerlaw9.CanonAll': WHATEVER THE INPUT: true; the input reads as it did. -/
def canonAllSpec : ChangeSpec := { name := "canonAll", fn := fun _ => fun
  | [d] => { results := [.lit (.bool true)], args := [d] }
  | _ => none }
def canonAllRow : OpenClaim := { program := "ytkdmamffbhlbgaa", sum := "e1fb1edb54e7bd20cdbb8d6f5e1d8e92d7b1d38dd1f29f692d0c596177329237", func := "wringer/wringerlaw9.CanonAll", spec := "canonAll", unfollowed := true, recurses := true, apart := false }
def CanonAllSaid : Prop := canonAllRow.holds Try.pinned (OpenSpec.ofChange canonAllSpec)

/-- ITS FALSE NEIGHBOUR: 'it returns false'. Refute it at one input. -/
def canonAllWrong : ChangeSpec := { name := "canonAll", fn := fun _ => fun
  | [d] => { results := [.lit (.bool false)], args := [d] }
  | _ => none }
def CanonAllWrongFalsely : Prop := canonAllRow.holds Try.pinned (OpenSpec.ofChange canonAllWrong)

/-- 'wringerlaw9.CanonMade': WHATEVER THE INPUT: true; the input reads as it did. -/
def canonMadeSpec : ChangeSpec := { name := "canonMade", fn := fun _ => fun
  | [d1, d2] => { results := [.lit (.bool true)], args := [d1, d2] }
  | _ => none }
def canonMadeRow : OpenClaim := { program := "ytkdmamffbhlbgaa", sum := "e1fb1edb54e7bd20cdbb8d6f5e1d8e92d7b1d38dd1f29f692d0c596177329237", func := "wringer/wringerlaw9.CanonMade", spec := "canonMade", unfollowed := true, recurses := true, apart := false }
def CanonMadeSaid : Prop := canonMadeRow.holds Try.pinned (OpenSpec.ofChange canonMadeSpec)

/-- ITS FALSE NEIGHBOUR: 'it returns false'. Refute it at one input. -/
def canonMadeWrong : ChangeSpec := { name := "canonMade", fn := fun _ => fun
  | [d1, d2] => { results := [.lit (.bool false)], args := [d1, d2] }
  | _ => none }
def CanonMadeWrongFalsely : Prop := canonMadeRow.holds Try.pinned (OpenSpec.ofChange canonMadeWrong)

/-- 'wringerlaw9.CanonTurned': WHATEVER THE INPUT: true; the input reads as it did. -/
def canonTurnedSpec : ChangeSpec := { name := "canonTurned", fn := fun _ => fun
  | [d1, d2, d3] => { results := [.lit (.bool true)], args := [d1, d2, d3] }
  | _ => none }
def canonTurnedRow : OpenClaim := { program := "ytkdmamffbhlbgaa", sum := "e1fb1edb54e7bd20cdbb8d6f5e1d8e92d7b1d38dd1f29f692d0c596177329237", func := "wringer/wringerlaw9.CanonTurned", spec := "canonTurned", unfollowed := true, recurses := true, apart := false }
def CanonTurnedSaid : Prop := canonTurnedRow.holds Try.pinned (OpenSpec.ofChange canonTurnedSpec)

/-- ITS FALSE NEIGHBOUR: 'it returns false'. Refute it at one input. -/
def canonTurnedWrong : ChangeSpec := { name := "canonTurned", fn := fun _ => fun
  | [d1, d2, d3] => { results := [.lit (.bool false)], args := [d1, d2, d3] }
  | _ => none }
def CanonTurnedWrongFalsely : Prop := canonTurnedRow.holds Try.pinned (OpenSpec.ofChange canonTurnedWrong)

/-- 'wringerlaw9.CanonOrder': WHATEVER THE INPUT: true; the input reads as it did. -/
def canonOrderSpec : ChangeSpec := { name := "canonOrder", fn := fun _ => fun
  | [d] => { results := [.lit (.bool true)], args := [d] }
  | _ => none }
def canonOrderRow : OpenClaim := { program := "ytkdmamffbhlbgaa", sum := "e1fb1edb54e7bd20cdbb8d6f5e1d8e92d7b1d38dd1f29f692d0c596177329237", func := "wringer/wringerlaw9.CanonOrder", spec := "canonOrder", unfollowed := true, recurses := true, apart := false }
def CanonOrderSaid : Prop := canonOrderRow.holds Try.pinned (OpenSpec.ofChange canonOrderSpec)

/-- ITS FALSE NEIGHBOUR: 'it returns false'. Refute it at one input. -/
def canonOrderWrong : ChangeSpec := { name := "canonOrder", fn := fun _ => fun
  | [d] => { results := [.lit (.bool false)], args := [d] }
  | _ => none }
def CanonOrderWrongFalsely : Prop := canonOrderRow.holds Try.pinned (OpenSpec.ofChange canonOrderWrong)

/-- 'wringerlaw9.CanonOne': WHATEVER THE INPUT: true; the input reads as it did. -/
def canonOneSpec : ChangeSpec := { name := "canonOne", fn := fun _ => fun
  | [d1, d2] => { results := [.lit (.bool true)], args := [d1, d2] }
  | _ => none }
def canonOneRow : OpenClaim := { program := "ytkdmamffbhlbgaa", sum := "e1fb1edb54e7bd20cdbb8d6f5e1d8e92d7b1d38dd1f29f692d0c596177329237", func := "wringer/wringerlaw9.CanonOne", spec := "canonOne", unfollowed := true, recurses := true, apart := false }
def CanonOneSaid : Prop := canonOneRow.holds Try.pinned (OpenSpec.ofChange canonOneSpec)

/-- ITS FALSE NEIGHBOUR: 'it returns false'. Refute it at one input. -/
def canonOneWrong : ChangeSpec := { name := "canonOne", fn := fun _ => fun
  | [d1, d2] => { results := [.lit (.bool false)], args := [d1, d2] }
  | _ => none }
def CanonOneWrongFalsely : Prop := canonOneRow.holds Try.pinned (OpenSpec.ofChange canonOneWrong)

/- THE SECOND FORM. 'bulk': how many values and letters a reading holds, each counted each time it is reached (what is shared counts as often as it is met; a slice's spare places count too). A statement '..UptoSaid' is the law's where the arguments, and the package variables that the reading takes, are together of bulk at most 1048576: NARROWER than '..Said'. Prove '..Said' where nothing that the law and all that it calls make is longer than what came in: it says more and counts as full. Else prove '..UptoSaid'. A law counts once. -/
mutual
def uptoBulk {H : Type} : DataW H → Nat
  | .lit (.string bytes) => bytes.length + 1
  | .lit _ => 1
  | .nil => 1
  | .ptr d => uptoBulk d + 1
  | .slice elems spare => uptoBulkAll elems + uptoBulkAll spare + 1
  | .agg parts => uptoBulkAll parts + 1
  | .iface _ d => uptoBulk d + 1
  | .map entries => uptoBulkEntries entries + 1
  | .held _ => 1
def uptoBulkAll {H : Type} : List (DataW H) → Nat
  | [] => 0
  | d :: r => uptoBulk d + uptoBulkAll r
def uptoBulkEntries {H : Type} : List (Lit × DataW H) → Nat
  | [] => 0
  | x :: r => uptoBulkEntry x + uptoBulkEntries r
def uptoBulkEntry {H : Type} : Lit × DataW H → Nat
  | (.string bytes, d) => bytes.length + uptoBulk d + 1
  | (_, d) => uptoBulk d + 1
 end
def uptoSmall : (H : Type) → List (DataW H) → Bool := fun _ ds => decide (uptoBulkAll ds ≤ 1048576)
def OpenSpec.upto (s : _root_.Go.ChangeSpec) : _root_.Go.OpenSpec := { _root_.Go.OpenSpec.ofChange s with cond := some uptoSmall }

/-- 'wringerlaw9.CanonAll', WHERE WHAT IT READS IS OF BULK AT MOST 1048576: true; the input reads as it did. -/
def canonAllUptoRow : OpenClaim := { program := "ytkdmamffbhlbgaa", sum := "e1fb1edb54e7bd20cdbb8d6f5e1d8e92d7b1d38dd1f29f692d0c596177329237", func := "wringer/wringerlaw9.CanonAll", spec := "canonAll", unfollowed := true, recurses := true, apart := false, narrowed := true }
def CanonAllUptoSaid : Prop := canonAllUptoRow.holds Try.pinned (OpenSpec.upto canonAllSpec)

/-- 'wringerlaw9.CanonMade', WHERE WHAT IT READS IS OF BULK AT MOST 1048576: true; the input reads as it did. -/
def canonMadeUptoRow : OpenClaim := { program := "ytkdmamffbhlbgaa", sum := "e1fb1edb54e7bd20cdbb8d6f5e1d8e92d7b1d38dd1f29f692d0c596177329237", func := "wringer/wringerlaw9.CanonMade", spec := "canonMade", unfollowed := true, recurses := true, apart := false, narrowed := true }
def CanonMadeUptoSaid : Prop := canonMadeUptoRow.holds Try.pinned (OpenSpec.upto canonMadeSpec)

/-- 'wringerlaw9.CanonTurned', WHERE WHAT IT READS IS OF BULK AT MOST 1048576: true; the input reads as it did. -/
def canonTurnedUptoRow : OpenClaim := { program := "ytkdmamffbhlbgaa", sum := "e1fb1edb54e7bd20cdbb8d6f5e1d8e92d7b1d38dd1f29f692d0c596177329237", func := "wringer/wringerlaw9.CanonTurned", spec := "canonTurned", unfollowed := true, recurses := true, apart := false, narrowed := true }
def CanonTurnedUptoSaid : Prop := canonTurnedUptoRow.holds Try.pinned (OpenSpec.upto canonTurnedSpec)

/-- 'wringerlaw9.CanonOrder', WHERE WHAT IT READS IS OF BULK AT MOST 1048576: true; the input reads as it did. -/
def canonOrderUptoRow : OpenClaim := { program := "ytkdmamffbhlbgaa", sum := "e1fb1edb54e7bd20cdbb8d6f5e1d8e92d7b1d38dd1f29f692d0c596177329237", func := "wringer/wringerlaw9.CanonOrder", spec := "canonOrder", unfollowed := true, recurses := true, apart := false, narrowed := true }
def CanonOrderUptoSaid : Prop := canonOrderUptoRow.holds Try.pinned (OpenSpec.upto canonOrderSpec)

/-- 'wringerlaw9.CanonOne', WHERE WHAT IT READS IS OF BULK AT MOST 1048576: true; the input reads as it did. -/
def canonOneUptoRow : OpenClaim := { program := "ytkdmamffbhlbgaa", sum := "e1fb1edb54e7bd20cdbb8d6f5e1d8e92d7b1d38dd1f29f692d0c596177329237", func := "wringer/wringerlaw9.CanonOne", spec := "canonOne", unfollowed := true, recurses := true, apart := false, narrowed := true }
def CanonOneUptoSaid : Prop := canonOneUptoRow.holds Try.pinned (OpenSpec.upto canonOneSpec)

end Rows
end Go.Proofs.Ytkdmamffbhlbgaa
