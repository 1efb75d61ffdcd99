/-
  No cell of these rows narrows 'for every input' (looked for: loops, veiled, ifaces, maps, wideKeys, modest, calm, conditions, laid).
  DERIVED. THE GIVEN ROWS OF THIS SEAT. 6 by the template 'for every input the law returns true; each argument reads behind the call as it read before'; 0 by the template 'total and deterministic' (their statements: YtnakjencodicmaaTotals.lean).
  GIVEN WITH THE SEED: the statements are not yours to turn. If you find one false, say at which input.
  Laid BY PROGRAM, IN A SANDBOX (cutbox-rows.mjs): the forced cells as the released guide's own fill.sh prints them over the translation be17988a6dc743e4… (all of the seat's roots in one cut). By AI agents, Wed Nov 11 2026. No macro, syntax, notation, axiom, sorry.
-/
import Derived.Test.YtnakjencodicmaaChecked
import GoSem.Claim
import GoSem.ClaimJoined
import GoSem.ClaimMapViews
import Derived.JoinedTies
import Derived.KernelRfl
namespace Go.Proofs.Ytnakjencodicmaa
/- THE CELL 'sum', in the pinned program and in every row, IS THE sha256 OF THE DUMP (.gsa) THAT YtnakjencodicmaaProg.lean LOADS. Nothing in Lean hashes anything: it is a label: what it is worth is what the hold of that sum in a sandbox is worth. -/
noncomputable def Try.pinned : Pinned := { name := "ytnakjencodicmaa", sum := "be17988a6dc743e4a0646d3cabc45138d9ea59c618cd3a12eb15ac90b5d6b2e7", checked := Try.checked }
namespace Rows
def none {H : Type} : Left H := { results := [], args := [] }

/-- 'wringerlaw11.HuffAll': WHATEVER THE INPUT: true; the input reads as it did. -/
def huffAllSpec : ChangeSpec := { name := "huffAll", fn := fun _ => fun
  | [d1, d2, d3, d4] => { results := [.lit (.bool true)], args := [d1, d2, d3, d4] }
  | _ => none }
def huffAllRow : OpenClaim := { program := "ytnakjencodicmaa", sum := "be17988a6dc743e4a0646d3cabc45138d9ea59c618cd3a12eb15ac90b5d6b2e7", func := "wringer/wringerlaw11.HuffAll", spec := "huffAll", unfollowed := true, recurses := true, plainKeys := false, apart := false }
def HuffAllSaid : Prop := huffAllRow.holds Try.pinned (OpenSpec.ofChange huffAllSpec)

/-- ITS FALSE NEIGHBOUR: 'it returns false'. Refute it at one input. -/
def huffAllWrong : ChangeSpec := { name := "huffAll", fn := fun _ => fun
  | [d1, d2, d3, d4] => { results := [.lit (.bool false)], args := [d1, d2, d3, d4] }
  | _ => none }
def HuffAllWrongFalsely : Prop := huffAllRow.holds Try.pinned (OpenSpec.ofChange huffAllWrong)

/-- 'wringerlaw11.HuffMade': WHATEVER THE INPUT: true; the input reads as it did. -/
def huffMadeSpec : ChangeSpec := { name := "huffMade", fn := fun _ => fun
  | [d1, d2, d3, d4, d5] => { results := [.lit (.bool true)], args := [d1, d2, d3, d4, d5] }
  | _ => none }
def huffMadeRow : OpenClaim := { program := "ytnakjencodicmaa", sum := "be17988a6dc743e4a0646d3cabc45138d9ea59c618cd3a12eb15ac90b5d6b2e7", func := "wringer/wringerlaw11.HuffMade", spec := "huffMade", unfollowed := true, recurses := true, plainKeys := false, apart := false }
def HuffMadeSaid : Prop := huffMadeRow.holds Try.pinned (OpenSpec.ofChange huffMadeSpec)

/-- ITS FALSE NEIGHBOUR: 'it returns false'. Refute it at one input. -/
def huffMadeWrong : ChangeSpec := { name := "huffMade", fn := fun _ => fun
  | [d1, d2, d3, d4, d5] => { results := [.lit (.bool false)], args := [d1, d2, d3, d4, d5] }
  | _ => none }
def HuffMadeWrongFalsely : Prop := huffMadeRow.holds Try.pinned (OpenSpec.ofChange huffMadeWrong)

/-- 'wringerlaw11.HuffBack': WHATEVER THE INPUT: true; the input reads as it did. -/
def huffBackSpec : ChangeSpec := { name := "huffBack", fn := fun _ => fun
  | [d1, d2, d3] => { results := [.lit (.bool true)], args := [d1, d2, d3] }
  | _ => none }
def huffBackRow : OpenClaim := { program := "ytnakjencodicmaa", sum := "be17988a6dc743e4a0646d3cabc45138d9ea59c618cd3a12eb15ac90b5d6b2e7", func := "wringer/wringerlaw11.HuffBack", spec := "huffBack", unfollowed := true, recurses := true, plainKeys := false, apart := false }
def HuffBackSaid : Prop := huffBackRow.holds Try.pinned (OpenSpec.ofChange huffBackSpec)

/-- ITS FALSE NEIGHBOUR: 'it returns false'. Refute it at one input. -/
def huffBackWrong : ChangeSpec := { name := "huffBack", fn := fun _ => fun
  | [d1, d2, d3] => { results := [.lit (.bool false)], args := [d1, d2, d3] }
  | _ => none }
def HuffBackWrongFalsely : Prop := huffBackRow.holds Try.pinned (OpenSpec.ofChange huffBackWrong)

/-- 'wringerlaw11.HuffKnown': WHATEVER THE INPUT: true; the input reads as it did. -/
def huffKnownSpec : ChangeSpec := { name := "huffKnown", fn := fun _ => fun
  | [d] => { results := [.lit (.bool true)], args := [d] }
  | _ => none }
def huffKnownRow : OpenClaim := { program := "ytnakjencodicmaa", sum := "be17988a6dc743e4a0646d3cabc45138d9ea59c618cd3a12eb15ac90b5d6b2e7", func := "wringer/wringerlaw11.HuffKnown", spec := "huffKnown", unfollowed := true, recurses := true, plainKeys := false, apart := false }
def HuffKnownSaid : Prop := huffKnownRow.holds Try.pinned (OpenSpec.ofChange huffKnownSpec)

/-- ITS FALSE NEIGHBOUR: 'it returns false'. Refute it at one input. -/
def huffKnownWrong : ChangeSpec := { name := "huffKnown", fn := fun _ => fun
  | [d] => { results := [.lit (.bool false)], args := [d] }
  | _ => none }
def HuffKnownWrongFalsely : Prop := huffKnownRow.holds Try.pinned (OpenSpec.ofChange huffKnownWrong)

/-- 'wringerlaw11.HuffCut': WHATEVER THE INPUT: true; the input reads as it did. -/
def huffCutSpec : ChangeSpec := { name := "huffCut", fn := fun _ => fun
  | [d1, d2, d3] => { results := [.lit (.bool true)], args := [d1, d2, d3] }
  | _ => none }
def huffCutRow : OpenClaim := { program := "ytnakjencodicmaa", sum := "be17988a6dc743e4a0646d3cabc45138d9ea59c618cd3a12eb15ac90b5d6b2e7", func := "wringer/wringerlaw11.HuffCut", spec := "huffCut", unfollowed := true, recurses := true, plainKeys := false, apart := false }
def HuffCutSaid : Prop := huffCutRow.holds Try.pinned (OpenSpec.ofChange huffCutSpec)

/-- ITS FALSE NEIGHBOUR: 'it returns false'. Refute it at one input. -/
def huffCutWrong : ChangeSpec := { name := "huffCut", fn := fun _ => fun
  | [d1, d2, d3] => { results := [.lit (.bool false)], args := [d1, d2, d3] }
  | _ => none }
def HuffCutWrongFalsely : Prop := huffCutRow.holds Try.pinned (OpenSpec.ofChange huffCutWrong)

/-- 'wringerlaw11.HuffRefuses': WHATEVER THE INPUT: true; the input reads as it did. -/
def huffRefusesSpec : ChangeSpec := { name := "huffRefuses", fn := fun _ => fun
  | [d1, d2, d3] => { results := [.lit (.bool true)], args := [d1, d2, d3] }
  | _ => none }
def huffRefusesRow : OpenClaim := { program := "ytnakjencodicmaa", sum := "be17988a6dc743e4a0646d3cabc45138d9ea59c618cd3a12eb15ac90b5d6b2e7", func := "wringer/wringerlaw11.HuffRefuses", spec := "huffRefuses", unfollowed := true, recurses := true, plainKeys := false, apart := false }
def HuffRefusesSaid : Prop := huffRefusesRow.holds Try.pinned (OpenSpec.ofChange huffRefusesSpec)

/-- ITS FALSE NEIGHBOUR: 'it returns false'. Refute it at one input. -/
def huffRefusesWrong : ChangeSpec := { name := "huffRefuses", fn := fun _ => fun
  | [d1, d2, d3] => { results := [.lit (.bool false)], args := [d1, d2, d3] }
  | _ => none }
def HuffRefusesWrongFalsely : Prop := huffRefusesRow.holds Try.pinned (OpenSpec.ofChange huffRefusesWrong)

/- THE SECOND FORM. 'bulk': how many values and letters a reading holds, each counted each time it is reached (what is shared counts as often as it is met; a slice's spare places count too). A statement '..UptoSaid' is the law's where the arguments, and the package variables that the reading takes, are together of bulk at most 1048576: NARROWER than '..Said'. Prove '..Said' where nothing that the law and all that it calls make is longer than what came in: it says more and counts as full. Else prove '..UptoSaid'. A law counts once. -/
mutual
def uptoBulk {H : Type} : DataW H → Nat
  | .lit (.string bytes) => bytes.length + 1
  | .lit _ => 1
  | .nil => 1
  | .ptr d => uptoBulk d + 1
  | .slice elems spare => uptoBulkAll elems + uptoBulkAll spare + 1
  | .agg parts => uptoBulkAll parts + 1
  | .iface _ d => uptoBulk d + 1
  | .map entries => uptoBulkEntries entries + 1
  | .held _ => 1
def uptoBulkAll {H : Type} : List (DataW H) → Nat
  | [] => 0
  | d :: r => uptoBulk d + uptoBulkAll r
def uptoBulkEntries {H : Type} : List (Lit × DataW H) → Nat
  | [] => 0
  | x :: r => uptoBulkEntry x + uptoBulkEntries r
def uptoBulkEntry {H : Type} : Lit × DataW H → Nat
  | (.string bytes, d) => bytes.length + uptoBulk d + 1
  | (_, d) => uptoBulk d + 1
 end
def uptoSmall : (H : Type) → List (DataW H) → Bool := fun _ ds => decide (uptoBulkAll ds ≤ 1048576)
def OpenSpec.upto (s : _root_.Go.ChangeSpec) : _root_.Go.OpenSpec := { _root_.Go.OpenSpec.ofChange s with cond := some uptoSmall }

/-- 'wringerlaw11.HuffAll', WHERE WHAT IT READS IS OF BULK AT MOST 1048576: true; the input reads as it did. -/
def huffAllUptoRow : OpenClaim := { program := "ytnakjencodicmaa", sum := "be17988a6dc743e4a0646d3cabc45138d9ea59c618cd3a12eb15ac90b5d6b2e7", func := "wringer/wringerlaw11.HuffAll", spec := "huffAll", unfollowed := true, recurses := true, plainKeys := false, apart := false, narrowed := true }
def HuffAllUptoSaid : Prop := huffAllUptoRow.holds Try.pinned (OpenSpec.upto huffAllSpec)

/-- 'wringerlaw11.HuffMade', WHERE WHAT IT READS IS OF BULK AT MOST 1048576: true; the input reads as it did. -/
def huffMadeUptoRow : OpenClaim := { program := "ytnakjencodicmaa", sum := "be17988a6dc743e4a0646d3cabc45138d9ea59c618cd3a12eb15ac90b5d6b2e7", func := "wringer/wringerlaw11.HuffMade", spec := "huffMade", unfollowed := true, recurses := true, plainKeys := false, apart := false, narrowed := true }
def HuffMadeUptoSaid : Prop := huffMadeUptoRow.holds Try.pinned (OpenSpec.upto huffMadeSpec)

/-- 'wringerlaw11.HuffBack', WHERE WHAT IT READS IS OF BULK AT MOST 1048576: true; the input reads as it did. -/
def huffBackUptoRow : OpenClaim := { program := "ytnakjencodicmaa", sum := "be17988a6dc743e4a0646d3cabc45138d9ea59c618cd3a12eb15ac90b5d6b2e7", func := "wringer/wringerlaw11.HuffBack", spec := "huffBack", unfollowed := true, recurses := true, plainKeys := false, apart := false, narrowed := true }
def HuffBackUptoSaid : Prop := huffBackUptoRow.holds Try.pinned (OpenSpec.upto huffBackSpec)

/-- 'wringerlaw11.HuffKnown', WHERE WHAT IT READS IS OF BULK AT MOST 1048576: true; the input reads as it did. -/
def huffKnownUptoRow : OpenClaim := { program := "ytnakjencodicmaa", sum := "be17988a6dc743e4a0646d3cabc45138d9ea59c618cd3a12eb15ac90b5d6b2e7", func := "wringer/wringerlaw11.HuffKnown", spec := "huffKnown", unfollowed := true, recurses := true, plainKeys := false, apart := false, narrowed := true }
def HuffKnownUptoSaid : Prop := huffKnownUptoRow.holds Try.pinned (OpenSpec.upto huffKnownSpec)

/-- 'wringerlaw11.HuffCut', WHERE WHAT IT READS IS OF BULK AT MOST 1048576: true; the input reads as it did. -/
def huffCutUptoRow : OpenClaim := { program := "ytnakjencodicmaa", sum := "be17988a6dc743e4a0646d3cabc45138d9ea59c618cd3a12eb15ac90b5d6b2e7", func := "wringer/wringerlaw11.HuffCut", spec := "huffCut", unfollowed := true, recurses := true, plainKeys := false, apart := false, narrowed := true }
def HuffCutUptoSaid : Prop := huffCutUptoRow.holds Try.pinned (OpenSpec.upto huffCutSpec)

/-- 'wringerlaw11.HuffRefuses', WHERE WHAT IT READS IS OF BULK AT MOST 1048576: true; the input reads as it did. -/
def huffRefusesUptoRow : OpenClaim := { program := "ytnakjencodicmaa", sum := "be17988a6dc743e4a0646d3cabc45138d9ea59c618cd3a12eb15ac90b5d6b2e7", func := "wringer/wringerlaw11.HuffRefuses", spec := "huffRefuses", unfollowed := true, recurses := true, plainKeys := false, apart := false, narrowed := true }
def HuffRefusesUptoSaid : Prop := huffRefusesUptoRow.holds Try.pinned (OpenSpec.upto huffRefusesSpec)

end Rows
end Go.Proofs.Ytnakjencodicmaa
