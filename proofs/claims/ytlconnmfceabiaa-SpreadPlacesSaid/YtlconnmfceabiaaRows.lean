/-
  No cell of these rows narrows 'for every input' (looked for: loops, veiled, ifaces, maps, wideKeys, modest, calm, conditions, laid).
  DERIVED. THE GIVEN ROWS OF THIS SEAT. 5 by the template 'for every input the law returns true; each argument reads behind the call as it read before'; 0 by the template 'total and deterministic' (their statements: YtlconnmfceabiaaTotals.lean).
  GIVEN WITH THE SEED: the statements are not yours to turn. If you find one false, say at which input.
  Laid BY PROGRAM, IN A SANDBOX (cutbox-rows.mjs): the forced cells as the released guide's own fill.sh prints them over the translation f08eda694b8958c6… (all of the seat's roots in one cut). By AI agents, Wed Nov 11 2026. No macro, syntax, notation, axiom, sorry.
-/
import Derived.Test.YtlconnmfceabiaaChecked
import GoSem.Claim
import GoSem.ClaimJoined
import GoSem.ClaimMapViews
import Derived.JoinedTies
import Derived.KernelRfl
namespace Go.Proofs.Ytlconnmfceabiaa
/- THE CELL 'sum', in the pinned program and in every row, IS THE sha256 OF THE DUMP (.gsa) THAT YtlconnmfceabiaaProg.lean LOADS. Nothing in Lean hashes anything: it is a label: what it is worth is what the hold of that sum in a sandbox is worth. -/
noncomputable def Try.pinned : Pinned := { name := "ytlconnmfceabiaa", sum := "f08eda694b8958c66c16d9d0f6e1d89603f27e7498f5038cf2dc05eca95677f5", checked := Try.checked }
namespace Rows
def none {H : Type} : Left H := { results := [], args := [] }

/-- 'wringerlaw13.SpreadAll': WHATEVER THE INPUT: true; the input reads as it did. -/
def spreadAllSpec : ChangeSpec := { name := "spreadAll", fn := fun _ => fun
  | [d1, d2] => { results := [.lit (.bool true)], args := [d1, d2] }
  | _ => none }
def spreadAllRow : OpenClaim := { program := "ytlconnmfceabiaa", sum := "f08eda694b8958c66c16d9d0f6e1d89603f27e7498f5038cf2dc05eca95677f5", func := "wringer/wringerlaw13.SpreadAll", spec := "spreadAll", unfollowed := true, recurses := true, apart := false }
def SpreadAllSaid : Prop := spreadAllRow.holds Try.pinned (OpenSpec.ofChange spreadAllSpec)

/-- ITS FALSE NEIGHBOUR: 'it returns false'. Refute it at one input. -/
def spreadAllWrong : ChangeSpec := { name := "spreadAll", fn := fun _ => fun
  | [d1, d2] => { results := [.lit (.bool false)], args := [d1, d2] }
  | _ => none }
def SpreadAllWrongFalsely : Prop := spreadAllRow.holds Try.pinned (OpenSpec.ofChange spreadAllWrong)

/-- 'wringerlaw13.SpreadMade': WHATEVER THE INPUT: true; the input reads as it did. -/
def spreadMadeSpec : ChangeSpec := { name := "spreadMade", fn := fun _ => fun
  | [d1, d2] => { results := [.lit (.bool true)], args := [d1, d2] }
  | _ => none }
def spreadMadeRow : OpenClaim := { program := "ytlconnmfceabiaa", sum := "f08eda694b8958c66c16d9d0f6e1d89603f27e7498f5038cf2dc05eca95677f5", func := "wringer/wringerlaw13.SpreadMade", spec := "spreadMade", unfollowed := true, recurses := true, apart := false }
def SpreadMadeSaid : Prop := spreadMadeRow.holds Try.pinned (OpenSpec.ofChange spreadMadeSpec)

/-- ITS FALSE NEIGHBOUR: 'it returns false'. Refute it at one input. -/
def spreadMadeWrong : ChangeSpec := { name := "spreadMade", fn := fun _ => fun
  | [d1, d2] => { results := [.lit (.bool false)], args := [d1, d2] }
  | _ => none }
def SpreadMadeWrongFalsely : Prop := spreadMadeRow.holds Try.pinned (OpenSpec.ofChange spreadMadeWrong)

/-- 'wringerlaw13.SpreadPlaces': WHATEVER THE INPUT: true; the input reads as it did. -/
def spreadPlacesSpec : ChangeSpec := { name := "spreadPlaces", fn := fun _ => fun
  | [d1, d2, d3] => { results := [.lit (.bool true)], args := [d1, d2, d3] }
  | _ => none }
def spreadPlacesRow : OpenClaim := { program := "ytlconnmfceabiaa", sum := "f08eda694b8958c66c16d9d0f6e1d89603f27e7498f5038cf2dc05eca95677f5", func := "wringer/wringerlaw13.SpreadPlaces", spec := "spreadPlaces", unfollowed := true, recurses := true, apart := false }
def SpreadPlacesSaid : Prop := spreadPlacesRow.holds Try.pinned (OpenSpec.ofChange spreadPlacesSpec)

/-- ITS FALSE NEIGHBOUR: 'it returns false'. Refute it at one input. -/
def spreadPlacesWrong : ChangeSpec := { name := "spreadPlaces", fn := fun _ => fun
  | [d1, d2, d3] => { results := [.lit (.bool false)], args := [d1, d2, d3] }
  | _ => none }
def SpreadPlacesWrongFalsely : Prop := spreadPlacesRow.holds Try.pinned (OpenSpec.ofChange spreadPlacesWrong)

/-- 'wringerlaw13.SpreadRefuses': WHATEVER THE INPUT: true; the input reads as it did. -/
def spreadRefusesSpec : ChangeSpec := { name := "spreadRefuses", fn := fun _ => fun
  | [d1, d2, d3] => { results := [.lit (.bool true)], args := [d1, d2, d3] }
  | _ => none }
def spreadRefusesRow : OpenClaim := { program := "ytlconnmfceabiaa", sum := "f08eda694b8958c66c16d9d0f6e1d89603f27e7498f5038cf2dc05eca95677f5", func := "wringer/wringerlaw13.SpreadRefuses", spec := "spreadRefuses", unfollowed := true, recurses := true, apart := false }
def SpreadRefusesSaid : Prop := spreadRefusesRow.holds Try.pinned (OpenSpec.ofChange spreadRefusesSpec)

/-- ITS FALSE NEIGHBOUR: 'it returns false'. Refute it at one input. -/
def spreadRefusesWrong : ChangeSpec := { name := "spreadRefuses", fn := fun _ => fun
  | [d1, d2, d3] => { results := [.lit (.bool false)], args := [d1, d2, d3] }
  | _ => none }
def SpreadRefusesWrongFalsely : Prop := spreadRefusesRow.holds Try.pinned (OpenSpec.ofChange spreadRefusesWrong)

/-- 'wringerlaw13.SpreadSteps': WHATEVER THE INPUT: true; the input reads as it did. -/
def spreadStepsSpec : ChangeSpec := { name := "spreadSteps", fn := fun _ => fun
  | [d1, d2] => { results := [.lit (.bool true)], args := [d1, d2] }
  | _ => none }
def spreadStepsRow : OpenClaim := { program := "ytlconnmfceabiaa", sum := "f08eda694b8958c66c16d9d0f6e1d89603f27e7498f5038cf2dc05eca95677f5", func := "wringer/wringerlaw13.SpreadSteps", spec := "spreadSteps", unfollowed := true, recurses := true, apart := false }
def SpreadStepsSaid : Prop := spreadStepsRow.holds Try.pinned (OpenSpec.ofChange spreadStepsSpec)

/-- ITS FALSE NEIGHBOUR: 'it returns false'. Refute it at one input. -/
def spreadStepsWrong : ChangeSpec := { name := "spreadSteps", fn := fun _ => fun
  | [d1, d2] => { results := [.lit (.bool false)], args := [d1, d2] }
  | _ => none }
def SpreadStepsWrongFalsely : Prop := spreadStepsRow.holds Try.pinned (OpenSpec.ofChange spreadStepsWrong)

/- THE SECOND FORM. 'bulk': how many values and letters a reading holds, each counted each time it is reached (what is shared counts as often as it is met; a slice's spare places count too). A statement '..UptoSaid' is the law's where the arguments, and the package variables that the reading takes, are together of bulk at most 1048576: NARROWER than '..Said'. Prove '..Said' where nothing that the law and all that it calls make is longer than what came in: it says more and counts as full. Else prove '..UptoSaid'. A law counts once. -/
mutual
def uptoBulk {H : Type} : DataW H → Nat
  | .lit (.string bytes) => bytes.length + 1
  | .lit _ => 1
  | .nil => 1
  | .ptr d => uptoBulk d + 1
  | .slice elems spare => uptoBulkAll elems + uptoBulkAll spare + 1
  | .agg parts => uptoBulkAll parts + 1
  | .iface _ d => uptoBulk d + 1
  | .map entries => uptoBulkEntries entries + 1
  | .held _ => 1
def uptoBulkAll {H : Type} : List (DataW H) → Nat
  | [] => 0
  | d :: r => uptoBulk d + uptoBulkAll r
def uptoBulkEntries {H : Type} : List (Lit × DataW H) → Nat
  | [] => 0
  | x :: r => uptoBulkEntry x + uptoBulkEntries r
def uptoBulkEntry {H : Type} : Lit × DataW H → Nat
  | (.string bytes, d) => bytes.length + uptoBulk d + 1
  | (_, d) => uptoBulk d + 1
 end
def uptoSmall : (H : Type) → List (DataW H) → Bool := fun _ ds => decide (uptoBulkAll ds ≤ 1048576)
def OpenSpec.upto (s : _root_.Go.ChangeSpec) : _root_.Go.OpenSpec := { _root_.Go.OpenSpec.ofChange s with cond := some uptoSmall }

/-- 'wringerlaw13.SpreadAll', WHERE WHAT IT READS IS OF BULK AT MOST 1048576: true; the input reads as it did. -/
def spreadAllUptoRow : OpenClaim := { program := "ytlconnmfceabiaa", sum := "f08eda694b8958c66c16d9d0f6e1d89603f27e7498f5038cf2dc05eca95677f5", func := "wringer/wringerlaw13.SpreadAll", spec := "spreadAll", unfollowed := true, recurses := true, apart := false, narrowed := true }
def SpreadAllUptoSaid : Prop := spreadAllUptoRow.holds Try.pinned (OpenSpec.upto spreadAllSpec)

/-- 'wringerlaw13.SpreadMade', WHERE WHAT IT READS IS OF BULK AT MOST 1048576: true; the input reads as it did. -/
def spreadMadeUptoRow : OpenClaim := { program := "ytlconnmfceabiaa", sum := "f08eda694b8958c66c16d9d0f6e1d89603f27e7498f5038cf2dc05eca95677f5", func := "wringer/wringerlaw13.SpreadMade", spec := "spreadMade", unfollowed := true, recurses := true, apart := false, narrowed := true }
def SpreadMadeUptoSaid : Prop := spreadMadeUptoRow.holds Try.pinned (OpenSpec.upto spreadMadeSpec)

/-- 'wringerlaw13.SpreadPlaces', WHERE WHAT IT READS IS OF BULK AT MOST 1048576: true; the input reads as it did. -/
def spreadPlacesUptoRow : OpenClaim := { program := "ytlconnmfceabiaa", sum := "f08eda694b8958c66c16d9d0f6e1d89603f27e7498f5038cf2dc05eca95677f5", func := "wringer/wringerlaw13.SpreadPlaces", spec := "spreadPlaces", unfollowed := true, recurses := true, apart := false, narrowed := true }
def SpreadPlacesUptoSaid : Prop := spreadPlacesUptoRow.holds Try.pinned (OpenSpec.upto spreadPlacesSpec)

/-- 'wringerlaw13.SpreadRefuses', WHERE WHAT IT READS IS OF BULK AT MOST 1048576: true; the input reads as it did. -/
def spreadRefusesUptoRow : OpenClaim := { program := "ytlconnmfceabiaa", sum := "f08eda694b8958c66c16d9d0f6e1d89603f27e7498f5038cf2dc05eca95677f5", func := "wringer/wringerlaw13.SpreadRefuses", spec := "spreadRefuses", unfollowed := true, recurses := true, apart := false, narrowed := true }
def SpreadRefusesUptoSaid : Prop := spreadRefusesUptoRow.holds Try.pinned (OpenSpec.upto spreadRefusesSpec)

/-- 'wringerlaw13.SpreadSteps', WHERE WHAT IT READS IS OF BULK AT MOST 1048576: true; the input reads as it did. -/
def spreadStepsUptoRow : OpenClaim := { program := "ytlconnmfceabiaa", sum := "f08eda694b8958c66c16d9d0f6e1d89603f27e7498f5038cf2dc05eca95677f5", func := "wringer/wringerlaw13.SpreadSteps", spec := "spreadSteps", unfollowed := true, recurses := true, apart := false, narrowed := true }
def SpreadStepsUptoSaid : Prop := spreadStepsUptoRow.holds Try.pinned (OpenSpec.upto spreadStepsSpec)

end Rows
end Go.Proofs.Ytlconnmfceabiaa
