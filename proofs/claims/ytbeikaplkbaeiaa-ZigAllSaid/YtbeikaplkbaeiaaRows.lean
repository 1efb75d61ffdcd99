/-
  No cell of these rows narrows 'for every input' (looked for: loops, veiled, ifaces, maps, wideKeys, modest, calm, conditions, laid).
  DERIVED. THE GIVEN ROWS OF THIS SEAT. 5 by the template 'for every input the law returns true; each argument reads behind the call as it read before'; 0 by the template 'total and deterministic' (their statements: YtbeikaplkbaeiaaTotals.lean).
  GIVEN WITH THE SEED: the statements are not yours to turn. If you find one false, say at which input.
  Laid BY PROGRAM, IN A SANDBOX (cutbox-rows.mjs): the forced cells as the released guide's own fill.sh prints them over the translation 85900c3b358f31b6… (all of the seat's roots in one cut). By AI agents, Wed Nov 11 2026. No macro, syntax, notation, axiom, sorry.
-/
import Derived.Test.YtbeikaplkbaeiaaChecked
import GoSem.Claim
import GoSem.ClaimJoined
import GoSem.ClaimMapViews
import Derived.JoinedTies
import Derived.KernelRfl
namespace Go.Proofs.Ytbeikaplkbaeiaa
/- THE CELL 'sum', in the pinned program and in every row, IS THE sha256 OF THE DUMP (.gsa) THAT YtbeikaplkbaeiaaProg.lean LOADS. Nothing in Lean hashes anything: it is a label: what it is worth is what the hold of that sum in a sandbox is worth. -/
noncomputable def Try.pinned : Pinned := { name := "ytbeikaplkbaeiaa", sum := "85900c3b358f31b61045fcb8c636969824d549bef47307e23e270ecf43a37324", checked := Try.checked }
namespace Rows
def none {H : Type} : Left H := { results := [], args := [] }

/-- 'wringerlaw1.ZigAll': WHATEVER THE INPUT: true; the input reads as it did. -/
def zigAllSpec : ChangeSpec := { name := "zigAll", fn := fun _ => fun
  | [d1, d2, d3] => { results := [.lit (.bool true)], args := [d1, d2, d3] }
  | _ => none }
def zigAllRow : OpenClaim := { program := "ytbeikaplkbaeiaa", sum := "85900c3b358f31b61045fcb8c636969824d549bef47307e23e270ecf43a37324", func := "wringer/wringerlaw1.ZigAll", spec := "zigAll", apart := false }
def ZigAllSaid : Prop := zigAllRow.holds Try.pinned (OpenSpec.ofChange zigAllSpec)

/-- ITS FALSE NEIGHBOUR: 'it returns false'. Refute it at one input. -/
def zigAllWrong : ChangeSpec := { name := "zigAll", fn := fun _ => fun
  | [d1, d2, d3] => { results := [.lit (.bool false)], args := [d1, d2, d3] }
  | _ => none }
def ZigAllWrongFalsely : Prop := zigAllRow.holds Try.pinned (OpenSpec.ofChange zigAllWrong)

/-- 'wringerlaw1.ZigBack': WHATEVER THE INPUT: true; the input reads as it did. -/
def zigBackSpec : ChangeSpec := { name := "zigBack", fn := fun _ => fun
  | [d1, d2, d3] => { results := [.lit (.bool true)], args := [d1, d2, d3] }
  | _ => none }
def zigBackRow : OpenClaim := { program := "ytbeikaplkbaeiaa", sum := "85900c3b358f31b61045fcb8c636969824d549bef47307e23e270ecf43a37324", func := "wringer/wringerlaw1.ZigBack", spec := "zigBack", apart := false }
def ZigBackSaid : Prop := zigBackRow.holds Try.pinned (OpenSpec.ofChange zigBackSpec)

/-- ITS FALSE NEIGHBOUR: 'it returns false'. Refute it at one input. -/
def zigBackWrong : ChangeSpec := { name := "zigBack", fn := fun _ => fun
  | [d1, d2, d3] => { results := [.lit (.bool false)], args := [d1, d2, d3] }
  | _ => none }
def ZigBackWrongFalsely : Prop := zigBackRow.holds Try.pinned (OpenSpec.ofChange zigBackWrong)

/-- 'wringerlaw1.ZigSigns': WHATEVER THE INPUT: true; the input reads as it did. -/
def zigSignsSpec : ChangeSpec := { name := "zigSigns", fn := fun _ => fun
  | [d1, d2, d3] => { results := [.lit (.bool true)], args := [d1, d2, d3] }
  | _ => none }
def zigSignsRow : OpenClaim := { program := "ytbeikaplkbaeiaa", sum := "85900c3b358f31b61045fcb8c636969824d549bef47307e23e270ecf43a37324", func := "wringer/wringerlaw1.ZigSigns", spec := "zigSigns", apart := false }
def ZigSignsSaid : Prop := zigSignsRow.holds Try.pinned (OpenSpec.ofChange zigSignsSpec)

/-- ITS FALSE NEIGHBOUR: 'it returns false'. Refute it at one input. -/
def zigSignsWrong : ChangeSpec := { name := "zigSigns", fn := fun _ => fun
  | [d1, d2, d3] => { results := [.lit (.bool false)], args := [d1, d2, d3] }
  | _ => none }
def ZigSignsWrongFalsely : Prop := zigSignsRow.holds Try.pinned (OpenSpec.ofChange zigSignsWrong)

/-- 'wringerlaw1.ZigPowers': WHATEVER THE INPUT: true; the input reads as it did. -/
def zigPowersSpec : ChangeSpec := { name := "zigPowers", fn := fun _ => fun
  | [d] => { results := [.lit (.bool true)], args := [d] }
  | _ => none }
def zigPowersRow : OpenClaim := { program := "ytbeikaplkbaeiaa", sum := "85900c3b358f31b61045fcb8c636969824d549bef47307e23e270ecf43a37324", func := "wringer/wringerlaw1.ZigPowers", spec := "zigPowers", apart := false }
def ZigPowersSaid : Prop := zigPowersRow.holds Try.pinned (OpenSpec.ofChange zigPowersSpec)

/-- ITS FALSE NEIGHBOUR: 'it returns false'. Refute it at one input. -/
def zigPowersWrong : ChangeSpec := { name := "zigPowers", fn := fun _ => fun
  | [d] => { results := [.lit (.bool false)], args := [d] }
  | _ => none }
def ZigPowersWrongFalsely : Prop := zigPowersRow.holds Try.pinned (OpenSpec.ofChange zigPowersWrong)

/-- 'wringerlaw1.ZigRests': WHATEVER THE INPUT: true; the input reads as it did. -/
def zigRestsSpec : ChangeSpec := { name := "zigRests", fn := fun _ => fun
  | [d1, d2] => { results := [.lit (.bool true)], args := [d1, d2] }
  | _ => none }
def zigRestsRow : OpenClaim := { program := "ytbeikaplkbaeiaa", sum := "85900c3b358f31b61045fcb8c636969824d549bef47307e23e270ecf43a37324", func := "wringer/wringerlaw1.ZigRests", spec := "zigRests", apart := false }
def ZigRestsSaid : Prop := zigRestsRow.holds Try.pinned (OpenSpec.ofChange zigRestsSpec)

/-- ITS FALSE NEIGHBOUR: 'it returns false'. Refute it at one input. -/
def zigRestsWrong : ChangeSpec := { name := "zigRests", fn := fun _ => fun
  | [d1, d2] => { results := [.lit (.bool false)], args := [d1, d2] }
  | _ => none }
def ZigRestsWrongFalsely : Prop := zigRestsRow.holds Try.pinned (OpenSpec.ofChange zigRestsWrong)

/- THE SECOND FORM. 'bulk': how many values and letters a reading holds, each counted each time it is reached (what is shared counts as often as it is met; a slice's spare places count too). A statement '..UptoSaid' is the law's where the arguments, and the package variables that the reading takes, are together of bulk at most 1048576: NARROWER than '..Said'. Prove '..Said' where nothing that the law and all that it calls make is longer than what came in: it says more and counts as full. Else prove '..UptoSaid'. A law counts once. -/
mutual
def uptoBulk {H : Type} : DataW H → Nat
  | .lit (.string bytes) => bytes.length + 1
  | .lit _ => 1
  | .nil => 1
  | .ptr d => uptoBulk d + 1
  | .slice elems spare => uptoBulkAll elems + uptoBulkAll spare + 1
  | .agg parts => uptoBulkAll parts + 1
  | .iface _ d => uptoBulk d + 1
  | .map entries => uptoBulkEntries entries + 1
  | .held _ => 1
def uptoBulkAll {H : Type} : List (DataW H) → Nat
  | [] => 0
  | d :: r => uptoBulk d + uptoBulkAll r
def uptoBulkEntries {H : Type} : List (Lit × DataW H) → Nat
  | [] => 0
  | x :: r => uptoBulkEntry x + uptoBulkEntries r
def uptoBulkEntry {H : Type} : Lit × DataW H → Nat
  | (.string bytes, d) => bytes.length + uptoBulk d + 1
  | (_, d) => uptoBulk d + 1
 end
def uptoSmall : (H : Type) → List (DataW H) → Bool := fun _ ds => decide (uptoBulkAll ds ≤ 1048576)
def OpenSpec.upto (s : _root_.Go.ChangeSpec) : _root_.Go.OpenSpec := { _root_.Go.OpenSpec.ofChange s with cond := some uptoSmall }

/-- 'wringerlaw1.ZigAll', WHERE WHAT IT READS IS OF BULK AT MOST 1048576: true; the input reads as it did. -/
def zigAllUptoRow : OpenClaim := { program := "ytbeikaplkbaeiaa", sum := "85900c3b358f31b61045fcb8c636969824d549bef47307e23e270ecf43a37324", func := "wringer/wringerlaw1.ZigAll", spec := "zigAll", apart := false, narrowed := true }
def ZigAllUptoSaid : Prop := zigAllUptoRow.holds Try.pinned (OpenSpec.upto zigAllSpec)

/-- 'wringerlaw1.ZigBack', WHERE WHAT IT READS IS OF BULK AT MOST 1048576: true; the input reads as it did. -/
def zigBackUptoRow : OpenClaim := { program := "ytbeikaplkbaeiaa", sum := "85900c3b358f31b61045fcb8c636969824d549bef47307e23e270ecf43a37324", func := "wringer/wringerlaw1.ZigBack", spec := "zigBack", apart := false, narrowed := true }
def ZigBackUptoSaid : Prop := zigBackUptoRow.holds Try.pinned (OpenSpec.upto zigBackSpec)

/-- 'wringerlaw1.ZigSigns', WHERE WHAT IT READS IS OF BULK AT MOST 1048576: true; the input reads as it did. -/
def zigSignsUptoRow : OpenClaim := { program := "ytbeikaplkbaeiaa", sum := "85900c3b358f31b61045fcb8c636969824d549bef47307e23e270ecf43a37324", func := "wringer/wringerlaw1.ZigSigns", spec := "zigSigns", apart := false, narrowed := true }
def ZigSignsUptoSaid : Prop := zigSignsUptoRow.holds Try.pinned (OpenSpec.upto zigSignsSpec)

/-- 'wringerlaw1.ZigPowers', WHERE WHAT IT READS IS OF BULK AT MOST 1048576: true; the input reads as it did. -/
def zigPowersUptoRow : OpenClaim := { program := "ytbeikaplkbaeiaa", sum := "85900c3b358f31b61045fcb8c636969824d549bef47307e23e270ecf43a37324", func := "wringer/wringerlaw1.ZigPowers", spec := "zigPowers", apart := false, narrowed := true }
def ZigPowersUptoSaid : Prop := zigPowersUptoRow.holds Try.pinned (OpenSpec.upto zigPowersSpec)

/-- 'wringerlaw1.ZigRests', WHERE WHAT IT READS IS OF BULK AT MOST 1048576: true; the input reads as it did. -/
def zigRestsUptoRow : OpenClaim := { program := "ytbeikaplkbaeiaa", sum := "85900c3b358f31b61045fcb8c636969824d549bef47307e23e270ecf43a37324", func := "wringer/wringerlaw1.ZigRests", spec := "zigRests", apart := false, narrowed := true }
def ZigRestsUptoSaid : Prop := zigRestsUptoRow.holds Try.pinned (OpenSpec.upto zigRestsSpec)

end Rows
end Go.Proofs.Ytbeikaplkbaeiaa
