/- math/bits.Len8: the library's text is walked. -/
import Derived.Test.YtdbnmijnjfbibaaProg
import Derived.WalkKit
import Derived.Lib.Strings
import Derived.Lib.Slices
import Derived.Lib.Small
import Derived.Lib.Walk
import Derived.Lib.BitFns
import Derived.Deep.Light
namespace Go.Proofs.Ytdbnmijnjfbibaa
open Go.RowKit
set_option linter.unusedSimpArgs false
set_option linter.unusedVariables false
set_option maxRecDepth 100000 in
theorem len8tab_size8 : (Lib.len8tab.size : Int) = 256 := by
  have : Lib.len8tab.size = 256 := by decide
  omega
theorem len8_get8 (y : Nat) (h : y < Lib.len8tab.size) : ((Lib.len8tab[y]'h).toNat : Int) = Lib.len8 (y : Int) := by
  unfold Lib.len8
  rw [Int.toNat_natCast, getElem?_pos Lib.len8tab y h]
  rfl
theorem wrap_small8 (a : Nat) (ha : a ≤ 8) : RowKit.wrap64 (a : Int) = (a : Int) := by
  unfold RowKit.wrap64
  omega

set_option maxRecDepth 100000 in
theorem len8_calls (n : Nat) (w : World) (h : n < 256) :
    Calls Try.prog 21 #[.int .u8 (n : Int)] w fun e w' => e = .returned (.int .i64 (Lib.bitLen n : Int)) ∧ w = w' := by
  have e : Lib.len8 (n : Int) = (Lib.bitLen n : Int) := Lib.len8_eq ⟨n, h⟩
  have l : Lib.bitLen n ≤ 8 := Lib.bitLen_le8 ⟨n, h⟩
  go_enter Try.func21, Try.ntmps21
  go_wp2
  all_goals first
    | (go_ret; refine ⟨congrArg Ending.returned (congrArg (Value.int IntKind.i64) ?_), rfl⟩; go_light)
    | (exfalso
       go_light
       have hs := len8tab_size8
       omega)
  rw [len8_get8 n _, e, wrap_small8 _ l]
end Go.Proofs.Ytdbnmijnjfbibaa
