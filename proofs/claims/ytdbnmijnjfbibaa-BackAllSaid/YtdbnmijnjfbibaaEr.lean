/- An error's number. -/
import Derived.Test.YtdbnmijnjfbibaaProg
import Derived.Test.YtdbnmijnjfbibaaOwn
import Derived.WalkSpells
import Derived.WalkLawsBesides
namespace Go.Proofs.Ytdbnmijnjfbibaa
set_option linter.unusedSimpArgs false
set_option linter.unusedVariables false
open Go.RowKit Own

set_option maxHeartbeats 1000000 in
theorem err_calls (x : Int) (w : World) : Calls Try.prog 12 #[.int .i64 x] w fun e w' => e = .returned (.int .i64 x) ∧ w = w' := by
  go_enter Try.func12, Try.ntmps12
  go_wp2_with fail
  go_ret
  exact ⟨rfl, rfl⟩
end Go.Proofs.Ytdbnmijnjfbibaa
