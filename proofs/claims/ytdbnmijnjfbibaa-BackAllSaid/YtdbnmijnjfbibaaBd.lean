/- Bounds of arguments that are whole numbers. No program in sight. -/
import Derived.WalkKit
namespace Go.Proofs.Ytdbnmijnjfbibaa
set_option linter.unusedVariables false
open Go Go.RowKit

theorem i64_bounds {a : Int} (w : (Lit.int .i64 a).wf = true) : -9223372036854775808 ≤ a ∧ a ≤ 9223372036854775807 := by
  simp only [Lit.wf, Bool.and_eq_true, decide_eq_true_eq] at w
  have h1 : IntKind.i64.min = -9223372036854775808 := rfl
  have h2 : IntKind.i64.max = 9223372036854775807 := rfl
  omega
theorem u64_bounds {a : Int} (w : (Lit.int .u64 a).wf = true) : ∃ m : Nat, a = (m : Int) ∧ m < 18446744073709551616 := by
  simp only [Lit.wf, Bool.and_eq_true, decide_eq_true_eq] at w
  have h1 : IntKind.u64.min = 0 := rfl
  have h2 : IntKind.u64.max = 18446744073709551615 := rfl
  exact ⟨a.toNat, by omega, by omega⟩

theorem u32_bounds {a : Int} (w : (Lit.int .u32 a).wf = true) : ∃ m : Nat, a = (m : Int) ∧ m < 4294967296 := by
  simp only [Lit.wf, Bool.and_eq_true, decide_eq_true_eq] at w
  have h1 : IntKind.u32.min = 0 := rfl
  have h2 : IntKind.u32.max = 4294967295 := rfl
  exact ⟨a.toNat, by omega, by omega⟩
theorem u8_bounds {a : Int} (w : (Lit.int .u8 a).wf = true) : ∃ m : Nat, a = (m : Int) ∧ m < 256 := by
  simp only [Lit.wf, Bool.and_eq_true, decide_eq_true_eq] at w
  have h1 : IntKind.u8.min = 0 := rfl
  have h2 : IntKind.u8.max = 255 := rfl
  exact ⟨a.toNat, by omega, by omega⟩
end Go.Proofs.Ytdbnmijnjfbibaa
