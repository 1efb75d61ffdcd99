/- The document's example of layer 1, and an error's number. -/
import Derived.Test.YtbeikaplkbaeiaaZc
namespace Go.Proofs.Ytbeikaplkbaeiaa
set_option linter.unusedSimpArgs false
set_option linter.unusedVariables false
open Go.RowKit Mix Own Zig

theorem i64_bounds {a : Int} (w : (Lit.int .i64 a).wf = true) : -9223372036854775808 ≤ a ∧ a ≤ 9223372036854775807 := by
  simp only [Lit.wf, Bool.and_eq_true, decide_eq_true_eq] at w
  have h1 : IntKind.i64.min = -9223372036854775808 := rfl
  have h2 : IntKind.i64.max = 9223372036854775807 := rfl
  omega
theorem u64_bounds {a : Int} (w : (Lit.int .u64 a).wf = true) : ∃ m : Nat, a = (m : Int) ∧ m < 18446744073709551616 := by
  simp only [Lit.wf, Bool.and_eq_true, decide_eq_true_eq] at w
  have h1 : IntKind.u64.min = 0 := rfl
  have h2 : IntKind.u64.max = 18446744073709551615 := rfl
  exact ⟨a.toNat, by omega, by omega⟩

theorem u32_bounds {a : Int} (w : (Lit.int .u32 a).wf = true) : ∃ m : Nat, a = (m : Int) ∧ m < 4294967296 := by
  simp only [Lit.wf, Bool.and_eq_true, decide_eq_true_eq] at w
  have h1 : IntKind.u32.min = 0 := rfl
  have h2 : IntKind.u32.max = 4294967295 := rfl
  exact ⟨a.toNat, by omega, by omega⟩
theorem u8_bounds {a : Int} (w : (Lit.int .u8 a).wf = true) : ∃ m : Nat, a = (m : Int) ∧ m < 256 := by
  simp only [Lit.wf, Bool.and_eq_true, decide_eq_true_eq] at w
  have h1 : IntKind.u8.min = 0 := rfl
  have h2 : IntKind.u8.max = 255 := rfl
  exact ⟨a.toNat, by omega, by omega⟩

theorem part_class (a b : Int) (w : World) : (Instr.field 24 (.agg #[.int .i64 a, .int .u64 b]) 0).run Try.prog w = .ok (.int .i64 a) w := by
  unfold Instr.field
  rw [Sem.run_bind, run_underlying Try.underlying24 w]
  simp [part, asAgg, Sem.run_bind, isAgg, run_underlying Try.underlying3 w, Result.andThen]

/-- Split, with the part written out. -/
theorem zsplit_agg (v : Int) (w : World) (h0 : -9223372036854775808 ≤ v) (h1 : v ≤ 9223372036854775807) (c r : Nat) (hc : c = bl (zmap v)) (hr : r = rstU (zmap v)) :
    Calls Try.prog 14 #[.int .i64 v] w fun e w' => e = .returned (.agg #[.int .i64 (c : Int), .int .u64 (r : Int)]) ∧ Below w.heap.size w w' := by
  subst hc; subst hr
  exact zsplit_calls v w h0 h1
theorem zjoin_agg (c : Int) (r : Nat) (w : World) (h0 : -9223372036854775808 ≤ c) (h1 : c ≤ 9223372036854775807) (hr : r < 18446744073709551616) (v : Int) (b : Bool) (hv : v = join c r) (hb : b = may c r) :
    Calls Try.prog 8 #[.agg #[.int .i64 c, .int .u64 (r : Int)]] w fun e w' => e = .returned (.tuple #[.int .i64 v, .bool b]) ∧ Below w.heap.size w w' := by
  subst hv; subst hb
  exact zjoin_calls c r w h0 h1 hr

set_option maxHeartbeats 1000000 in
theorem awake1_calls (w : World) : Calls Try.prog 16 #[] w fun e w' => e = .returned (.bool true) ∧ Below w.heap.size w w' := by
  have hj : ∀ w', Calls Try.prog 8 #[.agg #[.int .i64 3, .int .u64 1]] w' fun e w'' => e = .returned (.tuple #[.int .i64 (-3), .bool true]) ∧ Below w'.heap.size w' w'' := fun w' =>
    zjoin_agg 3 1 w' (by decide) (by decide) (by decide) (-3) true (by decide) (by decide)
  have hs : ∀ w', Calls Try.prog 14 #[.int .i64 (-3)] w' fun e w'' => e = .returned (.agg #[.int .i64 3, .int .u64 1]) ∧ Below w'.heap.size w' w'' := fun w' =>
    zsplit_agg (-3) w' (by decide) (by decide) 3 1 (by decide) (by decide)
  have HJ := kept hj
  have HS := kept hs
  clear hj hs
  go_enter Try.func16, Try.ntmps16
  go_wp2_with (first
    | (go_at_call 8; refine (HJ.out _).mono ?_; rintro e w1 ⟨rfl, hb1⟩; have HB1 := kept hb1; clear hb1)
    | (go_at_call 14; refine (HS.out _).mono ?_; rintro e w2 ⟨rfl, hb2⟩; have HB2 := kept hb2; clear hb2))
  go_ret
  exact ⟨rfl, HB1.out.trans (HB2.out.mono HB1.out.size)⟩
end Go.Proofs.Ytbeikaplkbaeiaa
