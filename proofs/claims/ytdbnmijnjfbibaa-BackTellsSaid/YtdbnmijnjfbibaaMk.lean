/- Masks and bits set, on 64 bits: plain facts. -/
import Derived.WalkKit
import Derived.Laws.BitsAllLaws
namespace Go.Proofs.Ytdbnmijnjfbibaa
set_option linter.unusedSimpArgs false
set_option linter.unusedVariables false
open Go Go.RowKit

theorem pow63 (k : Nat) (h : k ≤ 63) : 2 ^ k ≤ 9223372036854775808 := by
  have : 2 ^ k ≤ 2 ^ 63 := Nat.pow_le_pow_right (by decide) h
  omega
theorem u64_small (n : Nat) (h : n < 18446744073709551616) : IntKind.u64.wrap (n : Int) = (n : Int) := by
  simp [IntKind.wrap, IntKind.bits, IntKind.signed]; omega
/-- '1 << k'. -/
theorem shl_one (k : Nat) (h : k ≤ 63) : IntKind.u64.wrap ((2 : Int) ^ k) = ((2 ^ k : Nat) : Int) := by
  have h2 := pow63 k h
  have e : ((2 : Int) ^ k) = ((2 ^ k : Nat) : Int) := by simp
  rw [e, u64_small _ (by omega)]
/-- 'x & (1<<k - 1)'. -/
theorem and_mask (x k P : Nat) (hx : x < 18446744073709551616) (hk : k ≤ 63) (hP : P = 2 ^ k) : bits .and .u64 (x : Int) ((P : Int) - 1) = ((x % P : Nat) : Int) := by
  have h2 := pow63 k hk
  have h3 : 0 < 2 ^ k := Nat.pow_pos (by decide)
  rw [show (P : Int) - 1 = ((2 ^ k - 1 : Nat) : Int) by omega, u64_and_nat x _ hx (by omega), Nat.and_two_pow_sub_one_eq_mod, hP]
/-- 'r | 1<<k', where r has fewer bits. -/
theorem or_top (r k P : Nat) (hk : k ≤ 63) (hP : P = 2 ^ k) (hr : r < P) : bits .or .u64 (r : Int) (P : Int) = ((r + P : Nat) : Int) := by
  have h2 := pow63 k hk
  rw [u64_or_nat r P (by omega) (by omega)]
  congr 1
  have := Nat.two_pow_add_eq_or_of_lt (i := k) (b := r) (by omega) 1
  rw [Nat.mul_one] at this
  rw [hP, Nat.or_comm, ← this, Nat.add_comm]
end Go.Proofs.Ytdbnmijnjfbibaa
