/- Numbers by their size: plain facts; no program in sight. -/
import Derived.WalkKit
import Derived.Lib.BitFns
namespace Go.Proofs.Ytdbnmijnjfbibaa.Zig
set_option linter.unusedSimpArgs false
set_option linter.unusedVariables false

abbrev bl (u : Nat) : Nat := Go.Lib.bitLen u

theorem bl_zero : bl 0 = 0 := by decide

theorem bl_pos (u : Nat) (h0 : u ≠ 0) (h : u < 2 ^ 64) : 1 ≤ bl u := by
  have := Go.Lib.bitLen_half u h0 h
  unfold bl; omega

theorem bl_spec : ∀ (n u : Nat), u < n → u ≠ 0 → u < 2 ^ 64 → 2 ^ (bl u - 1) ≤ u ∧ u < 2 ^ bl u := by
  intro n
  induction n with
  | zero => intro u h; omega
  | succ n ih =>
    intro u hn h0 h
    have hb := Go.Lib.bitLen_half u h0 h
    by_cases h1 : u / 2 = 0
    · have hu : u = 1 := by omega
      subst hu
      decide
    · have ih2 := ih (u / 2) (by omega) h1 (by omega)
      have hp := bl_pos (u / 2) h1 (by omega)
      unfold bl at *
      rw [hb]
      have e : 1 + Go.Lib.bitLen (u / 2) - 1 = (Go.Lib.bitLen (u / 2) - 1) + 1 := by omega
      rw [e, Nat.add_comm 1, Nat.pow_succ, Nat.pow_succ]
      omega

theorem bl_le (u : Nat) (h : u < 2 ^ 64) : bl u ≤ 64 := Go.Lib.bitLen_le u 64 (by decide) h

theorem bl_eq (u k : Nat) (h1 : 2 ^ k ≤ u) (h2 : u < 2 ^ (k + 1)) (h : u < 2 ^ 64) : bl u = k + 1 := by
  have h0 : u ≠ 0 := by have := Nat.pow_pos (n := k) (show 0 < 2 by decide); omega
  have hs := bl_spec (u + 1) u (by omega) h0 h
  have hp := bl_pos u h0 h
  rcases Nat.lt_trichotomy (bl u) (k + 1) with hl | hl | hl
  · have : 2 ^ bl u ≤ 2 ^ k := Nat.pow_le_pow_right (by decide) (by omega)
    omega
  · exact hl
  · have : 2 ^ (k + 1) ≤ 2 ^ (bl u - 1) := Nat.pow_le_pow_right (by decide) (by omega)
    omega

theorem bl_mono (u v : Nat) (hv : v < 2 ^ 64) (h : u ≤ v) : bl u ≤ bl v := by
  by_cases h0 : u = 0
  · subst h0; rw [bl_zero]; omega
  · have hs := bl_spec (u + 1) u (by omega) h0 (by omega)
    have ht := bl_spec (v + 1) v (by omega) (by omega) hv
    rcases Nat.lt_or_ge (bl v) (bl u) with hl | hl
    · have : 2 ^ bl v ≤ 2 ^ (bl u - 1) := Nat.pow_le_pow_right (by decide) (by omega)
      omega
    · exact hl

/-- A number by its size. -/
def zmap (v : Int) : Nat := if v < 0 then (-2 * v - 1).toNat else (2 * v).toNat
def zback (u : Nat) : Int := if u % 2 = 1 then -((u / 2 : Nat) : Int) - 1 else ((u / 2 : Nat) : Int)

theorem zmap_lt (v : Int) (h0 : -9223372036854775808 ≤ v) (h1 : v ≤ 9223372036854775807) : zmap v < 18446744073709551616 := by unfold zmap; split <;> omega
theorem zback_zmap (v : Int) : zback (zmap v) = v := by
  unfold zback zmap
  split <;> split <;> omega
theorem zmap_zback (u : Nat) : zmap (zback u) = u := by
  unfold zback zmap
  split <;> split <;> omega
theorem zback_range (u : Nat) (h : u < 18446744073709551616) : -9223372036854775808 ≤ zback u ∧ zback u ≤ 9223372036854775807 := by
  unfold zback; split <;> omega
theorem zmap_inj (v w : Int) : zmap v = zmap w ↔ v = w :=
  ⟨fun h => by rw [← zback_zmap v, h, zback_zmap], fun h => by rw [h]⟩

/-- A class, and what stands beyond. -/
def clsU (u : Nat) : Nat := bl u
def rstU (u : Nat) : Nat := if bl u = 0 then 0 else u - 2 ^ (bl u - 1)

theorem rstU_lt (u : Nat) (h : u < 18446744073709551616) : rstU u < 18446744073709551616 := by
  unfold rstU
  split
  · decide
  · exact Nat.lt_of_le_of_lt (Nat.sub_le _ _) h
theorem bl_eq_zero (u : Nat) (h : u < 2 ^ 64) : bl u = 0 ↔ u = 0 := by
  constructor
  · intro e
    by_cases h0 : u = 0
    · exact h0
    · have := bl_pos u h0 h; omega
  · intro e; subst e; exact bl_zero

/-- Has a part a number? -/
def may (c : Int) (r : Nat) : Bool := decide (0 ≤ c ∧ c ≤ 64) && (if c < 1 then decide (r = 0) else decide (r < 2 ^ (c.toNat - 1)))
def sizeOf (c : Int) (r : Nat) : Nat := if c < 1 then 0 else 2 ^ (c.toNat - 1) + r
def join (c : Int) (r : Nat) : Int := if may c r then zback (sizeOf c r) else 0

theorem pow_le63 (k : Nat) (h : k ≤ 63) : 2 ^ k ≤ 9223372036854775808 := by
  have : 2 ^ k ≤ 2 ^ 63 := Nat.pow_le_pow_right (by decide) h
  omega

theorem sizeOf_lt (c : Int) (r : Nat) (h : may c r = true) : sizeOf c r < 18446744073709551616 := by
  unfold may at h
  unfold sizeOf
  simp only [Bool.and_eq_true, decide_eq_true_eq] at h
  split
  · decide
  · rw [if_neg (by assumption)] at h
    have := pow_le63 (c.toNat - 1) (by omega)
    have h2 := of_decide_eq_true h.2
    omega

theorem bl_size (c : Int) (r : Nat) (h : may c r = true) (hc : 1 ≤ c) : bl (sizeOf c r) = c.toNat := by
  have hl := sizeOf_lt c r h
  unfold may at h
  simp only [Bool.and_eq_true, decide_eq_true_eq] at h
  rw [if_neg (by omega)] at h
  have h2 := of_decide_eq_true h.2
  unfold sizeOf at *
  rw [if_neg (by omega)] at *
  have e : c.toNat = (c.toNat - 1) + 1 := by omega
  rw [e]
  refine bl_eq _ _ ?_ ?_ ?_
  · rw [show c.toNat - 1 + 1 - 1 = c.toNat - 1 by omega]; omega
  · rw [show c.toNat - 1 + 1 - 1 = c.toNat - 1 by omega, Nat.pow_succ]; omega
  · rw [show c.toNat - 1 + 1 - 1 = c.toNat - 1 by omega]; omega

/-- What is split of a number has it. -/
theorem may_split (u : Nat) (h : u < 18446744073709551616) : may (bl u : Int) (rstU u) = true := by
  unfold may rstU
  by_cases h0 : u = 0
  · subst h0; rw [bl_zero]; decide
  · have hs := bl_spec (u + 1) u (by omega) h0 h
    have hp := bl_pos u h0 h
    have hl := bl_le u h
    simp only [Bool.and_eq_true, decide_eq_true_eq]
    refine ⟨by omega, ?_⟩
    rw [if_neg (by omega), if_neg (by omega), decide_eq_true_eq, Int.toNat_natCast]
    have e : 2 ^ bl u = 2 ^ (bl u - 1) * 2 := by rw [← Nat.pow_succ]; congr 1; omega
    omega
theorem size_split (u : Nat) (h : u < 18446744073709551616) : sizeOf (bl u : Int) (rstU u) = u := by
  unfold sizeOf rstU
  by_cases h0 : u = 0
  · subst h0; rw [bl_zero]; decide
  · have hs := bl_spec (u + 1) u (by omega) h0 h
    have hp := bl_pos u h0 h
    rw [if_neg (by omega), if_neg (by omega), Int.toNat_natCast]
    omega
theorem join_split (v : Int) (h0 : -9223372036854775808 ≤ v) (h1 : v ≤ 9223372036854775807) : join (bl (zmap v) : Int) (rstU (zmap v)) = v := by
  have hl := zmap_lt v h0 h1
  unfold join
  rw [if_pos (may_split _ hl), size_split _ hl, zback_zmap]
end Go.Proofs.Ytdbnmijnjfbibaa.Zig
