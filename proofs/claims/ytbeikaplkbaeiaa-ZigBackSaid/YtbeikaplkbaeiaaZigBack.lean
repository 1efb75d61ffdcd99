/- ZigBack's walk. -/
import Derived.Test.YtbeikaplkbaeiaaZo
import Derived.OpenShut
import Derived.Deep.RegionWith
namespace Go.Proofs.Ytbeikaplkbaeiaa
set_option linter.unusedSimpArgs false
set_option linter.unusedVariables false
open Go.RowKit Mix Own Zig

theorem i64_bounds {a : Int} (w : (Lit.int .i64 a).wf = true) : -9223372036854775808 ≤ a ∧ a ≤ 9223372036854775807 := by
  simp only [Lit.wf, Bool.and_eq_true, decide_eq_true_eq] at w
  have h1 : IntKind.i64.min = -9223372036854775808 := rfl
  have h2 : IntKind.i64.max = 9223372036854775807 := rfl
  omega
theorem u64_bounds {a : Int} (w : (Lit.int .u64 a).wf = true) : ∃ m : Nat, a = (m : Int) ∧ m < 18446744073709551616 := by
  simp only [Lit.wf, Bool.and_eq_true, decide_eq_true_eq] at w
  have h1 : IntKind.u64.min = 0 := rfl
  have h2 : IntKind.u64.max = 18446744073709551615 := rfl
  exact ⟨a.toNat, by omega, by omega⟩

set_option maxHeartbeats 4000000 in
theorem ZigBack_walk (v x a2 : Int) (w : World) (w0 : (Lit.int .i64 v).wf = true) (w1 : (Lit.int .i64 x).wf = true) (w2 : (Lit.int .u64 a2).wf = true) :
    Calls Try.prog 4 #[.int .i64 v, .int .i64 x, .int .u64 a2] w fun e w' => e = .returned (.bool true) ∧ Below w.heap.size w w' := by
  obtain ⟨hv0, hv1⟩ := i64_bounds w0
  obtain ⟨hx0, hx1⟩ := i64_bounds w1
  obtain ⟨u, rfl, hu⟩ := u64_bounds w2
  clear w0 w1 w2
  have hzu := zback_range u hu
  obtain ⟨A, hA⟩ : ∃ A, A = zmap v := ⟨_, rfl⟩
  obtain ⟨X, hX⟩ : ∃ X, X = zmap x := ⟨_, rfl⟩
  obtain ⟨U, hU⟩ : ∃ U, U = zback u := ⟨_, rfl⟩
  obtain ⟨c, hc⟩ : ∃ c, c = bl (zmap v) := ⟨_, rfl⟩
  obtain ⟨r, hr⟩ : ∃ r, r = rstU (zmap v) := ⟨_, rfl⟩
  obtain ⟨d, hd⟩ : ∃ d, d = bl (zmap x) := ⟨_, rfl⟩
  obtain ⟨s, hs⟩ : ∃ s, s = rstU (zmap x) := ⟨_, rfl⟩
  have hAl := zmap_lt v hv0 hv1
  have hXl := zmap_lt x hx0 hx1
  have hrl : r < 18446744073709551616 := by rw [hr]; exact rstU_lt _ hAl
  have hcl : c ≤ 64 := by rw [hc]; exact bl_le _ hAl
  have hdl : d ≤ 64 := by rw [hd]; exact bl_le _ hXl
  have hmv := fun w' => zmap_calls v w' hv0 hv1
  have hmx := fun w' => zmap_calls x w' hx0 hx1
  have hsv := fun w' => zsplit_agg v w' hv0 hv1 c r hc hr
  have hsx := fun w' => zsplit_agg x w' hx0 hx1 d s hd hs
  have hj := fun w' => zjoin_agg (c : Int) r w' (by omega) (by omega) hrl v true (by rw [hc, hr, join_split v hv0 hv1]) (by rw [hc, hr, may_split _ hAl])
  have hba : ∀ w', Calls Try.prog 12 #[.int .u64 (A : Int)] w' fun e w'' => e = .returned (.int .i64 v) ∧ w' = w'' := fun w' => by
    have := zback_calls A w' (by rw [hA]; exact hAl)
    rw [hA, zback_zmap] at this
    rw [hA]
    exact this
  have hbu : ∀ w', Calls Try.prog 12 #[.int .u64 (u : Int)] w' fun e w'' => e = .returned (.int .i64 U) ∧ w' = w'' := fun w' => by
    rw [hU]; exact zback_calls u w' hu
  have hmu : ∀ w', Calls Try.prog 10 #[.int .i64 U] w' fun e w'' => e = .returned (.int .u64 (u : Int)) ∧ w' = w'' := fun w' => by
    have := zmap_calls U w' (by rw [hU]; exact hzu.1) (by rw [hU]; exact hzu.2)
    rw [hU, zmap_zback] at this
    rw [hU]
    exact this
  rw [← hA] at hmv
  rw [← hX] at hmx
  have heq : ((A : Int) == (X : Int)) = (v == x) := by
    rw [Bool.eq_iff_iff, beq_iff_eq, beq_iff_eq, ← zmap_inj v x, ← hA, ← hX]
    omega
  have hor : d ≤ c ∨ (¬ d ≤ c ∧ A < X) := by
    rcases Nat.lt_or_ge c d with h | h
    · right
      refine ⟨by omega, ?_⟩
      have : ¬ X ≤ A := fun hle => by
        have := bl_mono X A (by rw [hA]; exact hAl) hle
        rw [hA, hX, ← hc, ← hd] at this
        omega
      omega
    · left; exact h
  have HMV := kept hmv
  have HMX := kept hmx
  have HSV := kept hsv
  have HSX := kept hsx
  have HJ := kept hj
  have HBA := kept hba
  have HBU := kept hbu
  have HMU := kept hmu
  clear hmv hmx hsv hsx hj hba hbu hmu hAl hXl hzu hA hX hU hc hr hd hs hv0 hv1 hx0 hx1 hu hrl
  rcases hor with t1 | ⟨t1, t2⟩
  all_goals
    go_enter Try.func4, Try.ntmps4
    go_wp2_with fail
    refine (HMV.out _).mono ?_
    rintro e w' ⟨rfl, rfl⟩
    go_wp2_with fail
    refine (HMX.out _).mono ?_
    rintro e w' ⟨rfl, rfl⟩
    go_wp2_with fail
    refine (HSV.out _).mono ?_
    rintro e w1 ⟨rfl, hb1⟩
    have HB1 := kept hb1
    clear hb1
    go_wp2_with fail
    refine (HJ.out _).mono ?_
    rintro e w2 ⟨rfl, hb2⟩
    have HB2 := kept (HB1.out.trans (hb2.mono HB1.out.size))
    clear hb2 HB1
    go_wp2_with fail
    refine (HSV.out _).mono ?_
    rintro e w3 ⟨rfl, hb3⟩
    have HB3 := kept (HB2.out.trans (hb3.mono HB2.out.size))
    clear hb3 HB2
    go_wp2_with fail
    refine (HSX.out _).mono ?_
    rintro e w4 ⟨rfl, hb4⟩
    have HB4 := kept (HB3.out.trans (hb4.mono HB3.out.size))
    clear hb4 HB3
    go_wp2_with (first
      | (go_at_call_of 12 (Value.int .u64 (A : Int)); refine (HBA.out _).mono ?_; rintro e w' ⟨rfl, rfl⟩)
      | (go_at_call 12; refine (HBU.out _).mono ?_; rintro e w' ⟨rfl, rfl⟩)
      | (go_at_call 10; refine (HMU.out _).mono ?_; rintro e w' ⟨rfl, rfl⟩)
      | (go_at_call 16; refine (awake1_calls _).mono ?_; rintro e w9 ⟨rfl, hb9⟩; have HB9 := kept hb9; clear hb9))
    go_ret
    exact ⟨rfl, ((HB4.out.alloc HB4.out.size _).alloc (by have := HB4.out.size; simp; omega) _).trans (HB9.out.mono (by have := HB4.out.size; simp; omega))⟩
end Go.Proofs.Ytbeikaplkbaeiaa
