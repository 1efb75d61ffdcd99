/- ZigSigns' walk. -/
import Derived.Test.YtbeikaplkbaeiaaZo
import Derived.OpenShut
import Derived.Deep.RegionWith
namespace Go.Proofs.Ytbeikaplkbaeiaa
set_option linter.unusedSimpArgs false
set_option linter.unusedVariables false
open Go.RowKit Mix Own Zig
attribute [local go_sem] max_int min_int

set_option maxHeartbeats 4000000 in
theorem ZigSigns_walk (a0 c a2 : Int) (w : World) (w0 : (Lit.int .u32 a0).wf = true) (w1 : (Lit.int .i64 c).wf = true) (w2 : (Lit.int .u64 a2).wf = true) :
    Calls Try.prog 5 #[.int .u32 a0, .int .i64 c, .int .u64 a2] w fun e w' => e = .returned (.bool true) ∧ Below w.heap.size w w' := by
  obtain ⟨n, rfl, hn⟩ := u32_bounds w0
  obtain ⟨hc0, hc1⟩ := i64_bounds w1
  obtain ⟨r, rfl, hr⟩ := u64_bounds w2
  clear w0 w1 w2
  obtain ⟨B, hB⟩ : ∃ B, B = may c r := ⟨_, rfl⟩
  obtain ⟨J, hJ⟩ : ∃ J, J = join c r := ⟨_, rfl⟩
  have hj := fun w' => zjoin_agg c r w' hc0 hc1 hr J B hJ hB
  have hm1 : ∀ w', Calls Try.prog 10 #[.int .i64 (n : Int)] w' fun e w'' => e = .returned (.int .u64 (2 * (n : Int))) ∧ w' = w'' := fun w' => by
    have := zmap_calls (n : Int) w' (by omega) (by omega)
    rwa [show (zmap (n : Int) : Int) = 2 * (n : Int) by unfold zmap; split <;> omega] at this
  have hm2 : ∀ w', Calls Try.prog 10 #[.int .i64 (-(n : Int) - 1)] w' fun e w'' => e = .returned (.int .u64 (2 * (n : Int) + 1)) ∧ w' = w'' := fun w' => by
    have := zmap_calls (-(n : Int) - 1) w' (by omega) (by omega)
    rwa [show (zmap (-(n : Int) - 1) : Int) = 2 * (n : Int) + 1 by unfold zmap; split <;> omega] at this
  have hm3 : ∀ w', Calls Try.prog 10 #[.int .i64 (-9223372036854775808)] w' fun e w'' => e = .returned (.int .u64 18446744073709551615) ∧ w' = w'' := fun w' => zmap_calls (-9223372036854775808) w' (by decide) (by decide)
  have hm4 : ∀ w', Calls Try.prog 10 #[.int .i64 9223372036854775807] w' fun e w'' => e = .returned (.int .u64 18446744073709551614) ∧ w' = w'' := fun w' => zmap_calls 9223372036854775807 w' (by decide) (by decide)
  have hs := fun w' => zsplit_agg (-9223372036854775808) w' (by decide) (by decide) 64 (2 ^ 63 - 1) (by decide) (by decide)
  have HJ := kept hj
  have HM1 := kept hm1
  have HM2 := kept hm2
  have HM3 := kept hm3
  have HM4 := kept hm4
  have HS := kept hs
  clear hj hm1 hm2 hm3 hm4 hs hJ
  rcases (show c < 0 ∨ 64 < c ∨ (0 ≤ c ∧ c < 2) ∨ (2 ≤ c ∧ c ≤ 64) by omega) with h | h | h | h
  · have hb : B = false := by rw [hB]; unfold may; rw [decide_eq_false (by omega)]; rfl
    clear hB
    subst hb
    have t1 : ¬ 0 ≤ c := by omega
    clear hc0 hc1 h
    go_enter Try.func5, Try.ntmps5
    go_wp2_with fail
    refine (HJ.out _).mono ?_
    rintro e w1 ⟨rfl, hb1⟩
    have HB1 := kept hb1
    clear hb1
    go_wp2_with fail
    refine (HM1.out _).mono ?_
    rintro e w' ⟨rfl, rfl⟩
    go_wp2_with fail
    refine (HM2.out _).mono ?_
    rintro e w' ⟨rfl, rfl⟩
    go_wp2_with fail
    refine (HM3.out _).mono ?_
    rintro e w' ⟨rfl, rfl⟩
    go_wp2_with fail
    refine (HM4.out _).mono ?_
    rintro e w' ⟨rfl, rfl⟩
    go_wp2_with fail
    refine (HS.out _).mono ?_
    rintro e w2 ⟨rfl, hb2⟩
    have hfld := part_class 64 9223372036854775807 w2
    have HB2 := kept (HB1.out.trans (hb2.mono HB1.out.size))
    clear hb2
    go_wp2_with fail
    refine (awake1_calls _).mono ?_
    rintro e w9 ⟨rfl, hb9⟩
    have HB9 := kept (HB2.out.trans (hb9.mono HB2.out.size))
    clear hb9
    go_wp2_with fail
    go_ret
    exact ⟨rfl, HB9.out⟩
  · have hb : B = false := by rw [hB]; unfold may; rw [decide_eq_false (by omega)]; rfl
    clear hB
    subst hb
    have t1 : 0 ≤ c := by omega
    have t2 : ¬ c ≤ 64 := by omega
    clear hc0 hc1 h
    go_enter Try.func5, Try.ntmps5
    go_wp2_with fail
    refine (HJ.out _).mono ?_
    rintro e w1 ⟨rfl, hb1⟩
    have HB1 := kept hb1
    clear hb1
    go_wp2_with fail
    refine (HM1.out _).mono ?_
    rintro e w' ⟨rfl, rfl⟩
    go_wp2_with fail
    refine (HM2.out _).mono ?_
    rintro e w' ⟨rfl, rfl⟩
    go_wp2_with fail
    refine (HM3.out _).mono ?_
    rintro e w' ⟨rfl, rfl⟩
    go_wp2_with fail
    refine (HM4.out _).mono ?_
    rintro e w' ⟨rfl, rfl⟩
    go_wp2_with fail
    refine (HS.out _).mono ?_
    rintro e w2 ⟨rfl, hb2⟩
    have hfld := part_class 64 9223372036854775807 w2
    have HB2 := kept (HB1.out.trans (hb2.mono HB1.out.size))
    clear hb2
    go_wp2_with fail
    refine (awake1_calls _).mono ?_
    rintro e w9 ⟨rfl, hb9⟩
    have HB9 := kept (HB2.out.trans (hb9.mono HB2.out.size))
    clear hb9
    go_wp2_with fail
    go_ret
    exact ⟨rfl, HB9.out⟩
  · have hb : ((r : Int) == 0) = B := by
      rw [hB]; unfold may
      rw [decide_eq_true (by omega), Bool.true_and, Bool.eq_iff_iff, beq_iff_eq]
      split
      · rw [decide_eq_true_eq]; omega
      · rw [show c.toNat - 1 = 0 by omega, decide_eq_true_eq]; omega
    clear hB
    have t1 : 0 ≤ c := by omega
    have t2 : c ≤ 64 := by omega
    have t3 : c < 2 := by omega
    have t4 : ¬ 2 ≤ c := by omega
    clear hc0 hc1 h
    cases B
    all_goals
      go_enter Try.func5, Try.ntmps5
      go_wp2_with fail
      refine (HJ.out _).mono ?_
      rintro e w1 ⟨rfl, hb1⟩
      have HB1 := kept hb1
      clear hb1
      go_wp2_with fail
      refine (HM1.out _).mono ?_
      rintro e w' ⟨rfl, rfl⟩
      go_wp2_with fail
      refine (HM2.out _).mono ?_
      rintro e w' ⟨rfl, rfl⟩
      go_wp2_with fail
      refine (HM3.out _).mono ?_
      rintro e w' ⟨rfl, rfl⟩
      go_wp2_with fail
      refine (HM4.out _).mono ?_
      rintro e w' ⟨rfl, rfl⟩
      go_wp2_with fail
      refine (HS.out _).mono ?_
      rintro e w2 ⟨rfl, hb2⟩
      have hfld := part_class 64 9223372036854775807 w2
      have HB2 := kept (HB1.out.trans (hb2.mono HB1.out.size))
      clear hb2
      go_wp2_with fail
      refine (awake1_calls _).mono ?_
      rintro e w9 ⟨rfl, hb9⟩
      have HB9 := kept (HB2.out.trans (hb9.mono HB2.out.size))
      clear hb9
      go_wp2_with fail
      go_ret
      exact ⟨rfl, HB9.out⟩
  · obtain ⟨k, rfl⟩ := Int.eq_ofNat_of_zero_le (show 0 ≤ c by omega)
    have t1 : ¬ k < 2 := by omega
    have t2 : k ≤ 64 := by omega
    have t3 : 2 ≤ k := by omega
    have hmx : mx (k : Int) 1 = (k : Int) := by rw [mx_eq]; omega
    have hb : ((r : Int) / 2 ^ (k - 1) == 0) = B := by
      rw [hB, may_top k r (by omega) t2, Bool.eq_iff_iff, beq_iff_eq, decide_eq_true_eq]
      have e : (r : Int) / 2 ^ (k - 1) = ((r / 2 ^ (k - 1) : Nat) : Int) := by simp
      have hp : 0 < 2 ^ (k - 1) := Nat.pow_pos (by decide)
      rw [e]
      constructor
      · intro hz
        have : r / 2 ^ (k - 1) = 0 := by omega
        exact (Nat.div_eq_zero_iff_lt hp).1 this
      · intro hz
        have := Nat.div_eq_of_lt hz
        omega
    clear hB hc0 hc1 h
    go_enter Try.func5, Try.ntmps5
    go_wp2_with fail
    refine (HJ.out _).mono ?_
    rintro e w1 ⟨rfl, hb1⟩
    have HB1 := kept hb1
    clear hb1
    go_wp2_with fail
    refine (HM1.out _).mono ?_
    rintro e w' ⟨rfl, rfl⟩
    go_wp2_with fail
    refine (HM2.out _).mono ?_
    rintro e w' ⟨rfl, rfl⟩
    go_wp2_with fail
    refine (HM3.out _).mono ?_
    rintro e w' ⟨rfl, rfl⟩
    go_wp2_with fail
    refine (HM4.out _).mono ?_
    rintro e w' ⟨rfl, rfl⟩
    go_wp2_with fail
    refine (HS.out _).mono ?_
    rintro e w2 ⟨rfl, hb2⟩
    have hfld := part_class 64 9223372036854775807 w2
    have HB2 := kept (HB1.out.trans (hb2.mono HB1.out.size))
    clear hb2
    go_wp2_with fail
    refine (awake1_calls _).mono ?_
    rintro e w9 ⟨rfl, hb9⟩
    have HB9 := kept (HB2.out.trans (hb9.mono HB2.out.size))
    clear hb9
    go_wp2_with fail
    go_ret
    exact ⟨rfl, HB9.out⟩
end Go.Proofs.Ytbeikaplkbaeiaa
