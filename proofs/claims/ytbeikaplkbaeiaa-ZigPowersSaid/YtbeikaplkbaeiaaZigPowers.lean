/- ZigPowers' walk. -/
import Derived.Test.YtbeikaplkbaeiaaZo
import Derived.OpenShut
import Derived.Deep.RegionWith
namespace Go.Proofs.Ytbeikaplkbaeiaa
set_option linter.unusedSimpArgs false
set_option linter.unusedVariables false
open Go.RowKit Mix Own Zig

theorem shl_i64 (k : Nat) (h : k ≤ 62) : wrap64 ((2 : Int) ^ k) = ((2 ^ k : Nat) : Int) := by
  have h2 : 2 ^ k ≤ 2 ^ 62 := Nat.pow_le_pow_right (by decide) h
  have e : ((2 : Int) ^ k) = ((2 ^ k : Nat) : Int) := by simp
  have e3 : (2 : Nat) ^ 62 = 4611686018427387904 := by decide
  rw [e]
  generalize 2 ^ k = P at h2
  unfold wrap64
  omega

set_option maxHeartbeats 4000000 in
theorem ZigPowers_walk (a0 : Int) (w : World) (w0 : (Lit.int .u8 a0).wf = true) :
    Calls Try.prog 6 #[.int .u8 a0] w fun e w' => e = .returned (.bool true) ∧ Below w.heap.size w w' := by
  obtain ⟨n, rfl, hn⟩ := u8_bounds w0
  clear w0
  obtain ⟨k, hk⟩ : ∃ k, k = n % 63 := ⟨_, rfl⟩
  have e0 : (n : Int) % 63 = (k : Int) := by omega
  have hk62 : k ≤ 62 := by omega
  have e1 := shl_i64 k hk62
  have hpp : 0 < 2 ^ k := Nat.pow_pos (by decide)
  have hp62 : 2 ^ k ≤ 2 ^ 62 := Nat.pow_le_pow_right (by decide) hk62
  have hk1 : 2 ^ (k + 1) = 2 * 2 ^ k := by rw [Nat.pow_succ]; omega
  have hk2 : 2 ^ (k + 1 + 1) = 4 * 2 ^ k := by rw [Nat.pow_succ, Nat.pow_succ]; omega
  have e3 : (2 : Nat) ^ 62 = 4611686018427387904 := by decide
  have e1u := top_bits (k + 1) (by omega)
  rw [show k + 1 - 1 = k by omega] at e1u
  obtain ⟨p, hp⟩ : ∃ p, p = 2 ^ k := ⟨_, rfl⟩
  rw [← hp] at e1 hpp hp62 hk1 hk2 e1u
  have z1 : zmap (p : Int) = 2 * p := by unfold zmap; split <;> omega
  have z2 : zmap ((p : Int) - 1) = 2 * p - 2 := by unfold zmap; split <;> omega
  have z3 : zmap (-(p : Int)) = 2 * p - 1 := by unfold zmap; split <;> omega
  have z4 : zmap (-(p : Int) - 1) = 2 * p + 1 := by unfold zmap; split <;> omega
  have b1 : bl (2 * p) = k + 2 := bl_eq _ (k + 1) (by omega) (by omega) (by omega)
  have b3 : bl (2 * p - 1) = k + 1 := bl_eq _ k (by omega) (by omega) (by omega)
  have b4 : bl (2 * p + 1) = k + 2 := bl_eq _ (k + 1) (by omega) (by omega) (by omega)
  have b2 : bl (2 * p - 2) = if k = 0 then 0 else k + 1 := by
    split
    · rename_i hk0
      have : p = 1 := by rw [hp, hk0]
      rw [this]; exact bl_zero
    · have h2 : 2 ≤ p := by
        rw [hp]
        have : 2 ^ 1 ≤ 2 ^ k := Nat.pow_le_pow_right (by decide) (by omega)
        omega
      exact bl_eq _ k (by omega) (by omega) (by omega)
  obtain ⟨d, hd⟩ : ∃ d, d = (if k = 0 then 0 else k + 1) := ⟨_, rfl⟩
  rw [← hd] at b2
  obtain ⟨s, hs⟩ : ∃ s, s = rstU (2 * p - 2) := ⟨_, rfl⟩
  have hs1 := fun w' => zsplit_agg (p : Int) w' (by omega) (by omega) (k + 2) 0 (by rw [z1, b1]) (by rw [z1]; unfold rstU; rw [b1, if_neg (by omega), show k + 2 - 1 = k + 1 by omega]; omega)
  have hs2 := fun w' => zsplit_agg ((p : Int) - 1) w' (by omega) (by omega) d s (by rw [z2, b2]) (by rw [z2, hs])
  have hs3 := fun w' => zsplit_agg (-(p : Int)) w' (by omega) (by omega) (k + 1) (p - 1) (by rw [z3, b3]) (by rw [z3]; unfold rstU; rw [b3, if_neg (by omega), show k + 1 - 1 = k by omega, ← hp]; omega)
  have hs4 := fun w' => zsplit_agg (-(p : Int) - 1) w' (by omega) (by omega) (k + 2) 1 (by rw [z4, b4]) (by rw [z4]; unfold rstU; rw [b4, if_neg (by omega), show k + 2 - 1 = k + 1 by omega]; omega)
  rw [show ((k + 2 : Nat) : Int) = (k : Int) + 2 by omega] at hs1 hs4
  rw [show ((k + 1 : Nat) : Int) = (k : Int) + 1 by omega] at hs3
  rw [show ((p - 1 : Nat) : Int) = (p : Int) - 1 by omega] at hs3
  have hor : (k = 0 ∧ d = 0) ∨ (k ≠ 0 ∧ d = k + 1) := by rw [hd]; split <;> omega
  have HS1 := kept hs1
  have HS2 := kept hs2
  have HS3 := kept hs3
  have HS4 := kept hs4
  have hp63 : p < 9223372036854775808 := by omega
  clear hs1 hs2 hs3 hs4 hk hp hp62 hk1 hk2 e3 z1 z2 z3 z4 b1 b2 b3 b4 hd hs
  go_enter Try.func6, Try.ntmps6
  go_wp2_with fail
  refine (HS1.out _).mono ?_
  rintro e w1 ⟨rfl, hb1⟩
  have HB1 := kept hb1
  clear hb1
  go_wp2_with fail
  refine (HS2.out _).mono ?_
  rintro e w2 ⟨rfl, hb2⟩
  have HB2 := kept (HB1.out.trans (hb2.mono HB1.out.size))
  clear hb2
  go_wp2_with fail
  refine (HS3.out _).mono ?_
  rintro e w3 ⟨rfl, hb3⟩
  have HB3 := kept (HB2.out.trans (hb3.mono HB2.out.size))
  clear hb3
  go_wp2_with fail
  refine (HS4.out _).mono ?_
  rintro e w4 ⟨rfl, hb4⟩
  have HB4 := kept (HB3.out.trans (hb4.mono HB3.out.size))
  clear hb4
  go_wp2_with fail
  generalize hw5 : World.alloc (World.alloc (World.alloc (World.alloc w4 _) _) _) _ = w5
  have hB : Below w4.heap.size w4 w5 := by
    rw [← hw5]
    exact ((((Below.refl _ _).alloc (Nat.le_refl _) _).alloc (by simp) _).alloc (by simp; omega) _).alloc (by simp; omega) _
  have B1 : Blk w5 w4.heap.size #[.int .i64 ((k : Int) + 2), .int .u64 0] 24 := by
    rw [← hw5]; exact (((Blk.fresh _ _ _).alloc _).alloc _).alloc _
  have B2 : Blk w5 (w4.heap.size + 1) #[.int .i64 (d : Int), .int .u64 (s : Int)] 24 := by
    rw [← hw5]; exact ((Blk.fresh_at _ _ (by simp) _ _).alloc _).alloc _
  have B3 : Blk w5 (w4.heap.size + 1 + 1) #[.int .i64 ((k : Int) + 1), .int .u64 ((p : Int) - 1)] 24 := by
    rw [← hw5]; exact (Blk.fresh_at _ _ (by simp) _ _).alloc _
  have B4 : Blk w5 (w4.heap.size + 1 + 1 + 1) #[.int .i64 ((k : Int) + 2), .int .u64 1] 24 := by
    rw [← hw5]; exact Blk.fresh_at _ _ (by simp) _ _
  have HB5 := kept (HB4.out.trans (hB.mono HB4.out.size))
  have hsz : w.heap.size ≤ w5.heap.size := Nat.le_trans HB4.out.size hB.size
  generalize w4.heap.size = G at B1 B2 B3 B4 ⊢
  have l10 := lat_cell (B1.cell (i := 0) rfl)
  have l11 := lat_cell (B1.cell (i := 1) rfl)
  have l20 := lat_cell (B2.cell (i := 0) rfl)
  have l30 := lat_cell (B3.cell (i := 0) rfl)
  have l31 := lat_cell (B3.cell (i := 1) rfl)
  have l40 := lat_cell (B4.cell (i := 0) rfl)
  have l41 := lat_cell (B4.cell (i := 1) rfl)
  clear hw5 hB B1 B2 B3 B4
  have t2 : decide ((d : Int) ≤ (k : Int) + 1) = true := by simp; omega
  have t1 : ((k : Int) == 0) = true ∨ (((k : Int) == 0) = false ∧ ((d : Int) == (k : Int) + 1) = true) := by
    rcases hor with h | h
    · left; rw [beq_iff_eq]; omega
    · right; rw [beq_eq_false_iff_ne, beq_iff_eq]; omega
  clear hor
  rcases t1 with t1 | ⟨t1, t3⟩
  all_goals
    refine wp_region_quietL (by kernel_rfl) (by kernel_rfl) ?_
    repeat (go_big_quiet_step ((go_at_call 16; exact lat_call (awake1_calls _))))
    refine wpQuiet_nil ?_
    intro nq
    go_wp2_with fail
    go_ret
    exact ⟨rfl, HB5.out.trans (nq.below.mono hsz)⟩
end Go.Proofs.Ytbeikaplkbaeiaa
