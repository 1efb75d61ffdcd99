/- ZigRests' walk. -/
import Derived.Test.YtbeikaplkbaeiaaZo
import Derived.OpenShut
import Derived.Deep.RegionWith
namespace Go.Proofs.Ytbeikaplkbaeiaa
set_option linter.unusedSimpArgs false
set_option linter.unusedVariables false
open Go.RowKit Mix Own Zig

theorem two_pow_even (k : Nat) (h : 1 ≤ k) : 2 ^ k % 2 = 0 := by
  obtain ⟨j, rfl⟩ : ∃ j, k = j + 1 := ⟨k - 1, by omega⟩
  rw [Nat.pow_succ]; omega

set_option maxHeartbeats 4000000 in
theorem ZigRests_walk (a0 a1 : Int) (w : World) (w0 : (Lit.int .u8 a0).wf = true) (w1 : (Lit.int .u64 a1).wf = true) :
    Calls Try.prog 7 #[.int .u8 a0, .int .u64 a1] w fun e w' => e = .returned (.bool true) ∧ Below w.heap.size w w' := by
  obtain ⟨n, rfl, hn⟩ := u8_bounds w0
  obtain ⟨m, rfl, hm⟩ := u64_bounds w1
  clear w0 w1
  obtain ⟨c, hc⟩ : ∃ c, c = 2 + n % 63 := ⟨_, rfl⟩
  have e0 : (2 : Int) + (n : Int) % 63 = (c : Int) := by omega
  have hc2 : 2 ≤ c := by omega
  have hc64 : c ≤ 64 := by omega
  have e1 := top_bits c hc64
  have hp63 := pow_le63 (c - 1) (by omega)
  have hpe := two_pow_even (c - 1) (by omega)
  have hpp : 0 < 2 ^ (c - 1) := Nat.pow_pos (by decide)
  have hmt := fun r => may_top c r (by omega) hc64
  have hsz : ∀ r, Zig.sizeOf (c : Int) r = 2 ^ (c - 1) + r := fun r => by
    unfold Zig.sizeOf; rw [if_neg (by omega), Int.toNat_natCast]
  obtain ⟨P, hP⟩ : ∃ P, P = 2 ^ (c - 1) := ⟨_, rfl⟩
  rw [← hP] at e1 hp63 hpe hpp hmt hsz
  obtain ⟨q, hq⟩ : ∃ q, q = m % P := ⟨_, rfl⟩
  have e2 : (m : Int) % (P : Int) = (q : Int) := by rw [hq]; simp
  have hqP : q < P := by rw [hq]; exact Nat.mod_lt _ hpp
  obtain ⟨r, hr⟩ : ∃ r, r = q - q % 2 := ⟨_, rfl⟩
  have hre : r % 2 = 0 := by omega
  have hrP : r + 1 < P := by omega
  obtain ⟨s, hs⟩ : ∃ s, s = q % 2 := ⟨_, rfl⟩
  have e3 : (q : Int) % 2 = (s : Int) := by omega
  have e4 : IntKind.u64.wrap ((q : Int) - (s : Int)) = (r : Int) := by rw [IntKind.wrap_u64]; omega
  have hsq : s ≤ q := by omega
  have e4' : (q : Int) - (s : Int) = (r : Int) := by omega
  obtain ⟨a, ha⟩ : ∃ a : Nat, a = (P + r) / 2 := ⟨_, rfl⟩
  have ha0 : 0 < a := by omega
  have ha1 : a < 9223372036854775808 := by omega
  have hj1 := fun w' => zjoin_agg (c : Int) r w' (by omega) (by omega) (by omega) (a : Int) true (by
    unfold join; rw [hmt, hsz, decide_eq_true (by omega), if_pos rfl]; unfold zback; rw [if_neg (by omega), ← ha]) (by rw [hmt, decide_eq_true (by omega)])
  have hj2 := fun w' => zjoin_agg (c : Int) (r + 1) w' (by omega) (by omega) (by omega) (-(a : Int) - 1) true (by
    unfold join; rw [hmt, hsz, decide_eq_true (by omega), if_pos rfl]; unfold zback; rw [if_pos (by omega), ha]; omega) (by rw [hmt, decide_eq_true (by omega)])
  have hj3 := fun w' => zjoin_agg (c : Int) P w' (by omega) (by omega) (by omega) 0 false (by
    unfold join; rw [hmt, decide_eq_false (by omega)]; rfl) (by rw [hmt, decide_eq_false (by omega)])
  have hr64 : r < 9223372036854775808 := by omega
  rw [show ((r + 1 : Nat) : Int) = (r : Int) + 1 by omega] at hj2
  have HJ1 := kept hj1
  have HJ2 := kept hj2
  have HJ3 := kept hj3
  have hP0 : ¬ (P : Int) = 0 := by omega
  clear hj1 hj2 hj3 hc hmt hsz hP hq hr hs ha hpe hre hqP hm hp63 hrP
  go_enter Try.func7, Try.ntmps7
  go_wp2_with fail
  refine (HJ1.out _).mono ?_
  rintro e w1 ⟨rfl, hb1⟩
  have HB1 := kept hb1
  clear hb1
  go_wp2_with fail
  refine (HJ2.out _).mono ?_
  rintro e w2 ⟨rfl, hb2⟩
  have HB2 := kept (HB1.out.trans (hb2.mono HB1.out.size))
  clear hb2
  go_wp2_with fail
  refine (HJ3.out _).mono ?_
  rintro e w3 ⟨rfl, hb3⟩
  have HB3 := kept (HB2.out.trans (hb3.mono HB2.out.size))
  clear hb3
  go_wp2_with (first
    | (go_at_call 16; refine (awake1_calls _).mono ?_; rintro e w9 ⟨rfl, hb9⟩; have HB9 := kept (HB3.out.trans (hb9.mono HB3.out.size)); clear hb9))
  go_ret
  exact ⟨rfl, HB9.out⟩
end Go.Proofs.Ytbeikaplkbaeiaa
