/- zig: what its functions return. -/
import Derived.Test.YtbeikaplkbaeiaaProg
import Derived.Test.YtbeikaplkbaeiaaMix
import Derived.Test.YtbeikaplkbaeiaaOwn
import Derived.Test.YtbeikaplkbaeiaaZm
import Derived.Test.YtbeikaplkbaeiaaLen64
import Derived.WalkSpells
import Derived.WalkLawsBesides
import Derived.BigQuiet
import Derived.Lib.Hide
import Derived.Lib.Zigzag
import Derived.Deep.DeepCutAuto
namespace Go.Proofs.Ytbeikaplkbaeiaa
set_option linter.unusedSimpArgs false
set_option linter.unusedVariables false
open Go.RowKit Mix Own Zig

theorem i64_xor_zero (x : Nat) (hx : x < 9223372036854775808) : bits .xor .i64 (x : Int) 0 = (x : Int) := by
  show IntKind.i64.wrap ((BitVec.ofInt 64 (x : Int) ^^^ BitVec.ofInt 64 0).toNat : Int) = _
  have h1 : (BitVec.ofInt 64 0).toNat = 0 := by decide
  have h2 : (BitVec.ofInt 64 (x : Int)).toNat = x := by
    rw [BitVec.ofInt_natCast, BitVec.toNat_ofNat]; exact Nat.mod_eq_of_lt (by omega)
  rw [BitVec.toNat_xor, h1, h2, Nat.xor_zero, IntKind.wrap_i64]
  omega
theorem i64_xor_neg (x : Nat) (hx : x < 9223372036854775808) : bits .xor .i64 (x : Int) (-1) = -(x : Int) - 1 := by
  rw [← Go.Lib.i64_not x hx]
  show IntKind.i64.wrap ((BitVec.ofInt 64 (x : Int) ^^^ BitVec.ofInt 64 (-1)).toNat : Int) = IntKind.i64.wrap ((BitVec.ofInt 64 (-1) ^^^ BitVec.ofInt 64 (x : Int)).toNat : Int)
  rw [BitVec.xor_comm]

theorem zmap_bits (v : Int) (h0 : -9223372036854775808 ≤ v) (h1 : v ≤ 9223372036854775807) :
    bits .xor .u64 (IntKind.u64.wrap (IntKind.u64.wrap v * 2)) (IntKind.u64.wrap (v / 9223372036854775808)) = (zmap v : Int) := by
  by_cases hv : v < 0
  · have e1 : IntKind.u64.wrap (IntKind.u64.wrap v * 2) = (((2 * v + 18446744073709551616).toNat : Nat) : Int) := by
      rw [IntKind.wrap_u64, IntKind.wrap_u64]
      omega
    have e2 : IntKind.u64.wrap (v / 9223372036854775808) = ((2 ^ 64 - 1 : Nat) : Int) := by
      rw [IntKind.wrap_u64]
      omega
    rw [e1, e2, bits_xor_u64_nat _ _ (by omega) (by decide), Nat.xor_comm, Go.Lib.xor_ones64 _ (by omega)]
    unfold zmap
    rw [if_pos hv]
    omega
  · have e1 : IntKind.u64.wrap (IntKind.u64.wrap v * 2) = (((2 * v).toNat : Nat) : Int) := by
      rw [IntKind.wrap_u64, IntKind.wrap_u64]
      omega
    have e2 : IntKind.u64.wrap (v / 9223372036854775808) = ((0 : Nat) : Int) := by
      rw [IntKind.wrap_u64]
      omega
    rw [e1, e2, bits_xor_u64_nat _ _ (by omega) (by decide), Nat.xor_zero]
    unfold zmap
    rw [if_neg hv]

theorem zback_bits (u : Nat) (h : u < 18446744073709551616) :
    bits .xor .i64 ((u : Int) / 2) (wrap64 (-wrap64 (bits .and .u64 (u : Int) 1))) = zback u := by
  rw [Go.Lib.u64_and1 _ (by omega) (by omega)]
  have e : (u : Int) / 2 = ((u / 2 : Nat) : Int) := by omega
  unfold zback
  by_cases ho : u % 2 = 1
  · have e2 : wrap64 (-wrap64 ((u : Int) % 2)) = -1 := by unfold wrap64; omega
    rw [e, e2, i64_xor_neg _ (by omega), if_pos ho]
  · have e2 : wrap64 (-wrap64 ((u : Int) % 2)) = 0 := by unfold wrap64; omega
    rw [e, e2, i64_xor_zero _ (by omega), if_neg ho]

theorem top_bits (c : Nat) (h1 : c ≤ 64) : IntKind.u64.wrap ((2 : Int) ^ (c - 1)) = ((2 ^ (c - 1) : Nat) : Int) := by
  have h2 := pow_le63 (c - 1) (by omega)
  have e : ((2 : Int) ^ (c - 1)) = ((2 ^ (c - 1) : Nat) : Int) := by simp
  rw [e, IntKind.wrap_u64]
  generalize 2 ^ (c - 1) = P at h2
  omega

theorem zmap_calls (v : Int) (w : World) (h0 : -9223372036854775808 ≤ v) (h1 : v ≤ 9223372036854775807) :
    Calls Try.prog 10 #[.int .i64 v] w fun e w' => e = .returned (.int .u64 (zmap v : Int)) ∧ w = w' := by
  rw [← zmap_bits v h0 h1]
  go_enter Try.func10, Try.ntmps10
  go_wp2_with fail
  go_ret
  exact ⟨rfl, rfl⟩

theorem zback_calls (u : Nat) (w : World) (h : u < 18446744073709551616) :
    Calls Try.prog 12 #[.int .u64 (u : Int)] w fun e w' => e = .returned (.int .i64 (zback u)) ∧ w = w' := by
  rw [← zback_bits u h]
  go_enter Try.func12, Try.ntmps12
  go_wp2_with fail
  go_ret
  exact ⟨rfl, rfl⟩

theorem ztop_calls (c : Nat) (w : World) (h0 : 1 ≤ c) (h1 : c ≤ 64) :
    Calls Try.prog 17 #[.int .i64 (c : Int)] w fun e w' => e = .returned (.int .u64 ((2 ^ (c - 1) : Nat) : Int)) ∧ w = w' := by
  rw [← top_bits c h1]
  go_enter Try.func17, Try.ntmps17
  go_wp2_with fail
  go_ret
  exact ⟨rfl, rfl⟩

theorem len64_calls (u : Nat) (w : World) (h : u < 18446744073709551616) :
    Calls Try.prog 19 #[.int .u64 (u : Int)] w fun e w' => e = .returned (.int .i64 (bl u : Int)) ∧ w = w' :=
  (len64_lib (u : Int) w (by omega) (by omega)).mono fun e w' ⟨he, hw⟩ => ⟨by rw [he]; rfl, hw.symm⟩

/-- What is split of a number. -/
def partOf (c : Int) (r : Nat) : Value := .agg #[.int .i64 c, .int .u64 (r : Int)]

set_option maxHeartbeats 2000000 in
theorem zsplit_calls (v : Int) (w : World) (h0 : -9223372036854775808 ≤ v) (h1 : v ≤ 9223372036854775807) :
    Calls Try.prog 14 #[.int .i64 v] w fun e w' => e = .returned (partOf (bl (zmap v) : Int) (rstU (zmap v))) ∧ Below w.heap.size w w' := by
  have hu := zmap_lt v h0 h1
  obtain ⟨u, hue⟩ : ∃ u, u = zmap v := ⟨_, rfl⟩
  rw [← hue] at hu
  have hm := zmap_calls v (w.alloc (.cells #[.int .i64 0, .int .u64 0] 24)) h0 h1
  rw [← hue] at hm
  rw [← hue]
  have hl64 := bl_le u hu
  have hb := len64_calls u (w.alloc (.cells #[.int .i64 0, .int .u64 0] 24)) hu
  obtain ⟨n, hn⟩ : ∃ n, n = bl u := ⟨_, rfl⟩
  rw [← hn] at hb hl64
  rw [← hn]
  by_cases hz : u = 0
  · have hn0 : n = 0 := by rw [hn, hz, bl_zero]
    have hr : rstU u = 0 := by rw [hz]; decide
    have e : partOf (n : Int) (rstU u) = .agg #[.int .i64 0, .int .u64 0] := by rw [hr, hn0]; rfl
    rw [e]
    have t0 : ((n : Int) == 0) = true := by rw [beq_iff_eq]; omega
    have HM := kept hm
    have HB := kept hb
    clear hm hb hu hr e hn hue hz hn0
    go_enter Try.func14, Try.ntmps14
    go_wp2_with (first
      | (go_at_call 10; refine HM.out.mono ?_; rintro e w' ⟨rfl, rfl⟩)
      | (go_at_call 19; refine HB.out.mono ?_; rintro e w' ⟨rfl, rfl⟩))
    exact bodyPost_ret (results_cell_row rfl _ _ w.heap.size 24 #[.int .i64 0, .int .u64 0] (0, 0) _ rfl (Blk.fresh _ _ _) Try.underlying24 rfl (by kernel_rfl)) rfl ⟨rfl, (Below.refl _ _).alloc (Nat.le_refl _) _⟩
  · have hn1 := bl_pos u hz hu
    have hs := bl_spec (u + 1) u (by omega) hz hu
    rw [← hn] at hn1 hs
    have hr : rstU u = u - 2 ^ (n - 1) := by unfold rstU; rw [← hn, if_neg (by omega)]
    rw [hr]
    obtain ⟨P, hP⟩ : ∃ P, P = 2 ^ (n - 1) := ⟨_, rfl⟩
    have ht := ztop_calls n (w.alloc (.cells #[.int .i64 0, .int .u64 0] 24)) hn1 hl64
    rw [← hP] at ht hs
    rw [← hP]
    obtain ⟨r, hre⟩ : ∃ r, r = u - P := ⟨_, rfl⟩
    rw [← hre]
    have hsub : IntKind.u64.wrap ((u : Int) - (P : Int)) = (r : Int) := by rw [IntKind.wrap_u64]; omega
    have t0 : ((n : Int) == 0) = false := by rw [beq_eq_false_iff_ne]; omega
    have HM := kept hm
    have HB := kept hb
    have HT := kept ht
    have hPu : P ≤ u := hs.1
    clear hm hb ht hn hr hP hs hue hre
    go_enter Try.func14, Try.ntmps14
    go_wp2_with (first
      | (go_at_call 10; refine HM.out.mono ?_; rintro e w' ⟨rfl, rfl⟩)
      | (go_at_call 19; refine HB.out.mono ?_; rintro e w' ⟨rfl, rfl⟩)
      | (go_at_call 17; refine HT.out.mono ?_; rintro e w' ⟨rfl, rfl⟩))
    exact bodyPost_ret (results_cell_row rfl _ _ w.heap.size 24 #[.int .i64 (n : Int), .int .u64 (r : Int)] (0, 0) _ rfl (Blk.fresh _ _ _) Try.underlying24 rfl (by kernel_rfl)) rfl ⟨rfl, (Below.refl _ _).alloc (Nat.le_refl _) _⟩

theorem may_top (n r : Nat) (h1 : 1 ≤ n) (h2 : n ≤ 64) : may (n : Int) r = decide (r < 2 ^ (n - 1)) := by
  unfold may
  rw [decide_eq_true (by omega), Bool.true_and, if_neg (by omega), Int.toNat_natCast]

set_option maxHeartbeats 2000000 in
theorem zjoin_calls (c : Int) (r : Nat) (w : World) (h0 : -9223372036854775808 ≤ c) (h1 : c ≤ 9223372036854775807) (hr : r < 18446744073709551616) :
    Calls Try.prog 8 #[partOf c r] w fun e w' => e = .returned (.tuple #[.int .i64 (join c r), .bool (may c r)]) ∧ Below w.heap.size w w' := by
  unfold partOf
  by_cases hz : c = 0 ∧ r = 0
  · obtain ⟨hc, hr0⟩ := hz
    have hm : may c r = true := by rw [hc, hr0]; decide
    have hj : join c r = 0 := by rw [hc, hr0]; decide
    rw [hm, hj]
    have t0 : (c == 0) = true := by rw [beq_iff_eq]; exact hc
    have t1 : ((r : Int) == 0) = true := by rw [beq_iff_eq]; omega
    clear hm hj hc hr0 h0 h1 hr
    go_enter Try.func8, Try.ntmps8
    go_wp2_with fail
    go_ret2
    exact ⟨rfl, (Below.refl _ _).alloc (Nat.le_refl _) _⟩
  rcases (show (c = 0 ∧ ¬ r = 0) ∨ c < 0 ∨ 64 < c ∨ (1 ≤ c ∧ c ≤ 64) by omega) with hc | hc | hc | hc
  · have hm : may c r = false := by
      unfold may; rw [hc.1]; simp [hc.2]
    have hj : join c r = 0 := by unfold join; rw [hm]; rfl
    have t0 : (c == 0) = true := by rw [beq_iff_eq]; exact hc.1
    have t1 : ((r : Int) == 0) = false := by rw [beq_eq_false_iff_ne]; omega
    have t2 : decide (c < 1) = true := by simp; omega
    rw [hm, hj]
    clear hm hj h0 h1 hr hz hc
    go_enter Try.func8, Try.ntmps8
    go_wp2_with fail
    generalize hwa : World.alloc w _ = wa
    have hb : Below w.heap.size w wa := by rw [← hwa]; exact (Below.refl _ _).alloc (Nat.le_refl _) _
    have hB : Blk wa w.heap.size #[.int .i64 c, .int .u64 (r : Int)] 24 := by rw [← hwa]; exact Blk.fresh _ _ _
    have l0 := lat_cell (hB.cell (i := 0) rfl)
    have l1 := lat_cell (hB.cell (i := 1) rfl)
    have HB := kept hb
    have HBk := kept hB
    clear hwa hb hB
    refine wp_region_quietL (by kernel_rfl) (by kernel_rfl) ?_
    repeat (go_big_quiet_step (fail))
    refine wpQuiet_nil ?_
    intro nq
    go_wp2_with fail
    go_ret2
    exact ⟨rfl, HB.out.trans (nq.below.mono HB.out.size)⟩
  · have hm : may c r = false := by
      unfold may; rw [decide_eq_false (by omega)]; rfl
    have hj : join c r = 0 := by unfold join; rw [hm]; rfl
    have t0 : (c == 0) = false := by rw [beq_eq_false_iff_ne]; omega
    have t2 : decide (c < 1) = true := by simp; omega
    rw [hm, hj]
    clear hm hj h0 h1 hr hz hc
    go_enter Try.func8, Try.ntmps8
    go_wp2_with fail
    generalize hwa : World.alloc w _ = wa
    have hb : Below w.heap.size w wa := by rw [← hwa]; exact (Below.refl _ _).alloc (Nat.le_refl _) _
    have hB : Blk wa w.heap.size #[.int .i64 c, .int .u64 (r : Int)] 24 := by rw [← hwa]; exact Blk.fresh _ _ _
    have l0 := lat_cell (hB.cell (i := 0) rfl)
    have l1 := lat_cell (hB.cell (i := 1) rfl)
    have HB := kept hb
    have HBk := kept hB
    clear hwa hb hB
    refine wp_region_quietL (by kernel_rfl) (by kernel_rfl) ?_
    repeat (go_big_quiet_step (fail))
    refine wpQuiet_nil ?_
    intro nq
    go_wp2_with fail
    go_ret2
    exact ⟨rfl, HB.out.trans (nq.below.mono HB.out.size)⟩
  · have hm : may c r = false := by
      unfold may; rw [decide_eq_false (by omega)]; rfl
    have hj : join c r = 0 := by unfold join; rw [hm]; rfl
    have t0 : (c == 0) = false := by rw [beq_eq_false_iff_ne]; omega
    have t2 : decide (c < 1) = false := by simp; omega
    have t3 : decide ((65 : Int) ≤ c) = true := by simp; omega
    rw [hm, hj]
    clear hm hj h0 h1 hr hz hc
    go_enter Try.func8, Try.ntmps8
    go_wp2_with fail
    generalize hwa : World.alloc w _ = wa
    have hb : Below w.heap.size w wa := by rw [← hwa]; exact (Below.refl _ _).alloc (Nat.le_refl _) _
    have hB : Blk wa w.heap.size #[.int .i64 c, .int .u64 (r : Int)] 24 := by rw [← hwa]; exact Blk.fresh _ _ _
    have l0 := lat_cell (hB.cell (i := 0) rfl)
    have l1 := lat_cell (hB.cell (i := 1) rfl)
    have HB := kept hb
    have HBk := kept hB
    clear hwa hb hB
    refine wp_region_quietL (by kernel_rfl) (by kernel_rfl) ?_
    repeat (go_big_quiet_step (fail))
    refine wpQuiet_nil ?_
    intro nq
    go_wp2_with fail
    go_ret2
    exact ⟨rfl, HB.out.trans (nq.below.mono HB.out.size)⟩
  · obtain ⟨n, rfl⟩ := Int.eq_ofNat_of_zero_le (show 0 ≤ c by omega)
    have hn1 : 1 ≤ n := by omega
    have hn2 : n ≤ 64 := by omega
    have t0 : ((n : Int) == 0) = false := by rw [beq_eq_false_iff_ne]; omega
    have t2 : decide ((n : Int) < 1) = false := by simp; omega
    have t3 : decide ((65 : Int) ≤ (n : Int)) = false := by simp; omega
    have hmt := may_top n r hn1 hn2
    have hp63 := pow_le63 (n - 1) (by omega)
    obtain ⟨P, hP⟩ : ∃ P, P = 2 ^ (n - 1) := ⟨_, rfl⟩
    have ht : ∀ w', Calls Try.prog 17 #[.int .i64 (n : Int)] w' fun e w'' => e = .returned (.int .u64 (P : Int)) ∧ w' = w'' := fun w' => by
      rw [hP]; exact ztop_calls n w' hn1 hn2
    rw [← hP] at hmt hp63
    have HT := kept ht
    clear ht
    by_cases hlt : r < P
    · have hm : may (n : Int) r = true := by rw [hmt]; simpa using hlt
      have hj : join (n : Int) r = zback (P + r) := by
        unfold join Zig.sizeOf
        rw [hm, if_pos rfl, if_neg (by omega), Int.toNat_natCast, ← hP]
      have hbk : ∀ w', Calls Try.prog 12 #[.int .u64 ((P : Int) + (r : Int))] w' fun e w'' => e = .returned (.int .i64 (zback (P + r))) ∧ w' = w'' := fun w' => by
        have := zback_calls (P + r) w' (by omega)
        rw [show ((P + r : Nat) : Int) = (P : Int) + (r : Int) by omega] at this
        exact this
      have hw2 : IntKind.u64.wrap ((P : Int) + (r : Int)) = (P : Int) + (r : Int) := by rw [IntKind.wrap_u64]; omega
      obtain ⟨J, hJ⟩ : ∃ J, J = zback (P + r) := ⟨_, rfl⟩
      rw [← hJ] at hbk hj
      have HBack := kept hbk
      have t4 : decide ((P : Int) ≤ (r : Int)) = false := by simp; omega
      rw [hm, hj]
      clear hm hj h0 h1 hr hz hc hmt hP hbk hJ
      go_enter Try.func8, Try.ntmps8
      go_wp2_with fail
      generalize hwa : World.alloc w _ = wa
      have hb : Below w.heap.size w wa := by rw [← hwa]; exact (Below.refl _ _).alloc (Nat.le_refl _) _
      have hB : Blk wa w.heap.size #[.int .i64 (n : Int), .int .u64 (r : Int)] 24 := by rw [← hwa]; exact Blk.fresh _ _ _
      have l0 := lat_cell (hB.cell (i := 0) rfl)
      have l1 := lat_cell (hB.cell (i := 1) rfl)
      have HB := kept hb
      have HBk := kept hB
      clear hwa hb hB
      refine wp_region_quietL (by kernel_rfl) (by kernel_rfl) ?_
      repeat (go_big_quiet_step ((first | (go_at_call 17; exact lat_call_same (HT.out _)))))
      refine wpQuiet_nil ?_
      intro nq
      have HB2 := kept (HB.out.trans (nq.below.mono HB.out.size))
      have HBk2 : Kept (Blk nq.w w.heap.size #[.int .i64 (n : Int), .int .u64 (r : Int)] 24) := kept (lat_block HBk.out nq)
      clear l0 l1
      generalize nq.w = w2 at HB2 HBk2 ⊢
      have l0 := lat_cell (HBk2.out.cell (i := 0) rfl)
      have l1 := lat_cell (HBk2.out.cell (i := 1) rfl)
      go_wp2_with fail
      refine wp_region_quietL (by kernel_rfl) (by kernel_rfl) ?_
      repeat (go_big_quiet_step ((first | (go_at_call 17; exact lat_call_same (HT.out _)) | (go_at_call 12; exact lat_call_same (HBack.out _)))))
      refine wpQuiet_nil ?_
      intro nq2
      go_wp2_with fail
      go_ret2
      exact ⟨rfl, HB2.out.trans (nq2.below.mono HB2.out.size)⟩
    · have hm : may (n : Int) r = false := by rw [hmt]; simpa using hlt
      have hj : join (n : Int) r = 0 := by unfold join; rw [hm]; rfl
      have t4 : decide ((P : Int) ≤ (r : Int)) = true := by simp; omega
      rw [hm, hj]
      clear hm hj h0 h1 hr hz hc hmt hP
      go_enter Try.func8, Try.ntmps8
      go_wp2_with fail
      generalize hwa : World.alloc w _ = wa
      have hb : Below w.heap.size w wa := by rw [← hwa]; exact (Below.refl _ _).alloc (Nat.le_refl _) _
      have hB : Blk wa w.heap.size #[.int .i64 (n : Int), .int .u64 (r : Int)] 24 := by rw [← hwa]; exact Blk.fresh _ _ _
      have l0 := lat_cell (hB.cell (i := 0) rfl)
      have l1 := lat_cell (hB.cell (i := 1) rfl)
      have HB := kept hb
      have HBk := kept hB
      clear hwa hb hB
      refine wp_region_quietL (by kernel_rfl) (by kernel_rfl) ?_
      repeat (go_big_quiet_step ((first | (go_at_call 17; exact lat_call_same (HT.out _)))))
      refine wpQuiet_nil ?_
      intro nq
      go_wp2_with fail
      go_ret2
      exact ⟨rfl, HB.out.trans (nq.below.mono HB.out.size)⟩
end Go.Proofs.Ytbeikaplkbaeiaa
