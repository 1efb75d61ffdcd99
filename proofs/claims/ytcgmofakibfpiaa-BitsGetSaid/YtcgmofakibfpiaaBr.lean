/- bits.Reader: what its methods do. -/
import Derived.Test.YtcgmofakibfpiaaRw
namespace Go.Proofs.Ytcgmofakibfpiaa
set_option linter.unusedSimpArgs false
set_option linter.unusedVariables false
open Go.RowKit Mix Own Bits
attribute [local go_sem] max_int min_int

/-- A Reader at block p: the text s, the place. -/
def IsRd (w : World) (p : Nat) (s : ByteArray) (k : Nat) : Prop := Blk w p #[.string s, .int .i64 (k : Int)] 57

set_option maxHeartbeats 1000000 in
theorem left_calls (p : Nat) (s : ByteArray) (k : Nat) (w : World) (h : IsRd w p s k) (hs : s.size ≤ 1000000000000) (hk : k ≤ 8 * s.size) :
    Calls Try.prog 24 #[.pointer (some ⟨p, 0, none⟩)] w fun e w' => e = .returned (.int .i64 (8 * (s.size : Int) - k)) ∧ Below w.heap.size w w' := by
  have c0 : w.cell? ⟨p, 0, none⟩ = some (.string s) := Blk.cell h rfl
  have c1 : w.cell? ⟨p, 1, none⟩ = some (.int .i64 (k : Int)) := Blk.cell h rfl
  have l0 := lat_cell c0
  have l1 := lat_cell c1
  have H := kept h
  clear h
  go_enter Try.func24, Try.ntmps24
  go_wp2_with fail
  refine wp_region_quietL (by kernel_rfl) (by kernel_rfl) ?_
  repeat (go_big_quiet_step (fail))
  refine wpQuiet_nil ?_
  intro nq
  go_wp2_with fail
  go_ret
  exact ⟨rfl, nq.below⟩

set_option maxHeartbeats 1000000 in
theorem rbit_calls (p : Nat) (s : ByteArray) (k : Nat) (w : World) (h : IsRd w p s k) (hs : s.size ≤ 1000000000000) (hk : k < 8 * s.size) :
    Calls Try.prog 25 #[.pointer (some ⟨p, 0, none⟩)] w fun e w' => e = .returned (.int .u64 ((bitS s k).toNat : Int)) ∧ IsRd w' p s (k + 1) ∧ Chg (fun b => b = p) w w' := by
  have c0 : w.cell? ⟨p, 0, none⟩ = some (.string s) := Blk.cell h rfl
  have c1 : w.cell? ⟨p, 1, none⟩ = some (.int .i64 (k : Int)) := Blk.cell h rfl
  have l0 := lat_cell c0
  have l1 := lat_cell c1
  have hix := run_ix (P := Try.prog) (T := 9) Try.underlying9 s ((k : Int) / 8) (k / 8) (by omega) (by omega)
  obtain ⟨b, hb⟩ : ∃ b, b = byteS s (k / 8) := ⟨_, rfl⟩
  have hb8 : b < 256 := by rw [hb]; exact byteS_lt _ _
  rw [← hb] at hix
  have HB := kept hb
  clear hb
  have H := kept h
  clear h
  go_enter Try.func25, Try.ntmps25
  go_wp2_with fail
  refine wp_region_quietL (by kernel_rfl) (by kernel_rfl) ?_
  repeat (go_big_quiet_step (fail))
  refine wpQuiet_nil ?_
  intro nq
  have hbit := and_bit b (k % 8) hb8
  rw [hbit]
  have hB1 : Blk nq.w p #[.string s, .int .i64 (k : Int)] 57 := lat_block H.out nq
  have hch := (Chg.of_below (S := fun b => b = p) nq.below)
  generalize nq.w = w1 at hB1 hch ⊢
  have d1 : w1.cell? ⟨p, 1, none⟩ = some (.int .i64 (k : Int)) := hB1.cell rfl
  have f1 : w1.frozen? ⟨p, 1, none⟩ = false := hB1.free 1
  have HB1 := kept hB1
  have HC1 := kept hch
  clear hbit hB1 hch l0 l1 c0 c1 hix
  go_wp2_with fail
  go_ret
  refine ⟨by rw [HB.out]; rfl, ?_, HC1.out.trans (Chg.setCell w1 ⟨p, 1, none⟩ _) (fun _ _ h => h)⟩
  have := HB1.out.set 1 (.int .i64 ((k : Int) + 1))
  simpa [IsRd] using this

/-- What is got: the number, the error, the place behind. -/
def getS (s : ByteArray) (k : Nat) (n : Int) : Nat × Nat × Nat :=
  if n < 0 ∨ 64 < n then (0, 1, k) else if 8 * (s.size : Int) - k < n then (0, 2, k) else (ofBits (((bitsS s).drop k).take n.toNat), 0, k + n.toNat)

set_option maxHeartbeats 2000000 in
theorem get_ok (p : Nat) (s : ByteArray) (k n : Nat) (w : World) (h : IsRd w p s k) (hs : s.size ≤ 1000000000000) (hk : k ≤ 8 * s.size) (hn : n ≤ 64) (hl : k + n ≤ 8 * s.size) :
    Calls Try.prog 16 #[.pointer (some ⟨p, 0, none⟩), .int .i64 (n : Int)] w fun e w' => e = .returned (.tuple #[.int .u64 (ofBits (((bitsS s).drop k).take n) : Int), .int .i64 0]) ∧
      IsRd w' p s (k + n) ∧ Chg (fun b => b = p) w w' := by
  have H := kept h
  clear h
  have t1 : decide ((n : Int) < 0) = false := by simp
  have t2 : decide ((64 : Int) < (n : Int)) = false := by simp; omega
  have t3 : decide (8 * (s.size : Int) - (k : Int) < (n : Int)) = false := by simp; omega
  go_enter Try.func16, Try.ntmps16
  go_wp2_with (first | (go_at_call 24; refine (left_calls p s k w H.out hs hk).mono ?_; rintro e w1 ⟨rfl, hb1⟩; have HB1 := kept hb1; clear hb1))
  go_loopw [7, 27] (fun s7 s27 wr => ∃ i : Nat, i ≤ n ∧ s27 = .int .i64 (i : Int) ∧ s7 = .int .u64 (ofBits (((bitsS s).drop k).take i) : Int) ∧ IsRd wr p s (k + i) ∧ Chg (fun b => b = p) w wr)
    (fun _ s27 _ => n - (intOf s27).toNat)
  case atStart => exact ⟨0, Nat.zero_le _, rfl, by simp [ofBits], by rw [Nat.add_zero]; exact (HB1.out.block p (Blk.lt H.out)).trans H.out, Chg.of_below HB1.out⟩
  case round =>
    obtain ⟨i, hi, rfl, rfl, hR, hC⟩ := hrel
    have HR := kept hR
    have HC := kept hC
    obtain ⟨z, hz⟩ : ∃ z, z = ofBits (((bitsS s).drop k).take i) := ⟨_, rfl⟩
    rw [← hz]
    have HZ := kept hz
    clear hR hC hz
    by_cases hlt : i < n
    · have hki : k + i < 8 * s.size := by omega
      obtain ⟨y, hy⟩ : ∃ y, y = (bitS s (k + i)).toNat := ⟨_, rfl⟩
      have hy1 : y ≤ 1 := by rw [hy]; cases bitS s (k + i) <;> simp
      have HY := kept hy
      clear hy
      go_wp2_with (first | (go_at_call 25; refine (rbit_calls p s (k + i) wr HR.out hs hki).mono ?_; rw [← HY.out]; rintro e w2 ⟨rfl, hR2, hC2⟩; have HR2 := kept hR2; have HC2 := kept hC2; clear hR2 hC2))
      go_roundw
      case rel =>
        refine ⟨i + 1, by omega, by go_num, ?_, HR2.out, HC.out.trans HC2.out (fun _ _ h => h)⟩
        rw [HZ.out, HY.out, drop_step s k i hki, or_step _ _ i (by simp; omega) (by omega)]
      case measure => simp [intOf]; omega
    · go_wp2_with fail
      go_ret2
      have : i = n := by omega
      subst this
      exact ⟨by rw [HZ.out]; rfl, HR.out, HC.out⟩

set_option maxHeartbeats 1000000 in
theorem get_arg (p : Nat) (s : ByteArray) (k : Nat) (n : Int) (w : World) (hn : n < 0 ∨ 64 < n) :
    Calls Try.prog 16 #[.pointer (some ⟨p, 0, none⟩), .int .i64 n] w fun e w' => e = .returned (.tuple #[.int .u64 0, .int .i64 1]) ∧ w = w' := by
  by_cases h0 : n < 0
  · have t1 : decide (n < 0) = true := by simp [h0]
    clear hn
    go_enter Try.func16, Try.ntmps16
    go_wp2_with fail
    go_ret2
    exact ⟨rfl, rfl⟩
  · have t1 : decide (n < 0) = false := by simp [h0]
    have t2 : decide ((64 : Int) < n) = true := by simp; omega
    have h1 : (64 : Int) < n := by omega
    clear hn
    go_enter Try.func16, Try.ntmps16
    go_wp2_with fail
    go_ret2
    exact ⟨rfl, rfl⟩

set_option maxHeartbeats 1000000 in
theorem get_more (p : Nat) (s : ByteArray) (k n : Nat) (w : World) (h : IsRd w p s k) (hs : s.size ≤ 1000000000000) (hk : k ≤ 8 * s.size) (hn : n ≤ 64) (hl : 8 * s.size < k + n) :
    Calls Try.prog 16 #[.pointer (some ⟨p, 0, none⟩), .int .i64 (n : Int)] w fun e w' => e = .returned (.tuple #[.int .u64 0, .int .i64 2]) ∧ Below w.heap.size w w' := by
  have H := kept h
  clear h
  have t1 : decide ((n : Int) < 0) = false := by simp
  have t2 : decide ((64 : Int) < (n : Int)) = false := by simp; omega
  have t3 : decide (8 * (s.size : Int) - (k : Int) < (n : Int)) = true := by simp; omega
  go_enter Try.func16, Try.ntmps16
  go_wp2_with (first | (go_at_call 24; refine (left_calls p s k w H.out hs hk).mono ?_; rintro e w1 ⟨rfl, hb1⟩; have HB1 := kept hb1; clear hb1))
  go_ret2
  exact ⟨rfl, HB1.out⟩

/-- Get, whatever is asked. -/
theorem get_calls (p : Nat) (s : ByteArray) (k : Nat) (n : Int) (w : World) (h : IsRd w p s k) (hs : s.size ≤ 1000000000000) (hk : k ≤ 8 * s.size) :
    Calls Try.prog 16 #[.pointer (some ⟨p, 0, none⟩), .int .i64 n] w fun e w' => e = .returned (.tuple #[.int .u64 ((getS s k n).1 : Int), .int .i64 ((getS s k n).2.1 : Int)]) ∧
      IsRd w' p s (getS s k n).2.2 ∧ Chg (fun b => b = p) w w' := by
  unfold getS
  by_cases hn : n < 0 ∨ 64 < n
  · rw [if_pos hn]
    exact (get_arg p s k n w hn).mono fun e w' ⟨he, hw⟩ => by subst hw; exact ⟨he, h, Chg.refl _ _⟩
  · rw [if_neg hn]
    obtain ⟨m, rfl⟩ := Int.eq_ofNat_of_zero_le (show 0 ≤ n by omega)
    rw [Int.toNat_natCast]
    by_cases hl : 8 * (s.size : Int) - k < (m : Int)
    · rw [if_pos hl]
      exact (get_more p s k m w h hs hk (by omega) (by omega)).mono fun e w' ⟨he, hb⟩ => ⟨he, (hb.block p (Blk.lt h)).trans h, Chg.of_below hb⟩
    · rw [if_neg hl]
      exact get_ok p s k m w h hs hk (by omega) (by omega)

theorem getS_le (s : ByteArray) (k : Nat) (n : Int) (hk : k ≤ 8 * s.size) : (getS s k n).2.2 ≤ 8 * s.size := by
  unfold getS
  split
  · exact hk
  · split
    · exact hk
    · show k + n.toNat ≤ _; omega

/-- Whether nothing but noughts is left, and these fewer than eight. -/
def restS (s : ByteArray) (k : Nat) : Bool := decide (8 * s.size < k + 8) && ((bitsS s).drop k).all fun b => !b

theorem restS_byte (s : ByteArray) (k : Nat) (h1 : k < 8 * s.size) (h2 : 8 * s.size < k + 8) : restS s k = (byteS s (s.size - 1) / 2 ^ (k % 8) == 0) := by
  unfold restS
  rw [decide_eq_true h2, Bool.true_and, Bool.eq_iff_iff, ← ofBits_zero, beq_iff_eq]
  have e : ofBits ((bitsS s).drop k) = byteS s (s.size - 1) / 2 ^ (k % 8) := by
    apply Nat.eq_of_testBit_eq
    intro i
    rw [testBit_ofBits, List.getD_eq_getElem?_getD, List.getElem?_drop, ← List.getD_eq_getElem?_getD, getD_bitsS, Nat.testBit_div_two_pow]
    by_cases hi : k + i < 8 * s.size
    · have e1 : (k + i) / 8 = s.size - 1 := by omega
      have e2 : (k + i) % 8 = k % 8 + i := by omega
      simp only [hi, decide_true, Bool.true_and, bitS, e1, e2]
      congr 1; omega
    · simp only [hi, decide_false, Bool.false_and]
      symm
      apply Nat.testBit_lt_two_pow
      have hb := byteS_lt s (s.size - 1)
      have : 2 ^ 8 ≤ 2 ^ (i + k % 8) := Nat.pow_le_pow_right (by decide) (by omega)
      omega
  rw [e]

set_option maxHeartbeats 2000000 in
theorem rest_calls (p : Nat) (s : ByteArray) (k : Nat) (w : World) (h : IsRd w p s k) (hs : s.size ≤ 1000000000000) (hk : k ≤ 8 * s.size) :
    Calls Try.prog 18 #[.pointer (some ⟨p, 0, none⟩)] w fun e w' => e = .returned (.bool (restS s k)) ∧ Below w.heap.size w w' := by
  have c0 : w.cell? ⟨p, 0, none⟩ = some (.string s) := Blk.cell h rfl
  have c1 : w.cell? ⟨p, 1, none⟩ = some (.int .i64 (k : Int)) := Blk.cell h rfl
  have H := kept h
  clear h
  by_cases h8 : k + 8 ≤ 8 * s.size
  · have e : restS s k = false := by unfold restS; rw [decide_eq_false (by omega)]; rfl
    rw [e]
    have t1 : decide ((8 : Int) ≤ 8 * (s.size : Int) - (k : Int)) = true := by simp; omega
    go_enter Try.func18, Try.ntmps18
    go_wp2_with (first | (go_at_call 24; refine (left_calls p s k w H.out hs hk).mono ?_; rintro e w1 ⟨rfl, hb1⟩; have HB1 := kept hb1; clear hb1))
    go_ret
    exact ⟨rfl, HB1.out⟩
  · have t1 : decide ((8 : Int) ≤ 8 * (s.size : Int) - (k : Int)) = false := by simp; omega
    by_cases h0 : k = 8 * s.size
    · have e : restS s k = true := by unfold restS; rw [decide_eq_true (by omega), List.drop_eq_nil_of_le (by simp; omega)]; rfl
      rw [e]
      have t2 : (8 * (s.size : Int) - (k : Int) == 0) = true := by rw [beq_iff_eq]; omega
      go_enter Try.func18, Try.ntmps18
      go_wp2_with (first | (go_at_call 24; refine (left_calls p s k w H.out hs hk).mono ?_; rintro e w1 ⟨rfl, hb1⟩; have h1 : IsRd w1 p s k := (hb1.block p (Blk.lt H.out)).trans H.out; have l0 := lat_cell (Blk.cell h1 (i := 0) rfl); have l1 := lat_cell (Blk.cell h1 (i := 1) rfl); have H1 := kept h1; have HB1 := kept hb1; clear hb1 h1))
      refine wp_region_quietL (by kernel_rfl) (by kernel_rfl) ?_
      repeat (go_big_quiet_step ((go_at_call 24; exact lat_call (left_calls p s k _ (lat_block H1.out _) hs hk))))
      refine wpQuiet_nil ?_
      intro nq
      go_wp2_with fail
      go_ret
      exact ⟨rfl, HB1.out.trans (nq.below.mono HB1.out.size)⟩
    · have e := restS_byte s k (by omega) (by omega)
      rw [e]
      have t2 : (8 * (s.size : Int) - (k : Int) == 0) = false := by rw [beq_eq_false_iff_ne]; omega
      have hix := run_ix (P := Try.prog) (T := 9) Try.underlying9 s ((s.size : Int) - 1) (s.size - 1) (by omega) (by omega)
      obtain ⟨b, hb⟩ : ∃ b, b = byteS s (s.size - 1) := ⟨_, rfl⟩
      have hb8 : b < 256 := by rw [hb]; exact byteS_lt _ _
      rw [← hb] at hix
      have HB := kept hb
      clear hb e
      rw [← HB.out]
      have hbq : Kept (((b : Int) / 2 ^ (k % 8) == 0) = (b / 2 ^ (k % 8) == 0)) := kept (by
        have e : ((b : Int) / 2 ^ (k % 8)) = ((b / 2 ^ (k % 8) : Nat) : Int) := by simp
        rw [Bool.eq_iff_iff, beq_iff_eq, beq_iff_eq, e]
        omega)
      go_enter Try.func18, Try.ntmps18
      go_wp2_with (first | (go_at_call 24; refine (left_calls p s k w H.out hs hk).mono ?_; rintro e w1 ⟨rfl, hb1⟩; have h1 : IsRd w1 p s k := (hb1.block p (Blk.lt H.out)).trans H.out; have l0 := lat_cell (Blk.cell h1 (i := 0) rfl); have l1 := lat_cell (Blk.cell h1 (i := 1) rfl); have H1 := kept h1; have HB1 := kept hb1; clear hb1 h1))
      refine wp_region_quietL (by kernel_rfl) (by kernel_rfl) ?_
      repeat (go_big_quiet_step ((go_at_call 24; exact lat_call (left_calls p s k _ (lat_block H1.out _) hs hk))))
      refine wpQuiet_nil ?_
      intro nq
      go_wp2_with fail
      go_ret
      exact ⟨by show Ending.returned (Value.bool ((b : Int) / 2 ^ (k % 8) == 0)) = _; rw [hbq.out], HB1.out.trans (nq.below.mono HB1.out.size)⟩
end Go.Proofs.Ytcgmofakibfpiaa
