/- back.Reader: what its functions do. -/
import Derived.Test.YtdbnmijnjfbibaaBf
import Derived.Test.YtdbnmijnjfbibaaLen8
import Derived.Test.YtdbnmijnjfbibaaZm
import Derived.Test.YtdbnmijnjfbibaaRn
namespace Go.Proofs.Ytdbnmijnjfbibaa
set_option linter.unusedSimpArgs false
set_option linter.unusedVariables false
open Go.RowKit Mix Own Bits
attribute [local go_sem] max_int min_int

/-- The last byte of a text; where its highest bit lies. -/
def lastB (s : ByteArray) : Nat := byteS s (s.size - 1)
def topS (s : ByteArray) : Nat := 8 * (s.size - 1) + (Zig.bl (lastB s) - 1)
theorem lastB_lt (s : ByteArray) : lastB s < 256 := byteS_lt _ _
theorem bl_last (s : ByteArray) (h : lastB s ≠ 0) : 1 ≤ Zig.bl (lastB s) ∧ Zig.bl (lastB s) ≤ 8 := by
  have h1 := lastB_lt s
  exact ⟨Zig.bl_pos _ h (by omega), Go.Lib.bitLen_le _ 8 (by decide) (by omega)⟩
theorem topS_lt (s : ByteArray) (h0 : 0 < s.size) (h : lastB s ≠ 0) : topS s < 8 * s.size := by
  have := bl_last s h
  unfold topS; omega

/-- What is got of the bits before left. -/
def getE (s : ByteArray) (left : Nat) (n : Int) : Nat × Nat × Nat :=
  if n < 0 ∨ 64 < n then (0, 1, left) else if (left : Int) < n then (0, 2, left) else (ofBits (((bitsS s).drop (left - n.toNat)).take n.toNat), 0, left - n.toNat)

abbrev IsE (w : World) (p : Nat) (s : ByteArray) (k : Nat) : Prop := Blk w p #[.string s, .int .i64 (k : Int)] 56
theorem IsE.later {w w' : World} {p : Nat} {s : ByteArray} {k : Nat} (h : IsE w p s k) (hc : Below w.heap.size w w') : IsE w' p s k := (hc.block p (Blk.lt h)).trans h
theorem IsE.keep {w w' : World} {S : Nat → Prop} {p : Nat} {s : ByteArray} {k : Nat} (h : IsE w p s k) (hc : Chg S w w') (hp : ¬ S p) : IsE w' p s k := hc.keep h hp

theorem bfrom_empty (s : ByteArray) (w : World) (h : s.size = 0) :
    Calls Try.prog 10 #[.string s] w fun e w' => e = .returned (.tuple #[.pointer none, .int .i64 3]) ∧ w = w' := by
  have hs : s = ⟨#[]⟩ := by
    cases s with
    | mk d => have : d = #[] := Array.eq_empty_of_size_eq_zero h
              rw [this]
  subst hs
  go_enter Try.func10, Try.ntmps10
  go_wp2_with fail
  go_ret2
  exact ⟨rfl, rfl⟩

theorem toList_ne (s : ByteArray) (h : 0 < s.size) : s.toList.isEmpty = false := by
  rw [ByteArray.toList_eq, List.isEmpty_eq_false_iff]
  intro e
  have : s.data.toList.length = 0 := by rw [e]; rfl
  rw [Array.length_toList] at this
  have h2 : s.data.size = s.size := rfl
  omega

theorem bfrom_zero (s : ByteArray) (w : World) (h : 0 < s.size) (hs : s.size ≤ 1000000000000) (h0 : lastB s = 0) :
    Calls Try.prog 10 #[.string s] w fun e w' => e = .returned (.tuple #[.pointer none, .int .i64 3]) ∧ w = w' := by
  have hne := toList_ne s h
  have hix := run_ix (P := Try.prog) (T := 9) Try.underlying9 s ((s.size : Int) - 1) (s.size - 1) (by omega) (by omega)
  rw [show byteS s (s.size - 1) = 0 from h0] at hix
  have hs2 : s.size < 2000000000000 := by omega
  clear hs
  go_enter Try.func10, Try.ntmps10
  go_wp2_with fail
  go_ret2
  exact ⟨rfl, rfl⟩

theorem bfrom_calls (s : ByteArray) (w : World) (h : 0 < s.size) (hs : s.size ≤ 1000000000000) (h0 : lastB s ≠ 0) :
    Calls Try.prog 10 #[.string s] w fun e w' => ∃ p, e = .returned (.tuple #[.pointer (some ⟨p, 0, none⟩), .int .i64 0]) ∧ IsE w' p s (topS s) ∧ Below w.heap.size w w' ∧ w.heap.size ≤ p := by
  have hne := toList_ne s h
  have hix := run_ix (P := Try.prog) (T := 9) Try.underlying9 s ((s.size : Int) - 1) (s.size - 1) (by omega) (by omega)
  have hbl := bl_last s h0
  obtain ⟨b, hb⟩ : ∃ b, b = lastB s := ⟨_, rfl⟩
  have hb8 : b < 256 := by rw [hb]; exact lastB_lt s
  rw [show byteS s (s.size - 1) = b from hb.symm] at hix
  have hb0 : ((b : Int) == 0) = false := by rw [beq_eq_false_iff_ne]; omega
  have hl := len8_calls b w hb8
  obtain ⟨L, hL⟩ : ∃ L, L = Go.Lib.bitLen b := ⟨_, rfl⟩
  have htop : 8 * (s.size : Int) - 9 + (L : Int) = (topS s : Int) := by
    have e : topS s = 8 * (s.size - 1) + (L - 1) := by unfold topS; rw [← hb, hL]
    have hb1 : 1 ≤ L := by rw [hL, hb]; exact hbl.1
    omega
  have hL8 : L ≤ 8 := by rw [hL, hb]; exact hbl.2
  rw [← hL] at hl
  obtain ⟨t, ht⟩ : ∃ t, t = topS s := ⟨_, rfl⟩
  rw [← ht] at htop
  rw [← ht]
  have hs2 : s.size < 2000000000000 := by omega
  have HL := kept hl
  clear hl hs hb hL hbl ht
  go_enter Try.func10, Try.ntmps10
  go_wp2_with (first | (go_at_call 21; refine HL.out.mono ?_; rintro e w' ⟨rfl, rfl⟩))
  go_ret2
  exact ⟨_, rfl, Blk.fresh _ _ _, (Below.refl _ _).alloc (Nat.le_refl _) _, Nat.le_refl _⟩

theorem bget_nil (n : Int) (w : World) : Calls Try.prog 13 #[.pointer none, .int .i64 n] w fun e w' => e = .returned (.tuple #[.int .u64 0, .int .i64 6]) ∧ w = w' := by
  go_enter Try.func13, Try.ntmps13
  go_wp2_with fail
  go_ret2
  exact ⟨rfl, rfl⟩
theorem bleft_nil (w : World) : Calls Try.prog 15 #[.pointer none] w fun e w' => e = .returned (.int .i64 0) ∧ w = w' := by
  go_enter Try.func15, Try.ntmps15
  go_wp2_with fail
  go_ret
  exact ⟨rfl, rfl⟩
theorem bleft_calls (p : Nat) (s : ByteArray) (k : Nat) (w : World) (h : IsE w p s k) : Calls Try.prog 15 #[.pointer (some ⟨p, 0, none⟩)] w fun e w' => e = .returned (.int .i64 (k : Int)) ∧ w = w' := by
  have c1 : w.cell? ⟨p, 1, none⟩ = some (.int .i64 (k : Int)) := Blk.cell h rfl
  clear h
  go_enter Try.func15, Try.ntmps15
  go_wp2_with fail
  go_ret
  exact ⟨rfl, rfl⟩

set_option maxHeartbeats 2000000 in
theorem bget_arg (p : Nat) (n : Int) (w : World) (hn : n < 0 ∨ 64 < n) :
    Calls Try.prog 13 #[.pointer (some ⟨p, 0, none⟩), .int .i64 n] w fun e w' => e = .returned (.tuple #[.int .u64 0, .int .i64 1]) ∧ w = w' := by
  rcases hn with hn | hn
  · go_enter Try.func13, Try.ntmps13
    go_wp2_with fail
    go_ret2
    exact ⟨rfl, rfl⟩
  · have h0 : ¬ n < 0 := by omega
    go_enter Try.func13, Try.ntmps13
    go_wp2_with fail
    go_ret2
    exact ⟨rfl, rfl⟩

set_option maxHeartbeats 2000000 in
theorem bget_more (p : Nat) (s : ByteArray) (k n : Nat) (w : World) (h : IsE w p s k) (hn : n ≤ 64) (hl : k < n) :
    Calls Try.prog 13 #[.pointer (some ⟨p, 0, none⟩), .int .i64 (n : Int)] w fun e w' => e = .returned (.tuple #[.int .u64 0, .int .i64 2]) ∧ w = w' := by
  have c1 : w.cell? ⟨p, 1, none⟩ = some (.int .i64 (k : Int)) := Blk.cell h rfl
  have h1 : ¬ 64 < n := by omega
  clear h
  go_enter Try.func13, Try.ntmps13
  go_wp2_with fail
  go_ret2
  exact ⟨rfl, rfl⟩

set_option maxHeartbeats 4000000 in
theorem bget_ok (p : Nat) (s : ByteArray) (k n : Nat) (w : World) (h : IsE w p s k) (hs : s.size ≤ 1000000000000) (hk : k ≤ 8 * s.size) (hn : n ≤ 64) (hl : n ≤ k) :
    Calls Try.prog 13 #[.pointer (some ⟨p, 0, none⟩), .int .i64 (n : Int)] w fun e w' => e = .returned (.tuple #[.int .u64 (ofBits (((bitsS s).drop (k - n)).take n) : Int), .int .i64 0]) ∧
      IsE w' p s (k - n) ∧ Chg (fun b => b = p) w w' := by
  have c1 : w.cell? ⟨p, 1, none⟩ = some (.int .i64 (k : Int)) := Blk.cell h rfl
  have f1 : w.frozen? ⟨p, 1, none⟩ = false := h.free 1
  have h1 : ¬ 64 < n := by omega
  have h2 : ¬ k < n := by omega
  obtain ⟨m, hm⟩ : ∃ m, m = k - n := ⟨_, rfl⟩
  have e1 : (k : Int) - (n : Int) = (m : Int) := by omega
  obtain ⟨T, hT⟩ : ∃ T, T = ofBits (((bitsS s).drop (k - n)).take n) := ⟨_, rfl⟩
  rw [← hT, ← hm]
  rw [← hm] at hT
  have H := kept h
  have HT := kept hT
  have hk2 : k < 100000000000000 := by omega
  have HM := kept hm
  have hmn : m + n ≤ 8 * s.size := by omega
  have hs2 : s.size < 2000000000000 := by omega
  clear h hT hm hk hl
  go_enter Try.func13, Try.ntmps13
  go_wp2_with fail
  generalize hw1 : World.setCell w _ _ = w1
  have hB : IsE w1 p s m := by rw [← hw1]; exact H.out.set 1 (.int .i64 (m : Int))
  have hC : Chg (fun b => b = p) w w1 := by rw [← hw1]; exact Chg.setCell w ⟨p, 1, none⟩ _
  have c0 : w1.cell? ⟨p, 0, none⟩ = some (.string s) := Blk.cell hB rfl
  have c1 : w1.cell? ⟨p, 1, none⟩ = some (.int .i64 (m : Int)) := Blk.cell hB rfl
  have HB := kept hB
  have HC := kept hC
  clear hw1 hB hC
  go_loopw [6, 35] (fun s6 s35 wr => ∃ i : Nat, i ≤ n ∧ s35 = .int .i64 (i : Int) ∧ (∃ v : Nat, v = ofBits (((bitsS s).drop m).take i) ∧ s6 = .int .u64 (v : Int)) ∧ wr = w1) (fun s6 s35 _ => n - (intOf s35).toNat)
  case atStart => exact ⟨0, Nat.zero_le _, rfl, ⟨0, rfl, rfl⟩, rfl⟩
  case round =>
    obtain ⟨i, hi, rfl, ⟨v, hv, rfl⟩, rfl⟩ := hrel
    by_cases hlt : i < n
    · have hix := run_ix (P := Try.prog) (T := 9) Try.underlying9 s (((m : Int) + (i : Int)) / 8) ((m + i) / 8) (by omega) (by omega)
      obtain ⟨b, hb⟩ : ∃ b, b = byteS s ((m + i) / 8) := ⟨_, rfl⟩
      have hb8 : b < 256 := by rw [hb]; exact byteS_lt _ _
      rw [← hb] at hix
      have hand := and8 b ((m + i) % 8) hb8
      have hst := or_step (((bitsS s).drop m).take i) (bitS s (m + i)) i (by rw [List.length_take, List.length_drop, length_bitsS]; omega) (by omega)
      rw [← drop_step s m i (by omega), ← hv] at hst
      have e : bitS s (m + i) = b.testBit ((m + i) % 8) := by rw [hb]; rfl
      rw [e] at hst
      obtain ⟨y, hy⟩ : ∃ y, y = (b.testBit ((m + i) % 8)).toNat := ⟨_, rfl⟩
      rw [← hy] at hand hst
      have hy1 : y < 256 := by rw [hy]; cases b.testBit ((m + i) % 8) <;> decide
      clear hb e hy hv
      go_wp2_with fail
      go_roundw
      case rel => exact ⟨i + 1, by omega, by go_num, ⟨_, rfl, rfl⟩, trivial⟩
      case measure => simp [intOf]; omega
    · have hin : i = n := by omega
      subst hin
      rw [← HT.out] at hv
      subst hv
      go_wp2_with fail
      go_ret2
      exact ⟨rfl, HB.out, HC.out⟩

theorem bget_calls (p : Nat) (s : ByteArray) (k : Nat) (n : Int) (w : World) (h : IsE w p s k) (hs : s.size ≤ 1000000000000) (hk : k ≤ 8 * s.size) :
    Calls Try.prog 13 #[.pointer (some ⟨p, 0, none⟩), .int .i64 n] w fun e w' => e = .returned (.tuple #[.int .u64 ((getE s k n).1 : Int), .int .i64 ((getE s k n).2.1 : Int)]) ∧
      IsE w' p s (getE s k n).2.2 ∧ Chg (fun b => b = p) w w' := by
  unfold getE
  by_cases hn : n < 0 ∨ 64 < n
  · rw [if_pos hn]
    exact (bget_arg p n w hn).mono fun e w' ⟨he, hw⟩ => by subst hw; exact ⟨he, h, Chg.refl _ _⟩
  · rw [if_neg hn]
    obtain ⟨m, rfl⟩ := Int.eq_ofNat_of_zero_le (show 0 ≤ n by omega)
    by_cases hm : (k : Int) < (m : Int)
    · rw [if_pos hm]
      exact (bget_more p s k m w h (by omega) (by omega)).mono fun e w' ⟨he, hw⟩ => by subst hw; exact ⟨he, h, Chg.refl _ _⟩
    · rw [if_neg hm]
      exact bget_ok p s k m w h hs hk (by omega) (by omega)
theorem getE_le (s : ByteArray) (k : Nat) (n : Int) : (getE s k n).2.2 ≤ k := by
  unfold getE
  split
  · exact Nat.le_refl _
  · split
    · exact Nat.le_refl _
    · exact Nat.sub_le _ _
theorem getE_err (s : ByteArray) (k : Nat) (n : Int) : (getE s k n).2.1 < 10 := by
  unfold getE
  split
  · exact show 1 < 10 by decide
  · split
    · exact show 2 < 10 by decide
    · exact show 0 < 10 by decide
end Go.Proofs.Ytdbnmijnjfbibaa
