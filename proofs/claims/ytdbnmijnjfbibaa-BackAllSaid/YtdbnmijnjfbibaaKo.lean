/- The document's example of layer 4; what was sealed. -/
import Derived.Test.YtdbnmijnjfbibaaKr
import Derived.Test.YtdbnmijnjfbibaaKs
import Derived.Test.YtdbnmijnjfbibaaEr
import Derived.Test.YtdbnmijnjfbibaaBd
namespace Go.Proofs.Ytdbnmijnjfbibaa
set_option linter.unusedSimpArgs false
set_option linter.unusedVariables false
open Go.RowKit Mix Own Bits
attribute [local go_sem] max_int min_int

/-- The text of bits with a bit 1 behind them. -/
def markS (l : List Bool) : ByteArray := textOf (pack (l ++ [true]))
theorem markS_size (l : List Bool) : (markS l).size = l.length / 8 + 1 := by
  unfold markS; rw [size_textOf, length_pack, List.length_append, List.length_singleton]; omega

theorem lastB_mark (l : List Bool) : lastB (markS l) = byteAt (l ++ [true]) (l.length / 8) := by
  unfold lastB
  rw [markS_size]
  unfold markS
  rw [byteS_textOf _ _ (pack_lt _), List.getD_eq_getElem?_getD, pack, getElem?_packN _ _ _ (by simp; omega)]
  rw [show l.length / 8 + 1 - 1 = l.length / 8 by omega]
  rfl

theorem bl_mark (l : List Bool) : Zig.bl (lastB (markS l)) = l.length % 8 + 1 := by
  rw [lastB_mark]
  have hq : 8 * (l.length / 8) + l.length % 8 = l.length := Nat.div_add_mod _ _
  have hm : l.length % 8 < 8 := Nat.mod_lt _ (by decide)
  have hb := byteAt_lt (l ++ [true]) (l.length / 8)
  refine Zig.bl_eq _ _ ?_ ?_ (by omega)
  · apply Nat.ge_two_pow_of_testBit
    rw [testBit_byteAt, hq, getD_snoc, if_pos rfl, decide_eq_true hm]
    rfl
  · apply Nat.lt_pow_two_of_testBit
    intro i hi
    rw [testBit_byteAt, getD_snoc]
    by_cases h8 : i < 8
    · rw [if_neg (by omega), List.getD_eq_getElem?_getD, List.getElem?_eq_none (by omega)]
      simp
    · simp [h8]
theorem lastB_mark_ne (l : List Bool) : lastB (markS l) ≠ 0 := by
  intro e
  have := bl_mark l
  rw [e, Zig.bl_zero] at this
  omega
theorem topS_mark (l : List Bool) : topS (markS l) = l.length := by
  unfold topS
  rw [bl_mark, markS_size]
  omega
theorem bits_mark (l : List Bool) : ∃ z, bitsS (markS l) = l ++ ([true] ++ z) := by
  unfold markS
  rw [bitsS_textOf, List.append_assoc]
  exact ⟨_, rfl⟩

/-- What is got of what was sealed. -/
theorem getE_mark (l : List Bool) (k n : Nat) (hn : n ≤ 64) (hk : k ≤ l.length) (h : n ≤ k) : getE (markS l) k (n : Int) = (ofBits ((l.drop (k - n)).take n), 0, k - n) := by
  obtain ⟨z, hz⟩ := bits_mark l
  unfold getE
  rw [if_neg (by omega), if_neg (by omega), Int.toNat_natCast, hz, List.drop_append_of_le_length (by omega), List.take_append_of_le_length (by simp; omega)]

set_option maxHeartbeats 1000000 in
theorem awake4_calls (w : World) : Calls Try.prog 8 #[] w fun e w' => e = .returned (.bool true) ∧ Below w.heap.size w w' := by
  have h1 := bfrom_calls (⟨#[1]⟩ : ByteArray) w (by decide) (by decide) (by decide)
  rw [show topS (⟨#[1]⟩ : ByteArray) = 0 by decide] at h1
  have h2 : ∀ w', Calls Try.prog 7 #[.slice none 0 0, .slice none 0 0] w' fun e w'' => e = .returned (.string ⟨#[1]⟩) ∧ Below w'.heap.size w' w'' := fun w' => by
    have h := seal_calls none 0 0 [] none 0 0 [] w' (Rd.nil _) (Rd.nil _) (by simp) (by simp) 0 rfl (by decide) (by decide) (by decide)
    rw [show textOf (pack (catC [] [] 0 ++ [true])) = (⟨#[1]⟩ : ByteArray) by decide] at h
    exact h
  have H1 := kept h1
  have H2 := kept h2
  clear h1 h2
  go_enter Try.func8, Try.ntmps8
  go_wp2_with (first
    | (go_at_call 10; refine H1.out.mono ?_; rintro e w1 ⟨p, rfl, hE, hb, hp⟩; have HE := kept hE; have HB := kept hb; clear hE hb hp)
    | (go_at_call 7; refine (H2.out _).mono ?_; rintro e w2 ⟨rfl, hb⟩; have HE2 := kept (IsE.later HE.out hb); have HB2 := kept (HB.out.trans (hb.mono HB.out.size)); clear hb)
    | (go_at_call 12; refine (err_calls _ _).mono ?_; rintro e w' ⟨rfl, rfl⟩)
    | (go_at_call 15; refine (bleft_calls p _ 0 _ HE2.out).mono ?_; rintro e w' ⟨rfl, rfl⟩))
  go_ret
  exact ⟨rfl, HB2.out⟩
end Go.Proofs.Ytdbnmijnjfbibaa
