/- A text, its bits, and bits made a text: plain facts. -/
import Derived.Test.YtdbnmijnjfbibaaBp
namespace Go.Proofs.Ytdbnmijnjfbibaa
set_option linter.unusedSimpArgs false
set_option linter.unusedVariables false
open Go.RowKit Mix Own Bits

theorem ext_getD {l m : List Bool} (hl : l.length = m.length) (h : ∀ i, l.getD i false = m.getD i false) : l = m := by
  apply List.ext_getElem hl
  intro i h1 h2
  have := h i
  simp only [List.getD_eq_getElem?_getD, List.getElem?_eq_getElem h1, List.getElem?_eq_getElem h2, Option.getD_some] at this
  exact this

@[simp] theorem size_textOf (l : List Nat) : (textOf l).size = l.length := by simp [textOf, ByteArray.size]

theorem byteS_textOf (l : List Nat) (i : Nat) (h : ∀ x ∈ l, x < 256) : byteS (textOf l) i = l.getD i 0 := by
  unfold byteS textOf
  simp only [List.getD_eq_getElem?_getD]
  rcases Nat.lt_or_ge i l.length with hi | hi
  · have := h _ (List.getElem_mem hi)
    simp [hi]
    omega
  · simp [hi]

theorem pack_lt (l : List Bool) : ∀ x ∈ pack l, x < 256 := packN_lt l _

theorem bitS_pack (l : List Bool) (k : Nat) (hk : k < 8 * ((l.length + 7) / 8)) : bitS (textOf (pack l)) k = l.getD k false := by
  unfold bitS
  rw [byteS_textOf _ _ (pack_lt l)]
  have : (pack l).getD (k / 8) 0 = byteAt l (k / 8) := by
    rw [List.getD_eq_getElem?_getD, pack, getElem?_packN _ _ _ (by omega)]; rfl
  rw [this, testBit_byteAt]
  have e : 8 * (k / 8) + k % 8 = k := by omega
  have e2 : k % 8 < 8 := by omega
  simp [e, e2]

theorem bitsS_textOf (l : List Bool) : bitsS (textOf (pack l)) = l ++ List.replicate (8 * ((l.length + 7) / 8) - l.length) false := by
  apply ext_getD
  · simp; omega
  · intro i
    rw [getD_bitsS]
    simp only [size_textOf, length_pack]
    by_cases h : i < 8 * ((l.length + 7) / 8)
    · rw [bitS_pack l i h]
      simp only [h, decide_true, Bool.true_and, List.getD_eq_getElem?_getD]
      rcases Nat.lt_or_ge i l.length with h2 | h2
      · rw [List.getElem?_append_left h2]
      · rw [List.getElem?_append_right h2, List.getElem?_eq_none h2, List.getElem?_replicate]
        split <;> rfl
    · simp only [h, decide_false, Bool.false_and, List.getD_eq_getElem?_getD]
      rw [List.getElem?_eq_none (by simp; omega)]; rfl

theorem take_bitsS (s : ByteArray) (m : Nat) (h : m ≤ 8 * s.size) : (bitsS s).take m = (List.range m).map (bitS s) := by
  rw [bitsS, ← List.map_take, List.take_range, Nat.min_eq_left h]

theorem take_byte (s : ByteArray) (i : Nat) (h : i < s.size) : (bitsS s).take (8 * (i + 1)) = (bitsS s).take (8 * i) ++ bitsOf (byteS s i) 8 := by
  rw [take_bitsS _ _ (by omega), take_bitsS _ _ (by omega), show 8 * (i + 1) = 8 * i + 8 by omega, List.range_add, List.map_append, List.map_map]
  congr 1
  unfold bitsOf
  apply List.map_congr_left
  intro j hj
  have hj8 : j < 8 := List.mem_range.1 hj
  show bitS s (8 * i + j) = _
  unfold bitS
  rw [show (8 * i + j) / 8 = i by omega, show (8 * i + j) % 8 = j by omega]

theorem take_all (s : ByteArray) : (bitsS s).take (8 * s.size) = bitsS s := List.take_of_length_le (by simp)

theorem byteAt_bitsS (s : ByteArray) (k : Nat) (h : k < s.size) : byteAt (bitsS s) k = byteS s k := by
  apply Nat.eq_of_testBit_eq
  intro j
  rw [testBit_byteAt, getD_bitsS]
  by_cases hj : j < 8
  · have h1 : 8 * k + j < 8 * s.size := by omega
    simp only [hj, h1, decide_true, Bool.true_and, bitS]
    rw [show (8 * k + j) / 8 = k by omega, show (8 * k + j) % 8 = j by omega]
  · simp only [hj, decide_false, Bool.false_and]
    symm
    apply Nat.testBit_lt_two_pow
    have hb := byteS_lt s k
    have : 2 ^ 8 ≤ 2 ^ j := Nat.pow_le_pow_right (by decide) (by omega)
    omega

theorem textOf_bitsS (s : ByteArray) : textOf (pack (bitsS s)) = s := by
  have e : pack (bitsS s) = s.data.toList.map UInt8.toNat := by
    apply List.ext_getElem?
    intro k
    rcases Nat.lt_or_ge k s.size with hk | hk
    · rw [pack, getElem?_packN _ _ _ (by simp; omega), byteAt_bitsS s k hk, List.getElem?_map]
      unfold byteS
      rw [List.getD_eq_getElem?_getD]
      have hk' : k < s.data.toList.length := by rw [Array.length_toList]; exact hk
      rw [List.getElem?_eq_getElem hk']
      rfl
    · rw [List.getElem?_eq_none (by simp; omega), List.getElem?_eq_none (by rw [List.length_map, Array.length_toList]; exact hk)]
  rw [e]
  unfold textOf
  have e2 : (s.data.toList.map UInt8.toNat).map UInt8.ofNat = s.data.toList := by
    rw [List.map_map]
    conv => rhs; rw [← List.map_id s.data.toList]
    apply List.map_congr_left
    intro x _
    simp
  rw [e2]

theorem bitsOf_zero (k : Nat) : bitsOf 0 k = List.replicate k false := by
  apply ext_getD (by simp)
  intro i
  rw [getD_bitsOf, List.getD_eq_getElem?_getD, List.getElem?_replicate]
  split <;> simp

theorem bitsOf_or256 (b : Nat) : bitsOf (b ||| 256) 8 = bitsOf b 8 := by
  apply ext_getD (by simp)
  intro i
  rw [getD_bitsOf, getD_bitsOf, Nat.testBit_or]
  by_cases h : i < 8
  · have : (256 : Nat).testBit i = false := by
      rw [show (256 : Nat) = 2 ^ 8 by rfl, Nat.testBit_two_pow]; simp; omega
    simp [this]
  · simp [h]
end Go.Proofs.Ytdbnmijnjfbibaa
