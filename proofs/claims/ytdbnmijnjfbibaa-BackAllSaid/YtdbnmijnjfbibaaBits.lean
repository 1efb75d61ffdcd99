/- Rows of bits and their bytes: plain facts on lists and numbers. No program in sight. -/
import Derived.Laws.BitsAllLaws
import Derived.Laws.Bits64
import Derived.Laws.Strings
namespace Go.Proofs.Ytdbnmijnjfbibaa.Bits
set_option linter.unusedSimpArgs false
set_option linter.unusedVariables false
open Go

def ofBits : List Bool → Nat
  | [] => 0
  | b :: t => b.toNat + 2 * ofBits t

theorem testBit_ofBits (l : List Bool) : ∀ i, (ofBits l).testBit i = l.getD i false := by
  induction l with
  | nil => intro i; simp [ofBits]
  | cons b t ih =>
    intro i
    cases i with
    | zero => simp only [ofBits, Nat.testBit_zero]; cases b <;> simp <;> omega
    | succ i =>
      have e : (b.toNat + 2 * ofBits t) / 2 = ofBits t := by cases b <;> simp <;> omega
      simp only [ofBits, Nat.testBit_succ, e, ih, List.getD_cons_succ]

theorem ofBits_lt (l : List Bool) : ofBits l < 2 ^ l.length := by
  induction l with
  | nil => simp [ofBits]
  | cons b t ih =>
    simp only [ofBits, List.length_cons, Nat.pow_succ]
    cases b <;> simp <;> omega

/-- The lowest n bits of a number, the lowest first. -/
def bitsOf (v n : Nat) : List Bool := (List.range n).map v.testBit

@[simp] theorem length_bitsOf (v n : Nat) : (bitsOf v n).length = n := by simp [bitsOf]
theorem bitsOf_succ (v n : Nat) : bitsOf v (n + 1) = bitsOf v n ++ [v.testBit n] := by simp [bitsOf, List.range_succ]
theorem getD_bitsOf (v n i : Nat) : (bitsOf v n).getD i false = (decide (i < n) && v.testBit i) := by
  rw [List.getD_eq_getElem?_getD]
  by_cases h : i < n
  · simp [bitsOf, List.getElem?_map, List.getElem?_range, h]
  · simp [bitsOf, h]
theorem ofBits_bitsOf (v n : Nat) : ofBits (bitsOf v n) = v % 2 ^ n := by
  apply Nat.eq_of_testBit_eq
  intro i
  rw [testBit_ofBits, getD_bitsOf, Nat.testBit_mod_two_pow]

/-- Byte k of a row of bits. -/
def byteAt (l : List Bool) (k : Nat) : Nat := ofBits ((l.drop (8 * k)).take 8)

theorem testBit_byteAt (l : List Bool) (k j : Nat) : (byteAt l k).testBit j = (decide (j < 8) && l.getD (8 * k + j) false) := by
  rw [byteAt, testBit_ofBits, List.getD_eq_getElem?_getD, List.getElem?_take]
  by_cases h : j < 8
  · simp [h, List.getElem?_drop]
  · simp [h]

theorem byteAt_lt (l : List Bool) (k : Nat) : byteAt l k < 256 := by
  have h := ofBits_lt ((l.drop (8 * k)).take 8)
  have h2 : ((l.drop (8 * k)).take 8).length ≤ 8 := by simp; omega
  have h3 : 2 ^ ((l.drop (8 * k)).take 8).length ≤ 2 ^ 8 := Nat.pow_le_pow_right (by decide) h2
  have h4 : byteAt l k = ofBits ((l.drop (8 * k)).take 8) := rfl
  omega

theorem getD_snoc (l : List Bool) (b : Bool) (i : Nat) : (l ++ [b]).getD i false = if i = l.length then b else l.getD i false := by
  simp only [List.getD_eq_getElem?_getD]
  rcases Nat.lt_trichotomy i l.length with h | h | h
  · rw [List.getElem?_append_left h, if_neg (by omega)]
  · subst h; simp
  · rw [if_neg (by omega), List.getElem?_append_right (by omega), List.getElem?_eq_none (by simp; omega), List.getElem?_eq_none (by omega)]

theorem testBit_bool (b : Bool) (n j : Nat) : (b.toNat * 2 ^ n).testBit j = (b && decide (j = n)) := by
  cases b
  · simp
  · simp [Nat.testBit_two_pow, eq_comm]

theorem byteAt_snoc (l : List Bool) (b : Bool) (k : Nat) : byteAt (l ++ [b]) k = if k = l.length / 8 then byteAt l k ||| (b.toNat * 2 ^ (l.length % 8)) else byteAt l k := by
  apply Nat.eq_of_testBit_eq
  intro j
  rw [testBit_byteAt, getD_snoc]
  by_cases h : k = l.length / 8
  · rw [if_pos h, Nat.testBit_or, testBit_byteAt, testBit_bool]
    by_cases hj : j < 8
    · by_cases hj2 : 8 * k + j = l.length
      · have : j = l.length % 8 := by omega
        have hm : l.length % 8 < 8 := by omega
        have hz : l.getD (8 * k + j) false = false := by rw [List.getD_eq_getElem?_getD, List.getElem?_eq_none (by omega)]; rfl
        rw [if_pos hj2, hz]; simp [hj, this, hm]
      · have : ¬ j = l.length % 8 := by omega
        rw [if_neg hj2]; simp [hj, this]
    · have : ¬ j = l.length % 8 := by omega
      simp [hj, this]
  · rw [if_neg h, testBit_byteAt]
    by_cases hj : j < 8
    · rw [if_neg (by omega)]
    · simp [hj]

def packN (l : List Bool) (n : Nat) : List Nat := (List.range n).map (byteAt l)
/-- The bytes of a row of bits. -/
def pack (l : List Bool) : List Nat := packN l ((l.length + 7) / 8)

@[simp] theorem length_packN (l : List Bool) (n : Nat) : (packN l n).length = n := by simp [packN]
@[simp] theorem length_pack (l : List Bool) : (pack l).length = (l.length + 7) / 8 := by simp [pack]
theorem getElem?_packN (l : List Bool) (n k : Nat) (h : k < n) : (packN l n)[k]? = some (byteAt l k) := by simp [packN, List.getElem?_range, h]
theorem packN_lt (l : List Bool) (n : Nat) : ∀ x ∈ packN l n, x < 256 := by
  intro x hx
  obtain ⟨k, _, rfl⟩ := List.mem_map.1 hx
  exact byteAt_lt l k

theorem packN_snoc (l : List Bool) (b : Bool) (n : Nat) : packN (l ++ [b]) n = (packN l n).set (l.length / 8) (byteAt l (l.length / 8) ||| (b.toNat * 2 ^ (l.length % 8))) := by
  apply List.ext_getElem?
  intro k
  rw [List.getElem?_set]
  by_cases hk : k < n
  · rw [getElem?_packN _ _ _ hk, byteAt_snoc, getElem?_packN _ _ _ hk]
    by_cases h : k = l.length / 8
    · subst h; simp [hk]
    · rw [if_neg h, if_neg (fun e => h e.symm)]
  · rw [List.getElem?_eq_none (by simp; omega), List.getElem?_eq_none (by simp; omega)]
    simp; omega

theorem byteAt_beyond (l : List Bool) (k : Nat) (h : l.length ≤ 8 * k) : byteAt l k = 0 := by
  rw [byteAt, List.drop_eq_nil_of_le h]; rfl

theorem packN_zero (n : Nat) : packN [] n = List.replicate n 0 := by
  apply List.ext_getElem?
  intro k
  by_cases hk : k < n
  · rw [getElem?_packN _ _ _ hk, byteAt_beyond [] k (by simp)]; simp [hk]
  · rw [List.getElem?_eq_none (by simp; omega), List.getElem?_eq_none (by simp; omega)]

/-- The bytes with one more, where a byte is full. -/
theorem packN_full (l : List Bool) (h : l.length % 8 = 0) : packN l (l.length / 8 + 1) = pack l ++ [0] := by
  have e : (l.length + 7) / 8 = l.length / 8 := by omega
  simp only [pack, packN, e, List.range_succ, List.map_append, List.map_cons, List.map_nil]
  rw [byteAt_beyond l _ (by omega)]
theorem packN_part (l : List Bool) (h : ¬ l.length % 8 = 0) : packN l (l.length / 8 + 1) = pack l := by
  have e : (l.length + 7) / 8 = l.length / 8 + 1 := by omega
  simp only [pack, e]
theorem pack_snoc (l : List Bool) (b : Bool) : pack (l ++ [b]) = packN (l ++ [b]) (l.length / 8 + 1) := by
  have e : ((l ++ [b]).length + 7) / 8 = l.length / 8 + 1 := by simp; omega
  simp only [pack, e]

/-- A bit as Go reckons it. -/
def bitOf (x : Int) : Bool := decide (x % 2 = 1)

theorem and_one_u64 (x : Int) (h0 : 0 ≤ x) (h1 : x < 18446744073709551616) : bits .and .u64 x 1 = ((bitOf x).toNat : Int) := by
  rw [u64_and x 1 h0 h1 (by decide) (by decide)]
  have : (1 : Int).toNat = 1 := rfl
  rw [this, nat_mask1]
  unfold bitOf
  by_cases h : x % 2 = 1 <;> simp [h] <;> omega

theorem bit_byte (x : Int) (h0 : 0 ≤ x) (h1 : x < 18446744073709551616) (k : Nat) (hk : k < 8) : bits .and .u64 x 1 % 256 * 2 ^ k % 256 = (((bitOf x).toNat * 2 ^ k : Nat) : Int) := by
  rw [and_one_u64 x h0 h1]
  have hp : (2 : Int) ^ k ≤ 128 ∧ 0 < (2 : Int) ^ k := by
    rcases (show k = 0 ∨ k = 1 ∨ k = 2 ∨ k = 3 ∨ k = 4 ∨ k = 5 ∨ k = 6 ∨ k = 7 by omega) with h | h | h | h | h | h | h | h <;> subst h <;> decide
  cases bitOf x <;> simp <;> omega

theorem or_byte (x : Int) (h0 : 0 ≤ x) (h1 : x < 18446744073709551616) (b k : Nat) (hb : b < 256) (hk : k < 8) :
    bits .or .u8 (b : Int) (bits .and .u64 x 1 % 256 * 2 ^ k % 256) = ((b ||| (bitOf x).toNat * 2 ^ k : Nat) : Int) := by
  rw [bit_byte x h0 h1 k hk, u8_or_nat b _ hb]
  have hp : 2 ^ k ≤ 128 := by
    rcases (show k = 0 ∨ k = 1 ∨ k = 2 ∨ k = 3 ∨ k = 4 ∨ k = 5 ∨ k = 6 ∨ k = 7 by omega) with h | h | h | h | h | h | h | h <;> subst h <;> decide
  cases bitOf x <;> simp <;> omega

theorem bitOf_shift (v i : Nat) : bitOf ((v : Int) / 2 ^ i) = v.testBit i := by
  unfold bitOf
  rw [Nat.testBit_eq_decide_div_mod_eq]
  congr 1
  have : ((v : Int) / 2 ^ i) = ((v / 2 ^ i : Nat) : Int) := by simp
  rw [this]
  apply propext
  omega

/-! ### The bits of a text -/
def byteS (s : ByteArray) (i : Nat) : Nat := (s.data.toList.getD i 0).toNat
theorem byteS_lt (s : ByteArray) (i : Nat) : byteS s i < 256 := UInt8.toNat_lt _
theorem byteS_eq (s : ByteArray) (i : Nat) (h : i < s.size) : (s[i]'h).toNat = byteS s i := by
  unfold byteS
  rw [List.getD_eq_getElem?_getD]
  have : s.data.toList[i]? = some (s[i]'h) := by
    rw [Array.getElem?_toList, Array.getElem?_eq_getElem (by exact h)]; rfl
  rw [this]; rfl
def bitS (s : ByteArray) (k : Nat) : Bool := (byteS s (k / 8)).testBit (k % 8)
def bitsS (s : ByteArray) : List Bool := (List.range (8 * s.size)).map (bitS s)
@[simp] theorem length_bitsS (s : ByteArray) : (bitsS s).length = 8 * s.size := by simp [bitsS]

theorem getD_bitsS (s : ByteArray) (k : Nat) : (bitsS s).getD k false = (decide (k < 8 * s.size) && bitS s k) := by
  rw [List.getD_eq_getElem?_getD]
  by_cases h : k < 8 * s.size
  · simp [bitsS, h]
  · simp [bitsS, h]

theorem and_bit (b j : Nat) (hb : b < 256) : bits .and .u64 (IntKind.u64.wrap ((b : Int) / 2 ^ j)) 1 = (((b.testBit j).toNat : Nat) : Int) := by
  have h1 : (b : Int) / 2 ^ j ≤ b := Int.ediv_le_self _ (by omega)
  have h0 : 0 ≤ (b : Int) / 2 ^ j := Int.ediv_nonneg (by omega) (Int.pow_nonneg (by decide))
  have e : IntKind.u64.wrap ((b : Int) / 2 ^ j) = (b : Int) / 2 ^ j := by rw [IntKind.wrap_u64]; omega
  rw [e, Bits.and_one_u64 _ h0 (by omega), bitOf_shift]

theorem ofBits_snoc (l : List Bool) (b : Bool) : ofBits (l ++ [b]) = ofBits l ||| (b.toNat * 2 ^ l.length) := by
  apply Nat.eq_of_testBit_eq
  intro i
  rw [Nat.testBit_or, testBit_ofBits, testBit_ofBits, testBit_bool, getD_snoc]
  by_cases h : i = l.length
  · subst h; simp
  · simp [h]

theorem or_shift (l : List Bool) (b : Bool) (h : l.length < 64) : bits .or .u64 (ofBits l : Int) ((b.toNat * 2 ^ l.length : Nat) : Int) = (ofBits (l ++ [b]) : Int) := by
  have h1 := ofBits_lt l
  have h2 : 2 ^ l.length ≤ 2 ^ 63 := Nat.pow_le_pow_right (by decide) (by omega)
  have h3 : (2 : Nat) ^ 63 = 9223372036854775808 := by decide
  rw [u64_or_nat _ _ (by omega) (by cases b <;> simp <;> omega), ofBits_snoc]

theorem ofBits_lt64 (l : List Bool) (h : l.length ≤ 64) : ofBits l < 18446744073709551616 := by
  have h1 := ofBits_lt l
  have h2 : 2 ^ l.length ≤ 2 ^ 64 := Nat.pow_le_pow_right (by decide) h
  have h3 : (2 : Nat) ^ 64 = 18446744073709551616 := by decide
  omega

theorem take_succ_getD (l : List Bool) (n : Nat) (h : n < l.length) : l.take (n + 1) = l.take n ++ [l.getD n false] := by
  rw [List.take_succ_eq_append_getElem h]
  congr 1
  rw [List.getD_eq_getElem?_getD, List.getElem?_eq_getElem h]; rfl

theorem ofBits_zero (l : List Bool) : ofBits l = 0 ↔ l.all (fun b => !b) = true := by
  induction l with
  | nil => simp [ofBits]
  | cons b t ih =>
    simp only [ofBits, List.all_cons, Bool.and_eq_true]
    rw [← ih]
    cases b <;> simp <;> omega

theorem or_step (l : List Bool) (b : Bool) (i : Nat) (hi : l.length = i) (h : i < 64) : bits .or .u64 (ofBits l : Int) (IntKind.u64.wrap ((b.toNat : Int) * 2 ^ i)) = (ofBits (l ++ [b]) : Int) := by
  subst hi
  have h2 : 2 ^ l.length ≤ 2 ^ 63 := Nat.pow_le_pow_right (by decide) (by omega)
  have h3 : (2 : Nat) ^ 63 = 9223372036854775808 := by decide
  have e : IntKind.u64.wrap ((b.toNat : Int) * 2 ^ l.length) = ((b.toNat * 2 ^ l.length : Nat) : Int) := by
    rw [IntKind.wrap_u64]
    have : ((b.toNat : Int) * 2 ^ l.length) = ((b.toNat * 2 ^ l.length : Nat) : Int) := by simp
    rw [this]
    have hlt : b.toNat * 2 ^ l.length < 18446744073709551616 := by
      generalize 2 ^ l.length = P at h2 h3
      cases b
      · simp
      · simp; omega
    generalize b.toNat * 2 ^ l.length = M at hlt
    omega
  rw [e, or_shift l b h]

theorem drop_step (s : ByteArray) (k i : Nat) (h : k + i < 8 * s.size) : ((bitsS s).drop k).take (i + 1) = ((bitsS s).drop k).take i ++ [bitS s (k + i)] := by
  rw [take_succ_getD _ _ (by simp; omega)]
  congr 2
  rw [List.getD_eq_getElem?_getD, List.getElem?_drop, ← List.getD_eq_getElem?_getD, getD_bitsS]
  simp [h]

theorem run_ix {P : Program} {T : TypeId} (h : P.underlying T = some .string) (s : ByteArray) (i : Int) (j : Nat) (hij : i = (j : Int)) (hj : j < s.size) (w : World) :
    (Instr.index T (.string s) (.int .i64 i)).run P w = .ok (.int .u8 (byteS s j : Int)) w := by
  subst hij
  rw [run_index_string w T s .i64 (j : Int) h, dif_pos ⟨by omega, by omega⟩, ← byteS_eq s j hj]
  simp
end Go.Proofs.Ytdbnmijnjfbibaa.Bits
