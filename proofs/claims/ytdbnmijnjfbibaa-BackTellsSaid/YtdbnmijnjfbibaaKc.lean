/- The bits of numbers in lengths, one behind another: plain facts. -/
import Derived.Test.YtdbnmijnjfbibaaKo
namespace Go.Proofs.Ytdbnmijnjfbibaa
set_option linter.unusedSimpArgs false
set_option linter.unusedVariables false
open Go.RowKit Mix Own Bits

theorem catC_split (xs : List Nat) (ys : List Int) (i n : Nat) (h : i < n) : ∃ r, catC xs ys n = catC xs ys i ++ (bitsOf (xs.getD i 0) (clamp (ys.getD i 0)) ++ r) := by
  induction n with
  | zero => omega
  | succ n ih =>
    rcases Nat.lt_or_ge i n with h1 | h1
    · obtain ⟨r, hr⟩ := ih h1
      exact ⟨r ++ bitsOf (xs.getD n 0) (clamp (ys.getD n 0)), by rw [catC, hr]; simp⟩
    · have : i = n := by omega
      subst this
      exact ⟨[], by rw [catC]; simp⟩
theorem catC_mono (xs : List Nat) (ys : List Int) (i n : Nat) (h : i ≤ n) : (catC xs ys i).length ≤ (catC xs ys n).length := by
  rcases Nat.lt_or_ge i n with h1 | h1
  · obtain ⟨r, hr⟩ := catC_split xs ys i n h1
    rw [hr]; simp
  · rw [show i = n by omega]; exact Nat.le_refl _

/-- The last number that is left is got. -/
theorem getE_cat (xs : List Nat) (ys : List Int) (i n c : Nat) (h : i < n) (hc : c = clamp (ys.getD i 0)) :
    getE (markS (catC xs ys n)) (catC xs ys (i + 1)).length (c : Int) = (xs.getD i 0 % 2 ^ c, 0, (catC xs ys i).length) := by
  obtain ⟨r, hr⟩ := catC_split xs ys i n h
  have hc64 : c ≤ 64 := by rw [hc]; exact clamp_le _
  have hl : (catC xs ys (i + 1)).length = (catC xs ys i).length + c := by rw [catC, List.length_append, length_bitsOf, hc]
  have hm := catC_mono xs ys (i + 1) n h
  rw [getE_mark _ _ _ hc64 hm (by omega), hl, Nat.add_sub_cancel]
  have e : ((catC xs ys n).drop (catC xs ys i).length).take c = bitsOf (xs.getD i 0) c := by
    rw [hr, List.drop_left, List.take_left' (by rw [length_bitsOf, hc]), hc]
  rw [e, ofBits_bitsOf]

theorem catC_len7 (xs : List Nat) (ys : List Int) (k : Nat) (h : ∀ i, i < k → clamp (ys.getD i 0) = 7) : ∀ i, i ≤ k → (catC xs ys i).length = 7 * i := by
  intro i
  induction i with
  | zero => intro _; rfl
  | succ i ih =>
    intro hi
    rw [catC, List.length_append, length_bitsOf, ih (by omega), h i (by omega)]
    omega

theorem take_getD (xs : List Nat) (k i : Nat) (h : i < k) : (xs.take k).getD i 0 = xs.getD i 0 := by
  simp [List.getD_eq_getElem?_getD, List.getElem?_take, h]
theorem catC_take (xs : List Nat) (ys : List Int) (k : Nat) : ∀ i, i ≤ k → catC (xs.take k) ys i = catC xs ys i := by
  intro i
  induction i with
  | zero => intro _; rfl
  | succ i ih => intro hi; rw [catC, catC, ih (by omega), take_getD xs k i (by omega)]

/-- A Reader got from, its Get. -/
theorem bget_new (B p : Nat) (s : ByteArray) (k : Nat) (n : Int) (w : World) (hB : B ≤ w.heap.size) (hp : B ≤ p) (h : IsE w p s k) (hs : s.size ≤ 1000000000000) (hk : k ≤ 8 * s.size) (v e k' : Nat) (hv : getE s k n = (v, e, k')) :
    Calls Try.prog 13 #[.pointer (some ⟨p, 0, none⟩), .int .i64 n] w fun x w' => x = .returned (.tuple #[.int .u64 (v : Int), .int .i64 (e : Int)]) ∧ IsE w' p s k' ∧ Below B w w' := by
  refine (bget_calls p s k n w h hs hk).mono fun x w' ⟨he, h1, h2⟩ => ?_
  rw [hv] at he h1
  exact ⟨he, h1, h2.below hB (fun b hb e => by omega)⟩
end Go.Proofs.Ytdbnmijnjfbibaa
