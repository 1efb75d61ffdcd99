/- The document's example of layer 3, and what is common to the laws of that layer. -/
import Derived.Test.YtcgmofakibfpiaaBr
namespace Go.Proofs.Ytcgmofakibfpiaa
set_option linter.unusedSimpArgs false
set_option linter.unusedVariables false
open Go.RowKit Mix Own Bits

/-- A Writer all of whose memory lies from block B on. -/
structure NewW (B : Nat) (w : World) (p : Nat) (v : Value) (l : List Bool) : Prop where
  is : IsW w p v l
  at_ : B ≤ p
  row : ∀ g, v.ownBlock = some g → B ≤ g

theorem NewW.keep {B : Nat} {w w' : World} {S : Nat → Prop} {p : Nat} {v : Value} {l : List Bool} (h : NewW B w p v l) (hc : Chg S w w') (hp : ¬ S p) (hv : ∀ g, v.ownBlock = some g → ¬ S g) : NewW B w' p v l :=
  ⟨h.is.keep hc hp hv, h.at_, h.row⟩
theorem NewW.later {B : Nat} {w w' : World} {p : Nat} {v : Value} {l : List Bool} (h : NewW B w p v l) (hc : Below w.heap.size w w') : NewW B w' p v l :=
  h.keep (Chg.of_below (S := fun _ => False) hc) id (fun _ _ => id)

theorem new_new (B : Nat) (w : World) (hB : B ≤ w.heap.size) : Calls Try.prog 9 #[] w fun e w' => ∃ p, e = .returned (.pointer (some ⟨p, 0, none⟩)) ∧ NewW B w' p (.slice none 0 0) [] ∧ Below w.heap.size w w' ∧ w.heap.size ≤ p :=
  (new_calls w).mono fun e w' ⟨p, he, hW, hb, hp⟩ => ⟨p, he, ⟨hW, Nat.le_trans hB hp, fun g hg => by simp [Value.ownBlock] at hg⟩, hb, hp⟩

theorem put_new (B p : Nat) (v : Value) (l : List Bool) (x : Nat) (n : Int) (w : World) (hB : B ≤ w.heap.size) (hW : NewW B w p v l) (hl : l.length < 1000000000000) (hx : x < 18446744073709551616) (hn0 : -9223372036854775808 ≤ n) (hn1 : n ≤ 9223372036854775807) :
    Calls Try.prog 11 #[.pointer (some ⟨p, 0, none⟩), .int .u64 (x : Int), .int .i64 n] w fun e w' => e = .returned (.tuple #[]) ∧
      ∃ v', NewW B w' p v' (l ++ bitsOf x (clamp n)) ∧ Below B w w' ∧ Chg (fun k => k = p ∨ some k = v.ownBlock) w w' ∧ ∀ g, v'.ownBlock = some g → some g = v.ownBlock ∨ w.heap.size ≤ g :=
  (put_calls p v l x n w hW.is hl hx hn0 hn1).mono fun e w' ⟨he, v', h1, h2, h3⟩ => ⟨he, v', ⟨h1, hW.at_, fun g hg => by
      rcases h3 g hg with h | h
      · exact hW.row g h.symm
      · omega⟩, h2.below hB (fun k hk h => by
      rcases h with h | h
      · have := hW.at_; omega
      · have := hW.row k h.symm; omega), h2, h3⟩

set_option maxHeartbeats 1000000 in
theorem awake3_calls (w : World) : Calls Try.prog 10 #[] w fun e w' => e = .returned (.bool true) ∧ Below w.heap.size w w' := by
  obtain ⟨B, hB⟩ : ∃ B, B = w.heap.size := ⟨_, rfl⟩
  rw [← hB]
  have HB := kept hB
  clear hB
  go_enter Try.func10, Try.ntmps10
  go_wp2_with fail
  refine (new_new B w (by rw [HB.out]; exact Nat.le_refl _)).mono ?_
  rintro e w1 ⟨p, rfl, hW1, hb1, hp⟩
  have HW1 := kept hW1
  have HB1 : Kept (Below B w w1) := kept (by rw [HB.out]; exact hb1)
  have HS1 : Kept (B ≤ w1.heap.size) := kept (by rw [HB.out]; exact hb1.size)
  clear hW1 hb1 hp
  go_wp2_with fail
  refine (put_new B p (.slice none 0 0) [] 5 3 w1 HS1.out HW1.out (by decide) (by decide) (by decide) (by decide)).mono ?_
  rintro e w2 ⟨rfl, v2, hW2, hb2, _, _⟩
  have e2 : ([] : List Bool) ++ bitsOf 5 (clamp 3) = [true, false, true] := by decide
  rw [e2] at hW2
  have HW2 := kept hW2
  have HB2 := kept (HB1.out.trans hb2)
  have HS2 := kept (Nat.le_trans HS1.out hb2.size)
  clear hW2 hb2 e2
  go_wp2_with fail
  refine (put_new B p v2 [true, false, true] 1 2 w2 HS2.out HW2.out (by decide) (by decide) (by decide) (by decide)).mono ?_
  rintro e w3 ⟨rfl, v3, hW3, hb3, _, _⟩
  have e3 : [true, false, true] ++ bitsOf 1 (clamp 2) = [true, false, true, true, false] := by decide
  rw [e3] at hW3
  have HW3 := kept hW3
  have HB3 := kept (HB2.out.trans hb3)
  clear hW3 hb3 e3
  have hb := bytes_calls p v3 _ w3 HW3.out.is
  have e4 : textOf (pack [true, false, true, true, false]) = ⟨#[13]⟩ := by decide
  rw [e4] at hb
  have HBy := kept hb
  clear hb e4
  go_wp2_with (first | (go_at_call 14; refine HBy.out.mono ?_; rintro e w' ⟨rfl, rfl⟩) | (go_at_call 13; refine (len_calls p v3 _ w3 HW3.out.is).mono ?_; rintro e w' ⟨rfl, rfl⟩))
  go_ret
  exact ⟨rfl, HB3.out⟩

/-! ### Methods of what is not there -/
set_option maxHeartbeats 1000000 in
theorem put_nil (x n : Int) (w : World) : Calls Try.prog 11 #[.pointer none, .int .u64 x, .int .i64 n] w fun e w' => e = .returned (.tuple #[]) ∧ w = w' := by
  go_enter Try.func11, Try.ntmps11
  go_wp2_with fail
  (try simp only [Exit.inBlock, Exit.then])
  refine bodyPost_ret (results_none rfl _ _ _) rfl ?_
  exact ⟨rfl, rfl⟩
set_option maxHeartbeats 1000000 in
theorem len_nil (w : World) : Calls Try.prog 13 #[.pointer none] w fun e w' => e = .returned (.int .i64 0) ∧ w = w' := by
  go_enter Try.func13, Try.ntmps13
  go_wp2_with fail
  go_ret
  exact ⟨rfl, rfl⟩
set_option maxHeartbeats 1000000 in
theorem bytes_nil (w : World) : Calls Try.prog 14 #[.pointer none] w fun e w' => e = .returned (.string ⟨#[]⟩) ∧ w = w' := by
  go_enter Try.func14, Try.ntmps14
  go_wp2_with fail
  go_ret
  exact ⟨rfl, rfl⟩
set_option maxHeartbeats 1000000 in
theorem get_nil (n : Int) (w : World) : Calls Try.prog 16 #[.pointer none, .int .i64 n] w fun e w' => e = .returned (.tuple #[.int .u64 0, .int .i64 6]) ∧ w = w' := by
  go_enter Try.func16, Try.ntmps16
  go_wp2_with fail
  go_ret2
  exact ⟨rfl, rfl⟩
set_option maxHeartbeats 1000000 in
theorem rest_nil (w : World) : Calls Try.prog 18 #[.pointer none] w fun e w' => e = .returned (.bool false) ∧ w = w' := by
  go_enter Try.func18, Try.ntmps18
  go_wp2_with fail
  go_ret
  exact ⟨rfl, rfl⟩
set_option maxHeartbeats 1000000 in
theorem err_calls (x : Int) (w : World) : Calls Try.prog 17 #[.int .i64 x] w fun e w' => e = .returned (.int .i64 x) ∧ w = w' := by
  go_enter Try.func17, Try.ntmps17
  go_wp2_with fail
  go_ret
  exact ⟨rfl, rfl⟩
set_option maxHeartbeats 1000000 in
theorem from_calls (s : ByteArray) (w : World) : Calls Try.prog 19 #[.string s] w fun e w' => ∃ p, e = .returned (.pointer (some ⟨p, 0, none⟩)) ∧ IsRd w' p s 0 ∧ Below w.heap.size w w' ∧ w.heap.size ≤ p := by
  go_enter Try.func19, Try.ntmps19
  go_wp2_with fail
  go_ret
  exact ⟨_, rfl, Blk.fresh _ _ _, (Below.refl _ _).alloc (Nat.le_refl _) _, Nat.le_refl _⟩

/-! ### A Reader all of whose memory lies from block B on -/
theorem IsRd.keep {w w' : World} {S : Nat → Prop} {p : Nat} {s : ByteArray} {k : Nat} (h : IsRd w p s k) (hc : Chg S w w') (hp : ¬ S p) : IsRd w' p s k := hc.keep h hp
theorem IsRd.later {w w' : World} {p : Nat} {s : ByteArray} {k : Nat} (h : IsRd w p s k) (hc : Below w.heap.size w w') : IsRd w' p s k := (hc.block p (Blk.lt h)).trans h

theorem get_new (B p : Nat) (s : ByteArray) (k : Nat) (n : Int) (w : World) (hB : B ≤ w.heap.size) (hp : B ≤ p) (h : IsRd w p s k) (hs : s.size ≤ 1000000000000) (hk : k ≤ 8 * s.size) :
    Calls Try.prog 16 #[.pointer (some ⟨p, 0, none⟩), .int .i64 n] w fun e w' => e = .returned (.tuple #[.int .u64 ((getS s k n).1 : Int), .int .i64 ((getS s k n).2.1 : Int)]) ∧
      IsRd w' p s (getS s k n).2.2 ∧ Below B w w' ∧ Chg (fun b => b = p) w w' :=
  (get_calls p s k n w h hs hk).mono fun e w' ⟨he, h1, h2⟩ => ⟨he, h1, h2.below hB (fun b hb e => by omega), h2⟩

/-- One bit is got. -/
theorem get1_new (B p : Nat) (s : ByteArray) (k : Nat) (w : World) (hB : B ≤ w.heap.size) (hp : B ≤ p) (h : IsRd w p s k) (hs : s.size ≤ 1000000000000) (hk : k < 8 * s.size) (y : Nat) (hy : y = (bitS s k).toNat) :
    Calls Try.prog 16 #[.pointer (some ⟨p, 0, none⟩), .int .i64 1] w fun e w' => e = .returned (.tuple #[.int .u64 (y : Int), .int .i64 0]) ∧
      IsRd w' p s (k + 1) ∧ Below B w w' ∧ Chg (fun b => b = p) w w' := by
  have h1 := get_new B p s k 1 w hB hp h hs (by omega)
  have e : getS s k 1 = ((bitS s k).toNat, 0, k + 1) := by
    unfold getS
    rw [if_neg (by omega), if_neg (by omega)]
    have e2 : ((bitsS s).drop k).take (Int.toNat 1) = [bitS s k] := by
      have := drop_step s k 0 (by omega)
      simpa using this
    rw [e2]
    simp [ofBits]
  rw [e] at h1
  subst hy
  exact h1

theorem u8_bounds {a : Int} (w : (Lit.int .u8 a).wf = true) : ∃ m : Nat, a = (m : Int) ∧ m < 256 := by
  simp only [Lit.wf, Bool.and_eq_true, decide_eq_true_eq] at w
  have h1 : IntKind.u8.min = 0 := rfl
  have h2 : IntKind.u8.max = 255 := rfl
  exact ⟨a.toNat, by omega, by omega⟩
theorem u64_bounds {a : Int} (w : (Lit.int .u64 a).wf = true) : ∃ m : Nat, a = (m : Int) ∧ m < 18446744073709551616 := by
  simp only [Lit.wf, Bool.and_eq_true, decide_eq_true_eq] at w
  have h1 : IntKind.u64.min = 0 := rfl
  have h2 : IntKind.u64.max = 18446744073709551615 := rfl
  exact ⟨a.toNat, by omega, by omega⟩
theorem restS_end (s : ByteArray) : restS s (8 * s.size) = true := by
  unfold restS; rw [decide_eq_true (by omega), List.drop_eq_nil_of_le (by simp)]; rfl
end Go.Proofs.Ytcgmofakibfpiaa
