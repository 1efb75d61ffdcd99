/- bits.New, Writer.Put, Len, Bytes. -/
import Derived.Test.YtdbnmijnjfbibaaBw
namespace Go.Proofs.Ytdbnmijnjfbibaa
set_option linter.unusedSimpArgs false
set_option linter.unusedVariables false
open Go.RowKit Mix Own Bits
attribute [local go_sem] max_int min_int

/-- How many bits are put. -/
def clamp (n : Int) : Nat := (max 0 (min n 64)).toNat
theorem clamp_le (n : Int) : clamp n ≤ 64 := by unfold clamp; omega

set_option maxHeartbeats 1000000 in
theorem new_calls (w : World) : Calls Try.prog 16 #[] w fun e w' => ∃ p, e = .returned (.pointer (some ⟨p, 0, none⟩)) ∧ IsW w' p (.slice none 0 0) [] ∧ Below w.heap.size w w' ∧ w.heap.size ≤ p := by
  go_enter Try.func16, Try.ntmps16
  go_wp2
  go_ret
  exact ⟨_, rfl, ⟨Blk.fresh _ _ _, Owns.nil _ _⟩, (Below.refl _ _).alloc (Nat.le_refl _) _, Nat.le_refl _⟩

set_option maxHeartbeats 2000000 in
theorem put_calls (p : Nat) (v : Value) (l : List Bool) (x : Nat) (n : Int) (w : World) (hW : IsW w p v l) (hl : l.length < 1000000000000) (hx : x < 18446744073709551616) (hn0 : -9223372036854775808 ≤ n) (hn1 : n ≤ 9223372036854775807) :
    Calls Try.prog 17 #[.pointer (some ⟨p, 0, none⟩), .int .u64 (x : Int), .int .i64 n] w fun e w' => e = .returned (.tuple #[]) ∧
      ∃ v', IsW w' p v' (l ++ bitsOf x (clamp n)) ∧ Chg (fun k => k = p ∨ some k = v.ownBlock) w w' ∧ ∀ g, v'.ownBlock = some g → some g = v.ownBlock ∨ w.heap.size ≤ g := by
  have HW := kept hW
  have HX := kept hx
  have HL := kept hl
  clear hW hx hl
  obtain ⟨N, hN⟩ : ∃ N, N = clamp n := ⟨_, rfl⟩
  have hN0 : N ≤ 64 := by rw [hN]; exact clamp_le n
  have hNe : mx 0 (mn n 64) = (N : Int) := by rw [hN, mx_eq, mn_eq]; unfold clamp; omega
  have HN := kept hN
  clear hN
  go_enter Try.func17, Try.ntmps17
  go_wp2_with fail
  go_loopw [15] (fun s15 wr => ∃ k : Nat, k ≤ N ∧ s15 = .int .i64 (k : Int) ∧ ∃ v1, IsW wr p v1 (l ++ bitsOf x k) ∧ Chg (fun k => k = p ∨ some k = v.ownBlock) w wr ∧ ∀ g, v1.ownBlock = some g → some g = v.ownBlock ∨ w.heap.size ≤ g)
    (fun s15 _ => N - (intOf s15).toNat)
  case atStart => exact ⟨0, Nat.zero_le _, rfl, v, by simpa [bitsOf] using HW.out, Chg.refl _ _, fun g hg => .inl hg.symm⟩
  case round =>
    obtain ⟨k, hk, rfl, v1, hW1, hC1, hG1⟩ := hrel
    have HW1 := kept hW1
    have HC1 := kept hC1
    have HG1 := kept hG1
    clear hW1 hC1 hG1
    by_cases hlt : k < N
    · have hln : (l ++ bitsOf x k).length < 1099511627776 := by have := HL.out; simp; omega
      have hsh : (x : Int) / 2 ^ k < 18446744073709551616 := by
        have hx := HX.out
        have h1 : (x : Int) / 2 ^ k ≤ x := Int.ediv_le_self _ (by omega)
        omega
      have hsh0 : 0 ≤ (x : Int) / 2 ^ k := Int.ediv_nonneg (by omega) (Int.pow_nonneg (by decide))
      have HS := kept hsh
      have HS0 := kept hsh0
      clear hsh hsh0
      have HLN := kept hln
      clear hln
      go_wp2_with (first | (go_at_call 24; refine (bit_calls p v1 (l ++ bitsOf x k) _ wr HW1.out HLN.out HS0.out HS.out).mono ?_; rintro e w2 ⟨rfl, v2, hW2, hC2, hG2⟩; have HW2 := kept hW2; have HC2 := kept hC2; have HG2 := kept hG2; clear hW2 hC2 hG2))
      go_roundw
      case rel =>
        refine ⟨k + 1, by omega, by go_num, v2, ?_, ?_, ?_⟩
        · rw [bitsOf_succ, ← List.append_assoc, ← bitOf_shift]; exact HW2.out
        · exact HC1.out.trans HC2.out (fun k hk h => by
            rcases h with h | h
            · exact .inl h
            · rcases HG1.out k h.symm with h2 | h2
              · exact .inr h2
              · omega)
        · intro g hg
          rcases HG2.out g hg with h2 | h2
          · exact HG1.out g h2.symm
          · exact .inr (Nat.le_trans HC1.out.size h2)
      case measure => simp [intOf]; omega
    · go_wp2_with fail
      go_end0
      have : k = N := by omega
      subst this
      exact ⟨rfl, v1, by rw [← HN.out]; exact HW1.out, HC1.out, HG1.out⟩

/-- The text that bytes are. -/
def textOf (l : List Nat) : ByteArray := ⟨(l.map UInt8.ofNat).toArray⟩

theorem strOf_eq (l : List Nat) : strOfNums (l.map fun (n : Nat) => (n : Int)) = textOf l := by
  unfold strOfNums textOf
  simp [Function.comp_def]

theorem conv_string {w : World} {v : Value} {l : List Nat} (h : Owns w 5 v (u8s l)) :
    (convert 42 9 v).run Try.prog w = .ok (.string (textOf l)) w := by
  rcases h.form with ⟨rfl, hx⟩ | ⟨g, cap, cur, rfl, hb, hc, hm, hs, ht⟩
  · have : l = [] := by simpa [u8s] using hx
    subst this
    exact run_convert_bytes_nil (P := Try.prog) w 42 5 Try.underlying42 Try.underlying5 0 0 9 Try.underlying9
  · rw [← strOf_eq]
    refine run_convert_bytes_arg (P := Try.prog) w 42 5 Try.underlying42 Try.underlying5 g 0 _ cap _ (by simp) (fun i hi => ?_) 9 Try.underlying9
    simp only [length_u8s] at hi
    rw [Nat.zero_add]
    exact h.cell (by simp [u8s, hi])

set_option maxHeartbeats 1000000 in
theorem bytes_calls (p : Nat) (v : Value) (l : List Bool) (w : World) (hW : IsW w p v l) :
    Calls Try.prog 18 #[.pointer (some ⟨p, 0, none⟩)] w fun e w' => e = .returned (.string (textOf (pack l))) ∧ w = w' := by
  have hc0 : w.cell? ⟨p, 0, none⟩ = some v := hW.blk.cell rfl
  have hcv := conv_string hW.row
  have HW := kept hW
  clear hW
  go_enter Try.func18, Try.ntmps18
  go_wp2
  go_ret
  exact ⟨rfl, rfl⟩
end Go.Proofs.Ytdbnmijnjfbibaa
