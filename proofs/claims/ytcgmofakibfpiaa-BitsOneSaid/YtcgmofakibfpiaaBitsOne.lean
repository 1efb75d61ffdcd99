/- BitsOne's walk: two writers, one put to at once, the other bit by bit. -/
import Derived.Test.YtcgmofakibfpiaaBo
import Derived.OpenShut
import Derived.Deep.RegionWith
namespace Go.Proofs.Ytcgmofakibfpiaa
set_option linter.unusedSimpArgs false
set_option linter.unusedVariables false
open Go.RowKit Mix Own Bits

theorem clamp_of (n : Nat) (h : n ≤ 64) : clamp (n : Int) = n := by unfold clamp; omega

set_option maxHeartbeats 4000000 in
theorem BitsOne_walk (a0 a1 : Int) (w : World) (w0 : (Lit.int .u64 a0).wf = true) (w1 : (Lit.int .u8 a1).wf = true) :
    Calls Try.prog 4 #[.int .u64 a0, .int .u8 a1] w fun e w' => e = .returned (.bool true) ∧ Below w.heap.size w w' := by
  have b0 : 0 ≤ a0 ∧ a0 < 18446744073709551616 := by
    simp only [Lit.wf, Bool.and_eq_true, decide_eq_true_eq] at w0
    have h1 : IntKind.u64.min = 0 := rfl
    have h2 : IntKind.u64.max = 18446744073709551615 := rfl
    omega
  have b1 : 0 ≤ a1 ∧ a1 < 256 := by
    simp only [Lit.wf, Bool.and_eq_true, decide_eq_true_eq] at w1
    have h1 : IntKind.u8.min = 0 := rfl
    have h2 : IntKind.u8.max = 255 := rfl
    omega
  clear w0 w1
  obtain ⟨x, rfl⟩ := Int.eq_ofNat_of_zero_le b0.1
  obtain ⟨m, rfl⟩ := Int.eq_ofNat_of_zero_le b1.1
  have hx : x < 18446744073709551616 := by omega
  have HX := kept hx
  have hm : m < 256 := by omega
  clear b0 b1 hx
  obtain ⟨B, hB⟩ : ∃ B, B = w.heap.size := ⟨_, rfl⟩
  rw [← hB]
  have HB := kept hB
  clear hB
  obtain ⟨k, hk⟩ : ∃ k, k = m % 65 := ⟨_, rfl⟩
  have hk64 : k ≤ 64 := by omega
  have hkm : (m : Int) % 65 = (k : Int) := by omega
  have HK := kept hk
  clear hk
  go_enter Try.func4, Try.ntmps4
  go_wp2_with fail
  refine (new_new B w (by rw [HB.out]; exact Nat.le_refl _)).mono ?_
  rintro e wa ⟨pa, rfl, hWa, hba, hpa⟩
  have HS1 : Kept (B ≤ wa.heap.size) := kept (by rw [HB.out]; exact hba.size)
  have hpl : pa < wa.heap.size := hWa.is.blk.lt
  have HWa := kept hWa
  have HBa : Kept (Below B w wa) := kept (by rw [HB.out]; exact hba)
  clear hWa hba hpa
  go_wp2_with fail
  refine (new_new B wa HS1.out).mono ?_
  rintro e wb ⟨pb, rfl, hWb, hbb, hpb⟩
  have hne : pa ≠ pb := by omega
  have HS2 := kept (Nat.le_trans HS1.out hbb.size)
  have HWa2 := kept (HWa.out.later hbb)
  have HWb := kept hWb
  have HBb := kept (HBa.out.trans (hbb.mono HS1.out))
  clear hWb hbb hpb hpl HWa HBa
  go_wp2_with fail
  refine (put_new B pa _ [] x k wb HS2.out HWa2.out (by decide) HX.out (by omega) (by omega)).mono ?_
  rw [clamp_of k hk64, List.nil_append]
  rintro e wc ⟨rfl, va, hWa, hbc, hC, hG⟩
  have hbv := hWa.row
  have HWc : Kept (NewW B wc pb (.slice none 0 0) []) := kept (HWb.out.keep hC (by
    rintro (h | h)
    · exact hne h.symm
    · simp [Value.ownBlock] at h) (fun g hg => by simp [Value.ownBlock] at hg))
  have HS3 := kept (Nat.le_trans HS2.out hbc.size)
  have HBc := kept (HBb.out.trans hbc)
  have HWa3 := kept hWa
  clear hWa hbc hC hG hbv HWa2 HWb HBb
  go_wp2_with fail
  go_loopw [8] (fun s8 wr => ∃ i : Nat, i ≤ k ∧ s8 = .int .i64 (i : Int) ∧ ∃ vb, NewW B wr pb vb (bitsOf x i) ∧ NewW B wr pa va (bitsOf x k) ∧ (∀ g, va.ownBlock = some g → vb.ownBlock ≠ some g) ∧ Below B w wr ∧ B ≤ wr.heap.size)
    (fun s8 _ => k - (intOf s8).toNat)
  case atStart => exact ⟨0, Nat.zero_le _, rfl, _, HWc.out, HWa3.out, fun g _ h => by simp [Value.ownBlock] at h, HBc.out, HS3.out⟩
  case round =>
    obtain ⟨i, hi, rfl, vb, hWb, hWa, hsep, hbr, hsr⟩ := hrel
    have HWb := kept hWb
    have HWa := kept hWa
    have HSep := kept hsep
    have HBr := kept hbr
    have HSr := kept hsr
    clear hWb hWa hsep hbr hsr
    by_cases hlt : i < k
    · obtain ⟨y, hy⟩ : ∃ y, y = x / 2 ^ i := ⟨_, rfl⟩
      have hyx : y < 18446744073709551616 := by
        have h1 := HX.out
        have h2 : x / 2 ^ i ≤ x := Nat.div_le_self _ _
        omega
      have hyi : ((x : Int) / 2 ^ i) = (y : Int) := by rw [hy]; simp
      have HY := kept hy
      have HYX := kept hyx
      clear hy hyx
      go_wp2_with (first | (go_at_call 11; refine (put_new B pb vb (bitsOf x i) y 1 wr HSr.out HWb.out (by simp; omega) HYX.out (by decide) (by decide)).mono ?_; rintro e w2 ⟨rfl, v2, hW2, hb2, hC2, hG2⟩; have HW2 := kept hW2; have HB2 := kept hb2; have HC2 := kept hC2; have HG2 := kept hG2; clear hW2 hb2 hC2 hG2))
      go_roundw
      case rel =>
        refine ⟨i + 1, by omega, by go_num, v2, ?_, ?_, ?_, HBr.out.trans HB2.out, Nat.le_trans HSr.out HB2.out.size⟩
        · have e : bitsOf y (clamp 1) = [x.testBit i] := by
            rw [HY.out]
            show [(x / 2 ^ i).testBit 0] = _
            rw [Nat.testBit_div_two_pow, Nat.zero_add]
          rw [bitsOf_succ, ← e]
          exact HW2.out
        · exact HWa.out.keep HC2.out (by
            rintro (h | h)
            · exact hne h
            · exact HWb.out.is.row.ne HWa.out.is.blk (by decide) h.symm) (fun g hg => by
            rintro (h | h)
            · exact HWa.out.is.row.ne HWb.out.is.blk (by decide) (by rw [hg, h])
            · exact HSep.out g hg h.symm)
        · intro g hg h
          rcases HG2.out g h with h2 | h2
          · exact HSep.out g hg h2.symm
          · have := HWa.out.is.row.lt g hg
            omega
      case measure => simp [intOf]; omega
    · have hik : i = k := by omega
      subst hik
      have hA := bytes_calls pa va _ wr HWa.out.is
      have hBy := bytes_calls pb vb _ wr HWb.out.is
      have hL := len_calls pa va _ wr HWa.out.is
      rw [length_bitsOf] at hL
      obtain ⟨T, hT⟩ : ∃ T, T = textOf (pack (bitsOf x i)) := ⟨_, rfl⟩
      rw [← hT] at hA hBy
      have HA := kept hA
      have HBy := kept hBy
      have HL := kept hL
      clear hA hBy hL hT
      go_wp2_with (first
        | (go_at_call 11; refine (put_nil _ _ _).mono ?_; rintro e w' ⟨rfl, rfl⟩)
        | (go_at_call 16; refine (get_nil _ _).mono ?_; rintro e w' ⟨rfl, rfl⟩)
        | (go_at_call 18; refine (rest_nil _).mono ?_; rintro e w' ⟨rfl, rfl⟩)
        | (go_at_call 17; refine (err_calls _ _).mono ?_; rintro e w' ⟨rfl, rfl⟩)
        | (go_at_call_of 14 (Value.pointer (some ⟨pa, 0, none⟩)); refine HA.out.mono ?_; rintro e w' ⟨rfl, rfl⟩)
        | (go_at_call_of 14 (Value.pointer (some ⟨pb, 0, none⟩)); refine HBy.out.mono ?_; rintro e w' ⟨rfl, rfl⟩)
        | (go_at_call 14; refine (bytes_nil _).mono ?_; rintro e w' ⟨rfl, rfl⟩)
        | (go_at_call_of 13 (Value.pointer (some ⟨pa, 0, none⟩)); refine HL.out.mono ?_; rintro e w' ⟨rfl, rfl⟩)
        | (go_at_call 13; refine (len_nil _).mono ?_; rintro e w' ⟨rfl, rfl⟩)
        | (go_at_call 10; refine (awake3_calls _).mono ?_; rintro e w9 ⟨rfl, hb9⟩; have HB9 := kept hb9; clear hb9))
      go_ret
      exact ⟨rfl, HBr.out.trans (HB9.out.mono HSr.out)⟩
end Go.Proofs.Ytcgmofakibfpiaa
