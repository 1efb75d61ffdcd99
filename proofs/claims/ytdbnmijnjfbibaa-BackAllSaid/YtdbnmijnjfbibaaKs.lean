/- back.Seal: the text of numbers in bits, a bit 1 behind all. -/
import Derived.Test.YtdbnmijnjfbibaaBn
import Derived.Test.YtdbnmijnjfbibaaBf
import Derived.Test.YtdbnmijnjfbibaaSized
import Derived.OpenShut
import Derived.Deep.RegionWith
namespace Go.Proofs.Ytdbnmijnjfbibaa
set_option linter.unusedSimpArgs false
set_option linter.unusedVariables false
open Go.RowKit Mix Own Bits
attribute [local go_sem] max_int min_int

/-- The bits of the first i numbers, each in as many bits as it is told. -/
def catC (xs : List Nat) (ys : List Int) : Nat → List Bool
  | 0 => []
  | i + 1 => catC xs ys i ++ bitsOf (xs.getD i 0) (clamp (ys.getD i 0))

theorem catC_len (xs : List Nat) (ys : List Int) (i : Nat) : (catC xs ys i).length ≤ 64 * i := by
  induction i with
  | zero => simp [catC]
  | succ i ih =>
    have := clamp_le (ys.getD i 0)
    rw [catC, List.length_append, length_bitsOf]
    omega

theorem bitsOf_one : bitsOf 1 (clamp 1) = [true] := rfl

theorem mem_getD {l : List Nat} {P : Nat → Prop} (h : ∀ n ∈ l, P n) (i : Nat) (hi : i < l.length) : P (l.getD i 0) := by
  rw [List.getD_eq_getElem?_getD, List.getElem?_eq_getElem hi]; exact h _ (List.getElem_mem _)
theorem mem_getDI {l : List Int} {P : Int → Prop} (h : ∀ n ∈ l, P n) (i : Nat) (hi : i < l.length) : P (l.getD i 0) := by
  rw [List.getD_eq_getElem?_getD, List.getElem?_eq_getElem hi]; exact h _ (List.getElem_mem _)

set_option maxHeartbeats 4000000 in
theorem seal_calls (a0 : Option Addr) (n0 c0 : Nat) (xs : List Nat) (a1 : Option Addr) (n1 c1 : Nat) (ys : List Int) (w : World) (hR0 : Rd w (.slice a0 n0 c0) (nums .u64 xs)) (hR1 : Rd w (.slice a1 n1 c1) (ints .i64 ys))
    (hX : ∀ x ∈ xs, x < 18446744073709551616) (hY : ∀ y ∈ ys, -9223372036854775808 ≤ y ∧ y ≤ 9223372036854775807) (n : Nat) (hn : n = min n0 n1) (hn100 : n ≤ 1000) (hb0 : n0 < 1000000000000000) (hb1 : n1 < 1000000000000000) :
    Calls Try.prog 7 #[.slice a0 n0 c0, .slice a1 n1 c1] w fun e w' => e = .returned (.string (textOf (pack (catC xs ys n ++ [true])))) ∧ Below w.heap.size w w' := by
  have hx : xs.length = n0 := by have := hR0.length; rw [length_nums] at this; exact this.symm
  have hy : ys.length = n1 := by have := hR1.length; rw [length_ints] at this; exact this.symm
  have hmn : mn (n0 : Int) (n1 : Int) = (n : Int) := by rw [mn_eq]; omega
  have hle : n ≤ n0 ∧ n ≤ n1 := by omega
  obtain ⟨B, hB⟩ : ∃ B, B = w.heap.size := ⟨_, rfl⟩
  rw [← hB]
  obtain ⟨T, hT⟩ : ∃ T, T = textOf (pack (catC xs ys n ++ [true])) := ⟨_, rfl⟩
  rw [← hT]
  have HB := kept hB
  have HR0 := kept hR0
  have HR1 := kept hR1
  have HX := kept hX
  have HY := kept hY
  have HXL := kept hx
  have HYL := kept hy
  have HB0 := kept hb0
  have HB1 := kept hb1
  have HT := kept hT
  have HLE := kept hle
  clear hB hR0 hR1 hX hY hx hy hb0 hb1 hT hn hle
  go_enter Try.func7, Try.ntmps7
  go_wp2_with fail
  refine (new_new B w (by rw [HB.out]; exact Nat.le_refl _)).mono ?_
  rintro e wa ⟨pa, rfl, hWa, hba, hpa⟩
  have HWa := kept hWa
  have HS1 : Kept (B ≤ wa.heap.size) := kept (by rw [HB.out]; exact hba.size)
  have HBa : Kept (Below B w wa) := kept (by rw [HB.out]; exact hba)
  clear hWa hba hpa
  go_wp2_with fail
  go_loopw [16] (fun s16 wr => ∃ i : Nat, i ≤ n ∧ s16 = .int .i64 (i : Int) ∧ ∃ va, NewW B wr pa va (catC xs ys i) ∧ Below B w wr ∧ B ≤ wr.heap.size)
    (fun s16 _ => n - (intOf s16).toNat)
  case atStart => exact ⟨0, Nat.zero_le _, rfl, _, HWa.out, HBa.out, HS1.out⟩
  case round =>
    obtain ⟨i, hi, rfl, va, hW, hb, hs⟩ := hrel
    have HW := kept hW
    have HBr := kept hb
    have HS := kept hs
    clear hW hb hs HWa HBa HS1
    by_cases hlt : i < n
    · have hi0 : i < n0 := by have := HLE.out; omega
      have hi1 : i < n1 := by have := HLE.out; omega
      have hrd0 := HR0.out.below HBr.out (by rw [HB.out]; exact HR0.out.lt)
      have hrd1 := HR1.out.below HBr.out (by rw [HB.out]; exact HR1.out.lt)
      obtain ⟨x0, rfl, hc0⟩ := hrd0.at (Own.nums_at .u64 xs i (by rw [HXL.out]; exact hi0))
      obtain ⟨x1, rfl, hc1⟩ := hrd1.at (Own.ints_at .i64 ys i (by rw [HYL.out]; exact hi1))
      have hx64 := mem_getD HX.out i (by rw [HXL.out]; exact hi0)
      have hy64 := mem_getDI HY.out i (by rw [HYL.out]; exact hi1)
      obtain ⟨x, hx⟩ : ∃ x, x = xs.getD i 0 := ⟨_, rfl⟩
      obtain ⟨y, hy⟩ : ∃ y, y = ys.getD i 0 := ⟨_, rfl⟩
      have hcat : catC xs ys (i + 1) = catC xs ys i ++ bitsOf x (clamp y) := by rw [hx, hy]; rfl
      rw [← hx] at hc0 hx64
      rw [← hy] at hc1 hy64
      have HX64 := kept hx64
      have HY64 := kept hy64
      have HC := kept hcat
      have l0 := lat_cell hc0
      have l1 := lat_cell hc1
      have hcl := catC_len xs ys i
      have HLL : Kept ((catC xs ys i).length < 1000000000000) := kept (by omega)
      clear hx hy hx64 hy64 hrd0 hrd1 hcat hcl hc0 hc1
      go_wp2_with fail
      refine wp_region_mixL [] [0,1,2,3,4,5,6,7,8] [9] (by kernel_rfl) (by kernel_rfl) ?_
      intro K1 hK1
      simp only [pick, List.filterMap_cons, List.filterMap_nil, List.getElem?_cons_zero, List.getElem?_cons_succ]
      refine wpQuiet_nil ?_
      repeat (show wpQuiet _ _ _ _ (_ :: _) _; go_big_quiet_step (fail))
      refine wpQuiet_nil ?_
      show wpList _ _ _ (_ :: _) _ _
      generalize hwd : World.drew wr = wd
      have hlat : Below wr.heap.size wr wd := by rw [← hwd]; exact (Below.refl _ _).drew
      have HW2 := kept (HW.out.later hlat)
      have HB2 := kept (HBr.out.trans (hlat.mono HS.out))
      have HS2 := kept (Nat.le_trans HS.out hlat.size)
      clear hwd hlat l0 l1
      go_wp2_with (first
        | (go_at_call 17; refine (put_new B pa va _ x y wd HS2.out HW2.out HLL.out HX64.out HY64.out.1 HY64.out.2).mono ?_; rintro e w2 ⟨rfl, va2, hW2, hb2, hC2, hG2⟩; have HW3 := kept hW2; have HB3 := kept (HB2.out.trans hb2); have HS3 := kept (Nat.le_trans HS2.out hb2.size); clear hW2 hb2 hC2 hG2))
      refine hK1 _ _ ?_
      go_wp2_with fail
      go_roundw
      case rel => exact ⟨i + 1, by omega, by go_num, va2, by rw [HC.out]; exact HW3.out, HB3.out, HS3.out⟩
      case measure => simp [intOf]; omega
    · have hin : i = n := by omega
      subst hin
      have hcl := catC_len xs ys i
      have HLL : Kept ((catC xs ys i).length < 1000000000000) := kept (by omega)
      clear hcl
      go_wp2_with (first
        | (go_at_call 17; refine (put_new B pa va _ 1 1 wr HS.out HW.out HLL.out (by decide) (by decide) (by decide)).mono ?_; rintro e w2 ⟨rfl, va2, hW2, hb2, hC2, hG2⟩; have hA := bytes_calls pa va2 _ w2 hW2.is; rw [bitsOf_one, ← HT.out] at hA; have HA := kept hA; have HB3 := kept (HBr.out.trans hb2); clear hW2 hb2 hC2 hG2 hA)
        | (go_at_call 18; refine HA.out.mono ?_; rintro e w' ⟨rfl, rfl⟩))
      go_ret
      exact ⟨rfl, HB3.out⟩
end Go.Proofs.Ytdbnmijnjfbibaa
