/- BitsBack's walk: what was put is got. -/
import Derived.Test.YtcgmofakibfpiaaBt
import Derived.Test.YtcgmofakibfpiaaSized
import Derived.OpenShut
import Derived.Deep.RegionWith
namespace Go.Proofs.Ytcgmofakibfpiaa
set_option linter.unusedSimpArgs false
set_option linter.unusedVariables false
open Go.RowKit Mix Own Bits

/-- The bits of the first i numbers, each in so many bits. -/
def catN (xs ys : List Nat) : Nat → List Bool
  | 0 => []
  | i + 1 => catN xs ys i ++ bitsOf (xs.getD i 0) (ys.getD i 0 % 65)

theorem catN_split (xs ys : List Nat) (i n : Nat) (h : i < n) : ∃ r, catN xs ys n = catN xs ys i ++ (bitsOf (xs.getD i 0) (ys.getD i 0 % 65) ++ r) := by
  induction n with
  | zero => omega
  | succ n ih =>
    rcases Nat.lt_or_ge i n with h1 | h1
    · obtain ⟨r, hr⟩ := ih h1
      exact ⟨r ++ bitsOf (xs.getD n 0) (ys.getD n 0 % 65), by rw [catN, hr]; simp⟩
    · have : i = n := by omega
      subst this
      exact ⟨[], by rw [catN]; simp⟩

theorem catN_len (xs ys : List Nat) (i : Nat) : (catN xs ys i).length ≤ 64 * i := by
  induction i with
  | zero => simp [catN]
  | succ i ih =>
    rw [catN, List.length_append, length_bitsOf]
    omega

theorem catN_mono (xs ys : List Nat) (i n : Nat) (h : i ≤ n) : (catN xs ys i).length ≤ (catN xs ys n).length := by
  rcases Nat.lt_or_ge i n with h1 | h1
  · obtain ⟨r, hr⟩ := catN_split xs ys i n h1
    rw [hr]; simp
  · rw [show i = n by omega]; exact Nat.le_refl _

theorem getS_cat (xs ys : List Nat) (i n : Nat) (h : i < n) :
    getS (textOf (pack (catN xs ys n))) (catN xs ys i).length ((ys.getD i 0 % 65 : Nat) : Int) = (xs.getD i 0 % 2 ^ (ys.getD i 0 % 65), 0, (catN xs ys (i + 1)).length) := by
  obtain ⟨r, hr⟩ := catN_split xs ys i n h
  rw [getS_pack _ _ _ (by omega) (by rw [hr]; simp)]
  have e : ((catN xs ys n).drop (catN xs ys i).length).take (ys.getD i 0 % 65) = bitsOf (xs.getD i 0) (ys.getD i 0 % 65) := by
    rw [hr, List.drop_left, List.take_left' (by simp)]
  rw [e, ofBits_bitsOf, catN, List.length_append, length_bitsOf]

theorem getD_lt {l : List Nat} {b : Nat} (h : ∀ n ∈ l, n < b) (i : Nat) (hi : i < l.length) : l.getD i 0 < b := by
  rw [List.getD_eq_getElem?_getD, List.getElem?_eq_getElem hi]; exact h _ (List.getElem_mem _)

theorem u64w (n : Nat) (h : n < 18446744073709551616) : IntKind.u64.wrap (n : Int) = (n : Int) := by
  simp [IntKind.wrap, IntKind.bits, IntKind.signed]; omega

theorem mask_eq (x k : Nat) (hx : x < 18446744073709551616) (hk : k < 64) : bits .and .u64 (x : Int) (IntKind.u64.wrap (IntKind.u64.wrap (2 ^ k) - 1)) = (x : Int) % 2 ^ k := by
  have h1 : 2 ^ k ≤ 2 ^ 63 := Nat.pow_le_pow_right (by decide) (by omega)
  have h2 : 0 < 2 ^ k := Nat.pow_pos (by decide)
  have h3 : (2 : Nat) ^ 63 = 9223372036854775808 := by decide
  have e1 : ((2 : Int) ^ k) = ((2 ^ k : Nat) : Int) := by simp
  have e2 : IntKind.u64.wrap ((2 : Int) ^ k) = ((2 ^ k : Nat) : Int) := by
    rw [e1]; exact u64w (2 ^ k) (by omega)
  have e3 : IntKind.u64.wrap (((2 ^ k : Nat) : Int) - 1) = ((2 ^ k - 1 : Nat) : Int) := by
    rw [show ((2 ^ k : Nat) : Int) - 1 = ((2 ^ k - 1 : Nat) : Int) by omega]; exact u64w _ (by omega)
  rw [e2, e3, u64_and _ _ (by omega) (by omega) (by omega) (by omega), Int.toNat_natCast, Int.toNat_natCast, Nat.and_two_pow_sub_one_eq_mod, e1]
  simp

theorem clampN (n : Nat) (h : n ≤ 64) : clamp (n : Int) = n := by unfold clamp; omega

set_option maxRecDepth 8000 in
set_option maxHeartbeats 4000000 in
theorem BitsBack_walk (a0 : Option Addr) (n0 c0 : Nat) (z0 : List Int) (a1 : Option Addr) (n1 c1 : Nat) (z1 : List Int) (w : World) (w0 : Arg .u64 w a0 n0 c0 z0) (y0 : n0 * 8 ≤ 140737488351232) (w1 : Arg .u8 w a1 n1 c1 z1) (y1 : n1 * 1 ≤ 140737488351232) :
    Calls Try.prog 6 #[.slice a0 n0 c0, .slice a1 n1 c1] w fun e w' => e = .returned (.bool true) ∧ Below w.heap.size w w' := by
  obtain ⟨xs, hx, hR0, hX⟩ := w0.rdN rfl
  obtain ⟨ys, hy, hR1, hY⟩ := w1.rdN rfl
  clear w0 w1
  have hX2 : ∀ n ∈ xs, n < 18446744073709551616 := fun n hn => by
    have h1 := hX n hn
    have h2 : IntKind.u64.max = 18446744073709551615 := rfl
    omega
  have hY2 : ∀ n ∈ ys, n < 256 := fun n hn => by
    have h1 := hY n hn
    have h2 : IntKind.u8.max = 255 := rfl
    omega
  obtain ⟨B, hB⟩ : ∃ B, B = w.heap.size := ⟨_, rfl⟩
  rw [← hB]
  have HB := kept hB
  have HR0 := kept hR0
  have HR1 := kept hR1
  have HX := kept hX2
  have HY := kept hY2
  have HXL := kept hx
  have HYL := kept hy
  have HN1 : Kept (n1 < 200000000000000) := kept (by omega)
  have HN0 : Kept (n0 < 100000000000000) := kept (by omega)
  clear hB hR0 hR1 hX hY hx hy y0 y1 hX2 hY2
  go_enter Try.func6, Try.ntmps6
  go_wp2_with fail
  refine (new_new B w (by rw [HB.out]; exact Nat.le_refl _)).mono ?_
  rintro e wa ⟨pa, rfl, hWa, hba, hpa⟩
  have HWa := kept hWa
  have HS1 : Kept (B ≤ wa.heap.size) := kept (by rw [HB.out]; exact hba.size)
  have HBa : Kept (Below B w wa) := kept (by rw [HB.out]; exact hba)
  clear hWa hba hpa
  by_cases hbig : 100 < n0
  · have t0 : decide ((100 : Int) < (n0 : Int)) = true := by simp; omega
    go_wp2_with (first | (go_at_call 10; refine (awake3_calls _).mono ?_; rintro e w9 ⟨rfl, hb9⟩; have HB9 := kept hb9; clear hb9))
    go_ret
    exact ⟨rfl, HBa.out.trans (HB9.out.mono HS1.out)⟩
  have t0 : decide ((100 : Int) < (n0 : Int)) = false := by simp; omega
  have hn : n0 ≤ 100 := by omega
  clear hbig
  go_wp2_with fail
  clear t0
  go_loopw [6, 7] (fun s6 s7 wr => ∃ i : Nat, i ≤ n0 ∧ i ≤ n1 ∧ s7 = .int .i64 (i : Int) ∧ (∃ m : Nat, m = (catN xs ys i).length ∧ s6 = .int .i64 (m : Int)) ∧ ∃ va, NewW B wr pa va (catN xs ys i) ∧ Below B w wr ∧ B ≤ wr.heap.size)
    (fun s6 s7 _ => n0 - (intOf s7).toNat)
  case atStart => exact ⟨0, Nat.zero_le _, Nat.zero_le _, rfl, ⟨0, rfl, rfl⟩, _, HWa.out, HBa.out, HS1.out⟩
  case round =>
    obtain ⟨i, hi, hi1, rfl, ⟨m, hm, rfl⟩, va, hW, hb, hs⟩ := hrel
    have HW := kept hW
    have HBr := kept hb
    have HS := kept hs
    have HM := kept hm
    have hml := catN_len xs ys i
    rw [← hm] at hml
    have hm7 : m ≤ 6400 := by omega
    clear hW hb hs hm hml HWa HBa HS1
    by_cases hlt : i < n0 ∧ i < n1
    · have t1 : decide ((i : Int) < (n0 : Int)) = true := by simp; omega
      have t2 : decide ((i : Int) < (n1 : Int)) = true := by simp; omega
      have hrd0 := HR0.out.below HBr.out (by rw [HB.out]; exact HR0.out.lt)
      have hrd1 := HR1.out.below HBr.out (by rw [HB.out]; exact HR1.out.lt)
      obtain ⟨x0, rfl, hc0⟩ := hrd0.at (Own.nums_at .u64 xs i (by rw [HXL.out]; exact hlt.1))
      obtain ⟨x1, rfl, hc1⟩ := hrd1.at (Own.nums_at .u8 ys i (by rw [HYL.out]; exact hlt.2))
      have hx64 := getD_lt HX.out i (by rw [HXL.out]; exact hlt.1)
      have hy8 := getD_lt HY.out i (by rw [HYL.out]; exact hlt.2)
      obtain ⟨x, hx⟩ : ∃ x, x = xs.getD i 0 := ⟨_, rfl⟩
      obtain ⟨y, hy⟩ : ∃ y, y = ys.getD i 0 := ⟨_, rfl⟩
      have hcat : catN xs ys (i + 1) = catN xs ys i ++ bitsOf x (y % 65) := by rw [hx, hy]; rfl
      rw [← hx] at hc0 hx64
      rw [← hy] at hc1 hy8
      have HX64 := kept hx64
      have HC := kept hcat
      have l0 := lat_cell hc0
      have l1 := lat_cell hc1
      have HA1 : Kept (x1.block < w.heap.size) := kept (HR1.out.lt _ (by cases n1 with | zero => omega | succ n => rfl))
      have HLL : Kept ((catN xs ys i).length < 1000000000000) := kept (by rw [← HM.out]; omega)
      have hym : ((y % 65 : Nat) : Int) = (y : Int) % 65 := by omega
      have HYM := kept hym
      clear hx hy hx64 hrd0 hrd1 hcat hc0 hym
      go_wp2_with fail
      refine wp_region_mixL [] [0,1,2,3,4,5,6,7,8,9,10] [11] (by kernel_rfl) (by kernel_rfl) ?_
      intro K1 hK1
      simp only [pick, List.filterMap_cons, List.filterMap_nil, List.getElem?_cons_zero, List.getElem?_cons_succ]
      refine wpQuiet_nil ?_
      repeat (show wpQuiet _ _ _ _ (_ :: _) _; go_big_quiet_step (fail))
      refine wpQuiet_nil ?_
      show wpList _ _ _ (_ :: _) _ _
      generalize hwd : World.drew wr = wd
      have hlat : Below wr.heap.size wr wd := by rw [← hwd]; exact (Below.refl _ _).drew
      have HW2 := kept (HW.out.later hlat)
      have HB2 := kept (HBr.out.trans (hlat.mono HS.out))
      have HS2 := kept (Nat.le_trans HS.out hlat.size)
      have hc1 : wd.cell? (x1.add i) = some (.int .u8 (y : Int)) := by rw [← hwd]; exact hc1
      have HC1 := kept hc1
      have HP : Kept (Calls Try.prog 11 #[.pointer (some ⟨pa, 0, none⟩), .int .u64 (x : Int), .int .i64 ((y : Int) % 65)] wd fun e w' => e = .returned (.tuple #[]) ∧
          ∃ v', NewW B w' pa v' (catN xs ys (i + 1)) ∧ Below B wd w') := kept (by
        rw [HC.out, ← HYM.out]
        refine (put_new B pa va _ x ((y % 65 : Nat) : Int) wd HS2.out HW2.out HLL.out HX64.out (by omega) (by omega)).mono ?_
        rintro e w' ⟨he, v', h1, h2, _⟩
        rw [clampN _ (by omega)] at h1
        exact ⟨he, v', h1, h2⟩)
      clear hwd hlat l0 l1 hc1
      go_wp2_with (first
        | (go_at_call 11; refine HP.out.mono ?_; rintro e w2 ⟨rfl, va2, hW2, hb2⟩; have HW3 := kept hW2; have HB3 := kept (HB2.out.trans hb2); have HS3 := kept (Nat.le_trans HS2.out hb2.size); have hc1 : w2.cell? (x1.add i) = some (.int .u8 (y : Int)) := (hb2.cell (by rw [Own.add_block, HB.out]; exact HA1.out)).trans HC1.out; clear hW2 hb2))
      refine hK1 _ _ ?_
      go_wp2_with fail
      go_roundw
      case rel =>
        refine ⟨i + 1, by omega, by omega, by go_num, ⟨(catN xs ys (i + 1)).length, rfl, ?_⟩, va2, HW3.out, HB3.out, HS3.out⟩
        rw [HC.out, List.length_append, length_bitsOf, ← HM.out]
        have := HYM.out
        go_num
      case measure => simp [intOf]; omega
    · obtain ⟨L, hL⟩ : ∃ L, L = catN xs ys i := ⟨_, rfl⟩
      obtain ⟨T, hT⟩ : ∃ T, T = textOf (pack L) := ⟨_, rfl⟩
      have hA := bytes_calls pa va _ wr HW.out.is
      have hLn : ∀ wd, Below wr.heap.size wr wd → Calls Try.prog 13 #[.pointer (some ⟨pa, 0, none⟩)] wd fun e w' => e = .returned (.int .i64 (m : Int)) ∧ wd = w' := fun wd hbd => by
        rw [HM.out]; exact len_calls pa va _ wd (HW.out.later hbd).is
      rw [← hL, ← hT] at hA
      have hTs : T.size = (m + 7) / 8 := by rw [hT, size_textOf, length_pack, hL, ← HM.out]
      have HTs : Kept (T.size = (m + 7) / 8) := kept hTs
      have HTS : Kept (T.size ≤ 1000000000000) := kept (by omega)
      have HA := kept hA
      have HLn := kept hLn
      have HL := kept hL
      have HT := kept hT
      have hq : ((m : Int) + 7) / 8 = (T.size : Int) := by omega
      have hT' : T.size < 1000000 := by omega
      clear hA hLn hL hT hTs
      have hor : ¬ i < n0 ∨ (i < n0 ∧ ¬ i < n1) := by omega
      rcases hor with t1 | ⟨t1, t2⟩
      all_goals
        go_wp2_with (first
          | (go_at_call 14; refine HA.out.mono ?_; rintro e w' ⟨rfl, rfl⟩)
          | (go_at_call 13; refine HLnd.out.mono ?_; rintro e w' ⟨rfl, rfl⟩)
          | (go_at_call 19; refine (from_calls T _).mono ?_; rintro e wd ⟨pr, rfl, hR, hbd, hpr⟩; have HR := kept hR; have HBd := kept (HBr.out.trans (hbd.mono HS.out)); have HP := kept (Nat.le_trans HS.out hpr); have HSd := kept (Nat.le_trans HS.out hbd.size); have HLnd := kept (HLn.out wd hbd); clear hR hbd hpr))
        clear hq hT' hm7
        go_loopw [10] (fun s10 wr => ∃ j : Nat, j ≤ i ∧ s10 = .int .i64 (j : Int) ∧ IsRd wr pr T (catN xs ys j).length ∧ Below B w wr ∧ B ≤ wr.heap.size) (fun s10 _ => n0 - (intOf s10).toNat)
        case atStart => exact ⟨0, Nat.zero_le _, rfl, HR.out, HBd.out, HSd.out⟩
        case round =>
          obtain ⟨j, hj, rfl, hR, hbr, hsr⟩ := hrel
          have HRj := kept hR
          have HBj := kept hbr
          have HSj := kept hsr
          have hjt : (catN xs ys j).length ≤ 8 * T.size := by
            have h1 := catN_mono xs ys j i hj
            rw [← HM.out] at h1
            have h2 := HTs.out
            omega
          have HJT := kept hjt
          clear hR hbr hsr hjt
          by_cases hlt2 : j < i
          · have t3 : j < n0 := by omega
            have t4 : j < n1 := by omega
            have hrd0 := HR0.out.below HBj.out (by rw [HB.out]; exact HR0.out.lt)
            have hrd1 := HR1.out.below HBj.out (by rw [HB.out]; exact HR1.out.lt)
            obtain ⟨x0, rfl, hc0⟩ := hrd0.at (Own.nums_at .u64 xs j (by rw [HXL.out]; exact t3))
            obtain ⟨x1, rfl, hc1⟩ := hrd1.at (Own.nums_at .u8 ys j (by rw [HYL.out]; exact t4))
            have hx64 := getD_lt HX.out j (by rw [HXL.out]; exact t3)
            have hy8 := getD_lt HY.out j (by rw [HYL.out]; exact t4)
            have hgs := getS_cat xs ys j i hlt2
            obtain ⟨x, hx⟩ : ∃ x, x = xs.getD j 0 := ⟨_, rfl⟩
            obtain ⟨y, hy⟩ : ∃ y, y = ys.getD j 0 := ⟨_, rfl⟩
            rw [← hx] at hc0 hx64 hgs
            rw [← hy] at hc1 hy8 hgs
            rw [← HL.out, ← HT.out] at hgs
            have HX64 := kept hx64
            have HGS := kept hgs
            have HA0 : Kept (x0.block < w.heap.size) := kept (HR0.out.lt _ (by cases n0 with | zero => omega | succ n => rfl))
            obtain ⟨k, hk⟩ : ∃ k, k = y % 65 := ⟨_, rfl⟩
            rw [← hk] at hgs
            have hkm : (y : Int) % 65 = (k : Int) := by omega
            have hk64 : k ≤ 64 := by omega
            have hgn := get_new B pr T (catN xs ys j).length (k : Int) _ HSj.out HP.out HRj.out HTS.out HJT.out
            obtain ⟨r, hr⟩ : ∃ r, r = x % 2 ^ k := ⟨_, rfl⟩
            rw [hgs, ← hr] at hgn
            have HGN := kept hgn
            have HRr := kept hr
            clear hr
            have HC0 := kept hc0
            clear hx hy hx64 hrd0 hrd1 hgs hgn hk hc0
            go_wp2_with fail
            refine HGN.out.mono ?_
            rintro e w2 ⟨rfl, hR2, hb2, hc2⟩
            have HR2 := kept hR2
            have HB2 := kept (HBj.out.trans hb2)
            have HS2 := kept (Nat.le_trans HSj.out hb2.size)
            have hc0 : w2.cell? (x0.add j) = some (.int .u64 (x : Int)) := (hb2.cell (by rw [Own.add_block, HB.out]; exact HA0.out)).trans HC0.out
            clear hR2 hb2 hc2 hc1
            by_cases hk3 : k < 64
            · have hm1 := mask_eq x k HX64.out hk3
              rw [show (x : Int) % 2 ^ k = (r : Int) by rw [HRr.out]; simp] at hm1
              go_wp2_with (first | (go_at_call 17; clear hm1; refine (err_calls _ _).mono ?_; rintro e w' ⟨rfl, rfl⟩))
              go_roundw
              case rel => exact ⟨j + 1, by omega, by go_num, HR2.out, HB2.out, HS2.out⟩
              case measure => simp [intOf]; omega
            · have hke : k = 64 := by omega
              have hrx : r = x := by rw [HRr.out, hke]; exact Nat.mod_eq_of_lt HX64.out
              clear HRr
              subst hrx
              clear hke
              go_wp2_with (first | (go_at_call 17; refine (err_calls _ _).mono ?_; rintro e w' ⟨rfl, rfl⟩))
              go_roundw
              case rel => exact ⟨j + 1, by omega, by go_num, HR2.out, HB2.out, HS2.out⟩
              case measure => simp [intOf]; omega
          · have hji : j = i := by omega
            subst hji
            have hgm := get_more pr T (catN xs ys j).length 8 _ HRj.out HTS.out HJT.out (by decide) (by
              have h1 := HM.out
              have h2 := HTs.out
              omega)
            have hgr : ∀ w', Below wr.heap.size wr w' → Calls Try.prog 18 #[.pointer (some ⟨pr, 0, none⟩)] w' fun e w'' => e = .returned (.bool true) ∧ Below w'.heap.size w' w'' := fun w' hb => by
              have h := rest_calls pr T (catN xs ys j).length w' (HRj.out.later hb) HTS.out HJT.out
              rw [HT.out, HL.out, restS_pack] at h
              rw [HT.out, HL.out] at *
              exact h
            have HGM := kept hgm
            have HGR := kept hgr
            clear hgm hgr
            go_wp2_with (first
              | (go_at_call 16; refine HGM.out.mono ?_; rintro e w7 ⟨rfl, hb7⟩; have HB7 := kept (HBj.out.trans (hb7.mono HSj.out)); have HS7 := kept (Nat.le_trans HSj.out hb7.size); have HGR7 := kept (HGR.out _ hb7); clear hb7)
              | (go_at_call 18; refine HGR7.out.mono ?_; rintro e w8 ⟨rfl, hb8⟩; have HB8 := kept (HB7.out.trans (hb8.mono HS7.out)); have HS8 := kept (Nat.le_trans HS7.out hb8.size); clear hb8)
              | (go_at_call 17; refine (err_calls _ _).mono ?_; rintro e w' ⟨rfl, rfl⟩)
              | (go_at_call 10; refine (awake3_calls _).mono ?_; rintro e w9 ⟨rfl, hb9⟩; have HB9 := kept (HB8.out.trans (hb9.mono HS8.out)); clear hb9))
            go_ret
            exact ⟨rfl, HB9.out⟩
end Go.Proofs.Ytcgmofakibfpiaa
