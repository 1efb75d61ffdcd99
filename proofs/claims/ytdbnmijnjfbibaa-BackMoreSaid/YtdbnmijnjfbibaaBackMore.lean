/- BackMore's walk: numbers in seven bits each are sealed; more is asked than there is. -/
import Derived.Test.YtdbnmijnjfbibaaKc
import Derived.Test.YtdbnmijnjfbibaaMk
import Derived.OpenShut
import Derived.Deep.RegionWith
namespace Go.Proofs.Ytdbnmijnjfbibaa
set_option linter.unusedSimpArgs false
set_option linter.unusedVariables false
open Go.RowKit Mix Own Bits
attribute [local go_sem] max_int min_int

theorem infoInt : (Try.prog.info? 3).map (fun i => (i.zero, i.size, i.bytes)) = some (some (.int .i64 0), 1, 8) := by kernel_rfl

theorem info_parts8 {i : Option TypeInfo} {z : Value} {b : Nat} (h : i.map (fun i => (i.zero, i.size, i.bytes)) = some (some z, 1, b)) : ∃ j, i = some j ∧ j.zero = some z ∧ j.size = 1 ∧ j.bytes = b := by
  cases i with
  | none => simp at h
  | some j => simp at h; exact ⟨j, rfl, h.1, h.2.1, h.2.2⟩

def sevens (k i : Nat) : List Int := List.replicate i 7 ++ List.replicate (k - i) 0
theorem sevens_len (k i : Nat) (h : i ≤ k) : (sevens k i).length = k := by simp [sevens]; omega
theorem sevens_step (k i : Nat) (h : i < k) : (ints .i64 (sevens k i)).set i (.int .i64 7) = ints .i64 (sevens k (i + 1)) := by
  apply List.ext_getElem?
  intro j
  simp only [ints, sevens, List.getElem?_set, List.length_map, List.length_append, List.length_replicate, List.getElem?_map, List.getElem?_append, List.getElem?_replicate]
  by_cases hj : i = j
  · subst hj
    rw [if_pos rfl, if_pos (by omega), if_pos (by omega), if_pos (by omega)]
    rfl
  · rw [if_neg hj]
    by_cases h1 : j < i
    · rw [if_pos h1, if_pos h1, if_pos (by omega), if_pos (by omega)]
    · rw [if_neg h1, if_neg (show ¬ j < i + 1 by omega)]
      by_cases h2 : j < k
      · rw [if_pos (by omega), if_pos (by omega)]
      · rw [if_neg (by omega), if_neg (by omega)]
theorem sevens_all (k : Nat) : sevens k k = List.replicate k 7 := by simp [sevens]

set_option maxHeartbeats 4000000 in
theorem BackMore_walk (a0 : Option Addr) (n0 c0 : Nat) (z0 : List Int) (a1 : Int) (w : World) (w0 : Arg .u64 w a0 n0 c0 z0) (y0 : n0 * 8 ≤ 140737488351232) (w1 : (Lit.int .u8 a1).wf = true) :
    Calls Try.prog 6 #[.slice a0 n0 c0, .int .u8 a1] w fun e w' => e = .returned (.bool true) ∧ Below w.heap.size w w' := by
  obtain ⟨xs, hx, hR0, hX⟩ := w0.rdN rfl
  obtain ⟨m, rfl, hm⟩ := u8_bounds w1
  clear w0 w1
  have hX2 : ∀ n ∈ xs, n < 18446744073709551616 := fun n hn => by
    have h1 := hX n hn
    have h2 : IntKind.u64.max = 18446744073709551615 := rfl
    omega
  obtain ⟨i0, hi, hz0, hz1, hz2⟩ := info_parts8 infoInt
  obtain ⟨B, hB⟩ : ∃ B, B = w.heap.size := ⟨_, rfl⟩
  rw [← hB]
  obtain ⟨k, hk⟩ : ∃ k, k = min n0 10 := ⟨_, rfl⟩
  have hmk : mn (n0 : Int) 10 = (k : Int) := by rw [mn_eq]; omega
  have hk10 : k ≤ 10 := by omega
  have hkn : k ≤ n0 := by omega
  have hcap : n0 ≤ c0 := by
    obtain ⟨_, _, hv, h1, _, _⟩ := hR0
    simp only [Value.slice.injEq, length_nums] at hv
    obtain ⟨_, h2, rfl⟩ := hv
    rw [length_nums] at h1
    omega
  have HB := kept hB
  have HR0 := kept hR0
  have HX := kept hX2
  have HXL := kept hx
  have HN0 : Kept (n0 < 100000000000000) := kept (by omega)
  clear hB hR0 hX hx y0 hX2 hk
  go_enter Try.func6, Try.ntmps6
  go_wp2_with (first | (refine wpList_mk1 rfl _ _ 25 rfl 3 i0 (.int .i64 0) 8 Try.underlying25 hi hz0 hz1 hz2 rfl .i64 .i64 _ _ k rfl rfl rfl rfl ?c3 ?c4 ?_))
  case c3 => omega
  case c4 => simp [maxLen]; omega
  rw [← HB.out]
  intro w1 O1 hb1 hlt1
  have HO1 : Kept (Owns w1 3 (.slice (some ⟨B, 0, none⟩) k k) (ints .i64 (sevens k 0))) := kept (by simpa [ints, sevens] using O1)
  have HB1 := kept hb1
  have HS1 : Kept (B ≤ w1.heap.size) := kept (by omega)
  clear O1 hb1 hlt1
  go_wp2_with fail
  go_loopw [7] (fun s7 wr => ∃ i : Nat, i ≤ k ∧ s7 = .int .i64 (i : Int) ∧ Owns wr 3 (.slice (some ⟨B, 0, none⟩) k k) (ints .i64 (sevens k i)) ∧ Below B w wr ∧ B ≤ wr.heap.size) (fun s7 _ => k - (intOf s7).toNat)
  case atStart => exact ⟨0, Nat.zero_le _, rfl, HO1.out, HB1.out, HS1.out⟩
  case round =>
    obtain ⟨i, hi1, rfl, hO, hb, hs⟩ := hrel
    have HO := kept hO
    have HBr := kept hb
    have HS := kept hs
    clear hO hb hs HO1 HB1 HS1
    by_cases hlt : i < k
    · have hcl := HO.out.cell (Own.ints_at .i64 (sevens k i) i (by rw [sevens_len k i hi1]; exact hlt))
      have hfr := HO.out.free i
      go_wp2_with fail
      generalize hw2 : World.setCell wr _ _ = w2
      have HO2 : Kept (Owns w2 3 (.slice (some ⟨B, 0, none⟩) k k) (ints .i64 (sevens k (i + 1)))) := kept (by rw [← hw2, ← sevens_step k i hlt]; exact HO.out.store i _)
      have HB2 : Kept (Below B w w2) := kept (by rw [← hw2]; exact HBr.out.setCell (p := ⟨B, i, none⟩) (Nat.le_refl _) _)
      have HS2 : Kept (B ≤ w2.heap.size) := kept (by rw [← hw2]; simpa [World.setCell] using HS.out)
      clear hw2 hcl hfr
      go_wp2_with fail
      go_roundw
      case rel => exact ⟨i + 1, by omega, by go_num, HO2.out, HB2.out, HS2.out⟩
      case measure => simp [intOf]; omega
    · have hik : i = k := by omega
      subst hik
      obtain ⟨ys, hys⟩ : ∃ ys, ys = sevens i i := ⟨_, rfl⟩
      have hyc : ∀ j, j < i → clamp (ys.getD j 0) = 7 := fun j hj => by
        rw [hys, sevens_all, List.getD_eq_getElem?_getD, List.getElem?_replicate, if_pos hj]; rfl
      have hyl : ys.length = i := by rw [hys]; exact sevens_len i i (Nat.le_refl _)
      have hym : ∀ y ∈ ys, -9223372036854775808 ≤ y ∧ y ≤ 9223372036854775807 := fun y hy => by
        rw [hys, sevens_all] at hy
        have := (List.mem_replicate.1 hy).2
        omega
      have hlen := catC_len7 xs ys i hyc
      obtain ⟨S, hS⟩ : ∃ S, S = markS (catC xs ys i) := ⟨_, rfl⟩
      have hrd0 := (HR0.out.below HBr.out (by rw [HB.out]; exact HR0.out.lt)).take i hkn
      have hO := HO.out.rd
      rw [← hys] at hO
      have hseal := seal_calls a0 i c0 (xs.take i) (some ⟨B, 0, none⟩) i i ys wr (by simpa [nums, List.map_take] using hrd0) hO (fun x hx => HX.out x (List.mem_of_mem_take hx)) hym i (by omega) (by omega) (by omega) (by omega)
      rw [catC_take xs ys i i (Nat.le_refl _), show textOf (pack (catC xs ys i ++ [true])) = S from hS.symm] at hseal
      have hSs : S.size = 7 * i / 8 + 1 := by rw [hS, markS_size, hlen i (Nat.le_refl _)]
      have hfrom := fun w' => bfrom_calls S w' (by omega) (by omega) (by rw [hS]; exact lastB_mark_ne _)
      rw [show topS S = 7 * i by rw [hS, topS_mark, hlen i (Nat.le_refl _)]] at hfrom
      have HSeal := kept hseal
      have HFrom := kept hfrom
      have HSS := kept hSs
      have HSe := kept hS
      have HLen := kept hlen
      have HYC := kept hyc
      clear hys hyl hym hlen hS hrd0 hO hseal hSs hfrom hyc HO
      go_wp2_with fail
      refine HSeal.out.mono ?_
      rintro e w2 ⟨rfl, hb2⟩
      have HB2 := kept (HBr.out.trans (hb2.mono HS.out))
      have HS2 := kept (Nat.le_trans HS.out hb2.size)
      clear hb2 HSeal HBr HS
      go_wp2_with fail
      refine (HFrom.out _).mono ?_
      rintro e w3 ⟨p, rfl, hE, hb3, hp⟩
      have HE := kept hE
      have HB3 := kept (HB2.out.trans (hb3.mono HS2.out))
      have HS3 := kept (Nat.le_trans HS2.out hb3.size)
      have HP := kept (Nat.le_trans HS2.out hp)
      clear hE hb3 hp HB2 HS2 HFrom
      have HSz : Kept (S.size ≤ 1000000000000) := kept (by have := HSS.out; omega)
      have HLe : Kept (7 * i ≤ 8 * S.size) := kept (by have := HSS.out; omega)
      obtain ⟨M, hM⟩ : ∃ M : Nat, M = min (7 * i + 1 + m % 5) 64 := ⟨_, rfl⟩
      have hMe : mn (7 * (i : Int) + 1 + (m : Int) % 5) 64 = (M : Int) := by rw [mn_eq]; omega
      by_cases h64 : 64 ≤ 7 * i
      · have hM64 : M = 64 := by omega
        have hg1 : getE S (7 * i) (M : Int) = ((getE S (7 * i) (M : Int)).1, 0, 7 * i - 64) := by
          unfold getE
          rw [if_neg (by omega), if_neg (by omega), hM64]
          rfl
        have hc1 := bget_new B p S (7 * i) (M : Int) w3 HS3.out HP.out HE.out HSz.out HLe.out _ _ _ hg1
        obtain ⟨V, hV⟩ : ∃ V, V = (getE S (7 * i) (M : Int)).1 := ⟨_, rfl⟩
        rw [← hV] at hc1
        have HC1 := kept hc1
        have t64 : decide ((64 : Int) ≤ 7 * (i : Int)) = true := by simp; omega
        clear hM hM64 hg1 hc1 hV
        go_wp2_with (first
          | (go_at_call 12; refine (err_calls _ _).mono ?_; rintro e w' ⟨rfl, rfl⟩))
        refine HC1.out.mono ?_
        rintro e w4 ⟨rfl, hE4, hb4⟩
        have HB4 := kept (HB3.out.trans hb4)
        have HS4 := kept (Nat.le_trans HS3.out hb4.size)
        clear hE4 hb4
        go_wp2_with fail
        refine (bget_arg p 65 w4 (by decide)).mono ?_
        rintro e w' ⟨rfl, rfl⟩
        go_wp2_with fail
        refine (bget_arg p (-1) w4 (by decide)).mono ?_
        rintro e w' ⟨rfl, rfl⟩
        go_wp2_with (first
          | (go_at_call 12; refine (err_calls _ _).mono ?_; rintro e w' ⟨rfl, rfl⟩)
          | (go_at_call 8; refine (awake4_calls _).mono ?_; rintro e w9 ⟨rfl, hb9⟩; have HB9 := kept (HB4.out.trans (hb9.mono HS4.out)); clear hb9))
        go_ret
        exact ⟨rfl, HB9.out⟩
      · have hg1 : getE S (7 * i) (M : Int) = (0, 2, 7 * i) := by
          unfold getE
          rw [if_neg (by omega), if_pos (by omega)]
        have hc1 := bget_more p S (7 * i) M w3 HE.out (by omega) (by omega)
        have hlf := bleft_calls p S (7 * i) w3 HE.out
        rw [show ((7 * i : Nat) : Int) = 7 * (i : Int) by omega] at hlf
        have HC1 := kept hc1
        have HLf := kept hlf
        have t64 : decide ((64 : Int) ≤ 7 * (i : Int)) = false := by simp; omega
        clear hM hg1 hc1 hlf
        go_wp2_with (first
          | (go_at_call 12; refine (err_calls _ _).mono ?_; rintro e w' ⟨rfl, rfl⟩))
        refine HC1.out.mono ?_
        rintro e w' ⟨rfl, rfl⟩
        go_wp2_with fail
        refine (bget_arg p 65 w3 (by decide)).mono ?_
        rintro e w' ⟨rfl, rfl⟩
        go_wp2_with fail
        refine (bget_arg p (-1) w3 (by decide)).mono ?_
        rintro e w' ⟨rfl, rfl⟩
        go_wp2_with (first
          | (go_at_call 12; refine (err_calls _ _).mono ?_; rintro e w' ⟨rfl, rfl⟩)
          | (go_at_call 15; refine HLf.out.mono ?_; rintro e w' ⟨rfl, rfl⟩))
        clear t64 h64 hMe
        go_loopw [17] (fun s17 wr => ∃ j : Nat, j ≤ i ∧ s17 = .int .i64 ((j : Int) - 1) ∧ IsE wr p S (7 * j) ∧ Below B w wr ∧ B ≤ wr.heap.size) (fun s17 _ => (intOf s17 + 1).toNat)
        case atStart => exact ⟨i, Nat.le_refl _, rfl, HE.out, HB3.out, HS3.out⟩
        case round =>
          obtain ⟨j, hj, rfl, hE, hb, hs⟩ := hrel
          have HE2 := kept hE
          have HBq := kept hb
          have HSq := kept hs
          clear hE hb hs HE HB3 HS3 HLf HC1
          cases j with
          | zero =>
            have e1 : ((0 : Nat) : Int) - 1 = -1 := by decide
            rw [e1]
            clear e1
            have hlf := bleft_calls p S (7 * 0) _ HE2.out
            rw [Nat.mul_zero] at hlf
            have HLf := kept hlf
            clear hlf
            go_wp2_with (first
              | (go_at_call 15; refine HLf.out.mono ?_; rintro e w' ⟨rfl, rfl⟩)
              | (go_at_call 8; refine (awake4_calls _).mono ?_; rintro e w9 ⟨rfl, hb9⟩; have HB9 := kept (HBq.out.trans (hb9.mono HSq.out)); clear hb9))
            go_ret
            exact ⟨rfl, HB9.out⟩
          | succ j =>
            have e1 : ((j + 1 : Nat) : Int) - 1 = (j : Int) := by omega
            rw [e1]
            clear e1
            have hj0 : j < n0 := by omega
            have hrd0 := HR0.out.below HBq.out (by rw [HB.out]; exact HR0.out.lt)
            obtain ⟨x0, rfl, hc0⟩ := hrd0.at (Own.nums_at .u64 xs j (by rw [HXL.out]; exact hj0))
            have hx64 := mem_getD HX.out j (by rw [HXL.out]; exact hj0)
            have hg := getE_cat xs ys j i 7 (by omega) (HYC.out j (by omega)).symm
            rw [HLen.out (j + 1) (by omega), HLen.out j (by omega), ← HSe.out] at hg
            obtain ⟨x, hx⟩ : ∃ x, x = xs.getD j 0 := ⟨_, rfl⟩
            rw [← hx] at hc0 hx64 hg
            have hgc := bget_new B p S (7 * (j + 1)) ((7 : Nat) : Int) _ HSq.out HP.out HE2.out HSz.out (by have := HLe.out; omega) _ _ _ hg
            have hmask := and_mask x 7 128 hx64 (by decide) (by decide)
            obtain ⟨r, hr⟩ : ∃ r, r = x % 2 ^ 7 := ⟨_, rfl⟩
            rw [← hr] at hgc
            rw [show x % 128 = r from hr.symm, show ((128 : Nat) : Int) - 1 = 127 by decide] at hmask
            have HGC := kept hgc
            have HA0 : Kept (x0.block < w.heap.size) := kept (HR0.out.lt _ (by cases n0 with | zero => omega | succ n => rfl))
            have HC0 := kept hc0
            clear hx hx64 hg hgc hrd0 hr hc0
            go_wp2_with (first
              | (go_at_call 13; refine HGC.out.mono ?_; rintro e w5 ⟨rfl, hE5, hb5⟩; have HE5 := kept hE5; have HB5 := kept (HBq.out.trans hb5); have HS5 := kept (Nat.le_trans HSq.out hb5.size); have hc0 : w5.cell? (x0.add j) = some (.int .u64 (x : Int)) := (hb5.cell (by rw [Own.add_block, HB.out]; exact HA0.out)).trans HC0.out; clear hE5 hb5)
              | (go_at_call 12; refine (err_calls _ _).mono ?_; rintro e w' ⟨rfl, rfl⟩))
            go_roundw
            case rel => exact ⟨j, by omega, rfl, HE5.out, HB5.out, HS5.out⟩
            case measure => simp [intOf]
end Go.Proofs.Ytdbnmijnjfbibaa
