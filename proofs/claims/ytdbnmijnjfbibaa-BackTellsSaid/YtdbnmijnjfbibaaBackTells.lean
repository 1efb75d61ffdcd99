/- BackTells' walk: what was sealed is got, the last one first. -/
import Derived.Test.YtdbnmijnjfbibaaKc
import Derived.Test.YtdbnmijnjfbibaaMk
import Derived.OpenShut
import Derived.Deep.RegionWith
namespace Go.Proofs.Ytdbnmijnjfbibaa
set_option linter.unusedSimpArgs false
set_option linter.unusedVariables false
open Go.RowKit Mix Own Bits
attribute [local go_sem] max_int min_int

theorem infoInt5 : (Try.prog.info? 3).map (fun i => (i.zero, i.size, i.bytes)) = some (some (.int .i64 0), 1, 8) := by kernel_rfl
theorem info_parts5 {i : Option TypeInfo} {z : Value} {b : Nat} (h : i.map (fun i => (i.zero, i.size, i.bytes)) = some (some z, 1, b)) : ∃ j, i = some j ∧ j.zero = some z ∧ j.size = 1 ∧ j.bytes = b := by
  cases i with
  | none => simp at h
  | some j => simp at h; exact ⟨j, rfl, h.1, h.2.1, h.2.2⟩

/-- The lengths, as the law reckons them. -/
def lensOf (ys : List Nat) : List Int := ys.map fun y : Nat => ((y % 65 : Nat) : Int)
@[simp] theorem lensOf_len (ys : List Nat) : (lensOf ys).length = ys.length := by simp [lensOf]
theorem lensOf_at (ys : List Nat) (i : Nat) (h : i < ys.length) : (lensOf ys).getD i 0 = ((ys.getD i 0 % 65 : Nat) : Int) := by
  simp [lensOf, List.getD_eq_getElem?_getD, h]
theorem clamp65 (y : Nat) : clamp ((y % 65 : Nat) : Int) = y % 65 := by unfold clamp; omega
theorem lens_snoc (ys : List Nat) (i : Nat) (h : i < ys.length) : ints .i64 ((lensOf ys).take (i + 1)) = ints .i64 ((lensOf ys).take i) ++ [.int .i64 ((ys.getD i 0 % 65 : Nat) : Int)] := by
  rw [List.take_succ_eq_append_getElem (by simpa using h)]
  simp [ints, lensOf, List.getD_eq_getElem?_getD, h]
theorem catC_takeY (xs : List Nat) (ys : List Int) (k : Nat) : ∀ i, i ≤ k → catC xs (ys.take k) i = catC xs ys i := by
  intro i
  induction i with
  | zero => intro _; rfl
  | succ i ih =>
    intro hi
    rw [catC, catC, ih (by omega)]
    have : (ys.take k).getD i 0 = ys.getD i 0 := by simp [List.getD_eq_getElem?_getD, List.getElem?_take, show i < k by omega]
    rw [this]

theorem app_data (S : ByteArray) : (S ++ (⟨#[0]⟩ : ByteArray)).data = S.data ++ #[0] := by
  rw [ByteArray.data_append]
theorem app_size (S : ByteArray) : (S ++ (⟨#[0]⟩ : ByteArray)).size = S.size + 1 := by
  show (S ++ (⟨#[0]⟩ : ByteArray)).data.size = S.data.size + 1
  rw [app_data, Array.size_append]; rfl
theorem app_last (S : ByteArray) : lastB (S ++ (⟨#[0]⟩ : ByteArray)) = 0 := by
  unfold lastB byteS
  rw [app_size, app_data, Array.toList_append, List.getD_eq_getElem?_getD, List.getElem?_append_right (by rw [Array.length_toList]; exact Nat.le_refl _)]
  have e : S.size + 1 - 1 - S.data.toList.length = 0 := by
    rw [Array.length_toList]
    have : S.data.size = S.size := rfl
    omega
  rw [e]
  rfl

set_option maxRecDepth 4000 in
set_option maxHeartbeats 8000000 in
theorem BackTells_walk (a0 : Option Addr) (n0 c0 : Nat) (z0 : List Int) (a1 : Option Addr) (n1 c1 : Nat) (z1 : List Int) (w : World) (w0 : Arg .u64 w a0 n0 c0 z0) (y0 : n0 * 8 ≤ 140737488351232) (w1 : Arg .u8 w a1 n1 c1 z1) (y1 : n1 * 1 ≤ 140737488351232) :
    Calls Try.prog 5 #[.slice a0 n0 c0, .slice a1 n1 c1] w fun e w' => e = .returned (.bool true) ∧ Below w.heap.size w w' := by
  obtain ⟨xs, hx, hR0, hX⟩ := w0.rdN rfl
  obtain ⟨ys, hy, hR1, hY⟩ := w1.rdN rfl
  clear w0 w1
  have hX2 : ∀ n ∈ xs, n < 18446744073709551616 := fun n hn => by
    have h1 := hX n hn
    have h2 : IntKind.u64.max = 18446744073709551615 := rfl
    omega
  have hY2 : ∀ n ∈ ys, n < 256 := fun n hn => by
    have h1 := hY n hn
    have h2 : IntKind.u8.max = 255 := rfl
    omega
  obtain ⟨i0, hi, hz0, hz1, hz2⟩ := info_parts5 infoInt5
  by_cases hbig : 60 < n0
  · clear hX hY hX2 hY2 hR0 hR1
    go_enter Try.func5, Try.ntmps5
    go_wp2_with (first | (go_at_call 8; refine (awake4_calls _).mono ?_; rintro e w9 ⟨rfl, hb9⟩; have HB9 := kept hb9; clear hb9))
    go_ret
    exact ⟨rfl, HB9.out⟩
  obtain ⟨B, hB⟩ : ∃ B, B = w.heap.size := ⟨_, rfl⟩
  rw [← hB]
  obtain ⟨n, hn⟩ : ∃ n, n = min n0 n1 := ⟨_, rfl⟩
  have hmn : mn (n0 : Int) (n1 : Int) = (n : Int) := by rw [mn_eq]; omega
  have hn60 : n ≤ 60 := by omega
  have hn0 : n ≤ n0 := by omega
  have hn1 : n ≤ n1 := by omega
  have hcap : n0 ≤ c0 := by
    obtain ⟨_, _, hv, h1, _, _⟩ := hR0
    simp only [Value.slice.injEq, length_nums] at hv
    obtain ⟨_, h2, rfl⟩ := hv
    rw [length_nums] at h1
    omega
  have hBw : Below B w w := by rw [hB]; exact Below.refl _ _
  have HB := kept hB
  have HR0 := kept hR0
  have HR1 := kept hR1
  have HX := kept hX2
  have HY := kept hY2
  have HXL := kept hx
  have HYL := kept hy
  have HBw := kept hBw
  have HN0 : Kept (n0 < 100000000000000) := kept (by omega)
  have HN1 : Kept (n1 < 200000000000000) := kept (by omega)
  clear hB hR0 hR1 hX hY hx hy y0 y1 hX2 hY2 hn hBw
  go_enter Try.func5, Try.ntmps5
  go_wp2_with fail
  go_loopw [6, 7, 8] (fun s6 s7 s8 wr => ∃ (i : Nat) (v1 : Value), v1 = s6 ∧ i ≤ n ∧ s8 = .int .i64 (i : Int) ∧ (∃ t : Nat, t = (catC xs (lensOf ys) i).length ∧ s7 = .int .i64 (t : Int)) ∧
      Owns wr 3 v1 (ints .i64 ((lensOf ys).take i)) ∧ (∀ g, v1.ownBlock = some g → B ≤ g) ∧ Below B w wr ∧ B ≤ wr.heap.size) (fun s6 s7 s8 _ => n - (intOf s8).toNat)
  case atStart => exact ⟨0, _, rfl, Nat.zero_le _, rfl, ⟨0, rfl, rfl⟩, Owns.nil _ _, fun g hg => by simp [Value.ownBlock] at hg, HBw.out, by rw [HB.out]; exact Nat.le_refl _⟩
  case round =>
    obtain ⟨i, v1, rfl, hi1, rfl, ⟨t, ht, rfl⟩, hO, hg, hb, hs⟩ := hrel
    have HO := kept hO
    have HG := kept hg
    have HBr := kept hb
    have HS := kept hs
    have HT := kept ht
    have htl := catC_len xs (lensOf ys) i
    rw [← ht] at htl
    have ht3 : t ≤ 3840 := by omega
    clear hO hg hb hs ht htl HBw
    by_cases hlt : i < n
    · have hiy : i < ys.length := by rw [HYL.out]; omega
      have hrd1 := HR1.out.below HBr.out (by rw [HB.out]; exact HR1.out.lt)
      obtain ⟨x1, rfl, hc1⟩ := hrd1.at (Own.nums_at .u8 ys i hiy)
      have hy8 := mem_getD HY.out i hiy
      have hsn := lens_snoc ys i hiy
      have hct : (catC xs (lensOf ys) (i + 1)).length = t + ys.getD i 0 % 65 := by
        rw [catC, List.length_append, length_bitsOf, lensOf_at ys i hiy, clamp65, ← HT.out]
      obtain ⟨y, hy⟩ : ∃ y, y = ys.getD i 0 := ⟨_, rfl⟩
      rw [← hy] at hc1 hy8 hsn hct
      obtain ⟨q, hq⟩ : ∃ q, q = y % 65 := ⟨_, rfl⟩
      rw [← hq] at hsn hct
      have hq2 : (y : Int) % 65 = (q : Int) := by omega
      have hq64 : q ≤ 64 := by omega
      have hll : (ints .i64 ((lensOf ys).take i)).length = i := by rw [length_ints, List.length_take, lensOf_len]; omega
      have HSn := kept hsn
      have HCt := kept hct
      have HLl := kept hll
      clear hy hq hsn hct hll hrd1
      go_wp2_with (first | (at_builtin; refine wpList_app1 rfl _ _ 25 rfl 3 i0 (.int .i64 0) 8 Try.underlying25 hi hz0 hz1 hz2 rfl v1 _ (.int .i64 (q : Int)) rfl HO.out rfl rfl ?c1 ?c2 ?_) | fail)
      case c1 => rw [HLl.out]; simp [maxLen]; omega
      case c2 => rw [HLl.out]; omega
      intro v2 w2 O2 hch F
      rw [← HSn.out] at O2
      obtain ⟨g2, cap2, rfl, _, _⟩ := O2.row (by intro e; have := congrArg List.length e; rw [length_ints, List.length_take, lensOf_len, List.length_nil] at this; omega)
      have hl2 : (ints .i64 ((lensOf ys).take (i + 1))).length = i + 1 := by rw [length_ints, List.length_take, lensOf_len]; omega
      rw [hl2] at O2 F
      have hcl : w2.cell? ⟨g2, i, none⟩ = some (.int .i64 (q : Int)) := O2.cell (by rw [HSn.out, List.getElem?_append_right (by rw [HLl.out]; exact Nat.le_refl _), HLl.out, Nat.sub_self]; rfl)
      rw [hl2]
      have HO2 := kept O2
      have HB2 : Kept (Below B w w2) := kept (HBr.out.trans (hch.below HS.out (fun k hk h => by have := HG.out k h.symm; omega)))
      have HS2 : Kept (B ≤ w2.heap.size) := kept (Nat.le_trans HS.out hch.size)
      have HG2 : Kept (∀ g, (Value.slice (some ⟨g2, 0, none⟩) (i + 1) cap2).ownBlock = some g → B ≤ g) := kept (fun g hg => by
        rcases F g hg with h | h
        · exact HG.out g h.symm
        · have := HS.out; omega)
      clear O2 hch F hl2 hc1
      go_wp2_with fail
      go_roundw
      case rel => exact ⟨i + 1, _, rfl, by omega, by go_num, ⟨_, rfl, by rw [HCt.out]; go_num⟩, HO2.out, HG2.out, HB2.out, HS2.out⟩
      case measure => simp [intOf]; omega
    · have hin : i = n := by omega
      subst hin
      obtain ⟨a, cap, rfl, _⟩ := HO.out.slice
      have hyl : (lensOf ys).length = ys.length := lensOf_len ys
      have hll : (ints .i64 ((lensOf ys).take i)).length = i := by rw [length_ints, List.length_take, hyl, HYL.out]; omega
      rw [hll] at HO HG
      rw [hll]
      obtain ⟨L, hL⟩ : ∃ L, L = catC xs (lensOf ys) i := ⟨_, rfl⟩
      obtain ⟨S, hS⟩ : ∃ S, S = markS L := ⟨_, rfl⟩
      have hLt : L.length = t := by rw [hL, HT.out]
      have hrd0 := (HR0.out.below HBr.out (by rw [HB.out]; exact HR0.out.lt)).take i hn0
      have hseal := seal_calls a0 i c0 (xs.take i) a i cap ((lensOf ys).take i) wr (by simpa [nums, List.map_take] using hrd0) HO.out.rd (fun x hx => HX.out x (List.mem_of_mem_take hx)) (fun y hy => by
        obtain ⟨z, _, rfl⟩ := List.mem_map.1 (List.mem_of_mem_take hy)
        omega) i (by omega) (by omega) (by omega) (by omega)
      rw [catC_take xs _ i i (Nat.le_refl _), catC_takeY xs _ i i (Nat.le_refl _), ← hL, show textOf (pack (L ++ [true])) = S from hS.symm] at hseal
      have hSs : S.size = t / 8 + 1 := by rw [hS, markS_size, hLt]
      have hfrom := fun w' => bfrom_calls S w' (by omega) (by omega) (by rw [hS]; exact lastB_mark_ne _)
      rw [show topS S = t by rw [hS, topS_mark, hLt]] at hfrom
      have HSeal := kept hseal
      have HFrom := kept hfrom
      have HSS := kept hSs
      have HSe := kept hS
      have HLe := kept hL
      have HLt := kept hLt
      clear hyl hll hL hS hLt hrd0 hseal hSs hfrom
      go_wp2_with fail
      refine HSeal.out.mono ?_
      rintro e w2 ⟨rfl, hb2⟩
      have HB2 := kept (HBr.out.trans (hb2.mono HS.out))
      have HS2 := kept (Nat.le_trans HS.out hb2.size)
      have HO2 : Kept (Owns w2 3 (.slice a i cap) (ints .i64 ((lensOf ys).take i))) := kept (HO.out.chg (Chg.of_below (S := fun _ => False) hb2) (fun _ _ => id))
      clear hb2 HSeal HBr HS HO
      go_wp2_with fail
      refine (HFrom.out _).mono ?_
      rintro e w3 ⟨p, rfl, hE, hb3, hp⟩
      have HE := kept hE
      have HB3 := kept (HB2.out.trans (hb3.mono HS2.out))
      have HS3 := kept (Nat.le_trans HS2.out hb3.size)
      have HP := kept (Nat.le_trans HS2.out hp)
      have HO3 : Kept (Owns w3 3 (.slice a i cap) (ints .i64 ((lensOf ys).take i))) := kept (HO2.out.chg (Chg.of_below (S := fun _ => False) hb3) (fun _ _ => id))
      clear hE hb3 hp HB2 HS2 HFrom HO2
      have HSz : Kept (S.size ≤ 1000000000000) := kept (by have := HSS.out; omega)
      have HLe8 : Kept (t ≤ 8 * S.size) := kept (by have := HSS.out; omega)
      have hlf := bleft_calls p S t w3 HE.out
      have hsz : (t : Int) / 8 + 1 = (S.size : Int) := by have := HSS.out; omega
      have HLf := kept hlf
      clear hlf
      go_wp2_with (first
        | (go_at_call 12; refine (err_calls _ _).mono ?_; rintro e w' ⟨rfl, rfl⟩)
        | (go_at_call 15; refine HLf.out.mono ?_; rintro e w' ⟨rfl, rfl⟩))
      clear hsz HLf
      have hE0 := HE.out
      rw [show t = (catC xs (lensOf ys) i).length from HT.out] at hE0
      have HE0 := kept hE0
      clear hE0
      go_loopw [12] (fun s12 wr => ∃ j : Nat, j ≤ i ∧ s12 = .int .i64 ((j : Int) - 1) ∧ IsE wr p S (catC xs (lensOf ys) j).length ∧ Owns wr 3 (.slice a i cap) (ints .i64 ((lensOf ys).take i)) ∧ Below B w wr ∧ B ≤ wr.heap.size) (fun s12 _ => (intOf s12 + 1).toNat)
      case atStart => exact ⟨i, Nat.le_refl _, rfl, HE0.out, HO3.out, HB3.out, HS3.out⟩
      case round =>
        obtain ⟨j, hj, rfl, hE, hO, hb, hs⟩ := hrel
        have HE2 := kept hE
        have HOq := kept hO
        have HBq := kept hb
        have HSq := kept hs
        clear hE hO hb hs HE HB3 HS3 HO3 HE0
        cases j with
        | zero =>
          have e1 : ((0 : Nat) : Int) - 1 = -1 := by decide
          rw [e1]
          clear e1
          have hss : S.size ≤ 1000 := by have := HSS.out; omega
          have hE0 : IsE wr p S 0 := HE2.out
          have hgm := bget_more p S 0 1 wr hE0 (by decide) (by decide)
          have hlf := bleft_calls p S 0 wr hE0
          have HGm := kept hgm
          have HLf := kept hlf
          clear hgm hlf hE0
          go_wp2_with fail
          refine HGm.out.mono ?_
          rintro e w' ⟨rfl, rfl⟩
          go_wp2_with (first
            | (go_at_call 10; refine (bfrom_zero _ _ (by rw [app_size]; omega) (by rw [app_size]; have := HSS.out; omega) (app_last S)).mono ?_; rintro e w' ⟨rfl, rfl⟩)
            | (go_at_call 13; refine (bget_nil _ _).mono ?_; rintro e w' ⟨rfl, rfl⟩)
            | (go_at_call_of 15 (Value.pointer (some ⟨p, 0, none⟩)); refine HLf.out.mono ?_; rintro e w' ⟨rfl, rfl⟩)
            | (go_at_call 15; refine (bleft_nil _).mono ?_; rintro e w' ⟨rfl, rfl⟩)
            | (go_at_call 12; refine (err_calls _ _).mono ?_; rintro e w' ⟨rfl, rfl⟩)
            | (go_at_call 8; refine (awake4_calls _).mono ?_; rintro e w9 ⟨rfl, hb9⟩; have HB9 := kept (HBq.out.trans (hb9.mono HSq.out)); clear hb9))
          go_ret
          exact ⟨rfl, HB9.out⟩
        | succ j =>
          have e1 : ((j + 1 : Nat) : Int) - 1 = (j : Int) := by omega
          rw [e1]
          clear e1
          have hj0 : j < n0 := by omega
          have hjy : j < ys.length := by rw [HYL.out]; omega
          have hrd0 := HR0.out.below HBq.out (by rw [HB.out]; exact HR0.out.lt)
          obtain ⟨x0, rfl, hc0⟩ := hrd0.at (Own.nums_at .u64 xs j (by rw [HXL.out]; exact hj0))
          have hx64 := mem_getD HX.out j (by rw [HXL.out]; exact hj0)
          have hlc := lensOf_at ys j hjy
          have hg := getE_cat xs (lensOf ys) j i (ys.getD j 0 % 65) (by omega) (by rw [hlc, clamp65])
          rw [← HLe.out, ← HSe.out] at hg
          have hel : (ints .i64 ((lensOf ys).take i))[j]? = some (.int .i64 ((ys.getD j 0 % 65 : Nat) : Int)) := by
            rw [Own.ints_at _ _ _ (by rw [List.length_take, lensOf_len, HYL.out]; omega)]
            rw [← hlc]
            simp [List.getD_eq_getElem?_getD, List.getElem?_take, show j < i by omega]
          obtain ⟨xg, rfl, hcl⟩ := HOq.out.rd.at hel
          obtain ⟨x, hx⟩ : ∃ x, x = xs.getD j 0 := ⟨_, rfl⟩
          obtain ⟨q, hq⟩ : ∃ q, q = ys.getD j 0 % 65 := ⟨_, rfl⟩
          rw [← hx] at hc0 hx64 hg
          rw [← hq] at hg hcl
          have hq64 : q ≤ 64 := by omega
          obtain ⟨r, hr⟩ : ∃ r, r = x % 2 ^ q := ⟨_, rfl⟩
          rw [← hr] at hg
          have hle : (catC xs (lensOf ys) (j + 1)).length ≤ 8 * S.size := by
            have h1 := catC_mono xs (lensOf ys) (j + 1) i hj
            rw [← HT.out] at h1
            exact Nat.le_trans h1 HLe8.out
          have hget : Calls Try.prog 13 #[.pointer (some ⟨p, 0, none⟩), .int .i64 (q : Int)] wr fun e w' => e = .returned (.tuple #[.int .u64 (r : Int), .int .i64 ((0 : Nat) : Int)]) ∧
              IsE w' p S (catC xs (lensOf ys) j).length ∧ Below B wr w' ∧ Owns w' 3 (.slice (some xg) i cap) (ints .i64 ((lensOf ys).take i)) := by
            refine (bget_calls p S _ (q : Int) wr HE2.out HSz.out hle).mono fun e w' ⟨he, h1, h2⟩ => ?_
            rw [hg] at he h1
            exact ⟨he, h1, h2.below HSq.out (fun b hb e => by have := HP.out; omega), HOq.out.chg h2 (fun g hgg e => HOq.out.ne HE2.out (by decide) (by rw [hgg, e]))⟩
          have hcell : ∀ w', Owns w' 3 (.slice (some xg) i cap) (ints .i64 ((lensOf ys).take i)) → w'.cell? (xg.add j) = some (.int .i64 (q : Int)) := fun w' hO => by
            obtain ⟨z, hz, h⟩ := hO.rd.at hel
            rw [hq]
            simp only [Option.some.injEq] at hz
            subst hz
            exact h
          have HA0 : Kept (x0.block < w.heap.size) := kept (HR0.out.lt _ (by cases n0 with | zero => omega | succ n => rfl))
          have HC0 := kept hc0
          have HX64 := kept hx64
          have HRr := kept hr
          have HGet := kept hget
          have HCell := kept hcell
          have hji : j < i := by omega
          clear hx hx64 hg hrd0 hr hc0 hlc hel hq hle hget hcell
          go_wp2_with fail
          refine HGet.out.mono ?_
          rintro e w5 ⟨rfl, hE5, hb5, hO5⟩
          have HE5 := kept hE5
          have HO5 := kept hO5
          have HB5 := kept (HBq.out.trans hb5)
          have HS5 := kept (Nat.le_trans HSq.out hb5.size)
          have hc0 : w5.cell? (x0.add j) = some (.int .u64 (x : Int)) := (hb5.cell (by rw [Own.add_block, HB.out]; exact HA0.out)).trans HC0.out
          have hcl := HCell.out _ hO5
          clear hE5 hb5 hO5
          by_cases hq3 : q < 64
          · have hshl := shl_one q (by omega)
            have hmask := and_mask x q (2 ^ q) HX64.out (by omega) rfl
            rw [← HRr.out] at hmask
            have hP63 := pow63 q (by omega)
            have hP1 : 0 < 2 ^ q := Nat.pow_pos (by decide)
            obtain ⟨P, hP⟩ : ∃ P, P = 2 ^ q := ⟨_, rfl⟩
            rw [← hP] at hshl hmask hP63 hP1
            have hP64 : P < 18446744073709551616 := by omega
            clear hP hP63
            go_wp2_with (first | (go_at_call 12; refine (err_calls _ _).mono ?_; rintro e w' ⟨rfl, rfl⟩))
            go_roundw
            case rel => exact ⟨j, by omega, rfl, HE5.out, HO5.out, HB5.out, HS5.out⟩
            case measure => simp [intOf]
          · have hqe : q = 64 := by omega
            have hrx : r = x := by rw [HRr.out, hqe]; exact Nat.mod_eq_of_lt HX64.out
            clear HRr hqe
            subst hrx
            go_wp2_with (first | (go_at_call 12; refine (err_calls _ _).mono ?_; rintro e w' ⟨rfl, rfl⟩))
            go_roundw
            case rel => exact ⟨j, by omega, rfl, HE5.out, HO5.out, HB5.out, HS5.out⟩
            case measure => simp [intOf]
end Go.Proofs.Ytdbnmijnjfbibaa
