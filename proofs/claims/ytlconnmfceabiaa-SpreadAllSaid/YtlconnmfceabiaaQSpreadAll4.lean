/- Part 4 of what the law SpreadAll stands on: Nn, PAx18, PAx19, Uc, Uw, PureSpreadAll, LawSpreadAll. Written by a program (merge.py) out of this session's own texts and of what the kit's print wrote over stand-ins (sp.py). Conditions: those that each theorem names. -/
import Derived.Test.YtlconnmfceabiaaQSpreadAll1
import Derived.Test.YtlconnmfceabiaaQSpreadAll3
import Derived.Test.YtlconnmfceabiaaQSpreadAll2
import Derived.Test.YtlconnmfceabiaaRows
import Derived.WalkKit
import Derived.ProofKit
import Derived.OpenShut
import Derived.ShutString
import Derived.ChangeOld
import Derived.Below
import Derived.SizedLaws
import Derived.Test.YtlconnmfceabiaaWSized
-- ---- Nn
/- The document's numbers of a sum: what the call answers. -/
namespace Go.Proofs.Ytlconnmfceabiaa.PA
set_option linter.unusedSimpArgs false
set_option linter.unusedVariables false
open Go.RowKit Go.Proofs.YtlconnmfceabiaaW.PrintWords Mix Own Ol Nl
attribute [local go_sem] Own.max_int Own.min_int

/-- The block of the result, on the way; all that was there has stayed. -/
structure StN (B : Nat) (w wr : World) : Prop where
  res : Blk wr B #[.slice none 0 0, .int .i64 0] 28
  low : Below B w wr
structure StR (B : Nat) (w wr : World) (g : Nat) (xs : List Int) : Prop where
  st : StN B w wr
  row : Owns wr 3 (.slice (some ⟨g, 0, none⟩) 65 65) (ints .i64 xs)
  new : B ≤ g
theorem StN.sz {B : Nat} {w wr : World} (h : StN B w wr) : B < wr.heap.size := h.res.lt
theorem StN.later {B : Nat} {w wr w' : World} (h : StN B w wr) (hb : Below wr.heap.size wr w') : StN B w w' :=
  ⟨(hb.block B h.sz).trans h.res, h.low.trans (hb.mono (Nat.le_of_lt h.sz))⟩
theorem StR.later {B : Nat} {w wr w' : World} {g : Nat} {xs : List Int} (h : StR B w wr g xs) (hb : Below wr.heap.size wr w') : StR B w w' g xs :=
  ⟨h.st.later hb, h.row.keep fun k _ hk => hb.block k hk, h.new⟩
theorem StR.ne {B : Nat} {w wr : World} {g : Nat} {xs : List Int} (h : StR B w wr g xs) : B ≠ g := fun e => h.row.ne h.st.res (by decide) (by simp [Value.ownBlock, e])
theorem StR.store {B : Nat} {w wr : World} {g : Nat} {xs : List Int} (h : StR B w wr g xs) (j : Nat) (x : Int) : StR B w (wr.setCell ⟨g, j, none⟩ (.int .i64 x)) g (xs.set j x) := by
  refine ⟨⟨h.st.res.setOther h.ne _, h.st.low.setCell h.new _⟩, ?_, h.new⟩
  have := h.row.store j (.int .i64 x)
  have e : ints .i64 (xs.set j x) = (ints .i64 xs).set j (.int .i64 x) := by simp [ints, List.map_set]
  rw [e]; exact this
theorem StR.cell {B : Nat} {w wr : World} {g : Nat} {xs : List Int} (h : StR B w wr g xs) (j : Nat) (hj : j < xs.length) : wr.cell? ⟨g, j, none⟩ = some (.int .i64 (xs.getD j 0)) := h.row.cell (Own.ints_at .i64 xs j hj)

set_option maxHeartbeats 4000000 in
theorem rnorm_bad (A0 : Option Addr) (c0 : Nat) (l0 : List Int) (a1 : Int) (w : World) (hr0 : Kd.C (Kd.int .i64) w A0 l0.length l0) (hc0 : l0.length ≤ c0) (hn : l0.length < 200000000000000)
    (hb : ¬ (frB l0 = true ∧ 7 ≤ a1 ∧ a1 ≤ 12)) :
    Calls Try.prog 21 #[.slice A0 l0.length c0, .int .i64 a1] w fun e w' => e = .returned (.agg #[.slice none 0 0, .int .i64 1]) ∧ Below w.heap.size w w' := by
  by_cases h65 : l0.length = 65
  · obtain ⟨k, hk⟩ := (freqs_is l0 h65).rounds
    have hfr := fun w1 (h : Below w.heap.size w w1) => wringerref7_freqs.calls k A0 c0 l0 _ w1 (Kd.C_below hr0 h) hc0 hk
    have hlg := fun w1 => wringerref7_isLog.calls a1 _ w1 (isLogF a1)
    have t65 : ((l0.length : Int) != 65) = false := by simp; omega
    have hb0 : Below w.heap.size w (w.alloc (.cells #[.slice none 0 0, .int .i64 0] 28)) := (Below.refl _ _).alloc (Nat.le_refl _) _
    have HFr := kept (hfr _ hb0)
    have HLg := kept hlg
    obtain ⟨n, hnn⟩ : ∃ n, n = l0.length := ⟨_, rfl⟩
    rw [← hnn] at hn t65 ⊢
    rw [← hnn] at HFr
    cases hf : frB l0 with
    | false =>
      rw [hf] at HFr
      clear hr0 hc0 h65 hk hfr hlg hb0 hb hnn hf
      go_enter Try.func21, Try.ntmps21
      go_wp2_with (first | (go_at_call 25; refine HFr.out.mono ?_; rintro e w' ⟨rfl, hd⟩; obtain ⟨⟨nd, rfl⟩⟩ := hd))
      exact bodyPost_ret (results_cell_row rfl _ _ w.heap.size 28 #[.slice none 0 0, .int .i64 1] (0, 0) _ rfl (((Blk.fresh _ _ _).set 0 _).set 1 _) Try.underlying28 rfl (by kernel_rfl)) rfl ⟨rfl, ((pw_below_drewN ((Below.refl _ _).alloc (Nat.le_refl _) _) _).setCell (by simp) _).setCell (by simp) _⟩
    | true =>
      rw [hf] at HFr hb
      have hd : decide (7 ≤ a1 ∧ a1 ≤ 12) = false := by rw [decide_eq_false_iff_not]; exact fun h => hb ⟨rfl, h⟩
      rw [hd] at HLg
      clear hr0 hc0 h65 hk hfr hlg hb0 hb hnn hf hd
      go_enter Try.func21, Try.ntmps21
      go_wp2_with (first | (go_at_call 25; refine HFr.out.mono ?_; rintro e w' ⟨rfl, hd⟩; obtain ⟨⟨nd, rfl⟩⟩ := hd) | (go_at_call 23; refine (HLg.out _).mono ?_; rintro e w' ⟨rfl, hd⟩; obtain ⟨⟨nd2, rfl⟩⟩ := hd))
      exact bodyPost_ret (results_cell_row rfl _ _ w.heap.size 28 #[.slice none 0 0, .int .i64 1] (0, 0) _ rfl (((Blk.fresh _ _ _).set 0 _).set 1 _) Try.underlying28 rfl (by kernel_rfl)) rfl ⟨rfl, ((pw_below_drewN ((Below.refl _ _).alloc (Nat.le_refl _) _) _).setCell (by simp) _).setCell (by simp) _⟩
  · obtain ⟨n, hnn⟩ : ∃ n, n = l0.length := ⟨_, rfl⟩
    rw [← hnn] at hn ⊢
    have t65 : ((n : Int) != 65) = true := by simp; omega
    clear hr0 hc0 h65 hb hnn
    go_enter Try.func21, Try.ntmps21
    go_wp2_with fail
    exact bodyPost_ret (results_cell_row rfl _ _ w.heap.size 28 #[.slice none 0 0, .int .i64 1] (0, 0) _ rfl (Blk.fresh _ _ _) Try.underlying28 rfl (by kernel_rfl)) rfl ⟨rfl, (Below.refl _ _).alloc (Nat.le_refl _) _⟩

theorem share_walk (y t : Int) (m P : Nat) (hy : 0 < y) (hy1 : y ≤ 16777216) (hP : P = 2 ^ m) (hP1 : P ≤ 4096) (ht : 0 < t) : Own.mx 1 (wrap64 ((wrap64 (y * 2 ^ m)).tdiv t)) = share (P : Int) t y := by
  have e : ((2 : Int) ^ m) = (P : Int) := by rw [hP]; simp
  have h1 : y * (P : Int) ≤ 16777216 * 4096 := Int.mul_le_mul hy1 (by omega) (by omega) (by omega)
  have h0 : 0 ≤ y * (P : Int) := Int.mul_nonneg (by omega) (by omega)
  have h2 : y * (P : Int) / t ≤ y * (P : Int) := Int.ediv_le_self _ h0
  have h3 : 0 ≤ y * (P : Int) / t := Int.ediv_nonneg h0 (by omega)
  unfold share
  rw [if_pos hy, e, w64 (x := y * (P : Int)) (by omega) (by omega), Int.tdiv_eq_ediv_of_nonneg h0, w64 (x := y * (P : Int) / t) (by omega) (by omega), Own.mx_eq]

set_option maxHeartbeats 8000000 in
theorem rnorm_ok (A0 : Option Addr) (c0 : Nat) (l0 : List Int) (m : Nat) (w : World) (hr0 : Kd.C (Kd.int .i64) w A0 l0.length l0) (hc0 : l0.length ≤ c0) (hf : Fr l0) (h7 : 7 ≤ m) (h12 : m ≤ 12) :
    Calls Try.prog 21 #[.slice A0 l0.length c0, .int .i64 (m : Int)] w fun e w' => ∃ v, e = .returned (.agg #[v, .int .i64 0]) ∧ Owns w' 3 v (ints .i64 (normL l0 ((2 ^ m : Nat) : Int))) ∧ (∀ g, v.ownBlock = some g → w.heap.size ≤ g) ∧ Below w.heap.size w w' := by
  have h65 := hf.len
  obtain ⟨i0, hi, hz0, hz1, hz2⟩ := info_partsI infoI64
  obtain ⟨k, hk⟩ := (freqs_is l0 h65).rounds
  rw [(frB_iff l0).2 hf] at hk
  obtain ⟨B, hB⟩ : ∃ B, B = w.heap.size := ⟨_, rfl⟩
  have hst : StN B w (w.alloc (.cells #[.slice none 0 0, .int .i64 0] 28)) := ⟨by rw [hB]; exact Blk.fresh _ _ _, by rw [hB]; exact (Below.refl _ _).alloc (Nat.le_refl _) _⟩
  have hfr := fun w1 (h : Below w.heap.size w w1) => wringerref7_freqs.calls k A0 c0 l0 _ w1 (Kd.C_below hr0 h) hc0 hk
  have hfr2 := hfr _ (by rw [← hB]; exact hst.low)
  have hlg := fun w1 => wringerref7_isLog.calls (m : Int) _ w1 (isLogF (m : Int))
  have hlt : decide (7 ≤ (m : Int) ∧ (m : Int) ≤ 12) = true := by rw [decide_eq_true_eq]; omega
  rw [hlt] at hlg
  have hR := Own.rd_of_C hr0
  have hro := fun w1 (h : Below w.heap.size w w1) => rorder_calls A0 l0.length c0 l0 w1 (hR.later h) (by omega)
  obtain ⟨P, hP⟩ : ∃ P, P = 2 ^ m := ⟨_, rfl⟩
  have hshl := shl_int m (by omega)
  have hp12 := pow12 m h12
  have hp7 : 128 ≤ P := by have h := Nat.pow_le_pow_right (show 0 < 2 by decide) h7; rw [hP]; omega
  rw [← hP] at hshl hp12 ⊢
  rw [h65] at hR hro hfr2 ⊢
  rw [← hB]
  have HB := kept hB
  have HF := kept hf
  have HR := kept hR
  have HRo := kept hro
  have HFr := kept hfr2
  have HLg := kept hlg
  have H65 := kept h65
  have HSt := kept hst
  have HP := kept hP
  have t65 : (65 != (65 : Int)) = false := rfl
  have hm63 : m < 63 := by omega
  clear hB hf hR hro hfr hfr2 hlg h65 hst hk hr0 hc0 hlt hP h7 h12
  go_enter Try.func21, Try.ntmps21
  go_wp2_with (first | (go_at_call 25; refine HFr.out.mono ?_; rintro e w' ⟨rfl, hd⟩; obtain ⟨⟨nd, rfl⟩⟩ := hd) | (go_at_call 23; refine (HLg.out _).mono ?_; rintro e w' ⟨rfl, hd⟩; obtain ⟨⟨nd2, rfl⟩⟩ := hd))
  rw [show w.heap.size = B from HB.out.symm]
  generalize hw1 : World.drewN _ _ = w1
  have HSt1 : Kept (StN B w w1) := kept (by rw [← hw1]; exact HSt.out.later (pw_below_drewN (Below.refl _ _) _))
  clear hw1 HSt HFr HLg
  have HR1 := kept (HR.out.later (by rw [← HB.out]; exact HSt1.out.low))
  go_loopw [5, 7] (fun s5 s7 wr => ∃ i : Nat, i ≤ 65 ∧ s7 = .int .i64 (i : Int) ∧ (∃ t : Int, t = (l0.take i).sum ∧ s5 = .int .i64 t) ∧ wr = w1) (fun s5 s7 _ => 65 - (intOf s7).toNat)
  case atStart => exact ⟨0, by omega, rfl, ⟨0, by simp, rfl⟩, rfl⟩
  case round =>
    obtain ⟨i, hi65, rfl, ⟨t, ht, rfl⟩, rfl⟩ := hrel
    have htb := HF.out.take_sum i
    rw [← ht] at htb
    obtain ⟨tb0, tb1⟩ := htb
    by_cases hlt : i < 65
    · have hil : i < l0.length := by rw [H65.out]; exact hlt
      obtain ⟨x, rfl, hc⟩ := HR1.out.at (Own.ints_at .i64 l0 i hil)
      have hfm := Nl.getD_mem hil
      have hy0 := HF.out.nn _ hfm
      have hy1 := HF.out.le _ hfm
      have hsn := Nl.take_sum l0 i hil
      clear hfm
      obtain ⟨y, hy⟩ : ∃ y, y = l0.getD i 0 := ⟨_, rfl⟩
      rw [← hy] at hc hy0 hy1 hsn
      rw [← ht] at hsn
      have HSn := kept hsn
      clear hsn ht hy hil
      go_wp2_with fail
      go_roundw
      case rel => exact ⟨i + 1, by omega, by go_num, ⟨t + y, HSn.out.symm, by go_num⟩, trivial⟩
      case measure => simp [intOf]; omega
    · have hie : i = 65 := by omega
      subst hie
      have hte : t = l0.sum := by rw [ht, ← H65.out, List.take_length]
      have hpos : 0 < t := by rw [hte]; exact HF.out.pos
      have HT := kept hte
      clear ht hte hlt tb0
      go_wp2_with (first | (refine wpList_mk1 rfl _ _ 22 rfl 3 i0 (.int .i64 0) 8 Try.underlying22 hi hz0 hz1 hz2 rfl .i64 .i64 _ _ 65 rfl rfl rfl rfl (by decide) (by decide) ?_))
      intro w2 hO hb hlt2
      obtain ⟨g, hg⟩ : ∃ g, g = wr.heap.size := ⟨_, rfl⟩
      have HSt2 : Kept (StR B w w2 g (shN l0 (P : Int) t 0)) := kept ⟨HSt1.out.later hb, by rw [hg, shN_zero, H65.out]; simpa [ints] using hO, by have := HSt1.out.sz; omega⟩
      rw [← hg]
      clear hO hb hlt2 hg
      have HR2 := kept (HR.out.later (by rw [← HB.out]; exact HSt2.out.st.low))
      clear HSt1 HR1
      go_wp2_with fail
      go_loopw [6, 9] (fun s6 s9 wq => ∃ i : Nat, i ≤ 65 ∧ s9 = .int .i64 (i : Int) ∧ (∃ q : Int, q = (shN l0 (P : Int) t i).sum ∧ s6 = .int .i64 q) ∧ StR B w wq g (shN l0 (P : Int) t i)) (fun s6 s9 _ => 65 - (intOf s9).toNat)
      case atStart => exact ⟨0, by omega, rfl, ⟨0, by rw [shN_zero]; simp, rfl⟩, HSt2.out⟩
      case round =>
        obtain ⟨i, hi65, rfl, ⟨q, hq, rfl⟩, hst⟩ := hrel
        obtain ⟨wq, rfl⟩ : ∃ wq, wq = wr := ⟨wr, rfl⟩
        have hqb := HF.out.shN_sum (size := (P : Int)) (by omega) i (by rw [H65.out]; exact hi65)
        rw [← HT.out, ← hq] at hqb
        have hqb2 : (P : Int) * (i : Int) ≤ 4096 * 65 := Int.mul_le_mul (by omega) (by omega) (by omega) (by omega)
        have hq0 : 0 ≤ q := hqb.1
        have hq1 : q ≤ 266240 := by omega
        clear hqb hqb2
        have HSt3 := kept hst
        have hrd := HR.out.later (show Below w.heap.size w wq by rw [← HB.out]; exact hst.st.low)
        clear hst
        by_cases hlt : i < 65
        · have hil : i < l0.length := by rw [H65.out]; exact hlt
          obtain ⟨x, rfl, hc⟩ := hrd.at (Own.ints_at .i64 l0 i hil)
          have hfm := Nl.getD_mem hil
          have hy0 := HF.out.nn _ hfm
          have hy1 := HF.out.le _ hfm
          have hsl := HF.out.share_le (size := (P : Int)) (by omega) hfm
          have hsn := sum_shN l0 (P : Int) t i hil
          have hst3 := shN_succ l0 (P : Int) t i hil
          have hsame := shN_same l0 (P : Int) t i hil
          have hat := shN_at l0 (P : Int) t i hil
          rw [← HT.out] at hsl
          clear hfm
          obtain ⟨y, hy⟩ : ∃ y, y = l0.getD i 0 := ⟨_, rfl⟩
          rw [← hy] at hc hy0 hy1 hsn hsl hst3 hsame
          rw [← hq] at hsn
          have HSn := kept hsn
          have HSt4 := kept hst3
          have HSame := kept hsame
          obtain ⟨sl0, sl1⟩ := hsl
          by_cases hpos2 : 0 < y
          · have hxl : (shN l0 (P : Int) t i).length = 65 := by rw [length_shN _ _ _ _ (by omega)]; exact H65.out
            obtain ⟨xs, hxs⟩ : ∃ xs, xs = shN l0 (P : Int) t i := ⟨_, rfl⟩
            rw [← hxs] at HSt3 HSt4 HSame hxl hq hat
            have c1 := HSt3.out.cell i (by omega)
            have f1 : wq.frozen? ⟨g, i, none⟩ = false := HSt3.out.row.free i
            clear hxs hsn hst3 hsame hq hil hy hrd hat
            have hsw := share_walk y t m P hpos2 hy1 HP.out (by omega) hpos
            obtain ⟨z, hz⟩ : ∃ z, z = share (P : Int) t y := ⟨_, rfl⟩
            rw [← hz] at hsw sl0 sl1 HSt4 HSn
            have HSw := kept hsw
            clear hsw hz
            have HSt5 : Kept (StR B w (wq.setCell ⟨g, i, none⟩ (.int .i64 z)) g (shN l0 (P : Int) t (i + 1))) := kept (by rw [HSt4.out]; exact HSt3.out.store i z)
            go_wp2_with fail
            go_roundw
            case rel =>
              refine ⟨i + 1, by omega, by go_num, ⟨q + z, HSn.out.symm, ?_⟩, ?_⟩
              · rw [HSw.out, w64 (by omega) (by omega)]
              · rw [HSw.out]; exact HSt5.out
            case measure => simp [intOf]; omega
          · have hn0 : y ≤ 0 := by omega
            have HSt5 : Kept (StR B w wq g (shN l0 (P : Int) t (i + 1))) := kept (by rw [HSame.out hpos2]; exact HSt3.out)
            have HQ : Kept (q = (shN l0 (P : Int) t (i + 1)).sum) := kept (by rw [HSame.out hpos2]; exact hq)
            clear hsn hst3 hsame hq hil hy hrd hat
            go_wp2_with fail
            go_roundw
            case rel => exact ⟨i + 1, by omega, by go_num, ⟨q, HQ.out, by go_num⟩, HSt5.out⟩
            case measure => simp [intOf]; omega
        · have hie : i = 65 := by omega
          subst hie
          obtain ⟨xs, hxs⟩ : ∃ xs, xs = shares l0 (P : Int) t := ⟨_, rfl⟩
          have hxe : shN l0 (P : Int) t 65 = xs := by rw [hxs, ← H65.out]; exact shN_all l0 (P : Int) t
          rw [hxe] at HSt3 hq
          have hxl : xs.length = 65 := by rw [hxs, length_shares]; exact H65.out
          have HX := kept hxs
          have HQ := kept hq
          have HXl := kept hxl
          have hrd2 := HR.out.later (show Below w.heap.size w wq by rw [← HB.out]; exact HSt3.out.st.low)
          have HRd2 := kept hrd2
          clear hxs hq hxe hrd hrd2 hlt
          by_cases hls : q < (P : Int)
          · obtain ⟨tl, htl, hk65⟩ := HF.out.head
            obtain ⟨k, hk⟩ : ∃ k, k = (ordL l0).headD 0 := ⟨_, rfl⟩
            rw [← hk] at htl hk65
            have hok := HF.out.shares_ok (size := (P : Int)) (by omega)
            rw [← HT.out, ← HX.out] at hok
            have hnn : ∀ x ∈ xs, 0 ≤ x := fun x hx => by
              obtain ⟨i, hi, rfl⟩ := mem_getD hx
              exact hok.nn i (by rw [H65.out, ← hxl]; exact hi)
            have hk2 : k < xs.length := by omega
            have hge := hnn _ (Nl.getD_mem hk2)
            have hle := Nl.le_sum xs hnn _ (Nl.getD_mem hk2)
            rw [← HQ.out] at hle
            obtain ⟨x, hx⟩ : ∃ x, x = xs.getD k 0 := ⟨_, rfl⟩
            have HNorm : Kept (normL l0 (P : Int) = xs.set k (x + (P : Int) - q)) := kept (by
              unfold normL
              rw [← HT.out, ← HX.out, ← HQ.out, if_pos (by omega), ← hk]
              unfold bump; rw [← hx]; congr 1; omega)
            rw [← hx] at hge hle
            have HX6 := kept hx
            have HTl := kept htl
            have HC := kept (HRo.out wq (by rw [← HB.out]; exact HSt3.out.st.low))
            clear hok hnn hk2 hx htl hk
            go_wp2_with fail
            refine HC.out.mono ?_
            rintro e w6 ⟨v6, rfl, hro6⟩
            have HSt7 := kept (HSt3.out.later hro6.low)
            have hrow6 := hro6.own
            rw [HTl.out] at hrow6
            obtain ⟨g6, cap6, rfl, hc6, _⟩ := hrow6.row (by simp [idx])
            have hcell6 : w6.cell? ⟨g6, 0, none⟩ = some (.int .i64 (k : Int)) := hrow6.cell (j := 0) (by simp [idx])
            have hlen6 : (idx (k :: tl)).length = tl.length + 1 := by simp
            rw [hlen6] at hc6
            rw [hlen6]
            have hy6 := HSt7.out.cell k (by omega)
            rw [← HX6.out] at hy6
            clear hro6 hrow6 hlen6
            have l6 := lat_cell hy6
            go_wp2_with fail
            refine wp_region_mixL [] [0,1,2,3,4,5,6,7,8,9,10,11] [12] (by kernel_rfl) (by kernel_rfl) ?_
            intro K hK
            simp only [pick, List.filterMap_cons, List.filterMap_nil, List.getElem?_cons_zero, List.getElem?_cons_succ]
            refine wpQuiet_nil ?_
            repeat (show wpQuiet _ _ _ _ (_ :: _) _; go_big_quiet_step (fail))
            refine wpQuiet_nil ?_
            show wpList _ _ _ [_] _ _
            generalize hwd : World.drew w6 = w7
            have HSt8 : Kept (StR B w w7 g xs) := kept (by rw [← hwd]; exact HSt7.out.later ((Below.refl _ _).drew))
            clear hwd l6 hy6 hcell6
            have c7 := HSt8.out.cell k (by omega)
            have f7 : w7.frozen? ⟨g, k, none⟩ = false := HSt8.out.row.free k
            have HSt9 : Kept (StR B w (w7.setCell ⟨g, k, none⟩ (.int .i64 (x + (P : Int) - q))) g (normL l0 (P : Int))) := kept (by rw [HNorm.out]; exact HSt8.out.store k _)
            go_wp2_with fail
            refine hK _ _ ?_
            have HNl : Kept ((normL l0 (P : Int)).length = 65) := kept (by rw [HNorm.out, List.length_set]; exact HXl.out)
            generalize hwe : World.setCell w7 _ _ = w8
            have HSt10 : Kept (StR B w w8 g (normL l0 (P : Int))) := kept (by rw [← hwe]; exact HSt9.out)
            clear hwe c7 f7
            rw [hshl]
            go_wp2_with fail
            go_loopw [6] (fun s6 wr => ∃ (q2 : Int) (ys : List Int), s6 = .int .i64 q2 ∧ StR B w wr g ys ∧ ys.length = 65 ∧ normL l0 (P : Int) = decTop (q2 - (P : Int)).toNat ys ∧ ((P : Int) < q2 → Ok l0 ys ∧ ys.sum = q2) ∧ 0 ≤ q2 ∧ q2 ≤ 266240) (fun s6 _ => (intOf s6 - (P : Int)).toNat)
            case atStart => exact ⟨q, _, rfl, HSt10.out, HNl.out, by rw [show (q - (P : Int)).toNat = 0 by omega]; rfl, fun h => by omega, hq0, hq1⟩
            case round =>
              obtain ⟨q2, ys, rfl, hst, hyl, hnorm, hok, hq20, hq21⟩ := hrel
              obtain ⟨wl, rfl⟩ : ∃ wl, wl = wr := ⟨wr, rfl⟩
              by_cases hgt : (P : Int) < q2
              · obtain ⟨hok1, hsum⟩ := hok hgt
                obtain ⟨htop, tl, htl⟩ := top_of (l := ys) (by rw [hyl, hsum]; omega)
                obtain ⟨k, hk⟩ : ∃ k, k = (ordL ys).headD 0 := ⟨_, rfl⟩
                rw [← hk] at htop htl
                have hk65 : k < 65 := by rw [← hyl]; exact htop.lt
                have htwo := htop.two
                have hle := Nl.le_sum ys (fun x hx => by
                  obtain ⟨i, hi, rfl⟩ := mem_getD hx
                  exact hok1.nn i (by rw [H65.out, ← hyl]; exact hi)) _ (Nl.getD_mem htop.lt)
                rw [hsum] at hle
                obtain ⟨x, hx⟩ : ∃ x, x = ys.getD k 0 := ⟨_, rfl⟩
                have hcall := rorder_calls (some ⟨g, 0, none⟩) 65 65 ys wl hst.row.rd (by omega)
                have HC := kept hcall
                have HSt6 := kept hst
                have HTl := kept htl
                have HYl := kept hyl
                have HNew : Kept (normL l0 (P : Int) = decTop (q2 - 1 - (P : Int)).toNat (bump ys k (-1)) ∧ Ok l0 (bump ys k (-1)) ∧ (bump ys k (-1)).sum = q2 - 1) := kept ⟨by
                  rw [hnorm, show (q2 - (P : Int)).toNat = (q2 - 1 - (P : Int)).toNat + 1 by omega, hk]; rfl, hok1.step htop, by rw [sum_bump ys k _ htop.lt, hsum]; rfl⟩
                rw [← hx] at htwo hle
                have HX6 := kept hx
                have HBm : Kept (bump ys k (-1) = ys.set k (x - 1)) := kept (by unfold bump; rw [hx]; rfl)
                clear hok1 hsum htop htl hk hcall hst hyl hnorm hok hx
                go_wp2_with fail
                refine HC.out.mono ?_
                rintro e w6 ⟨v6, rfl, hro6⟩
                have HSt7 := kept (HSt6.out.later hro6.low)
                have hrow6 := hro6.own
                rw [HTl.out] at hrow6
                obtain ⟨g6, cap6, rfl, hc6, _⟩ := hrow6.row (by simp [idx])
                have hcell6 : w6.cell? ⟨g6, 0, none⟩ = some (.int .i64 (k : Int)) := hrow6.cell (j := 0) (by simp [idx])
                have hlen6 : (idx (k :: tl)).length = tl.length + 1 := by simp
                rw [hlen6] at hc6
                rw [hlen6]
                have hy6 := HSt7.out.cell k (by rw [HYl.out]; exact hk65)
                rw [← HX6.out] at hy6
                have f6 : w6.frozen? ⟨g, k, none⟩ = false := HSt7.out.row.free k
                have HSt8 : Kept (StR B w (w6.setCell ⟨g, k, none⟩ (.int .i64 (x - 1))) g (bump ys k (-1))) := kept (by rw [HBm.out]; exact HSt7.out.store k (x - 1))
                clear hro6 hrow6 hlen6
                go_wp2_with fail
                go_roundw
                case rel =>
                  refine ⟨q2 - 1, bump ys k (-1), by go_num, HSt8.out, by rw [length_bump]; exact HYl.out, HNew.out.1, fun _ => HNew.out.2, by omega, by omega⟩
                case measure => simp [intOf]; omega
              · have hz : (q2 - (P : Int)).toNat = 0 := by omega
                rw [hz] at hnorm
                have hfin : normL l0 (P : Int) = ys := hnorm
                have HSt6 := kept hst
                have HFin := kept hfin
                have d0 : wl.cell? ⟨B, 0, none⟩ = some (.slice none 0 0) := hst.st.res.cell rfl
                have d1 : wl.cell? ⟨B, 1, none⟩ = some (.int .i64 0) := hst.st.res.cell rfl
                have e0 : wl.frozen? ⟨B, 0, none⟩ = false := hst.st.res.free 0
                have e1 : wl.frozen? ⟨B, 1, none⟩ = false := hst.st.res.free 1
                clear hst hyl hnorm hok hz hfin
                go_wp2_with fail
                refine bodyPost_ret (results_cell_row rfl _ _ B 28 #[.slice (some ⟨g, 0, none⟩) 65 65, .int .i64 0] (0, 0) _ rfl ((HSt6.out.st.res.set 0 _).set 1 _) Try.underlying28 rfl (by kernel_rfl)) rfl ⟨_, rfl, ?_, ?_, ?_⟩
                · rw [HFin.out]
                  exact (HSt6.out.row.setOther (a := ⟨B, 0, none⟩) (HSt6.out.row.ne HSt6.out.st.res (by decide)) _).setOther (a := ⟨B, 1, none⟩) (HSt6.out.row.ne HSt6.out.st.res (by decide)) _
                · intro g' hg'
                  simp [Value.ownBlock] at hg'
                  rw [← hg']; exact HSt6.out.new
                · have h := (HSt6.out.st.low.setCell (p := ⟨B, 0, none⟩) (Nat.le_refl _) (.slice (some ⟨g, 0, none⟩) 65 65)).setCell (p := ⟨B, 1, none⟩) (Nat.le_refl _) (.int .i64 0)
                  exact h
          · have HNorm : Kept (normL l0 (P : Int) = decTop (q - (P : Int)).toNat xs) := kept (by
              unfold normL
              rw [← HT.out, ← HX.out, ← HQ.out]
              by_cases he : q ≤ (P : Int)
              · rw [if_pos he, show q = (P : Int) by omega, Int.sub_self, bump_zero]; rfl
              · rw [if_neg he])
            have HOk : Kept (Ok l0 xs) := kept (by
              have hok := HF.out.shares_ok (size := (P : Int)) (by omega)
              rw [← HT.out, ← HX.out] at hok; exact hok)
            go_wp2_with fail
            go_loopw [6] (fun s6 wr => ∃ (q2 : Int) (ys : List Int), s6 = .int .i64 q2 ∧ StR B w wr g ys ∧ ys.length = 65 ∧ normL l0 (P : Int) = decTop (q2 - (P : Int)).toNat ys ∧ ((P : Int) < q2 → Ok l0 ys ∧ ys.sum = q2) ∧ 0 ≤ q2 ∧ q2 ≤ 266240) (fun s6 _ => (intOf s6 - (P : Int)).toNat)
            case atStart => exact ⟨q, xs, rfl, HSt3.out, HXl.out, HNorm.out, fun _ => ⟨HOk.out, HQ.out.symm⟩, hq0, hq1⟩
            case round =>
              obtain ⟨q2, ys, rfl, hst, hyl, hnorm, hok, hq20, hq21⟩ := hrel
              obtain ⟨wl, rfl⟩ : ∃ wl, wl = wr := ⟨wr, rfl⟩
              by_cases hgt : (P : Int) < q2
              · obtain ⟨hok1, hsum⟩ := hok hgt
                obtain ⟨htop, tl, htl⟩ := top_of (l := ys) (by rw [hyl, hsum]; omega)
                obtain ⟨k, hk⟩ : ∃ k, k = (ordL ys).headD 0 := ⟨_, rfl⟩
                rw [← hk] at htop htl
                have hk65 : k < 65 := by rw [← hyl]; exact htop.lt
                have htwo := htop.two
                have hle := Nl.le_sum ys (fun x hx => by
                  obtain ⟨i, hi, rfl⟩ := mem_getD hx
                  exact hok1.nn i (by rw [H65.out, ← hyl]; exact hi)) _ (Nl.getD_mem htop.lt)
                rw [hsum] at hle
                obtain ⟨x, hx⟩ : ∃ x, x = ys.getD k 0 := ⟨_, rfl⟩
                have hcall := rorder_calls (some ⟨g, 0, none⟩) 65 65 ys wl hst.row.rd (by omega)
                have HC := kept hcall
                have HSt6 := kept hst
                have HTl := kept htl
                have HYl := kept hyl
                have HNew : Kept (normL l0 (P : Int) = decTop (q2 - 1 - (P : Int)).toNat (bump ys k (-1)) ∧ Ok l0 (bump ys k (-1)) ∧ (bump ys k (-1)).sum = q2 - 1) := kept ⟨by
                  rw [hnorm, show (q2 - (P : Int)).toNat = (q2 - 1 - (P : Int)).toNat + 1 by omega, hk]; rfl, hok1.step htop, by rw [sum_bump ys k _ htop.lt, hsum]; rfl⟩
                rw [← hx] at htwo hle
                have HX6 := kept hx
                have HBm : Kept (bump ys k (-1) = ys.set k (x - 1)) := kept (by unfold bump; rw [hx]; rfl)
                clear hok1 hsum htop htl hk hcall hst hyl hnorm hok hx
                go_wp2_with fail
                refine HC.out.mono ?_
                rintro e w6 ⟨v6, rfl, hro6⟩
                have HSt7 := kept (HSt6.out.later hro6.low)
                have hrow6 := hro6.own
                rw [HTl.out] at hrow6
                obtain ⟨g6, cap6, rfl, hc6, _⟩ := hrow6.row (by simp [idx])
                have hcell6 : w6.cell? ⟨g6, 0, none⟩ = some (.int .i64 (k : Int)) := hrow6.cell (j := 0) (by simp [idx])
                have hlen6 : (idx (k :: tl)).length = tl.length + 1 := by simp
                rw [hlen6] at hc6
                rw [hlen6]
                have hy6 := HSt7.out.cell k (by rw [HYl.out]; exact hk65)
                rw [← HX6.out] at hy6
                have f6 : w6.frozen? ⟨g, k, none⟩ = false := HSt7.out.row.free k
                have HSt8 : Kept (StR B w (w6.setCell ⟨g, k, none⟩ (.int .i64 (x - 1))) g (bump ys k (-1))) := kept (by rw [HBm.out]; exact HSt7.out.store k (x - 1))
                clear hro6 hrow6 hlen6
                go_wp2_with fail
                go_roundw
                case rel =>
                  refine ⟨q2 - 1, bump ys k (-1), by go_num, HSt8.out, by rw [length_bump]; exact HYl.out, HNew.out.1, fun _ => HNew.out.2, by omega, by omega⟩
                case measure => simp [intOf]; omega
              · have hz : (q2 - (P : Int)).toNat = 0 := by omega
                rw [hz] at hnorm
                have hfin : normL l0 (P : Int) = ys := hnorm
                have HSt6 := kept hst
                have HFin := kept hfin
                have d0 : wl.cell? ⟨B, 0, none⟩ = some (.slice none 0 0) := hst.st.res.cell rfl
                have d1 : wl.cell? ⟨B, 1, none⟩ = some (.int .i64 0) := hst.st.res.cell rfl
                have e0 : wl.frozen? ⟨B, 0, none⟩ = false := hst.st.res.free 0
                have e1 : wl.frozen? ⟨B, 1, none⟩ = false := hst.st.res.free 1
                clear hst hyl hnorm hok hz hfin
                go_wp2_with fail
                refine bodyPost_ret (results_cell_row rfl _ _ B 28 #[.slice (some ⟨g, 0, none⟩) 65 65, .int .i64 0] (0, 0) _ rfl ((HSt6.out.st.res.set 0 _).set 1 _) Try.underlying28 rfl (by kernel_rfl)) rfl ⟨_, rfl, ?_, ?_, ?_⟩
                · rw [HFin.out]
                  exact (HSt6.out.row.setOther (a := ⟨B, 0, none⟩) (HSt6.out.row.ne HSt6.out.st.res (by decide)) _).setOther (a := ⟨B, 1, none⟩) (HSt6.out.row.ne HSt6.out.st.res (by decide)) _
                · intro g' hg'
                  simp [Value.ownBlock] at hg'
                  rw [← hg']; exact HSt6.out.new
                · have h := (HSt6.out.st.low.setCell (p := ⟨B, 0, none⟩) (Nat.le_refl _) (.slice (some ⟨g, 0, none⟩) 65 65)).setCell (p := ⟨B, 1, none⟩) (Nat.le_refl _) (.int .i64 0)
                  exact h
end Go.Proofs.Ytlconnmfceabiaa.PA

-- ---- PAx18
/- The document's numbers of a sum: what the call answers, for every list and log. Conditions: the list's length fits a slice. -/
namespace Go.Proofs.Ytlconnmfceabiaa.PA
open Go.RowKit Go.Proofs.YtlconnmfceabiaaW.PrintWords Go.Proofs.YtlconnmfceabiaaW.PrintLast Go.Proofs.YtlconnmfceabiaaW.PrintMore
set_option linter.unusedVariables false
set_option linter.unusedSimpArgs false

def normE (l : List Int) (a : Int) : List Int × Int := if Nl.frB l = true ∧ 7 ≤ a ∧ a ≤ 12 then (Nl.normL l ((2 ^ a.toNat : Nat) : Int), 0) else ([], 1)
def wringerref7_Norm.f (l0 : List Int) (a1 : Int) : Option (List Int × Int) := if l0.length < 200000000000000 then some (normE l0 a1) else none
theorem wringerref7_Norm.calls (A0 : Option Addr) (c0 : Nat) (l0 : List Int) (a1 : Int) (r1 : List Int) (r2 : Int) (w : World) (hr0 : Kd.C (Kd.int .i64) w A0 l0.length l0) (hc0 : l0.length ≤ c0) (h : wringerref7_Norm.f l0 a1 = some (r1, r2)) :
    Calls Try.prog 21 #[.slice A0 l0.length c0, .int .i64 a1] w fun e w' => ∃ v0_ : Value, e = .returned (.agg #[v0_, .int .i64 r2]) ∧ Kd.R (Kd.int .i64) 3 w' w.heap.size (fun _ => True) v0_ r1 ∧ Below w.heap.size w w' := by
  unfold wringerref7_Norm.f at h
  split at h
  · rename_i hn
    have h := Option.some.inj h
    unfold normE at h
    split at h
    · rename_i hg
      obtain ⟨rfl, rfl⟩ := Prod.mk.inj h
      obtain ⟨m, rfl⟩ := Int.eq_ofNat_of_zero_le (show 0 ≤ a1 by omega)
      refine (rnorm_ok A0 c0 l0 m w hr0 hc0 ((Nl.frB_iff l0).1 hg.1) (by omega) (by omega)).mono ?_
      rintro e w' ⟨v, rfl, ho, hnew, hb⟩
      exact ⟨v, rfl, Own.R_of_owns (by rw [Int.toNat_natCast]; exact ho) hnew, hb⟩
    · rename_i hg
      obtain ⟨rfl, rfl⟩ := Prod.mk.inj h
      refine (rnorm_bad A0 c0 l0 a1 w hr0 hc0 hn hg).mono ?_
      rintro e w' ⟨rfl, hb⟩
      exact ⟨_, rfl, Kd.R_nil _ _ _ _ _, hb⟩
  · cases h
end Go.Proofs.Ytlconnmfceabiaa.PA

-- ---- PAx19

namespace Go.Proofs.Ytlconnmfceabiaa.PA
open Go.RowKit Go.Proofs.YtlconnmfceabiaaW.PrintWords Go.Proofs.YtlconnmfceabiaaW.PrintLast Go.Proofs.YtlconnmfceabiaaW.PrintMore
attribute [local go_sem] max2_int min2_int max_two min_two max_three min_three max_four min_four   -- for this text's walks alone
set_option linter.unusedVariables false
set_option linter.unusedSimpArgs false

/-! ### wringerlaw13_Counts: function 16 -/
def wringerlaw13_Counts.f (k : Nat) (l0 : List Int) (a1 : Int) : Option (List Int × Int) := (wringerlaw8_Freq.f k l0).bind fun t207 => (if 2 < (t207.length : Int) then ((wringerref7_Norm.f (t207.set (2 : Int).toNat (wrap64 ((rd t207 2) + 1))) (wrap64 (7 + (Int.tmod (wrap64 (a1)) 6)))).bind fun bt212 => (some (bt212.1, wrap64 (7 + (Int.tmod (wrap64 (a1)) 6))))) else (none))
theorem wringerlaw13_Counts.mono : ∀ a0 a1 k, LeO (wringerlaw13_Counts.f k a0 a1) (wringerlaw13_Counts.f (k + 1) a0 a1) := by
  intro a0 a1 k
  unfold wringerlaw13_Counts.f
  repeat' first
      | (with_reducible exact wringerlaw8_Freq.mono _ _)
      | (with_reducible exact LeO.refl _)
      | (with_reducible exact LeO.none _)
      | (with_reducible refine LeO.ite ?_ ?_)
      | (with_reducible refine LeO.bind ?_ (fun _ => ?_))
      | exact wringerlaw8_Freq.mono _ _
      | exact LeO.none _
      | refine LeO.ite ?_ ?_
      | refine LeO.bind ?_ (fun _ => ?_)
set_option maxHeartbeats 8000000 in
set_option maxRecDepth 100000 in
theorem wringerlaw13_Counts.calls (k : Nat) (A0 : Option Addr) (c0 : Nat) (l0 : List Int) (a1 : Int) (r1 : List Int) (r2 : Int) (w : World) (hr0 : Kd.C (Kd.int .u16) w A0 l0.length l0) (hc0 : l0.length ≤ c0) (h : wringerlaw13_Counts.f k l0 a1 = some (r1, r2)) :
    Calls Try.prog 16 #[.slice A0 l0.length c0, .int .u8 a1] w fun e w' => ∃ v0_ : Value, e = .returned (.tuple #[v0_, .int .i64 r2]) ∧ Kd.R (Kd.int .i64) 3 w' w.heap.size (fun _ => True) v0_ r1 ∧ Below w.heap.size w w' := by
  have hf28_0 : ∀ (v0_ v1_ : Value) (w_ : World), (Instr.field 28 (.agg #[v0_, v1_]) 0).run Try.prog w_ = .ok v0_ w_ := fun v0_ v1_ w_ => by
    unfold Instr.field
    rw [Sem.run_bind, run_underlying Try.underlying28 w_]
    simp [part, asAgg, Sem.run_bind, isAgg, run_underlying Try.underlying3 w_, run_underlying Try.underlying22 w_, Result.andThen]
  have HR0 := Aside0.mk hr0
  have HC0 := Aside0.mk hc0
  clear hr0 hc0
  have HB := Aside0.mk (Below.refl w.heap.size w)
  have H : ((wringerlaw8_Freq.f k l0).bind fun t207 => (if 2 < (t207.length : Int) then ((wringerref7_Norm.f (t207.set (2 : Int).toNat (wrap64 ((rd t207 2) + 1))) (wrap64 (7 + (Int.tmod (wrap64 (a1)) 6)))).bind fun bt212 => (some (bt212.1, wrap64 (7 + (Int.tmod (wrap64 (a1)) 6))))) else (none))) = some (r1, r2) := h
  clear h
  replace H := Option.bind_eq_some_iff.mp H
  obtain ⟨t207, A30, H⟩ := H
  replace H : (if 2 < (t207.length : Int) then ((wringerref7_Norm.f (t207.set (2 : Int).toNat (wrap64 ((rd t207 2) + 1))) (wrap64 (7 + (Int.tmod (wrap64 (a1)) 6)))).bind fun bt212 => (some (bt212.1, wrap64 (7 + (Int.tmod (wrap64 (a1)) 6))))) else (none)) = some (r1, r2) := H
  have A3 := Aside0.mk A30
  clear A30
  by_cases c4 : 2 < (t207.length : Int)
  · rw [if_pos c4] at H
    have c4b0 : decide (2 < (t207.length : Int)) = true := decide_eq_true c4
    have c4b1 : decide (2 < t207.length) = true := decide_eq_true (by omega)
    clear c4
    obtain ⟨y211, hy211⟩ : ∃ y_ : List Int, y_ = (t207.set (2 : Int).toNat (wrap64 ((rd t207 2) + 1))) := ⟨_, rfl⟩
    replace H : ((wringerref7_Norm.f y211 (wrap64 (7 + (Int.tmod (wrap64 (a1)) 6)))).bind fun bt212 => (some (bt212.1, wrap64 (7 + (Int.tmod (wrap64 (a1)) 6))))) = some (r1, r2) := by first | (rw [hy211]; with_reducible exact H) | (have H2_ := (Option.bind_some _ _).symm.trans H; rw [hy211]; with_reducible exact H2_) | (have H2_ := (Option.bind_some _ _).symm.trans H; with_reducible exact H2_) | with_reducible exact H | (rw [hy211]; exact H) | exact H
    have Ny211 := Aside0.mk hy211
    clear hy211
    replace H := Option.bind_eq_some_iff.mp H
    obtain ⟨⟨t212, t215⟩, A60, H⟩ := H
    replace H : (some (t212, wrap64 (7 + (Int.tmod (wrap64 (a1)) 6)))) = some (r1, r2) := H
    have A6 := Aside0.mk A60
    clear A60
    simp only [Option.some.injEq, Prod.mk.injEq] at H
    obtain ⟨rfl, rfl⟩ := H
    go_enter Try.func16, Try.ntmps16
    go_wp2_with (first | ((with_reducible refine gate_callee (f := 20) rfl ?_); refine goesL_ (some 9) rfl rfl Try.func20 (by kernel_rfl) rfl #[.slice A0 l0.length c0] rfl (by (try simp only [List.map_toArray, List.map_cons, List.map_nil]); first | done | rfl | (simp only [List.length_drop, List.length_take]; rfl)) ?_; (with_reducible refine (wringerlaw8_Freq.calls k _ _ l0 t207 _ ?side1 ?side2 A3.out).mono ?_); (case side1 => repeat (first | exact HR0.out | (with_reducible refine Kd.C_alloc ?_ _) | (with_reducible refine Kd.C_drewN ?_ _) | (with_reducible refine Kd.C_drew ?_))); (case side2 => exact HC0.out); rintro e w7 ⟨v208, rfl, ho0, hb⟩; refine ⟨_, rfl, ?_⟩; have n0_ := Aside0.mk (Kd.R_lower ho0 (below_size (by repeat (first | (with_reducible first | exact HB.out | apply below_alloc | apply pw_below_drewN | apply below_drew1) | exact HB.out)))); have n1_ := Aside0.mk (below_step (by repeat (first | (with_reducible first | exact HB.out | apply below_alloc | apply pw_below_drewN | apply below_drew1) | exact HB.out)) hb); clear HB; have HO209 := n0_; have HB := n1_; clear n0_ n1_; (try clear hb); (try clear hb2); (try clear hk); (try clear hi); (try clear ho0); obtain ⟨Ao8, co8, eo8⟩ := Kd.R_slice HO209.out; subst eo8; have p210 : 0 ≤ (2 : Int) := (by omega); have q210 : 2 < (t207.length : Int) := of_decide_eq_true (by first | (with_reducible assumption) | assumption); obtain ⟨ad210, e210, hx210_0⟩ := Kd.at_int (Kd.R_reads' HO209.out).2.2 2 p210 q210; cases e210; (try simp only [show (2 : Int).toNat = 2 from rfl, Nat.reduceMul, Nat.reduceEqDiff, Go.Addr.add, ↓reduceIte] at hx210_0); have qi210 : (2 < t207.length) = True := eq_true (by omega); (try rw [show ((2 : Int)).toNat = 2 from rfl] at hx210_0); replace p210 := eq_true p210; replace q210 := eq_true q210; have p5 : 0 ≤ (2 : Int) := (by omega); have q5 : (2 : Int) < ((t207.length : Int) : Int) := of_decide_eq_true (by first | (with_reducible assumption) | assumption); have qi5 : (2 < t207.length) = True := eq_true (by omega); obtain ⟨go5, co5, eo5, gb5, gl5, cl5, HG5⟩ := Kd.R_form HO209.out (by omega); (first | cases eo5 | (injection eo5 with ea_ en_ ec_; (first | subst ea_ | (injection ea_ with ea_; subst ea_)); subst ec_; clear en_)); have GB5 := Aside0.mk gb5; have GG5 := Aside0.mk HG5; clear gb5 gl5 HG5; (first | simp only [add_plain] at hx210_0 | skip); obtain ⟨hx5_0, hf5_0⟩ := Kd.R_celln 0 HO209.out (2 : Int) p5 q5; (try rw [show ((2 : Int)).toNat = 2 from rfl] at hx5_0); (try simp only [Nat.reduceMul, Nat.zero_mul, Nat.zero_add, Nat.reduceAdd] at hx5_0); (try rw [show ((2 : Int)).toNat = 2 from rfl] at hf5_0); (try simp only [Nat.reduceMul, Nat.zero_mul, Nat.zero_add, Nat.reduceAdd] at hf5_0); replace p5 := eq_true p5; replace q5 := eq_true q5; obtain ⟨hy9_, hz9_⟩ := Kd.R_celln 0 HO209.out (2 : Int) (by omega) (of_decide_eq_true (by first | (with_reducible assumption) | assumption)); (try simp only [Int.reduceToNat, Int.toNat_zero, Int.toNat_ofNat, Nat.reduceMul, Nat.zero_mul, Nat.zero_add] at hy9_ hz9_); (try rw [show ((2 : Int)).toNat = 2 from rfl] at hy9_); (try rw [show ((2 : Int)).toNat = 2 from rfl] at hz9_); have HP9 := Kd.R_putg HO209.out (2 : Int) (wrap64 ((rd t207 2) + 1))) | ((with_reducible refine gate_store (t := 3) (p := 15) rfl ?_); refine store_event (t := 3) (p := 15) (v := ?vo_w10) (w1 := (w7.setCell ⟨go5, (2 : Int).toNat, none⟩ (.int .i64 (wrap64 ((rd t207 2) + 1))))) ?hg ?ho ?hn ?hr ?_; (case ho => rfl); (case hg => rfl); (case hn => rfl); (case hr => first | (go_simp; done) | (go_simp; rfl)); intro w10 hw; have hg : w7.grownBy w10 (some go5) := (by rw [hw]; exact HP9.2); have hp_ : Kd.R (Kd.int .i64) 3 w10 w.heap.size (fun _ => True) (.slice (some ⟨go5, 0, none⟩) t207.length co8) y211 := (by rw [hw, Ny211.out]; exact HP9.1); clear HP9; have n0_ := Aside0.mk (hp_); have n1_ := Aside0.mk ((by rw [hw]; exact below_set (HB.out) GB5.out : Below w.heap.size w w10)); clear HO209; clear HB; have HO209 := n0_; have HB := n1_; clear n0_ n1_; clear hg hw hp_) | ((with_reducible refine gate_callee (f := 21) rfl ?_); refine goesL_ (some 22) rfl rfl Try.func21 (by kernel_rfl) rfl #[.slice (some ⟨go5, 0, none⟩) y211.length co8, .int .i64 (wrap64 (7 + (Int.tmod (wrap64 (a1)) 6)))] rfl (by (try simp only [List.map_toArray, List.map_cons, List.map_nil]); first | done | (rw [show y211.length = t207.length from (Kd.R_reads' HO209.out).1.symm] <;> rfl) | rfl | (simp only [List.length_drop, List.length_take]; rfl)) ?_; (with_reducible refine (wringerref7_Norm.calls _ _ y211 (wrap64 (7 + (Int.tmod (wrap64 (a1)) 6))) t212 t215 _ ?side1 ?side2 A6.out).mono ?_); (case side1 => repeat (first | exact (Kd.R_reads' HO209.out).2.2 | (with_reducible refine Kd.C_alloc ?_ _) | (with_reducible refine Kd.C_drewN ?_ _) | (with_reducible refine Kd.C_drew ?_))); (case side2 => rw [show y211.length = t207.length from (Kd.R_reads' HO209.out).1.symm]; exact (Kd.R_reads' HO209.out).2.1); rintro e w11 ⟨v213, rfl, ho0, hb⟩; refine ⟨_, rfl, ?_⟩; have n0_ := Aside0.mk (Kd.R_elder' (by (with_reducible repeat (first | apply Kd.R_alloc | apply Kd.R_drewN | apply Kd.R_drew)); exact HO209.out) (Kd.R_base ho0) hb); have n1_ := Aside0.mk (Kd.R_lower (Kd.R_new' ho0 (Kd.R_lt (by (with_reducible repeat (first | apply Kd.R_alloc | apply Kd.R_drewN | apply Kd.R_drew)); exact HO209.out))) (below_size (by repeat (first | (with_reducible first | exact HB.out | apply below_alloc | apply pw_below_drewN | apply below_drew1) | exact HB.out)))); have n2_ := Aside0.mk (below_step (by repeat (first | (with_reducible first | exact HB.out | apply below_alloc | apply pw_below_drewN | apply below_drew1) | exact HB.out)) hb); clear HO209; clear HB; have HO209 := n0_; have HO214 := n1_; have HB := n2_; clear n0_ n1_ n2_; (try clear hb); (try clear hb2); (try clear hk); (try clear hi); (try clear ho0)))
    go_ret2
    exact ⟨_, by first | rfl | (simp [errW_none, errW_some] <;> rfl) | (simp [*, errW_none, errW_some] <;> rfl), by (with_reducible repeat (first | apply Kd.R_alloc | apply Kd.R_drewN | apply Kd.R_drew)); exact Kd.R_mono HO214.out (fun _ hk => trivial), by repeat (first | (with_reducible first | exact HB.out | apply below_alloc | apply pw_below_drewN | apply below_drew1) | exact HB.out)⟩
  · rw [if_neg c4] at H
    exact absurd H (by simp)

end Go.Proofs.Ytlconnmfceabiaa.PA

-- ---- Uc
/- Numbers of a sum, by numbers. -/
namespace Go.Proofs.Ytlconnmfceabiaa.PA
set_option linter.unusedVariables false
set_option linter.unusedSimpArgs false
open Go.RowKit Go.Proofs.YtlconnmfceabiaaW.PrintWords Go.Proofs.YtlconnmfceabiaaW.PrintLast Go.Proofs.YtlconnmfceabiaaW.PrintMore Nl Sp

theorem norm_mayN {f : List Int} (h : Fr f) {m : Nat} (h7 : 7 ≤ m) (h12 : m ≤ 12) : mayN (normL f ((2 ^ m : Nat) : Int)) (m : Int) = true := by
  have hp : 128 ≤ 2 ^ m := by have := Nat.pow_le_pow_right (show 0 < 2 by decide) h7; omega
  unfold mayN
  rw [decide_eq_true_eq, Int.toNat_natCast]
  exact ⟨by omega, by omega, h.norm_len (by omega), h.norm_at (by omega), (h.norm (by omega)).2⟩
theorem norm_f {f : List Int} (h : Fr f) {m : Nat} (h7 : 7 ≤ m) (h12 : m ≤ 12) : wringerref7_Norm.f f (m : Int) = some (normL f ((2 ^ m : Nat) : Int), 0) := by
  unfold wringerref7_Norm.f normE
  rw [if_pos (by rw [h.len]; decide), if_pos ⟨(frB_iff f).2 h, by omega, by omega⟩, Int.toNat_natCast]
theorem u8_at {a : Int} (h : (Lit.int .u8 a).wf = true) : ∃ v : Nat, a = (v : Int) ∧ v ≤ 255 := by
  simp only [Lit.wf, Bool.and_eq_true, decide_eq_true_eq] at h
  have h1 : IntKind.u8.min = 0 := rfl
  have h2 : IntKind.u8.max = 255 := rfl
  exact ⟨a.toNat, by omega, by omega⟩
theorem log_of (v : Nat) (hv : v ≤ 255) : wrap64 (7 + Int.tmod (wrap64 (v : Int)) 6) = ((7 + v % 6 : Nat) : Int) := by
  have e : Int.tmod (v : Int) 6 = ((v % 6 : Nat) : Int) := tmod_nat v 6
  rw [w64 (x := (v : Int)) (by omega) (by omega), e, w64 (by omega) (by omega)]; omega

theorem counts_is (ns : List Int) (hw : ∀ x ∈ ns, (Lit.int .u16 x).wf = true) (hl : ns.length < 1000000) (a : Int) (ha : (Lit.int .u8 a).wf = true) :
    ∃ (f : List Int) (m : Nat), Ev (fun k => wringerlaw13_Counts.f k ns a) (normL f ((2 ^ m : Nat) : Int), (m : Int)) ∧ Fr f ∧ 7 ≤ m ∧ m ≤ 12 ∧ 0 < f.getD 2 0 := by
  obtain ⟨v, rfl, hv⟩ := u8_at ha
  obtain ⟨f, hf, hok⟩ := freq_is ns hw hl
  have hfr := fr_more hok 2 (by decide)
  have h2 := hok.each _ (getD_mem (show 2 < f.length by rw [hok.len]; decide))
  refine ⟨f.set 2 (f.getD 2 0 + 1), 7 + v % 6, ?_, hfr, by omega, by omega, ?_⟩
  · unfold wringerlaw13_Counts.f
    refine Ev.bind hf ?_
    refine Ev.ite_pos (by rw [hok.len]; decide) ?_
    rw [log_of v hv]
    have e : rd f 2 = f.getD 2 0 := rd_nat f 2
    rw [e, w64 (by omega) (by omega), show ((2 : Int).toNat) = 2 from rfl]
    refine Ev.bind0 (norm_f hfr (by omega) (by omega)) (Ev.now _)
  · rw [List.getD_eq_getElem?_getD, List.getElem?_set_self (by rw [hok.len]; decide)]
    simp only [Option.getD_some]; omega
end Go.Proofs.Ytlconnmfceabiaa.PA

-- ---- Uw
/- Layer 13's example, and tables that are one. -/
namespace Go.Proofs.Ytlconnmfceabiaa.PA
set_option linter.unusedVariables false
set_option linter.unusedSimpArgs false
open Go.RowKit Go.Proofs.YtlconnmfceabiaaW.PrintWords Go.Proofs.YtlconnmfceabiaaW.PrintLast Go.Proofs.YtlconnmfceabiaaW.PrintMore Nl Sp

set_option maxRecDepth 100000 in
theorem awake13 : wringerlaw13_awake.f = some true := by
  unfold wringerlaw13_awake.f wringerlaw1_Err.f spread_Table.f
  decide +kernel

theorem cells_l0 (a : List S45) (hb : a.length < 4611686018427387904) : ∀ (d i : Nat), i + d = a.length → Ev (fun k => wringerref7_SameCells.l0 k a a (i : Int)) true := by
  intro d
  induction d with
  | zero =>
    intro i hi
    exact Ev.step (f := fun _ => some true) (fun k => by simp only [wringerref7_SameCells.l0]; rw [if_neg (by omega)]) (Ev.now _)
  | succ d ih =>
    intro i hi
    refine Ev.step (f := fun k => wringerref7_SameCells.l0 k a a ((i + 1 : Nat) : Int)) (fun k => ?_) (ih (i + 1) (by omega))
    simp only [wringerref7_SameCells.l0]
    rw [if_pos (by omega), if_pos (by omega), if_pos (by omega), if_neg (by simp), w64 (by omega) (by omega)]; rfl
theorem cells_self (a : List S45) (hb : a.length < 4611686018427387904) : Ev (fun k => wringerref7_SameCells.f k a a) true := by
  unfold wringerref7_SameCells.f
  exact Ev.ite_pos rfl (cells_l0 a hb a.length 0 (by omega))
theorem length_tableE (l : List Int) (a : Int) : (tableE l a).1.length ≤ 4096 := by
  unfold tableE
  split
  · rename_i h
    obtain ⟨m, rfl, hm⟩ := (may_iff l a).1 h
    have := pow2_le m 12 hm.hi
    simp only [List.length_map, Sp.length_table, Int.toNat_natCast]; omega
  · simp
theorem length_spreadE (l : List Int) (a : Int) : (spreadE l a).1.length ≤ 4096 := by
  unfold spreadE
  split
  · rename_i h
    obtain ⟨m, rfl, hm⟩ := (may_iff l a).1 h
    have := pow2_le m 12 hm.hi
    simp only [Sp.length_spread, Int.toNat_natCast]; omega
  · simp
theorem tableE_ok {l : List Int} {m : Nat} (h : mayN l (m : Int) = true) : tableE l (m : Int) = ((table l m).map cellS, 0) := by unfold tableE; rw [if_pos h, Int.toNat_natCast]
theorem spreadE_ok {l : List Int} {m : Nat} (h : mayN l (m : Int) = true) : spreadE l (m : Int) = (spread l (2 ^ m), 0) := by unfold spreadE; rw [if_pos h, Int.toNat_natCast]
theorem both_err (l : List Int) (a : Int) : (spreadE l a).2 = (tableE l a).2 := by unfold spreadE tableE; split <;> rfl
end Go.Proofs.Ytlconnmfceabiaa.PA

-- ---- PureSpreadAll
/- The places and the table of any numbers are those of the document: the plain statement of SpreadAll holds for every input. Conditions: none. -/
namespace Go.Proofs.Ytlconnmfceabiaa.Pure
open Go.RowKit Go.Proofs.Ytlconnmfceabiaa.PA Go.Proofs.YtlconnmfceabiaaW.PrintWords Go.Proofs.YtlconnmfceabiaaW.PrintLast Go.Proofs.YtlconnmfceabiaaW.PrintMore Nl Sp
set_option linter.unusedVariables false
set_option linter.unusedSimpArgs false

theorem SpreadAll : wringerlaw13_SpreadAll.Pure := by
  intro l0 a1 _ _ _ _
  apply Ev.rounds
  unfold wringerlaw13_SpreadAll.f
  by_cases hl : (l0.length : Int) > 100
  · exact Ev.ite_pos hl (Ev.bind0 awake13 (Ev.now _))
  · refine Ev.ite_neg hl ?_
    refine Ev.bind (spread_is l0 a1) ?_
    refine Ev.bind (rspread_is l0 a1) ?_
    refine Ev.bind0 (rfl : spread_Table.f l0 a1 = some (tableE l0 a1)) ?_
    refine Ev.bind (rtable_is l0 (by omega) a1) ?_
    have h1 := length_spreadE l0 a1
    have h2 := length_tableE l0 a1
    refine Ev.bind (same_self _ (by omega)) (Ev.ite_pos rfl ?_)
    refine Ev.bind0 (rfl : wringerlaw1_Err.f _ = some _) (Ev.ite_pos rfl ?_)
    refine Ev.bind (cells_self _ (by omega)) (Ev.ite_pos rfl ?_)
    refine Ev.bind0 (rfl : wringerlaw1_Err.f _ = some _) (Ev.ite_pos rfl ?_)
    exact Ev.bind0 awake13 (Ev.now _)

end Go.Proofs.Ytlconnmfceabiaa.Pure

-- ---- LawSpreadAll

namespace Go.Proofs.Ytlconnmfceabiaa.spreadAll
open Go.ChangeShapes Go.WideShapes Go.ChangeAt Go.RowKit
open Go.ChangeMaps (open_string shut_string)
set_option linter.unusedVariables false
theorem own : ownKnob Try.prog.godebug = none := by kernel_rfl
theorem laidOut : laidOutB Try.prog = true := by kernel_rfl
def IsRow (k : IntKind) (w : World) (a : Option Addr) (len cap : Nat) (zs : List Int) : Prop :=
  (a = none ∧ len = 0 ∧ cap = 0 ∧ zs = []) ∨
  ∃ x, a = some x ∧ len ≤ cap ∧ cap ≤ maxLen ∧ zs.length = cap ∧ (∀ i, i < zs.length → w.cell? (x.add i) = some (.int k (zs.getD i 0))) ∧ ∀ n ∈ zs, (Lit.int k n).wf = true
set_option maxRecDepth 100000 in
theorem lifted (os : Os) (started : os.Started) (H : Type) (enc : TypeId × Value → H) :
    ReturnsInHanded {} Try.checked os 3 .any (Rows.spreadAllSpec.pre6 enc Try.prog Try.f3 Rows.spreadAllRow.domain false) (Rows.spreadAllSpec.post enc Try.prog Try.f3 false true false false) := by
  refine returnsInHanded_of_change_sized (C := Try.checked) own started (by kernel_rfl) Try.func3
    (ChangeSpec.witness6 (enc := enc) (C := Try.checked) false ⟨#[], #[.slice none 0 0, .int .i64 0], []⟩ 8 (by kernel_rfl) (by kernel_rfl) (by kernel_rfl) (by kernel_rfl)) ?_
  intro W base args ds gs before hval0 hW hcnd hsz0 _
  have hsz : (DataW.weightsEach Try.prog (Try.f3.params.toList ++ Rows.spreadAllSpec.plain.varTypes Try.prog) (ds ++ gs)).all (· ≤ reachBytes) = true := hsz0
  have hval : ∀ (j : Nat) t v, Try.f3.params[j]? = some t → args[j]? = some v → Value.okWide Try.prog W .any base t v := hval0
  have hW' := hW
  obtain ⟨p, q, hA0, hV, rfl, hfz, hnd⟩ := hW
  have hA : DataW.TrodAll enc Try.prog W 0 (fun _ => true) true Try.f3.params.toList args.toList ds p := hA0
  rw [Try.params3] at hA hval hsz
  obtain ⟨v0, vs0, d0, ds0, p0, q0, hargs, rfl, rfl, h0, r0⟩ := trodAll_cons hA
  obtain ⟨v1, vs1, d1, ds1, p1, q1, rfl, rfl, rfl, h1, r1⟩ := trodAll_cons r0
  obtain ⟨rfl, rfl, rfl⟩ := trodAll_nil r1
  obtain rfl : args = #[v0, v1] := by cases args; simp_all
  obtain ⟨rfl, rfl⟩ := trodVars_none hV
  obtain ⟨a0, len0, cap0, rfl⟩ := okWide_slice Try.underlying22 (hval 0 22 v0 rfl rfl)
  have k0 := h0
  have lt0 : ∀ x ∈ p0, x.block < W.heap.size := by obtain ⟨m, hm⟩ := k0; exact DataW.trod_lt m _ _ _ hm
  obtain ⟨z0, w0⟩ : ∃ zs, IsRow .i64 W a0 len0 cap0 zs := by
    obtain ⟨fuel, hf⟩ := h0
    rcases open_ints Try.underlying22 Try.underlying3 (by kernel_rfl) hf with ⟨hcs, _⟩ | ⟨x, l, c, zs, hcs, _, hl, hm, hz, _, hcell, hwz⟩
    · simp [Value.cells] at hcs
      obtain ⟨rfl, rfl, rfl⟩ := hcs
      exact ⟨[], .inl ⟨rfl, rfl, rfl, rfl⟩⟩
    · simp [Value.cells] at hcs
      obtain ⟨rfl, rfl, rfl⟩ := hcs
      exact ⟨zs, .inr ⟨_, rfl, hl, hm, by simpa using hz, hcell, hwz⟩⟩
  have y0 : len0 * 8 ≤ 140737488351232 := Go.Proofs.YtlconnmfceabiaaW.PrintWords.sized_ints hsz (j := 0) (t := 22) rfl rfl Try.underlying22 Try.underlying3 (by kernel_rfl) (by kernel_rfl) h0
  obtain ⟨a1, rfl, rfl, rfl, w1⟩ := open_int Try.underlying3 (hval 1 3 v1 rfl rfl) h1
  clear hA0 hval0 hsz0 hsz
  refine (PA.wringerlaw13_SpreadAll.walk Pure.SpreadAll a0 len0 cap0 z0 a1 W w0 y0 w1).mono fun e W' ⟨he, bel⟩ => ?_
  subst he
  exact ⟨_, rfl, _, _, _, [], _, [], hW', trodAll_mk1 (shut_bool Try.underlying4 _), (trodAll_cons_mk (Below.trod laidOut (by kernel_rfl) (of_decide_eq_true (by kernel_rfl)) k0 bel lt0) (trodAll_cons_mk (shut_int Try.underlying3 w1) trodAll_mk0)), rfl, bel.frame _, fun h => by cases h⟩
theorem over : Rows.spreadAllRow.holds Try.pinned (OpenSpec.ofChange Rows.spreadAllSpec) :=
  OpenClaim.holds_of_wide 3 Try.f3 rfl rfl rfl rfl rfl rfl rfl ⟨rfl, rfl, rfl, rfl, rfl⟩ rfl rfl rfl rfl rfl (by kernel_rfl) Try.func3 (by kernel_rfl)
    (of_decide_eq_true (by kernel_rfl)) (by unfold Func.isWrapper; first | (rw [if_pos (by decide +kernel)]; kernel_rfl) | (rw [if_neg (by decide +kernel)]; exact ⟨rfl, rfl⟩))
    (fun os started H enc _ => lifted os started H enc)
theorem proved : Rows.SpreadAllSaid := over
#print axioms proved
end Go.Proofs.Ytlconnmfceabiaa.spreadAll
namespace Go.Proofs.Ytlconnmfceabiaa
/-- The row, under a short name, for the claim. -/
theorem spreadAll_holds : Rows.SpreadAllSaid := spreadAll.proved
end Go.Proofs.Ytlconnmfceabiaa
