/- Part B2 of what the layer's laws stand on: PAx11, PAx12, PAx13, PAx15, PAx18, PAx19, PAx2, PAx3, PAx4, Sp, Zm, Tc, Sq, Um, Us, Tb, PAx5, PAx6. Written by a program (merge.py) out of this session's own texts and of what the kit's print wrote over stand-ins (sp.py). Conditions: those that each theorem names. -/
import Derived.Test.YtlconnmfceabiaaQB1
import Derived.WalkKit
import Derived.Lib.BitFns
-- ---- PAx11

namespace Go.Proofs.Ytlconnmfceabiaa.PA
open Go.RowKit Go.Proofs.YtlconnmfceabiaaW.PrintWords Go.Proofs.YtlconnmfceabiaaW.PrintLast Go.Proofs.YtlconnmfceabiaaW.PrintMore
attribute [local go_sem] max2_int min2_int max_two min_two max_three min_three max_four min_four   -- for this text's walks alone
set_option linter.unusedVariables false
set_option linter.unusedSimpArgs false

/-! ### wringerref7_Table: function 12 -/
mutual
def wringerref7_Table.l0 : Nat → Int → List Int → List (S45) → Int → List Int → Int → Option ((List (S45)) × Int)
  | 0, _, _, _, _, _, _ => none
  | k + 1, x1, x6, x7, x8, x144000, x144001 => if x8 < (x144000.length : Int) then (if 0 ≤ x8 then (if 0 ≤ (rd x144000 x8) then (if (rd x144000 x8) < (x6.length : Int) then (wringerref7_Table.l1 k x1 (x6.set ((rd x144000 x8) : Int).toNat (wrap64 ((rd x6 (rd x144000 x8)) + 1))) x7 x8 (rd x6 (rd x144000 x8)) x1 x144000 x144001) else (none)) else (none)) else (none)) else (some (x7, 0))
def wringerref7_Table.l1 : Nat → Int → List Int → List (S45) → Int → Int → Int → List Int → Int → Option ((List (S45)) × Int)
  | 0, _, _, _, _, _, _, _, _ => none
  | k + 1, x1, x6, x7, x8, x9, x10, x144000, x144001 => if 0 ≤ (wrap64 ((wrap64 (x1 - x10)) + 1)) then (if (shr .i64 x9 (wrap64 ((wrap64 (x1 - x10)) + 1))) > 0 then (wringerref7_Table.l1 k x1 x6 x7 x8 x9 (wrap64 (x10 - 1)) x144000 x144001) else (if 0 ≤ x8 then (if x8 < (x144000.length : Int) then (if 0 ≤ x10 then (if 0 ≤ x1 then (if x7.length < 5864062014805 then (wringerref7_Table.l0 k x1 x6 (x7 ++ [(⟨rd x144000 x8, x10, wrap64 ((shl .i64 x9 x10) - (shl .i64 1 x1))⟩ : S45)]) (wrap64 (x8 + 1)) x144000 x144001) else (none)) else (none)) else (none)) else (none)) else (none))) else (none)
end
def wringerref7_Table.f (k : Nat) (l0 : List Int) (a1 : Int) : Option ((List (S45)) × Int) := (wringerref7_Spread.f k l0 a1).bind fun bt139 => (if bt139.2 = 0 then ((some (([] : List Int) : List Int)).bind fun y144 => (if y144.length + l0.length < 17592186044416 then (wringerref7_Table.l0 k a1 (y144 ++ l0) ([] : List (S45)) 0 bt139.1 bt139.2) else (none))) else (some (([] : List (S45)), bt139.2)))
theorem wringerref7_Table.mono_l : ∀ k, (∀ y0 y1 y2 y3 y4 y5, LeO (wringerref7_Table.l0 k y0 y1 y2 y3 y4 y5) (wringerref7_Table.l0 (k + 1) y0 y1 y2 y3 y4 y5)) ∧ (∀ y0 y1 y2 y3 y4 y5 y6 y7, LeO (wringerref7_Table.l1 k y0 y1 y2 y3 y4 y5 y6 y7) (wringerref7_Table.l1 (k + 1) y0 y1 y2 y3 y4 y5 y6 y7))
  | 0 => ⟨fun _ _ _ _ _ _ r h => by simp [wringerref7_Table.l0] at h, fun _ _ _ _ _ _ _ _ r h => by simp [wringerref7_Table.l1] at h⟩
  | k + 1 => by
    obtain ⟨ih0, ih1⟩ := wringerref7_Table.mono_l k
    refine ⟨?_, ?_⟩
    · intro y0 y1 y2 y3 y4 y5
      unfold wringerref7_Table.l0
      repeat' first
      | (with_reducible exact ih0 _ _ _ _ _ _)
      | (with_reducible exact ih1 _ _ _ _ _ _ _ _)
      | (with_reducible exact wringerref7_Spread.mono _ _ _)
      | (with_reducible exact LeO.refl _)
      | (with_reducible exact LeO.none _)
      | (with_reducible refine LeO.ite ?_ ?_)
      | (with_reducible refine LeO.bind ?_ (fun _ => ?_))
      | exact ih0 _ _ _ _ _ _
      | exact ih1 _ _ _ _ _ _ _ _
      | exact wringerref7_Spread.mono _ _ _
      | exact LeO.none _
      | refine LeO.ite ?_ ?_
      | refine LeO.bind ?_ (fun _ => ?_)
    · intro y0 y1 y2 y3 y4 y5 y6 y7
      unfold wringerref7_Table.l1
      repeat' first
      | (with_reducible exact ih0 _ _ _ _ _ _)
      | (with_reducible exact ih1 _ _ _ _ _ _ _ _)
      | (with_reducible exact wringerref7_Spread.mono _ _ _)
      | (with_reducible exact LeO.refl _)
      | (with_reducible exact LeO.none _)
      | (with_reducible refine LeO.ite ?_ ?_)
      | (with_reducible refine LeO.bind ?_ (fun _ => ?_))
      | exact ih0 _ _ _ _ _ _
      | exact ih1 _ _ _ _ _ _ _ _
      | exact wringerref7_Spread.mono _ _ _
      | exact LeO.none _
      | refine LeO.ite ?_ ?_
      | refine LeO.bind ?_ (fun _ => ?_)
theorem wringerref7_Table.mono : ∀ a0 a1 k, LeO (wringerref7_Table.f k a0 a1) (wringerref7_Table.f (k + 1) a0 a1) := by
  intro a0 a1 k
  obtain ⟨ih0, ih1⟩ := wringerref7_Table.mono_l k
  unfold wringerref7_Table.f
  repeat' first
      | (with_reducible exact ih0 _ _ _ _ _ _)
      | (with_reducible exact ih1 _ _ _ _ _ _ _ _)
      | (with_reducible exact wringerref7_Spread.mono _ _ _)
      | (with_reducible exact LeO.refl _)
      | (with_reducible exact LeO.none _)
      | (with_reducible refine LeO.ite ?_ ?_)
      | (with_reducible refine LeO.bind ?_ (fun _ => ?_))
      | exact ih0 _ _ _ _ _ _
      | exact ih1 _ _ _ _ _ _ _ _
      | exact wringerref7_Spread.mono _ _ _
      | exact LeO.none _
      | refine LeO.ite ?_ ?_
      | refine LeO.bind ?_ (fun _ => ?_)
def wringerref7_Table.T14 : Bool × List (List Nat × List Nat) := (true, [([], []), ([], []), ([1], [1]), ([], []), ([2, 3], [2, 3]), ([4], [4]), ([], []), ([], []), ([], []), ([7, 8], [7, 8]), ([], []), ([10], [10]), ([9, 11], [9, 11]), ([5, 6, 12], [5, 6, 12]), ([13], [13]), ([0, 14], [0, 14]), ([15, 15, 0, 1, 2, 3, 4, 5, 6, 7, 8, 9, 10, 11, 12, 13, 14, 15], [0, 15])])
def wringerref7_Table.B14 : List Nat := [0, 0, 2, 0, 14, 30, 0, 0, 0, 384, 0, 1024, 3968, 8190, 16382, 32767, 65535]
theorem wringerref7_Table.tab14 : rtab .any (opsOf Try.f12 14) = wringerref7_Table.T14 := by kernel_rfl
theorem wringerref7_Table.bits14 : waitsOk wringerref7_Table.T14.2 wringerref7_Table.B14 = true := by kernel_rfl
set_option maxHeartbeats 8000000 in
set_option maxRecDepth 100000 in
theorem wringerref7_Table.calls (k : Nat) (A0 : Option Addr) (c0 : Nat) (l0 : List Int) (a1 : Int) (r1 : List (S45)) (r2 : Int) (w : World) (hr0 : Kd.C (Kd.int .i64) w A0 l0.length l0) (hc0 : l0.length ≤ c0) (h : wringerref7_Table.f k l0 a1 = some (r1, r2)) :
    Calls Try.prog 12 #[.slice A0 l0.length c0, .int .i64 a1] w fun e w' => ∃ v0_ : Value, e = .returned (.agg #[v0_, .int .i64 r2]) ∧ Kd.R k45 45 w' w.heap.size (fun _ => True) v0_ r1 ∧ Below w.heap.size w w' := by
  have hu34 := Try.underlying34
  have hu28 := Try.underlying28
  have hu45 := Try.underlying45
  have HR0 := Aside0.mk hr0
  have HC0 := Aside0.mk hc0
  clear hr0 hc0
  have HB := Aside0.mk (Below.refl w.heap.size w)
  have H : ((wringerref7_Spread.f k l0 a1).bind fun bt139 => (if bt139.2 = 0 then ((some (([] : List Int) : List Int)).bind fun y144 => (if y144.length + l0.length < 17592186044416 then (wringerref7_Table.l0 k a1 (y144 ++ l0) ([] : List (S45)) 0 bt139.1 bt139.2) else (none))) else (some (([] : List (S45)), bt139.2)))) = some (r1, r2) := h
  clear h
  replace H := Option.bind_eq_some_iff.mp H
  obtain ⟨⟨t139, t142⟩, A30, H⟩ := H
  replace H : (if t142 = 0 then ((some (([] : List Int) : List Int)).bind fun y144 => (if y144.length + l0.length < 17592186044416 then (wringerref7_Table.l0 k a1 (y144 ++ l0) ([] : List (S45)) 0 t139 t142) else (none))) else (some (([] : List (S45)), t142))) = some (r1, r2) := H
  have A3 := Aside0.mk A30
  clear A30
  by_cases c4 : t142 = 0
  · rw [if_pos c4] at H
    have c4b0 : (t142 == 0) = true := beq_iff_eq.mpr c4
    have c4b1 : (t142 != 0) = false := bne_eq_false_iff_eq.mpr c4
    clear c4
    obtain ⟨y144, hy144⟩ : ∃ y_ : List Int, y_ = (([] : List Int)) := ⟨_, rfl⟩
    replace H : (if y144.length + l0.length < 17592186044416 then (wringerref7_Table.l0 k a1 (y144 ++ l0) ([] : List (S45)) 0 t139 t142) else (none)) = some (r1, r2) := by first | (rw [hy144]; with_reducible exact H) | (have H2_ := (Option.bind_some _ _).symm.trans H; rw [hy144]; with_reducible exact H2_) | (have H2_ := (Option.bind_some _ _).symm.trans H; with_reducible exact H2_) | with_reducible exact H | (rw [hy144]; exact H) | exact H
    have Ny144 := Aside0.mk hy144
    clear hy144
    by_cases c5 : y144.length + l0.length < 17592186044416
    · rw [if_pos c5] at H
      have LMc5 := Aside0.mk c5
      clear c5
      obtain ⟨y147, hy147⟩ : ∃ y_ : List Int, y_ = (y144 ++ l0) := ⟨_, rfl⟩
      replace H : (wringerref7_Table.l0 k a1 y147 ([] : List (S45)) 0 t139 t142) = some (r1, r2) := by first | (rw [hy147]; with_reducible exact H) | (have H2_ := (Option.bind_some _ _).symm.trans H; rw [hy147]; with_reducible exact H2_) | (have H2_ := (Option.bind_some _ _).symm.trans H; with_reducible exact H2_) | with_reducible exact H | (rw [hy147]; exact H) | exact H
      have Ny147 := Aside0.mk hy147
      clear hy147
      have H' := Aside0.mk H
      clear H
      go_enter Try.func12, Try.ntmps12
      go_wp2_with (first | ((with_reducible refine gate_dst (N := 4) rfl ?_); refine box_event ?hg (N := 4) ?hd (cs := #[.slice none 0 0, .int .i64 0]) (t := 34) ?hr ?_; (case hd => rfl); (case hg => rfl); (case hr => first | (go_simp; done) | (go_simp; rfl)); intro gb138 hg w6 hbox hb; have n0_ := Aside0.mk (below_step (by repeat (first | (with_reducible first | exact HB.out | apply below_alloc | apply pw_below_drewN | apply below_drew1) | exact HB.out)) hb); have n1_ := Aside0.mk (hbox); have n2_ := Aside0.mk ((by rw [hg]; exact (below_size (by repeat (first | (with_reducible first | exact HB.out | apply below_alloc | apply pw_below_drewN | apply below_drew1) | exact HB.out))) : w.heap.size ≤ gb138)); have n3_ := Aside0.mk ((by rw [hg]; exact (below_size (by repeat (first | (with_reducible first | exact HB.out | apply below_alloc | apply pw_below_drewN | apply below_drew1) | exact HB.out))) : w.heap.size ≤ gb138)); clear HB; have HB := n0_; have BK138 := n1_; have GW138 := n2_; have GE138 := n3_; clear n0_ n1_ n2_ n3_; clear hb hbox hg) | ((with_reducible refine gate_callee (f := 10) rfl ?_); refine goesL_ (some 13) rfl rfl Try.func10 (by kernel_rfl) rfl #[.slice A0 l0.length c0, .int .i64 a1] rfl (by (try simp only [List.map_toArray, List.map_cons, List.map_nil]); first | done | rfl | (simp only [List.length_drop, List.length_take]; rfl)) ?_; (with_reducible refine (wringerref7_Spread.calls k _ _ l0 a1 t139 t142 _ ?side1 ?side2 A3.out).mono ?_); (case side1 => repeat (first | exact (Kd.C_below HR0.out HB.out) | (with_reducible refine Kd.C_alloc ?_ _) | (with_reducible refine Kd.C_drewN ?_ _) | (with_reducible refine Kd.C_drew ?_))); (case side2 => exact HC0.out); rintro e w7 ⟨v140, rfl, ho0, hb⟩; refine ⟨_, rfl, ?_⟩; have n0_ := Aside0.mk (Kd.R_lower ho0 (below_size (by repeat (first | (with_reducible first | exact HB.out | apply below_alloc | apply pw_below_drewN | apply below_drew1 | refine below_set ?_ GE138.out) | exact HB.out)))); have n1_ := Aside0.mk (blk_below (g := gb138) (o := .cells #[.slice none 0 0, .int .i64 0] 34 (0, 0)) (by (with_reducible repeat (first | refine blk_drewN ?_ _ | refine blk_drew ?_ | refine blk_alloc ?_ _)); exact BK138.out) hb); have n2_ := Aside0.mk (below_step (by repeat (first | (with_reducible first | exact HB.out | apply below_alloc | apply pw_below_drewN | apply below_drew1 | refine below_set ?_ GE138.out) | exact HB.out)) hb); clear BK138; clear HB; have HO141 := n0_; have BK138 := n1_; have HB := n2_; clear n0_ n1_ n2_; (try clear hb); (try clear hb2); (try clear hk); (try clear hi); (try clear ho0)) | ((with_reducible refine gate_dst (N := 5) rfl ?_); refine box_event ?hg (N := 5) ?hd (cs := #[.slice none 0 0, .int .i64 0]) (t := 28) ?hr ?_; (case hd => rfl); (case hg => rfl); (case hr => first | (go_simp; done) | (go_simp; rfl)); intro gb143 hg w8 hbox hb; have n0_ := Aside0.mk (Kd.R_below (by (with_reducible repeat (first | apply Kd.R_alloc | apply Kd.R_drewN | apply Kd.R_drew)); exact HO141.out) hb); have n1_ := Aside0.mk (blk_below (g := gb138) (o := .cells #[.slice none 0 0, .int .i64 0] 34 (0, 0)) (by (with_reducible repeat (first | refine blk_drewN ?_ _ | refine blk_drew ?_ | refine blk_alloc ?_ _)); exact BK138.out) hb); have n2_ := Aside0.mk (below_step (by repeat (first | (with_reducible first | exact HB.out | apply below_alloc | apply pw_below_drewN | apply below_drew1 | refine below_set ?_ GE138.out) | exact HB.out)) hb); have n3_ := Aside0.mk (hbox); have n4_ := Aside0.mk ((by rw [hg]; exact (below_size (by repeat (first | (with_reducible first | exact HB.out | apply below_alloc | apply pw_below_drewN | apply below_drew1 | refine below_set ?_ GE138.out) | exact HB.out))) : w.heap.size ≤ gb143)); have n5_ := Aside0.mk ((by rw [hg]; exact (below_size (by repeat (first | (with_reducible first | exact HB.out | apply below_alloc | apply pw_below_drewN | apply below_drew1 | refine below_set ?_ GE138.out) | exact HB.out))) : w.heap.size ≤ gb143)); have n6_ := Aside0.mk ((by rw [hg]; exact Nat.ne_of_lt (blk_lt (g := gb138) (o := .cells #[.slice none 0 0, .int .i64 0] 34 (0, 0)) (by (with_reducible repeat (first | refine blk_drewN ?_ _ | refine blk_drew ?_ | refine blk_alloc ?_ _)); exact BK138.out)) : gb138 ≠ gb143)); have n7_ := Aside0.mk ((by rw [hg]; exact Nat.ne_of_gt (blk_lt (g := gb138) (o := .cells #[.slice none 0 0, .int .i64 0] 34 (0, 0)) (by (with_reducible repeat (first | refine blk_drewN ?_ _ | refine blk_drew ?_ | refine blk_alloc ?_ _)); exact BK138.out)) : gb143 ≠ gb138)); clear HO141; clear BK138; clear HB; have HO141 := n0_; have BK138 := n1_; have HB := n2_; have BK143 := n3_; have GW143 := n4_; have GE143 := n5_; have NB138_143 := n6_; have NB143_138 := n7_; clear n0_ n1_ n2_ n3_ n4_ n5_ n6_ n7_; clear hb hbox hg; obtain ⟨Ao9, co9, eo9⟩ := Kd.R_slice HO141.out; subst eo9; have hnb10 := NB143_138.out; have hnc10 := NB138_143.out; have hcz11_0 : w8.cell? ⟨gb143, 0, none⟩ = some (.slice none 0 0) := (blk_cell BK143.out 0).trans rfl; have hcz11_1 : w8.cell? ⟨gb143, 1, none⟩ = some (.int .i64 0) := (blk_cell BK143.out 1).trans rfl; have hfz11_0 := blk_frozen BK143.out 0; have hfz11_1 := blk_frozen BK143.out 1) | ((with_reducible refine gate_dst (N := 20) rfl ?_); refine Kd.R_lit (Kd.int .i64) _ 3 ?hg (N := 20) ?hd (xs := ([] : List Int)) (inner := []) (ok := fun _ => True) (okp := fun _ => True) ?hr ?hp (fun _ hk => hk) trivial (Below.refl _ _) (Nat.le_refl _) (by simp) ?_; (case hd => rfl); (case hg => rfl); (case hr => first | (go_simp; done) | (go_simp; rfl)); (case hp => exact (Reps.none _ _)); intro v145 w12 ho13 hb hg_ hnew_; clear hg_ hnew_; (first | rw [← Ny144.out] at ho13 | (simp only [Int.reduceToNat] at ho13; rw [← Ny144.out] at ho13)); have n0_ := Aside0.mk (Kd.R_elder' (by (with_reducible repeat (first | apply Kd.R_alloc | apply Kd.R_drewN | apply Kd.R_drew)); exact (Kd.R_mono (Kd.R_far (p := ⟨gb143, 1, none⟩) (Kd.R_far (p := ⟨gb143, 0, none⟩) (Kd.R_types HO141.out BK143.out (by decide)) (fun _ hk => hk.2) (.slice Ao9 t139.length co9)) (fun _ hk => hk.2) (.int .i64 t142)) (fun _ h_ => h_.1))) (Kd.R_base ho13) hb); have n1_ := Aside0.mk (Kd.R_lower (Kd.R_new' ho13 (Kd.R_lt (by (with_reducible repeat (first | apply Kd.R_alloc | apply Kd.R_drewN | apply Kd.R_drew)); exact (Kd.R_mono (Kd.R_far (p := ⟨gb143, 1, none⟩) (Kd.R_far (p := ⟨gb143, 0, none⟩) (Kd.R_types HO141.out BK143.out (by decide)) (fun _ hk => hk.2) (.slice Ao9 t139.length co9)) (fun _ hk => hk.2) (.int .i64 t142)) (fun _ h_ => h_.1))))) (below_size (by repeat (first | (with_reducible first | exact HB.out | apply below_alloc | apply pw_below_drewN | apply below_drew1 | refine below_set ?_ GE138.out | refine below_set ?_ GE143.out) | exact HB.out)))); have n2_ := Aside0.mk (blk_below (g := gb138) (o := .cells #[.slice none 0 0, .int .i64 0] 34 (0, 0)) (by (with_reducible repeat (first | refine blk_drewN ?_ _ | refine blk_drew ?_ | refine blk_alloc ?_ _)); refine blk_far ?_ NB138_143.out _; (with_reducible repeat (first | refine blk_drewN ?_ _ | refine blk_drew ?_ | refine blk_alloc ?_ _)); refine blk_far ?_ NB138_143.out _; (with_reducible repeat (first | refine blk_drewN ?_ _ | refine blk_drew ?_ | refine blk_alloc ?_ _)); exact BK138.out) hb); have n3_ := Aside0.mk (blk_below (g := gb143) (o := .cells #[.slice Ao9 t139.length co9, .int .i64 t142] 28 (0, 0)) (by (with_reducible repeat (first | refine blk_drewN ?_ _ | refine blk_drew ?_ | refine blk_alloc ?_ _)); refine blk_put (cs := #[.slice Ao9 t139.length co9, .int .i64 0]) ?_ 1 _ rfl; (with_reducible repeat (first | refine blk_drewN ?_ _ | refine blk_drew ?_ | refine blk_alloc ?_ _)); refine blk_put (cs := #[.slice none 0 0, .int .i64 0]) ?_ 0 _ rfl; (with_reducible repeat (first | refine blk_drewN ?_ _ | refine blk_drew ?_ | refine blk_alloc ?_ _)); exact BK143.out) hb); have n4_ := Aside0.mk (below_step (by repeat (first | (with_reducible first | exact HB.out | apply below_alloc | apply pw_below_drewN | apply below_drew1 | refine below_set ?_ GE138.out | refine below_set ?_ GE143.out) | exact HB.out)) hb); clear HO141; clear BK138; clear BK143; clear HB; have HO141 := n0_; have HO146 := n1_; have BK138 := n2_; have BK143 := n3_; have HB := n4_; clear n0_ n1_ n2_ n3_ n4_; clear hb ho13) | ((with_reducible refine gate_builtin (b := .append) (xs := #[.tmp 20, .tmp 21]) rfl ?_); at_builtin; refine Kd.R_append_rows (Kd.int .i64) (w0 := w) w.heap.size rfl (.tmp 20) (.tmp 21) 22 3 (.int .i64 0) 8 rfl Try.underlying22 info3 rfl (by decide) (by omega) v145 y144 l0 _ _ _ (fun k_ => some k_ ≠ (.slice Ao9 t139.length co9 : Value).ownBlock) (fun _ => False) rfl rfl ?aO ?aR (fun _ _ h => h) (fun _ h => h.elim) ?aF ?aB ?aS ?aL ?_; (case aR => repeat (first | exact (Kd.C_below HR0.out HB.out) | (with_reducible refine Kd.C_alloc ?_ _) | (with_reducible refine Kd.C_drewN ?_ _) | (with_reducible refine Kd.C_drew ?_))); (case aB => exact (by repeat (first | (with_reducible first | exact HB.out | apply below_alloc | apply pw_below_drewN | apply below_drew1 | refine below_set ?_ GE138.out | refine below_set ?_ GE143.out) | exact HB.out))); (case aF => exact (fun k_ hk => Kd.fresh' (Kd.R_lt (by (with_reducible repeat (first | apply Kd.R_alloc | apply Kd.R_drewN | apply Kd.R_drew)); exact HO141.out)) k_ hk)); (case aO => exact (by (with_reducible repeat (first | apply Kd.R_alloc | apply Kd.R_drewN | apply Kd.R_drew)); exact Kd.R_mono HO146.out (fun _ hk => hk.2))); (case aS => exact (below_size (by repeat (first | (with_reducible first | exact HB.out | apply below_alloc | apply pw_below_drewN | apply below_drew1 | refine below_set ?_ GE138.out | refine below_set ?_ GE143.out) | exact HB.out)))); (case aL => have := LMc5.out; omega); intro v148 w14 ho hb hg hat; rw [← Ny147.out] at ho; have n0_ := Aside0.mk (blk_grown (g := gb138) (o := .cells #[.slice none 0 0, .int .i64 0] 34 (0, 0)) (by (with_reducible repeat (first | refine blk_drewN ?_ _ | refine blk_drew ?_ | refine blk_alloc ?_ _)); exact BK138.out) hg (Kd.R_ne HO146.out BK138.out (by decide))); have n1_ := Aside0.mk (Kd.R_after (ok := (fun _ => True)) (by (with_reducible repeat (first | apply Kd.R_alloc | apply Kd.R_drewN | apply Kd.R_drew)); exact HO141.out) hg hat); have n2_ := Aside0.mk (blk_grown (g := gb143) (o := .cells #[.slice Ao9 t139.length co9, .int .i64 t142] 28 (0, 0)) (by (with_reducible repeat (first | refine blk_drewN ?_ _ | refine blk_drew ?_ | refine blk_alloc ?_ _)); exact BK143.out) hg (Kd.R_ne HO146.out BK143.out (by decide))); have n3_ := Aside0.mk (hb); have n4_ := Aside0.mk (ho); clear BK138; clear HO141; clear BK143; clear HB; clear HO146; have BK138 := n0_; have HO141 := n1_; have BK143 := n2_; have HB := n3_; have HO149 := n4_; clear n0_ n1_ n2_ n3_ n4_; clear ho hb hg hat))
      go_loopg [7, 8] k (fun kq v7 v8 w' => ∃ (x6_1 : List Int) (x7_1 : List (S45)) (x8_1 : Int), v8 = .int .i64 x8_1 ∧ Aside0 (wringerref7_Table.l0 kq a1 x6_1 x7_1 x8_1 t139 t142 = some (r1, r2)) ∧ Aside0 (kq ≤ k) ∧ Aside0 (Kd.R (Kd.int .i64) 3 w' w.heap.size (fun k_ => some k_ ≠ ((.slice Ao9 t139.length co9) : Value).ownBlock) v148 x6_1) ∧ Aside0 (Kd.R k45 45 w' w.heap.size (fun _ => True) v7 x7_1) ∧ Aside0 (Kd.R (Kd.int .i64) 3 w' w.heap.size (fun k_ => some k_ ≠ (v148 : Value).ownBlock) (.slice Ao9 t139.length co9) t139) ∧ Aside0 (w'.heap[gb138]? = some (.cells #[(.slice none 0 0), .int .i64 0] 34 (0, 0))) ∧ Aside0 (w'.heap[gb143]? = some (.cells #[(.slice Ao9 t139.length co9), .int .i64 t142] 28 (0, 0))) ∧ Aside0 (Below w.heap.size w w'))
      case atStart => exact ⟨(y147), (([] : List (S45))), (0), (by first | rfl | (simp; done) | (simp [*]; done)), H', ⟨Nat.le_refl _⟩, ⟨by (with_reducible repeat (first | apply Kd.R_alloc | apply Kd.R_drewN | apply Kd.R_drew)); exact HO149.out⟩, ⟨by first | exact Kd.R_nil _ _ _ _ _ | exact Kd.N_nil _ _ _ _ _ | exact Kd.V_nil _ _ _ _ _ | exact Kd.Q_nil _ _ _ _ _ | exact Kd.S_nil _ _ _ _ _⟩, ⟨by (with_reducible repeat (first | apply Kd.R_alloc | apply Kd.R_drewN | apply Kd.R_drew)); exact Kd.R_mono HO141.out (fun _ hk => hk.2)⟩, ⟨by (with_reducible repeat (first | refine blk_drewN ?_ _ | refine blk_drew ?_ | refine blk_alloc ?_ _)); exact BK138.out⟩, ⟨by (with_reducible repeat (first | refine blk_drewN ?_ _ | refine blk_drew ?_ | refine blk_alloc ?_ _)); exact BK143.out⟩, ⟨by repeat (first | (with_reducible first | exact HB.out | apply below_alloc | apply pw_below_drewN | apply below_drew1 | refine below_set ?_ GE138.out | refine below_set ?_ GE143.out) | exact HB.out)⟩⟩
      case round =>
        clear H'
        try clear c1
        try clear p2
        try clear c4
        try clear c4b0
        try clear c4b1
        try clear c5
        try clear c10
        try clear c12
        try clear hcz11_0
        try clear hcz11_1
        try clear hfz11_0
        try clear hfz11_1
        obtain ⟨x6_1, x7_1, x8_1, rfl, HA, HK1, HO_6, HO_7, HO_144000, BK138, BK143, HB⟩ := hrel
        cases gk with
        | zero => exact absurd HA.out (by simp [wringerref7_Table.l0])
        | succ k1 =>
          have H := HA.out
          clear HA
          simp only [wringerref7_Table.l0] at H
          by_cases c15 : x8_1 < (t139.length : Int)
          · rw [if_pos c15] at H
            have c15b0 : decide (x8_1 < (t139.length : Int)) = true := decide_eq_true c15
            clear c15
            by_cases c16 : 0 ≤ x8_1
            · rw [if_pos c16] at H
              have c16b0 : decide (0 ≤ x8_1) = true := decide_eq_true c16
              clear c16
              by_cases c17 : 0 ≤ (rd t139 x8_1)
              · rw [if_pos c17] at H
                have c17b0 : decide (0 ≤ (rd t139 x8_1)) = true := decide_eq_true c17
                clear c17
                by_cases c18 : (rd t139 x8_1) < (x6_1.length : Int)
                · rw [if_pos c18] at H
                  have c18b0 : decide ((rd t139 x8_1) < (x6_1.length : Int)) = true := decide_eq_true c18
                  clear c18
                  obtain ⟨y154, hy154⟩ : ∃ y_ : List Int, y_ = (x6_1.set ((rd t139 x8_1) : Int).toNat (wrap64 ((rd x6_1 (rd t139 x8_1)) + 1))) := ⟨_, rfl⟩
                  replace H : (wringerref7_Table.l1 k1 a1 y154 x7_1 x8_1 (rd x6_1 (rd t139 x8_1)) a1 t139 t142) = some (r1, r2) := by first | (rw [hy154]; with_reducible exact H) | (have H2_ := (Option.bind_some _ _).symm.trans H; rw [hy154]; with_reducible exact H2_) | (have H2_ := (Option.bind_some _ _).symm.trans H; with_reducible exact H2_) | with_reducible exact H | (rw [hy154]; exact H) | exact H
                  have Ny154 := Aside0.mk hy154
                  clear hy154
                  have H' := Aside0.mk H
                  clear H
                  have hnb20 := NB143_138.out
                  have hnc20 := NB138_143.out
                  have hcz21_0 : wr.cell? ⟨gb143, 0, none⟩ = some (.slice Ao9 t139.length co9) := (blk_cell BK143.out 0).trans rfl
                  have hcz21_1 : wr.cell? ⟨gb143, 1, none⟩ = some (.int .i64 t142) := (blk_cell BK143.out 1).trans rfl
                  have hfz21_0 := blk_frozen BK143.out 0
                  have hfz21_1 := blk_frozen BK143.out 1
                  have p150 : 0 ≤ (x8_1 : Int) := of_decide_eq_true (by first | (with_reducible assumption) | assumption)
                  have q150 : x8_1 < (t139.length : Int) := of_decide_eq_true (by first | (with_reducible assumption) | assumption)
                  obtain ⟨ad150, e150, hx150_0⟩ := Kd.at_int (Kd.R_reads' HO_144000.out).2.2 x8_1 p150 q150
                  cases e150
                  replace p150 := eq_true p150
                  replace q150 := eq_true q150
                  obtain ⟨Ao22, co22, eo22⟩ := Kd.R_slice HO_6.out
                  subst eo22
                  have p151 : 0 ≤ ((rd t139 x8_1) : Int) := of_decide_eq_true (by first | (with_reducible assumption) | assumption)
                  have q151 : (rd t139 x8_1) < (x6_1.length : Int) := of_decide_eq_true (by first | (with_reducible assumption) | assumption)
                  obtain ⟨ad151, e151, hx151_0⟩ := Kd.at_int (Kd.R_reads' HO_6.out).2.2 (rd t139 x8_1) p151 q151
                  cases e151
                  replace p151 := eq_true p151
                  replace q151 := eq_true q151
                  have p152 : 0 ≤ (x8_1 : Int) := of_decide_eq_true (by first | (with_reducible assumption) | assumption)
                  have q152 : x8_1 < (t139.length : Int) := of_decide_eq_true (by first | (with_reducible assumption) | assumption)
                  obtain ⟨ad152, e152, hx152_0⟩ := Kd.at_int (Kd.R_reads' HO_144000.out).2.2 x8_1 p152 q152
                  obtain rfl : ad150 = ad152 := (by injection e152)
                  replace p152 := eq_true p152
                  replace q152 := eq_true q152
                  have p153 : 0 ≤ ((rd t139 x8_1) : Int) := of_decide_eq_true (by first | (with_reducible assumption) | assumption)
                  have q153 : (rd t139 x8_1) < (x6_1.length : Int) := of_decide_eq_true (by first | (with_reducible assumption) | assumption)
                  obtain ⟨ad153, e153, hx153_0⟩ := Kd.at_int (Kd.R_reads' HO_6.out).2.2 (rd t139 x8_1) p153 q153
                  obtain rfl : ad151 = ad153 := (by injection e153)
                  replace p153 := eq_true p153
                  replace q153 := eq_true q153
                  have p19 : 0 ≤ ((rd t139 x8_1) : Int) := of_decide_eq_true (by first | (with_reducible assumption) | assumption)
                  have q19 : ((rd t139 x8_1) : Int) < ((x6_1.length : Int) : Int) := of_decide_eq_true (by first | (with_reducible assumption) | assumption)
                  obtain ⟨go19, co19, eo19, gb19, gl19, cl19, HG19⟩ := Kd.R_form HO_6.out (by omega)
                  (first | cases eo19 | (injection eo19 with ea_ en_ ec_; (first | subst ea_ | (injection ea_ with ea_; subst ea_)); subst ec_; clear en_))
                  have GB19 := Aside0.mk gb19
                  have GG19 := Aside0.mk HG19
                  clear gb19 gl19 HG19
                  (first | simp only [add_plain] at hx151_0 | skip)
                  (first | simp only [add_plain] at hx153_0 | skip)
                  obtain ⟨hx19_0, hf19_0⟩ := Kd.R_celln 0 HO_6.out ((rd t139 x8_1) : Int) p19 q19
                  replace p19 := eq_true p19
                  replace q19 := eq_true q19
                  have HP23 := Kd.R_putg HO_6.out ((rd t139 x8_1) : Int) (wrap64 ((rd x6_1 (rd t139 x8_1)) + 1))
                  go_wp2_with (first | ((with_reducible refine gate_store (t := 3) (p := 47) rfl ?_); refine store_event (t := 3) (p := 47) (v := ?vo_w24) (w1 := (wr.setCell ⟨go19, ((rd t139 x8_1) : Int).toNat, none⟩ (.int .i64 (wrap64 ((rd x6_1 (rd t139 x8_1)) + 1))))) ?hg ?ho ?hn ?hr ?_; (case ho => rfl); (case hg => rfl); (case hn => rfl); (case hr => first | (go_simp; done) | (go_simp; rfl)); intro w24 hw; have hg : wr.grownBy w24 (some go19) := (by rw [hw]; exact HP23.2); have hp_ : Kd.R (Kd.int .i64) 3 w24 w.heap.size (fun k_ => some k_ ≠ (.slice (some ad150) t139.length co9 : Value).ownBlock) (.slice (some ⟨go19, 0, none⟩) x6_1.length co22) y154 := (by rw [hw, Ny154.out]; exact HP23.1); clear HP23; have n0_ := Aside0.mk (hp_); have n1_ := Aside0.mk (Kd.R_over' (v := (.slice (some ⟨go19, 0, none⟩) x6_1.length co22)) (by (with_reducible repeat (first | apply Kd.R_alloc | apply Kd.R_drewN | apply Kd.R_drew)); exact HO_7.out) (Kd.R_typed HO_6.out) (by decide) hg); have n2_ := Aside0.mk (Kd.R_after (v := (.slice (some ⟨go19, 0, none⟩) x6_1.length co22)) (v1 := (.slice (some ⟨go19, 0, none⟩) x6_1.length co22)) (ok := (fun _ => True)) (by (with_reducible repeat (first | apply Kd.R_alloc | apply Kd.R_drewN | apply Kd.R_drew)); exact Kd.R_mono HO_144000.out (fun _ hk => ⟨trivial, hk⟩)) hg (.inl rfl)); have n3_ := Aside0.mk (blk_grown (g := gb138) (o := .cells #[.slice none 0 0, .int .i64 0] 34 (0, 0)) (by (with_reducible repeat (first | refine blk_drewN ?_ _ | refine blk_drew ?_ | refine blk_alloc ?_ _)); exact BK138.out) hg (Kd.R_ne HO_6.out BK138.out (by decide))); have n4_ := Aside0.mk (blk_grown (g := gb143) (o := .cells #[.slice (some ad150) t139.length co9, .int .i64 t142] 28 (0, 0)) (by (with_reducible repeat (first | refine blk_drewN ?_ _ | refine blk_drew ?_ | refine blk_alloc ?_ _)); exact BK143.out) hg (Kd.R_ne HO_6.out BK143.out (by decide))); have n5_ := Aside0.mk ((by rw [hw]; exact below_set (HB.out) GB19.out : Below w.heap.size w w24)); clear HO_6; clear HO_7; clear HO_144000; clear BK138; clear BK143; clear HB; have HO_6 := n0_; have HO_7 := n1_; have HO_144000 := n2_; have BK138 := n3_; have BK143 := n4_; have HB := n5_; clear n0_ n1_ n2_ n3_ n4_ n5_; clear hg hw hp_))
                  go_loopg [10] k1 (fun kq v10 w' => ∃ (x10_2 : Int), v10 = .int .i64 x10_2 ∧ Aside0 (wringerref7_Table.l1 kq a1 y154 x7_1 x8_1 (rd x6_1 (rd t139 x8_1)) x10_2 t139 t142 = some (r1, r2)) ∧ Aside0 (kq ≤ k1) ∧ Aside0 (Kd.R (Kd.int .i64) 3 w' w.heap.size (fun k_ => some k_ ≠ ((.slice (some ad150) t139.length co9) : Value).ownBlock) (.slice (some ⟨go19, 0, none⟩) x6_1.length co22) y154) ∧ Aside0 (Kd.R k45 45 w' w.heap.size (fun _ => True) u7 x7_1) ∧ Aside0 (Kd.R (Kd.int .i64) 3 w' w.heap.size (fun k_ => some k_ ≠ ((.slice (some ⟨go19, 0, none⟩) x6_1.length co22) : Value).ownBlock) (.slice (some ad150) t139.length co9) t139) ∧ Aside0 (w'.heap[gb138]? = some (.cells #[(.slice none 0 0), .int .i64 0] 34 (0, 0))) ∧ Aside0 (w'.heap[gb143]? = some (.cells #[(.slice (some ad150) t139.length co9), .int .i64 t142] 28 (0, 0))) ∧ Aside0 (Below w.heap.size w w'))
                  case atStart => exact ⟨(a1), (by first | rfl | (simp; done) | (simp [*]; done)), H', ⟨Nat.le_refl _⟩, ⟨by (with_reducible repeat (first | apply Kd.R_alloc | apply Kd.R_drewN | apply Kd.R_drew)); exact HO_6.out⟩, ⟨by (with_reducible repeat (first | apply Kd.R_alloc | apply Kd.R_drewN | apply Kd.R_drew)); exact HO_7.out⟩, ⟨by (with_reducible repeat (first | apply Kd.R_alloc | apply Kd.R_drewN | apply Kd.R_drew)); exact Kd.R_mono HO_144000.out (fun _ hk => hk.2)⟩, ⟨by (with_reducible repeat (first | refine blk_drewN ?_ _ | refine blk_drew ?_ | refine blk_alloc ?_ _)); exact BK138.out⟩, ⟨by (with_reducible repeat (first | refine blk_drewN ?_ _ | refine blk_drew ?_ | refine blk_alloc ?_ _)); exact BK143.out⟩, ⟨by repeat (first | (with_reducible first | exact HB.out | apply below_alloc | apply pw_below_drewN | apply below_drew1 | refine below_set ?_ GE138.out | refine below_set ?_ GE143.out) | exact HB.out)⟩⟩
                  case round =>
                    clear H'
                    try clear c1
                    try clear p1
                    try clear q1
                    try clear hx1
                    try clear c2
                    try clear p2
                    try clear c4
                    try clear c4b0
                    try clear c4b1
                    try clear c5
                    try clear p6
                    try clear c10
                    try clear c12
                    try clear c15
                    try clear c15b0
                    try clear p15
                    try clear q15
                    try clear hx15
                    try clear c16
                    try clear c16b0
                    try clear c17
                    try clear c17b0
                    try clear c18
                    try clear c18b0
                    try clear p19
                    try clear q19
                    try clear hx19
                    try clear hf19
                    try clear c20
                    try clear hcz11_0
                    try clear hcz11_1
                    try clear hcz21_0
                    try clear hcz21_1
                    try clear hfz11_0
                    try clear hfz11_1
                    try clear hfz21_0
                    try clear hfz21_1
                    try clear hx150_0
                    try clear hx151_0
                    try clear hx152_0
                    try clear hx153_0
                    try clear hx19_0
                    try clear p150
                    try clear p151
                    try clear p152
                    try clear p153
                    try clear p19
                    try clear p2
                    try clear q150
                    try clear q151
                    try clear q152
                    try clear q153
                    try clear q19
                    obtain ⟨x10_2, rfl, HA, HK2, HO_6, HO_7, HO_144000, BK138, BK143, HB⟩ := hrel
                    have hl6_2 := (Kd.R_reads' HO_6.out).1
                    rw [hl6_2] at HO_6
                    (try simp only [hl6_2])
                    (try simp only [hl6_2] at BK138)
                    (try simp only [hl6_2] at BK143)
                    (try simp only [hl6_2] at HO_7)
                    (try simp only [hl6_2] at HO_144000)
                    cases gk with
                    | zero => exact absurd HA.out (by simp [wringerref7_Table.l1])
                    | succ k2 =>
                      have H := HA.out
                      clear HA
                      simp only [wringerref7_Table.l1] at H
                      obtain ⟨ji25, hji25⟩ : ∃ j_ : Int, (wrap64 ((wrap64 (a1 - x10_2)) + 1)) = j_ := ⟨_, rfl⟩
                      replace H : (if 0 ≤ (ji25) then (if (shr .i64 (rd x6_1 (rd t139 x8_1)) (ji25)) > 0 then (wringerref7_Table.l1 k2 a1 y154 x7_1 x8_1 (rd x6_1 (rd t139 x8_1)) (wrap64 (x10_2 - 1)) t139 t142) else (if 0 ≤ x8_1 then (if x8_1 < (t139.length : Int) then (if 0 ≤ x10_2 then (if 0 ≤ a1 then (if x7_1.length < 5864062014805 then (wringerref7_Table.l0 k2 a1 y154 (x7_1 ++ [(⟨rd t139 x8_1, x10_2, wrap64 ((shl .i64 (rd x6_1 (rd t139 x8_1)) x10_2) - (shl .i64 1 a1))⟩ : S45)]) (wrap64 (x8_1 + 1)) t139 t142) else (none)) else (none)) else (none)) else (none)) else (none))) else (none)) = some (r1, r2) := by first | (rw [hji25] at H; exact H) | (simp only [hji25] at H ⊢; exact H)
                      have hji25w : (IntKind.i64.wrap ((wrap64 (a1 - x10_2)) + 1)) = ji25 := (i64_w _).trans hji25
                      by_cases c26 : 0 ≤ (ji25)
                      · rw [if_pos c26] at H
                        have c26b0 := eq_true c26
                        have c26b1 : decide (0 ≤ (ji25)) = true := decide_eq_true c26
                        clear c26
                        obtain ⟨ji27, hji27⟩ : ∃ j_ : Int, (shr .i64 (rd x6_1 (rd t139 x8_1)) (ji25)) = j_ := ⟨_, rfl⟩
                        replace H : (if (ji27) > 0 then (wringerref7_Table.l1 k2 a1 y154 x7_1 x8_1 (rd x6_1 (rd t139 x8_1)) (wrap64 (x10_2 - 1)) t139 t142) else (if 0 ≤ x8_1 then (if x8_1 < (t139.length : Int) then (if 0 ≤ x10_2 then (if 0 ≤ a1 then (if x7_1.length < 5864062014805 then (wringerref7_Table.l0 k2 a1 y154 (x7_1 ++ [(⟨rd t139 x8_1, x10_2, wrap64 ((shl .i64 (rd x6_1 (rd t139 x8_1)) x10_2) - (shl .i64 1 a1))⟩ : S45)]) (wrap64 (x8_1 + 1)) t139 t142) else (none)) else (none)) else (none)) else (none)) else (none))) = some (r1, r2) := by first | (rw [hji27] at H; exact H) | (simp only [hji27] at H ⊢; exact H)
                        have hji27_ : ((rd x6_1 (rd t139 x8_1)) / 2 ^ min (ji25).toNat 64) = ji27 := hji27
                        have hji27z : (ji25) ≤ 64 → ((rd x6_1 (rd t139 x8_1)) / 2 ^ (ji25).toNat) = ji27 := shr_small hji27
                        by_cases c28 : (ji27) > 0
                        · rw [if_pos c28] at H
                          have c28b0 : decide (0 < (ji27)) = true := decide_eq_true c28
                          clear c28
                          have H' := Aside0.mk H
                          clear H
                          go_wp2
                          (try simp only [← hl6_2])
                          go_roundg k2
                          case measure => have := HK1.out; have := HK2.out; omega
                          case rel => exact ⟨(wrap64 (x10_2 - 1)), (by first | rfl | (simp; done) | (simp [*]; done)), H', ⟨by have := HK1.out; have := HK2.out; omega⟩, ⟨by (try simp only [hl6_2]); (with_reducible repeat (first | apply Kd.R_alloc | apply Kd.R_drewN | apply Kd.R_drew)); exact HO_6.out⟩, ⟨by (try simp only [hl6_2]); (with_reducible repeat (first | apply Kd.R_alloc | apply Kd.R_drewN | apply Kd.R_drew)); exact HO_7.out⟩, ⟨by (try simp only [hl6_2]); (with_reducible repeat (first | apply Kd.R_alloc | apply Kd.R_drewN | apply Kd.R_drew)); exact HO_144000.out⟩, ⟨by (try simp only [hl6_2]); (with_reducible repeat (first | refine blk_drewN ?_ _ | refine blk_drew ?_ | refine blk_alloc ?_ _)); exact BK138.out⟩, ⟨by (try simp only [hl6_2]); (with_reducible repeat (first | refine blk_drewN ?_ _ | refine blk_drew ?_ | refine blk_alloc ?_ _)); exact BK143.out⟩, ⟨by repeat (first | (with_reducible first | exact HB.out | apply below_alloc | apply pw_below_drewN | apply below_drew1 | refine below_set ?_ GE138.out | refine below_set ?_ GE143.out) | exact HB.out)⟩⟩
                        · rw [if_neg c28] at H
                          have c28b0 : decide (0 < (ji27)) = false := decide_eq_false c28
                          clear c28
                          by_cases c29 : 0 ≤ x8_1
                          · rw [if_pos c29] at H
                            have c29b0 : decide (0 ≤ x8_1) = true := decide_eq_true c29
                            clear c29
                            by_cases c30 : x8_1 < (t139.length : Int)
                            · rw [if_pos c30] at H
                              have c30b0 : decide (x8_1 < (t139.length : Int)) = true := decide_eq_true c30
                              clear c30
                              by_cases c31 : 0 ≤ x10_2
                              · rw [if_pos c31] at H
                                have c31b0 := eq_true c31
                                have c31b1 : decide (0 ≤ x10_2) = true := decide_eq_true c31
                                clear c31
                                obtain ⟨ji32, hji32⟩ : ∃ j_ : Int, (shl .i64 (rd x6_1 (rd t139 x8_1)) x10_2) = j_ := ⟨_, rfl⟩
                                replace H : (if 0 ≤ a1 then (if x7_1.length < 5864062014805 then (wringerref7_Table.l0 k2 a1 y154 (x7_1 ++ [(⟨rd t139 x8_1, x10_2, wrap64 ((ji32) - (shl .i64 1 a1))⟩ : S45)]) (wrap64 (x8_1 + 1)) t139 t142) else (none)) else (none)) = some (r1, r2) := by first | (rw [hji32] at H; exact H) | (simp only [hji32] at H ⊢; exact H)
                                have hji32_ : (IntKind.i64.wrap ((rd x6_1 (rd t139 x8_1)) * 2 ^ min x10_2.toNat 64)) = ji32 := hji32
                                have hji32z : x10_2 ≤ 64 → (IntKind.i64.wrap ((rd x6_1 (rd t139 x8_1)) * 2 ^ x10_2.toNat)) = ji32 := shl_small hji32
                                have hji32y : (wrap64 ((rd x6_1 (rd t139 x8_1)) * 2 ^ min x10_2.toNat 64)) = ji32 := (i64_w _).symm.trans hji32_
                                have hji32x : x10_2 ≤ 64 → (wrap64 ((rd x6_1 (rd t139 x8_1)) * 2 ^ x10_2.toNat)) = ji32 := fun h_ => (i64_w _).symm.trans (hji32z h_)
                                by_cases c33 : 0 ≤ a1
                                · rw [if_pos c33] at H
                                  have c33b0 := eq_true c33
                                  have c33b1 : decide (0 ≤ a1) = true := decide_eq_true c33
                                  clear c33
                                  obtain ⟨ji34, hji34⟩ : ∃ j_ : Int, (shl .i64 1 a1) = j_ := ⟨_, rfl⟩
                                  replace H : (if x7_1.length < 5864062014805 then (wringerref7_Table.l0 k2 a1 y154 (x7_1 ++ [(⟨rd t139 x8_1, x10_2, wrap64 ((ji32) - (ji34))⟩ : S45)]) (wrap64 (x8_1 + 1)) t139 t142) else (none)) = some (r1, r2) := by first | (rw [hji34] at H; exact H) | (simp only [hji34] at H ⊢; exact H)
                                  have hji34_ : (IntKind.i64.wrap (1 * 2 ^ min a1.toNat 64)) = ji34 := hji34
                                  have hji34z : a1 ≤ 64 → (IntKind.i64.wrap (1 * 2 ^ a1.toNat)) = ji34 := shl_small hji34
                                  have hji34u : (IntKind.i64.wrap (2 ^ min a1.toNat 64)) = ji34 := by have h_ := hji34_; rw [Int.one_mul] at h_; exact h_
                                  have hji34v : a1 ≤ 64 → (IntKind.i64.wrap (2 ^ a1.toNat)) = ji34 := fun hle_ => by have h_ := hji34z hle_; rw [Int.one_mul] at h_; exact h_
                                  have hji34y : (wrap64 (1 * 2 ^ min a1.toNat 64)) = ji34 := (i64_w _).symm.trans hji34_
                                  have hji34x : a1 ≤ 64 → (wrap64 (1 * 2 ^ a1.toNat)) = ji34 := fun h_ => (i64_w _).symm.trans (hji34z h_)
                                  by_cases c35 : x7_1.length < 5864062014805
                                  · rw [if_pos c35] at H
                                    have LMc35 := Aside0.mk c35
                                    clear c35
                                    obtain ⟨y156, hy156⟩ : ∃ y_ : List (S45), y_ = (x7_1 ++ [(⟨rd t139 x8_1, x10_2, wrap64 ((ji32) - (ji34))⟩ : S45)]) := ⟨_, rfl⟩
                                    replace H : (wringerref7_Table.l0 k2 a1 y154 y156 (wrap64 (x8_1 + 1)) t139 t142) = some (r1, r2) := by first | (rw [hy156]; with_reducible exact H) | (have H2_ := (Option.bind_some _ _).symm.trans H; rw [hy156]; with_reducible exact H2_) | (have H2_ := (Option.bind_some _ _).symm.trans H; with_reducible exact H2_) | with_reducible exact H | (rw [hy156]; exact H) | exact H
                                    have Ny156 := Aside0.mk hy156
                                    clear hy156
                                    have H' := Aside0.mk H
                                    clear H
                                    try go_wp2
                                    have n0_ := Aside0.mk (Kd.R_drew HO_6.out)
                                    have n1_ := Aside0.mk (Kd.R_drew HO_7.out)
                                    have n2_ := Aside0.mk (Kd.R_drew HO_144000.out)
                                    have n3_ := Aside0.mk (blk_drew BK138.out)
                                    have n4_ := Aside0.mk (blk_drew BK143.out)
                                    have n5_ := Aside0.mk (below_drew1 HB.out)
                                    clear HO_6
                                    clear HO_7
                                    clear HO_144000
                                    clear BK138
                                    clear BK143
                                    clear HB
                                    have HO_6 := n0_
                                    have HO_7 := n1_
                                    have HO_144000 := n2_
                                    have BK138 := n3_
                                    have BK143 := n4_
                                    have HB := n5_
                                    clear n0_ n1_ n2_ n3_ n4_ n5_
                                    have p155 : 0 ≤ (x8_1 : Int) := of_decide_eq_true (by first | (with_reducible assumption) | assumption)
                                    have q155 : x8_1 < (t139.length : Int) := of_decide_eq_true (by first | (with_reducible assumption) | assumption)
                                    obtain ⟨ad155, e155, hx155_0⟩ := Kd.at_int (Kd.R_reads' HO_144000.out).2.2 x8_1 p155 q155
                                    obtain rfl : ad150 = ad155 := (by injection e155)
                                    replace p155 := eq_true p155
                                    replace q155 := eq_true q155
                                    refine start_ (n := 17) (S := fun w' => w'.cell? ⟨gb143, 0, none⟩ = some (.slice (some ad150) t139.length co9) ∧ w'.cell? ⟨gb143, 1, none⟩ = some (.int .i64 t142) ∧ w'.cell? (ad150.add (x8_1).toNat) = some (.int .i64 (rd t139 x8_1))) (ds := [14, 15]) #[false, false, false, false, false, false, false, false, false, false, false, false, false, false, false, false, false] (by kernel_rfl) rfl rfl ⟨(blk_cell BK143.out 0).trans rfl, (blk_cell BK143.out 1).trans rfl, hx155_0⟩ (fun hHeld => ?_); refine with_tabW wringerref7_Table.tab14 wringerref7_Table.bits14 (fun HT_ HW_ => ?_)
                                    generalize wr.drew = w36 at HO_6 HO_7 HO_144000 BK138 BK143 HB hx155_0 hHeld ⊢
                                    refine pure_ (i := 0) (N := some 58) (v := ?_) (a' := ?_) #[true, false, false, false, false, false, false, false, false, false, false, false, false, false, false, false, false] rfl rfl (any_of HT_.out (by kernel_rfl)) (fun _ _ _ h => h) (Or.inl ⟨by rfl, ?_⟩) ?_ ?_
                                    rotate_left
                                    · intro w'
                                      go_simp
                                      with_reducible rfl
                                    rotate_left
                                    · simp only [Act.put, List.setIfInBounds_toArray, List.set_cons_zero, List.set_cons_succ, i64_w, i32_w]
                                      rfl
                                    refine pure_ (i := 1) (N := some 59) (v := ?_) (a' := ?_) #[true, true, false, false, false, false, false, false, false, false, false, false, false, false, false, false, false] rfl rfl (any_of HT_.out (by kernel_rfl)) (fun _ _ _ h => h) (Or.inl ⟨by rfl, ?_⟩) ?_ ?_
                                    rotate_left
                                    · intro w'
                                      go_simp
                                      with_reducible rfl
                                    rotate_left
                                    · simp only [Act.put, List.setIfInBounds_toArray, List.set_cons_zero, List.set_cons_succ, i64_w, i32_w]
                                      rfl
                                    refine pure_ (i := 3) (N := some 61) (v := ?_) (a' := ?_) #[true, true, false, true, false, false, false, false, false, false, false, false, false, false, false, false, false] rfl rfl (any_of HT_.out (by kernel_rfl)) (fun _ _ _ h => h) (Or.inl ⟨by rfl, ?_⟩) ?_ ?_
                                    rotate_left
                                    · intro w'
                                      go_simp
                                      with_reducible rfl
                                    rotate_left
                                    · simp only [Act.put, List.setIfInBounds_toArray, List.set_cons_zero, List.set_cons_succ, i64_w, i32_w]
                                      rfl
                                    refine pure_ (i := 6) (N := some 64) (v := ?_) (a' := ?_) #[true, true, false, true, false, false, true, false, false, false, false, false, false, false, false, false, false] rfl rfl (any_of HT_.out (by kernel_rfl)) (fun _ _ _ h => h) (Or.inl ⟨by rfl, ?_⟩) ?_ ?_
                                    rotate_left
                                    · intro w'
                                      go_simp
                                      with_reducible rfl
                                    rotate_left
                                    · simp only [Act.put, List.setIfInBounds_toArray, List.set_cons_zero, List.set_cons_succ, i64_w, i32_w]
                                      rfl
                                    refine pure_ (i := 7) (N := some 65) (v := ?_) (a' := ?_) #[true, true, false, true, false, false, true, true, false, false, false, false, false, false, false, false, false] rfl rfl (any_of HT_.out (by kernel_rfl)) (fun _ _ _ h => h) (Or.inl ⟨by rfl, ?_⟩) ?_ ?_
                                    rotate_left
                                    · intro w'
                                      go_simp
                                      with_reducible rfl
                                    rotate_left
                                    · simp only [Act.put, List.setIfInBounds_toArray, List.set_cons_zero, List.set_cons_succ, i64_w, i32_w]
                                      rfl
                                    refine pure_ (i := 8) (N := some 66) (v := ?_) (a' := ?_) #[true, true, false, true, false, false, true, true, true, false, false, false, false, false, false, false, false] rfl rfl (any_of HT_.out (by kernel_rfl)) (fun _ _ _ h => h) (Or.inl ⟨by rfl, ?_⟩) ?_ ?_
                                    rotate_left
                                    · intro w'
                                      go_simp
                                      with_reducible rfl
                                    rotate_left
                                    · simp only [Act.put, List.setIfInBounds_toArray, List.set_cons_zero, List.set_cons_succ, i64_w, i32_w]
                                      rfl
                                    refine pure_ (i := 9) (N := some 67) (v := ?_) (a' := ?_) #[true, true, false, true, false, false, true, true, true, true, false, false, false, false, false, false, false] rfl rfl (any_of HT_.out (by kernel_rfl)) (fun _ _ _ h => h) (Or.inl ⟨by rfl, ?_⟩) ?_ ?_
                                    rotate_left
                                    · intro w'
                                      go_simp
                                      with_reducible rfl
                                    rotate_left
                                    · simp only [Act.put, List.setIfInBounds_toArray, List.set_cons_zero, List.set_cons_succ, i64_w, i32_w]
                                      rfl
                                    refine pure_ (i := 10) (N := some 68) (v := ?_) (a' := ?_) #[true, true, false, true, false, false, true, true, true, true, true, false, false, false, false, false, false] rfl rfl (any_of HT_.out (by kernel_rfl)) (fun _ _ _ h => h) (Or.inl ⟨by rfl, ?_⟩) ?_ ?_
                                    rotate_left
                                    · intro w'
                                      go_simp
                                      with_reducible rfl
                                    rotate_left
                                    · simp only [Act.put, List.setIfInBounds_toArray, List.set_cons_zero, List.set_cons_succ, i64_w, i32_w]
                                      rfl
                                    refine pure_ (i := 11) (N := some 69) (v := ?_) (a' := ?_) #[true, true, false, true, false, false, true, true, true, true, true, true, false, false, false, false, false] rfl rfl (any_of HT_.out (by kernel_rfl)) (fun _ _ _ h => h) (Or.inl ⟨by rfl, ?_⟩) ?_ ?_
                                    rotate_left
                                    · intro w'
                                      go_simp
                                      with_reducible rfl
                                    rotate_left
                                    · simp only [Act.put, List.setIfInBounds_toArray, List.set_cons_zero, List.set_cons_succ, i64_w, i32_w]
                                      rfl
                                    refine pure_ (i := 12) (N := some 70) (v := ?_) (a' := ?_) #[true, true, false, true, false, false, true, true, true, true, true, true, true, false, false, false, false] rfl rfl (any_of HT_.out (by kernel_rfl)) (fun _ _ _ h => h) (Or.inl ⟨by rfl, ?_⟩) ?_ ?_
                                    rotate_left
                                    · intro w'
                                      go_simp
                                      with_reducible rfl
                                    rotate_left
                                    · simp only [Act.put, List.setIfInBounds_toArray, List.set_cons_zero, List.set_cons_succ, i64_w, i32_w]
                                      rfl
                                    refine take_ (i := 2) (N := some 60) (v := ?_) (a' := ?_) #[true, true, true, true, false, false, true, true, true, true, true, true, true, false, false, false, false] rfl rfl (take_ofW HT_.out HW_.out (by kernel_rfl)) (fun _ _ _ h => h) (Or.inl ⟨by rfl, ?_⟩) hHeld ?_ ?_
                                    rotate_left
                                    · rintro w' ⟨s0, s1, s2⟩
                                      go_simp
                                      with_reducible rfl
                                    rotate_left
                                    · simp only [Act.put, List.setIfInBounds_toArray, List.set_cons_zero, List.set_cons_succ, i64_w, i32_w]
                                      rfl
                                    refine pure_ (i := 4) (N := some 62) (v := ?_) (a' := ?_) #[true, true, true, true, true, false, true, true, true, true, true, true, true, false, false, false, false] rfl rfl (any_of HT_.out (by kernel_rfl)) (fun _ _ _ h => h) (Or.inl ⟨by rfl, ?_⟩) ?_ ?_
                                    rotate_left
                                    · intro w'
                                      go_simp
                                      with_reducible rfl
                                    rotate_left
                                    · simp only [Act.put, List.setIfInBounds_toArray, List.set_cons_zero, List.set_cons_succ, i64_w, i32_w]
                                      rfl
                                    refine take_ (i := 5) (N := some 63) (v := ?_) (a' := ?_) #[true, true, true, true, true, true, true, true, true, true, true, true, true, false, false, false, false] rfl rfl (take_ofW HT_.out HW_.out (by kernel_rfl)) (fun _ _ _ h => h) (Or.inl ⟨by rfl, ?_⟩) hHeld ?_ ?_
                                    rotate_left
                                    · rintro w' ⟨s0, s1, s2⟩
                                      go_simp
                                      with_reducible rfl
                                    rotate_left
                                    · simp only [Act.put, List.setIfInBounds_toArray, List.set_cons_zero, List.set_cons_succ, i64_w, i32_w]
                                      rfl
                                    refine pure_ (i := 13) (N := some 71) (v := ?_) (a' := ?_) #[true, true, true, true, true, true, true, true, true, true, true, true, true, true, false, false, false] rfl rfl (any_of HT_.out (by kernel_rfl)) (fun _ _ _ h => h) (Or.inl ⟨by rfl, ?_⟩) ?_ ?_
                                    rotate_left
                                    · intro w'
                                      go_simp
                                      with_reducible rfl
                                    rotate_left
                                    · simp only [Act.put, List.setIfInBounds_toArray, List.set_cons_zero, List.set_cons_succ, i64_w, i32_w]
                                      rfl
                                    refine last_ (i := 14) (N := some 72) #[true, true, true, true, true, true, true, true, true, true, true, true, true, true, true, false, false] rfl rfl (one_of HT_.out (by kernel_rfl)) (by decide) (fun K hK => ?_)
                                    refine value_ (w1 := ?_) (v := ?_) (by rfl) rfl ?_ ?_
                                    rotate_left 2
                                    · go_simp
                                      constructor
                                      · rfl
                                      · rfl
                                    refine hK.out _ _ ?_
                                    clear hK K
                                    refine norm_ (a' := ?_) ?_ ?_
                                    rotate_left
                                    · show Act.put _ (some 72) _ = _
                                      simp only [Act.put, List.setIfInBounds_toArray, List.set_cons_zero, List.set_cons_succ, i64_w, i32_w]
                                      rfl
                                    refine last_ (i := 15) (N := some 73) #[true, true, true, true, true, true, true, true, true, true, true, true, true, true, true, true, false] rfl rfl (one_of HT_.out (by kernel_rfl)) (by decide) (fun K hK => ?_)
                                    refine Kd.R_append_step k45 (w0 := w) w.heap.size (by rfl) (.tmp 58) (.tmp 72) 30 45 (.agg #[(.int .i64 0), (.int .i64 0), (.int .i64 0)]) 24 rfl Try.underlying30 info45 rfl (by decide) (by omega) u7 x7_1 (⟨rd t139 x8_1, x10_2, wrap64 ((ji32) - (ji34))⟩ : S45) [.int .i64 (rd t139 x8_1), .int .i64 x10_2, .int .i64 (wrap64 ((ji32) - (ji34)))] (fun _ => True) (fun _ => False) rfl rfl ?aP (fun _ hk => hk.elim) ?aF ?aO ?aB ?aS ?aL ?_
                                    (case aP => exact k45_mkM _ _ _ (⟨rd t139 x8_1, x10_2, wrap64 ((ji32) - (ji34))⟩ : S45))
                                    (case aB => exact (by repeat (first | (with_reducible first | exact HB.out | apply below_alloc | apply pw_below_drewN | apply below_drew1 | refine below_set ?_ GE138.out | refine below_set ?_ GE143.out) | exact HB.out)))
                                    (case aF => exact (fun _ _ => trivial))
                                    (case aO => exact (by (with_reducible repeat (first | apply Kd.R_alloc | apply Kd.R_drewN | apply Kd.R_drew)); exact HO_7.out))
                                    (case aS => exact (below_size (by repeat (first | (with_reducible first | exact HB.out | apply below_alloc | apply pw_below_drewN | apply below_drew1 | refine below_set ?_ GE138.out | refine below_set ?_ GE143.out) | exact HB.out))))
                                    (case aL => have := LMc35.out; omega)
                                    intro v157 w37 ho hb hg hat
                                    rw [← Ny156.out] at ho
                                    have n0_ := Aside0.mk (Kd.R_over' (by (with_reducible repeat (first | apply Kd.R_alloc | apply Kd.R_drewN | apply Kd.R_drew)); exact HO_6.out) (Kd.R_typed (by (with_reducible repeat (first | apply Kd.R_alloc | apply Kd.R_drewN | apply Kd.R_drew)); exact HO_7.out)) (by decide) hg)
                                    have n1_ := Aside0.mk (Kd.R_over' (by (with_reducible repeat (first | apply Kd.R_alloc | apply Kd.R_drewN | apply Kd.R_drew)); exact HO_144000.out) (Kd.R_typed (by (with_reducible repeat (first | apply Kd.R_alloc | apply Kd.R_drewN | apply Kd.R_drew)); exact HO_7.out)) (by decide) hg)
                                    have n2_ := Aside0.mk (blk_grown (g := gb138) (o := .cells #[.slice none 0 0, .int .i64 0] 34 (0, 0)) (by (with_reducible repeat (first | refine blk_drewN ?_ _ | refine blk_drew ?_ | refine blk_alloc ?_ _)); exact BK138.out) hg (Kd.R_ne HO_7.out BK138.out (by decide)))
                                    have n3_ := Aside0.mk (blk_grown (g := gb143) (o := .cells #[.slice (some ad150) t139.length co9, .int .i64 t142] 28 (0, 0)) (by (with_reducible repeat (first | refine blk_drewN ?_ _ | refine blk_drew ?_ | refine blk_alloc ?_ _)); exact BK143.out) hg (Kd.R_ne HO_7.out BK143.out (by decide)))
                                    have n4_ := Aside0.mk (hb)
                                    have n5_ := Aside0.mk (ho)
                                    clear HO_6
                                    clear HO_144000
                                    clear BK138
                                    clear BK143
                                    clear HB
                                    clear HO_7
                                    have HO_6 := n0_
                                    have HO_144000 := n1_
                                    have BK138 := n2_
                                    have BK143 := n3_
                                    have HB := n4_
                                    have HO158 := n5_
                                    clear n0_ n1_ n2_ n3_ n4_ n5_
                                    clear ho hb hg hat
                                    refine hK.out _ _ ?_
                                    clear hK K
                                    refine norm_ (a' := ?_) ?_ ?_
                                    rotate_left
                                    · show Act.put _ (some 73) _ = _
                                      simp only [Act.put, List.setIfInBounds_toArray, List.set_cons_zero, List.set_cons_succ, i64_w, i32_w]
                                      rfl
                                    refine pure_ (i := 16) (N := some 7) (v := ?_) (a' := ?_) #[true, true, true, true, true, true, true, true, true, true, true, true, true, true, true, true, true] rfl rfl (any_of HT_.out (by kernel_rfl)) (fun _ _ _ h => h) (Or.inl ⟨by rfl, ?_⟩) ?_ ?_
                                    rotate_left
                                    · intro w'
                                      go_simp
                                      with_reducible rfl
                                    rotate_left
                                    · simp only [Act.put, List.setIfInBounds_toArray, List.set_cons_zero, List.set_cons_succ, i64_w, i32_w]
                                      rfl
                                    refine done_ (done_of HT_.out (by kernel_rfl)) ?_
                                    try go_wp2
                                    (try simp only [← hl6_2])
                                    go_roundg k2
                                    case measure => have := HK1.out; have := HK2.out; omega
                                    case rel => exact ⟨(y154), (y156), (wrap64 (x8_1 + 1)), (by first | rfl | (simp; done) | (simp [*]; done)), H', ⟨by have := HK1.out; have := HK2.out; omega⟩, ⟨by (try simp only [hl6_2]); (with_reducible repeat (first | apply Kd.R_alloc | apply Kd.R_drewN | apply Kd.R_drew)); exact HO_6.out⟩, ⟨by (try simp only [hl6_2]); (with_reducible repeat (first | apply Kd.R_alloc | apply Kd.R_drewN | apply Kd.R_drew)); exact HO158.out⟩, ⟨by (try simp only [hl6_2]); (with_reducible repeat (first | apply Kd.R_alloc | apply Kd.R_drewN | apply Kd.R_drew)); exact HO_144000.out⟩, ⟨by (try simp only [hl6_2]); (with_reducible repeat (first | refine blk_drewN ?_ _ | refine blk_drew ?_ | refine blk_alloc ?_ _)); exact BK138.out⟩, ⟨by (try simp only [hl6_2]); (with_reducible repeat (first | refine blk_drewN ?_ _ | refine blk_drew ?_ | refine blk_alloc ?_ _)); exact BK143.out⟩, ⟨by repeat (first | (with_reducible first | exact HB.out | apply below_alloc | apply pw_below_drewN | apply below_drew1 | refine below_set ?_ GE138.out | refine below_set ?_ GE143.out) | exact HB.out)⟩⟩
                                  · rw [if_neg c35] at H
                                    exact absurd H (by simp)
                                · rw [if_neg c33] at H
                                  exact absurd H (by simp)
                              · rw [if_neg c31] at H
                                exact absurd H (by simp)
                            · rw [if_neg c30] at H
                              exact absurd H (by simp)
                          · rw [if_neg c29] at H
                            exact absurd H (by simp)
                      · rw [if_neg c26] at H
                        exact absurd H (by simp)
                · rw [if_neg c18] at H
                  exact absurd H (by simp)
              · rw [if_neg c17] at H
                exact absurd H (by simp)
            · rw [if_neg c16] at H
              exact absurd H (by simp)
          · rw [if_neg c15] at H
            have c15b0 : decide (x8_1 < (t139.length : Int)) = false := decide_eq_false c15
            clear c15
            simp only [Option.some.injEq, Prod.mk.injEq] at H
            obtain ⟨rfl, rfl⟩ := H
            have hnb38 := NB143_138.out
            have hnc38 := NB138_143.out
            have hcz39_0 : wr.cell? ⟨gb143, 0, none⟩ = some (.slice Ao9 t139.length co9) := (blk_cell BK143.out 0).trans rfl
            have hcz39_1 : wr.cell? ⟨gb143, 1, none⟩ = some (.int .i64 t142) := (blk_cell BK143.out 1).trans rfl
            have hfz39_0 := blk_frozen BK143.out 0
            have hfz39_1 := blk_frozen BK143.out 1
            obtain ⟨Ao40, co40, eo40⟩ := Kd.R_slice HO_7.out
            subst eo40
            have hcz41_0 : wr.cell? ⟨gb138, 0, none⟩ = some (.slice none 0 0) := (blk_cell BK138.out 0).trans rfl
            have hcz41_1 : wr.cell? ⟨gb138, 1, none⟩ = some (.int .i64 0) := (blk_cell BK138.out 1).trans rfl
            have hfz41_0 := blk_frozen BK138.out 0
            have hfz41_1 := blk_frozen BK138.out 1
            go_wp2
            refine bodyPost_ret (results_cell_row rfl _ _ gb138 34 #[.slice Ao40 x7_1.length co40, .int .i64 0] (0, 0) _ rfl (by (with_reducible repeat (first | refine blk_drewN ?_ _ | refine blk_drew ?_ | refine blk_alloc ?_ _)); refine blk_put (cs := #[.slice Ao40 x7_1.length co40, .int .i64 0]) ?_ 1 _ rfl; (with_reducible repeat (first | refine blk_drewN ?_ _ | refine blk_drew ?_ | refine blk_alloc ?_ _)); refine blk_put (cs := #[.slice none 0 0, .int .i64 0]) ?_ 0 _ rfl; (with_reducible repeat (first | refine blk_drewN ?_ _ | refine blk_drew ?_ | refine blk_alloc ?_ _)); exact BK138.out) Try.underlying34 rfl (by kernel_rfl)) rfl ?_
            exact ⟨_, by first | rfl | (simp [errW_none, errW_some] <;> rfl) | (simp [*, errW_none, errW_some] <;> rfl), by (with_reducible repeat (first | apply Kd.R_alloc | apply Kd.R_drewN | apply Kd.R_drew)); exact Kd.R_mono (Kd.R_far (p := ⟨gb138, 1, none⟩) (Kd.R_far (p := ⟨gb138, 0, none⟩) (Kd.R_types HO_7.out BK138.out (by decide)) (fun _ hk => hk.2) (.slice Ao40 x7_1.length co40)) (fun _ hk => hk.2) (.int .i64 0)) (fun _ hk => trivial), by repeat (first | (with_reducible first | exact HB.out | apply below_alloc | apply pw_below_drewN | apply below_drew1 | refine below_set ?_ GE138.out | refine below_set ?_ GE143.out) | exact HB.out)⟩
    · rw [if_neg c5] at H
      exact absurd H (by simp)
  · rw [if_neg c4] at H
    have c4b0 : (t142 == 0) = false := beq_eq_false_iff_ne.mpr c4
    have c4b1 : (t142 != 0) = true := bne_iff_ne.mpr c4
    simp only [Option.some.injEq, Prod.mk.injEq] at H
    obtain ⟨rfl, rfl⟩ := H
    go_enter Try.func12, Try.ntmps12
    go_wp2_with (first | ((with_reducible refine gate_dst (N := 4) rfl ?_); refine box_event ?hg (N := 4) ?hd (cs := #[.slice none 0 0, .int .i64 0]) (t := 34) ?hr ?_; (case hd => rfl); (case hg => rfl); (case hr => first | (go_simp; done) | (go_simp; rfl)); intro gb138 hg w42 hbox hb; have n0_ := Aside0.mk (below_step (by repeat (first | (with_reducible first | exact HB.out | apply below_alloc | apply pw_below_drewN | apply below_drew1) | exact HB.out)) hb); have n1_ := Aside0.mk (hbox); have n2_ := Aside0.mk ((by rw [hg]; exact (below_size (by repeat (first | (with_reducible first | exact HB.out | apply below_alloc | apply pw_below_drewN | apply below_drew1) | exact HB.out))) : w.heap.size ≤ gb138)); have n3_ := Aside0.mk ((by rw [hg]; exact (below_size (by repeat (first | (with_reducible first | exact HB.out | apply below_alloc | apply pw_below_drewN | apply below_drew1) | exact HB.out))) : w.heap.size ≤ gb138)); clear HB; have HB := n0_; have BK138 := n1_; have GW138 := n2_; have GE138 := n3_; clear n0_ n1_ n2_ n3_; clear hb hbox hg) | ((with_reducible refine gate_callee (f := 10) rfl ?_); refine goesL_ (some 13) rfl rfl Try.func10 (by kernel_rfl) rfl #[.slice A0 l0.length c0, .int .i64 a1] rfl (by (try simp only [List.map_toArray, List.map_cons, List.map_nil]); first | done | rfl | (simp only [List.length_drop, List.length_take]; rfl)) ?_; (with_reducible refine (wringerref7_Spread.calls k _ _ l0 a1 t139 t142 _ ?side1 ?side2 A3.out).mono ?_); (case side1 => repeat (first | exact (Kd.C_below HR0.out HB.out) | (with_reducible refine Kd.C_alloc ?_ _) | (with_reducible refine Kd.C_drewN ?_ _) | (with_reducible refine Kd.C_drew ?_))); (case side2 => exact HC0.out); rintro e w43 ⟨v140, rfl, ho0, hb⟩; refine ⟨_, rfl, ?_⟩; have n0_ := Aside0.mk (Kd.R_lower ho0 (below_size (by repeat (first | (with_reducible first | exact HB.out | apply below_alloc | apply pw_below_drewN | apply below_drew1 | refine below_set ?_ GE138.out) | exact HB.out)))); have n1_ := Aside0.mk (blk_below (g := gb138) (o := .cells #[.slice none 0 0, .int .i64 0] 34 (0, 0)) (by (with_reducible repeat (first | refine blk_drewN ?_ _ | refine blk_drew ?_ | refine blk_alloc ?_ _)); exact BK138.out) hb); have n2_ := Aside0.mk (below_step (by repeat (first | (with_reducible first | exact HB.out | apply below_alloc | apply pw_below_drewN | apply below_drew1 | refine below_set ?_ GE138.out) | exact HB.out)) hb); clear BK138; clear HB; have HO141 := n0_; have BK138 := n1_; have HB := n2_; clear n0_ n1_ n2_; (try clear hb); (try clear hb2); (try clear hk); (try clear hi); (try clear ho0)) | ((with_reducible refine gate_dst (N := 5) rfl ?_); refine box_event ?hg (N := 5) ?hd (cs := #[.slice none 0 0, .int .i64 0]) (t := 28) ?hr ?_; (case hd => rfl); (case hg => rfl); (case hr => first | (go_simp; done) | (go_simp; rfl)); intro gb143 hg w44 hbox hb; have n0_ := Aside0.mk (Kd.R_below (by (with_reducible repeat (first | apply Kd.R_alloc | apply Kd.R_drewN | apply Kd.R_drew)); exact HO141.out) hb); have n1_ := Aside0.mk (blk_below (g := gb138) (o := .cells #[.slice none 0 0, .int .i64 0] 34 (0, 0)) (by (with_reducible repeat (first | refine blk_drewN ?_ _ | refine blk_drew ?_ | refine blk_alloc ?_ _)); exact BK138.out) hb); have n2_ := Aside0.mk (below_step (by repeat (first | (with_reducible first | exact HB.out | apply below_alloc | apply pw_below_drewN | apply below_drew1 | refine below_set ?_ GE138.out) | exact HB.out)) hb); have n3_ := Aside0.mk (hbox); have n4_ := Aside0.mk ((by rw [hg]; exact (below_size (by repeat (first | (with_reducible first | exact HB.out | apply below_alloc | apply pw_below_drewN | apply below_drew1 | refine below_set ?_ GE138.out) | exact HB.out))) : w.heap.size ≤ gb143)); have n5_ := Aside0.mk ((by rw [hg]; exact (below_size (by repeat (first | (with_reducible first | exact HB.out | apply below_alloc | apply pw_below_drewN | apply below_drew1 | refine below_set ?_ GE138.out) | exact HB.out))) : w.heap.size ≤ gb143)); have n6_ := Aside0.mk ((by rw [hg]; exact Nat.ne_of_lt (blk_lt (g := gb138) (o := .cells #[.slice none 0 0, .int .i64 0] 34 (0, 0)) (by (with_reducible repeat (first | refine blk_drewN ?_ _ | refine blk_drew ?_ | refine blk_alloc ?_ _)); exact BK138.out)) : gb138 ≠ gb143)); have n7_ := Aside0.mk ((by rw [hg]; exact Nat.ne_of_gt (blk_lt (g := gb138) (o := .cells #[.slice none 0 0, .int .i64 0] 34 (0, 0)) (by (with_reducible repeat (first | refine blk_drewN ?_ _ | refine blk_drew ?_ | refine blk_alloc ?_ _)); exact BK138.out)) : gb143 ≠ gb138)); clear HO141; clear BK138; clear HB; have HO141 := n0_; have BK138 := n1_; have HB := n2_; have BK143 := n3_; have GW143 := n4_; have GE143 := n5_; have NB138_143 := n6_; have NB143_138 := n7_; clear n0_ n1_ n2_ n3_ n4_ n5_ n6_ n7_; clear hb hbox hg; obtain ⟨Ao45, co45, eo45⟩ := Kd.R_slice HO141.out; subst eo45; have hnb46 := NB143_138.out; have hnc46 := NB138_143.out; have hcz47_0 : w44.cell? ⟨gb143, 0, none⟩ = some (.slice none 0 0) := (blk_cell BK143.out 0).trans rfl; have hcz47_1 : w44.cell? ⟨gb143, 1, none⟩ = some (.int .i64 0) := (blk_cell BK143.out 1).trans rfl; have hfz47_0 := blk_frozen BK143.out 0; have hfz47_1 := blk_frozen BK143.out 1; have hcz48_0 : w44.cell? ⟨gb138, 0, none⟩ = some (.slice none 0 0) := (blk_cell BK138.out 0).trans rfl; have hcz48_1 : w44.cell? ⟨gb138, 1, none⟩ = some (.int .i64 0) := (blk_cell BK138.out 1).trans rfl; have hfz48_0 := blk_frozen BK138.out 0; have hfz48_1 := blk_frozen BK138.out 1))
    refine bodyPost_ret (results_cell_row rfl _ _ gb138 34 #[.slice none 0 0, .int .i64 t142] (0, 0) _ rfl (by (with_reducible repeat (first | refine blk_drewN ?_ _ | refine blk_drew ?_ | refine blk_alloc ?_ _)); refine blk_put (cs := #[.slice none 0 0, .int .i64 0]) ?_ 1 _ rfl; (with_reducible repeat (first | refine blk_drewN ?_ _ | refine blk_drew ?_ | refine blk_alloc ?_ _)); refine blk_put (cs := #[.slice none 0 0, .int .i64 0]) ?_ 0 _ rfl; (with_reducible repeat (first | refine blk_drewN ?_ _ | refine blk_drew ?_ | refine blk_alloc ?_ _)); refine blk_far ?_ NB138_143.out _; (with_reducible repeat (first | refine blk_drewN ?_ _ | refine blk_drew ?_ | refine blk_alloc ?_ _)); refine blk_far ?_ NB138_143.out _; (with_reducible repeat (first | refine blk_drewN ?_ _ | refine blk_drew ?_ | refine blk_alloc ?_ _)); exact BK138.out) Try.underlying34 rfl (by kernel_rfl)) rfl ?_
    exact ⟨_, by first | rfl | (simp [errW_none, errW_some] <;> rfl) | (simp [*, errW_none, errW_some] <;> rfl), by first | exact Kd.R_nil _ _ _ _ _ | exact Kd.N_nil _ _ _ _ _ | exact Kd.V_nil _ _ _ _ _ | exact Kd.Q_nil _ _ _ _ _ | exact Kd.S_nil _ _ _ _ _, by repeat (first | (with_reducible first | exact HB.out | apply below_alloc | apply pw_below_drewN | apply below_drew1 | refine below_set ?_ GE138.out | refine below_set ?_ GE143.out) | exact HB.out)⟩

end Go.Proofs.Ytlconnmfceabiaa.PA

-- ---- PAx12

namespace Go.Proofs.Ytlconnmfceabiaa.PA
open Go.RowKit Go.Proofs.YtlconnmfceabiaaW.PrintWords Go.Proofs.YtlconnmfceabiaaW.PrintLast Go.Proofs.YtlconnmfceabiaaW.PrintMore
attribute [local go_sem] max2_int min2_int max_two min_two max_three min_three max_four min_four   -- for this text's walks alone
set_option linter.unusedVariables false
set_option linter.unusedSimpArgs false

/-! ### wringerref7_SameInts: function 13 -/
def wringerref7_SameInts.l0 : Nat → List Int → List Int → Int → Option (Bool)
  | 0, _, _, _ => none
  | k + 1, x0, x1, x5 => if x5 < (x0.length : Int) then (if 0 ≤ x5 then (if x5 < (x1.length : Int) then (if (rd x0 x5) = (rd x1 x5) then (wringerref7_SameInts.l0 k x0 x1 (wrap64 (x5 + 1))) else (some false)) else (none)) else (none)) else (some true)
def wringerref7_SameInts.f (k : Nat) (l0 : List Int) (l1 : List Int) : Option (Bool) := if (l0.length : Int) = (l1.length : Int) then (wringerref7_SameInts.l0 k l0 l1 0) else (some false)
theorem wringerref7_SameInts.mono_l : ∀ k, (∀ y0 y1 y2, LeO (wringerref7_SameInts.l0 k y0 y1 y2) (wringerref7_SameInts.l0 (k + 1) y0 y1 y2))
  | 0 => fun _ _ _ r h => by simp [wringerref7_SameInts.l0] at h
  | k + 1 => by
    have ih0 := wringerref7_SameInts.mono_l k
    · intro y0 y1 y2
      unfold wringerref7_SameInts.l0
      repeat' first
      | (with_reducible exact ih0 _ _ _)
      | (with_reducible exact LeO.refl _)
      | (with_reducible exact LeO.none _)
      | (with_reducible refine LeO.ite ?_ ?_)
      | (with_reducible refine LeO.bind ?_ (fun _ => ?_))
      | exact ih0 _ _ _
      | exact LeO.none _
      | refine LeO.ite ?_ ?_
      | refine LeO.bind ?_ (fun _ => ?_)
theorem wringerref7_SameInts.mono : ∀ a0 a1 k, LeO (wringerref7_SameInts.f k a0 a1) (wringerref7_SameInts.f (k + 1) a0 a1) := by
  intro a0 a1 k
  have ih0 := wringerref7_SameInts.mono_l k
  unfold wringerref7_SameInts.f
  repeat' first
      | (with_reducible exact ih0 _ _ _)
      | (with_reducible exact LeO.refl _)
      | (with_reducible exact LeO.none _)
      | (with_reducible refine LeO.ite ?_ ?_)
      | (with_reducible refine LeO.bind ?_ (fun _ => ?_))
      | exact ih0 _ _ _
      | exact LeO.none _
      | refine LeO.ite ?_ ?_
      | refine LeO.bind ?_ (fun _ => ?_)
set_option maxHeartbeats 8000000 in
set_option maxRecDepth 100000 in
theorem wringerref7_SameInts.calls (k : Nat) (A0 : Option Addr) (c0 : Nat) (l0 : List Int) (A1 : Option Addr) (c1 : Nat) (l1 : List Int) (r : Bool) (w : World) (hr0 : Kd.C (Kd.int .i64) w A0 l0.length l0) (hc0 : l0.length ≤ c0) (hr1 : Kd.C (Kd.int .i64) w A1 l1.length l1) (hc1 : l1.length ≤ c1) (h : wringerref7_SameInts.f k l0 l1 = some r) :
    Calls Try.prog 13 #[.slice A0 l0.length c0, .slice A1 l1.length c1] w fun e w' => e = .returned (.bool r) ∧ Drawn0 w w' := by
  have HR0 := Aside0.mk hr0
  have HC0 := Aside0.mk hc0
  clear hr0 hc0
  have HR1 := Aside0.mk hr1
  have HC1 := Aside0.mk hc1
  clear hr1 hc1
  have H : (if (l0.length : Int) = (l1.length : Int) then (wringerref7_SameInts.l0 k l0 l1 0) else (some false)) = some r := h
  clear h
  by_cases c3 : (l0.length : Int) = (l1.length : Int)
  · rw [if_pos c3] at H
    have c3b0 : ((l0.length : Int) == (l1.length : Int)) = true := beq_iff_eq.mpr c3
    have c3b1 : ((l0.length : Int) != (l1.length : Int)) = false := bne_eq_false_iff_eq.mpr c3
    have c3b2 : (l0.length == l1.length) = true := by first | simpa using c3 | (simp at c3 ⊢; omega)
    clear c3
    have H' := Aside0.mk H
    clear H
    go_enter Try.func13, Try.ntmps13
    go_wp2
    repeat (go_quiet (fail); try go_wp2)
    go_loopg [5] k (fun kq v5 w' => ∃ (x5_1 : Int), v5 = .int .i64 x5_1 ∧ Aside0 (wringerref7_SameInts.l0 kq l0 l1 x5_1 = some r) ∧ Aside0 (kq ≤ k) ∧ Drawn0 w w')
    case atStart => exact ⟨(0), (by first | rfl | (simp; done) | (simp [*]; done)), H', ⟨Nat.le_refl _⟩, by repeat (first | exact Drawn0.refl _ | apply Drawn0.step)⟩
    case round =>
      clear H'
      try clear c1
      try clear p2
      try clear c3
      try clear c3b0
      try clear c3b1
      try clear c3b2
      obtain ⟨x5_1, rfl, HA, HK1, ⟨m1, rfl⟩⟩ := hrel
      cases gk with
      | zero => exact absurd HA.out (by simp [wringerref7_SameInts.l0])
      | succ k1 =>
        have H := HA.out
        clear HA
        simp only [wringerref7_SameInts.l0] at H
        by_cases c4 : x5_1 < (l0.length : Int)
        · rw [if_pos c4] at H
          have c4b0 : decide (x5_1 < (l0.length : Int)) = true := decide_eq_true c4
          clear c4
          by_cases c5 : 0 ≤ x5_1
          · rw [if_pos c5] at H
            have c5b0 : decide (0 ≤ x5_1) = true := decide_eq_true c5
            clear c5
            by_cases c6 : x5_1 < (l1.length : Int)
            · rw [if_pos c6] at H
              have c6b0 : decide (x5_1 < (l1.length : Int)) = true := decide_eq_true c6
              clear c6
              by_cases c7 : (rd l0 x5_1) = (rd l1 x5_1)
              · rw [if_pos c7] at H
                have c7b0 : ((rd l0 x5_1) == (rd l1 x5_1)) = true := beq_iff_eq.mpr c7
                have c7b1 : ((rd l0 x5_1) != (rd l1 x5_1)) = false := bne_eq_false_iff_eq.mpr c7
                clear c7
                have H' := Aside0.mk H
                clear H
                have p159 : 0 ≤ (x5_1 : Int) := of_decide_eq_true (by first | (with_reducible assumption) | assumption)
                have q159 : x5_1 < (l0.length : Int) := of_decide_eq_true (by first | (with_reducible assumption) | assumption)
                obtain ⟨ad159, e159, hx159_0⟩ := Kd.at_int HR0.out x5_1 p159 q159
                cases e159
                replace p159 := eq_true p159
                replace q159 := eq_true q159
                have p160 : 0 ≤ (x5_1 : Int) := of_decide_eq_true (by first | (with_reducible assumption) | assumption)
                have q160 : x5_1 < (l1.length : Int) := of_decide_eq_true (by first | (with_reducible assumption) | assumption)
                obtain ⟨ad160, e160, hx160_0⟩ := Kd.at_int HR1.out x5_1 p160 q160
                cases e160
                replace p160 := eq_true p160
                replace q160 := eq_true q160
                go_wp2
                repeat (go_quiet (fail); try go_wp2)
                go_roundg k1
                case measure => have := HK1.out; omega
                case rel => exact ⟨(wrap64 (x5_1 + 1)), (by first | rfl | (simp; done) | (simp [*]; done)), H', ⟨by have := HK1.out; omega⟩, by repeat (first | exact Drawn0.refl _ | apply Drawn0.step)⟩
              · rw [if_neg c7] at H
                have c7b0 : ((rd l0 x5_1) == (rd l1 x5_1)) = false := beq_eq_false_iff_ne.mpr c7
                have c7b1 : ((rd l0 x5_1) != (rd l1 x5_1)) = true := bne_iff_ne.mpr c7
                obtain rfl := Option.some.inj H
                have p159 : 0 ≤ (x5_1 : Int) := of_decide_eq_true (by first | (with_reducible assumption) | assumption)
                have q159 : x5_1 < (l0.length : Int) := of_decide_eq_true (by first | (with_reducible assumption) | assumption)
                obtain ⟨ad159, e159, hx159_0⟩ := Kd.at_int HR0.out x5_1 p159 q159
                cases e159
                replace p159 := eq_true p159
                replace q159 := eq_true q159
                have p160 : 0 ≤ (x5_1 : Int) := of_decide_eq_true (by first | (with_reducible assumption) | assumption)
                have q160 : x5_1 < (l1.length : Int) := of_decide_eq_true (by first | (with_reducible assumption) | assumption)
                obtain ⟨ad160, e160, hx160_0⟩ := Kd.at_int HR1.out x5_1 p160 q160
                cases e160
                replace p160 := eq_true p160
                replace q160 := eq_true q160
                go_wp2
                repeat (go_quiet (fail); try go_wp2)
                go_ret
                exact ⟨by first | rfl | (simp; done) | (simp [*]; done), by repeat (first | exact Drawn0.refl _ | apply Drawn0.step)⟩
            · rw [if_neg c6] at H
              exact absurd H (by simp)
          · rw [if_neg c5] at H
            exact absurd H (by simp)
        · rw [if_neg c4] at H
          have c4b0 : decide (x5_1 < (l0.length : Int)) = false := decide_eq_false c4
          clear c4
          obtain rfl := Option.some.inj H
          go_wp2
          repeat (go_quiet (fail); try go_wp2)
          go_ret
          exact ⟨by first | rfl | (simp; done) | (simp [*]; done), by repeat (first | exact Drawn0.refl _ | apply Drawn0.step)⟩
  · rw [if_neg c3] at H
    have c3b0 : ((l0.length : Int) == (l1.length : Int)) = false := beq_eq_false_iff_ne.mpr c3
    have c3b1 : ((l0.length : Int) != (l1.length : Int)) = true := bne_iff_ne.mpr c3
    have c3b2 : (l0.length == l1.length) = false := by first | simpa using c3 | (simp at c3 ⊢; omega)
    obtain rfl := Option.some.inj H
    go_enter Try.func13, Try.ntmps13
    go_wp2
    repeat (go_quiet (fail); try go_wp2)
    go_ret
    exact ⟨by first | rfl | (simp; done) | (simp [*]; done), by repeat (first | exact Drawn0.refl _ | apply Drawn0.step)⟩

end Go.Proofs.Ytlconnmfceabiaa.PA

-- ---- PAx13

namespace Go.Proofs.Ytlconnmfceabiaa.PA
open Go.RowKit Go.Proofs.YtlconnmfceabiaaW.PrintWords Go.Proofs.YtlconnmfceabiaaW.PrintLast Go.Proofs.YtlconnmfceabiaaW.PrintMore
attribute [local go_sem] max2_int min2_int max_two min_two max_three min_three max_four min_four   -- for this text's walks alone
set_option linter.unusedVariables false
set_option linter.unusedSimpArgs false

attribute [local go_sem high] eqA45
/-! ### wringerref7_SameCells: function 15 -/
def wringerref7_SameCells.l0 : Nat → List (S45) → List (S45) → Int → Option (Bool)
  | 0, _, _, _ => none
  | k + 1, x0, x1, x5 => if x5 < (x0.length : Int) then (if 0 ≤ x5 then (if x5 < (x1.length : Int) then (if (!(((rd_T45 x0 x5).f0) == ((rd_T45 x1 x5).f0)) || (!(((rd_T45 x0 x5).f1) == ((rd_T45 x1 x5).f1)) || (!(((rd_T45 x0 x5).f2) == ((rd_T45 x1 x5).f2))))) = true then (some false) else (wringerref7_SameCells.l0 k x0 x1 (wrap64 (x5 + 1)))) else (none)) else (none)) else (some true)
def wringerref7_SameCells.f (k : Nat) (l0 : List (S45)) (l1 : List (S45)) : Option (Bool) := if (l0.length : Int) = (l1.length : Int) then (wringerref7_SameCells.l0 k l0 l1 0) else (some false)
theorem wringerref7_SameCells.mono_l : ∀ k, (∀ y0 y1 y2, LeO (wringerref7_SameCells.l0 k y0 y1 y2) (wringerref7_SameCells.l0 (k + 1) y0 y1 y2))
  | 0 => fun _ _ _ r h => by simp [wringerref7_SameCells.l0] at h
  | k + 1 => by
    have ih0 := wringerref7_SameCells.mono_l k
    · intro y0 y1 y2
      unfold wringerref7_SameCells.l0
      repeat' first
      | (with_reducible exact ih0 _ _ _)
      | (with_reducible exact LeO.refl _)
      | (with_reducible exact LeO.none _)
      | (with_reducible refine LeO.ite ?_ ?_)
      | (with_reducible refine LeO.bind ?_ (fun _ => ?_))
      | exact ih0 _ _ _
      | exact LeO.none _
      | refine LeO.ite ?_ ?_
      | refine LeO.bind ?_ (fun _ => ?_)
theorem wringerref7_SameCells.mono : ∀ a0 a1 k, LeO (wringerref7_SameCells.f k a0 a1) (wringerref7_SameCells.f (k + 1) a0 a1) := by
  intro a0 a1 k
  have ih0 := wringerref7_SameCells.mono_l k
  unfold wringerref7_SameCells.f
  repeat' first
      | (with_reducible exact ih0 _ _ _)
      | (with_reducible exact LeO.refl _)
      | (with_reducible exact LeO.none _)
      | (with_reducible refine LeO.ite ?_ ?_)
      | (with_reducible refine LeO.bind ?_ (fun _ => ?_))
      | exact ih0 _ _ _
      | exact LeO.none _
      | refine LeO.ite ?_ ?_
      | refine LeO.bind ?_ (fun _ => ?_)
set_option maxHeartbeats 8000000 in
set_option maxRecDepth 100000 in
theorem wringerref7_SameCells.calls (k : Nat) (A0 : Option Addr) (c0 : Nat) (l0 : List (S45)) (A1 : Option Addr) (c1 : Nat) (l1 : List (S45)) (r : Bool) (w : World) (hr0 : Kd.C k45 w A0 l0.length l0) (hc0 : l0.length ≤ c0) (hr1 : Kd.C k45 w A1 l1.length l1) (hc1 : l1.length ≤ c1) (h : wringerref7_SameCells.f k l0 l1 = some r) :
    Calls Try.prog 15 #[.slice A0 l0.length c0, .slice A1 l1.length c1] w fun e w' => e = .returned (.bool r) ∧ Drawn0 w w' := by
  have hu45 := Try.underlying45
  have HR0 := Aside0.mk hr0
  have HC0 := Aside0.mk hc0
  clear hr0 hc0
  have HR1 := Aside0.mk hr1
  have HC1 := Aside0.mk hc1
  clear hr1 hc1
  have H : (if (l0.length : Int) = (l1.length : Int) then (wringerref7_SameCells.l0 k l0 l1 0) else (some false)) = some r := h
  clear h
  by_cases c3 : (l0.length : Int) = (l1.length : Int)
  · rw [if_pos c3] at H
    have c3b0 : ((l0.length : Int) == (l1.length : Int)) = true := beq_iff_eq.mpr c3
    have c3b1 : ((l0.length : Int) != (l1.length : Int)) = false := bne_eq_false_iff_eq.mpr c3
    have c3b2 : (l0.length == l1.length) = true := by first | simpa using c3 | (simp at c3 ⊢; omega)
    clear c3
    have H' := Aside0.mk H
    clear H
    go_enter Try.func15, Try.ntmps15
    go_wp2
    repeat (go_quiet (fail); try go_wp2)
    go_loopg [5] k (fun kq v5 w' => ∃ (x5_1 : Int), v5 = .int .i64 x5_1 ∧ Aside0 (wringerref7_SameCells.l0 kq l0 l1 x5_1 = some r) ∧ Aside0 (kq ≤ k) ∧ Drawn0 w w')
    case atStart => exact ⟨(0), (by first | rfl | (simp; done) | (simp [*]; done)), H', ⟨Nat.le_refl _⟩, by repeat (first | exact Drawn0.refl _ | apply Drawn0.step)⟩
    case round =>
      clear H'
      try clear c1
      try clear p2
      try clear c3
      try clear c3b0
      try clear c3b1
      try clear c3b2
      obtain ⟨x5_1, rfl, HA, HK1, ⟨m1, rfl⟩⟩ := hrel
      cases gk with
      | zero => exact absurd HA.out (by simp [wringerref7_SameCells.l0])
      | succ k1 =>
        have H := HA.out
        clear HA
        simp only [wringerref7_SameCells.l0] at H
        by_cases c4 : x5_1 < (l0.length : Int)
        · rw [if_pos c4] at H
          have c4b0 : decide (x5_1 < (l0.length : Int)) = true := decide_eq_true c4
          clear c4
          by_cases c5 : 0 ≤ x5_1
          · rw [if_pos c5] at H
            have c5b0 : decide (0 ≤ x5_1) = true := decide_eq_true c5
            clear c5
            by_cases c6 : x5_1 < (l1.length : Int)
            · rw [if_pos c6] at H
              have c6b0 : decide (x5_1 < (l1.length : Int)) = true := decide_eq_true c6
              clear c6
              by_cases c7 : (!(((rd_T45 l0 x5_1).f0) == ((rd_T45 l1 x5_1).f0)) || (!(((rd_T45 l0 x5_1).f1) == ((rd_T45 l1 x5_1).f1)) || (!(((rd_T45 l0 x5_1).f2) == ((rd_T45 l1 x5_1).f2))))) = true
              · rw [if_pos c7] at H
                have c7b0 : (!(((rd_T45 l0 x5_1).f0) == ((rd_T45 l1 x5_1).f0)) || (!(((rd_T45 l0 x5_1).f1) == ((rd_T45 l1 x5_1).f1)) || (!(((rd_T45 l0 x5_1).f2) == ((rd_T45 l1 x5_1).f2))))) = true := c7
                clear c7
                obtain rfl := Option.some.inj H
                have p161 : 0 ≤ (x5_1 : Int) := of_decide_eq_true (by first | (with_reducible assumption) | assumption)
                have q161 : x5_1 < (l0.length : Int) := of_decide_eq_true (by first | (with_reducible assumption) | assumption)
                obtain ⟨ad161, e161, hx161_0, hx161_1, hx161_2⟩ := at_T45 HR0.out x5_1 p161 q161
                cases e161
                replace p161 := eq_true p161
                replace q161 := eq_true q161
                have p162 : 0 ≤ (x5_1 : Int) := of_decide_eq_true (by first | (with_reducible assumption) | assumption)
                have q162 : x5_1 < (l1.length : Int) := of_decide_eq_true (by first | (with_reducible assumption) | assumption)
                obtain ⟨ad162, e162, hx162_0, hx162_1, hx162_2⟩ := at_T45 HR1.out x5_1 p162 q162
                cases e162
                replace p162 := eq_true p162
                replace q162 := eq_true q162
                go_wp2
                repeat (go_quiet (fail); try go_wp2)
                go_ret
                exact ⟨by first | rfl | (simp; done) | (simp [*]; done), by repeat (first | exact Drawn0.refl _ | apply Drawn0.step)⟩
              · rw [if_neg c7] at H
                have c7b0 : (!(((rd_T45 l0 x5_1).f0) == ((rd_T45 l1 x5_1).f0)) || (!(((rd_T45 l0 x5_1).f1) == ((rd_T45 l1 x5_1).f1)) || (!(((rd_T45 l0 x5_1).f2) == ((rd_T45 l1 x5_1).f2))))) = false := by simpa using c7
                clear c7
                have H' := Aside0.mk H
                clear H
                have p161 : 0 ≤ (x5_1 : Int) := of_decide_eq_true (by first | (with_reducible assumption) | assumption)
                have q161 : x5_1 < (l0.length : Int) := of_decide_eq_true (by first | (with_reducible assumption) | assumption)
                obtain ⟨ad161, e161, hx161_0, hx161_1, hx161_2⟩ := at_T45 HR0.out x5_1 p161 q161
                cases e161
                replace p161 := eq_true p161
                replace q161 := eq_true q161
                have p162 : 0 ≤ (x5_1 : Int) := of_decide_eq_true (by first | (with_reducible assumption) | assumption)
                have q162 : x5_1 < (l1.length : Int) := of_decide_eq_true (by first | (with_reducible assumption) | assumption)
                obtain ⟨ad162, e162, hx162_0, hx162_1, hx162_2⟩ := at_T45 HR1.out x5_1 p162 q162
                cases e162
                replace p162 := eq_true p162
                replace q162 := eq_true q162
                go_wp2
                repeat (go_quiet (fail); try go_wp2)
                go_roundg k1
                case measure => have := HK1.out; omega
                case rel => exact ⟨(wrap64 (x5_1 + 1)), (by first | rfl | (simp; done) | (simp [*]; done)), H', ⟨by have := HK1.out; omega⟩, by repeat (first | exact Drawn0.refl _ | apply Drawn0.step)⟩
            · rw [if_neg c6] at H
              exact absurd H (by simp)
          · rw [if_neg c5] at H
            exact absurd H (by simp)
        · rw [if_neg c4] at H
          have c4b0 : decide (x5_1 < (l0.length : Int)) = false := decide_eq_false c4
          clear c4
          obtain rfl := Option.some.inj H
          go_wp2
          repeat (go_quiet (fail); try go_wp2)
          go_ret
          exact ⟨by first | rfl | (simp; done) | (simp [*]; done), by repeat (first | exact Drawn0.refl _ | apply Drawn0.step)⟩
  · rw [if_neg c3] at H
    have c3b0 : ((l0.length : Int) == (l1.length : Int)) = false := beq_eq_false_iff_ne.mpr c3
    have c3b1 : ((l0.length : Int) != (l1.length : Int)) = true := bne_iff_ne.mpr c3
    have c3b2 : (l0.length == l1.length) = false := by first | simpa using c3 | (simp at c3 ⊢; omega)
    obtain rfl := Option.some.inj H
    go_enter Try.func15, Try.ntmps15
    go_wp2
    repeat (go_quiet (fail); try go_wp2)
    go_ret
    exact ⟨by first | rfl | (simp; done) | (simp [*]; done), by repeat (first | exact Drawn0.refl _ | apply Drawn0.step)⟩

end Go.Proofs.Ytlconnmfceabiaa.PA

-- ---- PAx15

namespace Go.Proofs.Ytlconnmfceabiaa.PA
open Go.RowKit Go.Proofs.YtlconnmfceabiaaW.PrintWords Go.Proofs.YtlconnmfceabiaaW.PrintLast Go.Proofs.YtlconnmfceabiaaW.PrintMore
attribute [local go_sem] max2_int min2_int max_two min_two max_three min_three max_four min_four   -- for this text's walks alone
set_option linter.unusedVariables false
set_option linter.unusedSimpArgs false

/-! ### wringerlaw8_Freq: function 20 -/
def wringerlaw8_Freq.l0 : Nat → List Int → List Int → Int → Option (List Int)
  | 0, _, _, _ => none
  | k + 1, x0, x3, x4 => if (wrap64 (x4 + 1)) < (x0.length : Int) then (if 0 ≤ x4 then (if x4 < (x0.length : Int) then (if 0 ≤ (wrap64 (x4 + 1)) then (if 0 ≤ (Int.tmod (IntKind.u16.wrap (Int.tdiv (rd x0 x4) 65)) 16) then (if 0 ≤ (Int.tmod (wrap64 (rd x0 x4)) 65) then (if (Int.tmod (wrap64 (rd x0 x4)) 65) < (x3.length : Int) then (wringerlaw8_Freq.l0 k x0 (x3.set ((Int.tmod (wrap64 (rd x0 x4)) 65) : Int).toNat (shr .i64 (wrap64 (rd x0 (wrap64 (x4 + 1)))) (Int.tmod (IntKind.u16.wrap (Int.tdiv (rd x0 x4) 65)) 16))) (wrap64 (x4 + 2))) else (none)) else (none)) else (none)) else (none)) else (none)) else (none)) else (some x3)
def wringerlaw8_Freq.f (k : Nat) (l0 : List Int) : Option (List Int) := if 65 ≤ 35184372088832 then (wringerlaw8_Freq.l0 k l0 (List.replicate 65 0) 0) else (none)
theorem wringerlaw8_Freq.mono_l : ∀ k, (∀ y0 y1 y2, LeO (wringerlaw8_Freq.l0 k y0 y1 y2) (wringerlaw8_Freq.l0 (k + 1) y0 y1 y2))
  | 0 => fun _ _ _ r h => by simp [wringerlaw8_Freq.l0] at h
  | k + 1 => by
    have ih0 := wringerlaw8_Freq.mono_l k
    · intro y0 y1 y2
      unfold wringerlaw8_Freq.l0
      repeat' first
      | (with_reducible exact ih0 _ _ _)
      | (with_reducible exact LeO.refl _)
      | (with_reducible exact LeO.none _)
      | (with_reducible refine LeO.ite ?_ ?_)
      | (with_reducible refine LeO.bind ?_ (fun _ => ?_))
      | exact ih0 _ _ _
      | exact LeO.none _
      | refine LeO.ite ?_ ?_
      | refine LeO.bind ?_ (fun _ => ?_)
theorem wringerlaw8_Freq.mono : ∀ a0 k, LeO (wringerlaw8_Freq.f k a0) (wringerlaw8_Freq.f (k + 1) a0) := by
  intro a0 k
  have ih0 := wringerlaw8_Freq.mono_l k
  unfold wringerlaw8_Freq.f
  repeat' first
      | (with_reducible exact ih0 _ _ _)
      | (with_reducible exact LeO.refl _)
      | (with_reducible exact LeO.none _)
      | (with_reducible refine LeO.ite ?_ ?_)
      | (with_reducible refine LeO.bind ?_ (fun _ => ?_))
      | exact ih0 _ _ _
      | exact LeO.none _
      | refine LeO.ite ?_ ?_
      | refine LeO.bind ?_ (fun _ => ?_)
def wringerlaw8_Freq.T5 : Bool × List (List Nat × List Nat) := (true, [([], []), ([], []), ([], []), ([1, 2], [1, 2]), ([3], [3]), ([4], [4]), ([5], [5]), ([], []), ([], []), ([8], [8]), ([7, 9], [7, 9]), ([10], [10]), ([11], [11]), ([], []), ([], []), ([13, 14], [13, 14]), ([15], [15]), ([16], [16]), ([17], [17]), ([12, 18], [12, 18]), ([0, 6, 0, 1, 2, 3, 4, 5, 6, 7, 8, 9, 10, 11, 12, 13, 14, 15, 16, 17, 18, 19], [0, 6]), ([20, 19, 0, 1, 2, 3, 4, 5, 6, 7, 8, 9, 10, 11, 12, 13, 14, 15, 16, 17, 18, 19], [19, 20])])
def wringerlaw8_Freq.B5 : List Nat := [0, 0, 0, 6, 14, 30, 62, 0, 0, 256, 896, 1920, 3968, 0, 0, 24576, 57344, 122880, 253952, 524160, 1048575, 2097151]
theorem wringerlaw8_Freq.tab5 : rtab .any (opsOf Try.f20 5) = wringerlaw8_Freq.T5 := by kernel_rfl
theorem wringerlaw8_Freq.bits5 : waitsOk wringerlaw8_Freq.T5.2 wringerlaw8_Freq.B5 = true := by kernel_rfl
set_option maxHeartbeats 8000000 in
set_option maxRecDepth 100000 in
theorem wringerlaw8_Freq.calls (k : Nat) (A0 : Option Addr) (c0 : Nat) (l0 : List Int) (r : List Int) (w : World) (hr0 : Kd.C (Kd.int .u16) w A0 l0.length l0) (hc0 : l0.length ≤ c0) (h : wringerlaw8_Freq.f k l0 = some r) :
    Calls Try.prog 20 #[.slice A0 l0.length c0] w fun e w' => ∃ v0_ : Value, e = .returned (v0_) ∧ Kd.R (Kd.int .i64) 3 w' w.heap.size (fun _ => True) v0_ r ∧ Below w.heap.size w w' := by
  have HR0 := Aside0.mk hr0
  have HC0 := Aside0.mk hc0
  clear hr0 hc0
  have HB := Aside0.mk (Below.refl w.heap.size w)
  have H : (if 65 ≤ 35184372088832 then (wringerlaw8_Freq.l0 k l0 (List.replicate 65 0) 0) else (none)) = some r := h
  clear h
  by_cases c2 : 65 ≤ 35184372088832
  · rw [if_pos c2] at H
    have c2b0 := eq_true c2
    have c2b1 : decide (65 ≤ 35184372088832) = true := decide_eq_true c2
    clear c2
    obtain ⟨y187, hy187⟩ : ∃ y_ : List Int, y_ = (List.replicate 65 0) := ⟨_, rfl⟩
    replace H : (wringerlaw8_Freq.l0 k l0 y187 0) = some r := by first | (rw [hy187]; with_reducible exact H) | (have H2_ := (Option.bind_some _ _).symm.trans H; rw [hy187]; with_reducible exact H2_) | (have H2_ := (Option.bind_some _ _).symm.trans H; with_reducible exact H2_) | with_reducible exact H | (rw [hy187]; exact H) | exact H
    have Ny187 := Aside0.mk hy187
    clear hy187
    have H' := Aside0.mk H
    clear H
    go_enter Try.func20, Try.ntmps20
    go_wp2_with (first | ((with_reducible refine gate_dst (N := 5) rfl ?_); refine Kd.R_make (Kd.int .i64) _ 3 rfl (N := 5) rfl 22 _ _ rfl 65 rfl rfl Try.underlying22 (.int .i64 0) 8 info3 rfl (by decide) (by omega) 0 (ok := fun _ => True) (okp := fun _ => True) rfl (fun _ hk => hk) trivial (by omega) (by omega) (Below.refl _ _) (Nat.le_refl _) ?_; intro v188 w3 ho4 hb hg_ hnew_; clear hg_ hnew_; (first | rw [← Ny187.out] at ho4 | (simp only [Int.reduceToNat] at ho4; rw [← Ny187.out] at ho4)); have n0_ := Aside0.mk (Kd.R_lower ho4 (below_size (by repeat (first | (with_reducible first | exact HB.out | apply below_alloc | apply pw_below_drewN | apply below_drew1) | exact HB.out)))); have n1_ := Aside0.mk (below_step (by repeat (first | (with_reducible first | exact HB.out | apply below_alloc | apply pw_below_drewN | apply below_drew1) | exact HB.out)) hb); clear HB; have HO189 := n0_; have HB := n1_; clear n0_ n1_; clear hb ho4))
    go_loopg [4] k (fun kq v4 w' => ∃ (x3_1 : List Int) (x4_1 : Int), v4 = .int .i64 x4_1 ∧ Aside0 (wringerlaw8_Freq.l0 kq l0 x3_1 x4_1 = some r) ∧ Aside0 (kq ≤ k) ∧ Aside0 (Kd.R (Kd.int .i64) 3 w' w.heap.size (fun _ => True) v188 x3_1) ∧ Aside0 (Below w.heap.size w w'))
    case atStart => exact ⟨(y187), (0), (by first | rfl | (simp; done) | (simp [*]; done)), H', ⟨Nat.le_refl _⟩, ⟨by (with_reducible repeat (first | apply Kd.R_alloc | apply Kd.R_drewN | apply Kd.R_drew)); exact HO189.out⟩, ⟨by repeat (first | (with_reducible first | exact HB.out | apply below_alloc | apply pw_below_drewN | apply below_drew1) | exact HB.out)⟩⟩
    case round =>
      clear H'
      try clear c2
      try clear c2b0
      try clear c2b1
      try clear p2
      obtain ⟨x3_1, x4_1, rfl, HA, HK1, HO_3, HB⟩ := hrel
      cases gk with
      | zero => exact absurd HA.out (by simp [wringerlaw8_Freq.l0])
      | succ k1 =>
        have H := HA.out
        clear HA
        simp only [wringerlaw8_Freq.l0] at H
        by_cases c5 : (wrap64 (x4_1 + 1)) < (l0.length : Int)
        · rw [if_pos c5] at H
          have c5b0 : decide ((wrap64 (x4_1 + 1)) < (l0.length : Int)) = true := decide_eq_true c5
          clear c5
          by_cases c6 : 0 ≤ x4_1
          · rw [if_pos c6] at H
            have c6b0 : decide (0 ≤ x4_1) = true := decide_eq_true c6
            clear c6
            by_cases c7 : x4_1 < (l0.length : Int)
            · rw [if_pos c7] at H
              have c7b0 : decide (x4_1 < (l0.length : Int)) = true := decide_eq_true c7
              clear c7
              obtain ⟨ji8, hji8⟩ : ∃ j_ : Int, (wrap64 (x4_1 + 1)) = j_ := ⟨_, rfl⟩
              replace H : (if 0 ≤ (ji8) then (if 0 ≤ (Int.tmod (IntKind.u16.wrap (Int.tdiv (rd l0 x4_1) 65)) 16) then (if 0 ≤ (Int.tmod (wrap64 (rd l0 x4_1)) 65) then (if (Int.tmod (wrap64 (rd l0 x4_1)) 65) < (x3_1.length : Int) then (wringerlaw8_Freq.l0 k1 l0 (x3_1.set ((Int.tmod (wrap64 (rd l0 x4_1)) 65) : Int).toNat (shr .i64 (wrap64 (rd l0 (ji8))) (Int.tmod (IntKind.u16.wrap (Int.tdiv (rd l0 x4_1) 65)) 16))) (wrap64 (x4_1 + 2))) else (none)) else (none)) else (none)) else (none)) = some r := by first | (rw [hji8] at H; exact H) | (simp only [hji8] at H ⊢; exact H)
              (try rw [hji8] at c5b0)
              have hji8w : (IntKind.i64.wrap (x4_1 + 1)) = ji8 := (i64_w _).trans hji8
              by_cases c9 : 0 ≤ (ji8)
              · rw [if_pos c9] at H
                have c9b0 : decide (0 ≤ (ji8)) = true := decide_eq_true c9
                clear c9
                obtain ⟨ji10, hji10⟩ : ∃ j_ : Int, (Int.tmod (IntKind.u16.wrap (Int.tdiv (rd l0 x4_1) 65)) 16) = j_ := ⟨_, rfl⟩
                replace H : (if 0 ≤ (ji10) then (if 0 ≤ (Int.tmod (wrap64 (rd l0 x4_1)) 65) then (if (Int.tmod (wrap64 (rd l0 x4_1)) 65) < (x3_1.length : Int) then (wringerlaw8_Freq.l0 k1 l0 (x3_1.set ((Int.tmod (wrap64 (rd l0 x4_1)) 65) : Int).toNat (shr .i64 (wrap64 (rd l0 (ji8))) (ji10))) (wrap64 (x4_1 + 2))) else (none)) else (none)) else (none)) = some r := by first | (rw [hji10] at H; exact H) | (simp only [hji10] at H ⊢; exact H)
                by_cases c11 : 0 ≤ (ji10)
                · rw [if_pos c11] at H
                  have c11b0 := eq_true c11
                  have c11b1 : decide (0 ≤ (ji10)) = true := decide_eq_true c11
                  clear c11
                  obtain ⟨ji12, hji12⟩ : ∃ j_ : Int, (shr .i64 (wrap64 (rd l0 (ji8))) (ji10)) = j_ := ⟨_, rfl⟩
                  replace H : (if 0 ≤ (Int.tmod (wrap64 (rd l0 x4_1)) 65) then (if (Int.tmod (wrap64 (rd l0 x4_1)) 65) < (x3_1.length : Int) then (wringerlaw8_Freq.l0 k1 l0 (x3_1.set ((Int.tmod (wrap64 (rd l0 x4_1)) 65) : Int).toNat (ji12)) (wrap64 (x4_1 + 2))) else (none)) else (none)) = some r := by first | (rw [hji12] at H; exact H) | (simp only [hji12] at H ⊢; exact H)
                  have hji12_ : ((wrap64 (rd l0 (ji8))) / 2 ^ min (ji10).toNat 64) = ji12 := hji12
                  have hji12z : (ji10) ≤ 64 → ((wrap64 (rd l0 (ji8))) / 2 ^ (ji10).toNat) = ji12 := shr_small hji12
                  obtain ⟨ji13, hji13⟩ : ∃ j_ : Int, (Int.tmod (wrap64 (rd l0 x4_1)) 65) = j_ := ⟨_, rfl⟩
                  replace H : (if 0 ≤ (ji13) then (if (ji13) < (x3_1.length : Int) then (wringerlaw8_Freq.l0 k1 l0 (x3_1.set ((ji13) : Int).toNat (ji12)) (wrap64 (x4_1 + 2))) else (none)) else (none)) = some r := by first | (rw [hji13] at H; exact H) | (simp only [hji13] at H ⊢; exact H)
                  by_cases c14 : 0 ≤ (ji13)
                  · rw [if_pos c14] at H
                    have c14b0 : decide (0 ≤ (ji13)) = true := decide_eq_true c14
                    clear c14
                    by_cases c15 : (ji13) < (x3_1.length : Int)
                    · rw [if_pos c15] at H
                      have c15b0 : decide ((ji13) < (x3_1.length : Int)) = true := decide_eq_true c15
                      clear c15
                      obtain ⟨y193, hy193⟩ : ∃ y_ : List Int, y_ = (x3_1.set ((ji13) : Int).toNat (ji12)) := ⟨_, rfl⟩
                      replace H : (wringerlaw8_Freq.l0 k1 l0 y193 (wrap64 (x4_1 + 2))) = some r := by first | (rw [hy193]; with_reducible exact H) | (have H2_ := (Option.bind_some _ _).symm.trans H; rw [hy193]; with_reducible exact H2_) | (have H2_ := (Option.bind_some _ _).symm.trans H; with_reducible exact H2_) | with_reducible exact H | (rw [hy193]; exact H) | exact H
                      have Ny193 := Aside0.mk hy193
                      clear hy193
                      have H' := Aside0.mk H
                      clear H
                      try go_wp2
                      have n0_ := Aside0.mk (Kd.R_drew HO_3.out)
                      have n1_ := Aside0.mk (below_drew1 HB.out)
                      clear HO_3
                      clear HB
                      have HO_3 := n0_
                      have HB := n1_
                      clear n0_ n1_
                      have p190 : 0 ≤ (x4_1 : Int) := of_decide_eq_true (by first | (with_reducible assumption) | assumption)
                      have q190 : x4_1 < (l0.length : Int) := of_decide_eq_true (by first | (with_reducible assumption) | assumption)
                      obtain ⟨ad190, e190, hx190_0⟩ := Kd.at_int HR0.out x4_1 p190 q190
                      have hw190_0 := hx190_0
                      cases e190
                      replace hx190_0 := (HB.out.cell (World.block_lt_of_cell? w _ hx190_0)).trans hx190_0
                      replace p190 := eq_true p190
                      replace q190 := eq_true q190
                      have p191 : 0 ≤ ((ji8) : Int) := of_decide_eq_true (by first | (with_reducible assumption) | assumption)
                      have q191 : (ji8) < (l0.length : Int) := of_decide_eq_true (by first | (with_reducible assumption) | assumption)
                      obtain ⟨ad191, e191, hx191_0⟩ := Kd.at_int HR0.out (ji8) p191 q191
                      have hw191_0 := hx191_0
                      obtain rfl : ad190 = ad191 := (by injection e191)
                      replace hx191_0 := (HB.out.cell (World.block_lt_of_cell? w _ hx191_0)).trans hx191_0
                      replace p191 := eq_true p191
                      replace q191 := eq_true q191
                      have p192 : 0 ≤ (x4_1 : Int) := of_decide_eq_true (by first | (with_reducible assumption) | assumption)
                      have q192 : x4_1 < (l0.length : Int) := of_decide_eq_true (by first | (with_reducible assumption) | assumption)
                      obtain ⟨ad192, e192, hx192_0⟩ := Kd.at_int HR0.out x4_1 p192 q192
                      have hw192_0 := hx192_0
                      obtain rfl : ad190 = ad192 := (by injection e192)
                      replace hx192_0 := (HB.out.cell (World.block_lt_of_cell? w _ hx192_0)).trans hx192_0
                      replace p192 := eq_true p192
                      replace q192 := eq_true q192
                      have p16 : 0 ≤ ((ji13) : Int) := of_decide_eq_true (by first | (with_reducible assumption) | assumption)
                      have q16 : ((ji13) : Int) < ((x3_1.length : Int) : Int) := of_decide_eq_true (by first | (with_reducible assumption) | assumption)
                      obtain ⟨go16, co16, eo16, gb16, gl16, cl16, HG16⟩ := Kd.R_form HO_3.out (by omega)
                      (first | cases eo16 | (injection eo16 with ea_ en_ ec_; (first | subst ea_ | (injection ea_ with ea_; subst ea_)); subst ec_; clear en_))
                      have GB16 := Aside0.mk gb16
                      have GG16 := Aside0.mk HG16
                      clear gb16 gl16 HG16
                      obtain ⟨hx16_0, hf16_0⟩ := Kd.R_celln 0 HO_3.out ((ji13) : Int) p16 q16
                      replace p16 := eq_true p16
                      replace q16 := eq_true q16
                      have HP18 := Kd.R_putn HO_3.out ((ji13) : Int) ji12
                      rw [← Ny193.out] at HP18
                      have HQ18 := Aside0.mk HP18
                      clear HP18
                      refine start_ (n := 22) (S := fun w' => w'.cell? (ad190.add (x4_1).toNat) = some (.int .u16 (rd l0 x4_1)) ∧ w'.cell? (ad190.add ((ji8)).toNat) = some (.int .u16 (rd l0 (ji8))) ∧ w'.cell? (ad190.add (x4_1).toNat) = some (.int .u16 (rd l0 x4_1))) (ds := [21]) #[false, false, false, false, false, false, false, false, false, false, false, false, false, false, false, false, false, false, false, false, false, false] (by kernel_rfl) rfl rfl ⟨((HB.out.cell (World.block_lt_of_cell? w _ hw190_0)).trans hw190_0), ((HB.out.cell (World.block_lt_of_cell? w _ hw191_0)).trans hw191_0), ((HB.out.cell (World.block_lt_of_cell? w _ hw192_0)).trans hw192_0)⟩ (fun hHeld => ?_); refine with_tabW wringerlaw8_Freq.tab5 wringerlaw8_Freq.bits5 (fun HT_ HW_ => ?_)
                      generalize wr.drew = w17 at HO_3 HB GG16 HQ18 hf16_0 hx16_0 hx190_0 hx191_0 hx192_0 hHeld ⊢
                      refine pure_ (i := 0) (N := some 13) (v := ?_) (a' := ?_) #[true, false, false, false, false, false, false, false, false, false, false, false, false, false, false, false, false, false, false, false, false, false] rfl rfl (any_of HT_.out (by kernel_rfl)) (fun _ _ _ h => h) (Or.inl ⟨by rfl, ?_⟩) ?_ ?_
                      rotate_left
                      · intro w'
                        go_simp
                        with_reducible rfl
                      rotate_left
                      · simp only [Act.put, List.setIfInBounds_toArray, List.set_cons_zero, List.set_cons_succ, i64_w, i32_w]
                        rfl
                      refine pure_ (i := 1) (N := some 14) (v := ?_) (a' := ?_) #[true, true, false, false, false, false, false, false, false, false, false, false, false, false, false, false, false, false, false, false, false, false] rfl rfl (any_of HT_.out (by kernel_rfl)) (fun _ _ _ h => h) (Or.inl ⟨by rfl, ?_⟩) ?_ ?_
                      rotate_left
                      · intro w'
                        go_simp
                        with_reducible rfl
                      rotate_left
                      · simp only [Act.put, List.setIfInBounds_toArray, List.set_cons_zero, List.set_cons_succ, i64_w, i32_w]
                        rfl
                      refine pure_ (i := 2) (N := some 15) (v := ?_) (a' := ?_) #[true, true, true, false, false, false, false, false, false, false, false, false, false, false, false, false, false, false, false, false, false, false] rfl rfl (any_of HT_.out (by kernel_rfl)) (fun _ _ _ h => h) (Or.inl ⟨by rfl, ?_⟩) ?_ ?_
                      rotate_left
                      · intro w'
                        go_simp
                        with_reducible rfl
                      rotate_left
                      · simp only [Act.put, List.setIfInBounds_toArray, List.set_cons_zero, List.set_cons_succ, i64_w, i32_w]
                        rfl
                      refine pure_ (i := 3) (N := some 16) (v := ?_) (a' := ?_) #[true, true, true, true, false, false, false, false, false, false, false, false, false, false, false, false, false, false, false, false, false, false] rfl rfl (any_of HT_.out (by kernel_rfl)) (fun _ _ _ h => h) (Or.inl ⟨by rfl, ?_⟩) ?_ ?_
                      rotate_left
                      · intro w'
                        go_simp
                        with_reducible rfl
                      rotate_left
                      · simp only [Act.put, List.setIfInBounds_toArray, List.set_cons_zero, List.set_cons_succ, i64_w, i32_w]
                        rfl
                      refine pure_ (i := 7) (N := some 20) (v := ?_) (a' := ?_) #[true, true, true, true, false, false, false, true, false, false, false, false, false, false, false, false, false, false, false, false, false, false] rfl rfl (any_of HT_.out (by kernel_rfl)) (fun _ _ _ h => h) (Or.inl ⟨by rfl, ?_⟩) ?_ ?_
                      rotate_left
                      · intro w'
                        go_simp
                        with_reducible rfl
                      rotate_left
                      · simp only [Act.put, List.setIfInBounds_toArray, List.set_cons_zero, List.set_cons_succ, i64_w, i32_w]
                        rfl
                      refine pure_ (i := 8) (N := some 21) (v := ?_) (a' := ?_) #[true, true, true, true, false, false, false, true, true, false, false, false, false, false, false, false, false, false, false, false, false, false] rfl rfl (any_of HT_.out (by kernel_rfl)) (fun _ _ _ h => h) (Or.inl ⟨by rfl, ?_⟩) ?_ ?_
                      rotate_left
                      · intro w'
                        go_simp
                        with_reducible rfl
                      rotate_left
                      · simp only [Act.put, List.setIfInBounds_toArray, List.set_cons_zero, List.set_cons_succ, i64_w, i32_w]
                        rfl
                      refine pure_ (i := 9) (N := some 22) (v := ?_) (a' := ?_) #[true, true, true, true, false, false, false, true, true, true, false, false, false, false, false, false, false, false, false, false, false, false] rfl rfl (any_of HT_.out (by kernel_rfl)) (fun _ _ _ h => h) (Or.inl ⟨by rfl, ?_⟩) ?_ ?_
                      rotate_left
                      · intro w'
                        go_simp
                        with_reducible rfl
                      rotate_left
                      · simp only [Act.put, List.setIfInBounds_toArray, List.set_cons_zero, List.set_cons_succ, i64_w, i32_w]
                        rfl
                      refine pure_ (i := 10) (N := some 23) (v := ?_) (a' := ?_) #[true, true, true, true, false, false, false, true, true, true, true, false, false, false, false, false, false, false, false, false, false, false] rfl rfl (any_of HT_.out (by kernel_rfl)) (fun _ _ _ h => h) (Or.inl ⟨by rfl, ?_⟩) ?_ ?_
                      rotate_left
                      · intro w'
                        go_simp
                        with_reducible rfl
                      rotate_left
                      · simp only [Act.put, List.setIfInBounds_toArray, List.set_cons_zero, List.set_cons_succ, i64_w, i32_w]
                        rfl
                      refine pure_ (i := 13) (N := some 26) (v := ?_) (a' := ?_) #[true, true, true, true, false, false, false, true, true, true, true, false, false, true, false, false, false, false, false, false, false, false] rfl rfl (any_of HT_.out (by kernel_rfl)) (fun _ _ _ h => h) (Or.inl ⟨by rfl, ?_⟩) ?_ ?_
                      rotate_left
                      · intro w'
                        go_simp
                        with_reducible rfl
                      rotate_left
                      · simp only [Act.put, List.setIfInBounds_toArray, List.set_cons_zero, List.set_cons_succ, i64_w, i32_w]
                        rfl
                      refine pure_ (i := 14) (N := some 27) (v := ?_) (a' := ?_) #[true, true, true, true, false, false, false, true, true, true, true, false, false, true, true, false, false, false, false, false, false, false] rfl rfl (any_of HT_.out (by kernel_rfl)) (fun _ _ _ h => h) (Or.inl ⟨by rfl, ?_⟩) ?_ ?_
                      rotate_left
                      · intro w'
                        go_simp
                        with_reducible rfl
                      rotate_left
                      · simp only [Act.put, List.setIfInBounds_toArray, List.set_cons_zero, List.set_cons_succ, i64_w, i32_w]
                        rfl
                      refine pure_ (i := 15) (N := some 28) (v := ?_) (a' := ?_) #[true, true, true, true, false, false, false, true, true, true, true, false, false, true, true, true, false, false, false, false, false, false] rfl rfl (any_of HT_.out (by kernel_rfl)) (fun _ _ _ h => h) (Or.inl ⟨by rfl, ?_⟩) ?_ ?_
                      rotate_left
                      · intro w'
                        go_simp
                        with_reducible rfl
                      rotate_left
                      · simp only [Act.put, List.setIfInBounds_toArray, List.set_cons_zero, List.set_cons_succ, i64_w, i32_w]
                        rfl
                      refine take_ (i := 4) (N := some 17) (v := ?_) (a' := ?_) #[true, true, true, true, true, false, false, true, true, true, true, false, false, true, true, true, false, false, false, false, false, false] rfl rfl (take_ofW HT_.out HW_.out (by kernel_rfl)) (fun _ _ _ h => h) (Or.inl ⟨by rfl, ?_⟩) hHeld ?_ ?_
                      rotate_left
                      · rintro w' ⟨s0, s1, s2⟩
                        go_simp
                        with_reducible rfl
                      rotate_left
                      · simp only [Act.put, List.setIfInBounds_toArray, List.set_cons_zero, List.set_cons_succ, i64_w, i32_w]
                        rfl
                      refine pure_ (i := 5) (N := some 18) (v := ?_) (a' := ?_) #[true, true, true, true, true, true, false, true, true, true, true, false, false, true, true, true, false, false, false, false, false, false] rfl rfl (any_of HT_.out (by kernel_rfl)) (fun _ _ _ h => h) (Or.inl ⟨by rfl, ?_⟩) ?_ ?_
                      rotate_left
                      · intro w'
                        go_simp
                        with_reducible rfl
                      rotate_left
                      · simp only [Act.put, List.setIfInBounds_toArray, List.set_cons_zero, List.set_cons_succ, i64_w, i32_w]
                        rfl
                      refine pure_ (i := 6) (N := some 19) (v := ?_) (a' := ?_) #[true, true, true, true, true, true, true, true, true, true, true, false, false, true, true, true, false, false, false, false, false, false] rfl rfl (any_of HT_.out (by kernel_rfl)) (fun _ _ _ h => h) (Or.inl ⟨by rfl, ?_⟩) ?_ ?_
                      rotate_left
                      · intro w'
                        go_simp
                        with_reducible rfl
                      rotate_left
                      · simp only [Act.put, List.setIfInBounds_toArray, List.set_cons_zero, List.set_cons_succ, i64_w, i32_w]
                        rfl
                      refine take_ (i := 11) (N := some 24) (v := ?_) (a' := ?_) #[true, true, true, true, true, true, true, true, true, true, true, true, false, true, true, true, false, false, false, false, false, false] rfl rfl (take_ofW HT_.out HW_.out (by kernel_rfl)) (fun _ _ _ h => h) (Or.inl ⟨by rfl, ?_⟩) hHeld ?_ ?_
                      rotate_left
                      · rintro w' ⟨s0, s1, s2⟩
                        go_simp
                        with_reducible rfl
                      rotate_left
                      · simp only [Act.put, List.setIfInBounds_toArray, List.set_cons_zero, List.set_cons_succ, i64_w, i32_w]
                        rfl
                      refine pure_ (i := 12) (N := some 25) (v := ?_) (a' := ?_) #[true, true, true, true, true, true, true, true, true, true, true, true, true, true, true, true, false, false, false, false, false, false] rfl rfl (any_of HT_.out (by kernel_rfl)) (fun _ _ _ h => h) (Or.inl ⟨by rfl, ?_⟩) ?_ ?_
                      rotate_left
                      · intro w'
                        go_simp
                        with_reducible rfl
                      rotate_left
                      · simp only [Act.put, List.setIfInBounds_toArray, List.set_cons_zero, List.set_cons_succ, i64_w, i32_w]
                        rfl
                      refine take_ (i := 16) (N := some 29) (v := ?_) (a' := ?_) #[true, true, true, true, true, true, true, true, true, true, true, true, true, true, true, true, true, false, false, false, false, false] rfl rfl (take_ofW HT_.out HW_.out (by kernel_rfl)) (fun _ _ _ h => h) (Or.inl ⟨by rfl, ?_⟩) hHeld ?_ ?_
                      rotate_left
                      · rintro w' ⟨s0, s1, s2⟩
                        go_simp
                        with_reducible rfl
                      rotate_left
                      · simp only [Act.put, List.setIfInBounds_toArray, List.set_cons_zero, List.set_cons_succ, i64_w, i32_w]
                        rfl
                      refine pure_ (i := 17) (N := some 30) (v := ?_) (a' := ?_) #[true, true, true, true, true, true, true, true, true, true, true, true, true, true, true, true, true, true, false, false, false, false] rfl rfl (any_of HT_.out (by kernel_rfl)) (fun _ _ _ h => h) (Or.inl ⟨by rfl, ?_⟩) ?_ ?_
                      rotate_left
                      · intro w'
                        go_simp
                        with_reducible rfl
                      rotate_left
                      · simp only [Act.put, List.setIfInBounds_toArray, List.set_cons_zero, List.set_cons_succ, i64_w, i32_w]
                        rfl
                      refine pure_ (i := 18) (N := some 31) (v := ?_) (a' := ?_) #[true, true, true, true, true, true, true, true, true, true, true, true, true, true, true, true, true, true, true, false, false, false] rfl rfl (any_of HT_.out (by kernel_rfl)) (fun _ _ _ h => h) (Or.inl ⟨by rfl, ?_⟩) ?_ ?_
                      rotate_left
                      · intro w'
                        go_simp
                        with_reducible rfl
                      rotate_left
                      · simp only [Act.put, List.setIfInBounds_toArray, List.set_cons_zero, List.set_cons_succ, i64_w, i32_w]
                        rfl
                      refine pure_ (i := 19) (N := some 32) (v := ?_) (a' := ?_) #[true, true, true, true, true, true, true, true, true, true, true, true, true, true, true, true, true, true, true, true, false, false] rfl rfl (any_of HT_.out (by kernel_rfl)) (fun _ _ _ h => h) (Or.inl ⟨by rfl, ?_⟩) ?_ ?_
                      rotate_left
                      · intro w'
                        go_simp
                        with_reducible rfl
                      rotate_left
                      · simp only [Act.put, List.setIfInBounds_toArray, List.set_cons_zero, List.set_cons_succ, i64_w, i32_w]
                        rfl
                      refine pure_ (i := 20) (N := some 33) (v := ?_) (a' := ?_) #[true, true, true, true, true, true, true, true, true, true, true, true, true, true, true, true, true, true, true, true, true, false] rfl rfl (any_of HT_.out (by kernel_rfl)) (fun _ _ _ h => h) (Or.inl ⟨by rfl, ?_⟩) ?_ ?_
                      rotate_left
                      · intro w'
                        go_simp
                        with_reducible rfl
                      rotate_left
                      · simp only [Act.put, List.setIfInBounds_toArray, List.set_cons_zero, List.set_cons_succ, i64_w, i32_w]
                        rfl
                      refine last_ (i := 21) (N := none) #[true, true, true, true, true, true, true, true, true, true, true, true, true, true, true, true, true, true, true, true, true, true] rfl rfl (one_of HT_.out (by kernel_rfl)) (by decide) (fun K hK => ?_)
                      refine skip_ (w1 := ?_) (by rfl) rfl ?_ ?_
                      rotate_left
                      · go_simp
                        rfl
                      refine hK.out _ _ ?_
                      clear hK K
                      refine done_ (done_of HT_.out (by kernel_rfl)) ?_
                      try go_wp2
                      go_roundg k1
                      case measure => have := HK1.out; omega
                      case rel => exact ⟨(y193), (wrap64 (x4_1 + 2)), (by first | rfl | (simp; done) | (simp [*]; done)), H', ⟨by have := HK1.out; omega⟩, ⟨by (with_reducible repeat (first | apply Kd.R_alloc | apply Kd.R_drewN | apply Kd.R_drew)); exact HQ18.out⟩, ⟨by repeat (first | (with_reducible first | exact HB.out | apply below_alloc | apply pw_below_drewN | apply below_drew1 | refine below_set ?_ GB16.out) | exact HB.out)⟩⟩
                    · rw [if_neg c15] at H
                      exact absurd H (by simp)
                  · rw [if_neg c14] at H
                    exact absurd H (by simp)
                · rw [if_neg c11] at H
                  exact absurd H (by simp)
              · rw [if_neg c9] at H
                exact absurd H (by simp)
            · rw [if_neg c7] at H
              exact absurd H (by simp)
          · rw [if_neg c6] at H
            exact absurd H (by simp)
        · rw [if_neg c5] at H
          have c5b0 : decide ((wrap64 (x4_1 + 1)) < (l0.length : Int)) = false := decide_eq_false c5
          clear c5
          obtain rfl := Option.some.inj H
          go_wp2
          go_ret
          exact ⟨_, by first | rfl | (simp [errW_none, errW_some] <;> rfl) | (simp [*, errW_none, errW_some] <;> rfl), by (with_reducible repeat (first | apply Kd.R_alloc | apply Kd.R_drewN | apply Kd.R_drew)); exact HO_3.out, by repeat (first | (with_reducible first | exact HB.out | apply below_alloc | apply pw_below_drewN | apply below_drew1) | exact HB.out)⟩
  · rw [if_neg c2] at H
    exact absurd H (by simp)

end Go.Proofs.Ytlconnmfceabiaa.PA

-- ---- PAx18
/- The document's numbers of a sum: what the call answers, for every list and log. Conditions: the list's length fits a slice. -/
namespace Go.Proofs.Ytlconnmfceabiaa.PA
open Go.RowKit Go.Proofs.YtlconnmfceabiaaW.PrintWords Go.Proofs.YtlconnmfceabiaaW.PrintLast Go.Proofs.YtlconnmfceabiaaW.PrintMore
set_option linter.unusedVariables false
set_option linter.unusedSimpArgs false

def normE (l : List Int) (a : Int) : List Int × Int := if Nl.frB l = true ∧ 7 ≤ a ∧ a ≤ 12 then (Nl.normL l ((2 ^ a.toNat : Nat) : Int), 0) else ([], 1)
def wringerref7_Norm.f (l0 : List Int) (a1 : Int) : Option (List Int × Int) := if l0.length < 200000000000000 then some (normE l0 a1) else none
theorem wringerref7_Norm.calls (A0 : Option Addr) (c0 : Nat) (l0 : List Int) (a1 : Int) (r1 : List Int) (r2 : Int) (w : World) (hr0 : Kd.C (Kd.int .i64) w A0 l0.length l0) (hc0 : l0.length ≤ c0) (h : wringerref7_Norm.f l0 a1 = some (r1, r2)) :
    Calls Try.prog 21 #[.slice A0 l0.length c0, .int .i64 a1] w fun e w' => ∃ v0_ : Value, e = .returned (.agg #[v0_, .int .i64 r2]) ∧ Kd.R (Kd.int .i64) 3 w' w.heap.size (fun _ => True) v0_ r1 ∧ Below w.heap.size w w' := by
  unfold wringerref7_Norm.f at h
  split at h
  · rename_i hn
    have h := Option.some.inj h
    unfold normE at h
    split at h
    · rename_i hg
      obtain ⟨rfl, rfl⟩ := Prod.mk.inj h
      obtain ⟨m, rfl⟩ := Int.eq_ofNat_of_zero_le (show 0 ≤ a1 by omega)
      refine (rnorm_ok A0 c0 l0 m w hr0 hc0 ((Nl.frB_iff l0).1 hg.1) (by omega) (by omega)).mono ?_
      rintro e w' ⟨v, rfl, ho, hnew, hb⟩
      exact ⟨v, rfl, Own.R_of_owns (by rw [Int.toNat_natCast]; exact ho) hnew, hb⟩
    · rename_i hg
      obtain ⟨rfl, rfl⟩ := Prod.mk.inj h
      refine (rnorm_bad A0 c0 l0 a1 w hr0 hc0 hn hg).mono ?_
      rintro e w' ⟨rfl, hb⟩
      exact ⟨_, rfl, Kd.R_nil _ _ _ _ _, hb⟩
  · cases h
end Go.Proofs.Ytlconnmfceabiaa.PA

-- ---- PAx19

namespace Go.Proofs.Ytlconnmfceabiaa.PA
open Go.RowKit Go.Proofs.YtlconnmfceabiaaW.PrintWords Go.Proofs.YtlconnmfceabiaaW.PrintLast Go.Proofs.YtlconnmfceabiaaW.PrintMore
attribute [local go_sem] max2_int min2_int max_two min_two max_three min_three max_four min_four   -- for this text's walks alone
set_option linter.unusedVariables false
set_option linter.unusedSimpArgs false

/-! ### wringerlaw13_Counts: function 16 -/
def wringerlaw13_Counts.f (k : Nat) (l0 : List Int) (a1 : Int) : Option (List Int × Int) := (wringerlaw8_Freq.f k l0).bind fun t207 => (if 2 < (t207.length : Int) then ((wringerref7_Norm.f (t207.set (2 : Int).toNat (wrap64 ((rd t207 2) + 1))) (wrap64 (7 + (Int.tmod (wrap64 (a1)) 6)))).bind fun bt212 => (some (bt212.1, wrap64 (7 + (Int.tmod (wrap64 (a1)) 6))))) else (none))
theorem wringerlaw13_Counts.mono : ∀ a0 a1 k, LeO (wringerlaw13_Counts.f k a0 a1) (wringerlaw13_Counts.f (k + 1) a0 a1) := by
  intro a0 a1 k
  unfold wringerlaw13_Counts.f
  repeat' first
      | (with_reducible exact wringerlaw8_Freq.mono _ _)
      | (with_reducible exact LeO.refl _)
      | (with_reducible exact LeO.none _)
      | (with_reducible refine LeO.ite ?_ ?_)
      | (with_reducible refine LeO.bind ?_ (fun _ => ?_))
      | exact wringerlaw8_Freq.mono _ _
      | exact LeO.none _
      | refine LeO.ite ?_ ?_
      | refine LeO.bind ?_ (fun _ => ?_)
set_option maxHeartbeats 8000000 in
set_option maxRecDepth 100000 in
theorem wringerlaw13_Counts.calls (k : Nat) (A0 : Option Addr) (c0 : Nat) (l0 : List Int) (a1 : Int) (r1 : List Int) (r2 : Int) (w : World) (hr0 : Kd.C (Kd.int .u16) w A0 l0.length l0) (hc0 : l0.length ≤ c0) (h : wringerlaw13_Counts.f k l0 a1 = some (r1, r2)) :
    Calls Try.prog 16 #[.slice A0 l0.length c0, .int .u8 a1] w fun e w' => ∃ v0_ : Value, e = .returned (.tuple #[v0_, .int .i64 r2]) ∧ Kd.R (Kd.int .i64) 3 w' w.heap.size (fun _ => True) v0_ r1 ∧ Below w.heap.size w w' := by
  have hf28_0 : ∀ (v0_ v1_ : Value) (w_ : World), (Instr.field 28 (.agg #[v0_, v1_]) 0).run Try.prog w_ = .ok v0_ w_ := fun v0_ v1_ w_ => by
    unfold Instr.field
    rw [Sem.run_bind, run_underlying Try.underlying28 w_]
    simp [part, asAgg, Sem.run_bind, isAgg, run_underlying Try.underlying3 w_, run_underlying Try.underlying22 w_, Result.andThen]
  have HR0 := Aside0.mk hr0
  have HC0 := Aside0.mk hc0
  clear hr0 hc0
  have HB := Aside0.mk (Below.refl w.heap.size w)
  have H : ((wringerlaw8_Freq.f k l0).bind fun t207 => (if 2 < (t207.length : Int) then ((wringerref7_Norm.f (t207.set (2 : Int).toNat (wrap64 ((rd t207 2) + 1))) (wrap64 (7 + (Int.tmod (wrap64 (a1)) 6)))).bind fun bt212 => (some (bt212.1, wrap64 (7 + (Int.tmod (wrap64 (a1)) 6))))) else (none))) = some (r1, r2) := h
  clear h
  replace H := Option.bind_eq_some_iff.mp H
  obtain ⟨t207, A30, H⟩ := H
  replace H : (if 2 < (t207.length : Int) then ((wringerref7_Norm.f (t207.set (2 : Int).toNat (wrap64 ((rd t207 2) + 1))) (wrap64 (7 + (Int.tmod (wrap64 (a1)) 6)))).bind fun bt212 => (some (bt212.1, wrap64 (7 + (Int.tmod (wrap64 (a1)) 6))))) else (none)) = some (r1, r2) := H
  have A3 := Aside0.mk A30
  clear A30
  by_cases c4 : 2 < (t207.length : Int)
  · rw [if_pos c4] at H
    have c4b0 : decide (2 < (t207.length : Int)) = true := decide_eq_true c4
    have c4b1 : decide (2 < t207.length) = true := decide_eq_true (by omega)
    clear c4
    obtain ⟨y211, hy211⟩ : ∃ y_ : List Int, y_ = (t207.set (2 : Int).toNat (wrap64 ((rd t207 2) + 1))) := ⟨_, rfl⟩
    replace H : ((wringerref7_Norm.f y211 (wrap64 (7 + (Int.tmod (wrap64 (a1)) 6)))).bind fun bt212 => (some (bt212.1, wrap64 (7 + (Int.tmod (wrap64 (a1)) 6))))) = some (r1, r2) := by first | (rw [hy211]; with_reducible exact H) | (have H2_ := (Option.bind_some _ _).symm.trans H; rw [hy211]; with_reducible exact H2_) | (have H2_ := (Option.bind_some _ _).symm.trans H; with_reducible exact H2_) | with_reducible exact H | (rw [hy211]; exact H) | exact H
    have Ny211 := Aside0.mk hy211
    clear hy211
    replace H := Option.bind_eq_some_iff.mp H
    obtain ⟨⟨t212, t215⟩, A60, H⟩ := H
    replace H : (some (t212, wrap64 (7 + (Int.tmod (wrap64 (a1)) 6)))) = some (r1, r2) := H
    have A6 := Aside0.mk A60
    clear A60
    simp only [Option.some.injEq, Prod.mk.injEq] at H
    obtain ⟨rfl, rfl⟩ := H
    go_enter Try.func16, Try.ntmps16
    go_wp2_with (first | ((with_reducible refine gate_callee (f := 20) rfl ?_); refine goesL_ (some 9) rfl rfl Try.func20 (by kernel_rfl) rfl #[.slice A0 l0.length c0] rfl (by (try simp only [List.map_toArray, List.map_cons, List.map_nil]); first | done | rfl | (simp only [List.length_drop, List.length_take]; rfl)) ?_; (with_reducible refine (wringerlaw8_Freq.calls k _ _ l0 t207 _ ?side1 ?side2 A3.out).mono ?_); (case side1 => repeat (first | exact HR0.out | (with_reducible refine Kd.C_alloc ?_ _) | (with_reducible refine Kd.C_drewN ?_ _) | (with_reducible refine Kd.C_drew ?_))); (case side2 => exact HC0.out); rintro e w7 ⟨v208, rfl, ho0, hb⟩; refine ⟨_, rfl, ?_⟩; have n0_ := Aside0.mk (Kd.R_lower ho0 (below_size (by repeat (first | (with_reducible first | exact HB.out | apply below_alloc | apply pw_below_drewN | apply below_drew1) | exact HB.out)))); have n1_ := Aside0.mk (below_step (by repeat (first | (with_reducible first | exact HB.out | apply below_alloc | apply pw_below_drewN | apply below_drew1) | exact HB.out)) hb); clear HB; have HO209 := n0_; have HB := n1_; clear n0_ n1_; (try clear hb); (try clear hb2); (try clear hk); (try clear hi); (try clear ho0); obtain ⟨Ao8, co8, eo8⟩ := Kd.R_slice HO209.out; subst eo8; have p210 : 0 ≤ (2 : Int) := (by omega); have q210 : 2 < (t207.length : Int) := of_decide_eq_true (by first | (with_reducible assumption) | assumption); obtain ⟨ad210, e210, hx210_0⟩ := Kd.at_int (Kd.R_reads' HO209.out).2.2 2 p210 q210; cases e210; (try simp only [show (2 : Int).toNat = 2 from rfl, Nat.reduceMul, Nat.reduceEqDiff, Go.Addr.add, ↓reduceIte] at hx210_0); have qi210 : (2 < t207.length) = True := eq_true (by omega); (try rw [show ((2 : Int)).toNat = 2 from rfl] at hx210_0); replace p210 := eq_true p210; replace q210 := eq_true q210; have p5 : 0 ≤ (2 : Int) := (by omega); have q5 : (2 : Int) < ((t207.length : Int) : Int) := of_decide_eq_true (by first | (with_reducible assumption) | assumption); have qi5 : (2 < t207.length) = True := eq_true (by omega); obtain ⟨go5, co5, eo5, gb5, gl5, cl5, HG5⟩ := Kd.R_form HO209.out (by omega); (first | cases eo5 | (injection eo5 with ea_ en_ ec_; (first | subst ea_ | (injection ea_ with ea_; subst ea_)); subst ec_; clear en_)); have GB5 := Aside0.mk gb5; have GG5 := Aside0.mk HG5; clear gb5 gl5 HG5; (first | simp only [add_plain] at hx210_0 | skip); obtain ⟨hx5_0, hf5_0⟩ := Kd.R_celln 0 HO209.out (2 : Int) p5 q5; (try rw [show ((2 : Int)).toNat = 2 from rfl] at hx5_0); (try simp only [Nat.reduceMul, Nat.zero_mul, Nat.zero_add, Nat.reduceAdd] at hx5_0); (try rw [show ((2 : Int)).toNat = 2 from rfl] at hf5_0); (try simp only [Nat.reduceMul, Nat.zero_mul, Nat.zero_add, Nat.reduceAdd] at hf5_0); replace p5 := eq_true p5; replace q5 := eq_true q5; obtain ⟨hy9_, hz9_⟩ := Kd.R_celln 0 HO209.out (2 : Int) (by omega) (of_decide_eq_true (by first | (with_reducible assumption) | assumption)); (try simp only [Int.reduceToNat, Int.toNat_zero, Int.toNat_ofNat, Nat.reduceMul, Nat.zero_mul, Nat.zero_add] at hy9_ hz9_); (try rw [show ((2 : Int)).toNat = 2 from rfl] at hy9_); (try rw [show ((2 : Int)).toNat = 2 from rfl] at hz9_); have HP9 := Kd.R_putg HO209.out (2 : Int) (wrap64 ((rd t207 2) + 1))) | ((with_reducible refine gate_store (t := 3) (p := 15) rfl ?_); refine store_event (t := 3) (p := 15) (v := ?vo_w10) (w1 := (w7.setCell ⟨go5, (2 : Int).toNat, none⟩ (.int .i64 (wrap64 ((rd t207 2) + 1))))) ?hg ?ho ?hn ?hr ?_; (case ho => rfl); (case hg => rfl); (case hn => rfl); (case hr => first | (go_simp; done) | (go_simp; rfl)); intro w10 hw; have hg : w7.grownBy w10 (some go5) := (by rw [hw]; exact HP9.2); have hp_ : Kd.R (Kd.int .i64) 3 w10 w.heap.size (fun _ => True) (.slice (some ⟨go5, 0, none⟩) t207.length co8) y211 := (by rw [hw, Ny211.out]; exact HP9.1); clear HP9; have n0_ := Aside0.mk (hp_); have n1_ := Aside0.mk ((by rw [hw]; exact below_set (HB.out) GB5.out : Below w.heap.size w w10)); clear HO209; clear HB; have HO209 := n0_; have HB := n1_; clear n0_ n1_; clear hg hw hp_) | ((with_reducible refine gate_callee (f := 21) rfl ?_); refine goesL_ (some 22) rfl rfl Try.func21 (by kernel_rfl) rfl #[.slice (some ⟨go5, 0, none⟩) y211.length co8, .int .i64 (wrap64 (7 + (Int.tmod (wrap64 (a1)) 6)))] rfl (by (try simp only [List.map_toArray, List.map_cons, List.map_nil]); first | done | (rw [show y211.length = t207.length from (Kd.R_reads' HO209.out).1.symm] <;> rfl) | rfl | (simp only [List.length_drop, List.length_take]; rfl)) ?_; (with_reducible refine (wringerref7_Norm.calls _ _ y211 (wrap64 (7 + (Int.tmod (wrap64 (a1)) 6))) t212 t215 _ ?side1 ?side2 A6.out).mono ?_); (case side1 => repeat (first | exact (Kd.R_reads' HO209.out).2.2 | (with_reducible refine Kd.C_alloc ?_ _) | (with_reducible refine Kd.C_drewN ?_ _) | (with_reducible refine Kd.C_drew ?_))); (case side2 => rw [show y211.length = t207.length from (Kd.R_reads' HO209.out).1.symm]; exact (Kd.R_reads' HO209.out).2.1); rintro e w11 ⟨v213, rfl, ho0, hb⟩; refine ⟨_, rfl, ?_⟩; have n0_ := Aside0.mk (Kd.R_elder' (by (with_reducible repeat (first | apply Kd.R_alloc | apply Kd.R_drewN | apply Kd.R_drew)); exact HO209.out) (Kd.R_base ho0) hb); have n1_ := Aside0.mk (Kd.R_lower (Kd.R_new' ho0 (Kd.R_lt (by (with_reducible repeat (first | apply Kd.R_alloc | apply Kd.R_drewN | apply Kd.R_drew)); exact HO209.out))) (below_size (by repeat (first | (with_reducible first | exact HB.out | apply below_alloc | apply pw_below_drewN | apply below_drew1) | exact HB.out)))); have n2_ := Aside0.mk (below_step (by repeat (first | (with_reducible first | exact HB.out | apply below_alloc | apply pw_below_drewN | apply below_drew1) | exact HB.out)) hb); clear HO209; clear HB; have HO209 := n0_; have HO214 := n1_; have HB := n2_; clear n0_ n1_ n2_; (try clear hb); (try clear hb2); (try clear hk); (try clear hi); (try clear ho0)))
    go_ret2
    exact ⟨_, by first | rfl | (simp [errW_none, errW_some] <;> rfl) | (simp [*, errW_none, errW_some] <;> rfl), by (with_reducible repeat (first | apply Kd.R_alloc | apply Kd.R_drewN | apply Kd.R_drew)); exact Kd.R_mono HO214.out (fun _ hk => trivial), by repeat (first | (with_reducible first | exact HB.out | apply below_alloc | apply pw_below_drewN | apply below_drew1) | exact HB.out)⟩
  · rw [if_neg c4] at H
    exact absurd H (by simp)

end Go.Proofs.Ytlconnmfceabiaa.PA

-- ---- PAx2

namespace Go.Proofs.Ytlconnmfceabiaa.PA
open Go.RowKit Go.Proofs.YtlconnmfceabiaaW.PrintWords Go.Proofs.YtlconnmfceabiaaW.PrintLast Go.Proofs.YtlconnmfceabiaaW.PrintMore
attribute [local go_sem] max2_int min2_int max_two min_two max_three min_three max_four min_four   -- for this text's walks alone
set_option linter.unusedVariables false
set_option linter.unusedSimpArgs false

/-! ### norm_mayLog: function 22 -/
def norm_mayLog.f (a0 : Int) : Option (Bool) := if a0 ≥ 7 then (some (decide (a0 ≤ 12))) else (some false)
set_option maxHeartbeats 8000000 in
set_option maxRecDepth 100000 in
theorem norm_mayLog.calls (a0 : Int) (r : Bool) (w : World) (h : norm_mayLog.f a0 = some r) :
    Calls Try.prog 22 #[.int .i64 a0] w fun e w' => e = .returned (.bool r) ∧ Drawn0 w w' := by
  have H : (if a0 ≥ 7 then (some (decide (a0 ≤ 12))) else (some false)) = some r := h
  clear h
  by_cases c2 : a0 ≥ 7
  · rw [if_pos c2] at H
    have c2b0 : decide (7 ≤ a0) = true := decide_eq_true c2
    clear c2
    obtain rfl := Option.some.inj H
    go_enter Try.func22, Try.ntmps22
    go_wp2
    go_ret
    exact ⟨by first | rfl | (simp; done) | (simp [*]; done), by repeat (first | exact Drawn0.refl _ | apply Drawn0.step)⟩
  · rw [if_neg c2] at H
    have c2b0 : decide (7 ≤ a0) = false := decide_eq_false c2
    clear c2
    obtain rfl := Option.some.inj H
    go_enter Try.func22, Try.ntmps22
    go_wp2
    go_ret
    exact ⟨by first | rfl | (simp; done) | (simp [*]; done), by repeat (first | exact Drawn0.refl _ | apply Drawn0.step)⟩

end Go.Proofs.Ytlconnmfceabiaa.PA

-- ---- PAx3

namespace Go.Proofs.Ytlconnmfceabiaa.PA
open Go.RowKit Go.Proofs.YtlconnmfceabiaaW.PrintWords Go.Proofs.YtlconnmfceabiaaW.PrintLast Go.Proofs.YtlconnmfceabiaaW.PrintMore
attribute [local go_sem] max2_int min2_int max_two min_two max_three min_three max_four min_four   -- for this text's walks alone
set_option linter.unusedVariables false
set_option linter.unusedSimpArgs false

/-! ### norm_May: function 17 -/
mutual
def norm_May.j0 : Nat → List Int → Int → Bool → Option (Bool)
  | 0, _, _, _ => none
  | k + 1, x0, x1, x16 => if x16 = true then (some false) else (if 0 ≤ x1 then (norm_May.l0 k (shl .i64 1 x1) 0 x0 (x0.length : Int) 0) else (none))
def norm_May.l0 : Nat → Int → Int → List Int → Int → Int → Option (Bool)
  | 0, _, _, _, _, _ => none
  | k + 1, x5, x6, x19, x20, x21 => if x21 < x20 then (if 0 ≤ x21 then (if x21 < (x19.length : Int) then (if (rd x19 x21) < 0 then (some false) else (if (rd x19 x21) > x5 then (some false) else (norm_May.l0 k x5 (wrap64 (x6 + (rd x19 x21))) x19 x20 (wrap64 (x21 + 1))))) else (none)) else (none)) else (some (x6 == x5))
end
def norm_May.f (k : Nat) (l0 : List Int) (a1 : Int) : Option (Bool) := (norm_mayLog.f a1).bind fun t101 => (if t101 = true then (norm_May.j0 k l0 a1 ((l0.length : Int) != 65)) else (norm_May.j0 k l0 a1 true))
theorem norm_May.mono_l : ∀ k, (∀ y0 y1 y2, LeO (norm_May.j0 k y0 y1 y2) (norm_May.j0 (k + 1) y0 y1 y2)) ∧ (∀ y0 y1 y2 y3 y4, LeO (norm_May.l0 k y0 y1 y2 y3 y4) (norm_May.l0 (k + 1) y0 y1 y2 y3 y4))
  | 0 => ⟨fun _ _ _ r h => by simp [norm_May.j0] at h, fun _ _ _ _ _ r h => by simp [norm_May.l0] at h⟩
  | k + 1 => by
    obtain ⟨ih0, ih1⟩ := norm_May.mono_l k
    refine ⟨?_, ?_⟩
    · intro y0 y1 y2
      unfold norm_May.j0
      repeat' first
      | (with_reducible exact ih0 _ _ _)
      | (with_reducible exact ih1 _ _ _ _ _)
      | (with_reducible exact LeO.refl _)
      | (with_reducible exact LeO.none _)
      | (with_reducible refine LeO.ite ?_ ?_)
      | (with_reducible refine LeO.bind ?_ (fun _ => ?_))
      | exact ih0 _ _ _
      | exact ih1 _ _ _ _ _
      | exact LeO.none _
      | refine LeO.ite ?_ ?_
      | refine LeO.bind ?_ (fun _ => ?_)
    · intro y0 y1 y2 y3 y4
      unfold norm_May.l0
      repeat' first
      | (with_reducible exact ih0 _ _ _)
      | (with_reducible exact ih1 _ _ _ _ _)
      | (with_reducible exact LeO.refl _)
      | (with_reducible exact LeO.none _)
      | (with_reducible refine LeO.ite ?_ ?_)
      | (with_reducible refine LeO.bind ?_ (fun _ => ?_))
      | exact ih0 _ _ _
      | exact ih1 _ _ _ _ _
      | exact LeO.none _
      | refine LeO.ite ?_ ?_
      | refine LeO.bind ?_ (fun _ => ?_)
theorem norm_May.mono : ∀ a0 a1 k, LeO (norm_May.f k a0 a1) (norm_May.f (k + 1) a0 a1) := by
  intro a0 a1 k
  obtain ⟨ih0, ih1⟩ := norm_May.mono_l k
  unfold norm_May.f
  repeat' first
      | (with_reducible exact ih0 _ _ _)
      | (with_reducible exact ih1 _ _ _ _ _)
      | (with_reducible exact LeO.refl _)
      | (with_reducible exact LeO.none _)
      | (with_reducible refine LeO.ite ?_ ?_)
      | (with_reducible refine LeO.bind ?_ (fun _ => ?_))
      | exact ih0 _ _ _
      | exact ih1 _ _ _ _ _
      | exact LeO.none _
      | refine LeO.ite ?_ ?_
      | refine LeO.bind ?_ (fun _ => ?_)
set_option maxHeartbeats 8000000 in
set_option maxRecDepth 100000 in
theorem norm_May.calls (k : Nat) (A0 : Option Addr) (c0 : Nat) (l0 : List Int) (a1 : Int) (r : Bool) (w : World) (hr0 : Kd.C (Kd.int .i64) w A0 l0.length l0) (hc0 : l0.length ≤ c0) (h : norm_May.f k l0 a1 = some r) :
    Calls Try.prog 17 #[.slice A0 l0.length c0, .int .i64 a1] w fun e w' => e = .returned (.bool r) ∧ Drawn0 w w' := by
  have HR0 := Aside0.mk hr0
  have HC0 := Aside0.mk hc0
  clear hr0 hc0
  have H : ((norm_mayLog.f a1).bind fun t101 => (if t101 = true then (norm_May.j0 k l0 a1 ((l0.length : Int) != 65)) else (norm_May.j0 k l0 a1 true))) = some r := h
  clear h
  have HC3 := Aside0.mk H
  clear H
  go_enter Try.func17, Try.ntmps17
  go_upto_region 1 with (fail)
  go_cut [16] (fun v16 wc => ∃ (kq : Nat) (x16_2 : Bool), v16 = .bool x16_2 ∧ Aside0 (norm_May.j0 kq l0 a1 x16_2 = some r) ∧ Aside0 (kq ≤ k) ∧ Drawn0 w wc)
  case first =>
    have H := HC3.out
    clear HC3
    replace H := Option.bind_eq_some_iff.mp H
    obtain ⟨t101, A40, H⟩ := H
    replace H : (if t101 = true then (norm_May.j0 k l0 a1 ((l0.length : Int) != 65)) else (norm_May.j0 k l0 a1 true)) = some r := H
    have A4 := Aside0.mk A40
    clear A40
    by_cases c5 : t101 = true
    · subst c5
      have H1 : (norm_May.j0 k l0 a1 ((l0.length : Int) != 65)) = some r := by rw [if_pos rfl] at H; exact H
      clear H
      have H := H1
      clear H1
      have H' := Aside0.mk H
      clear H
      go_wp2_with (first | ((with_reducible refine gate_callee (f := 22) rfl ?_); refine goesL_ (some 10) rfl rfl Try.func22 (by kernel_rfl) rfl #[.int .i64 a1] rfl (by (try simp only [List.map_toArray, List.map_cons, List.map_nil]); first | done | rfl | (simp only [List.length_drop, List.length_take]; rfl)) ?_; (with_reducible refine (norm_mayLog.calls a1 true _ A4.out).mono ?_); rintro e w' ⟨rfl, ⟨nd, rfl⟩⟩; refine ⟨_, rfl, ?_⟩))
      go_meet
      case rel => exact ⟨_, (((l0.length : Int) != 65)), (by first | rfl | (simp; done) | (simp [*]; done)), H', ⟨by first | omega | exact Nat.le_refl _⟩, by repeat (first | exact Drawn0.refl _ | apply Drawn0.step)⟩
    · replace c5 := Bool.eq_false_iff.mpr c5
      subst c5
      have H1 : (norm_May.j0 k l0 a1 true) = some r := by rw [if_neg (show ¬ (false = true) by decide)] at H; exact H
      clear H
      have H := H1
      clear H1
      have H' := Aside0.mk H
      clear H
      go_wp2_with (first | ((with_reducible refine gate_callee (f := 22) rfl ?_); refine goesL_ (some 10) rfl rfl Try.func22 (by kernel_rfl) rfl #[.int .i64 a1] rfl (by (try simp only [List.map_toArray, List.map_cons, List.map_nil]); first | done | rfl | (simp only [List.length_drop, List.length_take]; rfl)) ?_; (with_reducible refine (norm_mayLog.calls a1 false _ A4.out).mono ?_); rintro e w' ⟨rfl, ⟨nd, rfl⟩⟩; refine ⟨_, rfl, ?_⟩))
      go_meet
      case rel => exact ⟨_, (true), (by first | rfl | (simp; done) | (simp [*]; done)), H', ⟨by first | omega | exact Nat.le_refl _⟩, by repeat (first | exact Drawn0.refl _ | apply Drawn0.step)⟩
  case rest =>
    clear HC3
    try clear c1
    try clear c2
    try clear p2
    try clear c5
    obtain ⟨kq, x16_2, rfl, HA, HJ2, ⟨mc2, rfl⟩⟩ := hcut
    cases kq with
    | zero => exact absurd HA.out (by simp [norm_May.j0])
    | succ kj2 =>
      have H := HA.out
      clear HA
      simp only [norm_May.j0] at H
      by_cases c6 : x16_2 = true
      · subst c6
        have H1 : (some false) = some r := by rw [if_pos rfl] at H; exact H
        clear H
        have H := H1
        clear H1
        obtain rfl := Option.some.inj H
        go_wp2
        go_ret
        exact ⟨by first | rfl | (simp; done) | (simp [*]; done), by repeat (first | exact Drawn0.refl _ | apply Drawn0.step)⟩
      · replace c6 := Bool.eq_false_iff.mpr c6
        subst c6
        have H1 : (if 0 ≤ a1 then (norm_May.l0 kj2 (shl .i64 1 a1) 0 l0 (l0.length : Int) 0) else (none)) = some r := by rw [if_neg (show ¬ (false = true) by decide)] at H; exact H
        clear H
        have H := H1
        clear H1
        by_cases c7 : 0 ≤ a1
        · rw [if_pos c7] at H
          have c7b0 := eq_true c7
          have c7b1 : decide (0 ≤ a1) = true := decide_eq_true c7
          clear c7
          obtain ⟨ji8, hji8⟩ : ∃ j_ : Int, (shl .i64 1 a1) = j_ := ⟨_, rfl⟩
          replace H : (norm_May.l0 kj2 ji8 0 l0 (l0.length : Int) 0) = some r := by first | (rw [hji8] at H; exact H) | (simp only [hji8] at H ⊢; exact H)
          have hji8_ : (IntKind.i64.wrap (1 * 2 ^ min a1.toNat 64)) = ji8 := hji8
          have hji8z : a1 ≤ 64 → (IntKind.i64.wrap (1 * 2 ^ a1.toNat)) = ji8 := shl_small hji8
          have hji8u : (IntKind.i64.wrap (2 ^ min a1.toNat 64)) = ji8 := by have h_ := hji8_; rw [Int.one_mul] at h_; exact h_
          have hji8v : a1 ≤ 64 → (IntKind.i64.wrap (2 ^ a1.toNat)) = ji8 := fun hle_ => by have h_ := hji8z hle_; rw [Int.one_mul] at h_; exact h_
          have hji8y : (wrap64 (1 * 2 ^ min a1.toNat 64)) = ji8 := (i64_w _).symm.trans hji8_
          have hji8x : a1 ≤ 64 → (wrap64 (1 * 2 ^ a1.toNat)) = ji8 := fun h_ => (i64_w _).symm.trans (hji8z h_)
          have H' := Aside0.mk H
          clear H
          go_wp2
          go_loopg [6, 21] kj2 (fun kq v6 v21 w' => ∃ (x6_2 : Int) (x21_2 : Int), v6 = .int .i64 x6_2 ∧ v21 = .int .i64 x21_2 ∧ Aside0 (norm_May.l0 kq ji8 x6_2 l0 (l0.length : Int) x21_2 = some r) ∧ Aside0 (kq ≤ kj2) ∧ Drawn0 w w')
          case atStart => exact ⟨(0), (0), (by first | rfl | (simp; done) | (simp [*]; done)), (by first | rfl | (simp; done) | (simp [*]; done)), H', ⟨Nat.le_refl _⟩, by repeat (first | exact Drawn0.refl _ | apply Drawn0.step)⟩
          case round =>
            clear H'
            try clear c1
            try clear c2
            try clear p2
            try clear c5
            try clear c6
            try clear p6
            try clear c7
            try clear c7b0
            try clear c7b1
            try clear p2
            obtain ⟨x6_2, x21_2, rfl, rfl, HA, HK2, ⟨m2, rfl⟩⟩ := hrel
            cases gk with
            | zero => exact absurd HA.out (by simp [norm_May.l0])
            | succ k2 =>
              have H := HA.out
              clear HA
              simp only [norm_May.l0] at H
              by_cases c9 : x21_2 < (l0.length : Int)
              · rw [if_pos c9] at H
                have c9b0 : decide (x21_2 < (l0.length : Int)) = true := decide_eq_true c9
                clear c9
                by_cases c10 : 0 ≤ x21_2
                · rw [if_pos c10] at H
                  have c10b0 : decide (0 ≤ x21_2) = true := decide_eq_true c10
                  clear c10
                  by_cases c11 : x21_2 < (l0.length : Int)
                  · rw [if_pos c11] at H
                    have c11b0 : decide (x21_2 < (l0.length : Int)) = true := decide_eq_true c11
                    clear c11
                    by_cases c12 : (rd l0 x21_2) < 0
                    · rw [if_pos c12] at H
                      have c12b0 : decide ((rd l0 x21_2) < 0) = true := decide_eq_true c12
                      clear c12
                      obtain rfl := Option.some.inj H
                      have p102 : 0 ≤ (x21_2 : Int) := of_decide_eq_true (by first | (with_reducible assumption) | assumption)
                      have q102 : x21_2 < (l0.length : Int) := of_decide_eq_true (by first | (with_reducible assumption) | assumption)
                      obtain ⟨ad102, e102, hx102_0⟩ := Kd.at_int HR0.out x21_2 p102 q102
                      cases e102
                      replace p102 := eq_true p102
                      replace q102 := eq_true q102
                      go_wp2
                      go_ret
                      exact ⟨by first | rfl | (simp; done) | (simp only [← hji8] <;> (first | rfl | simp)) | (simp [*]; done), by repeat (first | exact Drawn0.refl _ | apply Drawn0.step)⟩
                    · rw [if_neg c12] at H
                      have c12b0 : decide ((rd l0 x21_2) < 0) = false := decide_eq_false c12
                      clear c12
                      by_cases c13 : (rd l0 x21_2) > ji8
                      · rw [if_pos c13] at H
                        have c13b0 : decide (ji8 < (rd l0 x21_2)) = true := decide_eq_true c13
                        clear c13
                        obtain rfl := Option.some.inj H
                        have p102 : 0 ≤ (x21_2 : Int) := of_decide_eq_true (by first | (with_reducible assumption) | assumption)
                        have q102 : x21_2 < (l0.length : Int) := of_decide_eq_true (by first | (with_reducible assumption) | assumption)
                        obtain ⟨ad102, e102, hx102_0⟩ := Kd.at_int HR0.out x21_2 p102 q102
                        cases e102
                        replace p102 := eq_true p102
                        replace q102 := eq_true q102
                        go_wp2
                        go_ret
                        exact ⟨by first | rfl | (simp; done) | (simp only [← hji8] <;> (first | rfl | simp)) | (simp [*]; done), by repeat (first | exact Drawn0.refl _ | apply Drawn0.step)⟩
                      · rw [if_neg c13] at H
                        have c13b0 : decide (ji8 < (rd l0 x21_2)) = false := decide_eq_false c13
                        clear c13
                        have H' := Aside0.mk H
                        clear H
                        have p102 : 0 ≤ (x21_2 : Int) := of_decide_eq_true (by first | (with_reducible assumption) | assumption)
                        have q102 : x21_2 < (l0.length : Int) := of_decide_eq_true (by first | (with_reducible assumption) | assumption)
                        obtain ⟨ad102, e102, hx102_0⟩ := Kd.at_int HR0.out x21_2 p102 q102
                        cases e102
                        replace p102 := eq_true p102
                        replace q102 := eq_true q102
                        go_wp2
                        go_roundg k2
                        case measure => have := HJ2.out; have := HK2.out; omega
                        case rel => exact ⟨(wrap64 (x6_2 + (rd l0 x21_2))), (wrap64 (x21_2 + 1)), (by first | rfl | (simp; done) | (simp [*]; done)), (by first | rfl | (simp; done) | (simp [*]; done)), H', ⟨by have := HJ2.out; have := HK2.out; omega⟩, by repeat (first | exact Drawn0.refl _ | apply Drawn0.step)⟩
                  · rw [if_neg c11] at H
                    exact absurd H (by simp)
                · rw [if_neg c10] at H
                  exact absurd H (by simp)
              · rw [if_neg c9] at H
                have c9b0 : decide (x21_2 < (l0.length : Int)) = false := decide_eq_false c9
                clear c9
                obtain rfl := Option.some.inj H
                go_wp2
                go_ret
                exact ⟨by first | rfl | (simp; done) | (simp only [← hji8] <;> (first | rfl | simp)) | (simp [*]; done), by repeat (first | exact Drawn0.refl _ | apply Drawn0.step)⟩
        · rw [if_neg c7] at H
          exact absurd H (by simp)

end Go.Proofs.Ytlconnmfceabiaa.PA

-- ---- PAx4

namespace Go.Proofs.Ytlconnmfceabiaa.PA
open Go.RowKit Go.Proofs.YtlconnmfceabiaaW.PrintWords Go.Proofs.YtlconnmfceabiaaW.PrintLast Go.Proofs.YtlconnmfceabiaaW.PrintMore
attribute [local go_sem] max2_int min2_int max_two min_two max_three min_three max_four min_four   -- for this text's walks alone
set_option linter.unusedVariables false
set_option linter.unusedSimpArgs false

/-! ### spread_Spread: function 9 -/
mutual
def spread_Spread.l0 : Nat → Int → List Int → Int → List Int → Int → Int → Option (List Int × Int)
  | 0, _, _, _, _, _, _ => none
  | k + 1, x6, x7, x8, x19, x20, x21 => if x21 < x20 then (if 0 ≤ x21 then (if x21 < (x19.length : Int) then (spread_Spread.l1 k x6 x7 x8 x21 x19 x20 x21 (rd x19 x21) 0) else (none)) else (none)) else (some (x7, 0))
def spread_Spread.l1 : Nat → Int → List Int → Int → Int → List Int → Int → Int → Int → Int → Option (List Int × Int)
  | 0, _, _, _, _, _, _, _, _, _ => none
  | k + 1, x6, x7, x8, x9, x19, x20, x21, x26, x27 => if x27 < x26 then (if 0 ≤ x8 then (if x8 < (x7.length : Int) then (if x6 = 0 then (none) else (spread_Spread.l1 k x6 (x7.set (x8 : Int).toNat x9) (Int.tmod (wrap64 ((wrap64 ((wrap64 (x8 + (wrap64 (Int.tdiv x6 2)))) + (wrap64 (Int.tdiv x6 8)))) + 3)) x6) x9 x19 x20 x21 x26 (wrap64 (x27 + 1)))) else (none)) else (none)) else (spread_Spread.l0 k x6 x7 x8 x19 x20 (wrap64 (x21 + 1)))
end
def spread_Spread.f (k : Nat) (l0 : List Int) (a1 : Int) : Option (List Int × Int) := (norm_May.f k l0 a1).bind fun t103 => (if t103 = true then (if 0 ≤ a1 then (if 0 ≤ (shl .i64 1 a1) then (if (shl .i64 1 a1 : Int).toNat ≤ 35184372088832 then (spread_Spread.l0 k (shl .i64 1 a1) (List.replicate (shl .i64 1 a1 : Int).toNat 0) 0 l0 (l0.length : Int) 0) else (none)) else (none)) else (none)) else (some (([] : List Int), 3)))
theorem spread_Spread.mono_l : ∀ k, (∀ y0 y1 y2 y3 y4 y5, LeO (spread_Spread.l0 k y0 y1 y2 y3 y4 y5) (spread_Spread.l0 (k + 1) y0 y1 y2 y3 y4 y5)) ∧ (∀ y0 y1 y2 y3 y4 y5 y6 y7 y8, LeO (spread_Spread.l1 k y0 y1 y2 y3 y4 y5 y6 y7 y8) (spread_Spread.l1 (k + 1) y0 y1 y2 y3 y4 y5 y6 y7 y8))
  | 0 => ⟨fun _ _ _ _ _ _ r h => by simp [spread_Spread.l0] at h, fun _ _ _ _ _ _ _ _ _ r h => by simp [spread_Spread.l1] at h⟩
  | k + 1 => by
    obtain ⟨ih0, ih1⟩ := spread_Spread.mono_l k
    refine ⟨?_, ?_⟩
    · intro y0 y1 y2 y3 y4 y5
      unfold spread_Spread.l0
      repeat' first
      | (with_reducible exact ih0 _ _ _ _ _ _)
      | (with_reducible exact ih1 _ _ _ _ _ _ _ _ _)
      | (with_reducible exact norm_May.mono _ _ _)
      | (with_reducible exact LeO.refl _)
      | (with_reducible exact LeO.none _)
      | (with_reducible refine LeO.ite ?_ ?_)
      | (with_reducible refine LeO.bind ?_ (fun _ => ?_))
      | exact ih0 _ _ _ _ _ _
      | exact ih1 _ _ _ _ _ _ _ _ _
      | exact norm_May.mono _ _ _
      | exact LeO.none _
      | refine LeO.ite ?_ ?_
      | refine LeO.bind ?_ (fun _ => ?_)
    · intro y0 y1 y2 y3 y4 y5 y6 y7 y8
      unfold spread_Spread.l1
      repeat' first
      | (with_reducible exact ih0 _ _ _ _ _ _)
      | (with_reducible exact ih1 _ _ _ _ _ _ _ _ _)
      | (with_reducible exact norm_May.mono _ _ _)
      | (with_reducible exact LeO.refl _)
      | (with_reducible exact LeO.none _)
      | (with_reducible refine LeO.ite ?_ ?_)
      | (with_reducible refine LeO.bind ?_ (fun _ => ?_))
      | exact ih0 _ _ _ _ _ _
      | exact ih1 _ _ _ _ _ _ _ _ _
      | exact norm_May.mono _ _ _
      | exact LeO.none _
      | refine LeO.ite ?_ ?_
      | refine LeO.bind ?_ (fun _ => ?_)
theorem spread_Spread.mono : ∀ a0 a1 k, LeO (spread_Spread.f k a0 a1) (spread_Spread.f (k + 1) a0 a1) := by
  intro a0 a1 k
  obtain ⟨ih0, ih1⟩ := spread_Spread.mono_l k
  unfold spread_Spread.f
  repeat' first
      | (with_reducible exact ih0 _ _ _ _ _ _)
      | (with_reducible exact ih1 _ _ _ _ _ _ _ _ _)
      | (with_reducible exact norm_May.mono _ _ _)
      | (with_reducible exact LeO.refl _)
      | (with_reducible exact LeO.none _)
      | (with_reducible refine LeO.ite ?_ ?_)
      | (with_reducible refine LeO.bind ?_ (fun _ => ?_))
      | exact ih0 _ _ _ _ _ _
      | exact ih1 _ _ _ _ _ _ _ _ _
      | exact norm_May.mono _ _ _
      | exact LeO.none _
      | refine LeO.ite ?_ ?_
      | refine LeO.bind ?_ (fun _ => ?_)
set_option maxHeartbeats 8000000 in
set_option maxRecDepth 100000 in
theorem spread_Spread.calls (k : Nat) (A0 : Option Addr) (c0 : Nat) (l0 : List Int) (a1 : Int) (r1 : List Int) (r2 : Int) (w : World) (hr0 : Kd.C (Kd.int .i64) w A0 l0.length l0) (hc0 : l0.length ≤ c0) (h : spread_Spread.f k l0 a1 = some (r1, r2)) :
    Calls Try.prog 9 #[.slice A0 l0.length c0, .int .i64 a1] w fun e w' => ∃ v0_ : Value, e = .returned (.tuple #[v0_, .int .i64 r2]) ∧ Kd.R (Kd.int .i64) 3 w' w.heap.size (fun _ => True) v0_ r1 ∧ Below w.heap.size w w' := by
  have HR0 := Aside0.mk hr0
  have HC0 := Aside0.mk hc0
  clear hr0 hc0
  have HB := Aside0.mk (Below.refl w.heap.size w)
  have H : ((norm_May.f k l0 a1).bind fun t103 => (if t103 = true then (if 0 ≤ a1 then (if 0 ≤ (shl .i64 1 a1) then (if (shl .i64 1 a1 : Int).toNat ≤ 35184372088832 then (spread_Spread.l0 k (shl .i64 1 a1) (List.replicate (shl .i64 1 a1 : Int).toNat 0) 0 l0 (l0.length : Int) 0) else (none)) else (none)) else (none)) else (some (([] : List Int), 3)))) = some (r1, r2) := h
  clear h
  replace H := Option.bind_eq_some_iff.mp H
  obtain ⟨t103, A30, H⟩ := H
  replace H : (if t103 = true then (if 0 ≤ a1 then (if 0 ≤ (shl .i64 1 a1) then (if (shl .i64 1 a1 : Int).toNat ≤ 35184372088832 then (spread_Spread.l0 k (shl .i64 1 a1) (List.replicate (shl .i64 1 a1 : Int).toNat 0) 0 l0 (l0.length : Int) 0) else (none)) else (none)) else (none)) else (some (([] : List Int), 3))) = some (r1, r2) := H
  have A3 := Aside0.mk A30
  clear A30
  by_cases c4 : t103 = true
  · subst c4
    have H1 : (if 0 ≤ a1 then (if 0 ≤ (shl .i64 1 a1) then (if (shl .i64 1 a1 : Int).toNat ≤ 35184372088832 then (spread_Spread.l0 k (shl .i64 1 a1) (List.replicate (shl .i64 1 a1 : Int).toNat 0) 0 l0 (l0.length : Int) 0) else (none)) else (none)) else (none)) = some (r1, r2) := by rw [if_pos rfl] at H; exact H
    clear H
    have H := H1
    clear H1
    by_cases c5 : 0 ≤ a1
    · rw [if_pos c5] at H
      have c5b0 := eq_true c5
      have c5b1 : decide (0 ≤ a1) = true := decide_eq_true c5
      clear c5
      obtain ⟨ji6, hji6⟩ : ∃ j_ : Int, (shl .i64 1 a1) = j_ := ⟨_, rfl⟩
      replace H : (if 0 ≤ (ji6) then (if (ji6 : Int).toNat ≤ 35184372088832 then (spread_Spread.l0 k ji6 (List.replicate (ji6 : Int).toNat 0) 0 l0 (l0.length : Int) 0) else (none)) else (none)) = some (r1, r2) := by first | (rw [hji6] at H; exact H) | (simp only [hji6] at H ⊢; exact H)
      (try rw [hji6] at A3)
      have hji6_ : (IntKind.i64.wrap (1 * 2 ^ min a1.toNat 64)) = ji6 := hji6
      have hji6z : a1 ≤ 64 → (IntKind.i64.wrap (1 * 2 ^ a1.toNat)) = ji6 := shl_small hji6
      have hji6u : (IntKind.i64.wrap (2 ^ min a1.toNat 64)) = ji6 := by have h_ := hji6_; rw [Int.one_mul] at h_; exact h_
      have hji6v : a1 ≤ 64 → (IntKind.i64.wrap (2 ^ a1.toNat)) = ji6 := fun hle_ => by have h_ := hji6z hle_; rw [Int.one_mul] at h_; exact h_
      have hji6y : (wrap64 (1 * 2 ^ min a1.toNat 64)) = ji6 := (i64_w _).symm.trans hji6_
      have hji6x : a1 ≤ 64 → (wrap64 (1 * 2 ^ a1.toNat)) = ji6 := fun h_ => (i64_w _).symm.trans (hji6z h_)
      by_cases c7 : 0 ≤ (ji6)
      · rw [if_pos c7] at H
        have c7b0 := eq_true c7
        have c7b1 : decide (0 ≤ (ji6)) = true := decide_eq_true c7
        clear c7
        by_cases c8 : (ji6 : Int).toNat ≤ 35184372088832
        · rw [if_pos c8] at H
          have c8b0 := eq_true c8
          have c8b1 : decide ((ji6 : Int).toNat ≤ 35184372088832) = true := decide_eq_true c8
          clear c8
          obtain ⟨y104, hy104⟩ : ∃ y_ : List Int, y_ = (List.replicate (ji6 : Int).toNat 0) := ⟨_, rfl⟩
          replace H : (spread_Spread.l0 k ji6 y104 0 l0 (l0.length : Int) 0) = some (r1, r2) := by first | (rw [hy104]; with_reducible exact H) | (have H2_ := (Option.bind_some _ _).symm.trans H; rw [hy104]; with_reducible exact H2_) | (have H2_ := (Option.bind_some _ _).symm.trans H; with_reducible exact H2_) | with_reducible exact H | (rw [hy104]; exact H) | exact H
          have Ny104 := Aside0.mk hy104
          clear hy104
          have H' := Aside0.mk H
          clear H
          go_enter Try.func9, Try.ntmps9
          go_wp2_with (first | ((with_reducible refine gate_callee (f := 17) rfl ?_); refine goesL_ (some 13) rfl rfl Try.func17 (by kernel_rfl) rfl #[.slice A0 l0.length c0, .int .i64 a1] rfl (by (try simp only [List.map_toArray, List.map_cons, List.map_nil]); first | done | rfl | (simp only [List.length_drop, List.length_take]; rfl)) ?_; (with_reducible refine (norm_May.calls k _ _ l0 a1 true _ ?side1 ?side2 A3.out).mono ?_); (case side1 => repeat (first | exact HR0.out | (with_reducible refine Kd.C_alloc ?_ _) | (with_reducible refine Kd.C_drewN ?_ _) | (with_reducible refine Kd.C_drew ?_))); (case side2 => exact HC0.out); rintro e w' ⟨rfl, ⟨nd, rfl⟩⟩; refine ⟨_, rfl, ?_⟩) | ((with_reducible refine gate_dst (N := 18) rfl ?_); refine Kd.R_make (Kd.int .i64) _ 3 rfl (N := 18) rfl 22 _ _ rfl ji6 rfl rfl Try.underlying22 (.int .i64 0) 8 info3 rfl (by decide) (by omega) 0 (ok := fun _ => True) (okp := fun _ => True) rfl (fun _ hk => hk) trivial (of_decide_eq_true (by first | (with_reducible assumption) | assumption)) (Nat.le_trans (Nat.mul_le_mul_right _ (of_decide_eq_true (by first | (with_reducible assumption) | assumption) : ji6.toNat ≤ 35184372088832)) (by omega)) (Below.refl _ _) (Nat.le_refl _) ?_; intro v105 w9 ho10 hb hg_ hnew_; clear hg_ hnew_; (first | rw [← Ny104.out] at ho10 | (simp only [Int.reduceToNat] at ho10; rw [← Ny104.out] at ho10)); have n0_ := Aside0.mk (Kd.R_lower ho10 (below_size (by repeat (first | (with_reducible first | exact HB.out | apply below_alloc | apply pw_below_drewN | apply below_drew1) | exact HB.out)))); have n1_ := Aside0.mk (below_step (by repeat (first | (with_reducible first | exact HB.out | apply below_alloc | apply pw_below_drewN | apply below_drew1) | exact HB.out)) hb); clear HB; have HO106 := n0_; have HB := n1_; clear n0_ n1_; clear hb ho10))
          go_loopg [8, 21] k (fun kq v8 v21 w' => ∃ (x7_1 : List Int) (x8_1 : Int) (x21_1 : Int), v8 = .int .i64 x8_1 ∧ v21 = .int .i64 x21_1 ∧ Aside0 (spread_Spread.l0 kq ji6 x7_1 x8_1 l0 (l0.length : Int) x21_1 = some (r1, r2)) ∧ Aside0 (kq ≤ k) ∧ Aside0 (Kd.R (Kd.int .i64) 3 w' w.heap.size (fun _ => True) v105 x7_1) ∧ Aside0 (Below w.heap.size w w'))
          case atStart => exact ⟨(y104), (0), (0), (by first | rfl | (simp; done) | (simp [*]; done)), (by first | rfl | (simp; done) | (simp [*]; done)), H', ⟨Nat.le_refl _⟩, ⟨by (with_reducible repeat (first | apply Kd.R_alloc | apply Kd.R_drewN | apply Kd.R_drew)); exact HO106.out⟩, ⟨by repeat (first | (with_reducible first | exact HB.out | apply below_alloc | apply pw_below_drewN | apply below_drew1) | exact HB.out)⟩⟩
          case round =>
            clear H'
            try clear c1
            try clear p2
            try clear c4
            try clear c5
            try clear c5b0
            try clear c5b1
            try clear p6
            try clear c7
            try clear c7b0
            try clear c7b1
            try clear c8
            try clear c8b0
            try clear c8b1
            try clear c9
            obtain ⟨x7_1, x8_1, x21_1, rfl, rfl, HA, HK1, HO_7, HB⟩ := hrel
            cases gk with
            | zero => exact absurd HA.out (by simp [spread_Spread.l0])
            | succ k1 =>
              have H := HA.out
              clear HA
              simp only [spread_Spread.l0] at H
              by_cases c11 : x21_1 < (l0.length : Int)
              · rw [if_pos c11] at H
                have c11b0 : decide (x21_1 < (l0.length : Int)) = true := decide_eq_true c11
                clear c11
                by_cases c12 : 0 ≤ x21_1
                · rw [if_pos c12] at H
                  have c12b0 : decide (0 ≤ x21_1) = true := decide_eq_true c12
                  clear c12
                  by_cases c13 : x21_1 < (l0.length : Int)
                  · rw [if_pos c13] at H
                    have c13b0 : decide (x21_1 < (l0.length : Int)) = true := decide_eq_true c13
                    clear c13
                    have H' := Aside0.mk H
                    clear H
                    have p107 : 0 ≤ (x21_1 : Int) := of_decide_eq_true (by first | (with_reducible assumption) | assumption)
                    have q107 : x21_1 < (l0.length : Int) := of_decide_eq_true (by first | (with_reducible assumption) | assumption)
                    obtain ⟨ad107, e107, hx107_0⟩ := Kd.at_int HR0.out x21_1 p107 q107
                    cases e107
                    replace hx107_0 := (HB.out.cell (World.block_lt_of_cell? w _ hx107_0)).trans hx107_0
                    replace p107 := eq_true p107
                    replace q107 := eq_true q107
                    go_wp2
                    go_loopg [8, 27] k1 (fun kq v8 v27 w' => ∃ (x7_2 : List Int) (x8_2 : Int) (x27_2 : Int), v8 = .int .i64 x8_2 ∧ v27 = .int .i64 x27_2 ∧ Aside0 (spread_Spread.l1 kq ji6 x7_2 x8_2 x21_1 l0 (l0.length : Int) x21_1 (rd l0 x21_1) x27_2 = some (r1, r2)) ∧ Aside0 (kq ≤ k1) ∧ Aside0 (Kd.R (Kd.int .i64) 3 w' w.heap.size (fun _ => True) v105 x7_2) ∧ Aside0 (Below w.heap.size w w'))
                    case atStart => exact ⟨(x7_1), (x8_1), (0), (by first | rfl | (simp; done) | (simp [*]; done)), (by first | rfl | (simp; done) | (simp [*]; done)), H', ⟨Nat.le_refl _⟩, ⟨by (with_reducible repeat (first | apply Kd.R_alloc | apply Kd.R_drewN | apply Kd.R_drew)); exact HO_7.out⟩, ⟨by repeat (first | (with_reducible first | exact HB.out | apply below_alloc | apply pw_below_drewN | apply below_drew1) | exact HB.out)⟩⟩
                    case round =>
                      clear H'
                      try clear c1
                      try clear p1
                      try clear q1
                      try clear hx1
                      try clear p2
                      try clear c4
                      try clear c5
                      try clear c5b0
                      try clear c5b1
                      try clear p6
                      try clear c7
                      try clear c7b0
                      try clear c7b1
                      try clear c8
                      try clear c8b0
                      try clear c8b1
                      try clear c9
                      try clear p10
                      try clear q10
                      try clear hx10
                      try clear c11
                      try clear c11b0
                      try clear c12
                      try clear c12b0
                      try clear c13
                      try clear c13b0
                      try clear hx107_0
                      try clear p107
                      try clear p2
                      try clear p6
                      try clear q107
                      obtain ⟨x7_2, x8_2, x27_2, rfl, rfl, HA, HK2, HO_7, HB⟩ := hrel
                      cases gk with
                      | zero => exact absurd HA.out (by simp [spread_Spread.l1])
                      | succ k2 =>
                        have H := HA.out
                        clear HA
                        simp only [spread_Spread.l1] at H
                        by_cases c14 : x27_2 < (rd l0 x21_1)
                        · rw [if_pos c14] at H
                          have c14b0 : decide (x27_2 < (rd l0 x21_1)) = true := decide_eq_true c14
                          clear c14
                          by_cases c15 : 0 ≤ x8_2
                          · rw [if_pos c15] at H
                            have c15b0 : decide (0 ≤ x8_2) = true := decide_eq_true c15
                            clear c15
                            by_cases c16 : x8_2 < (x7_2.length : Int)
                            · rw [if_pos c16] at H
                              have c16b0 : decide (x8_2 < (x7_2.length : Int)) = true := decide_eq_true c16
                              clear c16
                              obtain ⟨y108, hy108⟩ : ∃ y_ : List Int, y_ = (x7_2.set (x8_2 : Int).toNat x21_1) := ⟨_, rfl⟩
                              replace H : (if ji6 = 0 then (none) else (spread_Spread.l1 k2 ji6 y108 (Int.tmod (wrap64 ((wrap64 ((wrap64 (x8_2 + (wrap64 (Int.tdiv ji6 2)))) + (wrap64 (Int.tdiv ji6 8)))) + 3)) ji6) x21_1 l0 (l0.length : Int) x21_1 (rd l0 x21_1) (wrap64 (x27_2 + 1)))) = some (r1, r2) := by first | (rw [hy108]; with_reducible exact H) | (have H2_ := (Option.bind_some _ _).symm.trans H; rw [hy108]; with_reducible exact H2_) | (have H2_ := (Option.bind_some _ _).symm.trans H; with_reducible exact H2_) | with_reducible exact H | (rw [hy108]; exact H) | exact H
                              have Ny108 := Aside0.mk hy108
                              clear hy108
                              by_cases c18 : ji6 = 0
                              · rw [if_pos c18] at H
                                exact absurd H (by simp)
                              · rw [if_neg c18] at H
                                have c18b0 : (ji6 == 0) = false := beq_eq_false_iff_ne.mpr c18
                                have c18b1 : (ji6 != 0) = true := bne_iff_ne.mpr c18
                                have H' := Aside0.mk H
                                clear H
                                have p17 : 0 ≤ (x8_2 : Int) := of_decide_eq_true (by first | (with_reducible assumption) | assumption)
                                have q17 : (x8_2 : Int) < ((x7_2.length : Int) : Int) := of_decide_eq_true (by first | (with_reducible assumption) | assumption)
                                obtain ⟨go17, co17, eo17, gb17, gl17, cl17, HG17⟩ := Kd.R_form HO_7.out (by omega)
                                (first | cases eo17 | (injection eo17 with ea_ en_ ec_; (first | subst ea_ | (injection ea_ with ea_; subst ea_)); subst ec_; clear en_))
                                have GB17 := Aside0.mk gb17
                                have GG17 := Aside0.mk HG17
                                clear gb17 gl17 HG17
                                obtain ⟨hx17_0, hf17_0⟩ := Kd.R_celln 0 HO_7.out (x8_2 : Int) p17 q17
                                replace p17 := eq_true p17
                                replace q17 := eq_true q17
                                have HP19 := Kd.R_putg HO_7.out (x8_2 : Int) x21_1
                                go_wp2_with (first | ((with_reducible refine gate_store (t := 3) (p := 32) rfl ?_); refine store_event (t := 3) (p := 32) (v := ?vo_w20) (w1 := (wr.setCell ⟨go17, (x8_2 : Int).toNat, none⟩ (.int .i64 x21_1))) ?hg ?ho ?hn ?hr ?_; (case ho => rfl); (case hg => rfl); (case hn => rfl); (case hr => first | (go_simp; done) | (go_simp; rfl)); intro w20 hw; have hg : wr.grownBy w20 (some go17) := (by rw [hw]; exact HP19.2); have hp_ : Kd.R (Kd.int .i64) 3 w20 w.heap.size (fun _ => True) (.slice (some ⟨go17, 0, none⟩) x7_2.length co17) y108 := (by rw [hw, Ny108.out]; exact HP19.1); clear HP19; have n0_ := Aside0.mk (hp_); have n1_ := Aside0.mk ((by rw [hw]; exact below_set (HB.out) GB17.out : Below w.heap.size w w20)); clear HO_7; clear HB; have HO_7 := n0_; have HB := n1_; clear n0_ n1_; clear hg hw hp_))
                                go_roundg k2
                                case measure => have := HK1.out; have := HK2.out; omega
                                case rel => exact ⟨(y108), (Int.tmod (wrap64 ((wrap64 ((wrap64 (x8_2 + (wrap64 (Int.tdiv ji6 2)))) + (wrap64 (Int.tdiv ji6 8)))) + 3)) ji6), (wrap64 (x27_2 + 1)), (by first | rfl | (simp; done) | (simp only [← hji6] <;> (first | rfl | simp)) | (simp [*]; done)), (by first | rfl | (simp; done) | (simp [*]; done)), H', ⟨by have := HK1.out; have := HK2.out; omega⟩, ⟨by (with_reducible repeat (first | apply Kd.R_alloc | apply Kd.R_drewN | apply Kd.R_drew)); exact HO_7.out⟩, ⟨by repeat (first | (with_reducible first | exact HB.out | apply below_alloc | apply pw_below_drewN | apply below_drew1) | exact HB.out)⟩⟩
                            · rw [if_neg c16] at H
                              exact absurd H (by simp)
                          · rw [if_neg c15] at H
                            exact absurd H (by simp)
                        · rw [if_neg c14] at H
                          have c14b0 : decide (x27_2 < (rd l0 x21_1)) = false := decide_eq_false c14
                          clear c14
                          have H' := Aside0.mk H
                          clear H
                          go_wp2
                          go_roundg k2
                          case measure => have := HK1.out; have := HK2.out; omega
                          case rel => exact ⟨(x7_2), (x8_2), (wrap64 (x21_1 + 1)), (by first | rfl | (simp; done) | (simp [*]; done)), (by first | rfl | (simp; done) | (simp [*]; done)), H', ⟨by have := HK1.out; have := HK2.out; omega⟩, ⟨by (with_reducible repeat (first | apply Kd.R_alloc | apply Kd.R_drewN | apply Kd.R_drew)); exact HO_7.out⟩, ⟨by repeat (first | (with_reducible first | exact HB.out | apply below_alloc | apply pw_below_drewN | apply below_drew1) | exact HB.out)⟩⟩
                  · rw [if_neg c13] at H
                    exact absurd H (by simp)
                · rw [if_neg c12] at H
                  exact absurd H (by simp)
              · rw [if_neg c11] at H
                have c11b0 : decide (x21_1 < (l0.length : Int)) = false := decide_eq_false c11
                clear c11
                simp only [Option.some.injEq, Prod.mk.injEq] at H
                obtain ⟨rfl, rfl⟩ := H
                go_wp2
                go_ret2
                exact ⟨_, by first | rfl | (simp [errW_none, errW_some] <;> rfl) | (simp only [← hji6]; first | rfl | (simp [errW_none, errW_some] <;> rfl)) | (simp [*, errW_none, errW_some] <;> rfl), by (with_reducible repeat (first | apply Kd.R_alloc | apply Kd.R_drewN | apply Kd.R_drew)); exact HO_7.out, by repeat (first | (with_reducible first | exact HB.out | apply below_alloc | apply pw_below_drewN | apply below_drew1) | exact HB.out)⟩
        · rw [if_neg c8] at H
          exact absurd H (by simp)
      · rw [if_neg c7] at H
        exact absurd H (by simp)
    · rw [if_neg c5] at H
      exact absurd H (by simp)
  · replace c4 := Bool.eq_false_iff.mpr c4
    subst c4
    have H1 : (some (([] : List Int), 3)) = some (r1, r2) := by rw [if_neg (show ¬ (false = true) by decide)] at H; exact H
    clear H
    have H := H1
    clear H1
    simp only [Option.some.injEq, Prod.mk.injEq] at H
    obtain ⟨rfl, rfl⟩ := H
    go_enter Try.func9, Try.ntmps9
    go_wp2_with (first | ((with_reducible refine gate_callee (f := 17) rfl ?_); refine goesL_ (some 13) rfl rfl Try.func17 (by kernel_rfl) rfl #[.slice A0 l0.length c0, .int .i64 a1] rfl (by (try simp only [List.map_toArray, List.map_cons, List.map_nil]); first | done | rfl | (simp only [List.length_drop, List.length_take]; rfl)) ?_; (with_reducible refine (norm_May.calls k _ _ l0 a1 false _ ?side1 ?side2 A3.out).mono ?_); (case side1 => repeat (first | exact HR0.out | (with_reducible refine Kd.C_alloc ?_ _) | (with_reducible refine Kd.C_drewN ?_ _) | (with_reducible refine Kd.C_drew ?_))); (case side2 => exact HC0.out); rintro e w' ⟨rfl, ⟨nd, rfl⟩⟩; refine ⟨_, rfl, ?_⟩))
    go_ret2
    exact ⟨_, by first | rfl | (simp [errW_none, errW_some] <;> rfl) | (simp [*, errW_none, errW_some] <;> rfl), by first | exact Kd.R_nil _ _ _ _ _ | exact Kd.N_nil _ _ _ _ _ | exact Kd.V_nil _ _ _ _ _ | exact Kd.Q_nil _ _ _ _ _ | exact Kd.S_nil _ _ _ _ _, by repeat (first | (with_reducible first | exact HB.out | apply below_alloc | apply pw_below_drewN | apply below_drew1) | exact HB.out)⟩

end Go.Proofs.Ytlconnmfceabiaa.PA

-- ---- Sp
/- Classes at their places, and the table of states: plain facts. No program in sight. -/
namespace Go.Proofs.Ytlconnmfceabiaa.Sp
set_option linter.unusedSimpArgs false
set_option linter.unusedVariables false
set_option linter.unusedSectionVars false
open Hp Ol Nl

/-- Numbers that may be: 65 of them, each from nought to the sum, which is 2 to the log. -/
def mayN (l : List Int) (log : Int) : Bool :=
  decide (7 ≤ log ∧ log ≤ 12 ∧ l.length = 65 ∧ (∀ x ∈ l, 0 ≤ x ∧ x ≤ ((2 ^ log.toNat : Nat) : Int)) ∧ l.sum = ((2 ^ log.toNat : Nat) : Int))

/-- One more class at its place. -/
def put1 (size : Nat) (st : List Int × Nat) (c : Int) : List Int × Nat := (st.1.set st.2 c, (st.2 + size / 2 + size / 8 + 3) % size)
def putN (size : Nat) (cs : List Int) : List Int × Nat := cs.foldl (put1 size) (List.replicate size 0, 0)
theorem putN_snoc (size : Nat) (cs : List Int) (c : Int) : putN size (cs ++ [c]) = put1 size (putN size cs) c := by simp [putN]
theorem length_putN (size : Nat) (cs : List Int) : (putN size cs).1.length = size := by
  refine snoc_ind (P := fun cs => (putN size cs).1.length = size) (by simp [putN]) (fun cs c ih => ?_) cs
  rw [putN_snoc]; simp [put1, ih]
theorem at_putN (size : Nat) (h : 0 < size) (cs : List Int) : (putN size cs).2 < size := by
  refine snoc_ind (P := fun cs => (putN size cs).2 < size) (by simpa [putN] using h) (fun cs c ih => ?_) cs
  rw [putN_snoc]; exact Nat.mod_lt _ h

/-- Each class as often as it is said. -/
def expand (l : List Int) : Nat → List Int
  | 0 => []
  | n + 1 => expand l n ++ List.replicate (l.getD n 0).toNat (n : Int)
def spread (l : List Int) (size : Nat) : List Int := (putN size (expand l l.length)).1
theorem length_spread (l : List Int) (size : Nat) : (spread l size).length = size := length_putN ..
theorem length_expand (l : List Int) (h : ∀ x ∈ l, 0 ≤ x) : ∀ n, n ≤ l.length → ((expand l n).length : Int) = (l.take n).sum := by
  intro n
  induction n with
  | zero => intro _; simp [expand]
  | succ n ih =>
    intro hn
    have h0 := h _ (getD_mem (show n < l.length by omega))
    rw [List.take_succ_eq_append_getElem (by omega), List.sum_append]
    have e : l.getD n 0 = l[n] := by simp [List.getD_eq_getElem?_getD, show n < l.length by omega]
    have := ih (by omega)
    simp only [expand, List.length_append, List.length_replicate, List.sum_cons, List.sum_nil]
    rw [← e]
    omega

/-- A cell: its class, how many bits come, what they are added to. -/
def cellOf (log : Nat) (c : Int) (x : Nat) : Int × Int × Int := (c, ((log - Nat.log2 x : Nat) : Int), ((x * 2 ^ (log - Nat.log2 x) : Nat) : Int) - ((2 ^ log : Nat) : Int))
/-- The cells of places, one by one; next: of each class its next state. -/
def cells (log : Nat) : List Int → List Int → List (Int × Int × Int)
  | _, [] => []
  | next, c :: cs => cellOf log c (next.getD c.toNat 0).toNat :: cells log (bump next c.toNat 1) cs
def nexts : List Int → List Int → List Int
  | next, [] => next
  | next, c :: cs => nexts (bump next c.toNat 1) cs
theorem cells_snoc (log : Nat) (cs : List Int) (c : Int) : ∀ next, cells log next (cs ++ [c]) = cells log next cs ++ [cellOf log c ((nexts next cs).getD c.toNat 0).toNat] := by
  induction cs with
  | nil => intro next; rfl
  | cons a t ih => intro next; simp only [List.cons_append, cells, nexts, ih]
theorem nexts_snoc (cs : List Int) (c : Int) : ∀ next, nexts next (cs ++ [c]) = bump (nexts next cs) c.toNat 1 := by
  induction cs with
  | nil => intro next; rfl
  | cons a t ih => intro next; simp only [List.cons_append, nexts, ih]
theorem length_nexts (cs : List Int) : ∀ next, (nexts next cs).length = next.length := by
  induction cs with
  | nil => intro next; rfl
  | cons a t ih => intro next; simp only [nexts, ih, length_bump]
theorem length_cells (log : Nat) (cs : List Int) : ∀ next, (cells log next cs).length = cs.length := by
  induction cs with
  | nil => intro next; rfl
  | cons a t ih => intro next; simp only [cells, List.length_cons, ih]
def table (l : List Int) (log : Nat) : List (Int × Int × Int) := cells log l (spread l (2 ^ log))
theorem length_table (l : List Int) (log : Nat) : (table l log).length = 2 ^ log := by unfold table; rw [length_cells, length_spread]

/-- How often a class has come. -/
def cnt (c : Int) (cs : List Int) : Nat := cs.count c
theorem nexts_at (cs : List Int) (h : ∀ c ∈ cs, 0 ≤ c) : ∀ (next : List Int) (c : Nat), c < next.length → (nexts next cs).getD c 0 = next.getD c 0 + (cs.count (c : Int) : Int) := by
  induction cs with
  | nil => intro next c _; simp [nexts]
  | cons a t ih =>
    intro next c hc
    have ha := h a (by simp)
    have := ih (fun x hx => h x (List.mem_cons_of_mem _ hx)) (bump next a.toNat 1) c (by rw [length_bump]; exact hc)
    simp only [nexts, this]
    by_cases hal : a.toNat < next.length
    · rw [getD_bump _ _ _ _ hal, List.count_cons]
      by_cases e : c = a.toNat
      · subst e
        have e2 : (a == ((a.toNat : Nat) : Int)) = true := by rw [beq_iff_eq]; omega
        rw [if_pos rfl, e2]; simp; omega
      · have e2 : (a == (c : Int)) = false := by rw [beq_eq_false_iff_ne]; omega
        rw [if_neg e, e2]; simp
    · have e1 : bump next a.toNat 1 = next := by unfold bump; exact List.set_eq_of_length_le (by omega)
      have e2 : (a == (c : Int)) = false := by rw [beq_eq_false_iff_ne]; omega
      rw [e1, List.count_cons, e2]; simp
end Go.Proofs.Ytlconnmfceabiaa.Sp

-- ---- Zm
/- Numbers by their size: plain facts; no program in sight. -/
namespace Go.Proofs.Ytlconnmfceabiaa.Zig
set_option linter.unusedSimpArgs false
set_option linter.unusedVariables false

abbrev bl (u : Nat) : Nat := Go.Lib.bitLen u

theorem bl_zero : bl 0 = 0 := by decide

theorem bl_pos (u : Nat) (h0 : u ≠ 0) (h : u < 2 ^ 64) : 1 ≤ bl u := by
  have := Go.Lib.bitLen_half u h0 h
  unfold bl; omega

theorem bl_spec : ∀ (n u : Nat), u < n → u ≠ 0 → u < 2 ^ 64 → 2 ^ (bl u - 1) ≤ u ∧ u < 2 ^ bl u := by
  intro n
  induction n with
  | zero => intro u h; omega
  | succ n ih =>
    intro u hn h0 h
    have hb := Go.Lib.bitLen_half u h0 h
    by_cases h1 : u / 2 = 0
    · have hu : u = 1 := by omega
      subst hu
      decide
    · have ih2 := ih (u / 2) (by omega) h1 (by omega)
      have hp := bl_pos (u / 2) h1 (by omega)
      unfold bl at *
      rw [hb]
      have e : 1 + Go.Lib.bitLen (u / 2) - 1 = (Go.Lib.bitLen (u / 2) - 1) + 1 := by omega
      rw [e, Nat.add_comm 1, Nat.pow_succ, Nat.pow_succ]
      omega

theorem bl_le (u : Nat) (h : u < 2 ^ 64) : bl u ≤ 64 := Go.Lib.bitLen_le u 64 (by decide) h

theorem bl_eq (u k : Nat) (h1 : 2 ^ k ≤ u) (h2 : u < 2 ^ (k + 1)) (h : u < 2 ^ 64) : bl u = k + 1 := by
  have h0 : u ≠ 0 := by have := Nat.pow_pos (n := k) (show 0 < 2 by decide); omega
  have hs := bl_spec (u + 1) u (by omega) h0 h
  have hp := bl_pos u h0 h
  rcases Nat.lt_trichotomy (bl u) (k + 1) with hl | hl | hl
  · have : 2 ^ bl u ≤ 2 ^ k := Nat.pow_le_pow_right (by decide) (by omega)
    omega
  · exact hl
  · have : 2 ^ (k + 1) ≤ 2 ^ (bl u - 1) := Nat.pow_le_pow_right (by decide) (by omega)
    omega

theorem bl_mono (u v : Nat) (hv : v < 2 ^ 64) (h : u ≤ v) : bl u ≤ bl v := by
  by_cases h0 : u = 0
  · subst h0; rw [bl_zero]; omega
  · have hs := bl_spec (u + 1) u (by omega) h0 (by omega)
    have ht := bl_spec (v + 1) v (by omega) (by omega) hv
    rcases Nat.lt_or_ge (bl v) (bl u) with hl | hl
    · have : 2 ^ bl v ≤ 2 ^ (bl u - 1) := Nat.pow_le_pow_right (by decide) (by omega)
      omega
    · exact hl

/-- A number by its size. -/
def zmap (v : Int) : Nat := if v < 0 then (-2 * v - 1).toNat else (2 * v).toNat
def zback (u : Nat) : Int := if u % 2 = 1 then -((u / 2 : Nat) : Int) - 1 else ((u / 2 : Nat) : Int)

theorem zmap_lt (v : Int) (h0 : -9223372036854775808 ≤ v) (h1 : v ≤ 9223372036854775807) : zmap v < 18446744073709551616 := by unfold zmap; split <;> omega
theorem zback_zmap (v : Int) : zback (zmap v) = v := by
  unfold zback zmap
  split <;> split <;> omega
theorem zmap_zback (u : Nat) : zmap (zback u) = u := by
  unfold zback zmap
  split <;> split <;> omega
theorem zback_range (u : Nat) (h : u < 18446744073709551616) : -9223372036854775808 ≤ zback u ∧ zback u ≤ 9223372036854775807 := by
  unfold zback; split <;> omega
theorem zmap_inj (v w : Int) : zmap v = zmap w ↔ v = w :=
  ⟨fun h => by rw [← zback_zmap v, h, zback_zmap], fun h => by rw [h]⟩

/-- A class, and what stands beyond. -/
def clsU (u : Nat) : Nat := bl u
def rstU (u : Nat) : Nat := if bl u = 0 then 0 else u - 2 ^ (bl u - 1)

theorem rstU_lt (u : Nat) (h : u < 18446744073709551616) : rstU u < 18446744073709551616 := by
  unfold rstU
  split
  · decide
  · exact Nat.lt_of_le_of_lt (Nat.sub_le _ _) h
theorem bl_eq_zero (u : Nat) (h : u < 2 ^ 64) : bl u = 0 ↔ u = 0 := by
  constructor
  · intro e
    by_cases h0 : u = 0
    · exact h0
    · have := bl_pos u h0 h; omega
  · intro e; subst e; exact bl_zero

/-- Has a part a number? -/
def may (c : Int) (r : Nat) : Bool := decide (0 ≤ c ∧ c ≤ 64) && (if c < 1 then decide (r = 0) else decide (r < 2 ^ (c.toNat - 1)))
def sizeOf (c : Int) (r : Nat) : Nat := if c < 1 then 0 else 2 ^ (c.toNat - 1) + r
def join (c : Int) (r : Nat) : Int := if may c r then zback (sizeOf c r) else 0

theorem pow_le63 (k : Nat) (h : k ≤ 63) : 2 ^ k ≤ 9223372036854775808 := by
  have : 2 ^ k ≤ 2 ^ 63 := Nat.pow_le_pow_right (by decide) h
  omega

theorem sizeOf_lt (c : Int) (r : Nat) (h : may c r = true) : sizeOf c r < 18446744073709551616 := by
  unfold may at h
  unfold sizeOf
  simp only [Bool.and_eq_true, decide_eq_true_eq] at h
  split
  · decide
  · rw [if_neg (by assumption)] at h
    have := pow_le63 (c.toNat - 1) (by omega)
    have h2 := of_decide_eq_true h.2
    omega

theorem bl_size (c : Int) (r : Nat) (h : may c r = true) (hc : 1 ≤ c) : bl (sizeOf c r) = c.toNat := by
  have hl := sizeOf_lt c r h
  unfold may at h
  simp only [Bool.and_eq_true, decide_eq_true_eq] at h
  rw [if_neg (by omega)] at h
  have h2 := of_decide_eq_true h.2
  unfold sizeOf at *
  rw [if_neg (by omega)] at *
  have e : c.toNat = (c.toNat - 1) + 1 := by omega
  rw [e]
  refine bl_eq _ _ ?_ ?_ ?_
  · rw [show c.toNat - 1 + 1 - 1 = c.toNat - 1 by omega]; omega
  · rw [show c.toNat - 1 + 1 - 1 = c.toNat - 1 by omega, Nat.pow_succ]; omega
  · rw [show c.toNat - 1 + 1 - 1 = c.toNat - 1 by omega]; omega

/-- What is split of a number has it. -/
theorem may_split (u : Nat) (h : u < 18446744073709551616) : may (bl u : Int) (rstU u) = true := by
  unfold may rstU
  by_cases h0 : u = 0
  · subst h0; rw [bl_zero]; decide
  · have hs := bl_spec (u + 1) u (by omega) h0 h
    have hp := bl_pos u h0 h
    have hl := bl_le u h
    simp only [Bool.and_eq_true, decide_eq_true_eq]
    refine ⟨by omega, ?_⟩
    rw [if_neg (by omega), if_neg (by omega), decide_eq_true_eq, Int.toNat_natCast]
    have e : 2 ^ bl u = 2 ^ (bl u - 1) * 2 := by rw [← Nat.pow_succ]; congr 1; omega
    omega
theorem size_split (u : Nat) (h : u < 18446744073709551616) : sizeOf (bl u : Int) (rstU u) = u := by
  unfold sizeOf rstU
  by_cases h0 : u = 0
  · subst h0; rw [bl_zero]; decide
  · have hs := bl_spec (u + 1) u (by omega) h0 h
    have hp := bl_pos u h0 h
    rw [if_neg (by omega), if_neg (by omega), Int.toNat_natCast]
    omega
theorem join_split (v : Int) (h0 : -9223372036854775808 ≤ v) (h1 : v ≤ 9223372036854775807) : join (bl (zmap v) : Int) (rstU (zmap v)) = v := by
  have hl := zmap_lt v h0 h1
  unfold join
  rw [if_pos (may_split _ hl), size_split _ hl, zback_zmap]
end Go.Proofs.Ytlconnmfceabiaa.Zig

-- ---- Tc
/- A table's next cell: what the call answers, and what it does to the maker. -/
namespace Go.Proofs.Ytlconnmfceabiaa
set_option linter.unusedSimpArgs false
set_option linter.unusedVariables false
open Go.RowKit Mix Own Nl Sp
attribute [local go_sem] max_int min_int

theorem bl_log2 (x : Nat) (h0 : 0 < x) (h : x < 2 ^ 64) : Lib.bitLen x = Nat.log2 x + 1 :=
  Zig.bl_eq x (Nat.log2 x) (Nat.log2_self_le (by omega)) Nat.lt_log2_self h
theorem log2_le (x m : Nat) (h0 : 0 < x) (h : x < 2 ^ (m + 1)) : Nat.log2 x ≤ m := by
  have h1 := Nat.log2_self_le (n := x) (by omega)
  rcases Nat.lt_or_ge m (Nat.log2 x) with h2 | h2
  · have : 2 ^ (m + 1) ≤ 2 ^ Nat.log2 x := Nat.pow_le_pow_right (by decide) h2
    omega
  · exact h2

set_option maxHeartbeats 1000000 in
theorem len_calls (x : Nat) (w : World) (h0 : 0 < x) (h1 : x < 9223372036854775808) :
    Calls Try.prog 24 #[.int .u64 (x : Int)] w fun e w' => e = .returned (.int .i64 ((Nat.log2 x + 1 : Nat) : Int)) ∧ w = w' := by
  have hl := len64_lib (x : Int) w (by omega) (by omega)
  rw [Int.toNat_natCast, bl_log2 x h0 (by omega)] at hl
  have HL := kept hl
  clear hl
  go_enter Try.func24, Try.ntmps24
  go_wp2_with (go_at_call 28; refine HL.out.mono ?_; rintro e w' ⟨rfl, rfl⟩)
  go_ret
  exact ⟨rfl, rfl⟩

/-- A maker at block p, the next states of its classes at block g. -/
structure IsMk (w : World) (p g c m : Nat) (nx : List Int) : Prop where
  blk : Blk w p #[.int .i64 ((2 ^ m : Nat) : Int), .int .i64 (m : Int), .slice (some ⟨g, 0, none⟩) 65 c] 49
  row : Owns w 3 (.slice (some ⟨g, 0, none⟩) 65 c) (ints .i64 nx)
theorem IsMk.len {w : World} {p g c m : Nat} {nx : List Int} (h : IsMk w p g c m nx) : nx.length = 65 := by
  have := h.row.length; rw [length_ints] at this; exact this.symm
theorem IsMk.later {w w' : World} {p g c m : Nat} {nx : List Int} (h : IsMk w p g c m nx) (hb : Below w.heap.size w w') : IsMk w' p g c m nx :=
  ⟨(hb.block p h.blk.lt).trans h.blk, h.row.keep fun k _ hk => hb.block k hk⟩
theorem IsMk.ne {w : World} {p g c m : Nat} {nx : List Int} (h : IsMk w p g c m nx) : p ≠ g := fun e => h.row.ne h.blk (by decide) (by simp [Value.ownBlock, e])
theorem IsMk.store {w : World} {p g c m : Nat} {nx : List Int} (h : IsMk w p g c m nx) (j : Nat) (x : Int) : IsMk (w.setCell ⟨g, j, none⟩ (.int .i64 x)) p g c m (nx.set j x) := by
  refine ⟨h.blk.setOther h.ne _, ?_⟩
  have e : ints .i64 (nx.set j x) = (ints .i64 nx).set j (.int .i64 x) := by simp [ints, List.map_set]
  rw [e]; exact h.row.store j (.int .i64 x)
theorem IsMk.other {w : World} {p g c m : Nat} {nx : List Int} (h : IsMk w p g c m nx) {a : Addr} (h1 : a.block ≠ p) (h2 : a.block ≠ g) (v : Value) : IsMk (w.setCell a v) p g c m nx :=
  ⟨h.blk.setOther (fun e => h1 e.symm) v, h.row.setOther (fun e => h2 (by simpa [Value.ownBlock] using e.symm)) v⟩

/-- What a cell's numbers are. -/
theorem cell_nums (m x : Nat) (hm : m ≤ 12) (h0 : 0 < x) (h : x < 2 ^ (m + 1)) : ∃ n : Nat, n = m - Nat.log2 x ∧ n ≤ m ∧ (m : Int) - ((((Nat.log2 x + 1 : Nat)) : Int) - 1) = (n : Int) ∧ x * 2 ^ n < 2 ^ (m + 1) ∧ x * 2 ^ n ≤ 8192 ∧ wrap64 ((x : Int) * 2 ^ n) = ((x * 2 ^ n : Nat) : Int) := by
  have hl := log2_le x m h0 h
  have h1 := Nat.lt_log2_self (n := x)
  have h2 : x * 2 ^ (m - Nat.log2 x) < 2 ^ (m + 1) := by
    have h3 : x * 2 ^ (m - Nat.log2 x) < 2 ^ (Nat.log2 x + 1) * 2 ^ (m - Nat.log2 x) := Nat.mul_lt_mul_of_pos_right h1 (Nat.pow_pos (by decide))
    rw [← Nat.pow_add, show Nat.log2 x + 1 + (m - Nat.log2 x) = m + 1 by omega] at h3
    exact h3
  have h4 : 2 ^ (m + 1) ≤ 2 ^ 13 := Nat.pow_le_pow_right (by decide) (by omega)
  have e13 : (2 : Nat) ^ 13 = 8192 := by decide
  refine ⟨m - Nat.log2 x, rfl, Nat.sub_le _ _, by omega, h2, by omega, ?_⟩
  have e : (x : Int) * 2 ^ (m - Nat.log2 x) = ((x * 2 ^ (m - Nat.log2 x) : Nat) : Int) := by simp
  rw [e]
  generalize x * 2 ^ (m - Nat.log2 x) = z at h2
  unfold wrap64; omega

set_option maxHeartbeats 4000000 in
theorem cell_calls (p g c m : Nat) (nx : List Int) (k x : Nat) (w : World) (hm : m ≤ 12) (h : IsMk w p g c m nx) (hk : k < 65) (hx : nx.getD k 0 = (x : Int)) (h0 : 0 < x) (hx1 : x < 2 ^ (m + 1)) :
    Calls Try.prog 19 #[.pointer (some ⟨p, 0, none⟩), .int .i64 (k : Int)] w fun e w' => e = .returned (.agg #[.int .i64 (cellOf m k x).1, .int .i64 (cellOf m k x).2.1, .int .i64 (cellOf m k x).2.2]) ∧
      IsMk w' p g c m (bump nx k 1) ∧ Chg (fun b => b = g) w w' := by
  obtain ⟨n, hn, hnm, e1, hb1, hb2, e2⟩ := cell_nums m x hm h0 hx1
  have hlen := len_calls x
  have hlog := log2_le x m h0 hx1
  have hpow : 2 ^ m ≤ 4096 := pow12 m hm
  have hxs : x ≤ 8192 := Nat.le_trans (Nat.le_mul_of_pos_right x (Nat.pow_pos (by decide) : 0 < 2 ^ n)) hb2
  have hl65 := h.len
  have hbump : bump nx k 1 = nx.set k ((x : Int) + 1) := by unfold bump; rw [hx]
  have c2 : w.cell? ⟨p, 2, none⟩ = some (.slice (some ⟨g, 0, none⟩) 65 c) := h.blk.cell rfl
  have d0 := h.row.cell (Own.ints_at .i64 nx k (by omega))
  rw [hx] at d0
  have f0 : w.frozen? ⟨g, k, none⟩ = false := h.row.free k
  have hgl : g < w.heap.size := h.row.lt g rfl
  have hpl := h.blk.lt
  have hc65 : 65 ≤ c := by
    rcases h.row.form with ⟨hv, _⟩ | ⟨g', cap', cur, hv, _, h3, h4, _⟩
    · simp at hv
    · simp only [Value.slice.injEq] at hv; rw [hv.2.2]; simp [hl65] at h3; exact h3
  obtain ⟨R, hR⟩ : ∃ R, R = w.heap.size := ⟨_, rfl⟩
  obtain ⟨P, hP⟩ : ∃ P, P = 2 ^ m := ⟨_, rfl⟩
  rw [← hP] at hpow
  have hcell : cellOf m k x = ((k : Int), (n : Int), ((x * 2 ^ n : Nat) : Int) - (P : Int)) := by unfold cellOf; rw [← hn, ← hP]
  obtain ⟨z, hz⟩ : ∃ z, z = x * 2 ^ n := ⟨_, rfl⟩
  rw [← hz] at hb2 e2 hcell
  rw [hcell]
  have H := kept h
  have HLen := kept hlen
  have HBump := kept hbump
  have HP := kept hP
  have HR := kept hR
  have HX0 := kept h0
  have hxi : (x : Int) ≤ 8192 := by omega
  have hxp : (0 : Int) < (x : Int) := by omega
  have hn63 : n < 63 := by omega
  have HE1 := kept e1
  have HE2 := kept e2
  clear h hlen hn hb1 hlog hl65 hbump hx hx1 hcell hz hP h0 e1 e2 hxs hR
  go_enter Try.func19, Try.ntmps19
  go_wp2_with fail
  rw [show w.heap.size = R from HR.out.symm]
  generalize hwb : World.alloc _ _ = wb
  have hsz : (w.setCell ⟨g, k, none⟩ (.int .i64 ((x : Int) + 1))).heap.size = w.heap.size := by simp [World.setCell]
  have HMk2 : Kept (IsMk wb p g c m (bump nx k 1)) := kept (by rw [← hwb, HBump.out]; exact (H.out.store k _).later ((Below.refl _ _).alloc (Nat.le_refl _) _))
  have HG2 : Kept (Blk wb R #[.int .i64 0, .int .i64 0, .int .i64 0] 45) := kept (by
    rw [← hwb]; exact Blk.fresh_at _ _ (by rw [hsz]; exact HR.out) _ _)
  have HC2 : Kept (Chg (fun b => b = g) w wb) := kept (by
    rw [← hwb]; exact (Chg.setCell w ⟨g, k, none⟩ _).trans (Chg.alloc (fun _ => False) _ _) (fun _ _ h => h.elim))
  clear hsz
  clear hwb c2 d0 f0
  have c1 : wb.cell? ⟨p, 1, none⟩ = some (.int .i64 (m : Int)) := HMk2.out.blk.cell rfl
  have l1 := lat_cell c1
  have hcall : ∀ q : Lat wb, Calls Try.prog 24 #[.int .u64 (x : Int)] q.w fun e w' => e = .returned (.int .i64 ((Nat.log2 x + 1 : Nat) : Int)) ∧ q.w = w' := fun q => HLen.out q.w HX0.out (by omega)
  obtain ⟨L, hL⟩ : ∃ L, L = Nat.log2 x + 1 := ⟨_, rfl⟩
  rw [← hL] at hcall HE1
  have hL13 : L ≤ m + 1 := by have := HE1.out; omega
  have e1 := HE1.out
  have HCall := kept hcall
  clear hcall hL
  have hL0 : (0 : Int) ≤ (L : Int) := by omega
  go_wp2_with fail
  refine wp_region_quietL (by kernel_rfl) (by kernel_rfl) ?_
  repeat (go_big_quiet_step ((go_at_call 24; exact lat_call_same (HCall.out _))))
  refine wpQuiet_nil ?_
  intro nq
  have HMk3 := kept (HMk2.out.later nq.below)
  have HG3 : Kept (Blk nq.w R #[.int .i64 0, .int .i64 0, .int .i64 0] 45) := kept (lat_block HG2.out nq)
  have HC3 : Kept (Chg (fun b => b = g) w nq.w) := kept (HC2.out.trans (Chg.of_below (S := fun _ => False) nq.below) (fun _ _ h => h.elim))
  generalize nq.w = w3 at HMk3 HG3 HC3 ⊢
  clear HMk2 HG2 HC2 c1 l1 HCall
  have c0 : w3.cell? ⟨p, 0, none⟩ = some (.int .i64 (P : Int)) := by have h1 : w3.cell? ⟨p, 0, none⟩ = some (.int .i64 ((2 ^ m : Nat) : Int)) := HMk3.out.blk.cell rfl
                                                                     rw [HP.out]; exact h1
  have l0 := lat_cell c0
  clear e1 hL13 hL0
  go_wp2_with fail
  refine wp_region_mixL [] [0,1,2,3,4,5,6,7,8,9] [10,11] (by kernel_rfl) (by kernel_rfl) ?_
  intro K hK
  simp only [pick, List.filterMap_cons, List.filterMap_nil, List.getElem?_cons_zero, List.getElem?_cons_succ]
  refine wpQuiet_nil ?_
  repeat (show wpQuiet _ _ _ _ (_ :: _) _; go_big_quiet_step (fail))
  refine wpQuiet_nil ?_
  show wpList _ _ _ [_, _] _ _
  rw [HE2.out]
  have e3 : wrap64 ((z : Int) - (P : Int)) = (z : Int) - (P : Int) := by unfold wrap64; omega
  rw [e3]
  clear e3
  generalize hwd : World.drew w3 = w4
  have HMk4 : Kept (IsMk w4 p g c m (bump nx k 1)) := kept (by rw [← hwd]; exact HMk3.out.later ((Below.refl _ _).drew))
  have HG4 : Kept (Blk w4 R #[.int .i64 0, .int .i64 0, .int .i64 0] 45) := kept (by rw [← hwd]; exact HG3.out)
  have HC4 : Kept (Chg (fun b => b = g) w w4) := kept (by rw [← hwd]; exact HC3.out.trans (Chg.drew (fun _ => False) _) (fun _ _ h => h.elim))
  clear hwd c0 l0
  have g0 : w4.cell? ⟨R, 0, none⟩ = some (.int .i64 0) := HG4.out.cell rfl
  have g1 : w4.cell? ⟨R, 1, none⟩ = some (.int .i64 0) := HG4.out.cell rfl
  have g2 : w4.cell? ⟨R, 2, none⟩ = some (.int .i64 0) := HG4.out.cell rfl
  have q0 : w4.frozen? ⟨R, 0, none⟩ = false := HG4.out.free 0
  have q1 : w4.frozen? ⟨R, 1, none⟩ = false := HG4.out.free 1
  have q2 : w4.frozen? ⟨R, 2, none⟩ = false := HG4.out.free 2
  go_wp2_with fail
  refine hK _ _ ?_
  go_wp2_with fail
  have hRp : R ≠ p := by have := HR.out; omega
  have hRg : R ≠ g := by have := HR.out; omega
  have hno : ∀ b, b < w.heap.size → b = R → b = g := fun b hb e => by have := HR.out; omega
  refine bodyPost_ret (results_cell_row rfl _ _ R 45 #[.int .i64 (k : Int), .int .i64 (n : Int), .int .i64 ((z : Int) - (P : Int))] (0, 0) _ rfl (((HG4.out.set 0 _).set 1 _).set 2 _) Try.underlying45 rfl (by kernel_rfl)) rfl ⟨rfl, ?_, ?_⟩
  · exact ((HMk4.out.other (a := ⟨R, 0, none⟩) hRp hRg _).other (a := ⟨R, 1, none⟩) hRp hRg _).other (a := ⟨R, 2, none⟩) hRp hRg _
  · exact ((HC4.out.trans (Chg.setCell w4 ⟨R, 0, none⟩ _) hno).trans (Chg.setCell _ ⟨R, 1, none⟩ _) hno).trans (Chg.setCell _ ⟨R, 2, none⟩ _) hno
end Go.Proofs.Ytlconnmfceabiaa

-- ---- Sq
/- The places of a spread: each comes once. Plain facts; no program in sight. -/
namespace Go.Proofs.Ytlconnmfceabiaa.Sp
set_option linter.unusedSimpArgs false
set_option linter.unusedVariables false
set_option linter.unusedSectionVars false
open Hp Ol Nl

def stepS (S : Nat) : Nat := S / 2 + S / 8 + 3
def posS (S j : Nat) : Nat := (j * stepS S) % S
theorem step_coprime (m : Nat) (h7 : 7 ≤ m) (h12 : m ≤ 12) : Nat.Coprime (2 ^ m) (stepS (2 ^ m)) := by
  have : m = 7 ∨ m = 8 ∨ m = 9 ∨ m = 10 ∨ m = 11 ∨ m = 12 := by omega
  rcases this with rfl | rfl | rfl | rfl | rfl | rfl <;> decide +kernel
theorem step_inv (m : Nat) (h7 : 7 ≤ m) (h12 : m ≤ 12) : ∃ i, (i * stepS (2 ^ m)) % 2 ^ m = 1 := by
  have : m = 7 ∨ m = 8 ∨ m = 9 ∨ m = 10 ∨ m = 11 ∨ m = 12 := by omega
  rcases this with rfl | rfl | rfl | rfl | rfl | rfl
  · exact ⟨91, by decide +kernel⟩
  · exact ⟨11, by decide +kernel⟩
  · exact ⟨363, by decide +kernel⟩
  · exact ⟨43, by decide +kernel⟩
  · exact ⟨1451, by decide +kernel⟩
  · exact ⟨171, by decide +kernel⟩

theorem putN_at (S : Nat) (h : 0 < S) (cs : List Int) : (putN S cs).2 = posS S cs.length := by
  refine snoc_ind (P := fun cs => (putN S cs).2 = posS S cs.length) (by simp [putN, posS]) (fun cs c ih => ?_) cs
  rw [putN_snoc]
  simp only [put1, ih, List.length_append, List.length_singleton]
  unfold posS
  rw [Nat.add_assoc, Nat.add_assoc, Nat.succ_mul, show S / 2 + (S / 8 + 3) = stepS S by unfold stepS; omega, Nat.mod_add_mod]

section
variable {m : Nat} (h7 : 7 ≤ m) (h12 : m ≤ 12)
include h7 h12
theorem pos_inj {i j : Nat} (hi : i < 2 ^ m) (hj : j < 2 ^ m) (h : posS (2 ^ m) i = posS (2 ^ m) j) : i = j := by
  have key : ∀ {i j : Nat}, i ≤ j → j < 2 ^ m → posS (2 ^ m) i = posS (2 ^ m) j → i = j := by
    intro i j hij hj h
    unfold posS at h
    have hd : 2 ^ m ∣ (j - i) * stepS (2 ^ m) := by
      rw [Nat.sub_mul]
      exact Nat.dvd_of_mod_eq_zero (Nat.sub_mod_eq_zero_of_mod_eq h.symm)
    have := (step_coprime m h7 h12).dvd_of_dvd_mul_right hd
    rcases Nat.eq_zero_or_pos (j - i) with h0 | h0
    · omega
    · have := Nat.le_of_dvd h0 this; omega
  rcases Nat.le_total i j with hij | hij
  · exact key hij hj h
  · exact (key hij hi h.symm).symm
theorem pos_lt (j : Nat) : posS (2 ^ m) j < 2 ^ m := Nat.mod_lt _ (Nat.pow_pos (by decide))
theorem pos_surj {p : Nat} (hp : p < 2 ^ m) : ∃ j, j < 2 ^ m ∧ posS (2 ^ m) j = p := by
  obtain ⟨i, hi⟩ := step_inv m h7 h12
  refine ⟨(p * i) % 2 ^ m, Nat.mod_lt _ (Nat.pow_pos (by decide)), ?_⟩
  unfold posS
  rw [Nat.mod_mul_mod, Nat.mul_assoc, ← Nat.mul_mod_mod, hi, Nat.mul_one, Nat.mod_eq_of_lt hp]
theorem pos_perm : ((List.range (2 ^ m)).map (posS (2 ^ m))).Perm (List.range (2 ^ m)) := by
  refine (List.perm_ext_iff_of_nodup ?_ List.nodup_range).2 fun p => ?_
  · rw [List.Nodup, List.pairwise_map]
    exact List.Pairwise.imp_of_mem (fun {i j} hi hj hne h => hne (pos_inj h7 h12 (List.mem_range.1 hi) (List.mem_range.1 hj) h)) List.nodup_range
  · rw [List.mem_range, List.mem_map]
    constructor
    · rintro ⟨j, _, rfl⟩; exact pos_lt h7 h12 j
    · intro hp; obtain ⟨j, hj, e⟩ := pos_surj h7 h12 hp; exact ⟨j, List.mem_range.2 hj, e⟩
theorem putN_get (cs : List Int) (h : cs.length ≤ 2 ^ m) : ∀ j, j < cs.length → (putN (2 ^ m) cs).1.getD (posS (2 ^ m) j) 0 = cs.getD j 0 := by
  refine snoc_ind (P := fun cs => cs.length ≤ 2 ^ m → ∀ j, j < cs.length → (putN (2 ^ m) cs).1.getD (posS (2 ^ m) j) 0 = cs.getD j 0) (fun _ j hj => by simp at hj) (fun cs c ih => ?_) cs h
  intro hl j hj
  simp only [List.length_append, List.length_singleton] at hl hj
  rw [putN_snoc]
  simp only [put1]
  have ha := putN_at (2 ^ m) (Nat.pow_pos (by decide)) cs
  have hln := length_putN (2 ^ m) cs
  rw [ha]
  rcases Nat.lt_or_ge j cs.length with hlt | hge
  · have hne : posS (2 ^ m) cs.length ≠ posS (2 ^ m) j := fun e => by have := pos_inj h7 h12 (by omega) (by omega) e; omega
    have ih1 := ih (by omega) j hlt
    simp only [List.getD_eq_getElem?_getD] at ih1 ⊢
    rw [List.getElem?_set_ne hne, List.getElem?_append_left hlt]; exact ih1
  · have e : j = cs.length := by omega
    subst e
    simp only [List.getD_eq_getElem?_getD]
    rw [List.getElem?_set_self (by rw [hln]; exact pos_lt h7 h12 _)]
    simp
theorem list_of_range (l : List Int) : l = (List.range l.length).map fun i => l.getD i 0 := by
  apply List.ext_getElem
  · simp
  · intro i h1 h2; simp [List.getD_eq_getElem?_getD, h1]
theorem putN_perm (cs : List Int) (h : cs.length = 2 ^ m) : (putN (2 ^ m) cs).1.Perm cs := by
  have h1 : cs = ((List.range (2 ^ m)).map (posS (2 ^ m))).map fun p => (putN (2 ^ m) cs).1.getD p 0 := by
    rw [List.map_map]
    have e := list_of_range h7 h12 cs
    rw [h] at e
    conv => lhs; rw [e]
    refine List.map_congr_left fun j hj => ?_
    simp only [Function.comp]
    exact (putN_get h7 h12 cs (by omega) j (by rw [h]; exact List.mem_range.1 hj)).symm
  have h2 : (putN (2 ^ m) cs).1 = (List.range (2 ^ m)).map fun p => (putN (2 ^ m) cs).1.getD p 0 := by
    have e := list_of_range h7 h12 (putN (2 ^ m) cs).1
    rw [length_putN] at e
    exact e
  have h3 := (pos_perm h7 h12).map fun p => (putN (2 ^ m) cs).1.getD p 0
  rw [← h1, ← h2] at h3
  exact h3.symm
end

theorem count_expand (l : List Int) (c : Nat) : ∀ n, (expand l n).count (c : Int) = if c < n then (l.getD c 0).toNat else 0 := by
  intro n
  induction n with
  | zero => simp [expand]
  | succ n ih =>
    simp only [expand, List.count_append, ih, List.count_replicate]
    by_cases h1 : c < n
    · have : ¬ ((n : Int) == (c : Int)) = true := by simp; omega
      rw [if_neg this, if_pos h1, if_pos (show c < n + 1 by omega)]; omega
    · by_cases h2 : c = n
      · subst h2; rw [if_pos (show ((c : Int) == (c : Int)) = true by simp), if_neg h1, if_pos (show c < c + 1 by omega)]; omega
      · have : ¬ ((n : Int) == (c : Int)) = true := by simp; omega
        rw [if_neg this, if_neg h1, if_neg (show ¬ c < n + 1 by omega)]
theorem mem_expand (l : List Int) : ∀ n, ∀ x ∈ expand l n, 0 ≤ x ∧ x < (n : Int) := by
  intro n
  induction n with
  | zero => simp [expand]
  | succ n ih =>
    intro x hx
    simp only [expand, List.mem_append] at hx
    rcases hx with hx | hx
    · have := ih x hx; omega
    · have := (List.mem_replicate.1 hx).2; omega

/-- What those that may be are. -/
structure MayS (l : List Int) (m : Nat) : Prop where
  lo : 7 ≤ m
  hi : m ≤ 12
  len : l.length = 65
  each : ∀ x ∈ l, 0 ≤ x ∧ x ≤ ((2 ^ m : Nat) : Int)
  sum : l.sum = ((2 ^ m : Nat) : Int)
theorem mayS_of {l : List Int} {m : Nat} (h : mayN l (m : Int) = true) : MayS l m := by
  unfold mayN at h
  rw [decide_eq_true_eq, Int.toNat_natCast] at h
  exact ⟨by omega, by omega, h.2.2.1, h.2.2.2.1, h.2.2.2.2⟩
theorem MayS.length_expand {l : List Int} {m : Nat} (h : MayS l m) : (expand l l.length).length = 2 ^ m := by
  have := Sp.length_expand l (fun x hx => (h.each x hx).1) l.length (Nat.le_refl _)
  rw [List.take_length, h.sum] at this
  omega
theorem MayS.perm {l : List Int} {m : Nat} (h : MayS l m) : (spread l (2 ^ m)).Perm (expand l l.length) := putN_perm h.lo h.hi _ h.length_expand
theorem MayS.count {l : List Int} {m : Nat} (h : MayS l m) (c : Nat) (hc : c < 65) : (spread l (2 ^ m)).count (c : Int) = (l.getD c 0).toNat := by
  rw [h.perm.count_eq, count_expand, if_pos (by rw [h.len]; exact hc)]
theorem MayS.mem {l : List Int} {m : Nat} (h : MayS l m) : ∀ x ∈ spread l (2 ^ m), 0 ≤ x ∧ x < 65 := fun x hx => by
  have := mem_expand l l.length x (h.perm.mem_iff.1 hx)
  rw [h.len] at this; exact this
/-- The state of a class' next cell. -/
theorem MayS.next {l : List Int} {m : Nat} (h : MayS l m) (j : Nat) (hj : j < 2 ^ m) : ∃ c x r : Nat, (spread l (2 ^ m)).getD j 0 = (c : Int) ∧ c < 65 ∧ (nexts l ((spread l (2 ^ m)).take j)).getD c 0 = (x : Int) ∧ 0 < x ∧ x < 2 ^ (m + 1) ∧
    l.getD c 0 = (r : Int) ∧ x = r + ((spread l (2 ^ m)).take j).count (c : Int) ∧ ((spread l (2 ^ m)).take j).count (c : Int) < r ∧ r ≤ 2 ^ m := by
  have hl := length_spread l (2 ^ m)
  have hmem := h.mem _ (getD_mem (show j < (spread l (2 ^ m)).length by omega))
  obtain ⟨c, hc⟩ := Int.eq_ofNat_of_zero_le hmem.1
  have hc65 : c < 65 := by omega
  have hcl : c < l.length := by rw [h.len]; exact hc65
  have hx := h.each _ (getD_mem hcl)
  obtain ⟨r, hr⟩ := Int.eq_ofNat_of_zero_le hx.1
  have hcnt := h.count c hc65
  rw [hr, Int.toNat_natCast] at hcnt
  have hsplit : (spread l (2 ^ m)).count (c : Int) = ((spread l (2 ^ m)).take j).count (c : Int) + ((spread l (2 ^ m)).drop j).count (c : Int) := by
    rw [← List.count_append, List.take_append_drop]
  have hpos : 0 < ((spread l (2 ^ m)).drop j).count (c : Int) := by
    rw [List.count_pos_iff, List.drop_eq_getElem_cons (by omega)]
    have e : (spread l (2 ^ m)).getD j 0 = (spread l (2 ^ m))[j] := by simp [List.getD_eq_getElem?_getD, show j < (spread l (2 ^ m)).length by omega]
    rw [← hc, e]; exact List.mem_cons_self
  have hn := nexts_at ((spread l (2 ^ m)).take j) (fun x hx => (h.mem x (List.mem_of_mem_take hx)).1) l c hcl
  rw [hr] at hn
  refine ⟨c, r + ((spread l (2 ^ m)).take j).count (c : Int), r, hc, hc65, by rw [hn]; simp, by omega, ?_, hr, rfl, by omega, by omega⟩
  rw [Nat.pow_succ]; omega
end Go.Proofs.Ytlconnmfceabiaa.Sp

-- ---- Um
/- Which numbers may be: what both functions come to. -/
namespace Go.Proofs.Ytlconnmfceabiaa.PA
set_option linter.unusedVariables false
set_option linter.unusedSimpArgs false
open Go.RowKit Go.Proofs.YtlconnmfceabiaaW.PrintWords Go.Proofs.YtlconnmfceabiaaW.PrintLast Go.Proofs.YtlconnmfceabiaaW.PrintMore Nl Sp

theorem mayLog_is (a : Int) : norm_mayLog.f a = some (decide (7 ≤ a ∧ a ≤ 12)) := by
  unfold norm_mayLog.f
  by_cases h : a ≥ 7
  · rw [if_pos h]; congr 1; simp; omega
  · rw [if_neg h]; congr 1; simp; omega
theorem isLog_is (a : Int) : wringerref7_isLog.f a = some (decide (7 ≤ a ∧ a ≤ 12)) := by
  unfold wringerref7_isLog.f
  by_cases h : a ≥ 7
  · rw [if_pos h]; congr 1; simp; omega
  · rw [if_neg h]; congr 1; simp; omega

theorem drop_getD (l : List Int) (i : Nat) (h : i < l.length) : l.drop i = l.getD i 0 :: l.drop (i + 1) := by
  rw [List.drop_eq_getElem_cons h]; simp [List.getD_eq_getElem?_getD, h]

theorem may_l0 (P : Nat) (hP : P ≤ 4096) (l : List Int) (hl : l.length ≤ 100) : ∀ (d i : Nat) (t : Int), i + d = l.length → 0 ≤ t → t ≤ 4096 * (i : Int) →
    Ev (fun k => norm_May.l0 k (P : Int) t l (l.length : Int) (i : Int)) (decide ((∀ x ∈ l.drop i, 0 ≤ x ∧ x ≤ (P : Int)) ∧ t + (l.drop i).sum = (P : Int))) := by
  intro d
  induction d with
  | zero =>
    intro i t hi h0 h1
    refine Ev.step (f := fun _ => some (t == (P : Int))) (fun k => by simp only [norm_May.l0]; rw [if_neg (by omega)]) (Ev.ofSome ?_)
    rw [List.drop_eq_nil_of_le (by omega), Bool.eq_iff_iff]; simp
  | succ d ih =>
    intro i t hi h0 h1
    have hil : i < l.length := by omega
    rw [drop_getD l i hil]
    generalize hy : l.getD i 0 = y
    by_cases hy0 : y < 0
    · refine Ev.step (f := fun _ => some false) (fun k => by simp only [norm_May.l0]; rw [if_pos (by omega), if_pos (by omega), if_pos (by omega), rd_nat, hy, if_pos hy0]) (Ev.ofSome ?_)
      symm; rw [decide_eq_false_iff_not]; intro h; have := h.1 y (by simp); omega
    · by_cases hyP : y > (P : Int)
      · refine Ev.step (f := fun _ => some false) (fun k => by simp only [norm_May.l0]; rw [if_pos (by omega), if_pos (by omega), if_pos (by omega), rd_nat, hy, if_neg hy0, if_pos hyP]) (Ev.ofSome ?_)
        symm; rw [decide_eq_false_iff_not]; intro h; have := h.1 y (by simp); omega
      · refine evq ?_ (Ev.step (f := fun k => norm_May.l0 k (P : Int) (t + y) l (l.length : Int) ((i + 1 : Nat) : Int)) (fun k => by simp only [norm_May.l0]; rw [if_pos (by omega), if_pos (by omega), if_pos (by omega), rd_nat, hy, if_neg hy0, if_neg hyP, w64 (by omega) (by omega), w64 (by omega) (by omega)]; rfl) (ih (i + 1) (t + y) (by omega) (by omega) (by omega)))
        congr 1
        simp only [List.mem_cons, forall_eq_or_imp, List.sum_cons, eq_iff_iff]
        constructor
        · rintro ⟨a, b⟩; exact ⟨⟨⟨by omega, by omega⟩, a⟩, by omega⟩
        · rintro ⟨⟨_, a⟩, b⟩; exact ⟨a, by omega⟩

theorem may_is (l : List Int) (a : Int) : Ev (fun k => norm_May.f k l a) (mayN l a) := by
  unfold norm_May.f
  refine Ev.bind0 (mayLog_is a) ?_
  by_cases hlog : 7 ≤ a ∧ a ≤ 12
  · obtain ⟨m, rfl⟩ := Int.eq_ofNat_of_zero_le (show 0 ≤ a by omega)
    have hp : 2 ^ m ≤ 4096 := by have := pow2_le m 12 (by omega); omega
    refine Ev.ite_pos (by simpa using hlog) ?_
    by_cases h65 : l.length = 65
    · refine evq ?_ (Ev.step (f := fun k => norm_May.l0 k ((2 ^ m : Nat) : Int) 0 l (l.length : Int) ((0 : Nat) : Int)) (fun k => by simp only [norm_May.j0]; rw [if_neg (by simp; omega), if_pos (by omega), shl_1 m (by omega)]; rfl) (may_l0 (2 ^ m) hp l (by omega) l.length 0 0 (by omega) (by omega) (by omega)))
      unfold mayN
      rw [Int.toNat_natCast, List.drop_zero]
      congr 1
      rw [eq_iff_iff]
      constructor
      · rintro ⟨x, y⟩; exact ⟨by omega, by omega, h65, x, by omega⟩
      · rintro ⟨_, _, _, x, y⟩; exact ⟨x, by omega⟩
    · refine Ev.step (f := fun _ => some false) (fun k => by simp only [norm_May.j0]; rw [if_pos (by simp; omega)]) (Ev.ofSome ?_)
      symm; unfold mayN; rw [decide_eq_false_iff_not]; rintro ⟨_, _, h, _⟩; exact h65 h
  · refine Ev.ite_neg (by simpa using hlog) ?_
    refine Ev.step (f := fun _ => some false) (fun k => by simp only [norm_May.j0]; rfl) (Ev.ofSome ?_)
    symm; unfold mayN; rw [decide_eq_false_iff_not]; rintro ⟨h1, h2, _⟩; exact hlog ⟨h1, h2⟩

theorem rmay_l0 (m : Nat) (hm : m ≤ 12) (l : List Int) (hl : l.length ≤ 100) : ∀ (d i : Nat) (t : Int), i + d = l.length → 0 ≤ t → t ≤ 4096 * (i : Int) →
    Ev (fun k => wringerref7_MayNorm.l0 k l (m : Int) t (i : Int)) (decide ((∀ x ∈ l.drop i, 0 ≤ x ∧ x ≤ ((2 ^ m : Nat) : Int)) ∧ t + (l.drop i).sum = ((2 ^ m : Nat) : Int))) := by
  have hP : 2 ^ m ≤ 4096 := by have := pow2_le m 12 hm; omega
  have hs := shl_1 m (by omega)
  generalize 2 ^ m = P at hP hs
  intro d
  induction d with
  | zero =>
    intro i t hi h0 h1
    refine Ev.step (f := fun _ => some (t == (P : Int))) (fun k => by simp only [wringerref7_MayNorm.l0]; rw [if_neg (by omega), if_pos (by omega), hs]) (Ev.ofSome ?_)
    rw [List.drop_eq_nil_of_le (by omega), Bool.eq_iff_iff]; simp
  | succ d ih =>
    intro i t hi h0 h1
    have hil : i < l.length := by omega
    rw [drop_getD l i hil]
    generalize hy : l.getD i 0 = y
    by_cases hy0 : y < 0
    · refine Ev.step (f := fun _ => some false) (fun k => by simp only [wringerref7_MayNorm.l0]; rw [if_pos (by omega), if_pos (by omega), rd_nat, hy, if_pos hy0]) (Ev.ofSome ?_)
      symm; rw [decide_eq_false_iff_not]; intro h; have := h.1 y (by simp); omega
    · by_cases hyP : y > (P : Int)
      · refine Ev.step (f := fun _ => some false) (fun k => by simp only [wringerref7_MayNorm.l0]; rw [if_pos (by omega), if_pos (by omega), rd_nat, hy, if_neg hy0, if_pos (by omega), hs, if_pos hyP]) (Ev.ofSome ?_)
        symm; rw [decide_eq_false_iff_not]; intro h; have := h.1 y (by simp); omega
      · refine evq ?_ (Ev.step (f := fun k => wringerref7_MayNorm.l0 k l (m : Int) (t + y) ((i + 1 : Nat) : Int)) (fun k => by simp only [wringerref7_MayNorm.l0]; rw [if_pos (by omega), if_pos (by omega), rd_nat, hy, if_neg hy0, if_pos (by omega), hs, if_neg hyP, w64 (by omega) (by omega), w64 (by omega) (by omega)]; rfl) (ih (i + 1) (t + y) (by omega) (by omega) (by omega)))
        congr 1
        simp only [List.mem_cons, forall_eq_or_imp, List.sum_cons, eq_iff_iff]
        constructor
        · rintro ⟨a, b⟩; exact ⟨⟨⟨by omega, by omega⟩, a⟩, by omega⟩
        · rintro ⟨⟨_, a⟩, b⟩; exact ⟨a, by omega⟩

theorem rmay_is (l : List Int) (a : Int) : Ev (fun k => wringerref7_MayNorm.f k l a) (mayN l a) := by
  unfold wringerref7_MayNorm.f
  refine Ev.bind0 (isLog_is a) ?_
  by_cases hlog : 7 ≤ a ∧ a ≤ 12
  · obtain ⟨m, rfl⟩ := Int.eq_ofNat_of_zero_le (show 0 ≤ a by omega)
    refine Ev.ite_pos (by simpa using hlog) ?_
    by_cases h65 : l.length = 65
    · refine evq ?_ (Ev.step (f := fun k => wringerref7_MayNorm.l0 k l (m : Int) 0 ((0 : Nat) : Int)) (fun k => by simp only [wringerref7_MayNorm.j0]; rw [if_neg (by simp; omega)]; rfl) (rmay_l0 m (by omega) l (by omega) l.length 0 0 (by omega) (by omega) (by omega)))
      unfold mayN
      rw [Int.toNat_natCast, List.drop_zero]
      congr 1
      rw [eq_iff_iff]
      constructor
      · rintro ⟨x, y⟩; exact ⟨by omega, by omega, h65, x, by omega⟩
      · rintro ⟨_, _, _, x, y⟩; exact ⟨x, by omega⟩
    · refine Ev.step (f := fun _ => some false) (fun k => by simp only [wringerref7_MayNorm.j0]; rw [if_pos (by simp; omega)]) (Ev.ofSome ?_)
      symm; unfold mayN; rw [decide_eq_false_iff_not]; rintro ⟨_, _, h, _⟩; exact h65 h
  · refine Ev.ite_neg (by simpa using hlog) ?_
    refine Ev.step (f := fun _ => some false) (fun k => by simp only [wringerref7_MayNorm.j0]; rfl) (Ev.ofSome ?_)
    symm; unfold mayN; rw [decide_eq_false_iff_not]; rintro ⟨h1, h2, _⟩; exact hlog ⟨h1, h2⟩

/-- What those that may be are. -/
structure May (l : List Int) (m : Nat) : Prop where
  lo : 7 ≤ m
  hi : m ≤ 12
  len : l.length = 65
  each : ∀ x ∈ l, 0 ≤ x ∧ x ≤ ((2 ^ m : Nat) : Int)
  sum : l.sum = ((2 ^ m : Nat) : Int)
theorem may_iff (l : List Int) (a : Int) : mayN l a = true ↔ ∃ m : Nat, a = (m : Int) ∧ May l m := by
  unfold mayN
  rw [decide_eq_true_eq]
  constructor
  · rintro ⟨h1, h2, h3, h4, h5⟩
    exact ⟨a.toNat, by omega, by omega, by omega, h3, h4, h5⟩
  · rintro ⟨m, rfl, h⟩
    exact ⟨by have := h.lo; omega, by have := h.hi; omega, h.len, by rw [Int.toNat_natCast]; exact h.each, by rw [Int.toNat_natCast]; exact h.sum⟩
end Go.Proofs.Ytlconnmfceabiaa.PA

-- ---- Us
/- Classes at their places: what both functions come to. -/
namespace Go.Proofs.Ytlconnmfceabiaa.PA
set_option linter.unusedVariables false
set_option linter.unusedSimpArgs false
open Go.RowKit Go.Proofs.YtlconnmfceabiaaW.PrintWords Go.Proofs.YtlconnmfceabiaaW.PrintLast Go.Proofs.YtlconnmfceabiaaW.PrintMore Nl Sp

theorem next_at (S a : Nat) (hS : S ≤ 4096) (ha : a < S) : Int.tmod (wrap64 (wrap64 (wrap64 ((a : Int) + wrap64 (Int.tdiv (S : Int) 2)) + wrap64 (Int.tdiv (S : Int) 8)) + 3)) (S : Int) = (((a + S / 2 + S / 8 + 3) % S : Nat) : Int) := by
  have e2 : Int.tdiv (S : Int) 2 = ((S / 2 : Nat) : Int) := tdiv_nat S 2
  have e8 : Int.tdiv (S : Int) 8 = ((S / 8 : Nat) : Int) := tdiv_nat S 8
  rw [e2, e8, w64 (x := ((S / 2 : Nat) : Int)) (by omega) (by omega), w64 (x := ((S / 8 : Nat) : Int)) (by omega) (by omega), w64 (x := (a : Int) + ((S / 2 : Nat) : Int)) (by omega) (by omega), w64 (x := (a : Int) + ((S / 2 : Nat) : Int) + ((S / 8 : Nat) : Int)) (by omega) (by omega), w64 (by omega) (by omega)]
  rw [show (a : Int) + ((S / 2 : Nat) : Int) + ((S / 8 : Nat) : Int) + 3 = ((a + S / 2 + S / 8 + 3 : Nat) : Int) by omega, tmod_nat]

theorem expand_succ (l : List Int) (i : Nat) : expand l (i + 1) = expand l i ++ List.replicate (l.getD i 0).toNat (i : Int) := rfl
theorem rep_snoc (n : Nat) (c : Int) : List.replicate (n + 1) c = List.replicate n c ++ [c] := List.replicate_succ'

theorem sp_l1 (S : Nat) (hS0 : 0 < S) (hS : S ≤ 4096) (l : List Int) (hl : l.length = 65) (hx : ∀ x ∈ l, 0 ≤ x ∧ x ≤ (S : Int)) (i : Nat) (hi : i < l.length) (r : List Int × Int)
    (hn : Ev (fun k => spread_Spread.l0 k (S : Int) (putN S (expand l (i + 1))).1 ((putN S (expand l (i + 1))).2 : Int) l (l.length : Int) ((i + 1 : Nat) : Int)) r) :
    ∀ (d j : Nat), j + d = (l.getD i 0).toNat → Ev (fun k => spread_Spread.l1 k (S : Int) (putN S (expand l i ++ List.replicate j (i : Int))).1 ((putN S (expand l i ++ List.replicate j (i : Int))).2 : Int) (i : Int) l (l.length : Int) (i : Int) (l.getD i 0) (j : Int)) r := by
  have hxi := hx _ (getD_mem hi)
  intro d
  induction d with
  | zero =>
    intro j hj
    refine Ev.step (f := fun k => spread_Spread.l0 k (S : Int) (putN S (expand l (i + 1))).1 ((putN S (expand l (i + 1))).2 : Int) l (l.length : Int) ((i + 1 : Nat) : Int)) (fun k => ?_) hn
    simp only [spread_Spread.l1]
    rw [if_neg (by omega), w64 (by omega) (by omega), expand_succ, show (l.getD i 0).toNat = j by omega]; rfl
  | succ d ih =>
    intro j hj
    have ih := ih (j + 1) (by omega)
    rw [rep_snoc, ← List.append_assoc, putN_snoc] at ih
    have h1 := length_putN S (expand l i ++ List.replicate j (i : Int))
    have h2 := at_putN S hS0 (expand l i ++ List.replicate j (i : Int))
    generalize putN S (expand l i ++ List.replicate j (i : Int)) = st at ih h1 h2
    obtain ⟨o, a⟩ := st
    simp only [put1] at ih h1 h2 ⊢
    refine Ev.step (f := fun k => spread_Spread.l1 k (S : Int) (o.set a (i : Int)) (((a + S / 2 + S / 8 + 3) % S : Nat) : Int) (i : Int) l (l.length : Int) (i : Int) (l.getD i 0) ((j + 1 : Nat) : Int)) (fun k => ?_) ih
    simp only [spread_Spread.l1]
    rw [if_pos (by omega), if_pos (by omega), if_pos (by omega), if_neg (by omega), next_at S a hS h2, w64 (by omega) (by omega)]; rfl
theorem sp_l0 (S : Nat) (hS0 : 0 < S) (hS : S ≤ 4096) (l : List Int) (hl : l.length = 65) (hx : ∀ x ∈ l, 0 ≤ x ∧ x ≤ (S : Int)) :
    ∀ (d i : Nat), i + d = l.length → Ev (fun k => spread_Spread.l0 k (S : Int) (putN S (expand l i)).1 ((putN S (expand l i)).2 : Int) l (l.length : Int) (i : Int)) (spread l S, 0) := by
  intro d
  induction d with
  | zero =>
    intro i hi
    refine Ev.step (f := fun _ => some ((putN S (expand l i)).1, 0)) (fun k => by simp only [spread_Spread.l0]; rw [if_neg (by omega)]) (Ev.ofSome ?_)
    rw [show i = l.length by omega]; rfl
  | succ d ih =>
    intro i hi
    have h := sp_l1 S hS0 hS l hl hx i (by omega) _ (ih (i + 1) (by omega)) (l.getD i 0).toNat 0 (by omega)
    rw [List.replicate_zero, List.append_nil] at h
    refine Ev.step (f := fun k => spread_Spread.l1 k (S : Int) (putN S (expand l i)).1 ((putN S (expand l i)).2 : Int) (i : Int) l (l.length : Int) (i : Int) (l.getD i 0) ((0 : Nat) : Int)) (fun k => ?_) h
    simp only [spread_Spread.l0]
    rw [if_pos (by omega), if_pos (by omega), if_pos (by omega), rd_nat]; rfl

/-- The answer of both. -/
def spreadE (l : List Int) (a : Int) : List Int × Int := if mayN l a = true then (spread l (2 ^ a.toNat), 0) else ([], 3)
theorem spread_is (l : List Int) (a : Int) : Ev (fun k => spread_Spread.f k l a) (spreadE l a) := by
  unfold spread_Spread.f spreadE
  refine Ev.bind (may_is l a) ?_
  by_cases h : mayN l a = true
  · obtain ⟨m, rfl, hm⟩ := (may_iff l a).1 h
    have h1 := hm.hi
    have hp : 2 ^ m ≤ 4096 := by have := pow2_le m 12 h1; omega
    have hp0 : 0 < 2 ^ m := Nat.pow_pos (by decide)
    rw [if_pos h, Int.toNat_natCast]
    refine Ev.ite_pos h (Ev.ite_pos (by omega) (Ev.ite_pos (by rw [shl_1 m (by omega)]; omega) (Ev.ite_pos (by rw [shl_1 m (by omega)]; omega) ?_)))
    have := sp_l0 (2 ^ m) hp0 hp l hm.len hm.each l.length 0 (by omega)
    refine Ev.congr (fun k => ?_) this
    rw [shl_1 m (by omega), Int.toNat_natCast]; rfl
  · rw [if_neg h]
    exact Ev.ite_neg h (Ev.now _)

theorem rsp_l1 (S : Nat) (hS0 : 0 < S) (hS : S ≤ 4096) (l : List Int) (hl : l.length = 65) (hx : ∀ x ∈ l, 0 ≤ x ∧ x ≤ (S : Int)) (i : Nat) (hi : i < l.length) (r : List Int × Int)
    (hn : Ev (fun k => wringerref7_Spread.l0 k l (S : Int) (putN S (expand l (i + 1))).1 ((putN S (expand l (i + 1))).2 : Int) ((i + 1 : Nat) : Int)) r) :
    ∀ (d j : Nat), j + d = (l.getD i 0).toNat → Ev (fun k => wringerref7_Spread.l1 k l (S : Int) (putN S (expand l i ++ List.replicate j (i : Int))).1 ((putN S (expand l i ++ List.replicate j (i : Int))).2 : Int) (i : Int) (j : Int)) r := by
  have hxi := hx _ (getD_mem hi)
  intro d
  induction d with
  | zero =>
    intro j hj
    refine Ev.step (f := fun k => wringerref7_Spread.l0 k l (S : Int) (putN S (expand l (i + 1))).1 ((putN S (expand l (i + 1))).2 : Int) ((i + 1 : Nat) : Int)) (fun k => ?_) hn
    simp only [wringerref7_Spread.l1]
    rw [if_pos (by omega), if_pos (by omega), rd_nat, if_neg (by omega), w64 (by omega) (by omega), expand_succ, show (l.getD i 0).toNat = j by omega]; rfl
  | succ d ih =>
    intro j hj
    have ih := ih (j + 1) (by omega)
    rw [rep_snoc, ← List.append_assoc, putN_snoc] at ih
    have h1 := length_putN S (expand l i ++ List.replicate j (i : Int))
    have h2 := at_putN S hS0 (expand l i ++ List.replicate j (i : Int))
    generalize putN S (expand l i ++ List.replicate j (i : Int)) = st at ih h1 h2
    obtain ⟨o, a⟩ := st
    simp only [put1] at ih h1 h2 ⊢
    refine Ev.step (f := fun k => wringerref7_Spread.l1 k l (S : Int) (o.set a (i : Int)) (((a + S / 2 + S / 8 + 3) % S : Nat) : Int) (i : Int) ((j + 1 : Nat) : Int)) (fun k => ?_) ih
    simp only [wringerref7_Spread.l1]
    rw [if_pos (by omega), if_pos (by omega), rd_nat, if_pos (by omega), if_pos (by omega), if_pos (by omega), if_neg (by omega), next_at S a hS h2, w64 (by omega) (by omega)]; rfl
theorem rsp_l0 (S : Nat) (hS0 : 0 < S) (hS : S ≤ 4096) (l : List Int) (hl : l.length = 65) (hx : ∀ x ∈ l, 0 ≤ x ∧ x ≤ (S : Int)) :
    ∀ (d i : Nat), i + d = l.length → Ev (fun k => wringerref7_Spread.l0 k l (S : Int) (putN S (expand l i)).1 ((putN S (expand l i)).2 : Int) (i : Int)) (spread l S, 0) := by
  intro d
  induction d with
  | zero =>
    intro i hi
    refine Ev.step (f := fun _ => some ((putN S (expand l i)).1, 0)) (fun k => by simp only [wringerref7_Spread.l0]; rw [if_neg (by omega)]) (Ev.ofSome ?_)
    rw [show i = l.length by omega]; rfl
  | succ d ih =>
    intro i hi
    have h := rsp_l1 S hS0 hS l hl hx i (by omega) _ (ih (i + 1) (by omega)) (l.getD i 0).toNat 0 (by omega)
    rw [List.replicate_zero, List.append_nil] at h
    refine Ev.step (f := fun k => wringerref7_Spread.l1 k l (S : Int) (putN S (expand l i)).1 ((putN S (expand l i)).2 : Int) (i : Int) ((0 : Nat) : Int)) (fun k => ?_) h
    simp only [wringerref7_Spread.l0]
    rw [if_pos (by omega)]; rfl
theorem rspread_is (l : List Int) (a : Int) : Ev (fun k => wringerref7_Spread.f k l a) (spreadE l a) := by
  unfold wringerref7_Spread.f spreadE
  refine Ev.bind (rmay_is l a) ?_
  by_cases h : mayN l a = true
  · obtain ⟨m, rfl, hm⟩ := (may_iff l a).1 h
    have h1 := hm.hi
    have hp : 2 ^ m ≤ 4096 := by have := pow2_le m 12 h1; omega
    have hp0 : 0 < 2 ^ m := Nat.pow_pos (by decide)
    rw [if_pos h, Int.toNat_natCast]
    refine Ev.ite_pos h (Ev.ite_pos (by omega) (Ev.ite_pos (by rw [shl_1 m (by omega)]; omega) (Ev.ite_pos (by rw [shl_1 m (by omega)]; omega) ?_)))
    have := rsp_l0 (2 ^ m) hp0 hp l hm.len hm.each l.length 0 (by omega)
    refine Ev.congr (fun k => ?_) this
    rw [shl_1 m (by omega), Int.toNat_natCast]; rfl
  · rw [if_neg h]
    exact Ev.ite_neg h (Ev.now _)
end Go.Proofs.Ytlconnmfceabiaa.PA

-- ---- Tb
/- The table of states: what the call answers. -/
namespace Go.Proofs.Ytlconnmfceabiaa.PA
set_option linter.unusedSimpArgs false
set_option linter.unusedVariables false
open Go.RowKit Go.Proofs.YtlconnmfceabiaaW.PrintWords Mix Own Ol Nl Sp
attribute [local go_sem] Own.max_int Own.min_int

theorem infoCell : (Try.prog.info? 45).map (fun i => (i.zero, i.size, i.bytes)) = some (some (.agg #[.int .i64 0, .int .i64 0, .int .i64 0]), 3, 24) := by kernel_rfl

def cellV (c : Int × Int × Int) : List Value := [.int .i64 c.1, .int .i64 c.2.1, .int .i64 c.2.2]

set_option maxHeartbeats 4000000 in
theorem table_bad (A0 : Option Addr) (c0 : Nat) (l0 : List Int) (a1 : Int) (w : World) (hr0 : Kd.C (Kd.int .i64) w A0 l0.length l0) (hc0 : l0.length ≤ c0) (hb : ¬ mayN l0 a1 = true) :
    Calls Try.prog 11 #[.slice A0 l0.length c0, .int .i64 a1] w fun e w' => e = .returned (.tuple #[.slice none 0 0, .int .i64 3]) ∧ Below w.heap.size w w' := by
  obtain ⟨k, hk⟩ := (spread_is l0 a1).rounds
  unfold spreadE at hk
  rw [if_neg hb] at hk
  have hs := spread_Spread.calls k A0 c0 l0 a1 [] 3 w hr0 hc0 hk
  obtain ⟨n, hn⟩ : ∃ n, n = l0.length := ⟨_, rfl⟩
  rw [← hn] at hs ⊢
  have HS := kept hs
  clear hr0 hc0 hb hk hs hn
  go_enter Try.func11, Try.ntmps11
  go_wp2_with (go_at_call 9; refine HS.out.mono ?_; rintro e w1 ⟨v, rfl, hr, hb⟩; have HB := kept hb; clear hb hr)
  go_ret2
  exact ⟨rfl, HB.out⟩

/-- On the way: the classes at block s, the maker at block p, its next states at block g, the cells told at v. -/
structure StT (B : Nat) (w wr : World) (m S : Nat) (l : List Int) (s sc p g c : Nat) (v : Value) (j : Nat) : Prop where
  cls : Owns wr 3 (.slice (some ⟨s, 0, none⟩) S sc) (ints .i64 (spread l S))
  maker : IsMk wr p g c m (nexts l ((spread l S).take j))
  out : OwnK wr 45 3 v j ((cells m l ((spread l S).take j)).flatMap cellV)
  sg : s ≠ g
  gB : B ≤ g
  vB : ∀ b, v.ownBlock = some b → B ≤ b
  low : Below B w wr
  sz : B ≤ wr.heap.size
/-- A slice's length. -/
def lenV : Value → Nat
  | .slice _ n _ => n
  | _ => 0
theorem length_cellV (cs : List (Int × Int × Int)) : (cs.flatMap cellV).length = cs.length * 3 := by
  induction cs with
  | nil => rfl
  | cons a t ih => simp [List.flatMap_cons, cellV, ih]; omega

set_option maxHeartbeats 8000000 in
theorem table_ok (A0 : Option Addr) (c0 : Nat) (l0 : List Int) (m : Nat) (w : World) (hr0 : Kd.C (Kd.int .i64) w A0 l0.length l0) (hc0 : l0.length ≤ c0) (hb : mayN l0 (m : Int) = true) :
    Calls Try.prog 11 #[.slice A0 l0.length c0, .int .i64 (m : Int)] w fun e w' => ∃ v, e = .returned (.tuple #[v, .int .i64 0]) ∧ OwnK w' 45 3 v (2 ^ m) ((table l0 m).flatMap cellV) ∧ (∀ b, v.ownBlock = some b → w.heap.size ≤ b) ∧ Below w.heap.size w w' := by
  obtain ⟨k, hk⟩ := (spread_is l0 (m : Int)).rounds
  unfold spreadE at hk
  rw [if_pos hb, Int.toNat_natCast] at hk
  have hs := spread_Spread.calls k A0 c0 l0 (m : Int) _ 0 w hr0 hc0 hk
  have hM := mayS_of hb
  have h65 := hM.len
  have h12 := hM.hi
  have hp12 := pow12 m h12
  have hp0 : 0 < 2 ^ m := Nat.pow_pos (by decide)
  have hshl := shl_int m (by omega)
  have hR := Own.rd_of_C hr0
  obtain ⟨i0, hi, hz0, hz1, hz2⟩ := info_partsI infoI64
  obtain ⟨j0, hj, hy0, hy1, hy2⟩ := info_partsI infoCell
  obtain ⟨x0, rfl, hxc⟩ := hR.at (Own.ints_at .i64 l0 0 (by omega))
  rw [h65] at hR hs ⊢
  obtain ⟨B, hB⟩ : ∃ B, B = w.heap.size := ⟨_, rfl⟩
  obtain ⟨P, hP⟩ : ∃ P, P = 2 ^ m := ⟨_, rfl⟩
  have hm63 : m < 63 := by omega
  have HS := kept hs
  have HM := kept hM
  have HR := kept hR
  have HB := kept hB
  have HP := kept hP
  have H65 := kept h65
  rw [← hP] at hshl hp12 hp0
  clear hr0 hc0 hb hk hs hM hR hxc hB hP h12 h65
  go_enter Try.func11, Try.ntmps11
  go_wp2_with (first | (go_at_call 9; refine HS.out.mono ?_; rintro e w1 ⟨v, rfl, hr, hb⟩; have HB1 := kept hb; obtain ⟨ho, hnew⟩ := Own.owns_of_R hr; have HO := kept ho; have HNew := kept hnew; clear hb hr ho hnew))
  obtain ⟨sa, sc, rfl, hsg⟩ := HO.out.slice
  have hsl : (ints .i64 (spread l0 (2 ^ m))).length = P := by rw [length_ints, length_spread]; exact HP.out.symm
  rw [hsl] at HO HNew ⊢
  rw [← HP.out] at HO
  obtain ⟨g0, rfl⟩ := hsg (fun e => by rw [e] at hsl; simp at hsl; omega)
  clear hsl
  have HR1 := kept (HR.out.later HB1.out)
  refine wp_region_mixL [0,1,2] [4] [3,5,6,7,8] (by kernel_rfl) (by kernel_rfl) ?_
  intro K hK
  simp only [pick, List.filterMap_cons, List.filterMap_nil, List.getElem?_cons_zero, List.getElem?_cons_succ]
  repeat (show wpQuiet _ _ _ _ (_ :: _) _; go_big_quiet_step (fail))
  refine wpQuiet_nil ?_
  show wpList _ _ _ [_, _, _, _, _] _ _
  rw [hshl]
  generalize hwd : World.drew w1 = w2
  have HO2 : Kept (Owns w2 3 (.slice (some ⟨g0, 0, none⟩) P sc) (ints .i64 (spread l0 P))) := kept (by rw [← hwd]; exact HO.out)
  have HB2 : Kept (Below w.heap.size w w2) := kept (by rw [← hwd]; exact HB1.out.drew)
  have HR2 : Kept (Rd w2 (.slice (some x0) 65 65) (ints .i64 l0)) := kept (by rw [← hwd]; exact HR1.out)
  clear hwd HB1 HO HR1
  have hO3 : Owns (w2.alloc (.cells #[] 3)) 3 (.slice (some ⟨w2.heap.size, 0, none⟩) 0 0) [] :=
    Owns.mk (xs := []) (Blk.fresh _ _ _) (Nat.le_refl _) (by simp [maxLen]) rfl rfl
  have HO3 := kept hO3
  have hnews : ∀ j u, (ints .i64 l0)[j]? = some u → (w2.alloc (.cells #[] 3)).cell? (x0.add j) = some u := fun j u hu => by
    obtain ⟨x', hxx, hc⟩ := (HR2.out.later (show Below w2.heap.size w2 (w2.alloc (.cells #[] 3)) from (Below.refl _ _).alloc (Nat.le_refl _) _)).at hu
    cases hxx
    exact hc
  have HNews := kept hnews
  have HL0 : Kept ((ints .i64 l0).length = 65) := kept (by rw [length_ints]; exact H65.out)
  clear hO3 hnews
  go_wp2_with (first | (at_builtin; refine wpList_app rfl _ _ 22 rfl 3 i0 (.int .i64 0) 8 Try.underlying22 hi hz0 hz1 hz2 rfl _ _ rfl HO3.out x0 _ _ _ rfl HL0.out HNews.out ?_ ?_ ?_ ?_) | fail)
  · intro u hu; obtain ⟨n, _, rfl⟩ := List.mem_map.1 hu; rfl
  · simp [maxLen]
  · simp
  intro v3 w3 O3 C3 F3
  obtain ⟨a3, c3, rfl, hg3⟩ := O3.slice
  rw [HL0.out] at O3 F3 ⊢
  obtain ⟨g3, rfl⟩ := hg3 (fun e => by have := HL0.out; rw [e] at this; simp at this)
  clear hg3
  have hge3 : w2.heap.size ≤ g3 := by
    rcases F3 g3 rfl with h | h
    · simp [Value.ownBlock] at h; omega
    · omega
  have hb23 : Below w2.heap.size w2 w3 := (((Chg.alloc (fun _ => False) w2 _).trans C3 (fun b hb h => by simp [Value.ownBlock] at h; omega)) : Chg (fun _ => False) w2 w3).below (Nat.le_refl _) (fun _ _ h => h)
  have HB3 : Kept (Below w.heap.size w w3) := kept (HB2.out.trans (hb23.mono HB2.out.size))
  have HO4 : Kept (Owns w3 3 (.slice (some ⟨g0, 0, none⟩) P sc) (ints .i64 (spread l0 P))) := kept (HO2.out.keep fun b _ hl => hb23.block b hl)
  have HG3 : Kept (Owns w3 3 (.slice (some ⟨g3, 0, none⟩) 65 c3) (ints .i64 l0)) := kept O3
  have HNe : Kept (g0 ≠ g3) := kept (by have := HO2.out.lt g0 rfl; omega)
  have HGe : Kept (w.heap.size ≤ g3) := kept (Nat.le_trans HB2.out.size hge3)
  have hc3 : 65 ≤ c3 := by
    rcases O3.form with ⟨hv, _⟩ | ⟨g', cap', cur, hv, _, h3, h4, _⟩
    · simp at hv
    · simp only [Value.slice.injEq] at hv; rw [hv.2.2]; rw [HL0.out] at h3; exact h3
  clear O3 C3 F3 hb23 hge3 HO2 HB2 HR2 HO3 HNews hsg
  go_wp2_with fail
  refine hK _ _ ?_
  generalize hw4 : World.alloc w3 _ = w4
  have hb34 : Below w3.heap.size w3 w4 := by rw [← hw4]; exact (Below.refl _ _).alloc (Nat.le_refl _) _
  have HMk : Kept (IsMk w4 w3.heap.size g3 c3 m l0) := kept ⟨by rw [← hw4, ← HP.out]; exact Blk.fresh _ _ _, HG3.out.keep fun b _ hl => hb34.block b hl⟩
  have HO5 : Kept (Owns w4 3 (.slice (some ⟨g0, 0, none⟩) P sc) (ints .i64 (spread l0 P))) := kept (HO4.out.keep fun b _ hl => hb34.block b hl)
  have HB4 : Kept (Below w.heap.size w w4) := kept (HB3.out.trans (hb34.mono HB3.out.size))
  obtain ⟨p, hp⟩ : ∃ p, p = w3.heap.size := ⟨_, rfl⟩
  rw [← hp] at HMk ⊢
  clear hw4 hb34 HO4 HB3 HG3 hp
  go_wp2_with (first | (refine wpList_mkK0 rfl _ _ 30 rfl 45 j0 (.agg #[.int .i64 0, .int .i64 0, .int .i64 0]) 3 24 Try.underlying30 hj hy0 hy1 hy2 .i64 .i64 _ P rfl rfl rfl (by omega) (by simp [maxLen]; omega) ?_))
  intro w5 ho5 hb5
  have HSt0 : Kept (StT w.heap.size w w5 m P l0 g0 sc p g3 c3 (.slice (some ⟨w4.heap.size, 0, none⟩) 0 P) 0) := kept
    ⟨HO5.out.keep fun b _ hl => hb5.block b hl, by simpa [nexts] using HMk.out.later hb5, by simpa [cells] using ho5, HNe.out, HGe.out, fun b hb => by simp [Value.ownBlock] at hb; have := HB4.out.size; omega, HB4.out.trans (hb5.mono HB4.out.size), Nat.le_trans HB4.out.size hb5.size⟩
  obtain ⟨V0, hV0⟩ : ∃ V0, V0 = w4.heap.size := ⟨_, rfl⟩
  rw [← hV0] at HSt0 ⊢
  clear ho5 hb5 HO5 HMk HB4 hV0 HNe HGe
  go_wp2_with fail
  go_loopw [9] (fun s9 wr => ∃ (j : Nat) (v : Value), j ≤ P ∧ v = s9 ∧ StT w.heap.size w wr m P l0 g0 sc p g3 c3 v j) (fun s9 _ => P - lenV s9)
  case atStart => exact ⟨0, _, Nat.zero_le _, rfl, HSt0.out⟩
  case round =>
    obtain ⟨j, v, hjP, rfl, hst⟩ := hrel
    obtain ⟨av, cv, rfl, hjc, hcm, hav⟩ := hst.out.slice
    simp only [maxLen] at hcm
    have HSt := kept hst
    clear hst
    by_cases hlt : j < P
    · obtain ⟨c, x, r, hS, hc65, hnx, hx0, hx1, _, _, _, _⟩ := HM.out.next j (by rw [← HP.out]; exact hlt)
      rw [← HP.out] at hS hnx
      have hsl : (spread l0 P).length = P := length_spread l0 P
      have hcc := HSt.out.cls.cell (Own.ints_at .i64 (spread l0 P) j (by omega))
      rw [hS] at hcc
      have hcall := cell_calls p g3 c3 m _ c x wr (by have := HM.out.hi; omega) HSt.out.maker hc65 hnx hx0 hx1
      have htk : (spread l0 P).take (j + 1) = (spread l0 P).take j ++ [(c : Int)] := by
        rw [List.take_succ_eq_append_getElem (by omega)]
        have e : (spread l0 P).getD j 0 = (spread l0 P)[j]'(by omega) := by simp [List.getD_eq_getElem?_getD, show j < (spread l0 P).length by omega]
        rw [← e, hS]
      have hcells : cells m l0 ((spread l0 P).take (j + 1)) = cells m l0 ((spread l0 P).take j) ++ [cellOf m (c : Int) x] := by
        rw [htk, cells_snoc, Int.toNat_natCast, hnx, Int.toNat_natCast]
      have hnexts : nexts l0 ((spread l0 P).take (j + 1)) = bump (nexts l0 ((spread l0 P).take j)) c 1 := by rw [htk, nexts_snoc, Int.toNat_natCast]
      have HCall := kept hcall
      have HCells := kept hcells
      have HNexts := kept hnexts
      clear hcall hcells hnexts htk hS hnx hx1 hsl
      obtain ⟨cl, hcl⟩ : ∃ cl, cl = cellOf m (c : Int) x := ⟨_, rfl⟩
      rw [← hcl] at HCells HCall
      clear hcl
      obtain ⟨cl0, cl1, cl2⟩ := cl
      go_wp2_with (first
        | (go_at_call 19
           refine HCall.out.mono ?_
           rintro e w6 ⟨rfl, hmk6, hch6⟩
           have hvg : (Value.slice av j cv).ownBlock ≠ some g3 := HSt.out.out.neO HSt.out.maker.row (by decide) rfl
           have HMk6 := kept hmk6
           have HO6 : Kept (OwnK w6 45 3 (.slice av j cv) j ((cells m l0 ((spread l0 P).take j)).flatMap cellV)) := kept (HSt.out.out.chg hch6 (fun b hb e => hvg (by rw [hb, e])))
           have HCl6 : Kept (Owns w6 3 (.slice (some ⟨g0, 0, none⟩) P sc) (ints .i64 (spread l0 P))) := kept (HSt.out.cls.chg hch6 (fun b hb e => HSt.out.sg (by simp [Value.ownBlock] at hb; rw [hb, e])))
           have HB6 : Kept (Below w.heap.size w w6) := kept (HSt.out.low.trans (hch6.below HSt.out.sz (fun b hb e => by have := HSt.out.gB; omega)))
           have HSz6 : Kept (w.heap.size ≤ w6.heap.size) := kept (Nat.le_trans HSt.out.sz hch6.size)
           have HVl : Kept (∀ b, (Value.slice av j cv).ownBlock = some b → b < w6.heap.size) := kept HO6.out.lt
           clear hmk6 hch6 hvg)
        | (at_builtin; go_loud (refine wpList_appK1 rfl _ _ 30 rfl 45 j0 (.agg #[.int .i64 0, .int .i64 0, .int .i64 0]) 3 24 Try.underlying30 hj hy0 hy1 hy2 rfl (by decide) (.slice av j cv) j _ [.int .i64 cl0, .int .i64 cl1, .int .i64 cl2] rfl HO6.out rfl (by intro u hu; simp at hu; rcases hu with rfl | rfl | rfl <;> rfl) rfl ?_ ?_ ?_)))
      · simp [maxLen]; omega
      · omega
      intro v7 w7 O7 C7 F7
      have HSt7 : Kept (StT w.heap.size w w7 m P l0 g0 sc p g3 c3 v7 (j + 1)) := kept (by
        have hne1 : ∀ b, (Value.slice av j cv).ownBlock = some b → b ≠ p := fun b hb e => HO6.out.ne HMk6.out.blk (by decide) (by rw [hb, e])
        have hne2 : (Value.slice av j cv).ownBlock ≠ some g3 := HO6.out.neO HMk6.out.row (by decide) rfl
        have hne3 : (Value.slice av j cv).ownBlock ≠ some g0 := HO6.out.neO HCl6.out (by decide) rfl
        refine ⟨HCl6.out.chg C7 (fun b hb e => hne3 (by simp [Value.ownBlock] at hb; rw [← e, hb])), ?_, ?_, HSt.out.sg, HSt.out.gB, fun b hb => ?_, HB6.out.trans (C7.below HSz6.out (fun b hb e => by have := HSt.out.vB b e.symm; omega)), Nat.le_trans HSz6.out C7.size⟩
        · rw [HNexts.out]
          exact ⟨C7.keep HMk6.out.blk (fun e => hne1 p e.symm rfl), HMk6.out.row.chg C7 (fun b hb e => hne2 (by simp [Value.ownBlock] at hb; rw [← e, hb]))⟩
        · rw [HCells.out, List.flatMap_append]; simpa [cellV] using O7
        · rcases F7 b hb with h | h
          · exact HSt.out.vB b h.symm
          · have := HSz6.out; omega)
      obtain ⟨a7, c7, rfl, _⟩ := O7.slice
      clear O7 C7 F7
      go_wp2_with fail
      go_roundw
      case rel => exact ⟨j + 1, _, by omega, rfl, HSt7.out⟩
      case measure => simp [lenV]; omega
    · have hje : j = P := by omega
      subst hje
      have HOut : Kept (OwnK wr 45 3 (.slice av j cv) (2 ^ m) ((table l0 m).flatMap cellV)) := kept (by
        have h := HSt.out.out
        rw [List.take_of_length_le (by rw [length_spread]; exact Nat.le_refl _)] at h
        unfold table; rw [← HP.out]; exact h)
      go_wp2_with fail
      go_ret2
      exact ⟨_, rfl, HOut.out, HSt.out.vB, HSt.out.low⟩
end Go.Proofs.Ytlconnmfceabiaa.PA

-- ---- PAx5
/- The table of states: what the call answers, for every list and log. Conditions: none but a slice's. -/
namespace Go.Proofs.Ytlconnmfceabiaa.PA
open Go.RowKit Go.Proofs.YtlconnmfceabiaaW.PrintWords Go.Proofs.YtlconnmfceabiaaW.PrintLast Go.Proofs.YtlconnmfceabiaaW.PrintMore
set_option linter.unusedVariables false
set_option linter.unusedSimpArgs false

def cellS (c : Int × Int × Int) : S45 := ⟨c.1, c.2.1, c.2.2⟩
/-- The answer of both tables. -/
def tableE (l : List Int) (a : Int) : List (S45) × Int := if Sp.mayN l a = true then ((Sp.table l a.toNat).map cellS, 0) else ([], 3)
def spread_Table.f (l0 : List Int) (a1 : Int) : Option ((List (S45)) × Int) := some (tableE l0 a1)
theorem spread_Table.calls (A0 : Option Addr) (c0 : Nat) (l0 : List Int) (a1 : Int) (r1 : List (S45)) (r2 : Int) (w : World) (hr0 : Kd.C (Kd.int .i64) w A0 l0.length l0) (hc0 : l0.length ≤ c0) (h : spread_Table.f l0 a1 = some (r1, r2)) :
    Calls Try.prog 11 #[.slice A0 l0.length c0, .int .i64 a1] w fun e w' => ∃ v0_ : Value, e = .returned (.tuple #[v0_, .int .i64 r2]) ∧ Kd.R k45 45 w' w.heap.size (fun _ => True) v0_ r1 ∧ Below w.heap.size w w' := by
  have h := Option.some.inj h
  unfold tableE at h
  split at h
  · rename_i hg
    obtain ⟨rfl, rfl⟩ := Prod.mk.inj h
    obtain ⟨m, rfl, hm⟩ := (may_iff l0 a1).1 hg
    refine (table_ok A0 c0 l0 m w hr0 hc0 hg).mono ?_
    rintro e w' ⟨v, rfl, ho, hnew, hb⟩
    refine ⟨v, rfl, ?_, hb⟩
    refine Own.R_of_flat k45 (fun x => [.int .i64 x.f0, .int .i64 x.f1, .int .i64 x.f2]) (fun ok x => k45_mkM w' w.heap.size ok x) (fun _ => rfl) ?_ hnew
    rw [Int.toNat_natCast, List.length_map, Sp.length_table]
    have e : ((Sp.table l0 m).map cellS).flatMap (fun x => [Value.int .i64 x.f0, .int .i64 x.f1, .int .i64 x.f2]) = (Sp.table l0 m).flatMap cellV := by
      generalize Sp.table l0 m = cs
      induction cs with
      | nil => rfl
      | cons a t ih => simp only [List.map_cons, List.flatMap_cons, ih]; rfl
    rw [e]; exact ho
  · rename_i hg
    obtain ⟨rfl, rfl⟩ := Prod.mk.inj h
    refine (table_bad A0 c0 l0 a1 w hr0 hc0 hg).mono ?_
    rintro e w' ⟨rfl, hb⟩
    exact ⟨_, rfl, Kd.R_nil _ _ _ _ _, hb⟩
end Go.Proofs.Ytlconnmfceabiaa.PA

-- ---- PAx6

namespace Go.Proofs.Ytlconnmfceabiaa.PA
open Go.RowKit Go.Proofs.YtlconnmfceabiaaW.PrintWords Go.Proofs.YtlconnmfceabiaaW.PrintLast Go.Proofs.YtlconnmfceabiaaW.PrintMore
attribute [local go_sem] max2_int min2_int max_two min_two max_three min_three max_four min_four   -- for this text's walks alone
set_option linter.unusedVariables false
set_option linter.unusedSimpArgs false

/-! ### wringerlaw1_Err: function 14 -/
def wringerlaw1_Err.f (a0 : Int) : Option (Int) := some a0
set_option maxHeartbeats 8000000 in
set_option maxRecDepth 100000 in
theorem wringerlaw1_Err.calls (a0 : Int) (r : Int) (w : World) (h : wringerlaw1_Err.f a0 = some r) :
    Calls Try.prog 14 #[.int .i64 a0] w fun e w' => e = .returned (.int .i64 r) ∧ Drawn0 w w' := by
  have H : (some a0) = some r := h
  clear h
  obtain rfl := Option.some.inj H
  go_enter Try.func14, Try.ntmps14
  go_wp2
  go_ret
  exact ⟨by first | rfl | (simp; done) | (simp [*]; done), by repeat (first | exact Drawn0.refl _ | apply Drawn0.step)⟩

end Go.Proofs.Ytlconnmfceabiaa.PA
