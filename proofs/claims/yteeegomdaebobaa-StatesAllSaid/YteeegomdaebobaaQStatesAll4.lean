/- Part StatesAll4 of what the layer's laws stand on: PAx54, Ut, PAx55, Ump, Sqa, Sqb, PAx61, Kt, Ku, Rz, Sqc, Sqd, PAx70. Written by a program (merge.py) out of this session's own texts and of what the kit's print wrote over stand-ins (sp.py). Conditions: those that each theorem names. -/
import Derived.Test.YteeegomdaebobaaQStatesAll2
import Derived.Test.YteeegomdaebobaaQStatesAll1
import Derived.Test.YteeegomdaebobaaQStatesAll3
import Derived.OpenShut
-- ---- PAx54

namespace Go.Proofs.Yteeegomdaebobaa.PA
open Go.RowKit Go.Proofs.YteeegomdaebobaaW.PrintWords Go.Proofs.YteeegomdaebobaaW.PrintLast Go.Proofs.YteeegomdaebobaaW.PrintMore
attribute [local go_sem] max2_int min2_int max_two min_two max_three min_three max_four min_four   -- for this text's walks alone
set_option linter.unusedVariables false
set_option linter.unusedSimpArgs false

/-! ### wringerref7_Table: function 40 -/
mutual
def wringerref7_Table.l0 : Nat → Int → List Int → List (S105) → Int → List Int → Int → Option ((List (S105)) × Int)
  | 0, _, _, _, _, _, _ => none
  | k + 1, x1, x6, x7, x8, x179000, x179001 => if x8 < (x179000.length : Int) then (if 0 ≤ x8 then (if 0 ≤ (rd x179000 x8) then (if (rd x179000 x8) < (x6.length : Int) then (wringerref7_Table.l1 k x1 (x6.set ((rd x179000 x8) : Int).toNat (wrap64 ((rd x6 (rd x179000 x8)) + 1))) x7 x8 (rd x6 (rd x179000 x8)) x1 x179000 x179001) else (none)) else (none)) else (none)) else (some (x7, 0))
def wringerref7_Table.l1 : Nat → Int → List Int → List (S105) → Int → Int → Int → List Int → Int → Option ((List (S105)) × Int)
  | 0, _, _, _, _, _, _, _, _ => none
  | k + 1, x1, x6, x7, x8, x9, x10, x179000, x179001 => if 0 ≤ (wrap64 ((wrap64 (x1 - x10)) + 1)) then (if (shr .i64 x9 (wrap64 ((wrap64 (x1 - x10)) + 1))) > 0 then (wringerref7_Table.l1 k x1 x6 x7 x8 x9 (wrap64 (x10 - 1)) x179000 x179001) else (if 0 ≤ x8 then (if x8 < (x179000.length : Int) then (if 0 ≤ x10 then (if 0 ≤ x1 then (if x7.length < 5864062014805 then (wringerref7_Table.l0 k x1 x6 (x7 ++ [(⟨rd x179000 x8, x10, wrap64 ((shl .i64 x9 x10) - (shl .i64 1 x1))⟩ : S105)]) (wrap64 (x8 + 1)) x179000 x179001) else (none)) else (none)) else (none)) else (none)) else (none))) else (none)
end
def wringerref7_Table.f (k : Nat) (l0 : List Int) (a1 : Int) : Option ((List (S105)) × Int) := (wringerref7_Spread.f k l0 a1).bind fun bt174 => (if bt174.2 = 0 then ((some (([] : List Int) : List Int)).bind fun y179 => (if y179.length + l0.length < 17592186044416 then (wringerref7_Table.l0 k a1 (y179 ++ l0) ([] : List (S105)) 0 bt174.1 bt174.2) else (none))) else (some (([] : List (S105)), bt174.2)))
theorem wringerref7_Table.mono_l : ∀ k, (∀ y0 y1 y2 y3 y4 y5, LeO (wringerref7_Table.l0 k y0 y1 y2 y3 y4 y5) (wringerref7_Table.l0 (k + 1) y0 y1 y2 y3 y4 y5)) ∧ (∀ y0 y1 y2 y3 y4 y5 y6 y7, LeO (wringerref7_Table.l1 k y0 y1 y2 y3 y4 y5 y6 y7) (wringerref7_Table.l1 (k + 1) y0 y1 y2 y3 y4 y5 y6 y7))
  | 0 => ⟨fun _ _ _ _ _ _ r h => by simp [wringerref7_Table.l0] at h, fun _ _ _ _ _ _ _ _ r h => by simp [wringerref7_Table.l1] at h⟩
  | k + 1 => by
    obtain ⟨ih0, ih1⟩ := wringerref7_Table.mono_l k
    refine ⟨?_, ?_⟩
    · intro y0 y1 y2 y3 y4 y5
      unfold wringerref7_Table.l0
      repeat' first
      | (with_reducible exact ih0 _ _ _ _ _ _)
      | (with_reducible exact ih1 _ _ _ _ _ _ _ _)
      | (with_reducible exact wringerref7_Spread.mono _ _ _)
      | (with_reducible exact LeO.refl _)
      | (with_reducible exact LeO.none _)
      | (with_reducible refine LeO.ite ?_ ?_)
      | (with_reducible refine LeO.bind ?_ (fun _ => ?_))
      | exact ih0 _ _ _ _ _ _
      | exact ih1 _ _ _ _ _ _ _ _
      | exact wringerref7_Spread.mono _ _ _
      | exact LeO.none _
      | refine LeO.ite ?_ ?_
      | refine LeO.bind ?_ (fun _ => ?_)
    · intro y0 y1 y2 y3 y4 y5 y6 y7
      unfold wringerref7_Table.l1
      repeat' first
      | (with_reducible exact ih0 _ _ _ _ _ _)
      | (with_reducible exact ih1 _ _ _ _ _ _ _ _)
      | (with_reducible exact wringerref7_Spread.mono _ _ _)
      | (with_reducible exact LeO.refl _)
      | (with_reducible exact LeO.none _)
      | (with_reducible refine LeO.ite ?_ ?_)
      | (with_reducible refine LeO.bind ?_ (fun _ => ?_))
      | exact ih0 _ _ _ _ _ _
      | exact ih1 _ _ _ _ _ _ _ _
      | exact wringerref7_Spread.mono _ _ _
      | exact LeO.none _
      | refine LeO.ite ?_ ?_
      | refine LeO.bind ?_ (fun _ => ?_)
theorem wringerref7_Table.mono : ∀ a0 a1 k, LeO (wringerref7_Table.f k a0 a1) (wringerref7_Table.f (k + 1) a0 a1) := by
  intro a0 a1 k
  obtain ⟨ih0, ih1⟩ := wringerref7_Table.mono_l k
  unfold wringerref7_Table.f
  repeat' first
      | (with_reducible exact ih0 _ _ _ _ _ _)
      | (with_reducible exact ih1 _ _ _ _ _ _ _ _)
      | (with_reducible exact wringerref7_Spread.mono _ _ _)
      | (with_reducible exact LeO.refl _)
      | (with_reducible exact LeO.none _)
      | (with_reducible refine LeO.ite ?_ ?_)
      | (with_reducible refine LeO.bind ?_ (fun _ => ?_))
      | exact ih0 _ _ _ _ _ _
      | exact ih1 _ _ _ _ _ _ _ _
      | exact wringerref7_Spread.mono _ _ _
      | exact LeO.none _
      | refine LeO.ite ?_ ?_
      | refine LeO.bind ?_ (fun _ => ?_)
def wringerref7_Table.T14 : Bool × List (List Nat × List Nat) := (true, [([], []), ([], []), ([1], [1]), ([], []), ([2, 3], [2, 3]), ([4], [4]), ([], []), ([], []), ([], []), ([7, 8], [7, 8]), ([], []), ([10], [10]), ([9, 11], [9, 11]), ([5, 6, 12], [5, 6, 12]), ([13], [13]), ([0, 14], [0, 14]), ([15, 15, 0, 1, 2, 3, 4, 5, 6, 7, 8, 9, 10, 11, 12, 13, 14, 15], [0, 15])])
def wringerref7_Table.B14 : List Nat := [0, 0, 2, 0, 14, 30, 0, 0, 0, 384, 0, 1024, 3968, 8190, 16382, 32767, 65535]
theorem wringerref7_Table.tab14 : rtab .any (opsOf Try.f40 14) = wringerref7_Table.T14 := by kernel_rfl
theorem wringerref7_Table.bits14 : waitsOk wringerref7_Table.T14.2 wringerref7_Table.B14 = true := by kernel_rfl
set_option maxHeartbeats 8000000 in
set_option maxRecDepth 100000 in
theorem wringerref7_Table.calls (k : Nat) (A0 : Option Addr) (c0 : Nat) (l0 : List Int) (a1 : Int) (r1 : List (S105)) (r2 : Int) (w : World) (hr0 : Kd.C (Kd.int .i64) w A0 l0.length l0) (hc0 : l0.length ≤ c0) (h : wringerref7_Table.f k l0 a1 = some (r1, r2)) :
    Calls Try.prog 40 #[.slice A0 l0.length c0, .int .i64 a1] w fun e w' => ∃ v0_ : Value, e = .returned (.agg #[v0_, .int .i64 r2]) ∧ Kd.R k105 105 w' w.heap.size (fun _ => True) v0_ r1 ∧ Below w.heap.size w w' := by
  have hu97 := Try.underlying97
  have hu31 := Try.underlying31
  have hu105 := Try.underlying105
  have HR0 := Aside0.mk hr0
  have HC0 := Aside0.mk hc0
  clear hr0 hc0
  have HB := Aside0.mk (Below.refl w.heap.size w)
  have H : ((wringerref7_Spread.f k l0 a1).bind fun bt174 => (if bt174.2 = 0 then ((some (([] : List Int) : List Int)).bind fun y179 => (if y179.length + l0.length < 17592186044416 then (wringerref7_Table.l0 k a1 (y179 ++ l0) ([] : List (S105)) 0 bt174.1 bt174.2) else (none))) else (some (([] : List (S105)), bt174.2)))) = some (r1, r2) := h
  clear h
  replace H := Option.bind_eq_some_iff.mp H
  obtain ⟨⟨t174, t177⟩, A30, H⟩ := H
  replace H : (if t177 = 0 then ((some (([] : List Int) : List Int)).bind fun y179 => (if y179.length + l0.length < 17592186044416 then (wringerref7_Table.l0 k a1 (y179 ++ l0) ([] : List (S105)) 0 t174 t177) else (none))) else (some (([] : List (S105)), t177))) = some (r1, r2) := H
  have A3 := Aside0.mk A30
  clear A30
  by_cases c4 : t177 = 0
  · rw [if_pos c4] at H
    have c4b0 : (t177 == 0) = true := beq_iff_eq.mpr c4
    have c4b1 : (t177 != 0) = false := bne_eq_false_iff_eq.mpr c4
    clear c4
    obtain ⟨y179, hy179⟩ : ∃ y_ : List Int, y_ = (([] : List Int)) := ⟨_, rfl⟩
    replace H : (if y179.length + l0.length < 17592186044416 then (wringerref7_Table.l0 k a1 (y179 ++ l0) ([] : List (S105)) 0 t174 t177) else (none)) = some (r1, r2) := by first | (rw [hy179]; with_reducible exact H) | (have H2_ := (Option.bind_some _ _).symm.trans H; rw [hy179]; with_reducible exact H2_) | (have H2_ := (Option.bind_some _ _).symm.trans H; with_reducible exact H2_) | with_reducible exact H | (rw [hy179]; exact H) | exact H
    have Ny179 := Aside0.mk hy179
    clear hy179
    by_cases c5 : y179.length + l0.length < 17592186044416
    · rw [if_pos c5] at H
      have LMc5 := Aside0.mk c5
      clear c5
      obtain ⟨y182, hy182⟩ : ∃ y_ : List Int, y_ = (y179 ++ l0) := ⟨_, rfl⟩
      replace H : (wringerref7_Table.l0 k a1 y182 ([] : List (S105)) 0 t174 t177) = some (r1, r2) := by first | (rw [hy182]; with_reducible exact H) | (have H2_ := (Option.bind_some _ _).symm.trans H; rw [hy182]; with_reducible exact H2_) | (have H2_ := (Option.bind_some _ _).symm.trans H; with_reducible exact H2_) | with_reducible exact H | (rw [hy182]; exact H) | exact H
      have Ny182 := Aside0.mk hy182
      clear hy182
      have H' := Aside0.mk H
      clear H
      go_enter Try.func40, Try.ntmps40
      go_wp2_with (first | ((with_reducible refine gate_dst (N := 4) rfl ?_); refine box_event ?hg (N := 4) ?hd (cs := #[.slice none 0 0, .int .i64 0]) (t := 97) ?hr ?_; (case hd => rfl); (case hg => rfl); (case hr => first | (go_simp; done) | (go_simp; rfl)); intro gb173 hg w6 hbox hb; have n0_ := Aside0.mk (below_step (by repeat (first | (with_reducible first | exact HB.out | apply below_alloc | apply pw_below_drewN | apply below_drew1) | exact HB.out)) hb); have n1_ := Aside0.mk (hbox); have n2_ := Aside0.mk ((by rw [hg]; exact (below_size (by repeat (first | (with_reducible first | exact HB.out | apply below_alloc | apply pw_below_drewN | apply below_drew1) | exact HB.out))) : w.heap.size ≤ gb173)); have n3_ := Aside0.mk ((by rw [hg]; exact (below_size (by repeat (first | (with_reducible first | exact HB.out | apply below_alloc | apply pw_below_drewN | apply below_drew1) | exact HB.out))) : w.heap.size ≤ gb173)); clear HB; have HB := n0_; have BK173 := n1_; have GW173 := n2_; have GE173 := n3_; clear n0_ n1_ n2_ n3_; clear hb hbox hg) | ((with_reducible refine gate_callee (f := 69) rfl ?_); refine goesL_ (some 13) rfl rfl Try.func69 (by kernel_rfl) rfl #[.slice A0 l0.length c0, .int .i64 a1] rfl (by (try simp only [List.map_toArray, List.map_cons, List.map_nil]); first | done | rfl | (simp only [List.length_drop, List.length_take]; rfl)) ?_; (with_reducible refine (wringerref7_Spread.calls k _ _ l0 a1 t174 t177 _ ?side1 ?side2 A3.out).mono ?_); (case side1 => repeat (first | exact (Kd.C_below HR0.out HB.out) | (with_reducible refine Kd.C_alloc ?_ _) | (with_reducible refine Kd.C_drewN ?_ _) | (with_reducible refine Kd.C_drew ?_))); (case side2 => exact HC0.out); rintro e w7 ⟨v175, rfl, ho0, hb⟩; refine ⟨_, rfl, ?_⟩; have n0_ := Aside0.mk (Kd.R_lower ho0 (below_size (by repeat (first | (with_reducible first | exact HB.out | apply below_alloc | apply pw_below_drewN | apply below_drew1 | refine below_set ?_ GE173.out) | exact HB.out)))); have n1_ := Aside0.mk (blk_below (g := gb173) (o := .cells #[.slice none 0 0, .int .i64 0] 97 (0, 0)) (by (with_reducible repeat (first | refine blk_drewN ?_ _ | refine blk_drew ?_ | refine blk_alloc ?_ _)); exact BK173.out) hb); have n2_ := Aside0.mk (below_step (by repeat (first | (with_reducible first | exact HB.out | apply below_alloc | apply pw_below_drewN | apply below_drew1 | refine below_set ?_ GE173.out) | exact HB.out)) hb); clear BK173; clear HB; have HO176 := n0_; have BK173 := n1_; have HB := n2_; clear n0_ n1_ n2_; (try clear hb); (try clear hb2); (try clear hk); (try clear hi); (try clear ho0)) | ((with_reducible refine gate_dst (N := 5) rfl ?_); refine box_event ?hg (N := 5) ?hd (cs := #[.slice none 0 0, .int .i64 0]) (t := 31) ?hr ?_; (case hd => rfl); (case hg => rfl); (case hr => first | (go_simp; done) | (go_simp; rfl)); intro gb178 hg w8 hbox hb; have n0_ := Aside0.mk (Kd.R_below (by (with_reducible repeat (first | apply Kd.R_alloc | apply Kd.R_drewN | apply Kd.R_drew)); exact HO176.out) hb); have n1_ := Aside0.mk (blk_below (g := gb173) (o := .cells #[.slice none 0 0, .int .i64 0] 97 (0, 0)) (by (with_reducible repeat (first | refine blk_drewN ?_ _ | refine blk_drew ?_ | refine blk_alloc ?_ _)); exact BK173.out) hb); have n2_ := Aside0.mk (below_step (by repeat (first | (with_reducible first | exact HB.out | apply below_alloc | apply pw_below_drewN | apply below_drew1 | refine below_set ?_ GE173.out) | exact HB.out)) hb); have n3_ := Aside0.mk (hbox); have n4_ := Aside0.mk ((by rw [hg]; exact (below_size (by repeat (first | (with_reducible first | exact HB.out | apply below_alloc | apply pw_below_drewN | apply below_drew1 | refine below_set ?_ GE173.out) | exact HB.out))) : w.heap.size ≤ gb178)); have n5_ := Aside0.mk ((by rw [hg]; exact (below_size (by repeat (first | (with_reducible first | exact HB.out | apply below_alloc | apply pw_below_drewN | apply below_drew1 | refine below_set ?_ GE173.out) | exact HB.out))) : w.heap.size ≤ gb178)); have n6_ := Aside0.mk ((by rw [hg]; exact Nat.ne_of_lt (blk_lt (g := gb173) (o := .cells #[.slice none 0 0, .int .i64 0] 97 (0, 0)) (by (with_reducible repeat (first | refine blk_drewN ?_ _ | refine blk_drew ?_ | refine blk_alloc ?_ _)); exact BK173.out)) : gb173 ≠ gb178)); have n7_ := Aside0.mk ((by rw [hg]; exact Nat.ne_of_gt (blk_lt (g := gb173) (o := .cells #[.slice none 0 0, .int .i64 0] 97 (0, 0)) (by (with_reducible repeat (first | refine blk_drewN ?_ _ | refine blk_drew ?_ | refine blk_alloc ?_ _)); exact BK173.out)) : gb178 ≠ gb173)); clear HO176; clear BK173; clear HB; have HO176 := n0_; have BK173 := n1_; have HB := n2_; have BK178 := n3_; have GW178 := n4_; have GE178 := n5_; have NB173_178 := n6_; have NB178_173 := n7_; clear n0_ n1_ n2_ n3_ n4_ n5_ n6_ n7_; clear hb hbox hg; obtain ⟨Ao9, co9, eo9⟩ := Kd.R_slice HO176.out; subst eo9; have hnb10 := NB178_173.out; have hnc10 := NB173_178.out; have hcz11_0 : w8.cell? ⟨gb178, 0, none⟩ = some (.slice none 0 0) := (blk_cell BK178.out 0).trans rfl; have hcz11_1 : w8.cell? ⟨gb178, 1, none⟩ = some (.int .i64 0) := (blk_cell BK178.out 1).trans rfl; have hfz11_0 := blk_frozen BK178.out 0; have hfz11_1 := blk_frozen BK178.out 1) | ((with_reducible refine gate_dst (N := 20) rfl ?_); refine Kd.R_lit (Kd.int .i64) _ 3 ?hg (N := 20) ?hd (xs := ([] : List Int)) (inner := []) (ok := fun _ => True) (okp := fun _ => True) ?hr ?hp (fun _ hk => hk) trivial (Below.refl _ _) (Nat.le_refl _) (by simp) ?_; (case hd => rfl); (case hg => rfl); (case hr => first | (go_simp; done) | (go_simp; rfl)); (case hp => exact (Reps.none _ _)); intro v180 w12 ho13 hb hg_ hnew_; clear hg_ hnew_; (first | rw [← Ny179.out] at ho13 | (simp only [Int.reduceToNat] at ho13; rw [← Ny179.out] at ho13)); have n0_ := Aside0.mk (Kd.R_elder' (by (with_reducible repeat (first | apply Kd.R_alloc | apply Kd.R_drewN | apply Kd.R_drew)); exact (Kd.R_mono (Kd.R_far (p := ⟨gb178, 1, none⟩) (Kd.R_far (p := ⟨gb178, 0, none⟩) (Kd.R_types HO176.out BK178.out (by decide)) (fun _ hk => hk.2) (.slice Ao9 t174.length co9)) (fun _ hk => hk.2) (.int .i64 t177)) (fun _ h_ => h_.1))) (Kd.R_base ho13) hb); have n1_ := Aside0.mk (Kd.R_lower (Kd.R_new' ho13 (Kd.R_lt (by (with_reducible repeat (first | apply Kd.R_alloc | apply Kd.R_drewN | apply Kd.R_drew)); exact (Kd.R_mono (Kd.R_far (p := ⟨gb178, 1, none⟩) (Kd.R_far (p := ⟨gb178, 0, none⟩) (Kd.R_types HO176.out BK178.out (by decide)) (fun _ hk => hk.2) (.slice Ao9 t174.length co9)) (fun _ hk => hk.2) (.int .i64 t177)) (fun _ h_ => h_.1))))) (below_size (by repeat (first | (with_reducible first | exact HB.out | apply below_alloc | apply pw_below_drewN | apply below_drew1 | refine below_set ?_ GE173.out | refine below_set ?_ GE178.out) | exact HB.out)))); have n2_ := Aside0.mk (blk_below (g := gb173) (o := .cells #[.slice none 0 0, .int .i64 0] 97 (0, 0)) (by (with_reducible repeat (first | refine blk_drewN ?_ _ | refine blk_drew ?_ | refine blk_alloc ?_ _)); refine blk_far ?_ NB173_178.out _; (with_reducible repeat (first | refine blk_drewN ?_ _ | refine blk_drew ?_ | refine blk_alloc ?_ _)); refine blk_far ?_ NB173_178.out _; (with_reducible repeat (first | refine blk_drewN ?_ _ | refine blk_drew ?_ | refine blk_alloc ?_ _)); exact BK173.out) hb); have n3_ := Aside0.mk (blk_below (g := gb178) (o := .cells #[.slice Ao9 t174.length co9, .int .i64 t177] 31 (0, 0)) (by (with_reducible repeat (first | refine blk_drewN ?_ _ | refine blk_drew ?_ | refine blk_alloc ?_ _)); refine blk_put (cs := #[.slice Ao9 t174.length co9, .int .i64 0]) ?_ 1 _ rfl; (with_reducible repeat (first | refine blk_drewN ?_ _ | refine blk_drew ?_ | refine blk_alloc ?_ _)); refine blk_put (cs := #[.slice none 0 0, .int .i64 0]) ?_ 0 _ rfl; (with_reducible repeat (first | refine blk_drewN ?_ _ | refine blk_drew ?_ | refine blk_alloc ?_ _)); exact BK178.out) hb); have n4_ := Aside0.mk (below_step (by repeat (first | (with_reducible first | exact HB.out | apply below_alloc | apply pw_below_drewN | apply below_drew1 | refine below_set ?_ GE173.out | refine below_set ?_ GE178.out) | exact HB.out)) hb); clear HO176; clear BK173; clear BK178; clear HB; have HO176 := n0_; have HO181 := n1_; have BK173 := n2_; have BK178 := n3_; have HB := n4_; clear n0_ n1_ n2_ n3_ n4_; clear hb ho13) | ((with_reducible refine gate_builtin (b := .append) (xs := #[.tmp 20, .tmp 21]) rfl ?_); at_builtin; refine Kd.R_append_rows (Kd.int .i64) (w0 := w) w.heap.size rfl (.tmp 20) (.tmp 21) 28 3 (.int .i64 0) 8 rfl Try.underlying28 info3 rfl (by decide) (by omega) v180 y179 l0 _ _ _ (fun k_ => some k_ ≠ (.slice Ao9 t174.length co9 : Value).ownBlock) (fun _ => False) rfl rfl ?aO ?aR (fun _ _ h => h) (fun _ h => h.elim) ?aF ?aB ?aS ?aL ?_; (case aR => repeat (first | exact (Kd.C_below HR0.out HB.out) | (with_reducible refine Kd.C_alloc ?_ _) | (with_reducible refine Kd.C_drewN ?_ _) | (with_reducible refine Kd.C_drew ?_))); (case aB => exact (by repeat (first | (with_reducible first | exact HB.out | apply below_alloc | apply pw_below_drewN | apply below_drew1 | refine below_set ?_ GE173.out | refine below_set ?_ GE178.out) | exact HB.out))); (case aF => exact (fun k_ hk => Kd.fresh' (Kd.R_lt (by (with_reducible repeat (first | apply Kd.R_alloc | apply Kd.R_drewN | apply Kd.R_drew)); exact HO176.out)) k_ hk)); (case aO => exact (by (with_reducible repeat (first | apply Kd.R_alloc | apply Kd.R_drewN | apply Kd.R_drew)); exact Kd.R_mono HO181.out (fun _ hk => hk.2))); (case aS => exact (below_size (by repeat (first | (with_reducible first | exact HB.out | apply below_alloc | apply pw_below_drewN | apply below_drew1 | refine below_set ?_ GE173.out | refine below_set ?_ GE178.out) | exact HB.out)))); (case aL => have := LMc5.out; omega); intro v183 w14 ho hb hg hat; rw [← Ny182.out] at ho; have n0_ := Aside0.mk (blk_grown (g := gb173) (o := .cells #[.slice none 0 0, .int .i64 0] 97 (0, 0)) (by (with_reducible repeat (first | refine blk_drewN ?_ _ | refine blk_drew ?_ | refine blk_alloc ?_ _)); exact BK173.out) hg (Kd.R_ne HO181.out BK173.out (by decide))); have n1_ := Aside0.mk (Kd.R_after (ok := (fun _ => True)) (by (with_reducible repeat (first | apply Kd.R_alloc | apply Kd.R_drewN | apply Kd.R_drew)); exact HO176.out) hg hat); have n2_ := Aside0.mk (blk_grown (g := gb178) (o := .cells #[.slice Ao9 t174.length co9, .int .i64 t177] 31 (0, 0)) (by (with_reducible repeat (first | refine blk_drewN ?_ _ | refine blk_drew ?_ | refine blk_alloc ?_ _)); exact BK178.out) hg (Kd.R_ne HO181.out BK178.out (by decide))); have n3_ := Aside0.mk (hb); have n4_ := Aside0.mk (ho); clear BK173; clear HO176; clear BK178; clear HB; clear HO181; have BK173 := n0_; have HO176 := n1_; have BK178 := n2_; have HB := n3_; have HO184 := n4_; clear n0_ n1_ n2_ n3_ n4_; clear ho hb hg hat))
      go_loopg [7, 8] k (fun kq v7 v8 w' => ∃ (x6_1 : List Int) (x7_1 : List (S105)) (x8_1 : Int), v8 = .int .i64 x8_1 ∧ Aside0 (wringerref7_Table.l0 kq a1 x6_1 x7_1 x8_1 t174 t177 = some (r1, r2)) ∧ Aside0 (kq ≤ k) ∧ Aside0 (Kd.R (Kd.int .i64) 3 w' w.heap.size (fun k_ => some k_ ≠ ((.slice Ao9 t174.length co9) : Value).ownBlock) v183 x6_1) ∧ Aside0 (Kd.R k105 105 w' w.heap.size (fun _ => True) v7 x7_1) ∧ Aside0 (Kd.R (Kd.int .i64) 3 w' w.heap.size (fun k_ => some k_ ≠ (v183 : Value).ownBlock) (.slice Ao9 t174.length co9) t174) ∧ Aside0 (w'.heap[gb173]? = some (.cells #[(.slice none 0 0), .int .i64 0] 97 (0, 0))) ∧ Aside0 (w'.heap[gb178]? = some (.cells #[(.slice Ao9 t174.length co9), .int .i64 t177] 31 (0, 0))) ∧ Aside0 (Below w.heap.size w w'))
      case atStart => exact ⟨(y182), (([] : List (S105))), (0), (by first | rfl | (simp; done) | (simp [*]; done)), H', ⟨Nat.le_refl _⟩, ⟨by (with_reducible repeat (first | apply Kd.R_alloc | apply Kd.R_drewN | apply Kd.R_drew)); exact HO184.out⟩, ⟨by first | exact Kd.R_nil _ _ _ _ _ | exact Kd.N_nil _ _ _ _ _ | exact Kd.V_nil _ _ _ _ _ | exact Kd.Q_nil _ _ _ _ _ | exact Kd.S_nil _ _ _ _ _⟩, ⟨by (with_reducible repeat (first | apply Kd.R_alloc | apply Kd.R_drewN | apply Kd.R_drew)); exact Kd.R_mono HO176.out (fun _ hk => hk.2)⟩, ⟨by (with_reducible repeat (first | refine blk_drewN ?_ _ | refine blk_drew ?_ | refine blk_alloc ?_ _)); exact BK173.out⟩, ⟨by (with_reducible repeat (first | refine blk_drewN ?_ _ | refine blk_drew ?_ | refine blk_alloc ?_ _)); exact BK178.out⟩, ⟨by repeat (first | (with_reducible first | exact HB.out | apply below_alloc | apply pw_below_drewN | apply below_drew1 | refine below_set ?_ GE173.out | refine below_set ?_ GE178.out) | exact HB.out)⟩⟩
      case round =>
        clear H'
        try clear c1
        try clear p2
        try clear c4
        try clear c4b0
        try clear c4b1
        try clear c5
        try clear c6
        try clear c10
        try clear hcz11_0
        try clear hcz11_1
        try clear hfz11_0
        try clear hfz11_1
        obtain ⟨x6_1, x7_1, x8_1, rfl, HA, HK1, HO_6, HO_7, HO_179000, BK173, BK178, HB⟩ := hrel
        cases gk with
        | zero => exact absurd HA.out (by simp [wringerref7_Table.l0])
        | succ k1 =>
          have H := HA.out
          clear HA
          simp only [wringerref7_Table.l0] at H
          by_cases c15 : x8_1 < (t174.length : Int)
          · rw [if_pos c15] at H
            have c15b0 : decide (x8_1 < (t174.length : Int)) = true := decide_eq_true c15
            clear c15
            by_cases c16 : 0 ≤ x8_1
            · rw [if_pos c16] at H
              have c16b0 : decide (0 ≤ x8_1) = true := decide_eq_true c16
              clear c16
              by_cases c17 : 0 ≤ (rd t174 x8_1)
              · rw [if_pos c17] at H
                have c17b0 : decide (0 ≤ (rd t174 x8_1)) = true := decide_eq_true c17
                clear c17
                by_cases c18 : (rd t174 x8_1) < (x6_1.length : Int)
                · rw [if_pos c18] at H
                  have c18b0 : decide ((rd t174 x8_1) < (x6_1.length : Int)) = true := decide_eq_true c18
                  clear c18
                  obtain ⟨y189, hy189⟩ : ∃ y_ : List Int, y_ = (x6_1.set ((rd t174 x8_1) : Int).toNat (wrap64 ((rd x6_1 (rd t174 x8_1)) + 1))) := ⟨_, rfl⟩
                  replace H : (wringerref7_Table.l1 k1 a1 y189 x7_1 x8_1 (rd x6_1 (rd t174 x8_1)) a1 t174 t177) = some (r1, r2) := by first | (rw [hy189]; with_reducible exact H) | (have H2_ := (Option.bind_some _ _).symm.trans H; rw [hy189]; with_reducible exact H2_) | (have H2_ := (Option.bind_some _ _).symm.trans H; with_reducible exact H2_) | with_reducible exact H | (rw [hy189]; exact H) | exact H
                  have Ny189 := Aside0.mk hy189
                  clear hy189
                  have H' := Aside0.mk H
                  clear H
                  have hnb20 := NB178_173.out
                  have hnc20 := NB173_178.out
                  have hcz21_0 : wr.cell? ⟨gb178, 0, none⟩ = some (.slice Ao9 t174.length co9) := (blk_cell BK178.out 0).trans rfl
                  have hcz21_1 : wr.cell? ⟨gb178, 1, none⟩ = some (.int .i64 t177) := (blk_cell BK178.out 1).trans rfl
                  have hfz21_0 := blk_frozen BK178.out 0
                  have hfz21_1 := blk_frozen BK178.out 1
                  have p185 : 0 ≤ (x8_1 : Int) := of_decide_eq_true (by first | (with_reducible assumption) | assumption)
                  have q185 : x8_1 < (t174.length : Int) := of_decide_eq_true (by first | (with_reducible assumption) | assumption)
                  obtain ⟨ad185, e185, hx185_0⟩ := Kd.at_int (Kd.R_reads' HO_179000.out).2.2 x8_1 p185 q185
                  cases e185
                  replace p185 := eq_true p185
                  replace q185 := eq_true q185
                  obtain ⟨Ao22, co22, eo22⟩ := Kd.R_slice HO_6.out
                  subst eo22
                  have p186 : 0 ≤ ((rd t174 x8_1) : Int) := of_decide_eq_true (by first | (with_reducible assumption) | assumption)
                  have q186 : (rd t174 x8_1) < (x6_1.length : Int) := of_decide_eq_true (by first | (with_reducible assumption) | assumption)
                  obtain ⟨ad186, e186, hx186_0⟩ := Kd.at_int (Kd.R_reads' HO_6.out).2.2 (rd t174 x8_1) p186 q186
                  cases e186
                  replace p186 := eq_true p186
                  replace q186 := eq_true q186
                  have p187 : 0 ≤ (x8_1 : Int) := of_decide_eq_true (by first | (with_reducible assumption) | assumption)
                  have q187 : x8_1 < (t174.length : Int) := of_decide_eq_true (by first | (with_reducible assumption) | assumption)
                  obtain ⟨ad187, e187, hx187_0⟩ := Kd.at_int (Kd.R_reads' HO_179000.out).2.2 x8_1 p187 q187
                  obtain rfl : ad185 = ad187 := (by injection e187)
                  replace p187 := eq_true p187
                  replace q187 := eq_true q187
                  have p188 : 0 ≤ ((rd t174 x8_1) : Int) := of_decide_eq_true (by first | (with_reducible assumption) | assumption)
                  have q188 : (rd t174 x8_1) < (x6_1.length : Int) := of_decide_eq_true (by first | (with_reducible assumption) | assumption)
                  obtain ⟨ad188, e188, hx188_0⟩ := Kd.at_int (Kd.R_reads' HO_6.out).2.2 (rd t174 x8_1) p188 q188
                  obtain rfl : ad186 = ad188 := (by injection e188)
                  replace p188 := eq_true p188
                  replace q188 := eq_true q188
                  have p19 : 0 ≤ ((rd t174 x8_1) : Int) := of_decide_eq_true (by first | (with_reducible assumption) | assumption)
                  have q19 : ((rd t174 x8_1) : Int) < ((x6_1.length : Int) : Int) := of_decide_eq_true (by first | (with_reducible assumption) | assumption)
                  obtain ⟨go19, co19, eo19, gb19, gl19, cl19, HG19⟩ := Kd.R_form HO_6.out (by omega)
                  (first | cases eo19 | (injection eo19 with ea_ en_ ec_; (first | subst ea_ | (injection ea_ with ea_; subst ea_)); subst ec_; clear en_))
                  have GB19 := Aside0.mk gb19
                  have GG19 := Aside0.mk HG19
                  clear gb19 gl19 HG19
                  (first | simp only [add_plain] at hx186_0 | skip)
                  (first | simp only [add_plain] at hx188_0 | skip)
                  obtain ⟨hx19_0, hf19_0⟩ := Kd.R_celln 0 HO_6.out ((rd t174 x8_1) : Int) p19 q19
                  replace p19 := eq_true p19
                  replace q19 := eq_true q19
                  have HP23 := Kd.R_putg HO_6.out ((rd t174 x8_1) : Int) (wrap64 ((rd x6_1 (rd t174 x8_1)) + 1))
                  go_wp2_with (first | ((with_reducible refine gate_store (t := 3) (p := 47) rfl ?_); refine store_event (t := 3) (p := 47) (v := ?vo_w24) (w1 := (wr.setCell ⟨go19, ((rd t174 x8_1) : Int).toNat, none⟩ (.int .i64 (wrap64 ((rd x6_1 (rd t174 x8_1)) + 1))))) ?hg ?ho ?hn ?hr ?_; (case ho => rfl); (case hg => rfl); (case hn => rfl); (case hr => first | (go_simp; done) | (go_simp; rfl)); intro w24 hw; have hg : wr.grownBy w24 (some go19) := (by rw [hw]; exact HP23.2); have hp_ : Kd.R (Kd.int .i64) 3 w24 w.heap.size (fun k_ => some k_ ≠ (.slice (some ad185) t174.length co9 : Value).ownBlock) (.slice (some ⟨go19, 0, none⟩) x6_1.length co22) y189 := (by rw [hw, Ny189.out]; exact HP23.1); clear HP23; have n0_ := Aside0.mk (hp_); have n1_ := Aside0.mk (Kd.R_over' (v := (.slice (some ⟨go19, 0, none⟩) x6_1.length co22)) (by (with_reducible repeat (first | apply Kd.R_alloc | apply Kd.R_drewN | apply Kd.R_drew)); exact HO_7.out) (Kd.R_typed HO_6.out) (by decide) hg); have n2_ := Aside0.mk (Kd.R_after (v := (.slice (some ⟨go19, 0, none⟩) x6_1.length co22)) (v1 := (.slice (some ⟨go19, 0, none⟩) x6_1.length co22)) (ok := (fun _ => True)) (by (with_reducible repeat (first | apply Kd.R_alloc | apply Kd.R_drewN | apply Kd.R_drew)); exact Kd.R_mono HO_179000.out (fun _ hk => ⟨trivial, hk⟩)) hg (.inl rfl)); have n3_ := Aside0.mk (blk_grown (g := gb173) (o := .cells #[.slice none 0 0, .int .i64 0] 97 (0, 0)) (by (with_reducible repeat (first | refine blk_drewN ?_ _ | refine blk_drew ?_ | refine blk_alloc ?_ _)); exact BK173.out) hg (Kd.R_ne HO_6.out BK173.out (by decide))); have n4_ := Aside0.mk (blk_grown (g := gb178) (o := .cells #[.slice (some ad185) t174.length co9, .int .i64 t177] 31 (0, 0)) (by (with_reducible repeat (first | refine blk_drewN ?_ _ | refine blk_drew ?_ | refine blk_alloc ?_ _)); exact BK178.out) hg (Kd.R_ne HO_6.out BK178.out (by decide))); have n5_ := Aside0.mk ((by rw [hw]; exact below_set (HB.out) GB19.out : Below w.heap.size w w24)); clear HO_6; clear HO_7; clear HO_179000; clear BK173; clear BK178; clear HB; have HO_6 := n0_; have HO_7 := n1_; have HO_179000 := n2_; have BK173 := n3_; have BK178 := n4_; have HB := n5_; clear n0_ n1_ n2_ n3_ n4_ n5_; clear hg hw hp_))
                  go_loopg [10] k1 (fun kq v10 w' => ∃ (x10_2 : Int), v10 = .int .i64 x10_2 ∧ Aside0 (wringerref7_Table.l1 kq a1 y189 x7_1 x8_1 (rd x6_1 (rd t174 x8_1)) x10_2 t174 t177 = some (r1, r2)) ∧ Aside0 (kq ≤ k1) ∧ Aside0 (Kd.R (Kd.int .i64) 3 w' w.heap.size (fun k_ => some k_ ≠ ((.slice (some ad185) t174.length co9) : Value).ownBlock) (.slice (some ⟨go19, 0, none⟩) x6_1.length co22) y189) ∧ Aside0 (Kd.R k105 105 w' w.heap.size (fun _ => True) u7 x7_1) ∧ Aside0 (Kd.R (Kd.int .i64) 3 w' w.heap.size (fun k_ => some k_ ≠ ((.slice (some ⟨go19, 0, none⟩) x6_1.length co22) : Value).ownBlock) (.slice (some ad185) t174.length co9) t174) ∧ Aside0 (w'.heap[gb173]? = some (.cells #[(.slice none 0 0), .int .i64 0] 97 (0, 0))) ∧ Aside0 (w'.heap[gb178]? = some (.cells #[(.slice (some ad185) t174.length co9), .int .i64 t177] 31 (0, 0))) ∧ Aside0 (Below w.heap.size w w'))
                  case atStart => exact ⟨(a1), (by first | rfl | (simp; done) | (simp [*]; done)), H', ⟨Nat.le_refl _⟩, ⟨by (with_reducible repeat (first | apply Kd.R_alloc | apply Kd.R_drewN | apply Kd.R_drew)); exact HO_6.out⟩, ⟨by (with_reducible repeat (first | apply Kd.R_alloc | apply Kd.R_drewN | apply Kd.R_drew)); exact HO_7.out⟩, ⟨by (with_reducible repeat (first | apply Kd.R_alloc | apply Kd.R_drewN | apply Kd.R_drew)); exact Kd.R_mono HO_179000.out (fun _ hk => hk.2)⟩, ⟨by (with_reducible repeat (first | refine blk_drewN ?_ _ | refine blk_drew ?_ | refine blk_alloc ?_ _)); exact BK173.out⟩, ⟨by (with_reducible repeat (first | refine blk_drewN ?_ _ | refine blk_drew ?_ | refine blk_alloc ?_ _)); exact BK178.out⟩, ⟨by repeat (first | (with_reducible first | exact HB.out | apply below_alloc | apply pw_below_drewN | apply below_drew1 | refine below_set ?_ GE173.out | refine below_set ?_ GE178.out) | exact HB.out)⟩⟩
                  case round =>
                    clear H'
                    try clear c1
                    try clear p1
                    try clear q1
                    try clear hx1
                    try clear c2
                    try clear p2
                    try clear c4
                    try clear c4b0
                    try clear c4b1
                    try clear c5
                    try clear c6
                    try clear p6
                    try clear c10
                    try clear c15
                    try clear c15b0
                    try clear c16
                    try clear c16b0
                    try clear c17
                    try clear c17b0
                    try clear c18
                    try clear c18b0
                    try clear p18
                    try clear q18
                    try clear hx18
                    try clear p19
                    try clear q19
                    try clear hx19
                    try clear hf19
                    try clear c20
                    try clear hcz11_0
                    try clear hcz11_1
                    try clear hcz21_0
                    try clear hcz21_1
                    try clear hfz11_0
                    try clear hfz11_1
                    try clear hfz21_0
                    try clear hfz21_1
                    try clear hx185_0
                    try clear hx186_0
                    try clear hx187_0
                    try clear hx188_0
                    try clear hx19_0
                    try clear p185
                    try clear p186
                    try clear p187
                    try clear p188
                    try clear p19
                    try clear p2
                    try clear q185
                    try clear q186
                    try clear q187
                    try clear q188
                    try clear q19
                    obtain ⟨x10_2, rfl, HA, HK2, HO_6, HO_7, HO_179000, BK173, BK178, HB⟩ := hrel
                    have hl6_2 := (Kd.R_reads' HO_6.out).1
                    rw [hl6_2] at HO_6
                    (try simp only [hl6_2])
                    (try simp only [hl6_2] at BK173)
                    (try simp only [hl6_2] at BK178)
                    (try simp only [hl6_2] at HO_7)
                    (try simp only [hl6_2] at HO_179000)
                    cases gk with
                    | zero => exact absurd HA.out (by simp [wringerref7_Table.l1])
                    | succ k2 =>
                      have H := HA.out
                      clear HA
                      simp only [wringerref7_Table.l1] at H
                      obtain ⟨ji25, hji25⟩ : ∃ j_ : Int, (wrap64 ((wrap64 (a1 - x10_2)) + 1)) = j_ := ⟨_, rfl⟩
                      replace H : (if 0 ≤ (ji25) then (if (shr .i64 (rd x6_1 (rd t174 x8_1)) (ji25)) > 0 then (wringerref7_Table.l1 k2 a1 y189 x7_1 x8_1 (rd x6_1 (rd t174 x8_1)) (wrap64 (x10_2 - 1)) t174 t177) else (if 0 ≤ x8_1 then (if x8_1 < (t174.length : Int) then (if 0 ≤ x10_2 then (if 0 ≤ a1 then (if x7_1.length < 5864062014805 then (wringerref7_Table.l0 k2 a1 y189 (x7_1 ++ [(⟨rd t174 x8_1, x10_2, wrap64 ((shl .i64 (rd x6_1 (rd t174 x8_1)) x10_2) - (shl .i64 1 a1))⟩ : S105)]) (wrap64 (x8_1 + 1)) t174 t177) else (none)) else (none)) else (none)) else (none)) else (none))) else (none)) = some (r1, r2) := by first | (rw [hji25] at H; exact H) | (simp only [hji25] at H ⊢; exact H)
                      have hji25w : (IntKind.i64.wrap ((wrap64 (a1 - x10_2)) + 1)) = ji25 := (i64_w _).trans hji25
                      by_cases c26 : 0 ≤ (ji25)
                      · rw [if_pos c26] at H
                        have c26b0 := eq_true c26
                        have c26b1 : decide (0 ≤ (ji25)) = true := decide_eq_true c26
                        clear c26
                        obtain ⟨ji27, hji27⟩ : ∃ j_ : Int, (shr .i64 (rd x6_1 (rd t174 x8_1)) (ji25)) = j_ := ⟨_, rfl⟩
                        replace H : (if (ji27) > 0 then (wringerref7_Table.l1 k2 a1 y189 x7_1 x8_1 (rd x6_1 (rd t174 x8_1)) (wrap64 (x10_2 - 1)) t174 t177) else (if 0 ≤ x8_1 then (if x8_1 < (t174.length : Int) then (if 0 ≤ x10_2 then (if 0 ≤ a1 then (if x7_1.length < 5864062014805 then (wringerref7_Table.l0 k2 a1 y189 (x7_1 ++ [(⟨rd t174 x8_1, x10_2, wrap64 ((shl .i64 (rd x6_1 (rd t174 x8_1)) x10_2) - (shl .i64 1 a1))⟩ : S105)]) (wrap64 (x8_1 + 1)) t174 t177) else (none)) else (none)) else (none)) else (none)) else (none))) = some (r1, r2) := by first | (rw [hji27] at H; exact H) | (simp only [hji27] at H ⊢; exact H)
                        have hji27_ : ((rd x6_1 (rd t174 x8_1)) / 2 ^ min (ji25).toNat 64) = ji27 := hji27
                        have hji27z : (ji25) ≤ 64 → ((rd x6_1 (rd t174 x8_1)) / 2 ^ (ji25).toNat) = ji27 := shr_small hji27
                        by_cases c28 : (ji27) > 0
                        · rw [if_pos c28] at H
                          have c28b0 : decide (0 < (ji27)) = true := decide_eq_true c28
                          clear c28
                          have H' := Aside0.mk H
                          clear H
                          go_wp2
                          (try simp only [← hl6_2])
                          go_roundg k2
                          case measure => have := HK1.out; have := HK2.out; omega
                          case rel => exact ⟨(wrap64 (x10_2 - 1)), (by first | rfl | (simp; done) | (simp [*]; done)), H', ⟨by have := HK1.out; have := HK2.out; omega⟩, ⟨by (try simp only [hl6_2]); (with_reducible repeat (first | apply Kd.R_alloc | apply Kd.R_drewN | apply Kd.R_drew)); exact HO_6.out⟩, ⟨by (try simp only [hl6_2]); (with_reducible repeat (first | apply Kd.R_alloc | apply Kd.R_drewN | apply Kd.R_drew)); exact HO_7.out⟩, ⟨by (try simp only [hl6_2]); (with_reducible repeat (first | apply Kd.R_alloc | apply Kd.R_drewN | apply Kd.R_drew)); exact HO_179000.out⟩, ⟨by (try simp only [hl6_2]); (with_reducible repeat (first | refine blk_drewN ?_ _ | refine blk_drew ?_ | refine blk_alloc ?_ _)); exact BK173.out⟩, ⟨by (try simp only [hl6_2]); (with_reducible repeat (first | refine blk_drewN ?_ _ | refine blk_drew ?_ | refine blk_alloc ?_ _)); exact BK178.out⟩, ⟨by repeat (first | (with_reducible first | exact HB.out | apply below_alloc | apply pw_below_drewN | apply below_drew1 | refine below_set ?_ GE173.out | refine below_set ?_ GE178.out) | exact HB.out)⟩⟩
                        · rw [if_neg c28] at H
                          have c28b0 : decide (0 < (ji27)) = false := decide_eq_false c28
                          clear c28
                          by_cases c29 : 0 ≤ x8_1
                          · rw [if_pos c29] at H
                            have c29b0 : decide (0 ≤ x8_1) = true := decide_eq_true c29
                            clear c29
                            by_cases c30 : x8_1 < (t174.length : Int)
                            · rw [if_pos c30] at H
                              have c30b0 : decide (x8_1 < (t174.length : Int)) = true := decide_eq_true c30
                              clear c30
                              by_cases c31 : 0 ≤ x10_2
                              · rw [if_pos c31] at H
                                have c31b0 := eq_true c31
                                have c31b1 : decide (0 ≤ x10_2) = true := decide_eq_true c31
                                clear c31
                                obtain ⟨ji32, hji32⟩ : ∃ j_ : Int, (shl .i64 (rd x6_1 (rd t174 x8_1)) x10_2) = j_ := ⟨_, rfl⟩
                                replace H : (if 0 ≤ a1 then (if x7_1.length < 5864062014805 then (wringerref7_Table.l0 k2 a1 y189 (x7_1 ++ [(⟨rd t174 x8_1, x10_2, wrap64 ((ji32) - (shl .i64 1 a1))⟩ : S105)]) (wrap64 (x8_1 + 1)) t174 t177) else (none)) else (none)) = some (r1, r2) := by first | (rw [hji32] at H; exact H) | (simp only [hji32] at H ⊢; exact H)
                                have hji32_ : (IntKind.i64.wrap ((rd x6_1 (rd t174 x8_1)) * 2 ^ min x10_2.toNat 64)) = ji32 := hji32
                                have hji32z : x10_2 ≤ 64 → (IntKind.i64.wrap ((rd x6_1 (rd t174 x8_1)) * 2 ^ x10_2.toNat)) = ji32 := shl_small hji32
                                have hji32y : (wrap64 ((rd x6_1 (rd t174 x8_1)) * 2 ^ min x10_2.toNat 64)) = ji32 := (i64_w _).symm.trans hji32_
                                have hji32x : x10_2 ≤ 64 → (wrap64 ((rd x6_1 (rd t174 x8_1)) * 2 ^ x10_2.toNat)) = ji32 := fun h_ => (i64_w _).symm.trans (hji32z h_)
                                by_cases c33 : 0 ≤ a1
                                · rw [if_pos c33] at H
                                  have c33b0 := eq_true c33
                                  have c33b1 : decide (0 ≤ a1) = true := decide_eq_true c33
                                  clear c33
                                  obtain ⟨ji34, hji34⟩ : ∃ j_ : Int, (shl .i64 1 a1) = j_ := ⟨_, rfl⟩
                                  replace H : (if x7_1.length < 5864062014805 then (wringerref7_Table.l0 k2 a1 y189 (x7_1 ++ [(⟨rd t174 x8_1, x10_2, wrap64 ((ji32) - (ji34))⟩ : S105)]) (wrap64 (x8_1 + 1)) t174 t177) else (none)) = some (r1, r2) := by first | (rw [hji34] at H; exact H) | (simp only [hji34] at H ⊢; exact H)
                                  have hji34_ : (IntKind.i64.wrap (1 * 2 ^ min a1.toNat 64)) = ji34 := hji34
                                  have hji34z : a1 ≤ 64 → (IntKind.i64.wrap (1 * 2 ^ a1.toNat)) = ji34 := shl_small hji34
                                  have hji34u : (IntKind.i64.wrap (2 ^ min a1.toNat 64)) = ji34 := by have h_ := hji34_; rw [Int.one_mul] at h_; exact h_
                                  have hji34v : a1 ≤ 64 → (IntKind.i64.wrap (2 ^ a1.toNat)) = ji34 := fun hle_ => by have h_ := hji34z hle_; rw [Int.one_mul] at h_; exact h_
                                  have hji34y : (wrap64 (1 * 2 ^ min a1.toNat 64)) = ji34 := (i64_w _).symm.trans hji34_
                                  have hji34x : a1 ≤ 64 → (wrap64 (1 * 2 ^ a1.toNat)) = ji34 := fun h_ => (i64_w _).symm.trans (hji34z h_)
                                  by_cases c35 : x7_1.length < 5864062014805
                                  · rw [if_pos c35] at H
                                    have LMc35 := Aside0.mk c35
                                    clear c35
                                    obtain ⟨y191, hy191⟩ : ∃ y_ : List (S105), y_ = (x7_1 ++ [(⟨rd t174 x8_1, x10_2, wrap64 ((ji32) - (ji34))⟩ : S105)]) := ⟨_, rfl⟩
                                    replace H : (wringerref7_Table.l0 k2 a1 y189 y191 (wrap64 (x8_1 + 1)) t174 t177) = some (r1, r2) := by first | (rw [hy191]; with_reducible exact H) | (have H2_ := (Option.bind_some _ _).symm.trans H; rw [hy191]; with_reducible exact H2_) | (have H2_ := (Option.bind_some _ _).symm.trans H; with_reducible exact H2_) | with_reducible exact H | (rw [hy191]; exact H) | exact H
                                    have Ny191 := Aside0.mk hy191
                                    clear hy191
                                    have H' := Aside0.mk H
                                    clear H
                                    try go_wp2
                                    have n0_ := Aside0.mk (Kd.R_drew HO_6.out)
                                    have n1_ := Aside0.mk (Kd.R_drew HO_7.out)
                                    have n2_ := Aside0.mk (Kd.R_drew HO_179000.out)
                                    have n3_ := Aside0.mk (blk_drew BK173.out)
                                    have n4_ := Aside0.mk (blk_drew BK178.out)
                                    have n5_ := Aside0.mk (below_drew1 HB.out)
                                    clear HO_6
                                    clear HO_7
                                    clear HO_179000
                                    clear BK173
                                    clear BK178
                                    clear HB
                                    have HO_6 := n0_
                                    have HO_7 := n1_
                                    have HO_179000 := n2_
                                    have BK173 := n3_
                                    have BK178 := n4_
                                    have HB := n5_
                                    clear n0_ n1_ n2_ n3_ n4_ n5_
                                    have p190 : 0 ≤ (x8_1 : Int) := of_decide_eq_true (by first | (with_reducible assumption) | assumption)
                                    have q190 : x8_1 < (t174.length : Int) := of_decide_eq_true (by first | (with_reducible assumption) | assumption)
                                    obtain ⟨ad190, e190, hx190_0⟩ := Kd.at_int (Kd.R_reads' HO_179000.out).2.2 x8_1 p190 q190
                                    obtain rfl : ad185 = ad190 := (by injection e190)
                                    replace p190 := eq_true p190
                                    replace q190 := eq_true q190
                                    refine start_ (n := 17) (S := fun w' => w'.cell? ⟨gb178, 0, none⟩ = some (.slice (some ad185) t174.length co9) ∧ w'.cell? ⟨gb178, 1, none⟩ = some (.int .i64 t177) ∧ w'.cell? (ad185.add (x8_1).toNat) = some (.int .i64 (rd t174 x8_1))) (ds := [14, 15]) #[false, false, false, false, false, false, false, false, false, false, false, false, false, false, false, false, false] (by kernel_rfl) rfl rfl ⟨(blk_cell BK178.out 0).trans rfl, (blk_cell BK178.out 1).trans rfl, hx190_0⟩ (fun hHeld => ?_); refine with_tabW wringerref7_Table.tab14 wringerref7_Table.bits14 (fun HT_ HW_ => ?_)
                                    generalize wr.drew = w36 at HO_6 HO_7 HO_179000 BK173 BK178 HB hx190_0 hHeld ⊢
                                    refine pure_ (i := 0) (N := some 58) (v := ?_) (a' := ?_) #[true, false, false, false, false, false, false, false, false, false, false, false, false, false, false, false, false] rfl rfl (any_of HT_.out (by kernel_rfl)) (fun _ _ _ h => h) (Or.inl ⟨by rfl, ?_⟩) ?_ ?_
                                    rotate_left
                                    · intro w'
                                      go_simp
                                      with_reducible rfl
                                    rotate_left
                                    · simp only [Act.put, List.setIfInBounds_toArray, List.set_cons_zero, List.set_cons_succ, i64_w, i32_w]
                                      rfl
                                    refine pure_ (i := 1) (N := some 59) (v := ?_) (a' := ?_) #[true, true, false, false, false, false, false, false, false, false, false, false, false, false, false, false, false] rfl rfl (any_of HT_.out (by kernel_rfl)) (fun _ _ _ h => h) (Or.inl ⟨by rfl, ?_⟩) ?_ ?_
                                    rotate_left
                                    · intro w'
                                      go_simp
                                      with_reducible rfl
                                    rotate_left
                                    · simp only [Act.put, List.setIfInBounds_toArray, List.set_cons_zero, List.set_cons_succ, i64_w, i32_w]
                                      rfl
                                    refine pure_ (i := 3) (N := some 61) (v := ?_) (a' := ?_) #[true, true, false, true, false, false, false, false, false, false, false, false, false, false, false, false, false] rfl rfl (any_of HT_.out (by kernel_rfl)) (fun _ _ _ h => h) (Or.inl ⟨by rfl, ?_⟩) ?_ ?_
                                    rotate_left
                                    · intro w'
                                      go_simp
                                      with_reducible rfl
                                    rotate_left
                                    · simp only [Act.put, List.setIfInBounds_toArray, List.set_cons_zero, List.set_cons_succ, i64_w, i32_w]
                                      rfl
                                    refine pure_ (i := 6) (N := some 64) (v := ?_) (a' := ?_) #[true, true, false, true, false, false, true, false, false, false, false, false, false, false, false, false, false] rfl rfl (any_of HT_.out (by kernel_rfl)) (fun _ _ _ h => h) (Or.inl ⟨by rfl, ?_⟩) ?_ ?_
                                    rotate_left
                                    · intro w'
                                      go_simp
                                      with_reducible rfl
                                    rotate_left
                                    · simp only [Act.put, List.setIfInBounds_toArray, List.set_cons_zero, List.set_cons_succ, i64_w, i32_w]
                                      rfl
                                    refine pure_ (i := 7) (N := some 65) (v := ?_) (a' := ?_) #[true, true, false, true, false, false, true, true, false, false, false, false, false, false, false, false, false] rfl rfl (any_of HT_.out (by kernel_rfl)) (fun _ _ _ h => h) (Or.inl ⟨by rfl, ?_⟩) ?_ ?_
                                    rotate_left
                                    · intro w'
                                      go_simp
                                      with_reducible rfl
                                    rotate_left
                                    · simp only [Act.put, List.setIfInBounds_toArray, List.set_cons_zero, List.set_cons_succ, i64_w, i32_w]
                                      rfl
                                    refine pure_ (i := 8) (N := some 66) (v := ?_) (a' := ?_) #[true, true, false, true, false, false, true, true, true, false, false, false, false, false, false, false, false] rfl rfl (any_of HT_.out (by kernel_rfl)) (fun _ _ _ h => h) (Or.inl ⟨by rfl, ?_⟩) ?_ ?_
                                    rotate_left
                                    · intro w'
                                      go_simp
                                      with_reducible rfl
                                    rotate_left
                                    · simp only [Act.put, List.setIfInBounds_toArray, List.set_cons_zero, List.set_cons_succ, i64_w, i32_w]
                                      rfl
                                    refine pure_ (i := 9) (N := some 67) (v := ?_) (a' := ?_) #[true, true, false, true, false, false, true, true, true, true, false, false, false, false, false, false, false] rfl rfl (any_of HT_.out (by kernel_rfl)) (fun _ _ _ h => h) (Or.inl ⟨by rfl, ?_⟩) ?_ ?_
                                    rotate_left
                                    · intro w'
                                      go_simp
                                      with_reducible rfl
                                    rotate_left
                                    · simp only [Act.put, List.setIfInBounds_toArray, List.set_cons_zero, List.set_cons_succ, i64_w, i32_w]
                                      rfl
                                    refine pure_ (i := 10) (N := some 68) (v := ?_) (a' := ?_) #[true, true, false, true, false, false, true, true, true, true, true, false, false, false, false, false, false] rfl rfl (any_of HT_.out (by kernel_rfl)) (fun _ _ _ h => h) (Or.inl ⟨by rfl, ?_⟩) ?_ ?_
                                    rotate_left
                                    · intro w'
                                      go_simp
                                      with_reducible rfl
                                    rotate_left
                                    · simp only [Act.put, List.setIfInBounds_toArray, List.set_cons_zero, List.set_cons_succ, i64_w, i32_w]
                                      rfl
                                    refine pure_ (i := 11) (N := some 69) (v := ?_) (a' := ?_) #[true, true, false, true, false, false, true, true, true, true, true, true, false, false, false, false, false] rfl rfl (any_of HT_.out (by kernel_rfl)) (fun _ _ _ h => h) (Or.inl ⟨by rfl, ?_⟩) ?_ ?_
                                    rotate_left
                                    · intro w'
                                      go_simp
                                      with_reducible rfl
                                    rotate_left
                                    · simp only [Act.put, List.setIfInBounds_toArray, List.set_cons_zero, List.set_cons_succ, i64_w, i32_w]
                                      rfl
                                    refine pure_ (i := 12) (N := some 70) (v := ?_) (a' := ?_) #[true, true, false, true, false, false, true, true, true, true, true, true, true, false, false, false, false] rfl rfl (any_of HT_.out (by kernel_rfl)) (fun _ _ _ h => h) (Or.inl ⟨by rfl, ?_⟩) ?_ ?_
                                    rotate_left
                                    · intro w'
                                      go_simp
                                      with_reducible rfl
                                    rotate_left
                                    · simp only [Act.put, List.setIfInBounds_toArray, List.set_cons_zero, List.set_cons_succ, i64_w, i32_w]
                                      rfl
                                    refine take_ (i := 2) (N := some 60) (v := ?_) (a' := ?_) #[true, true, true, true, false, false, true, true, true, true, true, true, true, false, false, false, false] rfl rfl (take_ofW HT_.out HW_.out (by kernel_rfl)) (fun _ _ _ h => h) (Or.inl ⟨by rfl, ?_⟩) hHeld ?_ ?_
                                    rotate_left
                                    · rintro w' ⟨s0, s1, s2⟩
                                      go_simp
                                      with_reducible rfl
                                    rotate_left
                                    · simp only [Act.put, List.setIfInBounds_toArray, List.set_cons_zero, List.set_cons_succ, i64_w, i32_w]
                                      rfl
                                    refine pure_ (i := 4) (N := some 62) (v := ?_) (a' := ?_) #[true, true, true, true, true, false, true, true, true, true, true, true, true, false, false, false, false] rfl rfl (any_of HT_.out (by kernel_rfl)) (fun _ _ _ h => h) (Or.inl ⟨by rfl, ?_⟩) ?_ ?_
                                    rotate_left
                                    · intro w'
                                      go_simp
                                      with_reducible rfl
                                    rotate_left
                                    · simp only [Act.put, List.setIfInBounds_toArray, List.set_cons_zero, List.set_cons_succ, i64_w, i32_w]
                                      rfl
                                    refine take_ (i := 5) (N := some 63) (v := ?_) (a' := ?_) #[true, true, true, true, true, true, true, true, true, true, true, true, true, false, false, false, false] rfl rfl (take_ofW HT_.out HW_.out (by kernel_rfl)) (fun _ _ _ h => h) (Or.inl ⟨by rfl, ?_⟩) hHeld ?_ ?_
                                    rotate_left
                                    · rintro w' ⟨s0, s1, s2⟩
                                      go_simp
                                      with_reducible rfl
                                    rotate_left
                                    · simp only [Act.put, List.setIfInBounds_toArray, List.set_cons_zero, List.set_cons_succ, i64_w, i32_w]
                                      rfl
                                    refine pure_ (i := 13) (N := some 71) (v := ?_) (a' := ?_) #[true, true, true, true, true, true, true, true, true, true, true, true, true, true, false, false, false] rfl rfl (any_of HT_.out (by kernel_rfl)) (fun _ _ _ h => h) (Or.inl ⟨by rfl, ?_⟩) ?_ ?_
                                    rotate_left
                                    · intro w'
                                      go_simp
                                      with_reducible rfl
                                    rotate_left
                                    · simp only [Act.put, List.setIfInBounds_toArray, List.set_cons_zero, List.set_cons_succ, i64_w, i32_w]
                                      rfl
                                    refine last_ (i := 14) (N := some 72) #[true, true, true, true, true, true, true, true, true, true, true, true, true, true, true, false, false] rfl rfl (one_of HT_.out (by kernel_rfl)) (by decide) (fun K hK => ?_)
                                    refine value_ (w1 := ?_) (v := ?_) (by rfl) rfl ?_ ?_
                                    rotate_left 2
                                    · go_simp
                                      constructor
                                      · rfl
                                      · rfl
                                    refine hK.out _ _ ?_
                                    clear hK K
                                    refine norm_ (a' := ?_) ?_ ?_
                                    rotate_left
                                    · show Act.put _ (some 72) _ = _
                                      simp only [Act.put, List.setIfInBounds_toArray, List.set_cons_zero, List.set_cons_succ, i64_w, i32_w]
                                      rfl
                                    refine last_ (i := 15) (N := some 73) #[true, true, true, true, true, true, true, true, true, true, true, true, true, true, true, true, false] rfl rfl (one_of HT_.out (by kernel_rfl)) (by decide) (fun K hK => ?_)
                                    refine Kd.R_append_step k105 (w0 := w) w.heap.size (by rfl) (.tmp 58) (.tmp 72) 75 105 (.agg #[(.int .i64 0), (.int .i64 0), (.int .i64 0)]) 24 rfl Try.underlying75 info105 rfl (by decide) (by omega) u7 x7_1 (⟨rd t174 x8_1, x10_2, wrap64 ((ji32) - (ji34))⟩ : S105) [.int .i64 (rd t174 x8_1), .int .i64 x10_2, .int .i64 (wrap64 ((ji32) - (ji34)))] (fun _ => True) (fun _ => False) rfl rfl ?aP (fun _ hk => hk.elim) ?aF ?aO ?aB ?aS ?aL ?_
                                    (case aP => exact k105_mkM _ _ _ (⟨rd t174 x8_1, x10_2, wrap64 ((ji32) - (ji34))⟩ : S105))
                                    (case aB => exact (by repeat (first | (with_reducible first | exact HB.out | apply below_alloc | apply pw_below_drewN | apply below_drew1 | refine below_set ?_ GE173.out | refine below_set ?_ GE178.out) | exact HB.out)))
                                    (case aF => exact (fun _ _ => trivial))
                                    (case aO => exact (by (with_reducible repeat (first | apply Kd.R_alloc | apply Kd.R_drewN | apply Kd.R_drew)); exact HO_7.out))
                                    (case aS => exact (below_size (by repeat (first | (with_reducible first | exact HB.out | apply below_alloc | apply pw_below_drewN | apply below_drew1 | refine below_set ?_ GE173.out | refine below_set ?_ GE178.out) | exact HB.out))))
                                    (case aL => have := LMc35.out; omega)
                                    intro v192 w37 ho hb hg hat
                                    rw [← Ny191.out] at ho
                                    have n0_ := Aside0.mk (Kd.R_over' (by (with_reducible repeat (first | apply Kd.R_alloc | apply Kd.R_drewN | apply Kd.R_drew)); exact HO_6.out) (Kd.R_typed (by (with_reducible repeat (first | apply Kd.R_alloc | apply Kd.R_drewN | apply Kd.R_drew)); exact HO_7.out)) (by decide) hg)
                                    have n1_ := Aside0.mk (Kd.R_over' (by (with_reducible repeat (first | apply Kd.R_alloc | apply Kd.R_drewN | apply Kd.R_drew)); exact HO_179000.out) (Kd.R_typed (by (with_reducible repeat (first | apply Kd.R_alloc | apply Kd.R_drewN | apply Kd.R_drew)); exact HO_7.out)) (by decide) hg)
                                    have n2_ := Aside0.mk (blk_grown (g := gb173) (o := .cells #[.slice none 0 0, .int .i64 0] 97 (0, 0)) (by (with_reducible repeat (first | refine blk_drewN ?_ _ | refine blk_drew ?_ | refine blk_alloc ?_ _)); exact BK173.out) hg (Kd.R_ne HO_7.out BK173.out (by decide)))
                                    have n3_ := Aside0.mk (blk_grown (g := gb178) (o := .cells #[.slice (some ad185) t174.length co9, .int .i64 t177] 31 (0, 0)) (by (with_reducible repeat (first | refine blk_drewN ?_ _ | refine blk_drew ?_ | refine blk_alloc ?_ _)); exact BK178.out) hg (Kd.R_ne HO_7.out BK178.out (by decide)))
                                    have n4_ := Aside0.mk (hb)
                                    have n5_ := Aside0.mk (ho)
                                    clear HO_6
                                    clear HO_179000
                                    clear BK173
                                    clear BK178
                                    clear HB
                                    clear HO_7
                                    have HO_6 := n0_
                                    have HO_179000 := n1_
                                    have BK173 := n2_
                                    have BK178 := n3_
                                    have HB := n4_
                                    have HO193 := n5_
                                    clear n0_ n1_ n2_ n3_ n4_ n5_
                                    clear ho hb hg hat
                                    refine hK.out _ _ ?_
                                    clear hK K
                                    refine norm_ (a' := ?_) ?_ ?_
                                    rotate_left
                                    · show Act.put _ (some 73) _ = _
                                      simp only [Act.put, List.setIfInBounds_toArray, List.set_cons_zero, List.set_cons_succ, i64_w, i32_w]
                                      rfl
                                    refine pure_ (i := 16) (N := some 7) (v := ?_) (a' := ?_) #[true, true, true, true, true, true, true, true, true, true, true, true, true, true, true, true, true] rfl rfl (any_of HT_.out (by kernel_rfl)) (fun _ _ _ h => h) (Or.inl ⟨by rfl, ?_⟩) ?_ ?_
                                    rotate_left
                                    · intro w'
                                      go_simp
                                      with_reducible rfl
                                    rotate_left
                                    · simp only [Act.put, List.setIfInBounds_toArray, List.set_cons_zero, List.set_cons_succ, i64_w, i32_w]
                                      rfl
                                    refine done_ (done_of HT_.out (by kernel_rfl)) ?_
                                    try go_wp2
                                    (try simp only [← hl6_2])
                                    go_roundg k2
                                    case measure => have := HK1.out; have := HK2.out; omega
                                    case rel => exact ⟨(y189), (y191), (wrap64 (x8_1 + 1)), (by first | rfl | (simp; done) | (simp [*]; done)), H', ⟨by have := HK1.out; have := HK2.out; omega⟩, ⟨by (try simp only [hl6_2]); (with_reducible repeat (first | apply Kd.R_alloc | apply Kd.R_drewN | apply Kd.R_drew)); exact HO_6.out⟩, ⟨by (try simp only [hl6_2]); (with_reducible repeat (first | apply Kd.R_alloc | apply Kd.R_drewN | apply Kd.R_drew)); exact HO193.out⟩, ⟨by (try simp only [hl6_2]); (with_reducible repeat (first | apply Kd.R_alloc | apply Kd.R_drewN | apply Kd.R_drew)); exact HO_179000.out⟩, ⟨by (try simp only [hl6_2]); (with_reducible repeat (first | refine blk_drewN ?_ _ | refine blk_drew ?_ | refine blk_alloc ?_ _)); exact BK173.out⟩, ⟨by (try simp only [hl6_2]); (with_reducible repeat (first | refine blk_drewN ?_ _ | refine blk_drew ?_ | refine blk_alloc ?_ _)); exact BK178.out⟩, ⟨by repeat (first | (with_reducible first | exact HB.out | apply below_alloc | apply pw_below_drewN | apply below_drew1 | refine below_set ?_ GE173.out | refine below_set ?_ GE178.out) | exact HB.out)⟩⟩
                                  · rw [if_neg c35] at H
                                    exact absurd H (by simp)
                                · rw [if_neg c33] at H
                                  exact absurd H (by simp)
                              · rw [if_neg c31] at H
                                exact absurd H (by simp)
                            · rw [if_neg c30] at H
                              exact absurd H (by simp)
                          · rw [if_neg c29] at H
                            exact absurd H (by simp)
                      · rw [if_neg c26] at H
                        exact absurd H (by simp)
                · rw [if_neg c18] at H
                  exact absurd H (by simp)
              · rw [if_neg c17] at H
                exact absurd H (by simp)
            · rw [if_neg c16] at H
              exact absurd H (by simp)
          · rw [if_neg c15] at H
            have c15b0 : decide (x8_1 < (t174.length : Int)) = false := decide_eq_false c15
            clear c15
            simp only [Option.some.injEq, Prod.mk.injEq] at H
            obtain ⟨rfl, rfl⟩ := H
            have hnb38 := NB178_173.out
            have hnc38 := NB173_178.out
            have hcz39_0 : wr.cell? ⟨gb178, 0, none⟩ = some (.slice Ao9 t174.length co9) := (blk_cell BK178.out 0).trans rfl
            have hcz39_1 : wr.cell? ⟨gb178, 1, none⟩ = some (.int .i64 t177) := (blk_cell BK178.out 1).trans rfl
            have hfz39_0 := blk_frozen BK178.out 0
            have hfz39_1 := blk_frozen BK178.out 1
            obtain ⟨Ao40, co40, eo40⟩ := Kd.R_slice HO_7.out
            subst eo40
            have hcz41_0 : wr.cell? ⟨gb173, 0, none⟩ = some (.slice none 0 0) := (blk_cell BK173.out 0).trans rfl
            have hcz41_1 : wr.cell? ⟨gb173, 1, none⟩ = some (.int .i64 0) := (blk_cell BK173.out 1).trans rfl
            have hfz41_0 := blk_frozen BK173.out 0
            have hfz41_1 := blk_frozen BK173.out 1
            go_wp2
            refine bodyPost_ret (results_cell_row rfl _ _ gb173 97 #[.slice Ao40 x7_1.length co40, .int .i64 0] (0, 0) _ rfl (by (with_reducible repeat (first | refine blk_drewN ?_ _ | refine blk_drew ?_ | refine blk_alloc ?_ _)); refine blk_put (cs := #[.slice Ao40 x7_1.length co40, .int .i64 0]) ?_ 1 _ rfl; (with_reducible repeat (first | refine blk_drewN ?_ _ | refine blk_drew ?_ | refine blk_alloc ?_ _)); refine blk_put (cs := #[.slice none 0 0, .int .i64 0]) ?_ 0 _ rfl; (with_reducible repeat (first | refine blk_drewN ?_ _ | refine blk_drew ?_ | refine blk_alloc ?_ _)); exact BK173.out) Try.underlying97 rfl (by kernel_rfl)) rfl ?_
            exact ⟨_, by first | rfl | (simp [errW_none, errW_some] <;> rfl) | (simp [*, errW_none, errW_some] <;> rfl), by (with_reducible repeat (first | apply Kd.R_alloc | apply Kd.R_drewN | apply Kd.R_drew)); exact Kd.R_mono (Kd.R_far (p := ⟨gb173, 1, none⟩) (Kd.R_far (p := ⟨gb173, 0, none⟩) (Kd.R_types HO_7.out BK173.out (by decide)) (fun _ hk => hk.2) (.slice Ao40 x7_1.length co40)) (fun _ hk => hk.2) (.int .i64 0)) (fun _ hk => trivial), by repeat (first | (with_reducible first | exact HB.out | apply below_alloc | apply pw_below_drewN | apply below_drew1 | refine below_set ?_ GE173.out | refine below_set ?_ GE178.out) | exact HB.out)⟩
    · rw [if_neg c5] at H
      exact absurd H (by simp)
  · rw [if_neg c4] at H
    have c4b0 : (t177 == 0) = false := beq_eq_false_iff_ne.mpr c4
    have c4b1 : (t177 != 0) = true := bne_iff_ne.mpr c4
    simp only [Option.some.injEq, Prod.mk.injEq] at H
    obtain ⟨rfl, rfl⟩ := H
    go_enter Try.func40, Try.ntmps40
    go_wp2_with (first | ((with_reducible refine gate_dst (N := 4) rfl ?_); refine box_event ?hg (N := 4) ?hd (cs := #[.slice none 0 0, .int .i64 0]) (t := 97) ?hr ?_; (case hd => rfl); (case hg => rfl); (case hr => first | (go_simp; done) | (go_simp; rfl)); intro gb173 hg w42 hbox hb; have n0_ := Aside0.mk (below_step (by repeat (first | (with_reducible first | exact HB.out | apply below_alloc | apply pw_below_drewN | apply below_drew1) | exact HB.out)) hb); have n1_ := Aside0.mk (hbox); have n2_ := Aside0.mk ((by rw [hg]; exact (below_size (by repeat (first | (with_reducible first | exact HB.out | apply below_alloc | apply pw_below_drewN | apply below_drew1) | exact HB.out))) : w.heap.size ≤ gb173)); have n3_ := Aside0.mk ((by rw [hg]; exact (below_size (by repeat (first | (with_reducible first | exact HB.out | apply below_alloc | apply pw_below_drewN | apply below_drew1) | exact HB.out))) : w.heap.size ≤ gb173)); clear HB; have HB := n0_; have BK173 := n1_; have GW173 := n2_; have GE173 := n3_; clear n0_ n1_ n2_ n3_; clear hb hbox hg) | ((with_reducible refine gate_callee (f := 69) rfl ?_); refine goesL_ (some 13) rfl rfl Try.func69 (by kernel_rfl) rfl #[.slice A0 l0.length c0, .int .i64 a1] rfl (by (try simp only [List.map_toArray, List.map_cons, List.map_nil]); first | done | rfl | (simp only [List.length_drop, List.length_take]; rfl)) ?_; (with_reducible refine (wringerref7_Spread.calls k _ _ l0 a1 t174 t177 _ ?side1 ?side2 A3.out).mono ?_); (case side1 => repeat (first | exact (Kd.C_below HR0.out HB.out) | (with_reducible refine Kd.C_alloc ?_ _) | (with_reducible refine Kd.C_drewN ?_ _) | (with_reducible refine Kd.C_drew ?_))); (case side2 => exact HC0.out); rintro e w43 ⟨v175, rfl, ho0, hb⟩; refine ⟨_, rfl, ?_⟩; have n0_ := Aside0.mk (Kd.R_lower ho0 (below_size (by repeat (first | (with_reducible first | exact HB.out | apply below_alloc | apply pw_below_drewN | apply below_drew1 | refine below_set ?_ GE173.out) | exact HB.out)))); have n1_ := Aside0.mk (blk_below (g := gb173) (o := .cells #[.slice none 0 0, .int .i64 0] 97 (0, 0)) (by (with_reducible repeat (first | refine blk_drewN ?_ _ | refine blk_drew ?_ | refine blk_alloc ?_ _)); exact BK173.out) hb); have n2_ := Aside0.mk (below_step (by repeat (first | (with_reducible first | exact HB.out | apply below_alloc | apply pw_below_drewN | apply below_drew1 | refine below_set ?_ GE173.out) | exact HB.out)) hb); clear BK173; clear HB; have HO176 := n0_; have BK173 := n1_; have HB := n2_; clear n0_ n1_ n2_; (try clear hb); (try clear hb2); (try clear hk); (try clear hi); (try clear ho0)) | ((with_reducible refine gate_dst (N := 5) rfl ?_); refine box_event ?hg (N := 5) ?hd (cs := #[.slice none 0 0, .int .i64 0]) (t := 31) ?hr ?_; (case hd => rfl); (case hg => rfl); (case hr => first | (go_simp; done) | (go_simp; rfl)); intro gb178 hg w44 hbox hb; have n0_ := Aside0.mk (Kd.R_below (by (with_reducible repeat (first | apply Kd.R_alloc | apply Kd.R_drewN | apply Kd.R_drew)); exact HO176.out) hb); have n1_ := Aside0.mk (blk_below (g := gb173) (o := .cells #[.slice none 0 0, .int .i64 0] 97 (0, 0)) (by (with_reducible repeat (first | refine blk_drewN ?_ _ | refine blk_drew ?_ | refine blk_alloc ?_ _)); exact BK173.out) hb); have n2_ := Aside0.mk (below_step (by repeat (first | (with_reducible first | exact HB.out | apply below_alloc | apply pw_below_drewN | apply below_drew1 | refine below_set ?_ GE173.out) | exact HB.out)) hb); have n3_ := Aside0.mk (hbox); have n4_ := Aside0.mk ((by rw [hg]; exact (below_size (by repeat (first | (with_reducible first | exact HB.out | apply below_alloc | apply pw_below_drewN | apply below_drew1 | refine below_set ?_ GE173.out) | exact HB.out))) : w.heap.size ≤ gb178)); have n5_ := Aside0.mk ((by rw [hg]; exact (below_size (by repeat (first | (with_reducible first | exact HB.out | apply below_alloc | apply pw_below_drewN | apply below_drew1 | refine below_set ?_ GE173.out) | exact HB.out))) : w.heap.size ≤ gb178)); have n6_ := Aside0.mk ((by rw [hg]; exact Nat.ne_of_lt (blk_lt (g := gb173) (o := .cells #[.slice none 0 0, .int .i64 0] 97 (0, 0)) (by (with_reducible repeat (first | refine blk_drewN ?_ _ | refine blk_drew ?_ | refine blk_alloc ?_ _)); exact BK173.out)) : gb173 ≠ gb178)); have n7_ := Aside0.mk ((by rw [hg]; exact Nat.ne_of_gt (blk_lt (g := gb173) (o := .cells #[.slice none 0 0, .int .i64 0] 97 (0, 0)) (by (with_reducible repeat (first | refine blk_drewN ?_ _ | refine blk_drew ?_ | refine blk_alloc ?_ _)); exact BK173.out)) : gb178 ≠ gb173)); clear HO176; clear BK173; clear HB; have HO176 := n0_; have BK173 := n1_; have HB := n2_; have BK178 := n3_; have GW178 := n4_; have GE178 := n5_; have NB173_178 := n6_; have NB178_173 := n7_; clear n0_ n1_ n2_ n3_ n4_ n5_ n6_ n7_; clear hb hbox hg; obtain ⟨Ao45, co45, eo45⟩ := Kd.R_slice HO176.out; subst eo45; have hnb46 := NB178_173.out; have hnc46 := NB173_178.out; have hcz47_0 : w44.cell? ⟨gb178, 0, none⟩ = some (.slice none 0 0) := (blk_cell BK178.out 0).trans rfl; have hcz47_1 : w44.cell? ⟨gb178, 1, none⟩ = some (.int .i64 0) := (blk_cell BK178.out 1).trans rfl; have hfz47_0 := blk_frozen BK178.out 0; have hfz47_1 := blk_frozen BK178.out 1; have hcz48_0 : w44.cell? ⟨gb173, 0, none⟩ = some (.slice none 0 0) := (blk_cell BK173.out 0).trans rfl; have hcz48_1 : w44.cell? ⟨gb173, 1, none⟩ = some (.int .i64 0) := (blk_cell BK173.out 1).trans rfl; have hfz48_0 := blk_frozen BK173.out 0; have hfz48_1 := blk_frozen BK173.out 1))
    refine bodyPost_ret (results_cell_row rfl _ _ gb173 97 #[.slice none 0 0, .int .i64 t177] (0, 0) _ rfl (by (with_reducible repeat (first | refine blk_drewN ?_ _ | refine blk_drew ?_ | refine blk_alloc ?_ _)); refine blk_put (cs := #[.slice none 0 0, .int .i64 0]) ?_ 1 _ rfl; (with_reducible repeat (first | refine blk_drewN ?_ _ | refine blk_drew ?_ | refine blk_alloc ?_ _)); refine blk_put (cs := #[.slice none 0 0, .int .i64 0]) ?_ 0 _ rfl; (with_reducible repeat (first | refine blk_drewN ?_ _ | refine blk_drew ?_ | refine blk_alloc ?_ _)); refine blk_far ?_ NB173_178.out _; (with_reducible repeat (first | refine blk_drewN ?_ _ | refine blk_drew ?_ | refine blk_alloc ?_ _)); refine blk_far ?_ NB173_178.out _; (with_reducible repeat (first | refine blk_drewN ?_ _ | refine blk_drew ?_ | refine blk_alloc ?_ _)); exact BK173.out) Try.underlying97 rfl (by kernel_rfl)) rfl ?_
    exact ⟨_, by first | rfl | (simp [errW_none, errW_some] <;> rfl) | (simp [*, errW_none, errW_some] <;> rfl), by first | exact Kd.R_nil _ _ _ _ _ | exact Kd.N_nil _ _ _ _ _ | exact Kd.V_nil _ _ _ _ _ | exact Kd.Q_nil _ _ _ _ _ | exact Kd.S_nil _ _ _ _ _, by repeat (first | (with_reducible first | exact HB.out | apply below_alloc | apply pw_below_drewN | apply below_drew1 | refine below_set ?_ GE173.out | refine below_set ?_ GE178.out) | exact HB.out)⟩

end Go.Proofs.Yteeegomdaebobaa.PA

-- ---- Ut
/- The document's table, and lists that are one: what the calls come to. -/
namespace Go.Proofs.Yteeegomdaebobaa.PA
set_option maxRecDepth 100000
set_option linter.unusedVariables false
set_option linter.unusedSimpArgs false
open Go.RowKit Go.Proofs.YteeegomdaebobaaW.PrintWords Go.Proofs.YteeegomdaebobaaW.PrintLast Go.Proofs.YteeegomdaebobaaW.PrintMore Nl Sp

theorem shr_pos (x n : Nat) (hn : n ≤ 62) : (shr .i64 (x : Int) (n : Int) > 0) ↔ 2 ^ n ≤ x := by
  rw [shr_nat x n (by omega)]
  have h2 : 0 < 2 ^ n := Nat.pow_pos (by decide)
  constructor
  · intro h
    rcases Nat.lt_or_ge x (2 ^ n) with h1 | h1
    · rw [Nat.div_eq_of_lt h1] at h; simp at h
    · exact h1
  · intro h
    have := (Nat.one_le_div_iff h2).2 h
    omega

/-- The inner loop: how many bits come. -/
theorem tb_l1 (l : List Int) (m : Nat) (hM : MayS l m) (nx : List Int) (out : List S105) (hout : out.length < 5864062014805) (i : Nat) (hi : i < 2 ^ m) (c x : Nat) (hc : (spread l (2 ^ m)).getD i 0 = (c : Int)) (hx0 : 0 < x) (hx1 : x < 2 ^ (m + 1)) (r : List S105 × Int) (z : Int)
    (hn : Ev (fun k => wringerref7_Table.l0 k (m : Int) nx (out ++ [cellS (cellOf m (c : Int) x)]) ((i + 1 : Nat) : Int) (spread l (2 ^ m)) z) r) :
    ∀ (d b : Nat), b = d + (m - Nat.log2 x) → b ≤ m → Ev (fun k => wringerref7_Table.l1 k (m : Int) nx out (i : Int) (x : Int) (b : Int) (spread l (2 ^ m)) z) r := by
  have h12 := hM.hi
  have hlog : Nat.log2 x ≤ m := by
    have h1 := Nat.log2_self_le (n := x) (by omega)
    rcases Nat.lt_or_ge m (Nat.log2 x) with h2 | h2
    · have : 2 ^ (m + 1) ≤ 2 ^ Nat.log2 x := Nat.pow_le_pow_right (by decide) h2
      omega
    · exact h2
  intro d
  induction d with
  | zero =>
    intro b hb hbm
    have e1 : wrap64 (wrap64 ((m : Int) - (b : Int)) + 1) = ((Nat.log2 x + 1 : Nat) : Int) := by
      rw [w64 (x := (m : Int) - (b : Int)) (by omega) (by omega), w64 (by omega) (by omega)]; omega
    have hs : ¬ (shr .i64 (x : Int) ((Nat.log2 x + 1 : Nat) : Int) > 0) := by
      rw [shr_pos x _ (by omega)]; have := Nat.lt_log2_self (n := x); omega
    have hln := length_spread l (2 ^ m)
    have e13 : (2 : Nat) ^ 13 = 8192 := by decide
    have hp13 : 2 ^ (m + 1) ≤ 2 ^ 13 := Nat.pow_le_pow_right (by decide) (by omega)
    have hpm : 2 ^ m ≤ 4096 := by have := pow2_le m 12 h12; omega
    have hb2 : x * 2 ^ b < 2 ^ (m + 1) := by
      have h3 : x * 2 ^ b < 2 ^ (Nat.log2 x + 1) * 2 ^ b := Nat.mul_lt_mul_of_pos_right Nat.lt_log2_self (Nat.pow_pos (by decide))
      rw [← Nat.pow_add, show Nat.log2 x + 1 + b = m + 1 by omega] at h3; exact h3
    have hsh := shl_nat x b (by omega) (by omega)
    have hs1 := shl_1 m (by omega)
    refine Ev.step (f := fun k => wringerref7_Table.l0 k (m : Int) nx (out ++ [cellS (cellOf m (c : Int) x)]) ((i + 1 : Nat) : Int) (spread l (2 ^ m)) z) (fun k => ?_) hn
    simp only [wringerref7_Table.l1]
    rw [e1, if_pos (by omega), if_neg hs, if_pos (by omega), if_pos (by omega), if_pos (by omega), if_pos (by omega), if_pos hout, rd_nat, hc, hsh, hs1, w64 (x := ((x * 2 ^ b : Nat) : Int) - ((2 ^ m : Nat) : Int)) (by omega) (by omega), w64 (by omega) (by omega)]
    have e2 : cellS (cellOf m (c : Int) x) = (⟨(c : Int), (b : Int), ((x * 2 ^ b : Nat) : Int) - ((2 ^ m : Nat) : Int)⟩ : S105) := by
      unfold cellS cellOf
      rw [show m - Nat.log2 x = b by omega]
    rw [e2]; rfl
  | succ d ih =>
    intro b hb hbm
    obtain ⟨b, rfl⟩ : ∃ b', b = b' + 1 := ⟨b - 1, by omega⟩
    have e1 : wrap64 (wrap64 ((m : Int) - ((b + 1 : Nat) : Int)) + 1) = ((m - b : Nat) : Int) := by
      rw [w64 (x := (m : Int) - ((b + 1 : Nat) : Int)) (by omega) (by omega), w64 (by omega) (by omega)]; omega
    have hs : shr .i64 (x : Int) ((m - b : Nat) : Int) > 0 := by
      rw [shr_pos x _ (by omega)]
      exact Nat.le_trans (Nat.pow_le_pow_right (by decide) (by omega)) (Nat.log2_self_le (n := x) (by omega))
    refine Ev.step (f := fun k => wringerref7_Table.l1 k (m : Int) nx out (i : Int) (x : Int) (b : Int) (spread l (2 ^ m)) z) (fun k => ?_) (ih b (by omega) (by omega))
    simp only [wringerref7_Table.l1]
    rw [e1, if_pos (by omega), if_pos hs, w64 (by omega) (by omega)]
    rw [show ((b + 1 : Nat) : Int) - 1 = (b : Int) by omega]

theorem tb_l0 (l : List Int) (m : Nat) (hM : MayS l m) (z : Int) : ∀ (d i : Nat), i + d = 2 ^ m →
    Ev (fun k => wringerref7_Table.l0 k (m : Int) (nexts l ((spread l (2 ^ m)).take i)) ((cells m l ((spread l (2 ^ m)).take i)).map cellS) (i : Int) (spread l (2 ^ m)) z) ((table l m).map cellS, 0) := by
  have hln := length_spread l (2 ^ m)
  have hpm : 2 ^ m ≤ 4096 := by have := pow2_le m 12 hM.hi; omega
  intro d
  induction d with
  | zero =>
    intro i hi
    refine Ev.step (f := fun _ => some ((cells m l ((spread l (2 ^ m)).take i)).map cellS, 0)) (fun k => by simp only [wringerref7_Table.l0]; rw [if_neg (by omega)]) (Ev.ofSome ?_)
    rw [List.take_of_length_le (by omega)]; rfl
  | succ d ih =>
    intro i hi
    obtain ⟨c, x, r, hS, hc65, hnx, hx0, hx1, _, _, _, _⟩ := hM.next i (by omega)
    have htk : (spread l (2 ^ m)).take (i + 1) = (spread l (2 ^ m)).take i ++ [(c : Int)] := by
      rw [List.take_succ_eq_append_getElem (by omega)]
      have e : (spread l (2 ^ m)).getD i 0 = (spread l (2 ^ m))[i]'(by omega) := by simp [List.getD_eq_getElem?_getD, show i < (spread l (2 ^ m)).length by omega]
      rw [← e, hS]
    have ih := ih (i + 1) (by omega)
    rw [htk, nexts_snoc, cells_snoc, Int.toNat_natCast, hnx, Int.toNat_natCast, List.map_append] at ih
    have hnl : (nexts l ((spread l (2 ^ m)).take i)).length = 65 := by rw [length_nexts]; exact hM.len
    have hcl : ((cells m l ((spread l (2 ^ m)).take i)).map cellS).length ≤ 4096 := by rw [List.length_map, length_cells, List.length_take]; omega
    have e13 : (2 : Nat) ^ 13 = 8192 := by decide
    have hp13 : 2 ^ (m + 1) ≤ 2 ^ 13 := Nat.pow_le_pow_right (by decide) (by have := hM.hi; omega)
    have h1 := tb_l1 l m hM (bump (nexts l ((spread l (2 ^ m)).take i)) c 1) ((cells m l ((spread l (2 ^ m)).take i)).map cellS) (by omega) i (by omega) c x hS hx0 hx1 _ z ih (Nat.log2 x) m (by
      have h1 := Nat.log2_self_le (n := x) (by omega)
      rcases Nat.lt_or_ge m (Nat.log2 x) with h2 | h2
      · have : 2 ^ (m + 1) ≤ 2 ^ Nat.log2 x := Nat.pow_le_pow_right (by decide) h2
        omega
      · omega) (Nat.le_refl _)
    refine Ev.step (f := fun k => wringerref7_Table.l1 k (m : Int) (bump (nexts l ((spread l (2 ^ m)).take i)) c 1) ((cells m l ((spread l (2 ^ m)).take i)).map cellS) (i : Int) (x : Int) (m : Int) (spread l (2 ^ m)) z) (fun k => ?_) h1
    simp only [wringerref7_Table.l0]
    rw [if_pos (by omega), if_pos (by omega), rd_nat, hS, if_pos (by omega), if_pos (by omega), rd_nat, hnx, w64 (by omega) (by omega), Int.toNat_natCast]
    have e3 : bump (nexts l ((spread l (2 ^ m)).take i)) c 1 = (nexts l ((spread l (2 ^ m)).take i)).set c ((x : Int) + 1) := by unfold bump; rw [hnx]
    rw [e3]
theorem rtable_is (l : List Int) (hl : l.length < 17592186044416) (a : Int) : Ev (fun k => wringerref7_Table.f k l a) (tableE l a) := by
  unfold wringerref7_Table.f
  refine Ev.bind (rspread_is l a) ?_
  unfold spreadE tableE
  by_cases h : mayN l a = true
  · obtain ⟨m, rfl, hm⟩ := (may_iff l a).1 h
    rw [if_pos h, if_pos h, Int.toNat_natCast]
    refine Ev.ite_pos rfl ?_
    refine Ev.bind0 (a := ([] : List Int)) rfl ?_
    refine Ev.ite_pos (by simp; omega) ?_
    have := tb_l0 l m (mayS_of h) 0 (2 ^ m) 0 (by omega)
    exact Ev.congr (fun k => rfl) this
  · rw [if_neg h, if_neg h]
    exact Ev.ite_neg (by decide) (Ev.now _)
end Go.Proofs.Yteeegomdaebobaa.PA

-- ---- PAx55

namespace Go.Proofs.Yteeegomdaebobaa.PA
open Go.RowKit Go.Proofs.YteeegomdaebobaaW.PrintWords Go.Proofs.YteeegomdaebobaaW.PrintLast Go.Proofs.YteeegomdaebobaaW.PrintMore
attribute [local go_sem] max2_int min2_int max_two min_two max_three min_three max_four min_four   -- for this text's walks alone
set_option linter.unusedVariables false
set_option linter.unusedSimpArgs false

/-! ### wringerref1_MayPart: function 41 -/
def wringerref1_MayPart.j0 : Nat → Bool → Int → Int → Option (Bool)
  | 0, _, _, _ => none
  | k + 1, x10, x195000, x195001 => if x10 = true then (some false) else (if x195000 < 2 then (some (x195001 == 0)) else (if 0 ≤ (wrap64 (x195000 - 1)) then (some ((shr .u64 x195001 (wrap64 (x195000 - 1))) == 0)) else (none)))
def wringerref1_MayPart.f (k : Nat) (a0_0 : Int) (a0_1 : Int) : Option (Bool) := if a0_0 < 0 then (wringerref1_MayPart.j0 k true a0_0 a0_1) else (wringerref1_MayPart.j0 k (decide (a0_0 > 64)) a0_0 a0_1)
theorem wringerref1_MayPart.mono_l : ∀ k, (∀ y0 y1 y2, LeO (wringerref1_MayPart.j0 k y0 y1 y2) (wringerref1_MayPart.j0 (k + 1) y0 y1 y2))
  | 0 => fun _ _ _ r h => by simp [wringerref1_MayPart.j0] at h
  | k + 1 => by
    have ih0 := wringerref1_MayPart.mono_l k
    · intro y0 y1 y2
      unfold wringerref1_MayPart.j0
      repeat' first
      | (with_reducible exact ih0 _ _ _)
      | (with_reducible exact LeO.refl _)
      | (with_reducible exact LeO.none _)
      | (with_reducible refine LeO.ite ?_ ?_)
      | (with_reducible refine LeO.bind ?_ (fun _ => ?_))
      | exact ih0 _ _ _
      | exact LeO.none _
      | refine LeO.ite ?_ ?_
      | refine LeO.bind ?_ (fun _ => ?_)
theorem wringerref1_MayPart.mono : ∀ a0 a1 k, LeO (wringerref1_MayPart.f k a0 a1) (wringerref1_MayPart.f (k + 1) a0 a1) := by
  intro a0 a1 k
  have ih0 := wringerref1_MayPart.mono_l k
  unfold wringerref1_MayPart.f
  repeat' first
      | (with_reducible exact ih0 _ _ _)
      | (with_reducible exact LeO.refl _)
      | (with_reducible exact LeO.none _)
      | (with_reducible refine LeO.ite ?_ ?_)
      | (with_reducible refine LeO.bind ?_ (fun _ => ?_))
      | exact ih0 _ _ _
      | exact LeO.none _
      | refine LeO.ite ?_ ?_
      | refine LeO.bind ?_ (fun _ => ?_)
set_option maxHeartbeats 8000000 in
set_option maxRecDepth 100000 in
theorem wringerref1_MayPart.calls (k : Nat) (a0_0 : Int) (a0_1 : Int) (r : Bool) (w : World) (h : wringerref1_MayPart.f k a0_0 a0_1 = some r) :
    Calls Try.prog 41 #[.agg #[.int .i64 a0_0, .int .u64 a0_1]] w fun e w' => e = .returned (.bool r) ∧ Below w.heap.size w w' := by
  have hu58 := Try.underlying58
  have HB := Aside0.mk (Below.refl w.heap.size w)
  have H : (if a0_0 < 0 then (wringerref1_MayPart.j0 k true a0_0 a0_1) else (wringerref1_MayPart.j0 k (decide (a0_0 > 64)) a0_0 a0_1)) = some r := h
  clear h
  have HC2 := Aside0.mk H
  clear H
  go_enter Try.func41, Try.ntmps41
  go_upto_region 1 with (first | ((with_reducible refine gate_dst (N := 1) rfl ?_); refine box_event ?hg (N := 1) ?hd (cs := #[.int .i64 a0_0, .int .u64 a0_1]) (t := 58) ?hr ?_; (case hd => rfl); (case hg => rfl); (case hr => first | (go_simp; done) | (go_simp; rfl)); intro gb194 hg w3 hbox hb; have n0_ := Aside0.mk (below_step (by repeat (first | (with_reducible first | exact HB.out | apply below_alloc | apply pw_below_drewN | apply below_drew1) | exact HB.out)) hb); have n1_ := Aside0.mk (hbox); have n2_ := Aside0.mk ((by rw [hg]; exact (below_size (by repeat (first | (with_reducible first | exact HB.out | apply below_alloc | apply pw_below_drewN | apply below_drew1) | exact HB.out))) : w.heap.size ≤ gb194)); have n3_ := Aside0.mk ((by rw [hg]; exact (below_size (by repeat (first | (with_reducible first | exact HB.out | apply below_alloc | apply pw_below_drewN | apply below_drew1) | exact HB.out))) : w.heap.size ≤ gb194)); clear HB; have HB := n0_; have BK194 := n1_; have GW194 := n2_; have GE194 := n3_; clear n0_ n1_ n2_ n3_; clear hb hbox hg))
  (try simp only [Act.put, List.setIfInBounds_toArray, List.set_cons_zero, List.set_cons_succ])
  go_cut [10] (fun v10 wc => ∃ (kq : Nat) (x10_1 : Bool), v10 = .bool x10_1 ∧ Aside0 (wringerref1_MayPart.j0 kq x10_1 a0_0 a0_1 = some r) ∧ Aside0 (kq ≤ k) ∧ Aside0 (wc.heap[gb194]? = some (.cells #[.int .i64 a0_0, .int .u64 a0_1] 58 (0, 0))) ∧ Aside0 (Below w.heap.size w wc))
  case first =>
    have H := HC2.out
    clear HC2
    by_cases c4 : a0_0 < 0
    · rw [if_pos c4] at H
      have c4b0 : decide (a0_0 < 0) = true := decide_eq_true c4
      clear c4
      (first | rw [c4b0] | (simp only [i64_w, i32_w]; rw [c4b0]) | skip)
      have H' := Aside0.mk H
      clear H
      have hcz5_0 : w3.cell? ⟨gb194, 0, none⟩ = some (.int .i64 a0_0) := (blk_cell BK194.out 0).trans rfl
      have hcz5_1 : w3.cell? ⟨gb194, 1, none⟩ = some (.int .u64 a0_1) := (blk_cell BK194.out 1).trans rfl
      have hfz5_0 := blk_frozen BK194.out 0
      have hfz5_1 := blk_frozen BK194.out 1
      go_wp2
      go_meet
      case rel => exact ⟨_, (true), (by first | rfl | (simp; done) | (simp [*]; done)), H', ⟨by first | omega | exact Nat.le_refl _⟩, ⟨by (with_reducible repeat (first | refine blk_drewN ?_ _ | refine blk_drew ?_ | refine blk_alloc ?_ _)); exact BK194.out⟩, ⟨by repeat (first | (with_reducible first | exact HB.out | apply below_alloc | apply pw_below_drewN | apply below_drew1 | refine below_set ?_ GE194.out) | exact HB.out)⟩⟩
    · rw [if_neg c4] at H
      have c4b0 : decide (a0_0 < 0) = false := decide_eq_false c4
      clear c4
      (first | rw [c4b0] | (simp only [i64_w, i32_w]; rw [c4b0]) | skip)
      have H' := Aside0.mk H
      clear H
      have hcz6_0 : w3.cell? ⟨gb194, 0, none⟩ = some (.int .i64 a0_0) := (blk_cell BK194.out 0).trans rfl
      have hcz6_1 : w3.cell? ⟨gb194, 1, none⟩ = some (.int .u64 a0_1) := (blk_cell BK194.out 1).trans rfl
      have hfz6_0 := blk_frozen BK194.out 0
      have hfz6_1 := blk_frozen BK194.out 1
      go_wp2
      go_meet
      case rel => exact ⟨_, (decide (a0_0 > 64)), (by first | rfl | (simp; done) | (simp [*]; done)), H', ⟨by first | omega | exact Nat.le_refl _⟩, ⟨by (with_reducible repeat (first | refine blk_drewN ?_ _ | refine blk_drew ?_ | refine blk_alloc ?_ _)); exact BK194.out⟩, ⟨by repeat (first | (with_reducible first | exact HB.out | apply below_alloc | apply pw_below_drewN | apply below_drew1 | refine below_set ?_ GE194.out) | exact HB.out)⟩⟩
  case rest =>
    clear HC2
    try clear p2
    try clear c4
    try clear c4b0
    try clear hcz5_0
    try clear hcz5_1
    try clear hcz6_0
    try clear hcz6_1
    try clear hfz5_0
    try clear hfz5_1
    try clear hfz6_0
    try clear hfz6_1
    obtain ⟨kq, x10_1, rfl, HA, HJ1, BK194, HB⟩ := hcut
    cases kq with
    | zero => exact absurd HA.out (by simp [wringerref1_MayPart.j0])
    | succ kj1 =>
      have H := HA.out
      clear HA
      simp only [wringerref1_MayPart.j0] at H
      by_cases c7 : x10_1 = true
      · subst c7
        have H1 : (some false) = some r := by rw [if_pos rfl] at H; exact H
        clear H
        have H := H1
        clear H1
        obtain rfl := Option.some.inj H
        go_wp2
        go_ret
        exact ⟨by first | rfl | (simp [errW_none, errW_some] <;> rfl) | (simp [*, errW_none, errW_some] <;> rfl), by repeat (first | (with_reducible first | exact HB.out | apply below_alloc | apply pw_below_drewN | apply below_drew1 | refine below_set ?_ GE194.out) | exact HB.out)⟩
      · replace c7 := Bool.eq_false_iff.mpr c7
        subst c7
        have H1 : (if a0_0 < 2 then (some (a0_1 == 0)) else (if 0 ≤ (wrap64 (a0_0 - 1)) then (some ((shr .u64 a0_1 (wrap64 (a0_0 - 1))) == 0)) else (none))) = some r := by rw [if_neg (show ¬ (false = true) by decide)] at H; exact H
        clear H
        have H := H1
        clear H1
        by_cases c8 : a0_0 < 2
        · rw [if_pos c8] at H
          have c8b0 : decide (a0_0 < 2) = true := decide_eq_true c8
          clear c8
          obtain rfl := Option.some.inj H
          have hcz9_0 : wc.cell? ⟨gb194, 0, none⟩ = some (.int .i64 a0_0) := (blk_cell BK194.out 0).trans rfl
          have hcz9_1 : wc.cell? ⟨gb194, 1, none⟩ = some (.int .u64 a0_1) := (blk_cell BK194.out 1).trans rfl
          have hfz9_0 := blk_frozen BK194.out 0
          have hfz9_1 := blk_frozen BK194.out 1
          go_wp2
          go_ret
          exact ⟨by first | rfl | (simp [errW_none, errW_some] <;> rfl) | (simp [*, errW_none, errW_some] <;> rfl), by repeat (first | (with_reducible first | exact HB.out | apply below_alloc | apply pw_below_drewN | apply below_drew1 | refine below_set ?_ GE194.out) | exact HB.out)⟩
        · rw [if_neg c8] at H
          have c8b0 : decide (a0_0 < 2) = false := decide_eq_false c8
          clear c8
          obtain ⟨ji10, hji10⟩ : ∃ j_ : Int, (wrap64 (a0_0 - 1)) = j_ := ⟨_, rfl⟩
          replace H : (if 0 ≤ (ji10) then (some ((shr .u64 a0_1 (ji10)) == 0)) else (none)) = some r := by first | (rw [hji10] at H; exact H) | (simp only [hji10] at H ⊢; exact H)
          have hji10w : (IntKind.i64.wrap (a0_0 - 1)) = ji10 := (i64_w _).trans hji10
          by_cases c11 : 0 ≤ (ji10)
          · rw [if_pos c11] at H
            have c11b0 := eq_true c11
            have c11b1 : decide (0 ≤ (ji10)) = true := decide_eq_true c11
            clear c11
            obtain ⟨ji12, hji12⟩ : ∃ j_ : Int, (shr .u64 a0_1 (ji10)) = j_ := ⟨_, rfl⟩
            replace H : (some ((ji12) == 0)) = some r := by first | (rw [hji12] at H; exact H) | (simp only [hji12] at H ⊢; exact H)
            have hji12_ : (a0_1 / 2 ^ min (ji10).toNat 64) = ji12 := hji12
            have hji12z : (ji10) ≤ 64 → (a0_1 / 2 ^ (ji10).toNat) = ji12 := shr_small hji12
            obtain rfl := Option.some.inj H
            have hcz13_0 : wc.cell? ⟨gb194, 0, none⟩ = some (.int .i64 a0_0) := (blk_cell BK194.out 0).trans rfl
            have hcz13_1 : wc.cell? ⟨gb194, 1, none⟩ = some (.int .u64 a0_1) := (blk_cell BK194.out 1).trans rfl
            have hfz13_0 := blk_frozen BK194.out 0
            have hfz13_1 := blk_frozen BK194.out 1
            go_wp2
            go_ret
            exact ⟨by first | rfl | (simp [errW_none, errW_some] <;> rfl) | (simp only [← hji10, ← hji12]; first | rfl | (simp [errW_none, errW_some] <;> rfl)) | (simp [*, errW_none, errW_some] <;> rfl), by repeat (first | (with_reducible first | exact HB.out | apply below_alloc | apply pw_below_drewN | apply below_drew1 | refine below_set ?_ GE194.out) | exact HB.out)⟩
          · rw [if_neg c11] at H
            exact absurd H (by simp)

end Go.Proofs.Yteeegomdaebobaa.PA

-- ---- Ump
/- The document's test of a part: what the print's function comes to. No program in sight. -/
namespace Go.Proofs.Yteeegomdaebobaa.PA
set_option maxRecDepth 100000
set_option linter.unusedVariables false
set_option linter.unusedSimpArgs false
open Go.RowKit Go.Proofs.YteeegomdaebobaaW.PrintWords Go.Proofs.YteeegomdaebobaaW.PrintLast Go.Proofs.YteeegomdaebobaaW.PrintMore
open Zig

theorem shr_u64 (x k : Nat) (hx : x < 18446744073709551616) (hk : k ≤ 64) : shr .u64 (x : Int) (k : Int) = ((x / 2 ^ k : Nat) : Int) := by
  unfold shr
  have e : min ((k : Int).toNat) (IntKind.bits .u64) = k := by simp [IntKind.bits]; omega
  rw [e]
  have e2 : (x : Int) / 2 ^ k = ((x / 2 ^ k : Nat) : Int) := by simp
  first | exact e2 | (rw [e2])
theorem wringerref1_MayPart.is (c : Int) (r : Nat) (h0 : -9223372036854775808 ≤ c) (h1 : c ≤ 9223372036854775807) (hr : r < 18446744073709551616) : Ev (fun k => wringerref1_MayPart.f k c (r : Int)) (may c r) := by
  unfold wringerref1_MayPart.f
  have bad : may c r = false → Ev (fun k => wringerref1_MayPart.j0 k true c (r : Int)) (may c r) := fun hm =>
    Ev.step (f := fun _ => some false) (fun k => by simp [wringerref1_MayPart.j0]) (Ev.ofSome hm.symm)
  by_cases hc : c < 0
  · exact Ev.ite_pos hc (bad (by unfold may; simp; omega))
  · refine Ev.ite_neg hc ?_
    by_cases hc2 : c > 64
    · rw [show decide (c > 64) = true from decide_eq_true hc2]; exact bad (by unfold may; simp; omega)
    · rw [show decide (c > 64) = false from decide_eq_false hc2]
      obtain ⟨n, rfl⟩ := Int.eq_ofNat_of_zero_le (show 0 ≤ c by omega)
      by_cases hn : (n : Int) < 2
      · refine Ev.step (f := fun _ => some ((r : Int) == 0)) (fun k => by simp only [wringerref1_MayPart.j0, Bool.false_eq_true, if_false]; rw [if_pos hn]) (Ev.ofSome ?_)
        rcases (show n = 0 ∨ n = 1 by omega) with rfl | rfl
        · unfold may; rw [if_pos (by omega)]; rw [Bool.eq_iff_iff]; simp
        · rw [may_top 1 r (by omega) (by omega), Bool.eq_iff_iff]; simp
      · have ew : wrap64 ((n : Int) - 1) = ((n - 1 : Nat) : Int) := by rw [w64 (by omega) (by omega)]; omega
        refine Ev.step (f := fun _ => some (((r / 2 ^ (n - 1) : Nat) : Int) == 0)) (fun k => by simp only [wringerref1_MayPart.j0, Bool.false_eq_true, if_false]; rw [if_neg hn, ew, if_pos (by omega), shr_u64 _ _ hr (by omega)]) (Ev.ofSome ?_)
        have hp : 0 < 2 ^ (n - 1) := Nat.pow_pos (by decide)
        rw [may_top n r (by omega) (by omega), Bool.eq_iff_iff, beq_iff_eq, decide_eq_true_eq]
        generalize 2 ^ (n - 1) = P at *
        constructor
        · intro h; exact (Nat.div_eq_zero_iff.1 (by omega)).resolve_left (by omega)
        · intro h; rw [Nat.div_eq_of_lt h]; rfl
end Go.Proofs.Yteeegomdaebobaa.PA

-- ---- Sqa
/- The document's states: what its calls rest on. Conditions: those that each theorem names. -/
namespace Go.Proofs.Yteeegomdaebobaa.St
set_option maxRecDepth 100000
set_option linter.unusedSimpArgs false
set_option linter.unusedVariables false
open Go.RowKit Go.Proofs.YteeegomdaebobaaW.PrintWords Go.Proofs.YteeegomdaebobaaW.PrintLast Go.Proofs.YteeegomdaebobaaW.PrintMore PA Mix _root_.Go.Proofs.Yteeegomdaebobaa.Own Bits Nl Sp
attribute [local go_sem] Own.max_int Own.min_int

/-! ### A Row of the call's own -/
theorem rrow_apart {B : Nat} {w : World} {p : Nat} {v : Value} {l : List Bool} (h : NewR B w p v l) {g : Nat} {cs : Array Value} {t : TypeId} (hb : Blk w g cs t) (h1 : t ≠ 101) (h2 : (5 : TypeId) ≠ t) : ¬ (g = p ∨ some g = v.ownBlock) := by
  rintro (hh | hh)
  · exact Blk.ne hb h.is.blk h1 hh
  · exact h.is.row.ne hb h2 hh.symm
theorem rput_chg (B p : Nat) (v : Value) (l : List Bool) (x : Nat) (n : Int) (w : World) (hB : B ≤ w.heap.size) (hW : NewR B w p v l) (hl : l.length < 1000000000000) (hx : x < 18446744073709551616) (hn0 : -9223372036854775808 ≤ n) (hn1 : n ≤ 9223372036854775807) :
    Calls Try.prog 70 #[.pointer (some ⟨p, 0, none⟩), .int .u64 (x : Int), .int .i64 n] w fun e w' => e = .returned (.tuple #[]) ∧ ∃ v', NewR B w' p v' (l ++ bitsOf x (clamp n)) ∧ Below B w w' ∧ Chg (fun k => k = p ∨ some k = v.ownBlock) w w' :=
  (rput_calls p v l x n w hW.is hl hx hn0 hn1).mono fun e w' ⟨he, v', h1, h2, h3⟩ => ⟨he, v', ⟨h1, hW.at_, fun g hg => by
      rcases h3 g hg with h | h
      · exact hW.row g h.symm
      · omega⟩, h2.below hB (fun k hk h => by
      rcases h with h | h
      · have := hW.at_; omega
      · have := hW.row k h.symm; omega), h2⟩
set_option maxHeartbeats 2000000 in
/-- One part's rest. -/
theorem rrest_calls (B p : Nat) (v : Value) (l : List Bool) (c r : Nat) (w : World) (hB : B ≤ w.heap.size) (hW : NewR B w p v l) (hl : l.length < 1000000000000) (hx : r < 18446744073709551616) (hc : c ≤ 64) :
    Calls Try.prog 42 #[.pointer (some ⟨p, 0, none⟩), .agg #[.int .i64 (c : Int), .int .u64 (r : Int)]] w fun e w' => e = .returned (.tuple #[]) ∧ ∃ v', NewR B w' p v' (l ++ bitsOf r (c - 1)) ∧ Below B w w' ∧ Chg (fun k => k = p ∨ some k = v.ownBlock) w w' := by
  have emx : Own.mx 0 ((c : Int) - 1) = ((c - 1 : Nat) : Int) := by rw [Own.mx_eq]; omega
  have ecl : clamp ((c - 1 : Nat) : Int) = c - 1 := by unfold clamp; omega
  have HW := kept hW
  have HL := kept hl
  have HBs := kept hB
  have ECl := kept ecl
  clear hW hl hB ecl
  go_enter Try.func42, Try.ntmps42
  go_wp2_with fail
  generalize hw1 : World.alloc w _ = w1
  have hal : Below w.heap.size w w1 := by rw [← hw1]; exact (Below.refl _ _).alloc (Nat.le_refl _) _
  have HB1 := kept (hal.mono HBs.out)
  have HC1 := kept (Chg.of_below (S := fun k => k = p ∨ some k = v.ownBlock) hal)
  have hP := kept (rput_chg B p v l r ((c - 1 : Nat) : Int) w1 (Nat.le_trans HBs.out hal.size) (HW.out.later hal) HL.out hx (by omega) (by omega))
  rw [ECl.out] at hP
  clear hw1 hal
  refine hP.out.mono ?_
  rintro e w2 ⟨rfl, v2, hW2, hb2, hc2⟩
  have HW2 := kept hW2
  have HB2 := kept (HB1.out.trans hb2)
  have HC2 := kept (HC1.out.trans hc2 (fun _ _ h => h))
  clear hW2 hb2 hc2
  go_wp2_with fail
  go_end0
  exact ⟨rfl, v2, HW2.out, HB2.out, HC2.out⟩

/-! ### The document's table -/
theorem flT_of (cs : List (Int × Int × Int)) : ∀ (inner : List Value), inner.length = cs.length * 3 → (∀ i p, (cs.map cellS)[i]? = some p → (inner.drop (i * 3)).take 3 = [.int .i64 p.f0, .int .i64 p.f1, .int .i64 p.f2]) → inner = cs.flatMap cV := by
  induction cs with
  | nil => intro inner hl _; exact List.length_eq_zero_iff.1 (by simpa using hl)
  | cons a t ih =>
    intro inner hl h
    have h0 := h 0 (cellS a) rfl
    rw [Nat.zero_mul, List.drop_zero] at h0
    have e := List.take_append_drop 3 inner
    rw [h0] at e
    have := ih (inner.drop 3) (by simp at hl ⊢; omega) (fun i p hp => by
      have := h (i + 1) p (by simpa using hp)
      rw [List.drop_drop, show 3 + i * 3 = (i + 1) * 3 by omega]; exact this)
    rw [this] at e
    exact e.symm
theorem ownT_of_R {e : TypeId} {w : World} {base : Nat} {ok : Nat → Prop} {v : Value} {cs : List (Int × Int × Int)} (h : Kd.R k105 e w base ok v (cs.map cellS)) : OwnK w e 3 v cs.length (cs.flatMap cV) ∧ ∀ g, v.ownBlock = some g → base ≤ g := by
  obtain ⟨_, inner, ho, hl, hr⟩ := h
  rw [List.length_map] at hl ho
  have e1 : inner = cs.flatMap cV := flT_of cs inner hl (fun i p hp => k105_openM (hr i p hp))
  rw [e1] at ho
  refine ⟨⟨ho.1, ?_⟩, fun g hg => ?_⟩
  · rcases ho.2 with hn | ⟨g, cap, cur, rfl, hb, r⟩
    · exact .inl hn
    · exact .inr ⟨g, cap, cur, rfl, Nat.zero_le _, r⟩
  · rcases ho.2 with ⟨rfl, _⟩ | ⟨g', cap, cur, rfl, hb, r⟩
    · simp [Value.ownBlock] at hg
    · simp [Value.ownBlock] at hg; rw [← hg]; exact hb
/-- A table at block g. -/
def IsTab (w : World) (g ct : Nat) (l : List Int) (m : Nat) : Prop := OwnK w 105 3 (.slice (some ⟨g, 0, none⟩) (2 ^ m) ct) (2 ^ m) ((table l m).flatMap cV)
theorem rtab_ok (A0 : Option Addr) (c0 : Nat) (l : List Int) (m : Nat) (w : World) (hr0 : Kd.C (Kd.int .i64) w A0 l.length l) (hc0 : l.length ≤ c0) (hm : mayN l (m : Int) = true) :
    Calls Try.prog 40 #[.slice A0 l.length c0, .int .i64 (m : Int)] w fun e w' => ∃ g ct, e = .returned (.agg #[.slice (some ⟨g, 0, none⟩) (2 ^ m) ct, .int .i64 0]) ∧ IsTab w' g ct l m ∧ w.heap.size ≤ g ∧ Below w.heap.size w w' := by
  have hl := (mayS_of hm).len
  obtain ⟨k, hk⟩ := (rtable_is l (by omega) (m : Int)).rounds
  have ht : tableE l (m : Int) = ((table l m).map cellS, 0) := by unfold tableE; rw [if_pos hm, Int.toNat_natCast]
  rw [ht] at hk
  refine (wringerref7_Table.calls k A0 c0 l (m : Int) _ 0 w hr0 hc0 hk).mono ?_
  rintro e w' ⟨v, rfl, hR, hb⟩
  obtain ⟨ho, hnew⟩ := ownT_of_R hR
  rw [length_table] at ho
  obtain ⟨a, ct, rfl, _, _, hg⟩ := ho.slice
  obtain ⟨g, rfl⟩ := hg (Nat.pow_pos (by decide))
  exact ⟨g, ct, rfl, ho, hnew g rfl, hb⟩
theorem rtab_bad (A0 : Option Addr) (c0 : Nat) (l : List Int) (a : Int) (w : World) (hl : l.length < 17592186044416) (hr0 : Kd.C (Kd.int .i64) w A0 l.length l) (hc0 : l.length ≤ c0) (hm : mayN l a = false) :
    Calls Try.prog 40 #[.slice A0 l.length c0, .int .i64 a] w fun e w' => ∃ g n ct, e = .returned (.agg #[.slice g n ct, .int .i64 3]) ∧ Below w.heap.size w w' := by
  obtain ⟨k, hk⟩ := (rtable_is l hl a).rounds
  have ht : tableE l a = ([], 3) := by unfold tableE; rw [hm]; rfl
  rw [ht] at hk
  refine (wringerref7_Table.calls k A0 c0 l a _ 3 w hr0 hc0 hk).mono ?_
  rintro e w' ⟨v, rfl, hR, hb⟩
  obtain ⟨g, ct, rfl⟩ := Kd.R_slice hR
  exact ⟨g, _, ct, rfl, hb⟩
theorem IsTab.later {w w' : World} {g ct : Nat} {l : List Int} {m : Nat} (h : IsTab w g ct l m) (hb : Below w.heap.size w w') : IsTab w' g ct l m := OwnK.later h hb
/-- What a part's cell tells. -/
theorem IsTab.at_ {w : World} {g ct : Nat} {l : List Int} {m : Nat} (h : IsTab w g ct l m) (hM : MayS l m) {j : Nat} (hj : j < 2 ^ m) :
    w.cell? ⟨g, j * 3, none⟩ = some (.int .i64 (tC l m j : Int)) ∧ w.cell? ⟨g, j * 3 + 1, none⟩ = some (.int .i64 (tB l m j : Int)) ∧ w.cell? ⟨g, j * 3 + 2, none⟩ = some (.int .i64 (tS l m j : Int)) := by
  obtain ⟨a1, a2, a3⟩ := cV_at (table l m) j (by rw [length_table]; exact hj)
  rw [(t_bounds hM hj).2.2.2.2] at a1 a2 a3
  exact ⟨OwnK.cell h a1, OwnK.cell h a2, OwnK.cell h a3⟩
end Go.Proofs.Yteeegomdaebobaa.St

-- ---- Sqb
/- wringerref7.PutStates: the bytes of parts: what the call answers. Conditions: those that each theorem names. -/
namespace Go.Proofs.Yteeegomdaebobaa.St
set_option maxRecDepth 100000
set_option linter.unusedSimpArgs false
set_option linter.unusedVariables false
open Go.RowKit Go.Proofs.YteeegomdaebobaaW.PrintWords Go.Proofs.YteeegomdaebobaaW.PrintLast Go.Proofs.YteeegomdaebobaaW.PrintMore PA Mix _root_.Go.Proofs.Yteeegomdaebobaa.Own Bits Nl Sp Vt Np
attribute [local go_sem] Own.max_int Own.min_int

/-- A text that is answered: put at its cell, given back. -/
theorem text_set {w : World} {pt : Nat} {t : ByteArray} {e : Int} (h : Blk w pt #[.string ⟨#[]⟩, .int .i64 0] 46) :
    Blk ((w.setCell ⟨pt, 0, none⟩ (.string t)).setCell ⟨pt, 1, none⟩ (.int .i64 e)) pt #[.string t, .int .i64 e] 46 := by
  have h := (h.set 0 (.string t)).set 1 (.int .i64 e)
  simpa using h

set_option maxHeartbeats 2000000 in
theorem rsput_form (A0 : Option Addr) (n0 c0 : Nat) (A1 : Option Addr) (c1 : Nat) (L : List Int) (lg : Int) (ps : List (Int × Nat)) (w : World) (hL : L.length < 17592186044416) (hr1 : Kd.C (Kd.int .i64) w A1 L.length L) (hc1 : L.length ≤ c1) (hm : mayN L lg = false) :
    Calls Try.prog 18 #[.slice A0 n0 c0, .slice A1 L.length c1, .int .i64 lg] w fun e w' => e = .returned (.agg #[.string (putSE L lg ps).1, .int .i64 (putSE L lg ps).2]) ∧ Below w.heap.size w w' := by
  have hg : putSE L lg ps = (⟨#[]⟩, 3) := by unfold putSE; rw [hm]; rfl
  rw [hg]
  have HC := kept (fun wx (hC : Kd.C (Kd.int .i64) wx A1 L.length L) => rtab_bad A1 c1 L lg wx hL hC hc1 hm)
  have HR := kept hr1
  obtain ⟨l, hl⟩ : ∃ l, l = L.length := ⟨_, rfl⟩
  rw [← hl] at HC HR ⊢
  clear hr1 hc1 hm hg hl hL
  go_enter Try.func18, Try.ntmps18
  go_wp2_with fail
  generalize hw1 : World.alloc w _ = w1
  obtain ⟨pt, hpt⟩ : ∃ pt, pt = w.heap.size := ⟨_, rfl⟩
  have hal : Below w.heap.size w w1 := by rw [← hw1]; exact (Below.refl _ _).alloc (Nat.le_refl _) _
  have HT1 : Own.Kept (Blk w1 pt #[.string ⟨#[]⟩, .int .i64 0] 46) := kept (by rw [hpt, ← hw1]; exact Blk.fresh _ _ _)
  have HB1 := kept hal
  have HPt : Own.Kept (w.heap.size ≤ pt) := kept (Nat.le_of_eq hpt.symm)
  rw [← hpt]
  clear hw1 hal hpt
  refine (HC.out w1 (Kd.C_below HR.out HB1.out)).mono ?_
  rintro e w2 ⟨g, n, ct, rfl, hb2⟩
  have HT2 : Own.Kept (Blk w2 pt #[.string ⟨#[]⟩, .int .i64 0] 46) := kept ((hb2.block pt (Blk.lt HT1.out)).trans HT1.out)
  have HB2 := kept (HB1.out.trans (hb2.mono HB1.out.size))
  clear hb2
  go_upto_region 3 with fail
  generalize hw3 : World.alloc w2 _ = w3
  have hal : Below w2.heap.size w2 w3 := by rw [← hw3]; exact (Below.refl _ _).alloc (Nat.le_refl _) _
  have HT3 : Own.Kept (Blk w3 pt #[.string ⟨#[]⟩, .int .i64 0] 46) := kept ((hal.block pt (Blk.lt HT2.out)).trans HT2.out)
  have HB3 := kept (HB2.out.trans (hal.mono HB2.out.size))
  have c0 : w3.cell? ⟨pt, 0, none⟩ = some (.string ⟨#[]⟩) := Blk.cell HT3.out rfl
  have c1 : w3.cell? ⟨pt, 1, none⟩ = some (.int .i64 0) := Blk.cell HT3.out rfl
  have f0 : w3.frozen? ⟨pt, 0, none⟩ = false := Blk.free HT3.out 0
  have f1 : w3.frozen? ⟨pt, 1, none⟩ = false := Blk.free HT3.out 1
  clear hw3 hal
  go_wp2_with fail
  have hBz := text_set (t := ⟨#[]⟩) (e := 3) HT3.out
  have hCz : Below w.heap.size w ((w3.setCell ⟨pt, 0, none⟩ (.string ⟨#[]⟩)).setCell ⟨pt, 1, none⟩ (.int .i64 3)) := (HB3.out.setCell (p := ⟨pt, 0, none⟩) HPt.out _).setCell (p := ⟨pt, 1, none⟩) HPt.out _
  generalize World.setCell _ _ _ = wz at hBz hCz ⊢
  have z0 : wz.cell? ⟨pt, 0, none⟩ = some (.string ⟨#[]⟩) := Blk.cell hBz rfl
  have z1 : wz.cell? ⟨pt, 1, none⟩ = some (.int .i64 3) := Blk.cell hBz rfl
  refine bodyPost_ret (v := .agg #[.string ⟨#[]⟩, .int .i64 3]) (by simp [results, Try.results18, go_sem, z0, z1]) rfl ?_
  exact ⟨rfl, hCz⟩

/-- On the way: the answer's cell at pt, the table's at pk, the row at pr. -/
structure StQ (B : Nat) (w wr : World) (pt pk pr g ct : Nat) (v : Value) (bs : List Bool) (L : List Int) (m : Nat) : Prop where
  row : NewR B wr pr v bs
  txt : Blk wr pt #[.string ⟨#[]⟩, .int .i64 0] 46
  cel : Blk wr pk #[.slice (some ⟨g, 0, none⟩) (2 ^ m) ct, .int .i64 0] 97
  tab : IsTab wr g ct L m
  low : Below B w wr
  sz : B ≤ wr.heap.size
section
variable {B : Nat} {w wr w' : World} {pt pk pr g ct : Nat} {v v' : Value} {bs bs' : List Bool} {L : List Int} {m : Nat}
theorem StQ.later (h : StQ B w wr pt pk pr g ct v bs L m) (hb : Below wr.heap.size wr w') : StQ B w w' pt pk pr g ct v bs L m :=
  ⟨h.row.later hb, (hb.block pt (Blk.lt h.txt)).trans h.txt, (hb.block pk (Blk.lt h.cel)).trans h.cel, h.tab.later hb, h.low.trans (hb.mono h.sz), Nat.le_trans h.sz hb.size⟩
theorem StQ.put (h : StQ B w wr pt pk pr g ct v bs L m) (hr : NewR B w' pr v' bs') (hb : Below B wr w') (hc : Chg (fun k => k = pr ∨ some k = v.ownBlock) wr w') : StQ B w w' pt pk pr g ct v' bs' L m :=
  ⟨hr, hc.keep h.txt (rrow_apart h.row h.txt (by decide) (by decide)), hc.keep h.cel (rrow_apart h.row h.cel (by decide) (by decide)), OwnK.chg h.tab hc (fun g hg => by
    obtain ⟨cur, hcur⟩ := OwnK.blk h.tab g hg
    exact rrow_apart h.row hcur (by decide) (by decide)), h.low.trans hb, Nat.le_trans h.sz hb.size⟩
/-- A row of one-cell elements, of another type than all of these, turns. -/
theorem StQ.list (h : StQ B w wr pt pk pr g ct v bs L m) {e : TypeId} {u : Value} {xs : List Value} (ho : Owns wr e u xs) (hnew : ∀ g, u.ownBlock = some g → B ≤ g) (he : e = 3 ∨ e = 56) (hc : Chg (fun k => some k = u.ownBlock) wr w') : StQ B w w' pt pk pr g ct v bs L m := by
  have hne : ∀ {k : Nat} {ds : Array Value} {t : TypeId}, Blk wr k ds t → e ≠ t → ¬ some k = u.ownBlock := fun {k ds t} hk h1 hh => ho.ne hk h1 hh.symm
  have hrow : NewR B w' pr v bs := ⟨h.row.is.keep hc (hne h.row.is.blk (by rcases he with rfl | rfl <;> decide)) (fun k hk hh => by
      obtain ⟨cur, hcur⟩ := h.row.is.row.blk k hk
      exact hne hcur (by rcases he with rfl | rfl <;> decide) hh), h.row.at_, h.row.row⟩
  refine ⟨hrow, hc.keep h.txt (hne h.txt (by rcases he with rfl | rfl <;> decide)), hc.keep h.cel (hne h.cel (by rcases he with rfl | rfl <;> decide)), OwnK.chg h.tab hc (fun g hg => ?_), h.low.trans (hc.below h.sz fun k hk hh => ?_), Nat.le_trans h.sz hc.size⟩
  · obtain ⟨cur, hcur⟩ := OwnK.blk h.tab g hg
    exact hne hcur (by rcases he with rfl | rfl <;> decide)
  · have := hnew k hh.symm; omega
end

/-- The numbers and sizes so far: two rows of the call's own. -/
structure StL (B : Nat) (w : World) (v u : Value) (xs ys : List Nat) : Prop where
  o1 : Owns w 56 v (nums .u64 xs)
  o2 : Owns w 3 u (nums .i64 ys)
  n1 : ∀ g, v.ownBlock = some g → B ≤ g
  n2 : ∀ g, u.ownBlock = some g → B ≤ g
section
variable {B : Nat} {w w' : World} {v u v' : Value} {xs ys : List Nat}
theorem StL.later (h : StL B w v u xs ys) (hb : Below w.heap.size w w') : StL B w' v u xs ys :=
  ⟨h.o1.chg (Chg.of_below (S := fun _ => False) hb) (fun _ _ => id), h.o2.chg (Chg.of_below (S := fun _ => False) hb) (fun _ _ => id), h.n1, h.n2⟩
theorem StL.add1 (h : StL B w v u xs ys) (hB : B ≤ w.heap.size) {x : Nat} (ho : Owns w' 56 v' (nums .u64 xs ++ [.int .u64 (x : Int)])) (hc : Chg (fun k => some k = v.ownBlock) w w') (hf : ∀ g, v'.ownBlock = some g → some g = v.ownBlock ∨ w.heap.size ≤ g) : StL B w' v' u (xs ++ [x]) ys :=
  ⟨by rw [nums_snoc]; exact ho, h.o2.chg hc (fun g hg hh => by
    obtain ⟨cur, hcur⟩ := h.o2.blk g hg
    exact h.o1.ne hcur (by decide) hh.symm), fun g hg => (hf g hg).elim (fun h1 => h.n1 g h1.symm) (fun h1 => Nat.le_trans hB h1), h.n2⟩
theorem StL.add2 (h : StL B w v u xs ys) (hB : B ≤ w.heap.size) {x : Nat} (ho : Owns w' 3 v' (nums .i64 ys ++ [.int .i64 (x : Int)])) (hc : Chg (fun k => some k = u.ownBlock) w w') (hf : ∀ g, v'.ownBlock = some g → some g = u.ownBlock ∨ w.heap.size ≤ g) : StL B w' v v' xs (ys ++ [x]) :=
  ⟨h.o1.chg hc (fun g hg hh => by
    obtain ⟨cur, hcur⟩ := h.o1.blk g hg
    exact h.o2.ne hcur (by decide) hh.symm), by rw [nums_snoc]; exact ho, h.n1, fun g hg => (hf g hg).elim (fun h1 => h.n2 g h1.symm) (fun h1 => Nat.le_trans hB h1)⟩
end
theorem pow_min (n : Nat) (h : n ≤ 12) : wrap64 (2 ^ min n 64) = ((2 ^ n : Nat) : Int) := by
  have h1 : 2 ^ n ≤ 2 ^ 12 := Nat.pow_le_pow_right (by decide) h
  have e : (2 : Int) ^ n = ((2 ^ n : Nat) : Int) := by simp
  rw [Nat.min_eq_left (by omega), e]
  generalize 2 ^ n = x at h1
  unfold wrap64; omega
theorem wrap_sum (a b : Nat) (h : a + b ≤ 100000) : wrap64 ((a : Int) + (b : Int)) = ((a + b : Nat) : Int) := by unfold wrap64; omega
theorem drop_cls (ps : List (Int × Nat)) (k : Nat) (h : k < ps.length) : (ps.map fun q => q.1.toNat).drop k = clsP ps k :: (ps.map fun q => q.1.toNat).drop (k + 1) := by
  rw [List.drop_eq_getElem_cons (by rw [List.length_map]; exact h)]
  congr 1
  simp [clsP, List.getD_eq_getElem?_getD, h]

set_option maxRecDepth 100000 in
set_option maxHeartbeats 16000000 in
theorem rsput_calls (A0 : Option Addr) (n0 c0 : Nat) (A1 : Option Addr) (c1 : Nat) (L : List Int) (m : Nat) (ps : List (Int × Nat)) (w : World) (hr0 : RdQ w A0 n0 ps) (hr1 : Kd.C (Kd.int .i64) w A1 L.length L) (hc1 : L.length ≤ c1) (hm : mayN L (m : Int) = true) (hn : n0 ≤ 900) :
    Calls Try.prog 18 #[.slice A0 n0 c0, .slice A1 L.length c1, .int .i64 (m : Int)] w fun e w' => e = .returned (.agg #[.string (putSE L (m : Int) ps).1, .int .i64 (putSE L (m : Int) ps).2]) ∧ Below w.heap.size w w' := by
  have HC := kept (fun wx (hC : Kd.C (Kd.int .i64) wx A1 L.length L) => rtab_ok A1 c1 L m wx hC hc1 hm)
  have HM := kept (mayS_of hm)
  have HMy := kept hm
  have h65 := HM.out.len
  have HR := kept hr0
  have HRl := kept hr1
  have HLr := kept (Own.rd_of_C hr1)
  rw [h65] at HC HRl HLr ⊢
  obtain ⟨B, hB⟩ : ∃ B, B = w.heap.size := ⟨_, rfl⟩
  have HBe := kept hB
  rw [← hB]
  clear hr0 hr1 hc1 hm h65 hB
  go_enter Try.func18, Try.ntmps18
  go_wp2_with fail
  generalize hw1 : World.alloc w _ = w1
  obtain ⟨pt, hpt⟩ : ∃ pt, pt = w.heap.size := ⟨_, rfl⟩
  have hal : Below w.heap.size w w1 := by rw [← hw1]; exact (Below.refl _ _).alloc (Nat.le_refl _) _
  have HT1 : Own.Kept (Blk w1 pt #[.string ⟨#[]⟩, .int .i64 0] 46) := kept (by rw [hpt, ← hw1]; exact Blk.fresh _ _ _)
  have HB1 := kept hal
  have HPt : Own.Kept (B ≤ pt) := kept (by rw [HBe.out]; exact Nat.le_of_eq hpt.symm)
  rw [← hpt]
  clear hw1 hal hpt
  refine (HC.out w1 (Kd.C_below HRl.out HB1.out)).mono ?_
  rintro e w2 ⟨g, ct, rfl, hT, hg, hb2⟩
  have HO2 := kept hT
  have HT2 : Own.Kept (Blk w2 pt #[.string ⟨#[]⟩, .int .i64 0] 46) := kept ((hb2.block pt (Blk.lt HT1.out)).trans HT1.out)
  have HB2 := kept (HB1.out.trans (hb2.mono HB1.out.size))
  clear hb2 hT hg
  go_upto_region 5 with fail
  obtain ⟨pk, hpk⟩ : ∃ pk, pk = w2.heap.size := ⟨_, rfl⟩
  obtain ⟨pr, hpr⟩ : ∃ pr, pr = w2.heap.size + 1 := ⟨_, rfl⟩
  generalize hw3 : World.alloc (World.alloc w2 _) _ = w3
  have hal : Below w2.heap.size w2 w3 := by rw [← hw3]; exact ((Below.refl _ _).alloc (Nat.le_refl _) _).alloc (by simp) _
  have HSt : Own.Kept (StQ B w w3 pt pk pr g ct (.slice none 0 0) [] L m) := kept (by
    refine ⟨⟨⟨?_, Owns.nil _ _⟩, ?_, fun g hg => by simp [Value.ownBlock] at hg⟩, (hal.block pt (Blk.lt HT2.out)).trans HT2.out, ?_, HO2.out.later hal, ?_, ?_⟩
    · rw [hpr, ← hw3]; exact Blk.fresh_at _ _ (by simp) _ _
    · have := HB2.out.size; rw [HBe.out]; omega
    · rw [hpk, ← hw3]; exact Blk.alloc (Blk.fresh w2 _ _) _
    · rw [HBe.out]; exact HB2.out.trans (hal.mono HB2.out.size)
    · rw [HBe.out]; exact Nat.le_trans HB2.out.size hal.size)
  rw [← hpr, ← hpk]
  clear hw3 hal hpk hpr HT1 HT2 HB1 HB2 HO2
  go_wp2_with fail
  go_loopw [9] (fun s9 wr => ∃ (i : Nat) (v : Value), i ≤ n0 ∧ s9 = .int .i64 (i : Int) ∧ (∀ p ∈ ps.take i, okS L p = true) ∧ StQ B w wr pt pk pr g ct v (restsP ((ps.take i).map natS)) L m) (fun s9 _ => n0 - (intOf s9).toNat)
  case atStart => exact ⟨0, _, Nat.zero_le _, rfl, by simp, by simpa [restsP] using HSt.out⟩
  case round =>
    obtain ⟨i, v, hi, rfl, hok, hS⟩ := hrel
    obtain ⟨wq, rfl⟩ : ∃ wq, wq = wr := ⟨wr, rfl⟩
    have HOk := kept hok
    have HS := kept hS
    clear hok hS HSt
    by_cases hlt : i < n0
    · obtain ⟨c, r, hpi⟩ : ∃ c r, ps[i]? = some (c, r) := ⟨_, _, List.getElem?_eq_getElem (by rw [HR.out.len]; exact hlt)⟩
      have hmem : (c, r) ∈ ps := List.mem_of_getElem? hpi
      obtain ⟨w0c, w1c, w2c⟩ := HR.out.wf _ hmem
      obtain ⟨x0, rfl, hcs⟩ := HR.out.at_ (by omega)
      obtain ⟨hc0, hc1⟩ := hcs i (c, r) hpi
      have hx0 : (x0.add (i * 2)).block < B := by rw [HBe.out]; exact World.block_lt_of_cell? w _ hc0
      have hx1 : (x0.add (i * 2 + 1)).block < B := by rw [HBe.out]; exact World.block_lt_of_cell? w _ hc1
      have k0 := (HS.out.low.cell hx0).trans hc0
      have k1 := cellN_next ((HS.out.low.cell hx1).trans hc1)
      have htk : ps.take (i + 1) = ps.take i ++ [(c, r)] := by
        rw [List.take_succ_eq_append_getElem (by rw [HR.out.len]; exact hlt)]
        rw [List.getElem?_eq_getElem (by rw [HR.out.len]; exact hlt)] at hpi
        rw [Option.some.inj hpi]
      have HTk := kept htk
      have HMem := kept hmem
      have HK := kept (And.intro hc0 hc1)
      have HX := kept (And.intro hx0 hx1)
      clear hpi hmem hcs hc0 hc1 htk hx0 hx1
      obtain ⟨km, hkm⟩ := (wringerref1_MayPart.is c r w0c w1c w2c).rounds
      have HMp := kept (wringerref1_MayPart.calls km c (r : Int) (Zig.may c r) wq hkm)
      have hbad : okS L (c, r) = false → putSE L (m : Int) ps = (⟨#[]⟩, 1) := fun h => by
        unfold putSE
        rw [if_pos HMy.out, if_neg]
        intro hall
        have := List.all_eq_true.1 hall _ HMem.out
        rw [h] at this; cases this
      clear hkm
      cases hmay : Zig.may c r with
      | false =>
        rw [hmay] at HMp
        have hpe := hbad (by unfold okS; rw [hmay]; rfl)
        have HPe := kept hpe
        clear hmay hbad hpe
        go_wp2_with fail
        refine HMp.out.mono ?_
        rintro e w4 ⟨rfl, hb4⟩
        have HS4 := kept (HS.out.later hb4)
        have c0 : w4.cell? ⟨pt, 0, none⟩ = some (.string ⟨#[]⟩) := Blk.cell HS4.out.txt rfl
        have c1 : w4.cell? ⟨pt, 1, none⟩ = some (.int .i64 0) := Blk.cell HS4.out.txt rfl
        have f0 : w4.frozen? ⟨pt, 0, none⟩ = false := Blk.free HS4.out.txt 0
        have f1 : w4.frozen? ⟨pt, 1, none⟩ = false := Blk.free HS4.out.txt 1
        clear hb4 k0 k1
        go_wp2_with fail
        have hBz := text_set (t := ⟨#[]⟩) (e := 1) HS4.out.txt
        have hCz : Below B w ((w4.setCell ⟨pt, 0, none⟩ (.string ⟨#[]⟩)).setCell ⟨pt, 1, none⟩ (.int .i64 1)) := (HS4.out.low.setCell (p := ⟨pt, 0, none⟩) HPt.out _).setCell (p := ⟨pt, 1, none⟩) HPt.out _
        generalize World.setCell _ _ _ = wz at hBz hCz ⊢
        have z0 : wz.cell? ⟨pt, 0, none⟩ = some (.string ⟨#[]⟩) := Blk.cell hBz rfl
        have z1 : wz.cell? ⟨pt, 1, none⟩ = some (.int .i64 1) := Blk.cell hBz rfl
        refine bodyPost_ret (v := .agg #[.string ⟨#[]⟩, .int .i64 1]) (by simp [results, Try.results18, go_sem, z0, z1]) rfl ?_
        exact ⟨by rw [HPe.out], hCz⟩
      | true =>
        rw [hmay] at HMp
        have hm2 := hmay
        unfold Zig.may at hm2
        rw [Bool.and_eq_true, decide_eq_true_eq] at hm2
        obtain ⟨⟨hcl0, hcl1⟩, _⟩ := hm2
        obtain ⟨cN, rfl⟩ := Int.eq_ofNat_of_zero_le hcl0
        have hc64 : cN ≤ 64 := by omega
        obtain ⟨y, hy⟩ : ∃ y, y = L.getD cN 0 := ⟨_, rfl⟩
        have HY := kept hy
        have HMay := kept hmay
        clear hmay hcl0 hcl1 w0c w1c hy
        have hc65 : (cN : Int) < 65 := by omega
        go_wp2_with fail
        refine HMp.out.mono ?_
        rintro e w4 ⟨rfl, hb4⟩
        have HS4 := kept (HS.out.later hb4)
        have k0 := (HS4.out.low.cell HX.out.1).trans HK.out.1
        have hrd := HLr.out.below HS4.out.low (fun g hg => by rw [HBe.out]; exact HLr.out.lt g hg)
        obtain ⟨x1, rfl, hxc⟩ := hrd.at (Own.ints_at .i64 L cN (by rw [HM.out.len]; omega))
        rw [← HY.out] at hxc
        clear hb4 hrd
        by_cases hpos : y = 0
        · have HPe := kept (hbad (by unfold okS; rw [HMay.out, Int.toNat_natCast, ← HY.out, hpos]; rfl))
          have c0 : w4.cell? ⟨pt, 0, none⟩ = some (.string ⟨#[]⟩) := Blk.cell HS4.out.txt rfl
          have c1 : w4.cell? ⟨pt, 1, none⟩ = some (.int .i64 0) := Blk.cell HS4.out.txt rfl
          have f0 : w4.frozen? ⟨pt, 0, none⟩ = false := Blk.free HS4.out.txt 0
          have f1 : w4.frozen? ⟨pt, 1, none⟩ = false := Blk.free HS4.out.txt 1
          subst hpos
          clear hbad
          go_wp2_with fail
          have hBz := text_set (t := ⟨#[]⟩) (e := 1) HS4.out.txt
          have hCz : Below B w ((w4.setCell ⟨pt, 0, none⟩ (.string ⟨#[]⟩)).setCell ⟨pt, 1, none⟩ (.int .i64 1)) := (HS4.out.low.setCell (p := ⟨pt, 0, none⟩) HPt.out _).setCell (p := ⟨pt, 1, none⟩) HPt.out _
          generalize World.setCell _ _ _ = wz at hBz hCz ⊢
          have z0 : wz.cell? ⟨pt, 0, none⟩ = some (.string ⟨#[]⟩) := Blk.cell hBz rfl
          have z1 : wz.cell? ⟨pt, 1, none⟩ = some (.int .i64 1) := Blk.cell hBz rfl
          refine bodyPost_ret (v := .agg #[.string ⟨#[]⟩, .int .i64 1]) (by simp [results, Try.results18, go_sem, z0, z1]) rfl ?_
          exact ⟨by rw [HPe.out], hCz⟩
        · have ty : (y == 0) = false := by rw [beq_eq_false_iff_ne]; exact hpos
          have HOkc : Own.Kept (okS L ((cN : Int), r) = true) := kept (by unfold okS; rw [HMay.out, Int.toNat_natCast, ← HY.out, decide_eq_true hpos]; rfl)
          have k1 := cellN_next ((HS4.out.low.cell HX.out.2).trans HK.out.2)
          have hlen := restsP_len ((ps.take i).map natS) (fun p hp => by
            obtain ⟨q, hq, rfl⟩ := List.mem_map.1 hp
            exact (okS_able HM.out (HOk.out q hq)).2.2.1)
          rw [List.length_map, List.length_take, HR.out.len] at hlen
          have HPut := kept (rrest_calls B pr v _ cN r w4 HS4.out.sz HS4.out.row (by omega) w2c hc64)
          have hen : restsP ((ps.take i).map natS) ++ bitsOf r (cN - 1) = restsP ((ps.take (i + 1)).map natS) := by
            rw [HTk.out, List.map_append, restsP_append]
            congr 1
            simp [restsP, natS]
          rw [hen] at HPut
          clear hen hbad
          go_wp2_with fail
          refine HPut.out.mono ?_
          rintro e w7 ⟨rfl, v7, hW7, hB7, hC7⟩
          have HS7 := kept (HS4.out.put hW7 hB7 hC7)
          clear hW7 hB7 hC7 k0 k1
          go_wp2_with fail
          go_roundw
          case rel => exact ⟨i + 1, v7, by omega, by go_num, fun p hp => by
            rw [HTk.out] at hp
            rcases List.mem_append.1 hp with hp | hp
            · exact HOk.out p hp
            · rw [List.mem_singleton.1 hp]; exact HOkc.out, HS7.out⟩
          case measure => simp [intOf]; omega
    · have hie : i = n0 := by omega
      subst hie
      have htk : ps.take i = ps := List.take_of_length_le (by rw [HR.out.len]; exact Nat.le_refl _)
      rw [htk] at HOk HS
      clear htk
      obtain ⟨i0, hi0, hz0, hz1, hz2⟩ := info_partsS infoU64
      obtain ⟨i1, hi1, hy0, hy1, hy2⟩ := info_partsS infoInt
      have HCl := kept (cls_of HM.out HOk.out)
      obtain ⟨cs, hcs⟩ : ∃ cs, cs = ps.map fun q => q.1.toNat := ⟨_, rfl⟩
      have HCs := kept hcs
      have hcl : cs.length = i := by rw [hcs, List.length_map, HR.out.len]
      rw [← hcs] at HCl
      have HCn := kept hcl
      clear hcs hcl
      obtain ⟨v, hv⟩ : ∃ v', v' = v := ⟨v, rfl⟩
      rw [← hv] at HS
      clear hv
      go_wp2_with fail
      go_loopw [13, 12, 10, 11] (fun s13 s12 s10 s11 wr => ∃ (k st : Nat) (a b : Value) (E : List (Nat × Nat)), k ≤ i ∧ s13 = .int .i64 ((k : Int) - 1) ∧ s12 = .int .i64 (st : Int) ∧ a = s10 ∧ b = s11 ∧ encs L m (cs.drop k) = (st, E) ∧ StL B wr a b (E.map Prod.fst) (E.map Prod.snd) ∧ StQ B w wr pt pk pr g ct v (restsP (ps.map natS)) L m) (fun s13 _ _ _ _ => (intOf s13 + 1).toNat)
      case atStart => exact ⟨i, 0, _, _, [], Nat.le_refl _, rfl, rfl, rfl, rfl, by rw [List.drop_of_length_le (by rw [HCn.out]; exact Nat.le_refl _)]; rfl, ⟨Owns.nil _ _, Owns.nil _ _, fun g hg => by simp [Value.ownBlock] at hg, fun g hg => by simp [Value.ownBlock] at hg⟩, HS.out⟩
      case round =>
        obtain ⟨k, st, a, b, E, hk, rfl, rfl, rfl, rfl, hE, hL, hS⟩ := hrel
        obtain ⟨wq, rfl⟩ : ∃ wq, wq = wr := ⟨wr, rfl⟩
        have HE := kept hE
        have HL := kept hL
        have HS := kept hS
        clear hE hL hS
        cases k with
        | succ k =>
          have hkl : k < ps.length := by rw [HR.out.len]; omega
          have hps := parts_at HR.out HM.out HOk.out (k := k) (by omega)
          obtain ⟨x0, rfl, hpc⟩ := HR.out.at_ (by omega)
          obtain ⟨hpc0, _⟩ := hpc k _ hps.1
          have hx0 : (x0.add (k * 2)).block < B := by rw [HBe.out]; exact World.block_lt_of_cell? w _ hpc0
          have hd := drop_cls ps k hkl
          rw [← HCs.out] at hd
          obtain ⟨c, hc⟩ : ∃ c, c = clsP ps k := ⟨_, rfl⟩
          rw [← hc] at hd hpc0 hps
          have hst : st < 2 ^ m := by
            have := encs_lt HM.out (cs.drop (k + 1)) (fun d hd => HCl.out d (List.mem_of_mem_drop hd))
            rw [HE.out] at this; exact this
          obtain ⟨f1, f2, f3⟩ := fnd_of HM.out hps.2.1 hps.2.2.1 hst
          have hen : encs L m (cs.drop k) = (fnd L m c st, E ++ [(st - tS L m (fnd L m c st), tB L m (fnd L m c st))]) := by
            rw [hd]; simp only [encs]; rw [HE.out]
          have HEn := kept hen
          have HF := kept (show fnd L m c st < 2 ^ m ∧ Hit L m c st (fnd L m c st) ∧ ∀ i, i < 2 ^ m → Hit L m c st i → i = fnd L m c st from ⟨f1, f2, f3⟩)
          have HPc := kept hpc0
          have HPx := kept hx0
          have h12 := pow12 m HM.out.hi
          have hst4 : st < 4096 := by omega
          have hc65 := hps.2.1
          obtain ⟨f, hf⟩ : ∃ f, f = fnd L m c st := ⟨_, rfl⟩
          rw [← hf] at HEn HF
          obtain ⟨P, hP⟩ : ∃ P, P = 2 ^ m := ⟨_, rfl⟩
          have HP := kept hP
          have HP4 : Own.Kept (P ≤ 4096) := kept (by omega)
          have HFP : Own.Kept (f < P) := kept (by rw [hP]; exact HF.out.1)
          clear hps hpc hpc0 hx0 hd hst f1 f2 f3 hen hc hf h12 hP
          go_wp2_with fail
          go_loopw [14, 12, 10, 11] (fun s14 s12 s10 s11 wr => ∃ (j : Nat), j ≤ f ∧ s14 = .int .i64 (j : Int) ∧ s12 = .int .i64 (st : Int) ∧ a = s10 ∧ b = s11 ∧ StL B wr a b (E.map Prod.fst) (E.map Prod.snd) ∧ StQ B w wr pt pk pr g ct v (restsP (ps.map natS)) L m) (fun s14 _ _ _ _ => P - (intOf s14).toNat)
          case atStart => exact ⟨0, Nat.zero_le _, rfl, rfl, rfl, rfl, HL.out, HS.out⟩
          case round =>
            obtain ⟨j, hj, rfl, rfl, rfl, rfl, hL, hS⟩ := hrel
            obtain ⟨wp, rfl⟩ : ∃ wp, wp = wr := ⟨wr, rfl⟩
            have HLj := kept hL
            have HSj := kept hS
            clear hL hS HL HS
            have hjP : j < P := by have := HFP.out; omega
            have hp4 := HP4.out
            have t1 : decide ((j : Int) < (P : Int)) = true := decide_eq_true (by omega)
            have kc := HSj.out.cel.cell (i := 0) rfl
            have ea : Value.slice (some ⟨g, 0, none⟩) (2 ^ m) ct = .slice (some ⟨g, 0, none⟩) P ct := by rw [HP.out]
            replace kc : wp.cell? ⟨pk, 0, none⟩ = some (.slice (some ⟨g, 0, none⟩) (2 ^ m) ct) := kc
            rw [ea] at kc
            obtain ⟨e0, e1, e2⟩ := HSj.out.tab.at_ HM.out (j := j) (by rw [← HP.out]; exact hjP)
            obtain ⟨_, b2, b3, _, _⟩ := t_bounds HM.out (j := j) (by rw [← HP.out]; exact hjP)
            have h12 := HM.out.hi
            have eshl := pow_min (tB L m j) (by omega)
            rw [← HP.out] at b3
            obtain ⟨N2, hN2⟩ : ∃ N2, N2 = 2 ^ tB L m j := ⟨_, rfl⟩
            rw [← hN2] at eshl b3
            have HHit : Own.Kept (Hit L m c st j ↔ (tC L m j = c ∧ tS L m j ≤ st ∧ st < tS L m j + N2)) := kept (by unfold Hit; rw [hN2])
            clear hN2 ea
            obtain ⟨c', hc'⟩ : ∃ x, x = tC L m j := ⟨_, rfl⟩
            obtain ⟨n', hn'⟩ : ∃ x, x = tB L m j := ⟨_, rfl⟩
            obtain ⟨s', hs'⟩ : ∃ x, x = tS L m j := ⟨_, rfl⟩
            rw [← hc', ← hs'] at HHit
            have HJ := kept (show s' = tS L m j ∧ n' = tB L m j from ⟨hs', hn'⟩)
            rw [← hc'] at e0
            rw [← hn'] at e1 eshl b2
            rw [← hs'] at e2 b3
            have b3' : s' + N2 ≤ 4096 := by omega
            clear hc' hn' hs' b3 b2 h12
            have kp := (HSj.out.low.cell HPx.out).trans HPc.out
            go_upto_region 21 with fail
            obtain ⟨w3, hw3⟩ : ∃ w_, w_ = World.alloc wp (.cells #[.int .i64 (c' : Int), .int .i64 (n' : Int), .int .i64 (s' : Int)] 105) := ⟨_, rfl⟩
            obtain ⟨gx, hgx⟩ : ∃ b, b = wp.heap.size := ⟨_, rfl⟩
            have hb3 : Below wp.heap.size wp w3 := by rw [hw3]; exact (Below.refl _ _).alloc (Nat.le_refl _) _
            have HX3 : Own.Kept (Blk w3 gx #[.int .i64 (c' : Int), .int .i64 (n' : Int), .int .i64 (s' : Int)] 105) := kept (by rw [hw3, hgx]; exact Blk.fresh _ _ _)
            have HS3 := kept (HSj.out.later hb3)
            have HL3 := kept (HLj.out.later hb3)
            rw [← hw3, ← hgx]
            clear hw3 hgx hb3 e0 e1 e2 kc kp HSj HLj
            have q0 := lat_cell (HX3.out.cell (i := 0) rfl)
            have q1 := lat_cell (HX3.out.cell (i := 1) rfl)
            have q2 := lat_cell (HX3.out.cell (i := 2) rfl)
            have q3 := lat_cell ((HS3.out.low.cell HPx.out).trans HPc.out)
            by_cases hh : c' = c ∧ s' ≤ st ∧ st < s' + N2
            · obtain ⟨rfl, h2, h3⟩ := hh
              have hjf : j = f := HF.out.2.2 j (by rw [← HP.out]; exact hjP) (HHit.out.2 ⟨rfl, h2, h3⟩)
              have g2 : decide ((s' : Int) ≤ (st : Int)) = true := decide_eq_true (Int.ofNat_le.2 h2)
              have g3 := wrap_sum s' N2 (by omega)
              rw [Int.natCast_add] at g3
              have g4 : decide ((st : Int) < (s' : Int) + (N2 : Int)) = true := decide_eq_true (by rw [← Int.natCast_add]; exact Int.ofNat_lt.2 h3)
              refine wp_region_quietL (by kernel_rfl) (by kernel_rfl) ?_
              repeat (go_big_quiet_step (fail))
              refine wpQuiet_nil ?_
              intro nq
              have HS4 := kept (HS3.out.later nq.below)
              have HL4 := kept (HL3.out.later nq.below)
              have x1 := lat_cell (HX3.out.cell (i := 1) rfl) nq
              have x2 := lat_cell (HX3.out.cell (i := 2) rfl) nq
              obtain ⟨w4, hw4⟩ : ∃ w4, w4 = nq.w := ⟨_, rfl⟩
              rw [← hw4] at HS4 HL4 x1 x2 ⊢
              have HX4 : Own.Kept (Blk w4 gx #[.int .i64 (c' : Int), .int .i64 (n' : Int), .int .i64 (s' : Int)] 105) := kept (by rw [hw4]; exact (nq.below.block gx HX3.out.lt).trans HX3.out)
              clear hw4 nq HS3 HL3 HX3 q0 q1 q2 q3
              have g5 := Int.ofNat_sub h2
              obtain ⟨d, hd⟩ : ∃ d, d = st - s' := ⟨_, rfl⟩
              rw [← hd] at g5
              have HD := kept (And.intro hd hjf)
              have HG5 := kept g5
              have hEl := encs_len L m (cs.drop (k + 1))
              rw [HE.out] at hEl
              simp only [List.length_drop, HCn.out] at hEl
              have HEl := kept hEl
              clear hd hjf g2 g3 g4 g5 eshl
              go_wp2_with (first | (at_builtin; go_loud (refine wpList_app1 rfl _ _ 77 rfl 56 i0 (.int .u64 0) 8 Try.underlying77 hi0 hz0 hz1 hz2 rfl a _ (.int .u64 ((st : Int) - (s' : Int))) rfl HL4.out.o1 rfl rfl ?_ ?_ ?_)) | fail)
              · simp [maxLen]; omega
              · omega
              intro v5 w5 O5 C5 F5
              rw [← HG5.out] at O5
              have HL5 := kept (HL4.out.add1 HS4.out.sz O5 C5 F5)
              have HS5 := kept (HS4.out.list HL4.out.o1 HL4.out.n1 (.inr rfl) C5)
              have HX5 : Own.Kept (Blk w5 gx #[.int .i64 (c' : Int), .int .i64 (n' : Int), .int .i64 (s' : Int)] 105) := kept (C5.keep HX4.out (fun hh => HL4.out.o1.ne HX4.out (by decide) hh.symm))
              clear O5 C5 F5 x1 x2 HL4 HS4 HX4
              have x1 := HX5.out.cell (i := 1) rfl
              go_wp2_with (first | (at_builtin; go_loud (refine wpList_app1 rfl _ _ 28 rfl 3 i1 (.int .i64 0) 8 Try.underlying28 hi1 hy0 hy1 hy2 rfl b _ (.int .i64 (n' : Int)) rfl HL5.out.o2 rfl rfl ?_ ?_ ?_)) | fail)
              · have h6 := HEl.out; simp [maxLen]; omega
              · have h6 := HEl.out; simp; omega
              intro v6 w6 O6 C6 F6
              have HL6 := kept (HL5.out.add2 HS5.out.sz O6 C6 F6)
              have HS6 := kept (HS5.out.list HL5.out.o2 HL5.out.n2 (.inl rfl) C6)
              clear O6 C6 F6 x1 HX5
              go_wp2_with fail
              go_roundw
              case rel =>
                have hjf := HD.out.2
                refine ⟨k, j, v5, v6, E ++ [(d, n')], by omega, rfl, rfl, rfl, rfl, ?_, by simpa using HL6.out, HS6.out⟩
                rw [HEn.out, HD.out.1, HJ.out.1, HJ.out.2, hjf]
              case measure => simp [intOf]
            · have HNx : Own.Kept (j + 1 ≤ f) := kept (by
                have hne : j ≠ f := fun e => hh (HHit.out.1 (by rw [e]; exact HF.out.2.1))
                omega)
              by_cases h1 : c' = c
              · subst h1
                by_cases h2 : s' ≤ st
                · have h3 : ¬ st < s' + N2 := fun x => hh ⟨rfl, h2, x⟩
                  have g2 : decide ((s' : Int) ≤ (st : Int)) = true := decide_eq_true (Int.ofNat_le.2 h2)
                  have g3 := wrap_sum s' N2 (by omega)
                  rw [Int.natCast_add] at g3
                  have g4 : decide ((st : Int) < (s' : Int) + (N2 : Int)) = false := decide_eq_false (by rw [← Int.natCast_add]; exact fun x => h3 (Int.ofNat_lt.1 x))
                  clear hh
                  refine wp_region_quietL (by kernel_rfl) (by kernel_rfl) ?_
                  repeat (go_big_quiet_step (fail))
                  refine wpQuiet_nil ?_
                  intro nq
                  have HS4 := kept (HS3.out.later nq.below)
                  have HL4 := kept (HL3.out.later nq.below)
                  go_wp2_with fail
                  go_roundw
                  case rel => exact ⟨j + 1, HNx.out, by go_num, rfl, rfl, rfl, HL4.out, HS4.out⟩
                  case measure => simp [intOf]; omega
                · have g2 : decide ((s' : Int) ≤ (st : Int)) = false := decide_eq_false (fun x => h2 (Int.ofNat_le.1 x))
                  clear hh
                  refine wp_region_quietL (by kernel_rfl) (by kernel_rfl) ?_
                  repeat (go_big_quiet_step (fail))
                  refine wpQuiet_nil ?_
                  intro nq
                  have HS4 := kept (HS3.out.later nq.below)
                  have HL4 := kept (HL3.out.later nq.below)
                  go_wp2_with fail
                  go_roundw
                  case rel => exact ⟨j + 1, HNx.out, by go_num, rfl, rfl, rfl, HL4.out, HS4.out⟩
                  case measure => simp [intOf]; omega
              · have g1 : ((c' : Int) == (c : Int)) = false := by rw [beq_eq_false_iff_ne]; exact fun x => h1 (Int.ofNat.inj x)
                clear hh
                refine wp_region_quietL (by kernel_rfl) (by kernel_rfl) ?_
                repeat (go_big_quiet_step (fail))
                refine wpQuiet_nil ?_
                intro nq
                have HS4 := kept (HS3.out.later nq.below)
                have HL4 := kept (HL3.out.later nq.below)
                go_wp2_with fail
                go_roundw
                case rel => exact ⟨j + 1, HNx.out, by go_num, rfl, rfl, rfl, HL4.out, HS4.out⟩
                case measure => simp [intOf]; omega
        | zero =>
          rw [List.drop_zero] at HE
          have hcl := HCl.out
          have hsl := encs_lt HM.out _ hcl
          have hsi := seal_is HM.out HOk.out (i + 1) (by rw [HR.out.len])
          have hsz := seal_size HM.out HOk.out (by rw [HR.out.len]; exact hn)
          have hel := encs_len L m cs
          rw [HE.out, HCn.out] at hel
          have hb := encs_bits HM.out _ hcl
          rw [← HCs.out, HE.out] at hsi
          rw [HE.out] at hsl hb
          simp only at hsl hel hb hsi
          have h4 := pow12 m HM.out.hi
          have h12 := HM.out.hi
          have hst4 : st < 4096 := by omega
          obtain ⟨xs, hxs⟩ : ∃ xs, xs = E.map Prod.fst := ⟨_, rfl⟩
          obtain ⟨ys, hys⟩ : ∃ ys, ys = E.map Prod.snd := ⟨_, rfl⟩
          have hbit : Own.Kept ((∀ x ∈ xs ++ [st], x < 18446744073709551616) ∧ ∀ y ∈ ((ys ++ [m]).map fun n : Nat => (n : Int)), -9223372036854775808 ≤ y ∧ y ≤ 9223372036854775807) := kept (by
            refine ⟨fun x hx => ?_, fun y hy => ?_⟩
            · rcases List.mem_append.1 hx with hx | hx
              · rw [hxs] at hx
                obtain ⟨q, hq, rfl⟩ := List.mem_map.1 hx
                have := (hb q hq).1; omega
              · rw [List.mem_singleton.1 hx]; omega
            · obtain ⟨n, hn, rfl⟩ := List.mem_map.1 hy
              rcases List.mem_append.1 hn with hn | hn
              · rw [hys] at hn
                obtain ⟨q, hq, rfl⟩ := List.mem_map.1 hn
                have := (hb q hq).2; omega
              · rw [List.mem_singleton.1 hn]; omega)
          have hxl : Own.Kept (xs.length = i) := kept (by rw [hxs, List.length_map]; exact hel)
          have hyl : Own.Kept (ys.length = i) := kept (by rw [hys, List.length_map]; exact hel)
          rw [← hxs, ← hys] at hsi HL
          obtain ⟨S, hS⟩ : ∃ S, S = sealedP L m ((ps.map natS).map Prod.fst) := ⟨_, rfl⟩
          rw [← hS] at hsi hsz
          have HSi := kept hsi
          have HSz := kept hsz
          have HSe := kept hS
          have hrl := restsP_len (ps.map natS) (fun q hq => by
            obtain ⟨q0, hq0, rfl⟩ := List.mem_map.1 hq
            exact (okS_able HM.out (HOk.out q0 hq0)).2.2.1)
          rw [List.length_map, HR.out.len] at hrl
          have HRl2 : Own.Kept ((restsP (ps.map natS)).length < 1000000000000) := kept (by omega)
          have HRl3 : Own.Kept ((restsP (ps.map natS)).length ≤ 57600) := kept (by omega)
          clear hcl hsl hsi hsz hel hb hxs hys hS hrl h4
          go_wp2_with (first | (at_builtin; go_loud (refine wpList_app1 rfl _ _ 77 rfl 56 i0 (.int .u64 0) 8 Try.underlying77 hi0 hz0 hz1 hz2 rfl a _ (.int .u64 (st : Int)) rfl HL.out.o1 rfl rfl ?_ ?_ ?_)) | fail)
          · have h6 := hxl.out; simp [maxLen]; omega
          · have h6 := hxl.out; simp; omega
          intro v5 w5 O5 C5 F5
          have HL5 := kept (HL.out.add1 HS.out.sz O5 C5 F5)
          have HS5 := kept (HS.out.list HL.out.o1 HL.out.n1 (.inr rfl) C5)
          clear O5 C5 F5 HL HS
          go_wp2_with (first | (at_builtin; go_loud (refine wpList_app1 rfl _ _ 28 rfl 3 i1 (.int .i64 0) 8 Try.underlying28 hi1 hy0 hy1 hy2 rfl b _ (.int .i64 (m : Int)) rfl HL5.out.o2 rfl rfl ?_ ?_ ?_)) | fail)
          · have h6 := hyl.out; simp [maxLen]; omega
          · have h6 := hyl.out; simp; omega
          intro v6 w6 O6 C6 F6
          have HL6 := kept (HL5.out.add2 HS5.out.sz O6 C6 F6)
          have HS6 := kept (HS5.out.list HL5.out.o2 HL5.out.n2 (.inl rfl) C6)
          clear O6 C6 F6 HL5 HS5
          obtain ⟨av, cv, evv, _⟩ := HL6.out.o1.slice
          obtain ⟨al, cl, elv, _⟩ := HL6.out.o2.slice
          rw [len_nums, List.length_append, List.length_singleton, hxl.out] at evv
          rw [len_nums, List.length_append, List.length_singleton, hyl.out] at elv
          subst evv elv
          have hR1 : Rd w6 (.slice al (i + 1) cl) (Own.ints .i64 ((ys ++ [m]).map fun n : Nat => (n : Int))) := by
            have h := HL6.out.o2.rd
            have e : Own.ints .i64 ((ys ++ [m]).map fun n : Nat => (n : Int)) = Own.nums .i64 (ys ++ [m]) := by unfold Own.ints Own.nums; rw [List.map_map]; rfl
            rw [e]; exact h
          have hseal := rseal_calls av (i + 1) cv (xs ++ [st]) al (i + 1) cl ((ys ++ [m]).map fun n : Nat => (n : Int)) w6 HL6.out.o1.rd hR1 hbit.out.1 hbit.out.2 (i + 1) (by omega) (by omega) (by omega) (by omega)
          rw [HSi.out] at hseal
          have HSeal := kept hseal
          clear hR1 hseal hbit HL6 HSi
          go_wp2_with (first | (go_at_call 43; refine HSeal.out.mono ?_))
          rintro e w7 ⟨rfl, hb7⟩
          have HS7 := kept (HS6.out.later hb7)
          clear hb7 HS6 HSeal
          have hsz := HSz.out
          obtain ⟨kv, hkv⟩ := (rvput_is S.size (by omega)).rounds
          have HPv := kept (wringerref1_PutVint.calls kv (S.size : Int) _ w7 hkv)
          clear hkv
          go_wp2_with (first | (go_at_call 44; refine HPv.out.mono ?_))
          rintro e w8 ⟨rfl, hb8⟩
          have HS8 := kept (HS7.out.later hb8)
          clear hb8 HS7 HPv
          have HBy := kept (rbytes_calls pr v _ w8 HS8.out.row.is HRl2.out)
          have hpe : putSE L (m : Int) ps = (txt (putV S.size) ++ S ++ textOf (pack (restsP (ps.map natS))), 0) := by
            unfold putSE
            rw [if_pos HMy.out, if_pos (List.all_eq_true.2 HOk.out)]
            unfold putB
            rw [Int.toNat_natCast, ← HSe.out]
          have HPe := kept hpe
          clear hpe
          obtain ⟨T1, hT1⟩ : ∃ T, T = txt (putV S.size) := ⟨_, rfl⟩
          obtain ⟨T2, hT2⟩ : ∃ T, T = textOf (pack (restsP (ps.map natS))) := ⟨_, rfl⟩
          have HT1 := kept hT1
          rw [← hT1, ← hT2] at HPe
          rw [← hT2] at HBy
          rw [← hT1]
          have hs1 : T1.size ≤ 10 := by rw [hT1, size_txt]; exact putV_len64 _ (by omega)
          have hs2 : T2.size ≤ 1000000 := by
            have := HRl3.out
            rw [hT2, size_textOf, length_pack]; omega
          clear hT1 hT2
          go_wp2_with (first | (go_at_call 45; refine HBy.out.mono ?_))
          rintro e w9 ⟨rfl, hb9⟩
          have HS9 := kept (HS8.out.later hb9)
          have c0 : w9.cell? ⟨pt, 0, none⟩ = some (.string ⟨#[]⟩) := Blk.cell HS9.out.txt rfl
          have c1 : w9.cell? ⟨pt, 1, none⟩ = some (.int .i64 0) := Blk.cell HS9.out.txt rfl
          have f0 : w9.frozen? ⟨pt, 0, none⟩ = false := Blk.free HS9.out.txt 0
          have f1 : w9.frozen? ⟨pt, 1, none⟩ = false := Blk.free HS9.out.txt 1
          clear hb9 HS8 HBy
          go_wp2_with fail
          have hBz := text_set (t := T1 ++ S ++ T2) (e := 0) HS9.out.txt
          have hCz : Below B w ((w9.setCell ⟨pt, 0, none⟩ (.string (T1 ++ S ++ T2))).setCell ⟨pt, 1, none⟩ (.int .i64 0)) := (HS9.out.low.setCell (p := ⟨pt, 0, none⟩) HPt.out _).setCell (p := ⟨pt, 1, none⟩) HPt.out _
          generalize World.setCell _ _ _ = wz at hBz hCz ⊢
          have z0 : wz.cell? ⟨pt, 0, none⟩ = some (.string (T1 ++ S ++ T2)) := Blk.cell hBz rfl
          have z1 : wz.cell? ⟨pt, 1, none⟩ = some (.int .i64 0) := Blk.cell hBz rfl
          refine bodyPost_ret (v := .agg #[.string (T1 ++ S ++ T2), .int .i64 0]) (by simp [results, Try.results18, go_sem, z0, z1]) rfl ?_
          exact ⟨by rw [HPe.out], hCz⟩
end Go.Proofs.Yteeegomdaebobaa.St

-- ---- PAx61
/- wringer/wringerref7.PutStates: what the call answers. Conditions: the parts are of Go's own sizes, no more than 900. -/
namespace Go.Proofs.Yteeegomdaebobaa.PA
set_option maxRecDepth 100000
open Go.RowKit Go.Proofs.YteeegomdaebobaaW.PrintWords Go.Proofs.YteeegomdaebobaaW.PrintLast Go.Proofs.YteeegomdaebobaaW.PrintMore
open St
set_option linter.unusedVariables false
set_option linter.unusedSimpArgs false

def wringerref7_PutStates.f (k : Nat) (l0 : List (S58)) (l1 : List Int) (a2 : Int) : Option (ByteArray × Int) := if l0.length ≤ 900 ∧ l0.all wfB = true ∧ l1.length < 17592186044416 then some (putSE l1 a2 (l0.map pairP)) else none
theorem wringerref7_PutStates.mono : ∀ a0 a1 a2 k, LeO (wringerref7_PutStates.f k a0 a1 a2) (wringerref7_PutStates.f (k + 1) a0 a1 a2) := fun _ _ _ _ => LeO.refl _
theorem wringerref7_PutStates.calls (k : Nat) (A0 : Option Addr) (c0 : Nat) (l0 : List (S58)) (A1 : Option Addr) (c1 : Nat) (l1 : List Int) (a2 : Int) (r1 : ByteArray) (r2 : Int) (w : World) (hr0 : Kd.C k58 w A0 l0.length l0) (hc0 : l0.length ≤ c0) (hr1 : Kd.C (Kd.int .i64) w A1 l1.length l1) (hc1 : l1.length ≤ c1) (h : wringerref7_PutStates.f k l0 l1 a2 = some (r1, r2)) :
    Calls Try.prog 18 #[.slice A0 l0.length c0, .slice A1 l1.length c1, .int .i64 a2] w fun e w' => e = .returned (.agg #[.string r1, .int .i64 r2]) ∧ Below w.heap.size w w' := by
  unfold wringerref7_PutStates.f at h
  split at h
  · rename_i hg
    have h := Option.some.inj h
    have e1 : r1 = (putSE l1 a2 (l0.map pairP)).1 := by rw [h]
    have e2 : r2 = (putSE l1 a2 (l0.map pairP)).2 := by rw [h]
    rw [e1, e2]
    cases hm : Sp.mayN l1 a2 with
    | false => exact rsput_form A0 l0.length c0 A1 c1 l1 a2 _ w hg.2.2 hr1 hc1 hm
    | true =>
      obtain ⟨m, rfl, _⟩ := (may_iff l1 a2).1 hm
      exact rsput_calls A0 l0.length c0 A1 c1 l1 m _ w (rdq_of hr0 hg.2.1) hr1 hc1 hm hg.1
  · cases h
end Go.Proofs.Yteeegomdaebobaa.PA

-- ---- Kt
/- The document's bits from their end. -/
namespace Go.Proofs.Yteeegomdaebobaa
set_option maxRecDepth 100000
set_option linter.unusedSimpArgs false
set_option linter.unusedVariables false
open Go.RowKit Mix _root_.Go.Proofs.Yteeegomdaebobaa.Own Bits
attribute [local go_sem] max_int min_int

/-- A Tail at block p: so many bits of a text, which lie at a. -/
structure IsT (w : World) (p : Nat) (a : Option Addr) (cap : Nat) (s : ByteArray) (k : Nat) : Prop where
  blk : Blk w p #[.slice a k cap] 114
  row : Owns w 5 (.slice a (8 * s.size) cap) (u8s (bits01 (bitsS s)))
  le : k ≤ 8 * s.size

theorem IsT.later {w w' : World} {p : Nat} {a : Option Addr} {cap : Nat} {s : ByteArray} {k : Nat} (h : IsT w p a cap s k) (hc : Below w.heap.size w w') : IsT w' p a cap s k :=
  ⟨(hc.block p h.blk.lt).trans h.blk, h.row.chg (Chg.of_below (S := fun _ => False) hc) (fun _ _ => id), h.le⟩
theorem IsT.rd {w : World} {p : Nat} {a : Option Addr} {cap : Nat} {s : ByteArray} {k : Nat} (h : IsT w p a cap s k) : Rd w (.slice a k cap) (u8s (bits01 ((bitsS s).take k))) := by
  have := h.row.rd.take k h.le
  simpa [u8s, bits01, List.map_take] using this

theorem bit_top (s : ByteArray) (h0 : 0 < s.size) (h : lastB s ≠ 0) : bitS s (topS s) = true := by
  have hb := bl_last s h
  have hs := Zig.bl_spec (lastB s + 1) (lastB s) (by omega) h (by have := lastB_lt s; omega)
  unfold bitS topS
  rw [show (8 * (s.size - 1) + (Zig.bl (lastB s) - 1)) / 8 = s.size - 1 by omega, show (8 * (s.size - 1) + (Zig.bl (lastB s) - 1)) % 8 = Zig.bl (lastB s) - 1 by omega]
  show (lastB s).testBit _ = true
  rw [Nat.testBit_eq_decide_div_mod_eq, decide_eq_true_eq]
  have e : 2 ^ Zig.bl (lastB s) = 2 ^ (Zig.bl (lastB s) - 1) * 2 := by rw [← Nat.pow_succ]; congr 1; omega
  have hd : lastB s / 2 ^ (Zig.bl (lastB s) - 1) = 1 := by
    apply Nat.div_eq_of_lt_le
    · omega
    · omega
  rw [hd]
theorem bit_above (s : ByteArray) (h0 : 0 < s.size) (h : lastB s ≠ 0) (i : Nat) (h1 : topS s < i) (h2 : i < 8 * s.size) : bitS s i = false := by
  have hb := bl_last s h
  have hs := Zig.bl_spec (lastB s + 1) (lastB s) (by omega) h (by have := lastB_lt s; omega)
  unfold topS at h1
  unfold bitS
  rw [show i / 8 = s.size - 1 by omega]
  show (lastB s).testBit _ = false
  apply Nat.testBit_lt_two_pow
  have : 2 ^ Zig.bl (lastB s) ≤ 2 ^ (i % 8) := Nat.pow_le_pow_right (by decide) (by omega)
  omega

theorem tfrom_empty (s : ByteArray) (w : World) (h : s.size = 0) :
    Calls Try.prog 47 #[.string s] w fun e w' => e = .returned (.pointer none) ∧ w = w' := by
  have t0 : ((s.size : Int) == 0) = true := by rw [beq_iff_eq]; omega
  clear h
  go_enter Try.func47, Try.ntmps47
  go_wp2_with fail
  go_ret
  exact ⟨rfl, rfl⟩

theorem tfrom_zero (s : ByteArray) (w : World) (h : 0 < s.size) (hs : s.size ≤ 1000000000000) (h0 : lastB s = 0) :
    Calls Try.prog 47 #[.string s] w fun e w' => e = .returned (.pointer none) ∧ w = w' := by
  have t0 : ((s.size : Int) == 0) = false := by rw [beq_eq_false_iff_ne]; omega
  have hix := run_ix (P := Try.prog) (T := 9) Try.underlying9 s ((s.size : Int) - 1) (s.size - 1) (by omega) (by omega)
  rw [show byteS s (s.size - 1) = 0 from h0] at hix
  have hs2 : s.size < 2000000000000 := by omega
  clear hs
  go_enter Try.func47, Try.ntmps47
  go_wp2_with fail
  go_ret
  exact ⟨rfl, rfl⟩

set_option maxHeartbeats 2000000 in
theorem tfrom_calls (s : ByteArray) (w : World) (h : 0 < s.size) (hs : s.size ≤ 1000000000) (h0 : lastB s ≠ 0) :
    Calls Try.prog 47 #[.string s] w fun e w' => ∃ p a cap, e = .returned (.pointer (some ⟨p, 0, none⟩)) ∧ IsT w' p a cap s (topS s) ∧ Below w.heap.size w w' ∧ w.heap.size ≤ p := by
  have t0 : ((s.size : Int) == 0) = false := by rw [beq_eq_false_iff_ne]; omega
  have hix := run_ix (P := Try.prog) (T := 9) Try.underlying9 s ((s.size : Int) - 1) (s.size - 1) (by omega) (by omega)
  have htop := topS_lt s h h0
  have hbt := bit_top s h h0
  have hba := bit_above s h h0
  obtain ⟨b, hb⟩ : ∃ b, b = lastB s := ⟨_, rfl⟩
  have hb8 : b < 256 := by rw [hb]; exact lastB_lt s
  rw [show byteS s (s.size - 1) = b from hb.symm] at hix
  have hb0 : ((b : Int) == 0) = false := by rw [beq_eq_false_iff_ne]; omega
  obtain ⟨t, ht⟩ : ∃ t, t = topS s := ⟨_, rfl⟩
  rw [← ht] at htop hbt hba
  rw [← ht]
  obtain ⟨N, hN⟩ : ∃ N, N = 8 * s.size := ⟨_, rfl⟩
  have hN2 : N < 10000000000 := by omega
  rw [← hN] at htop hba
  have HBT := kept hbt
  have HBA := kept hba
  have HN := kept hN
  have HS9 := kept hs
  have hs2 : s.size < 2000000000000 := by omega
  obtain ⟨B, hB⟩ : ∃ B, B = w.heap.size := ⟨_, rfl⟩
  rw [← hB]
  have HB := kept hB
  clear hbt hba hb ht hN hs h0 hB h
  go_enter Try.func47, Try.ntmps47
  go_wp2_with fail
  refine (bits_calls s w HS9.out).mono ?_
  rintro e w1 ⟨v, rfl, hO, hb, hg⟩
  obtain ⟨a, cap, rfl, hcap, _, _⟩ := hO.rd
  simp only [length_u8s, length_bits01, length_bitsS] at hO hg hcap
  simp only [length_u8s, length_bits01, length_bitsS]
  rw [← HN.out] at hO hg hcap
  rw [← HN.out]
  have HO := kept hO
  have HB1 : Kept (Below B w w1) := kept (by rw [HB.out]; exact hb)
  have hsz : B ≤ w1.heap.size := by rw [HB.out]; exact hb.size
  have HS := kept hsz
  clear hO hb hg hsz
  go_wp2_with fail
  go_loopw [4] (fun s4 wr => ∃ i : Nat, t ≤ i ∧ i < N ∧ s4 = .int .i64 (i : Int) ∧ wr = w1) (fun s4 _ => (intOf s4).toNat)
  case atStart => exact ⟨N - 1, by omega, by omega, by congr 1; omega, rfl⟩
  case round =>
    obtain ⟨i, hti, hiN, rfl, rfl⟩ := hrel
    have hel := bits01_at (bitsS s) i (by rw [length_bitsS, ← HN.out]; exact hiN)
    rw [getD_bitsS, ← HN.out, decide_eq_true hiN, Bool.true_and] at hel
    obtain ⟨x, rfl, hc⟩ := HO.out.rd.at hel
    by_cases hit : i = t
    · subst hit
      rw [HBT.out] at hc
      have hc : wr.cell? (x.add i) = some (.int .u8 1) := hc
      have hle : i ≤ cap := by omega
      clear hel
      go_wp2_with fail
      go_ret
      exact ⟨_, _, _, rfl, ⟨Blk.fresh _ _ _, by rw [← HN.out]; exact HO.out.alloc _, by rw [← HN.out]; omega⟩, HB1.out.alloc HS.out _, HS.out⟩
    · rw [HBA.out i (by omega) hiN] at hc
      have hc : wr.cell? (x.add i) = some (.int .u8 0) := hc
      have hi1 : 1 ≤ i := by omega
      clear hel
      go_wp2_with fail
      go_roundw
      case rel => exact ⟨i - 1, by omega, by omega, by rw [show ((i - 1 : Nat) : Int) = (i : Int) - 1 by omega], trivial⟩
      case measure => simp [intOf]; omega
end Go.Proofs.Yteeegomdaebobaa

-- ---- Ku
/- The document's bits from their end: Get. -/
namespace Go.Proofs.Yteeegomdaebobaa
set_option maxRecDepth 100000
set_option linter.unusedSimpArgs false
set_option linter.unusedVariables false
open Go.RowKit Mix _root_.Go.Proofs.Yteeegomdaebobaa.Own Bits
attribute [local go_sem] max_int min_int

set_option maxHeartbeats 2000000 in
theorem tget_arg (p : Nat) (n : Int) (w : World) (hn : n < 0 ∨ 64 < n) :
    Calls Try.prog 49 #[.pointer (some ⟨p, 0, none⟩), .int .i64 n] w fun e w' => e = .returned (.agg #[.int .u64 0, .int .i64 0, .int .i64 1]) ∧ Below w.heap.size w w' := by
  go_enter Try.func49, Try.ntmps49
  go_wp2_with fail
  all_goals exact bodyPost_ret (results_cell_row rfl _ _ w.heap.size 107 #[.int .u64 0, .int .i64 0, .int .i64 1] (0, 0) _ rfl (Blk.fresh _ _ _) Try.underlying107 rfl (by kernel_rfl)) rfl ⟨rfl, (Below.refl _ _).alloc (Nat.le_refl _) _⟩

set_option maxHeartbeats 2000000 in
theorem tget_more (p : Nat) (a : Option Addr) (cap : Nat) (s : ByteArray) (k n : Nat) (w : World) (h : IsT w p a cap s k) (hs : s.size ≤ 1000000000) (hn : n ≤ 64) (hl : k < n) :
    Calls Try.prog 49 #[.pointer (some ⟨p, 0, none⟩), .int .i64 (n : Int)] w fun e w' => e = .returned (.agg #[.int .u64 0, .int .i64 0, .int .i64 2]) ∧ Below w.heap.size w w' := by
  have hk := h.le
  have t1 : ¬ 64 < n := by omega
  have hk2 : k < 100000000000 := by omega
  have hb : Below w.heap.size w (w.alloc (.cells #[.int .u64 0, .int .i64 0, .int .i64 0] 107)) := (Below.refl _ _).alloc (Nat.le_refl _) _
  have e0 : (w.alloc (.cells #[.int .u64 0, .int .i64 0, .int .i64 0] 107)).cell? ⟨p, 0, none⟩ = some (.slice a k cap) := (h.later hb).blk.cell rfl
  clear h hs hk hb
  go_enter Try.func49, Try.ntmps49
  go_wp2_with fail
  exact bodyPost_ret (results_cell_row rfl _ _ w.heap.size 107 #[.int .u64 0, .int .i64 0, .int .i64 2] (0, 0) _ rfl (Blk.fresh _ _ _) Try.underlying107 rfl (by kernel_rfl)) rfl ⟨rfl, (Below.refl _ _).alloc (Nat.le_refl _) _⟩

set_option maxHeartbeats 4000000 in
theorem tget_ok (p : Nat) (a : Option Addr) (cap : Nat) (s : ByteArray) (k n : Nat) (w : World) (h : IsT w p a cap s k) (hs : s.size ≤ 1000000000) (hn : n ≤ 64) (hl : n ≤ k) :
    Calls Try.prog 49 #[.pointer (some ⟨p, 0, none⟩), .int .i64 (n : Int)] w fun e w' => e = .returned (.agg #[.int .u64 (ofBits (((bitsS s).drop (k - n)).take n) : Int), .int .i64 0, .int .i64 0]) ∧
      IsT w' p a cap s (k - n) ∧ Chg (fun b => b = p) w w' := by
  have hk := h.le
  have hcap : k ≤ cap := by
    obtain ⟨_, _, hv, h1, _, _⟩ := h.rd
    simp only [Value.slice.injEq] at hv
    obtain ⟨_, h2, rfl⟩ := hv
    omega
  have t1 : ¬ 64 < n := by omega
  have t2 : ¬ k < n := by omega
  have hk2 : k < 100000000000 := by omega
  obtain ⟨m, hm⟩ : ∃ m, m = k - n := ⟨_, rfl⟩
  have e1 : (k : Int) - (n : Int) = (m : Int) := by omega
  have hmk : m ≤ k := by omega
  have hmn : m + n = k := by omega
  obtain ⟨T, hT⟩ : ∃ T, T = ofBits (((bitsS s).drop (k - n)).take n) := ⟨_, rfl⟩
  rw [← hT, ← hm]
  rw [← hm] at hT
  have hb : Below w.heap.size w (w.alloc (.cells #[.int .u64 0, .int .i64 0, .int .i64 0] 107)) := (Below.refl _ _).alloc (Nat.le_refl _) _
  have e0 : (w.alloc (.cells #[.int .u64 0, .int .i64 0, .int .i64 0] 107)).cell? ⟨p, 0, none⟩ = some (.slice a k cap) := (h.later hb).blk.cell rfl
  have H := kept h
  have HT := kept hT
  have HB0 := kept hb
  clear h hs hm hT hk hb
  go_enter Try.func49, Try.ntmps49
  go_wp2_with fail
  generalize hwa : World.alloc w _ = wa at HB0 e0 ⊢
  have hG : Blk wa w.heap.size #[.int .u64 0, .int .i64 0, .int .i64 0] 107 := by rw [← hwa]; exact Blk.fresh _ _ _
  have l0 := lat_cell e0
  have HG := kept hG
  have H1 := kept (H.out.later HB0.out)
  clear hwa hG e0
  refine wp_region_quietL (by kernel_rfl) (by kernel_rfl) ?_
  repeat (go_big_quiet_step (fail))
  obtain ⟨a2, ha2⟩ : ∃ a2, a2 = (if cap = m then a else a.map (fun x => x.add m)) := ⟨_, rfl⟩
  have hnum : ∀ q : Lat wa, Calls Try.prog 72 #[.slice a2 (k - m) (cap - m)] q.w fun e w' => e = .returned (.int .u64 (T : Int)) ∧ q.w = w' := fun q => by
    have h := ((H1.out.later q.below).rd).sub m n (by omega)
    rw [← ha2, show m + n - m = k - m by omega] at h
    have e : (((bitsS s).take k).drop m).take n = ((bitsS s).drop m).take n := by
      rw [List.drop_take, List.take_take, show min n (k - m) = n by omega]
    rw [HT.out]
    refine number_calls _ _ _ (((bitsS s).drop m).take n) q.w ?_ (by rw [List.length_take]; omega)
    rw [← e]
    simpa [u8s, bits01, List.map_take, List.map_drop] using h
  rw [← ha2]
  have HNum := kept hnum
  clear hnum ha2
  repeat (go_big_quiet_step ((go_at_call 72; exact lat_call_same (HNum.out _))))
  refine wpQuiet_nil ?_
  intro nq
  have HG2 : Kept (Blk nq.w w.heap.size #[.int .u64 0, .int .i64 0, .int .i64 0] 107) := kept (lat_block HG.out nq)
  have HB2 := kept (HB0.out.trans (nq.below.mono HB0.out.size))
  have H2 := kept (H1.out.later nq.below)
  generalize nq.w = w2 at HG2 HB2 H2 ⊢
  clear l0 H1 HG HB0 HNum
  have l0 := lat_cell (H2.out.blk.cell (i := 0) rfl)
  go_wp2_with fail
  refine wp_region_mixL [] [0,1,2,3,4,5,6,7,8,9,10,11,12] [13,14,15] (by kernel_rfl) (by kernel_rfl) ?_
  intro K hK
  simp only [pick, List.filterMap_cons, List.filterMap_nil, List.getElem?_cons_zero, List.getElem?_cons_succ]
  refine wpQuiet_nil ?_
  repeat (show wpQuiet _ _ _ _ (_ :: _) _; go_big_quiet_step (fail))
  refine wpQuiet_nil ?_
  show wpList _ _ _ (_ :: _) _ _
  generalize hwd : World.drew w2 = w3
  have HG3 : Kept (Blk w3 w.heap.size #[.int .u64 0, .int .i64 0, .int .i64 0] 107) := kept (by rw [← hwd]; exact HG2.out)
  have HB3 : Kept (Below w.heap.size w w3) := kept (by rw [← hwd]; exact HB2.out.drew)
  have H3 : Kept (IsT w3 p a cap s k) := kept (by rw [← hwd]; exact ⟨H2.out.blk, H2.out.row, H2.out.le⟩)
  clear hwd l0
  have e1 : w3.cell? ⟨p, 0, none⟩ = some (.slice a k cap) := H3.out.blk.cell rfl
  have ef : w3.frozen? ⟨p, 0, none⟩ = false := H3.out.blk.free 0
  obtain ⟨G, hG⟩ : ∃ G, G = w.heap.size := ⟨_, rfl⟩
  rw [← hG] at HG3 HB3
  rw [← hG]
  have hpG : p ≠ G := by have := H.out.blk.lt; omega
  have hGp : G ≠ p := fun e => hpG e.symm
  obtain ⟨c0, c1, c2, f0, f1, f2⟩ := got_cells HG3.out
  have HGe := kept hG
  clear hG
  go_wp2_with fail
  refine hK _ _ ?_
  go_wp2_with fail
  refine bodyPost_ret (results_cell_row rfl _ _ G 107 #[.int .u64 (T : Int), .int .i64 0, .int .i64 0] (0, 0) _ rfl ((((HG3.out.setOther (a := ⟨p, 0, none⟩) hGp _).set 0 _).set 1 _).set 2 _) Try.underlying107 rfl (by kernel_rfl)) rfl ⟨rfl, ⟨?_, ?_, by have := H3.out.le; omega⟩, ?_⟩
  · exact (((H3.out.blk.set 0 (.slice a m cap)).setOther (a := ⟨G, 0, none⟩) hpG _).setOther (a := ⟨G, 1, none⟩) hpG _).setOther (a := ⟨G, 2, none⟩) hpG _
  · have hv1 : (Value.slice a (8 * s.size) cap).ownBlock ≠ some p := H3.out.row.ne H3.out.blk (by decide)
    have hv2 : (Value.slice a (8 * s.size) cap).ownBlock ≠ some G := H3.out.row.ne HG3.out (by decide)
    exact (((H3.out.row.setOther (a := ⟨p, 0, none⟩) hv1 _).setOther (a := ⟨G, 0, none⟩) hv2 _).setOther (a := ⟨G, 1, none⟩) hv2 _).setOther (a := ⟨G, 2, none⟩) hv2 _
  · have hb3 := HB3.out
    rw [HGe.out] at hb3
    have h1 := (Chg.of_below (S := fun b => b = p) hb3).trans (Chg.setCell w3 ⟨p, 0, none⟩ (.slice a m cap)) (fun _ _ h => h)
    have hno : ∀ b, b < w.heap.size → b = G → b = p := fun b hb e => by have := HGe.out; omega
    exact ((h1.trans (Chg.setCell _ ⟨G, 0, none⟩ _) hno).trans (Chg.setCell _ ⟨G, 1, none⟩ _) hno).trans (Chg.setCell _ ⟨G, 2, none⟩ _) hno

theorem tget_calls (p : Nat) (a : Option Addr) (cap : Nat) (s : ByteArray) (k : Nat) (n : Int) (w : World) (h : IsT w p a cap s k) (hs : s.size ≤ 1000000000) :
    Calls Try.prog 49 #[.pointer (some ⟨p, 0, none⟩), .int .i64 n] w fun e w' => e = .returned (.agg #[.int .u64 ((getE s k n).1 : Int), .int .i64 0, .int .i64 ((getE s k n).2.1 : Int)]) ∧
      IsT w' p a cap s (getE s k n).2.2 ∧ Chg (fun b => b = p) w w' := by
  unfold getE
  by_cases hn : n < 0 ∨ 64 < n
  · rw [if_pos hn]
    exact (tget_arg p n w hn).mono fun e w' ⟨he, hb⟩ => ⟨he, h.later hb, Chg.of_below hb⟩
  · rw [if_neg hn]
    obtain ⟨m, rfl⟩ := Int.eq_ofNat_of_zero_le (show 0 ≤ n by omega)
    by_cases hm : (k : Int) < (m : Int)
    · rw [if_pos hm]
      exact (tget_more p a cap s k m w h hs (by omega) (by omega)).mono fun e w' ⟨he, hb⟩ => ⟨he, h.later hb, Chg.of_below hb⟩
    · rw [if_neg hm]
      exact tget_ok p a cap s k m w h hs (by omega) (by omega)
end Go.Proofs.Yteeegomdaebobaa

-- ---- Rz
/- wringerref1: the bits of a text; a number of bits; Walk's methods. -/
namespace Go.Proofs.Yteeegomdaebobaa
set_option maxRecDepth 100000
set_option linter.unusedSimpArgs false
set_option linter.unusedVariables false
open Go.RowKit Mix _root_.Go.Proofs.Yteeegomdaebobaa.Own Bits
attribute [local go_sem] max_int min_int

/-- A Walk at block p, its bits at v, so many of them gone. -/
structure IsK (w : World) (p : Nat) (v : Value) (s : ByteArray) (k : Nat) : Prop where
  blk : Blk w p #[v, .int .i64 (k : Int)] 144
  row : Owns w 5 v (u8s (bits01 (bitsS s)))

theorem IsK.keep {w w' : World} {S : Nat → Prop} {p : Nat} {v : Value} {s : ByteArray} {k : Nat} (h : IsK w p v s k) (hc : Chg S w w') (hp : ¬ S p) (hv : ∀ g, v.ownBlock = some g → ¬ S g) : IsK w' p v s k :=
  ⟨hc.keep h.blk hp, h.row.chg hc hv⟩
theorem IsK.later {w w' : World} {p : Nat} {v : Value} {s : ByteArray} {k : Nat} (h : IsK w p v s k) (hc : Below w.heap.size w w') : IsK w' p v s k :=
  h.keep (Chg.of_below (S := fun _ => False) hc) id (fun _ _ => id)

theorem kfrom_calls (s : ByteArray) (w : World) (hs : s.size ≤ 1000000000) :
    Calls Try.prog 48 #[.string s] w fun e w' => ∃ p v, e = .returned (.pointer (some ⟨p, 0, none⟩)) ∧ IsK w' p v s 0 ∧ Below w.heap.size w w' ∧ w.heap.size ≤ p ∧ ∀ g, v.ownBlock = some g → w.heap.size ≤ g := by
  go_enter Try.func48, Try.ntmps48
  go_wp2_with fail
  refine (bits_calls s w hs).mono ?_
  rintro e w1 ⟨v, rfl, hO, hb, hg⟩
  obtain ⟨a, cap, rfl, _⟩ := hO.slice
  simp only [length_u8s, length_bits01, length_bitsS] at hO hg
  have HO := kept hO
  have HB := kept hb
  have HG := kept hg
  clear hO hb hg
  go_wp2_with fail
  go_ret
  exact ⟨_, _, rfl, ⟨Blk.fresh _ _ _, HO.out.alloc _⟩, HB.out.alloc HB.out.size _, HB.out.size, HG.out⟩

set_option maxHeartbeats 2000000 in
theorem kget_arg (p : Nat) (v : Value) (s : ByteArray) (k : Nat) (n : Int) (w : World) (hn : n < 0 ∨ 64 < n) :
    Calls Try.prog 50 #[.pointer (some ⟨p, 0, none⟩), .int .i64 n] w fun e w' => e = .returned (.agg #[.int .u64 0, .int .i64 0, .int .i64 1]) ∧ Below w.heap.size w w' := by
  go_enter Try.func50, Try.ntmps50
  go_wp2_with fail
  all_goals exact bodyPost_ret (results_cell_row rfl _ _ w.heap.size 107 #[.int .u64 0, .int .i64 0, .int .i64 1] (0, 0) _ rfl (Blk.fresh _ _ _) Try.underlying107 rfl (by kernel_rfl)) rfl ⟨rfl, (Below.refl _ _).alloc (Nat.le_refl _) _⟩

set_option maxHeartbeats 2000000 in
theorem kget_more (p : Nat) (v : Value) (s : ByteArray) (k n : Nat) (w : World) (h : IsK w p v s k) (hs : s.size ≤ 1000000000) (hk : k ≤ 8 * s.size) (hn : n ≤ 64) (hl : 8 * s.size < k + n) :
    Calls Try.prog 50 #[.pointer (some ⟨p, 0, none⟩), .int .i64 (n : Int)] w fun e w' => e = .returned (.agg #[.int .u64 0, .int .i64 0, .int .i64 2]) ∧ Below w.heap.size w w' := by
  obtain ⟨a, cap, rfl, _⟩ := h.row.slice
  obtain ⟨N, hN⟩ : ∃ N, N = 8 * s.size := ⟨_, rfl⟩
  rw [length_u8s, length_bits01, length_bitsS, ← hN] at h
  have hN2 : N < 100000000000 := by omega
  have t1 : decide ((n : Int) < 0) = false := by simp
  have t2 : decide ((64 : Int) < (n : Int)) = false := by simp; omega
  have t3 : decide ((N : Int) - (k : Int) < (n : Int)) = true := by simp; omega
  have hkN : k ≤ N := by omega
  have H := kept h
  clear h hN hs hk hl
  go_enter Try.func50, Try.ntmps50
  go_wp2_with fail
  generalize hwa : World.alloc w _ = wa
  have hb : Below w.heap.size w wa := by rw [← hwa]; exact (Below.refl _ _).alloc (Nat.le_refl _) _
  have hG : Blk wa w.heap.size #[.int .u64 0, .int .i64 0, .int .i64 0] 107 := by rw [← hwa]; exact Blk.fresh _ _ _
  have h1 := H.out.later hb
  have l0 := lat_cell (h1.blk.cell (i := 0) rfl)
  have l1 := lat_cell (h1.blk.cell (i := 1) rfl)
  have HG := kept hG
  have HB := kept hb
  clear hwa hb hG h1
  refine wp_region_quietL (by kernel_rfl) (by kernel_rfl) ?_
  repeat (go_big_quiet_step (fail))
  refine wpQuiet_nil ?_
  intro nq
  have HG2 : Kept (Blk nq.w w.heap.size #[.int .u64 0, .int .i64 0, .int .i64 0] 107) := kept (lat_block HG.out nq)
  have HB2 := kept (HB.out.trans (nq.below.mono HB.out.size))
  generalize nq.w = w2 at HG2 HB2 ⊢
  obtain ⟨c0, c1, c2, f0, f1, f2⟩ := got_cells HG2.out
  go_wp2_with fail
  exact bodyPost_ret (results_cell_row rfl _ _ w.heap.size 107 #[.int .u64 0, .int .i64 0, .int .i64 2] (0, 0) _ rfl (((HG2.out.set 0 _).set 1 _).set 2 _) Try.underlying107 rfl (by kernel_rfl)) rfl ⟨rfl, ((HB2.out.setCell (p := ⟨w.heap.size, 0, none⟩) (Nat.le_refl _) _).setCell (p := ⟨w.heap.size, 1, none⟩) (Nat.le_refl _) _).setCell (p := ⟨w.heap.size, 2, none⟩) (Nat.le_refl _) _⟩

set_option maxHeartbeats 2000000 in
theorem kget_ok (p : Nat) (v : Value) (s : ByteArray) (k n : Nat) (w : World) (h : IsK w p v s k) (hs : s.size ≤ 1000000000) (hn : n ≤ 64) (hl : k + n ≤ 8 * s.size) :
    Calls Try.prog 50 #[.pointer (some ⟨p, 0, none⟩), .int .i64 (n : Int)] w fun e w' => e = .returned (.agg #[.int .u64 (ofBits (((bitsS s).drop k).take n) : Int), .int .i64 0, .int .i64 0]) ∧
      IsK w' p v s (k + n) ∧ Chg (fun b => b = p) w w' := by
  obtain ⟨a, cap, rfl, hcap, _, _⟩ := h.row.rd
  obtain ⟨N, hN⟩ : ∃ N, N = 8 * s.size := ⟨_, rfl⟩
  rw [length_u8s, length_bits01, length_bitsS, ← hN] at h
  rw [length_u8s, length_bits01, length_bitsS, ← hN] at hcap
  rw [show (u8s (bits01 (bitsS s))).length = N by rw [length_u8s, length_bits01, length_bitsS, hN]]
  have hN2 : N < 100000000000 := by omega
  have t1 : decide ((n : Int) < 0) = false := by simp
  have t2 : decide ((64 : Int) < (n : Int)) = false := by simp; omega
  have t3 : decide ((N : Int) - (k : Int) < (n : Int)) = false := by simp; omega
  have hkN : k + n ≤ N := by omega
  have H := kept h
  clear h hs hl hN
  go_enter Try.func50, Try.ntmps50
  go_wp2_with fail
  generalize hwa : World.alloc w _ = wa
  have hb : Below w.heap.size w wa := by rw [← hwa]; exact (Below.refl _ _).alloc (Nat.le_refl _) _
  have hG : Blk wa w.heap.size #[.int .u64 0, .int .i64 0, .int .i64 0] 107 := by rw [← hwa]; exact Blk.fresh _ _ _
  have h1 := H.out.later hb
  have l0 := lat_cell (h1.blk.cell (i := 0) rfl)
  have l1 := lat_cell (h1.blk.cell (i := 1) rfl)
  have HG := kept hG
  have HB := kept hb
  have H1 := kept h1
  clear hwa hb hG h1
  refine wp_region_quietL (by kernel_rfl) (by kernel_rfl) ?_
  repeat (go_big_quiet_step (fail))
  refine wpQuiet_nil ?_
  intro nq
  have HG2 : Kept (Blk nq.w w.heap.size #[.int .u64 0, .int .i64 0, .int .i64 0] 107) := kept (lat_block HG.out nq)
  have HB2 := kept (HB.out.trans (nq.below.mono HB.out.size))
  have H2 := kept (H1.out.later nq.below)
  generalize nq.w = w2 at HG2 HB2 H2 ⊢
  clear l0 l1 H1 HG HB
  have l0 := lat_cell (H2.out.blk.cell (i := 0) rfl)
  have l1 := lat_cell (H2.out.blk.cell (i := 1) rfl)
  go_wp2_with fail
  refine wp_region_quietL (by kernel_rfl) (by kernel_rfl) ?_
  repeat (go_big_quiet_step (fail))
  obtain ⟨a2, ha2⟩ : ∃ a2, a2 = (if cap = k then a else a.map (fun x => x.add k)) := ⟨_, rfl⟩
  obtain ⟨n2, hn2⟩ : ∃ n2, n2 = k + n - k := ⟨_, rfl⟩
  obtain ⟨T, hT⟩ : ∃ T, T = ofBits (((bitsS s).drop k).take n) := ⟨_, rfl⟩
  have hnum : ∀ m : Lat w2, Calls Try.prog 72 #[.slice a2 n2 (cap - k)] m.w fun e w' => e = .returned (.int .u64 (T : Int)) ∧ m.w = w' := fun m => by
    have h := ((H2.out.later m.below).row.rd).sub k n hkN
    rw [← ha2, ← hn2] at h
    rw [hT]
    exact number_calls _ _ _ (((bitsS s).drop k).take n) m.w (by simpa [u8s, bits01, List.map_take, List.map_drop] using h) (by rw [List.length_take]; omega)
  rw [← ha2, ← hn2]
  have HNum := kept hnum
  have HT := kept hT
  clear hnum ha2 hn2 hT
  repeat (go_big_quiet_step ((go_at_call 72; exact lat_call_same (HNum.out _))))
  refine wpQuiet_nil ?_
  intro nq2
  have HG3 : Kept (Blk nq2.w w.heap.size #[.int .u64 0, .int .i64 0, .int .i64 0] 107) := kept (lat_block HG2.out nq2)
  have HB3 := kept (HB2.out.trans (nq2.below.mono HB2.out.size))
  have H3 := kept (H2.out.later nq2.below)
  generalize nq2.w = w3 at HG3 HB3 H3 ⊢
  clear l0 l1 H2 HG2 HB2
  obtain ⟨G, hG⟩ : ∃ G, G = w.heap.size := ⟨_, rfl⟩
  rw [← hG] at HG3 HB3
  rw [← hG]
  have hpG : p ≠ G := by have := H.out.blk.lt; omega
  have hGp : G ≠ p := fun e => hpG e.symm
  obtain ⟨c0, c1, c2, f0, f1, f2⟩ := got_cells HG3.out
  have e1 : w3.cell? ⟨p, 1, none⟩ = some (.int .i64 (k : Int)) := H3.out.blk.cell rfl
  have ef : w3.frozen? ⟨p, 1, none⟩ = false := H3.out.blk.free 1
  have HGe := kept hG
  clear hG
  go_wp2_with fail
  refine bodyPost_ret (results_cell_row rfl _ _ G 107 #[.int .u64 (T : Int), .int .i64 0, .int .i64 0] (0, 0) _ rfl ((((HG3.out.setOther (a := ⟨p, 1, none⟩) hGp _).set 0 _).set 1 _).set 2 _) Try.underlying107 rfl (by kernel_rfl)) rfl ⟨by rw [HT.out], ⟨?_, ?_⟩, ?_⟩
  · exact (((H3.out.blk.set 1 (.int .i64 ((k : Int) + (n : Int)))).setOther (a := ⟨G, 0, none⟩) hpG _).setOther (a := ⟨G, 1, none⟩) hpG _).setOther (a := ⟨G, 2, none⟩) hpG _
  · have hv1 : (Value.slice a N cap).ownBlock ≠ some p := H3.out.row.ne H3.out.blk (by decide)
    have hv2 : (Value.slice a N cap).ownBlock ≠ some G := H3.out.row.ne HG3.out (by decide)
    exact (((H3.out.row.setOther (a := ⟨p, 1, none⟩) hv1 _).setOther (a := ⟨G, 0, none⟩) hv2 _).setOther (a := ⟨G, 1, none⟩) hv2 _).setOther (a := ⟨G, 2, none⟩) hv2 _
  · have hb3 := HB3.out
    rw [HGe.out] at hb3
    have h1 := (Chg.of_below (S := fun b => b = p) hb3).trans (Chg.setCell w3 ⟨p, 1, none⟩ (.int .i64 ((k : Int) + (n : Int)))) (fun _ _ h => h)
    have hno : ∀ b, b < w.heap.size → b = G → b = p := fun b hb e => by have := HGe.out; omega
    exact ((h1.trans (Chg.setCell _ ⟨G, 0, none⟩ _) hno).trans (Chg.setCell _ ⟨G, 1, none⟩ _) hno).trans (Chg.setCell _ ⟨G, 2, none⟩ _) hno

theorem kget_calls (p : Nat) (v : Value) (s : ByteArray) (k : Nat) (n : Int) (w : World) (h : IsK w p v s k) (hs : s.size ≤ 1000000000) (hk : k ≤ 8 * s.size) :
    Calls Try.prog 50 #[.pointer (some ⟨p, 0, none⟩), .int .i64 n] w fun e w' => e = .returned (.agg #[.int .u64 ((getS s k n).1 : Int), .int .i64 0, .int .i64 ((getS s k n).2.1 : Int)]) ∧
      IsK w' p v s (getS s k n).2.2 ∧ Chg (fun b => b = p) w w' := by
  unfold getS
  by_cases hn : n < 0 ∨ 64 < n
  · rw [if_pos hn]
    exact (kget_arg p v s k n w hn).mono fun e w' ⟨he, hb⟩ => ⟨he, h.later hb, Chg.of_below hb⟩
  · rw [if_neg hn]
    obtain ⟨m, rfl⟩ := Int.eq_ofNat_of_zero_le (show 0 ≤ n by omega)
    by_cases hm : 8 * (s.size : Int) - (k : Int) < (m : Int)
    · rw [if_pos hm]
      exact (kget_more p v s k m w h hs hk (by omega) (by omega)).mono fun e w' ⟨he, hb⟩ => ⟨he, h.later hb, Chg.of_below hb⟩
    · rw [if_neg hm]
      exact kget_ok p v s k m w h hs (by omega) (by omega)

set_option maxHeartbeats 2000000 in
theorem krest_calls (p : Nat) (v : Value) (s : ByteArray) (k : Nat) (w : World) (h : IsK w p v s k) (hs : s.size ≤ 1000000000) (hk : k ≤ 8 * s.size) :
    Calls Try.prog 51 #[.pointer (some ⟨p, 0, none⟩)] w fun e w' => e = .returned (.bool (restS s k)) ∧ Below w.heap.size w w' := by
  obtain ⟨a, cap, rfl, hcap, _, _⟩ := h.row.rd
  obtain ⟨N, hN⟩ : ∃ N, N = 8 * s.size := ⟨_, rfl⟩
  rw [length_u8s, length_bits01, length_bitsS, ← hN] at h
  rw [length_u8s, length_bits01, length_bitsS, ← hN] at hcap
  have hN2 : N < 100000000000 := by omega
  have hkN : k ≤ N := by omega
  have l0 := lat_cell (h.blk.cell (i := 0) rfl)
  have l1 := lat_cell (h.blk.cell (i := 1) rfl)
  by_cases h8 : k + 8 ≤ N
  · have e : restS s k = false := by unfold restS; rw [decide_eq_false (by omega)]; rfl
    rw [e]
    have t1 : decide ((N : Int) - (k : Int) < 8) = false := by simp; omega
    clear hN e h
    go_enter Try.func51, Try.ntmps51
    go_wp2_with fail
    refine wp_region_quietL (by kernel_rfl) (by kernel_rfl) ?_
    repeat (go_big_quiet_step (fail))
    refine wpQuiet_nil ?_
    intro nq
    go_wp2_with fail
    go_ret
    exact ⟨rfl, nq.below⟩
  · have t1 : decide ((N : Int) - (k : Int) < 8) = true := by simp; omega
    obtain ⟨T, hT⟩ : ∃ T, T = ofBits ((bitsS s).drop k) := ⟨_, rfl⟩
    have e : restS s k = ((T : Int) == 0) := by
      unfold restS
      rw [decide_eq_true (by omega), Bool.true_and, Bool.eq_iff_iff, ← ofBits_zero, ← hT, beq_iff_eq]
      omega
    rw [e]
    obtain ⟨a2, ha2⟩ : ∃ a2, a2 = (if cap = k then a else a.map (fun x => x.add k)) := ⟨_, rfl⟩
    have hnum : ∀ m : Lat w, Calls Try.prog 72 #[.slice a2 (N - k) (cap - k)] m.w fun e w' => e = .returned (.int .u64 (T : Int)) ∧ m.w = w' := fun m => by
      have h := ((h.later m.below).row.rd).sub k (N - k) (by omega)
      rw [← ha2, show k + (N - k) - k = N - k by omega] at h
      rw [hT]
      refine number_calls _ _ _ ((bitsS s).drop k) m.w ?_ (by rw [List.length_drop, length_bitsS]; omega)
      rw [List.take_of_length_le (by rw [List.length_drop, length_u8s, length_bits01, length_bitsS]; omega)] at h
      simpa [u8s, bits01, List.map_drop] using h
    have HNum := kept hnum
    have HA := kept ha2
    have HT := kept hT
    clear hnum ha2 hT hN e h
    go_enter Try.func51, Try.ntmps51
    go_wp2_with fail
    refine wp_region_quietL (by kernel_rfl) (by kernel_rfl) ?_
    repeat (go_big_quiet_step (fail))
    rw [← HA.out]
    repeat (go_big_quiet_step ((go_at_call 72; exact lat_call_same (HNum.out _))))
    refine wpQuiet_nil ?_
    intro nq
    go_wp2_with fail
    go_ret
    exact ⟨rfl, nq.below⟩
end Go.Proofs.Yteeegomdaebobaa

-- ---- Sqc
/- wringerref7.GetStates: what it holds on the way; the calls that answer ahead of the bytes. Conditions: those that each theorem names. -/
namespace Go.Proofs.Yteeegomdaebobaa.St
set_option maxRecDepth 100000
set_option linter.unusedSimpArgs false
set_option linter.unusedVariables false
open Go.RowKit Go.Proofs.YteeegomdaebobaaW.PrintWords Go.Proofs.YteeegomdaebobaaW.PrintLast Go.Proofs.YteeegomdaebobaaW.PrintMore PA Mix _root_.Go.Proofs.Yteeegomdaebobaa.Own Bits Nl Sp Vt Np
attribute [local go_sem] Own.max_int Own.min_int

/-- What getting parts answers. -/
def RGetPost (L : List Int) (lg : Int) (s : ByteArray) (n : Int) (w : World) (e : Ending) (w' : World) : Prop :=
  ∃ v, e = .returned (.agg #[v, .int .i64 (getSE s n L lg).2]) ∧ OwnK w' 58 2 v (getSE s n L lg).1.length (flN (getSE s n L lg).1) ∧ (∀ g, v.ownBlock = some g → w.heap.size ≤ g) ∧ Below w.heap.size w w'
theorem rgetPost_bad {L : List Int} {lg : Int} {s : ByteArray} {n : Int} {w w' : World} {er : Int} (h : getSE s n L lg = ([], er)) (hb : Below w.heap.size w w') : RGetPost L lg s n w (.returned (.agg #[.slice none 0 0, .int .i64 er])) w' := by
  unfold RGetPost
  rw [h]
  exact ⟨_, rfl, OwnK.nil _ _ _, fun g hg => by simp [Value.ownBlock] at hg, hb⟩
/-- A list that is told: put at its cell. -/
theorem told_set {w : World} {pt : Nat} {v0 v e0 e : Value} (h : Blk w pt #[v0, e0] 49) :
    Blk ((w.setCell ⟨pt, 0, none⟩ v).setCell ⟨pt, 1, none⟩ e) pt #[v, e] 49 := by
  have h := (h.set 0 v).set 1 e
  simpa using h
theorem told_low {B : Nat} {w w' : World} {pt : Nat} (h : Below B w w') (hp : B ≤ pt) (u v : Value) : Below B w ((w'.setCell ⟨pt, 0, none⟩ u).setCell ⟨pt, 1, none⟩ v) := (h.setCell (p := ⟨pt, 0, none⟩) hp u).setCell (p := ⟨pt, 1, none⟩) hp v

set_option maxHeartbeats 2000000 in
theorem rsget_form (A0 : Option Addr) (c0 : Nat) (L : List Int) (lg : Int) (s : ByteArray) (n : Int) (w : World) (hL : L.length < 17592186044416) (hr0 : Kd.C (Kd.int .i64) w A0 L.length L) (hc0 : L.length ≤ c0) (hm : mayN L lg = false) :
    Calls Try.prog 19 #[.string s, .int .i64 n, .slice A0 L.length c0, .int .i64 lg] w (RGetPost L lg s n w) := by
  have HG := kept (show getSE s n L lg = ([], 3) by unfold getSE; rw [hm]; rfl)
  have HC := kept (fun wx (hC : Kd.C (Kd.int .i64) wx A0 L.length L) => rtab_bad A0 c0 L lg wx hL hC hc0 hm)
  have HR := kept hr0
  obtain ⟨l, hl⟩ : ∃ l, l = L.length := ⟨_, rfl⟩
  rw [← hl] at HC HR ⊢
  clear hr0 hc0 hm hl hL
  go_enter Try.func19, Try.ntmps19
  go_wp2_with fail
  generalize hw1 : World.alloc w _ = w1
  obtain ⟨pt, hpt⟩ : ∃ pt, pt = w.heap.size := ⟨_, rfl⟩
  have hal : Below w.heap.size w w1 := by rw [← hw1]; exact (Below.refl _ _).alloc (Nat.le_refl _) _
  have HT1 : Own.Kept (Blk w1 pt #[.slice none 0 0, .int .i64 0] 49) := kept (by rw [hpt, ← hw1]; exact Blk.fresh _ _ _)
  have HB1 := kept hal
  have HPt : Own.Kept (w.heap.size ≤ pt) := kept (Nat.le_of_eq hpt.symm)
  rw [← hpt]
  clear hw1 hal hpt
  refine (HC.out w1 (Kd.C_below HR.out HB1.out)).mono ?_
  rintro e w2 ⟨g, k, ct, rfl, hb2⟩
  have HT2 : Own.Kept (Blk w2 pt #[.slice none 0 0, .int .i64 0] 49) := kept ((hb2.block pt (Blk.lt HT1.out)).trans HT1.out)
  have HB2 := kept (HB1.out.trans (hb2.mono HB1.out.size))
  clear hb2
  go_upto_region 3 with fail
  generalize hw3 : World.alloc w2 _ = w3
  have hal : Below w2.heap.size w2 w3 := by rw [← hw3]; exact (Below.refl _ _).alloc (Nat.le_refl _) _
  have HT3 : Own.Kept (Blk w3 pt #[.slice none 0 0, .int .i64 0] 49) := kept ((hal.block pt (Blk.lt HT2.out)).trans HT2.out)
  have HB3 := kept (HB2.out.trans (hal.mono HB2.out.size))
  have c0 : w3.cell? ⟨pt, 0, none⟩ = some (.slice none 0 0) := Blk.cell HT3.out rfl
  have c1 : w3.cell? ⟨pt, 1, none⟩ = some (.int .i64 0) := Blk.cell HT3.out rfl
  have f0 : w3.frozen? ⟨pt, 0, none⟩ = false := Blk.free HT3.out 0
  have f1 : w3.frozen? ⟨pt, 1, none⟩ = false := Blk.free HT3.out 1
  clear hw3 hal
  go_wp2_with fail
  have hBz := told_set (v := .slice none 0 0) (e := .int .i64 3) HT3.out
  have hCz := told_low HB3.out HPt.out (.slice none 0 0) (.int .i64 3)
  generalize World.setCell _ _ _ = wz at hBz hCz ⊢
  have z0 : wz.cell? ⟨pt, 0, none⟩ = some (.slice none 0 0) := Blk.cell hBz rfl
  have z1 : wz.cell? ⟨pt, 1, none⟩ = some (.int .i64 3) := Blk.cell hBz rfl
  refine bodyPost_ret (v := .agg #[.slice none 0 0, .int .i64 3]) (by simp [results, Try.results19, go_sem, z0, z1]) rfl ?_
  exact rgetPost_bad HG.out hCz

set_option maxHeartbeats 4000000 in
theorem rsget_arg (A0 : Option Addr) (c0 : Nat) (L : List Int) (m : Nat) (s : ByteArray) (n : Int) (w : World) (hr0 : Kd.C (Kd.int .i64) w A0 L.length L) (hc0 : L.length ≤ c0) (hm : mayN L (m : Int) = true) (hn : n < 0 ∨ 4096 < n) :
    Calls Try.prog 19 #[.string s, .int .i64 n, .slice A0 L.length c0, .int .i64 (m : Int)] w (RGetPost L m s n w) := by
  have HG := kept (show getSE s n L (m : Int) = ([], 1) by unfold getSE; rw [hm, if_pos rfl, if_pos hn])
  have HC := kept (fun wx (hC : Kd.C (Kd.int .i64) wx A0 L.length L) => rtab_ok A0 c0 L m wx hC hc0 hm)
  have HR := kept hr0
  have h65 := (mayS_of hm).len
  rw [h65] at HC HR ⊢
  clear hr0 hc0 hm h65
  have hd : (decide (n < 0) = true) ∨ (decide (n < 0) = false ∧ decide ((4096 : Int) < n) = true) := by
    by_cases h : n < 0
    · exact .inl (decide_eq_true h)
    · exact .inr ⟨decide_eq_false h, decide_eq_true (by omega)⟩
  clear hn
  go_enter Try.func19, Try.ntmps19
  go_wp2_with fail
  generalize hw1 : World.alloc w _ = w1
  obtain ⟨pt, hpt⟩ : ∃ pt, pt = w.heap.size := ⟨_, rfl⟩
  have hal : Below w.heap.size w w1 := by rw [← hw1]; exact (Below.refl _ _).alloc (Nat.le_refl _) _
  have HT1 : Own.Kept (Blk w1 pt #[.slice none 0 0, .int .i64 0] 49) := kept (by rw [hpt, ← hw1]; exact Blk.fresh _ _ _)
  have HB1 := kept hal
  have HPt : Own.Kept (w.heap.size ≤ pt) := kept (Nat.le_of_eq hpt.symm)
  rw [← hpt]
  clear hw1 hal hpt
  refine (HC.out w1 (Kd.C_below HR.out HB1.out)).mono ?_
  rintro e w2 ⟨g, ct, rfl, _, _, hb2⟩
  have HT2 : Own.Kept (Blk w2 pt #[.slice none 0 0, .int .i64 0] 49) := kept ((hb2.block pt (Blk.lt HT1.out)).trans HT1.out)
  have HB2 := kept (HB1.out.trans (hb2.mono HB1.out.size))
  clear hb2
  go_upto_region 4 with fail
  generalize hw3 : World.alloc w2 _ = w3
  have hal : Below w2.heap.size w2 w3 := by rw [← hw3]; exact (Below.refl _ _).alloc (Nat.le_refl _) _
  have HT3 : Own.Kept (Blk w3 pt #[.slice none 0 0, .int .i64 0] 49) := kept ((hal.block pt (Blk.lt HT2.out)).trans HT2.out)
  have HB3 := kept (HB2.out.trans (hal.mono HB2.out.size))
  have c0 : w3.cell? ⟨pt, 0, none⟩ = some (.slice none 0 0) := Blk.cell HT3.out rfl
  have c1 : w3.cell? ⟨pt, 1, none⟩ = some (.int .i64 0) := Blk.cell HT3.out rfl
  have f0 : w3.frozen? ⟨pt, 0, none⟩ = false := Blk.free HT3.out 0
  have f1 : w3.frozen? ⟨pt, 1, none⟩ = false := Blk.free HT3.out 1
  clear hw3 hal
  rcases hd with hd | ⟨hd1, hd2⟩
  all_goals
    go_wp2_with fail
    have hBz := told_set (v := .slice none 0 0) (e := .int .i64 1) HT3.out
    have hCz := told_low HB3.out HPt.out (.slice none 0 0) (.int .i64 1)
    generalize World.setCell _ _ _ = wz at hBz hCz ⊢
    have z0 : wz.cell? ⟨pt, 0, none⟩ = some (.slice none 0 0) := Blk.cell hBz rfl
    have z1 : wz.cell? ⟨pt, 1, none⟩ = some (.int .i64 1) := Blk.cell hBz rfl
    refine bodyPost_ret (v := .agg #[.slice none 0 0, .int .i64 1]) (by simp [results, Try.results19, go_sem, z0, z1]) rfl ?_
    exact rgetPost_bad HG.out hCz

/-- On the way: the answer's cell at pt, what is told when it is bad at pb, the table's at pk. -/
structure StH (B : Nat) (w wr : World) (pt pb pk g ct : Nat) (L : List Int) (m : Nat) : Prop where
  txt : Blk wr pt #[.slice none 0 0, .int .i64 0] 49
  bad : Blk wr pb #[.slice none 0 0, .int .i64 3] 49
  cel : Blk wr pk #[.slice (some ⟨g, 0, none⟩) (2 ^ m) ct, .int .i64 0] 97
  tab : IsTab wr g ct L m
  low : Below B w wr
  sz : B ≤ wr.heap.size
  pB : B ≤ pt
section
variable {B : Nat} {w wr w' : World} {pt pb pk g ct : Nat} {L : List Int} {m : Nat}
theorem StH.later (h : StH B w wr pt pb pk g ct L m) (hb : Below wr.heap.size wr w') : StH B w w' pt pb pk g ct L m :=
  ⟨(hb.block pt (Blk.lt h.txt)).trans h.txt, (hb.block pb (Blk.lt h.bad)).trans h.bad, (hb.block pk (Blk.lt h.cel)).trans h.cel, h.tab.later hb, h.low.trans (hb.mono h.sz), Nat.le_trans h.sz hb.size, h.pB⟩
/-- A block of another type turns. -/
theorem StH.chg (h : StH B w wr pt pb pk g ct L m) {S : Nat → Prop} (hc : Chg S wr w') (hS : ∀ k, S k → B ≤ k ∧ ∃ ds t, Blk wr k ds t ∧ t ≠ 49 ∧ t ≠ 97 ∧ t ≠ 105) : StH B w w' pt pb pk g ct L m := by
  refine ⟨hc.keep h.txt fun hh => ?_, hc.keep h.bad fun hh => ?_, hc.keep h.cel fun hh => ?_, OwnK.chg h.tab hc fun k hk hh => ?_, h.low.trans (hc.below h.sz fun k hk hh => ?_), Nat.le_trans h.sz hc.size, h.pB⟩
  · obtain ⟨_, ds, t, hb, h1, h2, h3⟩ := hS _ hh
    exact hb.ne h.txt h1 rfl
  · obtain ⟨_, ds, t, hb, h1, h2, h3⟩ := hS _ hh
    exact hb.ne h.bad h1 rfl
  · obtain ⟨_, ds, t, hb, h1, h2, h3⟩ := hS _ hh
    exact hb.ne h.cel h2 rfl
  · obtain ⟨_, ds, t, hb, h1, h2, h3⟩ := hS _ hh
    exact OwnK.ne h.tab hb (fun e => h3 e.symm) hk
  · have := (hS _ hh).1; omega
end
theorem IsT.keepS {w w' : World} {S : Nat → Prop} {p : Nat} {a : Option Addr} {cap : Nat} {s : ByteArray} {k : Nat} (h : IsT w p a cap s k) (hc : Chg S w w') (hS : ∀ b, S b → ∃ ds t, Blk w b ds t ∧ t ≠ 114 ∧ t ≠ 5) : IsT w' p a cap s k :=
  ⟨hc.keep h.blk fun hh => by
    obtain ⟨ds, t, hb, h1, h2⟩ := hS _ hh
    exact hb.ne h.blk h1 rfl, h.row.chg hc fun b hb hh => by
    obtain ⟨ds, t, hb2, h1, h2⟩ := hS _ hh
    exact h.row.ne hb2 (fun e => h2 e.symm) hb, h.le⟩
theorem IsK.keepS {w w' : World} {S : Nat → Prop} {p : Nat} {v : Value} {s : ByteArray} {k : Nat} (h : IsK w p v s k) (hc : Chg S w w') (hS : ∀ b, S b → ∃ ds t, Blk w b ds t ∧ t ≠ 144 ∧ t ≠ 5) : IsK w' p v s k :=
  ⟨hc.keep h.blk fun hh => by
    obtain ⟨ds, t, hb, h1, h2⟩ := hS _ hh
    exact hb.ne h.blk h1 rfl, h.row.chg hc fun b hb hh => by
    obtain ⟨ds, t, hb2, h1, h2⟩ := hS _ hh
    exact h.row.ne hb2 (fun e => h2 e.symm) hb⟩
end Go.Proofs.Yteeegomdaebobaa.St

-- ---- Sqd
/- wringerref7.GetStates: the parts of bytes: what the call answers. Conditions: those that each theorem names. -/
namespace Go.Proofs.Yteeegomdaebobaa.St
set_option maxRecDepth 100000
set_option linter.unusedSimpArgs false
set_option linter.unusedVariables false
open Go.RowKit Go.Proofs.YteeegomdaebobaaW.PrintWords Go.Proofs.YteeegomdaebobaaW.PrintLast Go.Proofs.YteeegomdaebobaaW.PrintMore PA Mix _root_.Go.Proofs.Yteeegomdaebobaa.Own Bits Nl Sp Vt Np
attribute [local go_sem] Own.max_int Own.min_int

theorem sizes_ok (S u v : Nat) (h2 : u ≤ S) (hs : S ≤ 1000000000) (hl : v ≤ S - u) : decide ((S : Int) - (u : Int) < (v : Int)) = false ∧ wrap64 (v : Int) = (v : Int) ∧ wrap64 ((u : Int) + (v : Int)) = ((u + v : Nat) : Int) ∧ u ≤ u + v ∧ u + v ≤ S :=
  ⟨decide_eq_false (by omega), by unfold wrap64; omega, by unfold wrap64; omega, by omega, by omega⟩
theorem sizes_bad (S u v : Nat) (h2 : u ≤ S) (hl : ¬ v ≤ S - u) : decide ((S : Int) - (u : Int) < (v : Int)) = true := decide_eq_true (by omega)
theorem sizes_all (S u : Nat) (h2 : u ≤ S) (hs : S ≤ 1000000000) : wrap64 ((S : Int) - (u : Int)) = (S : Int) - (u : Int) ∧ IntKind.u64.wrap ((S : Int) - (u : Int)) = (S : Int) - (u : Int) :=
  ⟨by unfold wrap64; omega, by rw [IntKind.wrap_u64]; omega⟩
theorem err_ne (er : Nat) (h : er ≠ 0) : ((er : Int) != 0) = true := by rw [bne_iff_ne]; omega
theorem sum_ok {L : List Int} {m s' n' v1 : Nat} (hM : MayS L m) (h : s' + 2 ^ n' ≤ 2 ^ m) (hv : v1 < 2 ^ n') : s' + v1 < 2 ^ m ∧ wrap64 (v1 : Int) = (v1 : Int) ∧ wrap64 ((s' : Int) + (v1 : Int)) = ((s' + v1 : Nat) : Int) := by
  have h1 : s' + v1 < 2 ^ m := Nat.lt_of_lt_of_le (Nat.add_lt_add_left hv s') h
  have h2 : s' + v1 < 4096 := Nat.lt_of_lt_of_le h1 (pow12 m hM.hi)
  refine ⟨h1, ?_, ?_⟩
  · clear h h1 hv
    unfold wrap64; omega
  · clear h h1 hv
    unfold wrap64; omega
def lenOf : Value → Nat
  | .slice _ n _ => n
  | _ => 0
theorem small64 {L : List Int} {m x : Nat} (h : x < 2 ^ m) (hM : MayS L m) : wrap64 (x : Int) = (x : Int) := by
  have h2 := pow12 m hM.hi
  have h3 : x < 4096 := Nat.lt_of_lt_of_le h h2
  clear h h2
  unfold wrap64; omega
theorem size_ext (s : ByteArray) (i j : Nat) : (s.extract i j).size ≤ s.size := by rw [ByteArray.size_extract]; omega
set_option hygiene false in
/-- What is bad is told. -/
local macro "bad_ret" H:term "," HG:term "," HB:term : tactic => `(tactic| (
  have b0 := (($H).out).bad.cell (i := 0) rfl
  have b1 := (($H).out).bad.cell (i := 1) rfl
  have c0 := (($H).out).txt.cell (i := 0) rfl
  have c1 := (($H).out).txt.cell (i := 1) rfl
  have f0 := (($H).out).txt.free 0
  have f1 := (($H).out).txt.free 1
  go_wp2_with fail
  have hBz := told_set (v := .slice none 0 0) (e := .int .i64 3) (($H).out).txt
  have hCz := told_low (($H).out).low (($H).out).pB (.slice none 0 0) (.int .i64 3)
  generalize World.setCell _ _ _ = wz at hBz hCz ⊢
  have z0 : wz.cell? ⟨pt, 0, none⟩ = some (.slice none 0 0) := Blk.cell hBz rfl
  have z1 : wz.cell? ⟨pt, 1, none⟩ = some (.int .i64 3) := Blk.cell hBz rfl
  refine bodyPost_ret (v := .agg #[.slice none 0 0, .int .i64 3]) (by simp [results, Try.results19, go_sem, z0, z1]) rfl ?_
  have hfin := rgetPost_bad (w := w) $HG (by rw [← ($HB).out]; exact hCz)
  exact hfin))

set_option maxRecDepth 100000 in
set_option maxHeartbeats 16000000 in
theorem rsget_calls (A0 : Option Addr) (c0 : Nat) (L : List Int) (m : Nat) (s : ByteArray) (N : Nat) (w : World) (hr0 : Kd.C (Kd.int .i64) w A0 L.length L) (hc0 : L.length ≤ c0) (hm : mayN L (m : Int) = true) (hN : N ≤ 4096) (hs : s.size ≤ 1000000000) :
    Calls Try.prog 19 #[.string s, .int .i64 (N : Int), .slice A0 L.length c0, .int .i64 (m : Int)] w (RGetPost L m s (N : Int) w) := by
  obtain ⟨i0, hi, hz0, hz1, hz2⟩ := info_partsS infoPart
  have HC := kept (fun wx (hC : Kd.C (Kd.int .i64) wx A0 L.length L) => rtab_ok A0 c0 L m wx hC hc0 hm)
  have HM := kept (mayS_of hm)
  have HR := kept hr0
  have h65 := HM.out.len
  have hg : getSE s (N : Int) L (m : Int) = ansG (fullG L m N (splitV s)) := by
    unfold getSE
    rw [if_pos hm, if_neg (by omega), Int.toNat_natCast, Int.toNat_natCast]
  have HG := kept hg
  have t1 : decide ((N : Int) < 0) = false := decide_eq_false (by omega)
  have t2 : decide ((4096 : Int) < (N : Int)) = false := decide_eq_false (by omega)
  rw [h65] at HC HR ⊢
  obtain ⟨B, hB⟩ : ∃ B, B = w.heap.size := ⟨_, rfl⟩
  have HBe := kept hB
  clear hr0 hc0 hm hg h65 hB
  go_enter Try.func19, Try.ntmps19
  go_wp2_with fail
  generalize hw1 : World.alloc w _ = w1
  obtain ⟨pt, hpt⟩ : ∃ pt, pt = w.heap.size := ⟨_, rfl⟩
  have hal : Below w.heap.size w w1 := by rw [← hw1]; exact (Below.refl _ _).alloc (Nat.le_refl _) _
  have HT1 : Own.Kept (Blk w1 pt #[.slice none 0 0, .int .i64 0] 49) := kept (by rw [hpt, ← hw1]; exact Blk.fresh _ _ _)
  have HB1 := kept hal
  have HPt : Own.Kept (B ≤ pt) := kept (by rw [HBe.out]; exact Nat.le_of_eq hpt.symm)
  rw [← hpt]
  clear hw1 hal hpt
  refine (HC.out w1 (Kd.C_below HR.out HB1.out)).mono ?_
  rintro e w2 ⟨g, ct, rfl, hT, hgg, hb2⟩
  have HO2 := kept hT
  have HT2 : Own.Kept (Blk w2 pt #[.slice none 0 0, .int .i64 0] 49) := kept ((hb2.block pt (Blk.lt HT1.out)).trans HT1.out)
  have HB2 := kept (HB1.out.trans (hb2.mono HB1.out.size))
  clear hb2 hT hgg
  go_upto_region 7 with fail
  obtain ⟨pk, hpk⟩ : ∃ pk, pk = w2.heap.size := ⟨_, rfl⟩
  obtain ⟨pb, hpb⟩ : ∃ pb, pb = w2.heap.size + 1 := ⟨_, rfl⟩
  generalize hw3 : World.alloc (World.alloc w2 _) _ = w3
  have hal : Below w2.heap.size w2 w3 := by rw [← hw3]; exact ((Below.refl _ _).alloc (Nat.le_refl _) _).alloc (by simp) _
  have HS3 : Own.Kept (StH B w w3 pt pb pk g ct L m) := kept (by
    refine ⟨(hal.block pt (Blk.lt HT2.out)).trans HT2.out, ?_, ?_, HO2.out.later hal, ?_, ?_, HPt.out⟩
    · rw [hpb, ← hw3]; exact Blk.fresh_at _ _ (by simp) _ _
    · rw [hpk, ← hw3]; exact Blk.alloc (Blk.fresh w2 _ _) _
    · rw [HBe.out]; exact HB2.out.trans (hal.mono HB2.out.size)
    · rw [HBe.out]; exact Nat.le_trans HB2.out.size hal.size)
  rw [← hpb, ← hpk]
  clear hw3 hal hpk hpb HT1 HT2 HB1 HB2 HO2 HPt HC HR
  obtain ⟨v, u, er, hgv⟩ : ∃ v u er, goV 10 true (bsOf s) = (v, u, er) := ⟨_, _, _, rfl⟩
  have hu := goV_size 10 true (bsOf s)
  rw [hgv] at hu
  by_cases he : er = 0
  · subst he
    obtain ⟨_, hu2, hu3⟩ := hu rfl
    rw [length_bsOf] at hu2
    simp only at hu2 hu3
    have hv : vgetE s 0 = ((v : Int), (u : Int), 0) := by
      unfold vgetE
      rw [if_neg (by omega)]
      simp only [Int.toNat_zero, List.drop_zero, hgv, Int.zero_add]
      simp
    obtain ⟨kv, hkv⟩ := (rgetv_is s 0 (Nat.le_trans hs (by decide))).rounds
    rw [hv] at hkv
    have HV := kept (fun w1 => wringerref1_GetVint.calls kv s 0 _ _ _ w1 hkv)
    obtain ⟨t0, t3⟩ := sizes_all s.size u hu2 hs
    clear hkv hv hu
    go_wp2_with fail
    refine (HV.out _).mono ?_
    rintro e w4 ⟨rfl, hb4⟩
    have HS4 := kept (HS3.out.later hb4)
    clear hb4 HS3 HV
    go_upto_region 8 with fail
    obtain ⟨w5, hw5⟩ : ∃ w_, w_ = World.alloc w4 (.cells #[.int .u64 (v : Int), .int .i64 (u : Int), .int .i64 0] 107) := ⟨_, rfl⟩
    obtain ⟨pv, hpv⟩ : ∃ b, b = w4.heap.size := ⟨_, rfl⟩
    have hb5 : Below w4.heap.size w4 w5 := by rw [hw5]; exact (Below.refl _ _).alloc (Nat.le_refl _) _
    have HV5 : Own.Kept (Blk w5 pv #[.int .u64 (v : Int), .int .i64 (u : Int), .int .i64 0] 107) := kept (by rw [hw5, hpv]; exact Blk.fresh _ _ _)
    have HS5 := kept (HS4.out.later hb5)
    rw [← hw5, ← hpv]
    clear hw5 hpv hb5 HS4
    have v0 := HV5.out.cell (i := 0) rfl
    have v1 := HV5.out.cell (i := 1) rfl
    have v2 := HV5.out.cell (i := 2) rfl
    by_cases hl : v ≤ s.size - u
    · obtain ⟨t4, t5, t6, t7, t8⟩ := sizes_ok s.size u v hu2 hs hl
      have hsp : splitV s = some (s.extract u (u + v), s.extract (u + v) s.size) := by
        unfold splitV; rw [hgv]; simp only
        rw [if_pos ⟨trivial, hl⟩]
      obtain ⟨uv, huv⟩ : ∃ uv, uv = u + v := ⟨_, rfl⟩
      rw [← huv] at t6 t7 t8 hsp
      obtain ⟨a, ha⟩ : ∃ a, a = s.extract u uv := ⟨_, rfl⟩
      obtain ⟨b, hb⟩ : ∃ b, b = s.extract uv s.size := ⟨_, rfl⟩
      have haz : a.size ≤ 1000000000 := by rw [ha]; exact Nat.le_trans (size_ext s u uv) hs
      have hbz : b.size ≤ 1000000000 := by rw [hb]; exact Nat.le_trans (size_ext s uv s.size) hs
      rw [← ha, ← hb] at hsp
      have HSp := kept hsp
      have HAz := kept haz
      have HBz := kept hbz
      have HW := kept (fun w1 => kfrom_calls b w1 hbz)
      clear hsp haz hbz hu2 hu3 hl hgv huv hs
      by_cases h0 : a.size = 0 ∨ lastB a = 0
      · have HF : Own.Kept (∀ w1, Calls Try.prog 47 #[.string a] w1 fun e w' => e = .returned (.pointer none) ∧ w1 = w') := kept (fun w1 => by
          by_cases hz : a.size = 0
          · exact tfrom_empty _ w1 hz
          · exact tfrom_zero _ w1 (Nat.pos_of_ne_zero hz) (Nat.le_trans HAz.out (by decide)) (h0.resolve_left hz))
        have HGe : Own.Kept (getSE s (N : Int) L (m : Int) = ([], 3)) := kept (by
          rw [HG.out, HSp.out]
          show ansG (bodyG _ _ _ _ _) = _
          unfold bodyG
          rw [if_pos h0]
          rfl)
        clear h0
        subst ha
        subst hb
        go_wp2_with fail
        refine (HF.out _).mono ?_
        rintro e w6 ⟨rfl, rfl⟩
        go_wp2_with fail
        refine (HW.out _).mono ?_
        rintro e w7 ⟨pw, vw, rfl, hK, hb7, hpw, hvw⟩
        have HS7 := kept (HS5.out.later hb7)
        clear hK hb7 hpw hvw HS5 v0 v1 v2 HF HW
        bad_ret HS7, HGe.out, HBe
      · have h1 : 0 < a.size := Nat.pos_of_ne_zero fun x => h0 (.inl x)
        have h2 : lastB a ≠ 0 := fun x => h0 (.inr x)
        obtain ⟨st0, er2, k0, hgE⟩ : ∃ st er2 k', Go.Proofs.Yteeegomdaebobaa.getE a (topS a) (m : Int) = (st, er2, k') := ⟨_, _, _, rfl⟩
        have hfull : fullG L m N (some (a, b)) = if er2 ≠ 0 then none else doneG b (gets L m a b N st0 k0 0) := by
          show bodyG L m a b N = _
          unfold bodyG
          rw [if_neg h0, hgE]
        have hst0 : st0 < 2 ^ m := by
          have := getE_lt a (topS a) m
          rw [hgE] at this; exact this
        have HSt0 := kept hst0
        have HGE := kept hgE
        have HFull := kept hfull
        have HF := kept (fun w1 => tfrom_calls a w1 h1 HAz.out h2)
        clear h0 h1 h2 hst0 hgE hfull
        subst ha
        subst hb
        go_wp2_with fail
        refine (HF.out _).mono ?_
        rintro e w6 ⟨pT, aT, cT, rfl, hT6, hb6, hpT⟩
        have HS6 := kept (HS5.out.later hb6)
        have HT6 := kept hT6
        have HpT : Own.Kept (B ≤ pT) := kept (Nat.le_trans HS5.out.sz hpT)
        have HV6 : Own.Kept (Blk w6 pv #[.int .u64 (v : Int), .int .i64 (u : Int), .int .i64 0] 107) := kept ((hb6.block pv HV5.out.lt).trans HV5.out)
        clear hT6 hb6 hpT HS5 HV5 v0 v1 v2 HF
        have v0 := HV6.out.cell (i := 0) rfl
        have v1 := HV6.out.cell (i := 1) rfl
        go_wp2_with fail
        refine (HW.out _).mono ?_
        rintro e w7 ⟨pW, vW, rfl, hK7, hb7, hpW, _⟩
        have HS7 := kept (HS6.out.later hb7)
        have HT7 := kept (IsT.later HT6.out hb7)
        have HK7 := kept hK7
        have HpW : Own.Kept (B ≤ pW) := kept (Nat.le_trans HS6.out.sz hpW)
        clear hK7 hb7 hpW HS6 HT6 HV6 v0 v1 HW t4 t5 t6
        have HTg := kept (tget_calls pT aT cT _ _ (m : Int) w7 HT7.out HAz.out)
        rw [HGE.out] at HTg
        go_wp2_with fail
        refine HTg.out.mono ?_
        rintro e w8 ⟨rfl, hT8, hc8⟩
        have HS8 := kept (HS7.out.chg hc8 (fun k hk => by subst hk; exact ⟨HpT.out, _, _, HT7.out.blk, by decide, by decide, by decide⟩))
        have HK8 := kept (IsK.keepS HK7.out hc8 (fun k hk => by subst hk; exact ⟨_, _, HT7.out.blk, by decide, by decide⟩))
        have HT8 := kept hT8
        clear hT8 hc8 HS7 HT7 HK7 HTg
        go_upto_region 15 with fail
        obtain ⟨w9, hw9⟩ : ∃ w_, w_ = World.alloc w8 (.cells #[.int .u64 (st0 : Int), .int .i64 0, .int .i64 (er2 : Int)] 107) := ⟨_, rfl⟩
        obtain ⟨pg, hpg⟩ : ∃ b, b = w8.heap.size := ⟨_, rfl⟩
        have hb9 : Below w8.heap.size w8 w9 := by rw [hw9]; exact (Below.refl _ _).alloc (Nat.le_refl _) _
        have HX9 : Own.Kept (Blk w9 pg #[.int .u64 (st0 : Int), .int .i64 0, .int .i64 (er2 : Int)] 107) := kept (by rw [hw9, hpg]; exact Blk.fresh _ _ _)
        have HpG : Own.Kept (B ≤ pg) := kept (by rw [hpg]; exact HS8.out.sz)
        have HS9 := kept (HS8.out.later hb9)
        have HT9 := kept (IsT.later HT8.out hb9)
        have HK9 := kept (IsK.later HK8.out hb9)
        rw [← hw9, ← hpg]
        clear hw9 hpg hb9 HS8 HT8 HK8 t0 t3
        have x0 := HX9.out.cell (i := 0) rfl
        have x2 := HX9.out.cell (i := 2) rfl
        by_cases her : er2 = 0
        · have tst : wrap64 (st0 : Int) = (st0 : Int) := small64 HSt0.out HM.out
          have HF2 : Own.Kept (fullG L m N (some (s.extract u uv, s.extract uv s.size)) = doneG (s.extract uv s.size) (gets L m (s.extract u uv) (s.extract uv s.size) N st0 k0 0)) := kept (by rw [HFull.out, if_neg (by omega)])
          subst her
          obtain ⟨a, ha⟩ : ∃ a, a = s.extract u uv := ⟨_, rfl⟩
          obtain ⟨b, hb⟩ : ∃ b, b = s.extract uv s.size := ⟨_, rfl⟩
          rw [← ha, ← hb] at HSp HF2
          rw [← ha] at HAz HT9
          rw [← hb] at HBz HK9
          have HHe : Own.Kept (getSE s (N : Int) L (m : Int) = ansG (doneG b (gets L m a b N st0 k0 0))) := kept (by rw [HG.out, HSp.out, HF2.out])
          clear HGE HFull HF2 HSp ha hb
          go_wp2_with fail
          rw [tst]
          rw [show ((0 : Nat) : Int) = 0 from rfl]
          go_loopw [16, 15] (fun s16 s15 wr => ∃ (i st k pos : Nat) (aa : Option Addr) (cap : Nat) (ps : List (Nat × Nat)) (y0 y1 y2 : Value), i ≤ N ∧ s16 = .slice aa i cap ∧ s15 = .int .i64 (st : Int) ∧ ps.length = i ∧ OwnK wr 58 2 (.slice aa i cap) i (flN ps) ∧ (∀ g, (Value.slice aa i cap).ownBlock = some g → B ≤ g) ∧ StH B w wr pt pb pk g ct L m ∧ IsT wr pT aT cT a k ∧ IsK wr pW vW b pos ∧ Blk wr pg #[y0, y1, y2] 107 ∧ st < 2 ^ m ∧ pos ≤ 8 * b.size ∧
            (gets L m a b N st0 k0 0 = (gets L m a b (N - i) st k pos).map fun r => (ps ++ r.1, r.2))) (fun s16 _ _ => N - lenOf s16)
          case atStart => exact ⟨0, st0, k0, 0, none, 0, [], _, _, _, Nat.zero_le _, rfl, rfl, rfl, OwnK.nil _ _ _, fun g hg => by simp [Value.ownBlock] at hg, HS9.out, HT9.out, HK9.out, HX9.out, HSt0.out, Nat.zero_le _, by simp⟩
          case round =>
            obtain ⟨i, st, k, pos, aa, cap, ps, y0, y1, y2, hiN, rfl, rfl, hpl, hO, hnew, hS, hT, hK, hX, hst, hpos, hgt⟩ := hrel
            obtain ⟨wp, rfl⟩ : ∃ wp, wp = wr := ⟨wr, rfl⟩
            have HOw := kept hO
            have HNw := kept hnew
            have HS := kept hS
            have HT := kept hT
            have HK := kept hK
            have HX := kept hX
            have HGp := kept hgt
            have HPl := kept hpl
            have HSt := kept hst
            have HPos := kept hpos
            clear hO hnew hS hT hK hX hgt hpl hst hpos HS9 HT9 HK9 HX9 HSt0 x0 x2 tst
            by_cases hlt : i < N
            · obtain ⟨v1, er1, k', hg1⟩ : ∃ v1 er1 k', Go.Proofs.Yteeegomdaebobaa.getE a k (tB L m st : Int) = (v1, er1, k') := ⟨_, _, _, rfl⟩
              obtain ⟨r1, er2, pos', hg2⟩ : ∃ r1 er2 pos', getS b pos ((tC L m st - 1 : Nat) : Int) = (r1, er2, pos') := ⟨_, _, _, rfl⟩
              have HG1 := kept hg1
              have HG2 := kept hg2
              have HTg := kept (fun w1 (h : IsT w1 pT aT cT a k) => tget_calls pT aT cT a k (tB L m st : Int) w1 h HAz.out)
              have HKg := kept (fun w1 (h : IsK w1 pW vW b pos) => kget_calls pW vW b pos ((tC L m st - 1 : Nat) : Int) w1 h HBz.out HPos.out)
              rw [hg1] at HTg
              rw [hg2] at HKg
              clear hg1 hg2
              obtain ⟨P, hP⟩ : ∃ P, P = 2 ^ m := ⟨_, rfl⟩
              have HP := kept hP
              have hjP : st < P := by rw [hP]; exact HSt.out
              have t1 : decide ((st : Int) < (P : Int)) = true := decide_eq_true (Int.ofNat_lt.2 hjP)
              have kc := HS.out.cel.cell (i := 0) rfl
              have ea : Value.slice (some ⟨g, 0, none⟩) (2 ^ m) ct = .slice (some ⟨g, 0, none⟩) P ct := by rw [hP]
              replace kc : wp.cell? ⟨pk, 0, none⟩ = some (.slice (some ⟨g, 0, none⟩) (2 ^ m) ct) := kc
              rw [ea] at kc
              obtain ⟨e0, e1, e2⟩ := HS.out.tab.at_ HM.out (j := st) HSt.out
              obtain ⟨b1, b2, b3, _, _⟩ := t_bounds HM.out HSt.out
              have hbd : Own.Kept (tC L m st < 65 ∧ tS L m st + 2 ^ tB L m st ≤ 2 ^ m) := kept ⟨b1, b3⟩
              obtain ⟨c', hc'⟩ : ∃ x, x = tC L m st := ⟨_, rfl⟩
              obtain ⟨n', hn'⟩ : ∃ x, x = tB L m st := ⟨_, rfl⟩
              obtain ⟨s', hs'⟩ : ∃ x, x = tS L m st := ⟨_, rfl⟩
              rw [← hc'] at e0 HKg b1
              rw [← hn'] at e1 HTg
              rw [← hs'] at e2
              have HJ := kept (show c' = tC L m st ∧ s' = tS L m st from ⟨hc', hs'⟩)
              have HN' := kept hn'
              have hpp : P < 5000 := by rw [hP]; have := pow12 m HM.out.hi; exact Nat.lt_of_le_of_lt this (by decide)
              clear hP ea b2 b3 hc' hn' hs'
              go_upto_region 21 with fail
              obtain ⟨w3, hw3⟩ : ∃ w_, w_ = World.alloc wp (.cells #[.int .i64 (c' : Int), .int .i64 (n' : Int), .int .i64 (s' : Int)] 105) := ⟨_, rfl⟩
              obtain ⟨gx, hgx⟩ : ∃ b, b = wp.heap.size := ⟨_, rfl⟩
              have hb3 : Below wp.heap.size wp w3 := by rw [hw3]; exact (Below.refl _ _).alloc (Nat.le_refl _) _
              have HX3 : Own.Kept (Blk w3 gx #[.int .i64 (c' : Int), .int .i64 (n' : Int), .int .i64 (s' : Int)] 105) := kept (by rw [hw3, hgx]; exact Blk.fresh _ _ _)
              have HY3 : Own.Kept (Blk w3 pg #[y0, y1, y2] 107) := kept ((hb3.block pg HX.out.lt).trans HX.out)
              have HS3 := kept (HS.out.later hb3)
              have HT3 := kept (IsT.later HT.out hb3)
              have HK3 := kept (IsK.later HK.out hb3)
              have HO3 := kept (HOw.out.later hb3)
              rw [← hw3, ← hgx]
              clear hw3 hgx hb3 e0 e1 e2 kc HS HT HK HX HOw
              have k1 := HX3.out.cell (i := 1) rfl
              have HTc := kept (HTg.out w3 HT3.out)
              go_wp2_with fail
              refine HTc.out.mono ?_
              rintro e w4 ⟨rfl, hT4, hc4⟩
              have HS4 := kept (HS3.out.chg hc4 (fun k hk => by subst hk; exact ⟨HpT.out, _, _, HT3.out.blk, by decide, by decide, by decide⟩))
              have HK4 := kept (IsK.keepS HK3.out hc4 (fun k hk => by subst hk; exact ⟨_, _, HT3.out.blk, by decide, by decide⟩))
              have HO4 := kept (HO3.out.chg hc4 (fun g hg e => HO3.out.ne HT3.out.blk (by decide) (by rw [hg, e])))
              have HX4 : Own.Kept (Blk w4 gx #[.int .i64 (c' : Int), .int .i64 (n' : Int), .int .i64 (s' : Int)] 105) := kept (hc4.keep HX3.out (fun e => HX3.out.ne HT3.out.blk (by decide) e))
              have HY4 : Own.Kept (Blk w4 pg #[y0, y1, y2] 107) := kept (hc4.keep HY3.out (fun e => HY3.out.ne HT3.out.blk (by decide) e))
              have HT4 := kept hT4
              clear hT4 hc4 HS3 HT3 HK3 HO3 HX3 HY3 HTc HTg k1
              have f0 := HY4.out.free 0
              have f1 := HY4.out.free 1
              have f2 := HY4.out.free 2
              have d0 := HY4.out.cell (i := 0) rfl
              have d1 := HY4.out.cell (i := 1) rfl
              have d2 := HY4.out.cell (i := 2) rfl
              go_upto_region 22 with fail
              obtain ⟨w5, hw5⟩ : ∃ z, z = ((w4.setCell ⟨pg, 0, none⟩ (.int .u64 (v1 : Int))).setCell ⟨pg, 1, none⟩ (.int .i64 0)).setCell ⟨pg, 2, none⟩ (.int .i64 (er1 : Int)) := ⟨_, rfl⟩
              have HY5 : Own.Kept (Blk w5 pg #[.int .u64 (v1 : Int), .int .i64 0, .int .i64 (er1 : Int)] 107) := kept (by
                rw [hw5]
                have h := ((HY4.out.set 0 (.int .u64 (v1 : Int))).set 1 (.int .i64 0)).set 2 (.int .i64 (er1 : Int))
                simpa using h)
              have hc5 : Chg (fun x => x = pg) w4 w5 := by
                rw [hw5]
                exact ((Chg.setCell w4 ⟨pg, 0, none⟩ _).trans (Chg.setCell _ ⟨pg, 1, none⟩ _) (fun _ _ h => h)).trans (Chg.setCell _ ⟨pg, 2, none⟩ _) (fun _ _ h => h)
              have HS5 := kept (HS4.out.chg hc5 (fun k hk => by subst hk; exact ⟨HpG.out, _, _, HY4.out, by decide, by decide, by decide⟩))
              have HT5 := kept (IsT.keepS HT4.out hc5 (fun k hk => by subst hk; exact ⟨_, _, HY4.out, by decide, by decide⟩))
              have HK5 := kept (IsK.keepS HK4.out hc5 (fun k hk => by subst hk; exact ⟨_, _, HY4.out, by decide, by decide⟩))
              have HO5 := kept (HO4.out.chg hc5 (fun g hg e => HO4.out.ne HY4.out (by decide) (by rw [hg, e])))
              have HX5 : Own.Kept (Blk w5 gx #[.int .i64 (c' : Int), .int .i64 (n' : Int), .int .i64 (s' : Int)] 105) := kept (hc5.keep HX4.out (fun e => HX4.out.ne HY4.out (by decide) e))
              rw [← hw5]
              clear hw5 hc5 HS4 HT4 HK4 HO4 HX4 HY4 f0 f1 f2 d0 d1 d2
              have k0 := HX5.out.cell (i := 0) rfl
              have emx : Own.mx 0 ((c' : Int) - 1) = ((c' - 1 : Nat) : Int) := by rw [Own.mx_eq]; omega
              have HKc := kept (HKg.out w5 HK5.out)
              go_wp2_with fail
              refine HKc.out.mono ?_
              rintro e w6 ⟨rfl, hK6, hc6⟩
              have HS6 := kept (HS5.out.chg hc6 (fun k hk => by subst hk; exact ⟨HpW.out, _, _, HK5.out.blk, by decide, by decide, by decide⟩))
              have HT6 := kept (IsT.keepS HT5.out hc6 (fun k hk => by subst hk; exact ⟨_, _, HK5.out.blk, by decide, by decide⟩))
              have HO6 := kept (HO5.out.chg hc6 (fun g hg e => HO5.out.ne HK5.out.blk (by decide) (by rw [hg, e])))
              have HX6 : Own.Kept (Blk w6 gx #[.int .i64 (c' : Int), .int .i64 (n' : Int), .int .i64 (s' : Int)] 105) := kept (hc6.keep HX5.out (fun e => HX5.out.ne HK5.out.blk (by decide) e))
              have HY6 : Own.Kept (Blk w6 pg #[.int .u64 (v1 : Int), .int .i64 0, .int .i64 (er1 : Int)] 107) := kept (hc6.keep HY5.out (fun e => HY5.out.ne HK5.out.blk (by decide) e))
              have HK6 := kept hK6
              clear hK6 hc6 HS5 HT5 HK5 HO5 HX5 HY5 HKc HKg k0 emx
              go_upto_region 23 with fail
              obtain ⟨w7, hw7⟩ : ∃ w_, w_ = World.alloc w6 (.cells #[.int .u64 (r1 : Int), .int .i64 0, .int .i64 (er2 : Int)] 107) := ⟨_, rfl⟩
              obtain ⟨gy, hgy⟩ : ∃ b, b = w6.heap.size := ⟨_, rfl⟩
              have hb7 : Below w6.heap.size w6 w7 := by rw [hw7]; exact (Below.refl _ _).alloc (Nat.le_refl _) _
              have HZ7 : Own.Kept (Blk w7 gy #[.int .u64 (r1 : Int), .int .i64 0, .int .i64 (er2 : Int)] 107) := kept (by rw [hw7, hgy]; exact Blk.fresh _ _ _)
              have HX7 : Own.Kept (Blk w7 gx #[.int .i64 (c' : Int), .int .i64 (n' : Int), .int .i64 (s' : Int)] 105) := kept ((hb7.block gx HX6.out.lt).trans HX6.out)
              have HY7 : Own.Kept (Blk w7 pg #[.int .u64 (v1 : Int), .int .i64 0, .int .i64 (er1 : Int)] 107) := kept ((hb7.block pg HY6.out.lt).trans HY6.out)
              have HS7 := kept (HS6.out.later hb7)
              have HT7 := kept (IsT.later HT6.out hb7)
              have HK7 := kept (IsK.later HK6.out hb7)
              have HO7 := kept (HO6.out.later hb7)
              rw [← hw7, ← hgy]
              clear hw7 hgy hb7 HS6 HT6 HK6 HO6 HX6 HY6
              obtain ⟨n1, hn1⟩ : ∃ n1, N - i = n1 + 1 := ⟨N - i - 1, by omega⟩
              have y2 := HY7.out.cell (i := 2) rfl
              have z2 := HZ7.out.cell (i := 2) rfl
              by_cases he1 : er1 = 0
              · by_cases he2 : er2 = 0
                · subst he1 he2
                  have hv1 := getE_lt a k (tB L m st)
                  rw [HG1.out, ← HN'.out] at hv1
                  simp only at hv1
                  have hp1 := getS_pos (n := ((tC L m st - 1 : Nat) : Int)) HPos.out
                  rw [HG2.out] at hp1
                  have hbd2 := hbd.out.2
                  rw [← HJ.out.2, ← HN'.out] at hbd2
                  obtain ⟨hsum, tv, tsm⟩ := sum_ok HM.out hbd2 hv1
                  clear hbd2
                  have hstep : gets L m a b N st0 k0 0 = (gets L m a b (N - (i + 1)) (s' + v1) k' pos').map fun r => ((ps ++ [(c', r1)]) ++ r.1, r.2) := by
                    rw [HGp.out, hn1, gets_more HG1.out HG2.out, show N - (i + 1) = n1 by omega, Option.map_map, HJ.out.1, HJ.out.2]
                    congr 1
                    funext r
                    simp [Function.comp]
                  have HStep := kept hstep
                  have HS3 : Own.Kept (s' + v1 < 2 ^ m ∧ pos' ≤ 8 * b.size) := kept ⟨hsum, hp1⟩
                  clear hv1 hp1 hsum hstep hn1
                  have x0 := HX7.out.cell (i := 0) rfl
                  have x2 := HX7.out.cell (i := 2) rfl
                  have y0 := HY7.out.cell (i := 0) rfl
                  have z0 := HZ7.out.cell (i := 0) rfl
                  go_wp2_with (first | (at_builtin; go_loud (refine wpList_appK1 (us := [.int .i64 (c' : Int), .int .u64 (r1 : Int)]) rfl _ _ 24 rfl 58 i0 (.agg #[.int .i64 0, .int .u64 0]) 2 16 Try.underlying24 hi hz0 hz1 hz2 rfl (by decide) (.slice aa i cap) i _ rfl HO7.out rfl ?_ rfl ?_ ?_ ?_)) | fail)
                  · intro u hu; simp at hu; rcases hu with rfl | rfl <;> rfl
                  · simp [maxLen]; omega
                  · omega
                  intro v5 w8 O5 C5 F5
                  rw [← flN_snoc ps (c', r1)] at O5
                  obtain ⟨aa', cap', rfl, _, _, _⟩ := OwnK.slice O5
                  have hne : ∀ {k : Nat} {ds : Array Value} {t : TypeId}, Blk w7 k ds t → (58 : TypeId) ≠ t → ¬ some k = (Value.slice aa i cap).ownBlock := fun {k ds t} hk h1 hh => HO7.out.ne hk h1 hh.symm
                  have HSz := HS7.out.sz
                  have hst8 : StH B w w8 pt pb pk g ct L m := HS7.out.chg C5 (fun k hk => ⟨HNw.out k hk.symm, by
                    obtain ⟨cur, hcur⟩ := HO7.out.blk k hk.symm
                    exact ⟨_, _, hcur, by decide, by decide, by decide⟩⟩)
                  have HT8 := IsT.keepS HT7.out C5 (fun k hk => by
                    obtain ⟨cur, hcur⟩ := HO7.out.blk k hk.symm
                    exact ⟨_, _, hcur, by decide, by decide⟩)
                  have HK8 := IsK.keepS HK7.out C5 (fun k hk => by
                    obtain ⟨cur, hcur⟩ := HO7.out.blk k hk.symm
                    exact ⟨_, _, hcur, by decide, by decide⟩)
                  have HY8 : Blk w8 pg #[.int .u64 (v1 : Int), .int .i64 0, .int .i64 0] 107 := C5.keep HY7.out (hne HY7.out (by decide))
                  have hnew8 : ∀ g, (Value.slice aa' (i + 1) cap').ownBlock = some g → B ≤ g := fun g hg => by
                    rcases F5 g hg with h | h
                    · exact HNw.out g h.symm
                    · exact Nat.le_trans HSz h
                  have HAll := kept (show _ ∧ _ ∧ _ ∧ _ ∧ _ ∧ _ from ⟨O5, hnew8, hst8, HT8, HK8, HY8⟩)
                  clear O5 C5 F5 hne HSz hst8 HT8 HK8 HY8 hnew8 HS7 HT7 HK7 HO7 HX7 HY7 HZ7 x0 x2 y0 z0 y2 z2
                  go_wp2_with fail
                  go_roundw
                  case rel => exact ⟨i + 1, s' + v1, k', pos', aa', cap', ps ++ [(c', r1)], _, _, _, by omega, rfl, by first | rfl | (rw [Int.natCast_add]) | simp, by rw [List.length_append, HPl.out]; rfl, HAll.out.1, HAll.out.2.1, HAll.out.2.2.1, HAll.out.2.2.2.1, HAll.out.2.2.2.2.1, HAll.out.2.2.2.2.2, HS3.out.1, HS3.out.2, HStep.out⟩
                  case measure => simp [lenOf]; omega
                · have HGe : Own.Kept (getSE s (N : Int) L (m : Int) = ([], 3)) := kept (by
                    rw [HHe.out, HGp.out, hn1, gets_bad2 (by rw [HG2.out]; exact he2)]; rfl)
                  have ter := err_ne er2 he2
                  subst he1
                  clear he2 hn1
                  bad_ret HS7, HGe.out, HBe
              · have HGe : Own.Kept (getSE s (N : Int) L (m : Int) = ([], 3)) := kept (by
                  rw [HHe.out, HGp.out, hn1, gets_bad1 (by rw [HG1.out]; exact he1)]; rfl)
                have ter := err_ne er1 he1
                clear he1 hn1
                bad_ret HS7, HGe.out, HBe
            · have hie : i = N := by omega
              subst hie
              have hq := HGp.out
              rw [Nat.sub_self] at hq
              simp only [gets, Option.map_some, List.append_nil] at hq
              have HQ := kept hq
              have HRt := kept (krest_calls pW vW b pos wp HK.out HBz.out HPos.out)
              obtain ⟨rb, hrb⟩ : ∃ rb, rb = restS b pos := ⟨_, rfl⟩
              rw [← hrb] at HRt
              have HRb := kept hrb
              have x0 := HT.out.blk.cell (i := 0) rfl
              clear hq hrb
              by_cases h0 : st = 0
              · subst h0
                by_cases h1 : k = 0
                · subst h1
                  cases rb with
                  | true =>
                    have HGe := kept (show getSE s (i : Int) L (m : Int) = (ps, 0) by rw [HHe.out, HQ.out]; show ansG (if (0 : Nat) = 0 ∧ (0 : Nat) = 0 ∧ restS b pos = true then some ps else none) = _; rw [if_pos ⟨rfl, rfl, HRb.out.symm⟩]; rfl)
                    go_wp2_with fail
                    refine HRt.out.mono ?_
                    rintro e w3 ⟨rfl, hb3⟩
                    have HS3 := kept (HS.out.later hb3)
                    have HO3 := kept (HOw.out.later hb3)
                    have c0 := HS3.out.txt.cell (i := 0) rfl
                    have c1 := HS3.out.txt.cell (i := 1) rfl
                    have f0 := HS3.out.txt.free 0
                    have f1 := HS3.out.txt.free 1
                    clear hb3 HS HOw x0 HRt
                    go_wp2_with fail
                    have hBz := told_set (v := .slice aa i cap) (e := .int .i64 0) HS3.out.txt
                    have hCz := told_low HS3.out.low HS3.out.pB (.slice aa i cap) (.int .i64 0)
                    have hc : Chg (fun x => x = pt) w3 ((w3.setCell ⟨pt, 0, none⟩ (.slice aa i cap)).setCell ⟨pt, 1, none⟩ (.int .i64 0)) := (Chg.setCell w3 ⟨pt, 0, none⟩ _).trans (Chg.setCell _ ⟨pt, 1, none⟩ _) (fun _ _ h => h)
                    have hOz := HO3.out.chg hc (fun g hg e => HO3.out.ne HS3.out.txt (by decide) (by rw [hg, e]))
                    clear hc
                    generalize World.setCell _ _ _ = wz at hBz hCz hOz ⊢
                    have z0 : wz.cell? ⟨pt, 0, none⟩ = some (.slice aa i cap) := Blk.cell hBz rfl
                    have z1 : wz.cell? ⟨pt, 1, none⟩ = some (.int .i64 0) := Blk.cell hBz rfl
                    refine bodyPost_ret (v := .agg #[.slice aa i cap, .int .i64 0]) (by simp [results, Try.results19, go_sem, z0, z1]) rfl ?_
                    unfold RGetPost
                    rw [HGe.out]
                    exact ⟨_, rfl, by rw [HPl.out]; exact hOz, fun g hg => HBe.out ▸ HNw.out g hg, by rw [← HBe.out]; exact hCz⟩
                  | false =>
                    have HGe := kept (show getSE s (i : Int) L (m : Int) = ([], 3) by rw [HHe.out, HQ.out]; show ansG (if (0 : Nat) = 0 ∧ (0 : Nat) = 0 ∧ restS b pos = true then some ps else none) = _; rw [if_neg (fun x => by rw [← HRb.out] at x; exact absurd x.2.2 (by decide))]; rfl)
                    go_wp2_with fail
                    refine HRt.out.mono ?_
                    rintro e w3 ⟨rfl, hb3⟩
                    have HS3 := kept (HS.out.later hb3)
                    clear hb3 HS HOw x0 HRt
                    bad_ret HS3, HGe.out, HBe
                · have tk : decide ((0 : Int) < (k : Int)) = true := decide_eq_true (by omega)
                  have HGe := kept (show getSE s (i : Int) L (m : Int) = ([], 3) by rw [HHe.out, HQ.out]; show ansG (if (0 : Nat) = 0 ∧ k = 0 ∧ restS b pos = true then some ps else none) = _; rw [if_neg (fun x => h1 x.2.1)]; rfl)
                  have h2 : 0 < k := Nat.pos_of_ne_zero h1
                  bad_ret HS, HGe.out, HBe
              · have tk := err_ne st h0
                have HGe := kept (show getSE s (i : Int) L (m : Int) = ([], 3) by rw [HHe.out, HQ.out]; show ansG (if st = 0 ∧ k = 0 ∧ restS b pos = true then some ps else none) = _; rw [if_neg (fun x => h0 x.1)]; rfl)
                clear h0
                bad_ret HS, HGe.out, HBe
        · have HGe : Own.Kept (getSE s (N : Int) L (m : Int) = ([], 3)) := kept (by rw [HG.out, HSp.out, HFull.out, if_pos her]; rfl)
          have ter := err_ne er2 her
          clear her
          bad_ret HS9, HGe.out, HBe
    · have t4 := sizes_bad s.size u v hu2 hl
      have HGe : Own.Kept (getSE s (N : Int) L (m : Int) = ([], 3)) := kept (by
        rw [HG.out]; unfold splitV; rw [hgv]; simp [hl, fullG, ansG])
      clear hgv hl hs hu2 hu3
      bad_ret HS5, HGe.out, HBe
  · have hv : vgetE s 0 = (0, 0, (er : Int)) := by
      unfold vgetE
      rw [if_neg (by omega)]
      simp only [Int.toNat_zero, List.drop_zero, hgv]
      rw [if_neg he]
    obtain ⟨kv, hkv⟩ := (rgetv_is s 0 (Nat.le_trans hs (by decide))).rounds
    rw [hv] at hkv
    have HV := kept (fun w1 => wringerref1_GetVint.calls kv s 0 _ _ _ w1 hkv)
    have HGe : Own.Kept (getSE s (N : Int) L (m : Int) = ([], 3)) := kept (by
      rw [HG.out]; unfold splitV; rw [hgv]; simp [he, fullG, ansG])
    have ter := err_ne er he
    clear hkv hv hu hgv hs
    go_wp2_with fail
    refine (HV.out _).mono ?_
    rintro e w4 ⟨rfl, hb4⟩
    have HS4 := kept (HS3.out.later hb4)
    clear hb4 HS3 HV
    go_upto_region 8 with fail
    obtain ⟨w5, hw5⟩ : ∃ w_, w_ = World.alloc w4 (.cells #[.int .u64 0, .int .i64 0, .int .i64 (er : Int)] 107) := ⟨_, rfl⟩
    obtain ⟨pv, hpv⟩ : ∃ b, b = w4.heap.size := ⟨_, rfl⟩
    have hb5 : Below w4.heap.size w4 w5 := by rw [hw5]; exact (Below.refl _ _).alloc (Nat.le_refl _) _
    have HV5 : Own.Kept (Blk w5 pv #[.int .u64 0, .int .i64 0, .int .i64 (er : Int)] 107) := kept (by rw [hw5, hpv]; exact Blk.fresh _ _ _)
    have HS5 := kept (HS4.out.later hb5)
    rw [← hw5, ← hpv]
    clear hw5 hpv hb5 HS4
    have v2 := HV5.out.cell (i := 2) rfl
    bad_ret HS5, HGe.out, HBe
end Go.Proofs.Yteeegomdaebobaa.St

-- ---- PAx70
/- wringer/wringerref7.GetStates: what the call answers. Conditions: the text is not longer than a thousand million bytes. -/
namespace Go.Proofs.Yteeegomdaebobaa.PA
set_option maxRecDepth 100000
open Go.RowKit Go.Proofs.YteeegomdaebobaaW.PrintWords Go.Proofs.YteeegomdaebobaaW.PrintLast Go.Proofs.YteeegomdaebobaaW.PrintMore
open St
set_option linter.unusedVariables false
set_option linter.unusedSimpArgs false

def wringerref7_GetStates.f (k : Nat) (a0 : ByteArray) (a1 : Int) (l2 : List Int) (a3 : Int) : Option ((List (S58)) × Int) := if a0.size ≤ 1000000000 ∧ l2.length < 17592186044416 then some (getPE a0 a1 l2 a3) else none
theorem wringerref7_GetStates.mono : ∀ a0 a1 a2 a3 k, LeO (wringerref7_GetStates.f k a0 a1 a2 a3) (wringerref7_GetStates.f (k + 1) a0 a1 a2 a3) := fun _ _ _ _ _ => LeO.refl _
theorem wringerref7_GetStates.calls (k : Nat) (a0 : ByteArray) (a1 : Int) (A2 : Option Addr) (c2 : Nat) (l2 : List Int) (a3 : Int) (r1 : List (S58)) (r2 : Int) (w : World) (hr2 : Kd.C (Kd.int .i64) w A2 l2.length l2) (hc2 : l2.length ≤ c2) (h : wringerref7_GetStates.f k a0 a1 l2 a3 = some (r1, r2)) :
    Calls Try.prog 19 #[.string a0, .int .i64 a1, .slice A2 l2.length c2, .int .i64 a3] w fun e w' => ∃ v0_ : Value, e = .returned (.agg #[v0_, .int .i64 r2]) ∧ Kd.R k58 58 w' w.heap.size (fun _ => True) v0_ r1 ∧ Below w.heap.size w w' := by
  unfold wringerref7_GetStates.f at h
  split at h
  · rename_i hs
    have h := Option.some.inj h
    unfold getPE at h
    obtain ⟨rfl, rfl⟩ := Prod.mk.inj h
    have key : Calls Try.prog 19 #[.string a0, .int .i64 a1, .slice A2 l2.length c2, .int .i64 a3] w (St.RGetPost l2 a3 a0 a1 w) := by
      cases hm : Sp.mayN l2 a3 with
      | false => exact rsget_form A2 c2 l2 a3 a0 a1 w hs.2 hr2 hc2 hm
      | true =>
        obtain ⟨m, rfl, _⟩ := (may_iff l2 a3).1 hm
        by_cases hn : a1 < 0 ∨ 4096 < a1
        · exact rsget_arg A2 c2 l2 m a0 a1 w hr2 hc2 hm hn
        · obtain ⟨N, rfl⟩ := Int.eq_ofNat_of_zero_le (show 0 ≤ a1 by omega)
          exact rsget_calls A2 c2 l2 m a0 N w hr2 hc2 hm (by omega) hs.1
    refine key.mono ?_
    rintro e w' ⟨v, rfl, ho, hnew, hb⟩
    exact ⟨v, rfl, partR ho hnew, hb⟩
  · cases h
end Go.Proofs.Yteeegomdaebobaa.PA
