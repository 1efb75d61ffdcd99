/- Part B2 of what the layer's laws stand on: PAx18, PAx28, PAx7, PAx8, PAx9, Ub, Ue, Zm, Zc, Uz, Uh, Uy, Uv. Written by a program (merge.py) out of this session's own texts and of what the kit's print wrote over stand-ins (sp.py). Conditions: those that each theorem names. -/
import Derived.Test.YtlfakfdlifipnaaQB1
import Derived.Test.YtlfakfdlifipnaaWMore
import Derived.Test.YtlfakfdlifipnaaWLast
import Derived.WalkKit
import Derived.Lib.BitFns
import Derived.Test.YtlfakfdlifipnaaProg
import Derived.WalkSpells
import Derived.WalkLawsBesides
import Derived.BigQuiet
import Derived.Lib.Hide
import Derived.Lib.Zigzag
import Derived.Deep.DeepCutAuto
-- ---- PAx18

namespace Go.Proofs.Ytlfakfdlifipnaa.PA
open Go.RowKit Go.Proofs.YtlfakfdlifipnaaW.PrintWords Go.Proofs.YtlfakfdlifipnaaW.PrintLast Go.Proofs.YtlfakfdlifipnaaW.PrintMore
attribute [local go_sem] max2_int min2_int max_two min_two max_three min_three max_four min_four   -- for this text's walks alone
set_option linter.unusedVariables false
set_option linter.unusedSimpArgs false

/-! ### hist_Values: function 13 -/
def hist_Values.l0 : Nat → List Int → List (S43) → Int → Int → Option (List Int × Bool)
  | 0, _, _, _, _ => none
  | k + 1, x4, x9, x10, x11 => if x11 < x10 then (if 0 ≤ x11 then (if x11 < (x9.length : Int) then ((zig_Join.f k ((rd_T43 x9 x11).f0) ((rd_T43 x9 x11).f1)).bind fun bt143 => (if bt143.2 = true then (if x4.length < 17592186044416 then (hist_Values.l0 k (x4 ++ [bt143.1]) x9 x10 (wrap64 (x11 + 1))) else (none)) else (some (([] : List Int), false)))) else (none)) else (none)) else (some (x4, true))
def hist_Values.f (k : Nat) (l0 : List (S43)) : Option (List Int × Bool) := hist_Values.l0 k ([] : List Int) l0 (l0.length : Int) 0
theorem hist_Values.mono_l : ∀ k, (∀ y0 y1 y2 y3, LeO (hist_Values.l0 k y0 y1 y2 y3) (hist_Values.l0 (k + 1) y0 y1 y2 y3))
  | 0 => fun _ _ _ _ r h => by simp [hist_Values.l0] at h
  | k + 1 => by
    have ih0 := hist_Values.mono_l k
    · intro y0 y1 y2 y3
      unfold hist_Values.l0
      repeat' first
      | (with_reducible exact ih0 _ _ _ _)
      | (with_reducible exact zig_Join.mono _ _ _)
      | (with_reducible exact LeO.refl _)
      | (with_reducible exact LeO.none _)
      | (with_reducible refine LeO.ite ?_ ?_)
      | (with_reducible refine LeO.bind ?_ (fun _ => ?_))
      | exact ih0 _ _ _ _
      | exact zig_Join.mono _ _ _
      | exact LeO.none _
      | refine LeO.ite ?_ ?_
      | refine LeO.bind ?_ (fun _ => ?_)
theorem hist_Values.mono : ∀ a0 k, LeO (hist_Values.f k a0) (hist_Values.f (k + 1) a0) := by
  intro a0 k
  have ih0 := hist_Values.mono_l k
  unfold hist_Values.f
  repeat' first
      | (with_reducible exact ih0 _ _ _ _)
      | (with_reducible exact zig_Join.mono _ _ _)
      | (with_reducible exact LeO.refl _)
      | (with_reducible exact LeO.none _)
      | (with_reducible refine LeO.ite ?_ ?_)
      | (with_reducible refine LeO.bind ?_ (fun _ => ?_))
      | exact ih0 _ _ _ _
      | exact zig_Join.mono _ _ _
      | exact LeO.none _
      | refine LeO.ite ?_ ?_
      | refine LeO.bind ?_ (fun _ => ?_)
set_option maxHeartbeats 8000000 in
set_option maxRecDepth 100000 in
theorem hist_Values.calls (k : Nat) (A0 : Option Addr) (c0 : Nat) (l0 : List (S43)) (r1 : List Int) (r2 : Bool) (w : World) (hr0 : Kd.C k43 w A0 l0.length l0) (hc0 : l0.length ≤ c0) (h : hist_Values.f k l0 = some (r1, r2)) :
    Calls Try.prog 13 #[.slice A0 l0.length c0] w fun e w' => ∃ v0_ : Value, e = .returned (.tuple #[v0_, .bool r2]) ∧ Kd.R (Kd.int .i64) 2 w' w.heap.size (fun _ => True) v0_ r1 ∧ Below w.heap.size w w' := by
  have hu43 := Try.underlying43
  have HR0 := Aside0.mk hr0
  have HC0 := Aside0.mk hc0
  clear hr0 hc0
  have HB := Aside0.mk (Below.refl w.heap.size w)
  have H : (hist_Values.l0 k ([] : List Int) l0 (l0.length : Int) 0) = some (r1, r2) := h
  clear h
  have H' := Aside0.mk H
  clear H
  go_enter Try.func13, Try.ntmps13
  go_wp2
  go_loopg [4, 11] k (fun kq v4 v11 w' => ∃ (x4_1 : List Int) (x11_1 : Int), v11 = .int .i64 x11_1 ∧ Aside0 (hist_Values.l0 kq x4_1 l0 (l0.length : Int) x11_1 = some (r1, r2)) ∧ Aside0 (kq ≤ k) ∧ Aside0 (Kd.R (Kd.int .i64) 2 w' w.heap.size (fun _ => True) v4 x4_1) ∧ Aside0 (Below w.heap.size w w'))
  case atStart => exact ⟨(([] : List Int)), (0), (by first | rfl | (simp; done) | (simp [*]; done)), H', ⟨Nat.le_refl _⟩, ⟨by first | exact Kd.R_nil _ _ _ _ _ | exact Kd.N_nil _ _ _ _ _ | exact Kd.V_nil _ _ _ _ _ | exact Kd.Q_nil _ _ _ _ _ | exact Kd.S_nil _ _ _ _ _⟩, ⟨by repeat (first | (with_reducible first | exact HB.out | apply below_alloc | apply pw_below_drewN | apply below_drew1) | exact HB.out)⟩⟩
  case round =>
    clear H'
    try clear c1
    obtain ⟨x4_1, x11_1, rfl, HA, HK1, HO_4, HB⟩ := hrel
    cases gk with
    | zero => exact absurd HA.out (by simp [hist_Values.l0])
    | succ k1 =>
      have H := HA.out
      clear HA
      simp only [hist_Values.l0] at H
      by_cases c2 : x11_1 < (l0.length : Int)
      · rw [if_pos c2] at H
        have c2b0 : decide (x11_1 < (l0.length : Int)) = true := decide_eq_true c2
        clear c2
        by_cases c3 : 0 ≤ x11_1
        · rw [if_pos c3] at H
          have c3b0 : decide (0 ≤ x11_1) = true := decide_eq_true c3
          clear c3
          by_cases c4 : x11_1 < (l0.length : Int)
          · rw [if_pos c4] at H
            have c4b0 : decide (x11_1 < (l0.length : Int)) = true := decide_eq_true c4
            clear c4
            replace H := Option.bind_eq_some_iff.mp H
            obtain ⟨⟨t143, t144⟩, A50, H⟩ := H
            replace H : (if t144 = true then (if x4_1.length < 17592186044416 then (hist_Values.l0 k1 (x4_1 ++ [t143]) l0 (l0.length : Int) (wrap64 (x11_1 + 1))) else (none)) else (some (([] : List Int), false))) = some (r1, r2) := H
            have A5 := Aside0.mk A50
            clear A50
            by_cases c6 : t144 = true
            · subst c6
              have H1 : (if x4_1.length < 17592186044416 then (hist_Values.l0 k1 (x4_1 ++ [t143]) l0 (l0.length : Int) (wrap64 (x11_1 + 1))) else (none)) = some (r1, r2) := by rw [if_pos rfl] at H; exact H
              clear H
              have H := H1
              clear H1
              by_cases c7 : x4_1.length < 17592186044416
              · rw [if_pos c7] at H
                have LMc7 := Aside0.mk c7
                clear c7
                obtain ⟨y145, hy145⟩ : ∃ y_ : List Int, y_ = (x4_1 ++ [t143]) := ⟨_, rfl⟩
                replace H : (hist_Values.l0 k1 y145 l0 (l0.length : Int) (wrap64 (x11_1 + 1))) = some (r1, r2) := by first | (rw [hy145]; with_reducible exact H) | (have H2_ := (Option.bind_some _ _).symm.trans H; rw [hy145]; with_reducible exact H2_) | (have H2_ := (Option.bind_some _ _).symm.trans H; with_reducible exact H2_) | with_reducible exact H | (rw [hy145]; exact H) | exact H
                have Ny145 := Aside0.mk hy145
                clear hy145
                have H' := Aside0.mk H
                clear H
                have p141 : 0 ≤ (x11_1 : Int) := of_decide_eq_true (by first | (with_reducible assumption) | assumption)
                have q141 : x11_1 < (l0.length : Int) := of_decide_eq_true (by first | (with_reducible assumption) | assumption)
                obtain ⟨ad141, e141, hx141_0, hx141_1⟩ := at_T43 HR0.out x11_1 p141 q141
                cases e141
                replace hx141_0 := (HB.out.cell (World.block_lt_of_cell? w _ hx141_0)).trans hx141_0
                replace hx141_1 := (HB.out.cell (World.block_lt_of_cell? w _ hx141_1)).trans hx141_1
                replace p141 := eq_true p141
                replace q141 := eq_true q141
                go_wp2_with (first | ((with_reducible refine gate_dst (N := 6) rfl ?_); refine box_event ?hg (N := 6) ?hd (cs := #[.int .i64 0, .int .u64 0]) (t := 43) ?hr ?_; (case hd => rfl); (case hg => rfl); (case hr => first | (go_simp; done) | (go_simp; rfl)); intro gb142 hg w8 hbox hb; have n0_ := Aside0.mk (Kd.R_below (by (with_reducible repeat (first | apply Kd.R_alloc | apply Kd.R_drewN | apply Kd.R_drew)); exact HO_4.out) hb); have n1_ := Aside0.mk (below_step (by repeat (first | (with_reducible first | exact HB.out | apply below_alloc | apply pw_below_drewN | apply below_drew1) | exact HB.out)) hb); have n2_ := Aside0.mk (hbox); have n3_ := Aside0.mk ((by rw [hg]; exact (below_size (by repeat (first | (with_reducible first | exact HB.out | apply below_alloc | apply pw_below_drewN | apply below_drew1) | exact HB.out))) : w.heap.size ≤ gb142)); have n4_ := Aside0.mk ((by rw [hg]; exact (below_size (by repeat (first | (with_reducible first | exact HB.out | apply below_alloc | apply pw_below_drewN | apply below_drew1) | exact HB.out))) : w.heap.size ≤ gb142)); clear HO_4; clear HB; have HO_4 := n0_; have HB := n1_; have BK142 := n2_; have GW142 := n3_; have GE142 := n4_; clear n0_ n1_ n2_ n3_ n4_; clear hb hbox hg; have hcz9_0 : w8.cell? ⟨gb142, 0, none⟩ = some (.int .i64 0) := (blk_cell BK142.out 0).trans rfl; have hcz9_1 : w8.cell? ⟨gb142, 1, none⟩ = some (.int .u64 0) := (blk_cell BK142.out 1).trans rfl; have hfz9_0 := blk_frozen BK142.out 0; have hfz9_1 := blk_frozen BK142.out 1) | ((with_reducible refine gate_callee (f := 24) rfl ?_); refine goesL_ (some 17) rfl rfl Try.func24 (by kernel_rfl) rfl #[.agg #[.int .i64 ((rd_T43 l0 x11_1).f0), .int .u64 ((rd_T43 l0 x11_1).f1)]] rfl (by (try simp only [List.map_toArray, List.map_cons, List.map_nil]); first | done | rfl | (simp only [List.length_drop, List.length_take]; rfl)) ?_; (with_reducible refine (zig_Join.calls k1 ((rd_T43 l0 x11_1).f0) ((rd_T43 l0 x11_1).f1) t143 true _ A5.out).mono ?_); rintro e w10 ⟨rfl, hb⟩; refine ⟨_, rfl, ?_⟩; have n0_ := Aside0.mk (Kd.R_below (by (with_reducible repeat (first | apply Kd.R_alloc | apply Kd.R_drewN | apply Kd.R_drew)); exact (Kd.R_mono (Kd.R_far (p := ⟨gb142, 1, none⟩) (Kd.R_far (p := ⟨gb142, 0, none⟩) (Kd.R_types HO_4.out BK142.out (by decide)) (fun _ hk => hk.2) (.int .i64 ((rd_T43 l0 x11_1).f0))) (fun _ hk => hk.2) (.int .u64 ((rd_T43 l0 x11_1).f1))) (fun _ h_ => h_.1))) hb); have n1_ := Aside0.mk (blk_below (g := gb142) (o := .cells #[.int .i64 ((rd_T43 l0 x11_1).f0), .int .u64 ((rd_T43 l0 x11_1).f1)] 43 (0, 0)) (by (with_reducible repeat (first | refine blk_drewN ?_ _ | refine blk_drew ?_ | refine blk_alloc ?_ _)); refine blk_put (cs := #[.int .i64 ((rd_T43 l0 x11_1).f0), .int .u64 0]) ?_ 1 _ rfl; (with_reducible repeat (first | refine blk_drewN ?_ _ | refine blk_drew ?_ | refine blk_alloc ?_ _)); refine blk_put (cs := #[.int .i64 0, .int .u64 0]) ?_ 0 _ rfl; (with_reducible repeat (first | refine blk_drewN ?_ _ | refine blk_drew ?_ | refine blk_alloc ?_ _)); exact BK142.out) hb); have n2_ := Aside0.mk (below_step (by repeat (first | (with_reducible first | exact HB.out | apply below_alloc | apply pw_below_drewN | apply below_drew1 | refine below_set ?_ GE142.out) | exact HB.out)) hb); clear HO_4; clear BK142; clear HB; have HO_4 := n0_; have BK142 := n1_; have HB := n2_; clear n0_ n1_ n2_; (try clear hb); (try clear hb2); (try clear hk); (try clear hi)) | ((with_reducible refine gate_builtin (b := .append) (xs := #[.tmp 22, .tmp 24]) rfl ?_); at_builtin; refine Kd.R_append (Kd.int .i64) (w0 := w) w.heap.size rfl (.tmp 22) (.tmp 24) 26 2 (.int .i64 0) 8 rfl Try.underlying26 info2 rfl (by decide) (by omega) u4 x4_1 t143 [.int .i64 t143] (fun _ => True) (fun _ => False) rfl rfl ?aP (fun _ hk => hk.elim) ?aF ?aO ?aB ?aS ?aL ?_; (case aP => exact rfl); (case aB => exact (by repeat (first | (with_reducible first | exact HB.out | apply below_alloc | apply pw_below_drewN | apply below_drew1 | refine below_set ?_ GE142.out) | exact HB.out))); (case aF => exact (fun _ _ => trivial)); (case aO => exact (by (with_reducible repeat (first | apply Kd.R_alloc | apply Kd.R_drewN | apply Kd.R_drew)); exact HO_4.out)); (case aS => exact (below_size (by repeat (first | (with_reducible first | exact HB.out | apply below_alloc | apply pw_below_drewN | apply below_drew1 | refine below_set ?_ GE142.out) | exact HB.out)))); (case aL => have := LMc7.out; omega); intro v146 w11 ho hb hg hat; rw [← Ny145.out] at ho; have n0_ := Aside0.mk (blk_grown (g := gb142) (o := .cells #[.int .i64 ((rd_T43 l0 x11_1).f0), .int .u64 ((rd_T43 l0 x11_1).f1)] 43 (0, 0)) (by (with_reducible repeat (first | refine blk_drewN ?_ _ | refine blk_drew ?_ | refine blk_alloc ?_ _)); exact BK142.out) hg (Kd.R_ne HO_4.out BK142.out (by decide))); have n1_ := Aside0.mk (hb); have n2_ := Aside0.mk (ho); clear BK142; clear HB; clear HO_4; have BK142 := n0_; have HB := n1_; have HO147 := n2_; clear n0_ n1_ n2_; clear ho hb hg hat))
                go_roundg k1
                case measure => have := HK1.out; omega
                case rel => exact ⟨(y145), (wrap64 (x11_1 + 1)), (by first | rfl | (simp; done) | (simp [*]; done)), H', ⟨by have := HK1.out; omega⟩, ⟨by (with_reducible repeat (first | apply Kd.R_alloc | apply Kd.R_drewN | apply Kd.R_drew)); exact HO147.out⟩, ⟨by repeat (first | (with_reducible first | exact HB.out | apply below_alloc | apply pw_below_drewN | apply below_drew1 | refine below_set ?_ GE142.out) | exact HB.out)⟩⟩
              · rw [if_neg c7] at H
                exact absurd H (by simp)
            · replace c6 := Bool.eq_false_iff.mpr c6
              subst c6
              have H1 : (some (([] : List Int), false)) = some (r1, r2) := by rw [if_neg (show ¬ (false = true) by decide)] at H; exact H
              clear H
              have H := H1
              clear H1
              simp only [Option.some.injEq, Prod.mk.injEq] at H
              obtain ⟨rfl, rfl⟩ := H
              have p141 : 0 ≤ (x11_1 : Int) := of_decide_eq_true (by first | (with_reducible assumption) | assumption)
              have q141 : x11_1 < (l0.length : Int) := of_decide_eq_true (by first | (with_reducible assumption) | assumption)
              obtain ⟨ad141, e141, hx141_0, hx141_1⟩ := at_T43 HR0.out x11_1 p141 q141
              cases e141
              replace hx141_0 := (HB.out.cell (World.block_lt_of_cell? w _ hx141_0)).trans hx141_0
              replace hx141_1 := (HB.out.cell (World.block_lt_of_cell? w _ hx141_1)).trans hx141_1
              replace p141 := eq_true p141
              replace q141 := eq_true q141
              go_wp2_with (first | ((with_reducible refine gate_dst (N := 6) rfl ?_); refine box_event ?hg (N := 6) ?hd (cs := #[.int .i64 0, .int .u64 0]) (t := 43) ?hr ?_; (case hd => rfl); (case hg => rfl); (case hr => first | (go_simp; done) | (go_simp; rfl)); intro gb142 hg w12 hbox hb; have n0_ := Aside0.mk (Kd.R_below (by (with_reducible repeat (first | apply Kd.R_alloc | apply Kd.R_drewN | apply Kd.R_drew)); exact HO_4.out) hb); have n1_ := Aside0.mk (below_step (by repeat (first | (with_reducible first | exact HB.out | apply below_alloc | apply pw_below_drewN | apply below_drew1) | exact HB.out)) hb); have n2_ := Aside0.mk (hbox); have n3_ := Aside0.mk ((by rw [hg]; exact (below_size (by repeat (first | (with_reducible first | exact HB.out | apply below_alloc | apply pw_below_drewN | apply below_drew1) | exact HB.out))) : w.heap.size ≤ gb142)); have n4_ := Aside0.mk ((by rw [hg]; exact (below_size (by repeat (first | (with_reducible first | exact HB.out | apply below_alloc | apply pw_below_drewN | apply below_drew1) | exact HB.out))) : w.heap.size ≤ gb142)); clear HO_4; clear HB; have HO_4 := n0_; have HB := n1_; have BK142 := n2_; have GW142 := n3_; have GE142 := n4_; clear n0_ n1_ n2_ n3_ n4_; clear hb hbox hg; have hcz13_0 : w12.cell? ⟨gb142, 0, none⟩ = some (.int .i64 0) := (blk_cell BK142.out 0).trans rfl; have hcz13_1 : w12.cell? ⟨gb142, 1, none⟩ = some (.int .u64 0) := (blk_cell BK142.out 1).trans rfl; have hfz13_0 := blk_frozen BK142.out 0; have hfz13_1 := blk_frozen BK142.out 1) | ((with_reducible refine gate_callee (f := 24) rfl ?_); refine goesL_ (some 17) rfl rfl Try.func24 (by kernel_rfl) rfl #[.agg #[.int .i64 ((rd_T43 l0 x11_1).f0), .int .u64 ((rd_T43 l0 x11_1).f1)]] rfl (by (try simp only [List.map_toArray, List.map_cons, List.map_nil]); first | done | rfl | (simp only [List.length_drop, List.length_take]; rfl)) ?_; (with_reducible refine (zig_Join.calls k1 ((rd_T43 l0 x11_1).f0) ((rd_T43 l0 x11_1).f1) t143 false _ A5.out).mono ?_); rintro e w14 ⟨rfl, hb⟩; refine ⟨_, rfl, ?_⟩; have n0_ := Aside0.mk (Kd.R_below (by (with_reducible repeat (first | apply Kd.R_alloc | apply Kd.R_drewN | apply Kd.R_drew)); exact (Kd.R_mono (Kd.R_far (p := ⟨gb142, 1, none⟩) (Kd.R_far (p := ⟨gb142, 0, none⟩) (Kd.R_types HO_4.out BK142.out (by decide)) (fun _ hk => hk.2) (.int .i64 ((rd_T43 l0 x11_1).f0))) (fun _ hk => hk.2) (.int .u64 ((rd_T43 l0 x11_1).f1))) (fun _ h_ => h_.1))) hb); have n1_ := Aside0.mk (blk_below (g := gb142) (o := .cells #[.int .i64 ((rd_T43 l0 x11_1).f0), .int .u64 ((rd_T43 l0 x11_1).f1)] 43 (0, 0)) (by (with_reducible repeat (first | refine blk_drewN ?_ _ | refine blk_drew ?_ | refine blk_alloc ?_ _)); refine blk_put (cs := #[.int .i64 ((rd_T43 l0 x11_1).f0), .int .u64 0]) ?_ 1 _ rfl; (with_reducible repeat (first | refine blk_drewN ?_ _ | refine blk_drew ?_ | refine blk_alloc ?_ _)); refine blk_put (cs := #[.int .i64 0, .int .u64 0]) ?_ 0 _ rfl; (with_reducible repeat (first | refine blk_drewN ?_ _ | refine blk_drew ?_ | refine blk_alloc ?_ _)); exact BK142.out) hb); have n2_ := Aside0.mk (below_step (by repeat (first | (with_reducible first | exact HB.out | apply below_alloc | apply pw_below_drewN | apply below_drew1 | refine below_set ?_ GE142.out) | exact HB.out)) hb); clear HO_4; clear BK142; clear HB; have HO_4 := n0_; have BK142 := n1_; have HB := n2_; clear n0_ n1_ n2_; (try clear hb); (try clear hb2); (try clear hk); (try clear hi)))
              go_ret2
              exact ⟨_, by first | rfl | (simp [errW_none, errW_some] <;> rfl) | (simp [*, errW_none, errW_some] <;> rfl), by first | exact Kd.R_nil _ _ _ _ _ | exact Kd.N_nil _ _ _ _ _ | exact Kd.V_nil _ _ _ _ _ | exact Kd.Q_nil _ _ _ _ _ | exact Kd.S_nil _ _ _ _ _, by repeat (first | (with_reducible first | exact HB.out | apply below_alloc | apply pw_below_drewN | apply below_drew1 | refine below_set ?_ GE142.out) | exact HB.out)⟩
          · rw [if_neg c4] at H
            exact absurd H (by simp)
        · rw [if_neg c3] at H
          exact absurd H (by simp)
      · rw [if_neg c2] at H
        have c2b0 : decide (x11_1 < (l0.length : Int)) = false := decide_eq_false c2
        clear c2
        simp only [Option.some.injEq, Prod.mk.injEq] at H
        obtain ⟨rfl, rfl⟩ := H
        go_wp2
        go_ret2
        exact ⟨_, by first | rfl | (simp [errW_none, errW_some] <;> rfl) | (simp [*, errW_none, errW_some] <;> rfl), by (with_reducible repeat (first | apply Kd.R_alloc | apply Kd.R_drewN | apply Kd.R_drew)); exact HO_4.out, by repeat (first | (with_reducible first | exact HB.out | apply below_alloc | apply pw_below_drewN | apply below_drew1) | exact HB.out)⟩

end Go.Proofs.Ytlfakfdlifipnaa.PA

-- ---- PAx28

namespace Go.Proofs.Ytlfakfdlifipnaa.PA
open Go.RowKit Go.Proofs.YtlfakfdlifipnaaW.PrintWords Go.Proofs.YtlfakfdlifipnaaW.PrintLast Go.Proofs.YtlfakfdlifipnaaW.PrintMore
attribute [local go_sem] max2_int min2_int max_two min_two max_three min_three max_four min_four   -- for this text's walks alone
set_option linter.unusedVariables false
set_option linter.unusedSimpArgs false

/-! ### wringerref7_SameNums: function 17 -/
def wringerref7_SameNums.l0 : Nat → List Int → List Int → Int → Option (Bool)
  | 0, _, _, _ => none
  | k + 1, x0, x1, x5 => if x5 < (x0.length : Int) then (if 0 ≤ x5 then (if x5 < (x1.length : Int) then (if (rd x0 x5) = (rd x1 x5) then (wringerref7_SameNums.l0 k x0 x1 (wrap64 (x5 + 1))) else (some false)) else (none)) else (none)) else (some true)
def wringerref7_SameNums.f (k : Nat) (l0 : List Int) (l1 : List Int) : Option (Bool) := if (l0.length : Int) = (l1.length : Int) then (wringerref7_SameNums.l0 k l0 l1 0) else (some false)
theorem wringerref7_SameNums.mono_l : ∀ k, (∀ y0 y1 y2, LeO (wringerref7_SameNums.l0 k y0 y1 y2) (wringerref7_SameNums.l0 (k + 1) y0 y1 y2))
  | 0 => fun _ _ _ r h => by simp [wringerref7_SameNums.l0] at h
  | k + 1 => by
    have ih0 := wringerref7_SameNums.mono_l k
    · intro y0 y1 y2
      unfold wringerref7_SameNums.l0
      repeat' first
      | (with_reducible exact ih0 _ _ _)
      | (with_reducible exact LeO.refl _)
      | (with_reducible exact LeO.none _)
      | (with_reducible refine LeO.ite ?_ ?_)
      | (with_reducible refine LeO.bind ?_ (fun _ => ?_))
      | exact ih0 _ _ _
      | exact LeO.none _
      | refine LeO.ite ?_ ?_
      | refine LeO.bind ?_ (fun _ => ?_)
theorem wringerref7_SameNums.mono : ∀ a0 a1 k, LeO (wringerref7_SameNums.f k a0 a1) (wringerref7_SameNums.f (k + 1) a0 a1) := by
  intro a0 a1 k
  have ih0 := wringerref7_SameNums.mono_l k
  unfold wringerref7_SameNums.f
  repeat' first
      | (with_reducible exact ih0 _ _ _)
      | (with_reducible exact LeO.refl _)
      | (with_reducible exact LeO.none _)
      | (with_reducible refine LeO.ite ?_ ?_)
      | (with_reducible refine LeO.bind ?_ (fun _ => ?_))
      | exact ih0 _ _ _
      | exact LeO.none _
      | refine LeO.ite ?_ ?_
      | refine LeO.bind ?_ (fun _ => ?_)
set_option maxHeartbeats 8000000 in
set_option maxRecDepth 100000 in
theorem wringerref7_SameNums.calls (k : Nat) (A0 : Option Addr) (c0 : Nat) (l0 : List Int) (A1 : Option Addr) (c1 : Nat) (l1 : List Int) (r : Bool) (w : World) (hr0 : Kd.C (Kd.int .i64) w A0 l0.length l0) (hc0 : l0.length ≤ c0) (hr1 : Kd.C (Kd.int .i64) w A1 l1.length l1) (hc1 : l1.length ≤ c1) (h : wringerref7_SameNums.f k l0 l1 = some r) :
    Calls Try.prog 17 #[.slice A0 l0.length c0, .slice A1 l1.length c1] w fun e w' => e = .returned (.bool r) ∧ Drawn0 w w' := by
  have HR0 := Aside0.mk hr0
  have HC0 := Aside0.mk hc0
  clear hr0 hc0
  have HR1 := Aside0.mk hr1
  have HC1 := Aside0.mk hc1
  clear hr1 hc1
  have H : (if (l0.length : Int) = (l1.length : Int) then (wringerref7_SameNums.l0 k l0 l1 0) else (some false)) = some r := h
  clear h
  by_cases c3 : (l0.length : Int) = (l1.length : Int)
  · rw [if_pos c3] at H
    have c3b0 : ((l0.length : Int) == (l1.length : Int)) = true := beq_iff_eq.mpr c3
    have c3b1 : ((l0.length : Int) != (l1.length : Int)) = false := bne_eq_false_iff_eq.mpr c3
    have c3b2 : (l0.length == l1.length) = true := by first | simpa using c3 | (simp at c3 ⊢; omega)
    clear c3
    have H' := Aside0.mk H
    clear H
    go_enter Try.func17, Try.ntmps17
    go_wp2
    repeat (go_quiet (fail); try go_wp2)
    go_loopg [5] k (fun kq v5 w' => ∃ (x5_1 : Int), v5 = .int .i64 x5_1 ∧ Aside0 (wringerref7_SameNums.l0 kq l0 l1 x5_1 = some r) ∧ Aside0 (kq ≤ k) ∧ Drawn0 w w')
    case atStart => exact ⟨(0), (by first | rfl | (simp; done) | (simp [*]; done)), H', ⟨Nat.le_refl _⟩, by repeat (first | exact Drawn0.refl _ | apply Drawn0.step)⟩
    case round =>
      clear H'
      try clear c1
      try clear p2
      try clear c3
      try clear c3b0
      try clear c3b1
      try clear c3b2
      obtain ⟨x5_1, rfl, HA, HK1, ⟨m1, rfl⟩⟩ := hrel
      cases gk with
      | zero => exact absurd HA.out (by simp [wringerref7_SameNums.l0])
      | succ k1 =>
        have H := HA.out
        clear HA
        simp only [wringerref7_SameNums.l0] at H
        by_cases c4 : x5_1 < (l0.length : Int)
        · rw [if_pos c4] at H
          have c4b0 : decide (x5_1 < (l0.length : Int)) = true := decide_eq_true c4
          clear c4
          by_cases c5 : 0 ≤ x5_1
          · rw [if_pos c5] at H
            have c5b0 : decide (0 ≤ x5_1) = true := decide_eq_true c5
            clear c5
            by_cases c6 : x5_1 < (l1.length : Int)
            · rw [if_pos c6] at H
              have c6b0 : decide (x5_1 < (l1.length : Int)) = true := decide_eq_true c6
              clear c6
              by_cases c7 : (rd l0 x5_1) = (rd l1 x5_1)
              · rw [if_pos c7] at H
                have c7b0 : ((rd l0 x5_1) == (rd l1 x5_1)) = true := beq_iff_eq.mpr c7
                have c7b1 : ((rd l0 x5_1) != (rd l1 x5_1)) = false := bne_eq_false_iff_eq.mpr c7
                clear c7
                have H' := Aside0.mk H
                clear H
                have p172 : 0 ≤ (x5_1 : Int) := of_decide_eq_true (by first | (with_reducible assumption) | assumption)
                have q172 : x5_1 < (l0.length : Int) := of_decide_eq_true (by first | (with_reducible assumption) | assumption)
                obtain ⟨ad172, e172, hx172_0⟩ := Kd.at_int HR0.out x5_1 p172 q172
                cases e172
                replace p172 := eq_true p172
                replace q172 := eq_true q172
                have p173 : 0 ≤ (x5_1 : Int) := of_decide_eq_true (by first | (with_reducible assumption) | assumption)
                have q173 : x5_1 < (l1.length : Int) := of_decide_eq_true (by first | (with_reducible assumption) | assumption)
                obtain ⟨ad173, e173, hx173_0⟩ := Kd.at_int HR1.out x5_1 p173 q173
                cases e173
                replace p173 := eq_true p173
                replace q173 := eq_true q173
                go_wp2
                repeat (go_quiet (fail); try go_wp2)
                go_roundg k1
                case measure => have := HK1.out; omega
                case rel => exact ⟨(wrap64 (x5_1 + 1)), (by first | rfl | (simp; done) | (simp [*]; done)), H', ⟨by have := HK1.out; omega⟩, by repeat (first | exact Drawn0.refl _ | apply Drawn0.step)⟩
              · rw [if_neg c7] at H
                have c7b0 : ((rd l0 x5_1) == (rd l1 x5_1)) = false := beq_eq_false_iff_ne.mpr c7
                have c7b1 : ((rd l0 x5_1) != (rd l1 x5_1)) = true := bne_iff_ne.mpr c7
                obtain rfl := Option.some.inj H
                have p172 : 0 ≤ (x5_1 : Int) := of_decide_eq_true (by first | (with_reducible assumption) | assumption)
                have q172 : x5_1 < (l0.length : Int) := of_decide_eq_true (by first | (with_reducible assumption) | assumption)
                obtain ⟨ad172, e172, hx172_0⟩ := Kd.at_int HR0.out x5_1 p172 q172
                cases e172
                replace p172 := eq_true p172
                replace q172 := eq_true q172
                have p173 : 0 ≤ (x5_1 : Int) := of_decide_eq_true (by first | (with_reducible assumption) | assumption)
                have q173 : x5_1 < (l1.length : Int) := of_decide_eq_true (by first | (with_reducible assumption) | assumption)
                obtain ⟨ad173, e173, hx173_0⟩ := Kd.at_int HR1.out x5_1 p173 q173
                cases e173
                replace p173 := eq_true p173
                replace q173 := eq_true q173
                go_wp2
                repeat (go_quiet (fail); try go_wp2)
                go_ret
                exact ⟨by first | rfl | (simp; done) | (simp [*]; done), by repeat (first | exact Drawn0.refl _ | apply Drawn0.step)⟩
            · rw [if_neg c6] at H
              exact absurd H (by simp)
          · rw [if_neg c5] at H
            exact absurd H (by simp)
        · rw [if_neg c4] at H
          have c4b0 : decide (x5_1 < (l0.length : Int)) = false := decide_eq_false c4
          clear c4
          obtain rfl := Option.some.inj H
          go_wp2
          repeat (go_quiet (fail); try go_wp2)
          go_ret
          exact ⟨by first | rfl | (simp; done) | (simp [*]; done), by repeat (first | exact Drawn0.refl _ | apply Drawn0.step)⟩
  · rw [if_neg c3] at H
    have c3b0 : ((l0.length : Int) == (l1.length : Int)) = false := beq_eq_false_iff_ne.mpr c3
    have c3b1 : ((l0.length : Int) != (l1.length : Int)) = true := bne_iff_ne.mpr c3
    have c3b2 : (l0.length == l1.length) = false := by first | simpa using c3 | (simp at c3 ⊢; omega)
    obtain rfl := Option.some.inj H
    go_enter Try.func17, Try.ntmps17
    go_wp2
    repeat (go_quiet (fail); try go_wp2)
    go_ret
    exact ⟨by first | rfl | (simp; done) | (simp [*]; done), by repeat (first | exact Drawn0.refl _ | apply Drawn0.step)⟩

end Go.Proofs.Ytlfakfdlifipnaa.PA

-- ---- PAx7
/- The heap's order of places: what the call answers, for every list. Conditions: the list's length fits a slice. -/
namespace Go.Proofs.Ytlfakfdlifipnaa.PA
open Go.RowKit Go.Proofs.YtlfakfdlifipnaaW.PrintWords Go.Proofs.YtlfakfdlifipnaaW.PrintLast Go.Proofs.YtlfakfdlifipnaaW.PrintMore
set_option linter.unusedVariables false
set_option linter.unusedSimpArgs false

def hist_Order.f (l0 : List Int) : Option (List Int) := if l0.length ≤ 100000 then some ((Ol.ordL l0).map fun i : Nat => (i : Int)) else none
theorem hist_Order.calls (A0 : Option Addr) (c0 : Nat) (l0 : List Int) (r : List Int) (w : World) (hr0 : Kd.C (Kd.int .i64) w A0 l0.length l0) (hc0 : l0.length ≤ c0) (h : hist_Order.f l0 = some r) :
    Calls Try.prog 9 #[.slice A0 l0.length c0] w fun e w' => ∃ v0_ : Value, e = .returned (v0_) ∧ Kd.R (Kd.int .i64) 3 w' w.heap.size (fun _ => True) v0_ r ∧ Below w.heap.size w w' := by
  unfold hist_Order.f at h
  split at h
  · rename_i hn
    cases h
    refine (HistH.horder_calls A0 l0.length c0 l0 w (Own.rd_of_C hr0) hn).mono ?_
    rintro e w' ⟨v, rfl, ho⟩
    refine ⟨v, rfl, Own.R_of_owns ?_ ho.new, ho.low⟩
    have e : Own.ints .i64 ((Ol.ordL l0).map fun i : Nat => (i : Int)) = idx (Ol.ordL l0) := by simp [Own.ints, idx]
    rw [e]; exact ho.own
  · cases h
end Go.Proofs.Ytlfakfdlifipnaa.PA

-- ---- PAx8

namespace Go.Proofs.Ytlfakfdlifipnaa.PA
open Go.RowKit Go.Proofs.YtlfakfdlifipnaaW.PrintWords Go.Proofs.YtlfakfdlifipnaaW.PrintLast Go.Proofs.YtlfakfdlifipnaaW.PrintMore
attribute [local go_sem] max2_int min2_int max_two min_two max_three min_three max_four min_four   -- for this text's walks alone
set_option linter.unusedVariables false
set_option linter.unusedSimpArgs false

/-! ### hist_Of: function 10 -/
def hist_Of.l0 : Nat → List Int → List (S43) → Int → Int → Option (List Int)
  | 0, _, _, _, _ => none
  | k + 1, x3, x7, x8, x9 => if x9 < x8 then (if 0 ≤ x9 then (if x9 < (x7.length : Int) then (if ((rd_T43 x7 x9).f0) ≥ 0 then (if ((rd_T43 x7 x9).f0) < 65 then (if 0 ≤ ((rd_T43 x7 x9).f0) then (if ((rd_T43 x7 x9).f0) < (x3.length : Int) then (hist_Of.l0 k (x3.set (((rd_T43 x7 x9).f0) : Int).toNat (wrap64 ((rd x3 ((rd_T43 x7 x9).f0)) + 1))) x7 x8 (wrap64 (x9 + 1))) else (none)) else (none)) else (hist_Of.l0 k x3 x7 x8 (wrap64 (x9 + 1)))) else (hist_Of.l0 k x3 x7 x8 (wrap64 (x9 + 1)))) else (none)) else (none)) else (some x3)
def hist_Of.f (k : Nat) (l0 : List (S43)) : Option (List Int) := if 65 ≤ 35184372088832 then (hist_Of.l0 k (List.replicate 65 0) l0 (l0.length : Int) 0) else (none)
theorem hist_Of.mono_l : ∀ k, (∀ y0 y1 y2 y3, LeO (hist_Of.l0 k y0 y1 y2 y3) (hist_Of.l0 (k + 1) y0 y1 y2 y3))
  | 0 => fun _ _ _ _ r h => by simp [hist_Of.l0] at h
  | k + 1 => by
    have ih0 := hist_Of.mono_l k
    · intro y0 y1 y2 y3
      unfold hist_Of.l0
      repeat' first
      | (with_reducible exact ih0 _ _ _ _)
      | (with_reducible exact LeO.refl _)
      | (with_reducible exact LeO.none _)
      | (with_reducible refine LeO.ite ?_ ?_)
      | (with_reducible refine LeO.bind ?_ (fun _ => ?_))
      | exact ih0 _ _ _ _
      | exact LeO.none _
      | refine LeO.ite ?_ ?_
      | refine LeO.bind ?_ (fun _ => ?_)
theorem hist_Of.mono : ∀ a0 k, LeO (hist_Of.f k a0) (hist_Of.f (k + 1) a0) := by
  intro a0 k
  have ih0 := hist_Of.mono_l k
  unfold hist_Of.f
  repeat' first
      | (with_reducible exact ih0 _ _ _ _)
      | (with_reducible exact LeO.refl _)
      | (with_reducible exact LeO.none _)
      | (with_reducible refine LeO.ite ?_ ?_)
      | (with_reducible refine LeO.bind ?_ (fun _ => ?_))
      | exact ih0 _ _ _ _
      | exact LeO.none _
      | refine LeO.ite ?_ ?_
      | refine LeO.bind ?_ (fun _ => ?_)
set_option maxHeartbeats 8000000 in
set_option maxRecDepth 100000 in
theorem hist_Of.calls (k : Nat) (A0 : Option Addr) (c0 : Nat) (l0 : List (S43)) (r : List Int) (w : World) (hr0 : Kd.C k43 w A0 l0.length l0) (hc0 : l0.length ≤ c0) (h : hist_Of.f k l0 = some r) :
    Calls Try.prog 10 #[.slice A0 l0.length c0] w fun e w' => ∃ v0_ : Value, e = .returned (v0_) ∧ Kd.R (Kd.int .i64) 3 w' w.heap.size (fun _ => True) v0_ r ∧ Below w.heap.size w w' := by
  have hu43 := Try.underlying43
  have HR0 := Aside0.mk hr0
  have HC0 := Aside0.mk hc0
  clear hr0 hc0
  have HB := Aside0.mk (Below.refl w.heap.size w)
  have H : (if 65 ≤ 35184372088832 then (hist_Of.l0 k (List.replicate 65 0) l0 (l0.length : Int) 0) else (none)) = some r := h
  clear h
  by_cases c2 : 65 ≤ 35184372088832
  · rw [if_pos c2] at H
    have c2b0 := eq_true c2
    have c2b1 : decide (65 ≤ 35184372088832) = true := decide_eq_true c2
    clear c2
    obtain ⟨y107, hy107⟩ : ∃ y_ : List Int, y_ = (List.replicate 65 0) := ⟨_, rfl⟩
    replace H : (hist_Of.l0 k y107 l0 (l0.length : Int) 0) = some r := by first | (rw [hy107]; with_reducible exact H) | (have H2_ := (Option.bind_some _ _).symm.trans H; rw [hy107]; with_reducible exact H2_) | (have H2_ := (Option.bind_some _ _).symm.trans H; with_reducible exact H2_) | with_reducible exact H | (rw [hy107]; exact H) | exact H
    have Ny107 := Aside0.mk hy107
    clear hy107
    have H' := Aside0.mk H
    clear H
    go_enter Try.func10, Try.ntmps10
    go_wp2_with (first | ((with_reducible refine gate_dst (N := 6) rfl ?_); refine Kd.R_make (Kd.int .i64) _ 3 rfl (N := 6) rfl 22 _ _ rfl 65 rfl rfl Try.underlying22 (.int .i64 0) 8 info3 rfl (by decide) (by omega) 0 (ok := fun _ => True) (okp := fun _ => True) rfl (fun _ hk => hk) trivial (by omega) (by omega) (Below.refl _ _) (Nat.le_refl _) ?_; intro v108 w3 ho4 hb hg_ hnew_; clear hg_ hnew_; (first | rw [← Ny107.out] at ho4 | (simp only [Int.reduceToNat] at ho4; rw [← Ny107.out] at ho4)); have n0_ := Aside0.mk (Kd.R_lower ho4 (below_size (by repeat (first | (with_reducible first | exact HB.out | apply below_alloc | apply pw_below_drewN | apply below_drew1) | exact HB.out)))); have n1_ := Aside0.mk (below_step (by repeat (first | (with_reducible first | exact HB.out | apply below_alloc | apply pw_below_drewN | apply below_drew1) | exact HB.out)) hb); clear HB; have HO109 := n0_; have HB := n1_; clear n0_ n1_; clear hb ho4))
    go_loopg [9] k (fun kq v9 w' => ∃ (x3_1 : List Int) (x9_1 : Int), v9 = .int .i64 x9_1 ∧ Aside0 (hist_Of.l0 kq x3_1 l0 (l0.length : Int) x9_1 = some r) ∧ Aside0 (kq ≤ k) ∧ Aside0 (Kd.R (Kd.int .i64) 3 w' w.heap.size (fun _ => True) v108 x3_1) ∧ Aside0 (Below w.heap.size w w'))
    case atStart => exact ⟨(y107), (0), (by first | rfl | (simp; done) | (simp [*]; done)), H', ⟨Nat.le_refl _⟩, ⟨by (with_reducible repeat (first | apply Kd.R_alloc | apply Kd.R_drewN | apply Kd.R_drew)); exact HO109.out⟩, ⟨by repeat (first | (with_reducible first | exact HB.out | apply below_alloc | apply pw_below_drewN | apply below_drew1) | exact HB.out)⟩⟩
    case round =>
      clear H'
      try clear c1
      try clear c2
      try clear c2b0
      try clear c2b1
      try clear p2
      obtain ⟨x3_1, x9_1, rfl, HA, HK1, HO_3, HB⟩ := hrel
      cases gk with
      | zero => exact absurd HA.out (by simp [hist_Of.l0])
      | succ k1 =>
        have H := HA.out
        clear HA
        simp only [hist_Of.l0] at H
        by_cases c5 : x9_1 < (l0.length : Int)
        · rw [if_pos c5] at H
          have c5b0 : decide (x9_1 < (l0.length : Int)) = true := decide_eq_true c5
          clear c5
          by_cases c6 : 0 ≤ x9_1
          · rw [if_pos c6] at H
            have c6b0 : decide (0 ≤ x9_1) = true := decide_eq_true c6
            clear c6
            by_cases c7 : x9_1 < (l0.length : Int)
            · rw [if_pos c7] at H
              have c7b0 : decide (x9_1 < (l0.length : Int)) = true := decide_eq_true c7
              clear c7
              by_cases c8 : ((rd_T43 l0 x9_1).f0) ≥ 0
              · rw [if_pos c8] at H
                have c8b0 : decide (0 ≤ ((rd_T43 l0 x9_1).f0)) = true := decide_eq_true c8
                clear c8
                by_cases c9 : ((rd_T43 l0 x9_1).f0) < 65
                · rw [if_pos c9] at H
                  have c9b0 : decide (((rd_T43 l0 x9_1).f0) < 65) = true := decide_eq_true c9
                  clear c9
                  by_cases c10 : 0 ≤ ((rd_T43 l0 x9_1).f0)
                  · rw [if_pos c10] at H
                    have c10b0 : decide (0 ≤ ((rd_T43 l0 x9_1).f0)) = true := decide_eq_true c10
                    clear c10
                    by_cases c11 : ((rd_T43 l0 x9_1).f0) < (x3_1.length : Int)
                    · rw [if_pos c11] at H
                      have c11b0 : decide (((rd_T43 l0 x9_1).f0) < (x3_1.length : Int)) = true := decide_eq_true c11
                      clear c11
                      obtain ⟨y113, hy113⟩ : ∃ y_ : List Int, y_ = (x3_1.set (((rd_T43 l0 x9_1).f0) : Int).toNat (wrap64 ((rd x3_1 ((rd_T43 l0 x9_1).f0)) + 1))) := ⟨_, rfl⟩
                      replace H : (hist_Of.l0 k1 y113 l0 (l0.length : Int) (wrap64 (x9_1 + 1))) = some r := by first | (rw [hy113]; with_reducible exact H) | (have H2_ := (Option.bind_some _ _).symm.trans H; rw [hy113]; with_reducible exact H2_) | (have H2_ := (Option.bind_some _ _).symm.trans H; with_reducible exact H2_) | with_reducible exact H | (rw [hy113]; exact H) | exact H
                      have Ny113 := Aside0.mk hy113
                      clear hy113
                      have H' := Aside0.mk H
                      clear H
                      have p110 : 0 ≤ (x9_1 : Int) := of_decide_eq_true (by first | (with_reducible assumption) | assumption)
                      have q110 : x9_1 < (l0.length : Int) := of_decide_eq_true (by first | (with_reducible assumption) | assumption)
                      obtain ⟨ad110, e110, hx110_0, hx110_1⟩ := at_T43 HR0.out x9_1 p110 q110
                      cases e110
                      replace hx110_0 := (HB.out.cell (World.block_lt_of_cell? w _ hx110_0)).trans hx110_0
                      replace hx110_1 := (HB.out.cell (World.block_lt_of_cell? w _ hx110_1)).trans hx110_1
                      replace p110 := eq_true p110
                      replace q110 := eq_true q110
                      go_wp2_with (first | ((with_reducible refine gate_dst (N := 5) rfl ?_); refine box_event ?hg (N := 5) ?hd (cs := #[.int .i64 0, .int .u64 0]) (t := 43) ?hr ?_; (case hd => rfl); (case hg => rfl); (case hr => first | (go_simp; done) | (go_simp; rfl)); intro gb111 hg w13 hbox hb; have n0_ := Aside0.mk (Kd.R_below (by (with_reducible repeat (first | apply Kd.R_alloc | apply Kd.R_drewN | apply Kd.R_drew)); exact HO_3.out) hb); have n1_ := Aside0.mk (below_step (by repeat (first | (with_reducible first | exact HB.out | apply below_alloc | apply pw_below_drewN | apply below_drew1) | exact HB.out)) hb); have n2_ := Aside0.mk (hbox); have n3_ := Aside0.mk ((by rw [hg]; exact (below_size (by repeat (first | (with_reducible first | exact HB.out | apply below_alloc | apply pw_below_drewN | apply below_drew1) | exact HB.out))) : w.heap.size ≤ gb111)); have n4_ := Aside0.mk ((by rw [hg]; exact (below_size (by repeat (first | (with_reducible first | exact HB.out | apply below_alloc | apply pw_below_drewN | apply below_drew1) | exact HB.out))) : w.heap.size ≤ gb111)); clear HO_3; clear HB; have HO_3 := n0_; have HB := n1_; have BK111 := n2_; have GW111 := n3_; have GE111 := n4_; clear n0_ n1_ n2_ n3_ n4_; clear hb hbox hg; have hcz14_0 : w13.cell? ⟨gb111, 0, none⟩ = some (.int .i64 0) := (blk_cell BK111.out 0).trans rfl; have hcz14_1 : w13.cell? ⟨gb111, 1, none⟩ = some (.int .u64 0) := (blk_cell BK111.out 1).trans rfl; have hfz14_0 := blk_frozen BK111.out 0; have hfz14_1 := blk_frozen BK111.out 1) | ((with_reducible refine gate_store (t := 43) (p := 5) rfl ?_); refine store_event (t := 43) (p := 5) (v := ?vo_w15) (w1 := ((w13.setCell ⟨gb111, 0, none⟩ (.int .i64 ((rd_T43 l0 x9_1).f0))).setCell ⟨gb111, 1, none⟩ (.int .u64 ((rd_T43 l0 x9_1).f1)))) ?hg ?ho ?hn ?hr ?_; (case ho => rfl); (case hg => rfl); (case hn => rfl); (case hr => first | (go_simp; done) | (go_simp; rfl)); intro w15 hw; have n0_ : Aside0 (Kd.R (Kd.int .i64) 3 w15 w.heap.size (fun _ => True) v108 x3_1) := ⟨(by rw [hw]; exact (by (with_reducible repeat (first | apply Kd.R_alloc | apply Kd.R_drewN | apply Kd.R_drew)); exact Kd.R_mono (Kd.R_far (p := ⟨gb111, 1, none⟩) (Kd.R_far (p := ⟨gb111, 0, none⟩) (Kd.R_types HO_3.out BK111.out (by decide)) (fun _ hk => hk.2) (.int .i64 ((rd_T43 l0 x9_1).f0))) (fun _ hk => hk.2) (.int .u64 ((rd_T43 l0 x9_1).f1))) (fun _ hk => trivial)))⟩; have n1_ : Aside0 (w15.heap[gb111]? = some (.cells #[.int .i64 ((rd_T43 l0 x9_1).f0), .int .u64 ((rd_T43 l0 x9_1).f1)] 43 (0, 0))) := ⟨(by rw [hw]; exact (by (with_reducible repeat (first | refine blk_drewN ?_ _ | refine blk_drew ?_ | refine blk_alloc ?_ _)); refine blk_put (cs := #[.int .i64 ((rd_T43 l0 x9_1).f0), .int .u64 0]) ?_ 1 _ rfl; (with_reducible repeat (first | refine blk_drewN ?_ _ | refine blk_drew ?_ | refine blk_alloc ?_ _)); refine blk_put (cs := #[.int .i64 0, .int .u64 0]) ?_ 0 _ rfl; (with_reducible repeat (first | refine blk_drewN ?_ _ | refine blk_drew ?_ | refine blk_alloc ?_ _)); exact BK111.out))⟩; have n2_ : Aside0 (Below w.heap.size w w15) := ⟨(by rw [hw]; exact (by repeat (first | (with_reducible first | exact HB.out | apply below_alloc | apply pw_below_drewN | apply below_drew1 | refine below_set ?_ GE111.out) | exact HB.out)))⟩; clear hw; clear HO_3; clear BK111; clear HB; have HO_3 := n0_; have BK111 := n1_; have HB := n2_; clear n0_ n1_ n2_; have hcz16_0 : w15.cell? ⟨gb111, 0, none⟩ = some (.int .i64 ((rd_T43 l0 x9_1).f0)) := (blk_cell BK111.out 0).trans rfl; have hcz16_1 : w15.cell? ⟨gb111, 1, none⟩ = some (.int .u64 ((rd_T43 l0 x9_1).f1)) := (blk_cell BK111.out 1).trans rfl; have hfz16_0 := blk_frozen BK111.out 0; have hfz16_1 := blk_frozen BK111.out 1; obtain ⟨Ao17, co17, eo17⟩ := Kd.R_slice HO_3.out; subst eo17; have p112 : 0 ≤ (((rd_T43 l0 x9_1).f0) : Int) := of_decide_eq_true (by first | (with_reducible assumption) | assumption); have q112 : ((rd_T43 l0 x9_1).f0) < (x3_1.length : Int) := of_decide_eq_true (by first | (with_reducible assumption) | assumption); obtain ⟨ad112, e112, hx112_0⟩ := Kd.at_int (Kd.R_reads' HO_3.out).2.2 ((rd_T43 l0 x9_1).f0) p112 q112; cases e112; replace p112 := eq_true p112; replace q112 := eq_true q112; have p12 : 0 ≤ (((rd_T43 l0 x9_1).f0) : Int) := of_decide_eq_true (by first | (with_reducible assumption) | assumption); have q12 : (((rd_T43 l0 x9_1).f0) : Int) < ((x3_1.length : Int) : Int) := of_decide_eq_true (by first | (with_reducible assumption) | assumption); obtain ⟨go12, co12, eo12, gb12, gl12, cl12, HG12⟩ := Kd.R_form HO_3.out (by omega); (first | cases eo12 | (injection eo12 with ea_ en_ ec_; (first | subst ea_ | (injection ea_ with ea_; subst ea_)); subst ec_; clear en_)); have GB12 := Aside0.mk gb12; have GG12 := Aside0.mk HG12; clear gb12 gl12 HG12; (first | simp only [add_plain] at hx112_0 | skip); obtain ⟨hx12_0, hf12_0⟩ := Kd.R_celln 0 HO_3.out (((rd_T43 l0 x9_1).f0) : Int) p12 q12; replace p12 := eq_true p12; replace q12 := eq_true q12; obtain ⟨hy18_, hz18_⟩ := Kd.R_celln 0 HO_3.out (((rd_T43 l0 x9_1).f0) : Int) (of_decide_eq_true (by first | (with_reducible assumption) | assumption)) (of_decide_eq_true (by first | (with_reducible assumption) | assumption)); have HP18 := Kd.R_putg HO_3.out (((rd_T43 l0 x9_1).f0) : Int) (wrap64 ((rd x3_1 ((rd_T43 l0 x9_1).f0)) + 1))) | ((with_reducible refine gate_store (t := 3) (p := 27) rfl ?_); refine store_event (t := 3) (p := 27) (v := ?vo_w19) (w1 := (w15.setCell ⟨go12, (((rd_T43 l0 x9_1).f0) : Int).toNat, none⟩ (.int .i64 (wrap64 ((rd x3_1 ((rd_T43 l0 x9_1).f0)) + 1))))) ?hg ?ho ?hn ?hr ?_; (case ho => rfl); (case hg => rfl); (case hn => rfl); (case hr => first | (go_simp; done) | (go_simp; rfl)); intro w19 hw; have hg : w15.grownBy w19 (some go12) := (by rw [hw]; exact HP18.2); have hp_ : Kd.R (Kd.int .i64) 3 w19 w.heap.size (fun _ => True) (.slice (some ⟨go12, 0, none⟩) x3_1.length co17) y113 := (by rw [hw, Ny113.out]; exact HP18.1); clear HP18; have n0_ := Aside0.mk (hp_); have n1_ := Aside0.mk (blk_grown (g := gb111) (o := .cells #[.int .i64 ((rd_T43 l0 x9_1).f0), .int .u64 ((rd_T43 l0 x9_1).f1)] 43 (0, 0)) (by (with_reducible repeat (first | refine blk_drewN ?_ _ | refine blk_drew ?_ | refine blk_alloc ?_ _)); exact BK111.out) hg (Kd.R_ne HO_3.out BK111.out (by decide))); have n2_ := Aside0.mk ((by rw [hw]; exact below_set (HB.out) GB12.out : Below w.heap.size w w19)); clear HO_3; clear BK111; clear HB; have HO_3 := n0_; have BK111 := n1_; have HB := n2_; clear n0_ n1_ n2_; clear hg hw hp_))
                      go_roundg k1
                      case measure => have := HK1.out; omega
                      case rel => exact ⟨(y113), (wrap64 (x9_1 + 1)), (by first | rfl | (simp; done) | (simp [*]; done)), H', ⟨by have := HK1.out; omega⟩, ⟨by (with_reducible repeat (first | apply Kd.R_alloc | apply Kd.R_drewN | apply Kd.R_drew)); exact HO_3.out⟩, ⟨by repeat (first | (with_reducible first | exact HB.out | apply below_alloc | apply pw_below_drewN | apply below_drew1 | refine below_set ?_ GE111.out) | exact HB.out)⟩⟩
                    · rw [if_neg c11] at H
                      exact absurd H (by simp)
                  · rw [if_neg c10] at H
                    exact absurd H (by simp)
                · rw [if_neg c9] at H
                  have c9b0 : decide (((rd_T43 l0 x9_1).f0) < 65) = false := decide_eq_false c9
                  clear c9
                  have H' := Aside0.mk H
                  clear H
                  have p110 : 0 ≤ (x9_1 : Int) := of_decide_eq_true (by first | (with_reducible assumption) | assumption)
                  have q110 : x9_1 < (l0.length : Int) := of_decide_eq_true (by first | (with_reducible assumption) | assumption)
                  obtain ⟨ad110, e110, hx110_0, hx110_1⟩ := at_T43 HR0.out x9_1 p110 q110
                  cases e110
                  replace hx110_0 := (HB.out.cell (World.block_lt_of_cell? w _ hx110_0)).trans hx110_0
                  replace hx110_1 := (HB.out.cell (World.block_lt_of_cell? w _ hx110_1)).trans hx110_1
                  replace p110 := eq_true p110
                  replace q110 := eq_true q110
                  go_wp2_with (first | ((with_reducible refine gate_dst (N := 5) rfl ?_); refine box_event ?hg (N := 5) ?hd (cs := #[.int .i64 0, .int .u64 0]) (t := 43) ?hr ?_; (case hd => rfl); (case hg => rfl); (case hr => first | (go_simp; done) | (go_simp; rfl)); intro gb111 hg w20 hbox hb; have n0_ := Aside0.mk (Kd.R_below (by (with_reducible repeat (first | apply Kd.R_alloc | apply Kd.R_drewN | apply Kd.R_drew)); exact HO_3.out) hb); have n1_ := Aside0.mk (below_step (by repeat (first | (with_reducible first | exact HB.out | apply below_alloc | apply pw_below_drewN | apply below_drew1) | exact HB.out)) hb); have n2_ := Aside0.mk (hbox); have n3_ := Aside0.mk ((by rw [hg]; exact (below_size (by repeat (first | (with_reducible first | exact HB.out | apply below_alloc | apply pw_below_drewN | apply below_drew1) | exact HB.out))) : w.heap.size ≤ gb111)); have n4_ := Aside0.mk ((by rw [hg]; exact (below_size (by repeat (first | (with_reducible first | exact HB.out | apply below_alloc | apply pw_below_drewN | apply below_drew1) | exact HB.out))) : w.heap.size ≤ gb111)); clear HO_3; clear HB; have HO_3 := n0_; have HB := n1_; have BK111 := n2_; have GW111 := n3_; have GE111 := n4_; clear n0_ n1_ n2_ n3_ n4_; clear hb hbox hg; have hcz21_0 : w20.cell? ⟨gb111, 0, none⟩ = some (.int .i64 0) := (blk_cell BK111.out 0).trans rfl; have hcz21_1 : w20.cell? ⟨gb111, 1, none⟩ = some (.int .u64 0) := (blk_cell BK111.out 1).trans rfl; have hfz21_0 := blk_frozen BK111.out 0; have hfz21_1 := blk_frozen BK111.out 1))
                  go_roundg k1
                  case measure => have := HK1.out; omega
                  case rel => exact ⟨(x3_1), (wrap64 (x9_1 + 1)), (by first | rfl | (simp; done) | (simp [*]; done)), H', ⟨by have := HK1.out; omega⟩, ⟨by (with_reducible repeat (first | apply Kd.R_alloc | apply Kd.R_drewN | apply Kd.R_drew)); exact Kd.R_mono (Kd.R_far (p := ⟨gb111, 1, none⟩) (Kd.R_far (p := ⟨gb111, 0, none⟩) (Kd.R_types HO_3.out BK111.out (by decide)) (fun _ hk => hk.2) (.int .i64 ((rd_T43 l0 x9_1).f0))) (fun _ hk => hk.2) (.int .u64 ((rd_T43 l0 x9_1).f1))) (fun _ hk => trivial)⟩, ⟨by repeat (first | (with_reducible first | exact HB.out | apply below_alloc | apply pw_below_drewN | apply below_drew1 | refine below_set ?_ GE111.out) | exact HB.out)⟩⟩
              · rw [if_neg c8] at H
                have c8b0 : decide (0 ≤ ((rd_T43 l0 x9_1).f0)) = false := decide_eq_false c8
                clear c8
                have H' := Aside0.mk H
                clear H
                have p110 : 0 ≤ (x9_1 : Int) := of_decide_eq_true (by first | (with_reducible assumption) | assumption)
                have q110 : x9_1 < (l0.length : Int) := of_decide_eq_true (by first | (with_reducible assumption) | assumption)
                obtain ⟨ad110, e110, hx110_0, hx110_1⟩ := at_T43 HR0.out x9_1 p110 q110
                cases e110
                replace hx110_0 := (HB.out.cell (World.block_lt_of_cell? w _ hx110_0)).trans hx110_0
                replace hx110_1 := (HB.out.cell (World.block_lt_of_cell? w _ hx110_1)).trans hx110_1
                replace p110 := eq_true p110
                replace q110 := eq_true q110
                go_wp2_with (first | ((with_reducible refine gate_dst (N := 5) rfl ?_); refine box_event ?hg (N := 5) ?hd (cs := #[.int .i64 0, .int .u64 0]) (t := 43) ?hr ?_; (case hd => rfl); (case hg => rfl); (case hr => first | (go_simp; done) | (go_simp; rfl)); intro gb111 hg w22 hbox hb; have n0_ := Aside0.mk (Kd.R_below (by (with_reducible repeat (first | apply Kd.R_alloc | apply Kd.R_drewN | apply Kd.R_drew)); exact HO_3.out) hb); have n1_ := Aside0.mk (below_step (by repeat (first | (with_reducible first | exact HB.out | apply below_alloc | apply pw_below_drewN | apply below_drew1) | exact HB.out)) hb); have n2_ := Aside0.mk (hbox); have n3_ := Aside0.mk ((by rw [hg]; exact (below_size (by repeat (first | (with_reducible first | exact HB.out | apply below_alloc | apply pw_below_drewN | apply below_drew1) | exact HB.out))) : w.heap.size ≤ gb111)); have n4_ := Aside0.mk ((by rw [hg]; exact (below_size (by repeat (first | (with_reducible first | exact HB.out | apply below_alloc | apply pw_below_drewN | apply below_drew1) | exact HB.out))) : w.heap.size ≤ gb111)); clear HO_3; clear HB; have HO_3 := n0_; have HB := n1_; have BK111 := n2_; have GW111 := n3_; have GE111 := n4_; clear n0_ n1_ n2_ n3_ n4_; clear hb hbox hg; have hcz23_0 : w22.cell? ⟨gb111, 0, none⟩ = some (.int .i64 0) := (blk_cell BK111.out 0).trans rfl; have hcz23_1 : w22.cell? ⟨gb111, 1, none⟩ = some (.int .u64 0) := (blk_cell BK111.out 1).trans rfl; have hfz23_0 := blk_frozen BK111.out 0; have hfz23_1 := blk_frozen BK111.out 1))
                go_roundg k1
                case measure => have := HK1.out; omega
                case rel => exact ⟨(x3_1), (wrap64 (x9_1 + 1)), (by first | rfl | (simp; done) | (simp [*]; done)), H', ⟨by have := HK1.out; omega⟩, ⟨by (with_reducible repeat (first | apply Kd.R_alloc | apply Kd.R_drewN | apply Kd.R_drew)); exact Kd.R_mono (Kd.R_far (p := ⟨gb111, 1, none⟩) (Kd.R_far (p := ⟨gb111, 0, none⟩) (Kd.R_types HO_3.out BK111.out (by decide)) (fun _ hk => hk.2) (.int .i64 ((rd_T43 l0 x9_1).f0))) (fun _ hk => hk.2) (.int .u64 ((rd_T43 l0 x9_1).f1))) (fun _ hk => trivial)⟩, ⟨by repeat (first | (with_reducible first | exact HB.out | apply below_alloc | apply pw_below_drewN | apply below_drew1 | refine below_set ?_ GE111.out) | exact HB.out)⟩⟩
            · rw [if_neg c7] at H
              exact absurd H (by simp)
          · rw [if_neg c6] at H
            exact absurd H (by simp)
        · rw [if_neg c5] at H
          have c5b0 : decide (x9_1 < (l0.length : Int)) = false := decide_eq_false c5
          clear c5
          obtain rfl := Option.some.inj H
          go_wp2
          go_ret
          exact ⟨_, by first | rfl | (simp [errW_none, errW_some] <;> rfl) | (simp [*, errW_none, errW_some] <;> rfl), by (with_reducible repeat (first | apply Kd.R_alloc | apply Kd.R_drewN | apply Kd.R_drew)); exact HO_3.out, by repeat (first | (with_reducible first | exact HB.out | apply below_alloc | apply pw_below_drewN | apply below_drew1) | exact HB.out)⟩
  · rw [if_neg c2] at H
    exact absurd H (by simp)

end Go.Proofs.Ytlfakfdlifipnaa.PA

-- ---- PAx9

namespace Go.Proofs.Ytlfakfdlifipnaa.PA
open Go.RowKit Go.Proofs.YtlfakfdlifipnaaW.PrintWords Go.Proofs.YtlfakfdlifipnaaW.PrintLast Go.Proofs.YtlfakfdlifipnaaW.PrintMore
attribute [local go_sem] max2_int min2_int max_two min_two max_three min_three max_four min_four   -- for this text's walks alone
set_option linter.unusedVariables false
set_option linter.unusedSimpArgs false

/-! ### wringerlaw7_awake: function 8 -/
def wringerlaw7_awake.f (k : Nat)  : Option (Bool) := (hist_Order.f (([2, 0, 5] : List Int))).bind fun t117 => (if (t117.length : Int) = 2 then (if 0 < (t117.length : Int) then (if (rd t117 0) = 2 then (if 1 < (t117.length : Int) then (if (rd t117 1) = 0 then ((hist_Of.f k ([] : List (S43))).bind fun t122 => (some ((t122.length : Int) == 65))) else (some false)) else (none)) else (some false)) else (none)) else (some false))
theorem wringerlaw7_awake.mono : ∀ k, LeO (wringerlaw7_awake.f k ) (wringerlaw7_awake.f (k + 1) ) := by
  intro  k
  unfold wringerlaw7_awake.f
  repeat' first
      | (with_reducible exact hist_Of.mono _ _)
      | (with_reducible exact LeO.refl _)
      | (with_reducible exact LeO.none _)
      | (with_reducible refine LeO.ite ?_ ?_)
      | (with_reducible refine LeO.bind ?_ (fun _ => ?_))
      | exact hist_Of.mono _ _
      | exact LeO.none _
      | refine LeO.ite ?_ ?_
      | refine LeO.bind ?_ (fun _ => ?_)
set_option maxHeartbeats 8000000 in
set_option maxRecDepth 100000 in
theorem wringerlaw7_awake.calls (k : Nat)  (r : Bool) (w : World) (h : wringerlaw7_awake.f k  = some r) :
    Calls Try.prog 8 #[] w fun e w' => e = .returned (.bool r) ∧ Below w.heap.size w w' := by
  have HB := Aside0.mk (Below.refl w.heap.size w)
  have H : ((hist_Order.f (([2, 0, 5] : List Int))).bind fun t117 => (if (t117.length : Int) = 2 then (if 0 < (t117.length : Int) then (if (rd t117 0) = 2 then (if 1 < (t117.length : Int) then (if (rd t117 1) = 0 then ((hist_Of.f k ([] : List (S43))).bind fun t122 => (some ((t122.length : Int) == 65))) else (some false)) else (none)) else (some false)) else (none)) else (some false))) = some r := h
  clear h
  obtain ⟨y114, hy114⟩ : ∃ y_ : List Int, y_ = (([2, 0, 5] : List Int)) := ⟨_, rfl⟩
  replace H : ((hist_Order.f y114).bind fun t117 => (if (t117.length : Int) = 2 then (if 0 < (t117.length : Int) then (if (rd t117 0) = 2 then (if 1 < (t117.length : Int) then (if (rd t117 1) = 0 then ((hist_Of.f k ([] : List (S43))).bind fun t122 => (some ((t122.length : Int) == 65))) else (some false)) else (none)) else (some false)) else (none)) else (some false))) = some r := by first | (rw [hy114]; with_reducible exact H) | (have H2_ := (Option.bind_some _ _).symm.trans H; rw [hy114]; with_reducible exact H2_) | (have H2_ := (Option.bind_some _ _).symm.trans H; with_reducible exact H2_) | with_reducible exact H | (rw [hy114]; exact H) | exact H
  have Ny114 := Aside0.mk hy114
  clear hy114
  replace H := Option.bind_eq_some_iff.mp H
  obtain ⟨t117, A10, H⟩ := H
  replace H : (if (t117.length : Int) = 2 then (if 0 < (t117.length : Int) then (if (rd t117 0) = 2 then (if 1 < (t117.length : Int) then (if (rd t117 1) = 0 then ((hist_Of.f k ([] : List (S43))).bind fun t122 => (some ((t122.length : Int) == 65))) else (some false)) else (none)) else (some false)) else (none)) else (some false)) = some r := H
  have A1 := Aside0.mk A10
  clear A10
  by_cases c2 : (t117.length : Int) = 2
  · rw [if_pos c2] at H
    have c2b0 : ((t117.length : Int) == 2) = true := beq_iff_eq.mpr c2
    have c2b1 : ((t117.length : Int) != 2) = false := bne_eq_false_iff_eq.mpr c2
    clear c2
    by_cases c3 : 0 < (t117.length : Int)
    · rw [if_pos c3] at H
      have c3b0 : decide (0 < (t117.length : Int)) = true := decide_eq_true c3
      have c3b1 : decide (0 < t117.length) = true := decide_eq_true (by omega)
      clear c3
      by_cases c4 : (rd t117 0) = 2
      · rw [if_pos c4] at H
        have c4b0 : ((rd t117 0) == 2) = true := beq_iff_eq.mpr c4
        have c4b1 : ((rd t117 0) != 2) = false := bne_eq_false_iff_eq.mpr c4
        clear c4
        by_cases c5 : 1 < (t117.length : Int)
        · rw [if_pos c5] at H
          have c5b0 : decide (1 < (t117.length : Int)) = true := decide_eq_true c5
          have c5b1 : decide (1 < t117.length) = true := decide_eq_true (by omega)
          clear c5
          by_cases c6 : (rd t117 1) = 0
          · rw [if_pos c6] at H
            have c6b0 : ((rd t117 1) == 0) = true := beq_iff_eq.mpr c6
            have c6b1 : ((rd t117 1) != 0) = false := bne_eq_false_iff_eq.mpr c6
            clear c6
            replace H := Option.bind_eq_some_iff.mp H
            obtain ⟨t122, A70, H⟩ := H
            replace H : (some ((t122.length : Int) == 65)) = some r := H
            have A7 := Aside0.mk A70
            clear A70
            obtain rfl := Option.some.inj H
            go_enter Try.func8, Try.ntmps8
            go_wp2_with (first | ((with_reducible refine gate_dst (N := 2) rfl ?_); (try (refine gate_guard (by rfl) ?_; dsimp only)); refine Kd.R_lit (Kd.int .i64) _ 3 ?hg (N := 2) ?hd (xs := ([2, 0, 5] : List Int)) (inner := [.int .i64 2, .int .i64 0, .int .i64 5]) (ok := fun _ => True) (okp := fun _ => True) ?hr ?hp (fun _ hk => hk) trivial (Below.refl _ _) (Nat.le_refl _) (by simp) ?_; (case hd => rfl); (case hg => rfl); (case hr => first | (go_simp; done) | (go_simp; rfl)); (case hp => exact (Reps.one (show Kd.M (Kd.int .i64) _ _ _ 2 [.int .i64 2] from rfl) (Reps.one (show Kd.M (Kd.int .i64) _ _ _ 0 [.int .i64 0] from rfl) (Reps.one (show Kd.M (Kd.int .i64) _ _ _ 5 [.int .i64 5] from rfl) (Reps.none _ _))))); intro v115 w8 ho9 hb hg_ hnew_; clear hg_ hnew_; (first | rw [← Ny114.out] at ho9 | (simp only [Int.reduceToNat] at ho9; rw [← Ny114.out] at ho9)); have n0_ := Aside0.mk (Kd.R_lower ho9 (below_size (by repeat (first | (with_reducible first | exact HB.out | apply below_alloc | apply pw_below_drewN | apply below_drew1) | exact HB.out)))); have n1_ := Aside0.mk (below_step (by repeat (first | (with_reducible first | exact HB.out | apply below_alloc | apply pw_below_drewN | apply below_drew1) | exact HB.out)) hb); clear HB; have HO116 := n0_; have HB := n1_; clear n0_ n1_; clear hb ho9; obtain ⟨Ao10, co10, eo10⟩ := Kd.R_slice HO116.out; subst eo10) | ((with_reducible refine gate_callee (f := 9) rfl ?_); refine goesL_ (some 3) rfl rfl Try.func9 (by kernel_rfl) rfl #[.slice Ao10 y114.length co10] rfl (by (try simp only [List.map_toArray, List.map_cons, List.map_nil]); first | done | rfl | (simp only [List.length_drop, List.length_take]; rfl)) ?_; (with_reducible refine (hist_Order.calls _ _ y114 t117 _ ?side1 ?side2 A1.out).mono ?_); (case side1 => repeat (first | exact (Kd.R_reads' HO116.out).2.2 | (with_reducible refine Kd.C_alloc ?_ _) | (with_reducible refine Kd.C_drewN ?_ _) | (with_reducible refine Kd.C_drew ?_))); (case side2 => exact (Kd.R_reads' HO116.out).2.1); rintro e w11 ⟨v118, rfl, ho0, hb⟩; refine ⟨_, rfl, ?_⟩; have n0_ := Aside0.mk (Kd.R_elder' (by (with_reducible repeat (first | apply Kd.R_alloc | apply Kd.R_drewN | apply Kd.R_drew)); exact HO116.out) (Kd.R_base ho0) hb); have n1_ := Aside0.mk (Kd.R_lower (Kd.R_new' ho0 (Kd.R_lt (by (with_reducible repeat (first | apply Kd.R_alloc | apply Kd.R_drewN | apply Kd.R_drew)); exact HO116.out))) (below_size (by repeat (first | (with_reducible first | exact HB.out | apply below_alloc | apply pw_below_drewN | apply below_drew1) | exact HB.out)))); have n2_ := Aside0.mk (below_step (by repeat (first | (with_reducible first | exact HB.out | apply below_alloc | apply pw_below_drewN | apply below_drew1) | exact HB.out)) hb); clear HO116; clear HB; have HO116 := n0_; have HO119 := n1_; have HB := n2_; clear n0_ n1_ n2_; (try clear hb); (try clear hb2); (try clear hk); (try clear hi); (try clear ho0); obtain ⟨Ao12, co12, eo12⟩ := Kd.R_slice HO119.out; subst eo12; have p120 : 0 ≤ (0 : Int) := (by omega); have q120 : 0 < (t117.length : Int) := of_decide_eq_true (by first | (with_reducible assumption) | assumption); obtain ⟨ad120, e120, hx120_0⟩ := Kd.at_int (Kd.R_reads' HO119.out).2.2 0 p120 q120; cases e120; have qi120 : (0 < t117.length) = True := eq_true (by omega); (try rw [show ((0 : Int)).toNat = 0 from rfl] at hx120_0); (try rw [Addr.add_zero'] at hx120_0); replace p120 := eq_true p120; replace q120 := eq_true q120; have p121 : 0 ≤ (1 : Int) := (by omega); have q121 : 1 < (t117.length : Int) := of_decide_eq_true (by first | (with_reducible assumption) | assumption); obtain ⟨ad121, e121, hx121_0⟩ := Kd.at_int (Kd.R_reads' HO119.out).2.2 1 p121 q121; obtain rfl : ad120 = ad121 := (by injection e121); (try simp only [show (1 : Int).toNat = 1 from rfl, Nat.reduceMul, Nat.reduceEqDiff, Go.Addr.add, ↓reduceIte] at hx121_0); have qi121 : (1 < t117.length) = True := eq_true (by omega); (try rw [show ((1 : Int)).toNat = 1 from rfl] at hx121_0); replace p121 := eq_true p121; replace q121 := eq_true q121) | (go_at_call 10; (refine (hist_Of.calls k _ _ ([] : List (S43)) t122 _ ?side1 ?side2 A7.out).mono ?_); (case side1 => exact Kd.C_nil _ _); (case side2 => exact Nat.le_refl _); rintro e w13 ⟨v123, rfl, ho0, hb⟩; have n0_ := Aside0.mk (Kd.R_elder' (by (with_reducible repeat (first | apply Kd.R_alloc | apply Kd.R_drewN | apply Kd.R_drew)); exact HO116.out) (Kd.R_base ho0) hb); have n1_ := Aside0.mk (Kd.R_elder' (by (with_reducible repeat (first | apply Kd.R_alloc | apply Kd.R_drewN | apply Kd.R_drew)); exact HO119.out) (Kd.R_base ho0) hb); have n2_ := Aside0.mk (Kd.R_lower (Kd.R_new' (Kd.R_new' ho0 (Kd.R_lt (by (with_reducible repeat (first | apply Kd.R_alloc | apply Kd.R_drewN | apply Kd.R_drew)); exact HO116.out))) (Kd.R_lt (by (with_reducible repeat (first | apply Kd.R_alloc | apply Kd.R_drewN | apply Kd.R_drew)); exact HO119.out))) (below_size (by repeat (first | (with_reducible first | exact HB.out | apply below_alloc | apply pw_below_drewN | apply below_drew1) | exact HB.out)))); have n3_ := Aside0.mk (below_step (by repeat (first | (with_reducible first | exact HB.out | apply below_alloc | apply pw_below_drewN | apply below_drew1) | exact HB.out)) hb); clear HO116; clear HO119; clear HB; have HO116 := n0_; have HO119 := n1_; have HO124 := n2_; have HB := n3_; clear n0_ n1_ n2_ n3_; (try clear hb); (try clear hb2); (try clear hk); (try clear hi); (try clear ho0); obtain ⟨Ao14, co14, eo14⟩ := Kd.R_slice HO124.out; subst eo14))
            go_ret
            exact ⟨by first | rfl | (simp [errW_none, errW_some] <;> rfl) | (simp [*, errW_none, errW_some] <;> rfl), by repeat (first | (with_reducible first | exact HB.out | apply below_alloc | apply pw_below_drewN | apply below_drew1) | exact HB.out)⟩
          · rw [if_neg c6] at H
            have c6b0 : ((rd t117 1) == 0) = false := beq_eq_false_iff_ne.mpr c6
            have c6b1 : ((rd t117 1) != 0) = true := bne_iff_ne.mpr c6
            obtain rfl := Option.some.inj H
            go_enter Try.func8, Try.ntmps8
            go_wp2_with (first | ((with_reducible refine gate_dst (N := 2) rfl ?_); (try (refine gate_guard (by rfl) ?_; dsimp only)); refine Kd.R_lit (Kd.int .i64) _ 3 ?hg (N := 2) ?hd (xs := ([2, 0, 5] : List Int)) (inner := [.int .i64 2, .int .i64 0, .int .i64 5]) (ok := fun _ => True) (okp := fun _ => True) ?hr ?hp (fun _ hk => hk) trivial (Below.refl _ _) (Nat.le_refl _) (by simp) ?_; (case hd => rfl); (case hg => rfl); (case hr => first | (go_simp; done) | (go_simp; rfl)); (case hp => exact (Reps.one (show Kd.M (Kd.int .i64) _ _ _ 2 [.int .i64 2] from rfl) (Reps.one (show Kd.M (Kd.int .i64) _ _ _ 0 [.int .i64 0] from rfl) (Reps.one (show Kd.M (Kd.int .i64) _ _ _ 5 [.int .i64 5] from rfl) (Reps.none _ _))))); intro v115 w15 ho16 hb hg_ hnew_; clear hg_ hnew_; (first | rw [← Ny114.out] at ho16 | (simp only [Int.reduceToNat] at ho16; rw [← Ny114.out] at ho16)); have n0_ := Aside0.mk (Kd.R_lower ho16 (below_size (by repeat (first | (with_reducible first | exact HB.out | apply below_alloc | apply pw_below_drewN | apply below_drew1) | exact HB.out)))); have n1_ := Aside0.mk (below_step (by repeat (first | (with_reducible first | exact HB.out | apply below_alloc | apply pw_below_drewN | apply below_drew1) | exact HB.out)) hb); clear HB; have HO116 := n0_; have HB := n1_; clear n0_ n1_; clear hb ho16; obtain ⟨Ao17, co17, eo17⟩ := Kd.R_slice HO116.out; subst eo17) | ((with_reducible refine gate_callee (f := 9) rfl ?_); refine goesL_ (some 3) rfl rfl Try.func9 (by kernel_rfl) rfl #[.slice Ao17 y114.length co17] rfl (by (try simp only [List.map_toArray, List.map_cons, List.map_nil]); first | done | rfl | (simp only [List.length_drop, List.length_take]; rfl)) ?_; (with_reducible refine (hist_Order.calls _ _ y114 t117 _ ?side1 ?side2 A1.out).mono ?_); (case side1 => repeat (first | exact (Kd.R_reads' HO116.out).2.2 | (with_reducible refine Kd.C_alloc ?_ _) | (with_reducible refine Kd.C_drewN ?_ _) | (with_reducible refine Kd.C_drew ?_))); (case side2 => exact (Kd.R_reads' HO116.out).2.1); rintro e w18 ⟨v118, rfl, ho0, hb⟩; refine ⟨_, rfl, ?_⟩; have n0_ := Aside0.mk (Kd.R_elder' (by (with_reducible repeat (first | apply Kd.R_alloc | apply Kd.R_drewN | apply Kd.R_drew)); exact HO116.out) (Kd.R_base ho0) hb); have n1_ := Aside0.mk (Kd.R_lower (Kd.R_new' ho0 (Kd.R_lt (by (with_reducible repeat (first | apply Kd.R_alloc | apply Kd.R_drewN | apply Kd.R_drew)); exact HO116.out))) (below_size (by repeat (first | (with_reducible first | exact HB.out | apply below_alloc | apply pw_below_drewN | apply below_drew1) | exact HB.out)))); have n2_ := Aside0.mk (below_step (by repeat (first | (with_reducible first | exact HB.out | apply below_alloc | apply pw_below_drewN | apply below_drew1) | exact HB.out)) hb); clear HO116; clear HB; have HO116 := n0_; have HO119 := n1_; have HB := n2_; clear n0_ n1_ n2_; (try clear hb); (try clear hb2); (try clear hk); (try clear hi); (try clear ho0); obtain ⟨Ao19, co19, eo19⟩ := Kd.R_slice HO119.out; subst eo19; have p120 : 0 ≤ (0 : Int) := (by omega); have q120 : 0 < (t117.length : Int) := of_decide_eq_true (by first | (with_reducible assumption) | assumption); obtain ⟨ad120, e120, hx120_0⟩ := Kd.at_int (Kd.R_reads' HO119.out).2.2 0 p120 q120; cases e120; have qi120 : (0 < t117.length) = True := eq_true (by omega); (try rw [show ((0 : Int)).toNat = 0 from rfl] at hx120_0); (try rw [Addr.add_zero'] at hx120_0); replace p120 := eq_true p120; replace q120 := eq_true q120; have p121 : 0 ≤ (1 : Int) := (by omega); have q121 : 1 < (t117.length : Int) := of_decide_eq_true (by first | (with_reducible assumption) | assumption); obtain ⟨ad121, e121, hx121_0⟩ := Kd.at_int (Kd.R_reads' HO119.out).2.2 1 p121 q121; obtain rfl : ad120 = ad121 := (by injection e121); (try simp only [show (1 : Int).toNat = 1 from rfl, Nat.reduceMul, Nat.reduceEqDiff, Go.Addr.add, ↓reduceIte] at hx121_0); have qi121 : (1 < t117.length) = True := eq_true (by omega); (try rw [show ((1 : Int)).toNat = 1 from rfl] at hx121_0); replace p121 := eq_true p121; replace q121 := eq_true q121))
            go_ret
            exact ⟨by first | rfl | (simp [errW_none, errW_some] <;> rfl) | (simp [*, errW_none, errW_some] <;> rfl), by repeat (first | (with_reducible first | exact HB.out | apply below_alloc | apply pw_below_drewN | apply below_drew1) | exact HB.out)⟩
        · rw [if_neg c5] at H
          exact absurd H (by simp)
      · rw [if_neg c4] at H
        have c4b0 : ((rd t117 0) == 2) = false := beq_eq_false_iff_ne.mpr c4
        have c4b1 : ((rd t117 0) != 2) = true := bne_iff_ne.mpr c4
        obtain rfl := Option.some.inj H
        go_enter Try.func8, Try.ntmps8
        go_wp2_with (first | ((with_reducible refine gate_dst (N := 2) rfl ?_); (try (refine gate_guard (by rfl) ?_; dsimp only)); refine Kd.R_lit (Kd.int .i64) _ 3 ?hg (N := 2) ?hd (xs := ([2, 0, 5] : List Int)) (inner := [.int .i64 2, .int .i64 0, .int .i64 5]) (ok := fun _ => True) (okp := fun _ => True) ?hr ?hp (fun _ hk => hk) trivial (Below.refl _ _) (Nat.le_refl _) (by simp) ?_; (case hd => rfl); (case hg => rfl); (case hr => first | (go_simp; done) | (go_simp; rfl)); (case hp => exact (Reps.one (show Kd.M (Kd.int .i64) _ _ _ 2 [.int .i64 2] from rfl) (Reps.one (show Kd.M (Kd.int .i64) _ _ _ 0 [.int .i64 0] from rfl) (Reps.one (show Kd.M (Kd.int .i64) _ _ _ 5 [.int .i64 5] from rfl) (Reps.none _ _))))); intro v115 w20 ho21 hb hg_ hnew_; clear hg_ hnew_; (first | rw [← Ny114.out] at ho21 | (simp only [Int.reduceToNat] at ho21; rw [← Ny114.out] at ho21)); have n0_ := Aside0.mk (Kd.R_lower ho21 (below_size (by repeat (first | (with_reducible first | exact HB.out | apply below_alloc | apply pw_below_drewN | apply below_drew1) | exact HB.out)))); have n1_ := Aside0.mk (below_step (by repeat (first | (with_reducible first | exact HB.out | apply below_alloc | apply pw_below_drewN | apply below_drew1) | exact HB.out)) hb); clear HB; have HO116 := n0_; have HB := n1_; clear n0_ n1_; clear hb ho21; obtain ⟨Ao22, co22, eo22⟩ := Kd.R_slice HO116.out; subst eo22) | ((with_reducible refine gate_callee (f := 9) rfl ?_); refine goesL_ (some 3) rfl rfl Try.func9 (by kernel_rfl) rfl #[.slice Ao22 y114.length co22] rfl (by (try simp only [List.map_toArray, List.map_cons, List.map_nil]); first | done | rfl | (simp only [List.length_drop, List.length_take]; rfl)) ?_; (with_reducible refine (hist_Order.calls _ _ y114 t117 _ ?side1 ?side2 A1.out).mono ?_); (case side1 => repeat (first | exact (Kd.R_reads' HO116.out).2.2 | (with_reducible refine Kd.C_alloc ?_ _) | (with_reducible refine Kd.C_drewN ?_ _) | (with_reducible refine Kd.C_drew ?_))); (case side2 => exact (Kd.R_reads' HO116.out).2.1); rintro e w23 ⟨v118, rfl, ho0, hb⟩; refine ⟨_, rfl, ?_⟩; have n0_ := Aside0.mk (Kd.R_elder' (by (with_reducible repeat (first | apply Kd.R_alloc | apply Kd.R_drewN | apply Kd.R_drew)); exact HO116.out) (Kd.R_base ho0) hb); have n1_ := Aside0.mk (Kd.R_lower (Kd.R_new' ho0 (Kd.R_lt (by (with_reducible repeat (first | apply Kd.R_alloc | apply Kd.R_drewN | apply Kd.R_drew)); exact HO116.out))) (below_size (by repeat (first | (with_reducible first | exact HB.out | apply below_alloc | apply pw_below_drewN | apply below_drew1) | exact HB.out)))); have n2_ := Aside0.mk (below_step (by repeat (first | (with_reducible first | exact HB.out | apply below_alloc | apply pw_below_drewN | apply below_drew1) | exact HB.out)) hb); clear HO116; clear HB; have HO116 := n0_; have HO119 := n1_; have HB := n2_; clear n0_ n1_ n2_; (try clear hb); (try clear hb2); (try clear hk); (try clear hi); (try clear ho0); obtain ⟨Ao24, co24, eo24⟩ := Kd.R_slice HO119.out; subst eo24; have p120 : 0 ≤ (0 : Int) := (by omega); have q120 : 0 < (t117.length : Int) := of_decide_eq_true (by first | (with_reducible assumption) | assumption); obtain ⟨ad120, e120, hx120_0⟩ := Kd.at_int (Kd.R_reads' HO119.out).2.2 0 p120 q120; cases e120; have qi120 : (0 < t117.length) = True := eq_true (by omega); (try rw [show ((0 : Int)).toNat = 0 from rfl] at hx120_0); (try rw [Addr.add_zero'] at hx120_0); replace p120 := eq_true p120; replace q120 := eq_true q120))
        go_ret
        exact ⟨by first | rfl | (simp [errW_none, errW_some] <;> rfl) | (simp [*, errW_none, errW_some] <;> rfl), by repeat (first | (with_reducible first | exact HB.out | apply below_alloc | apply pw_below_drewN | apply below_drew1) | exact HB.out)⟩
    · rw [if_neg c3] at H
      exact absurd H (by simp)
  · rw [if_neg c2] at H
    have c2b0 : ((t117.length : Int) == 2) = false := beq_eq_false_iff_ne.mpr c2
    have c2b1 : ((t117.length : Int) != 2) = true := bne_iff_ne.mpr c2
    obtain rfl := Option.some.inj H
    go_enter Try.func8, Try.ntmps8
    go_wp2_with (first | ((with_reducible refine gate_dst (N := 2) rfl ?_); (try (refine gate_guard (by rfl) ?_; dsimp only)); refine Kd.R_lit (Kd.int .i64) _ 3 ?hg (N := 2) ?hd (xs := ([2, 0, 5] : List Int)) (inner := [.int .i64 2, .int .i64 0, .int .i64 5]) (ok := fun _ => True) (okp := fun _ => True) ?hr ?hp (fun _ hk => hk) trivial (Below.refl _ _) (Nat.le_refl _) (by simp) ?_; (case hd => rfl); (case hg => rfl); (case hr => first | (go_simp; done) | (go_simp; rfl)); (case hp => exact (Reps.one (show Kd.M (Kd.int .i64) _ _ _ 2 [.int .i64 2] from rfl) (Reps.one (show Kd.M (Kd.int .i64) _ _ _ 0 [.int .i64 0] from rfl) (Reps.one (show Kd.M (Kd.int .i64) _ _ _ 5 [.int .i64 5] from rfl) (Reps.none _ _))))); intro v115 w25 ho26 hb hg_ hnew_; clear hg_ hnew_; (first | rw [← Ny114.out] at ho26 | (simp only [Int.reduceToNat] at ho26; rw [← Ny114.out] at ho26)); have n0_ := Aside0.mk (Kd.R_lower ho26 (below_size (by repeat (first | (with_reducible first | exact HB.out | apply below_alloc | apply pw_below_drewN | apply below_drew1) | exact HB.out)))); have n1_ := Aside0.mk (below_step (by repeat (first | (with_reducible first | exact HB.out | apply below_alloc | apply pw_below_drewN | apply below_drew1) | exact HB.out)) hb); clear HB; have HO116 := n0_; have HB := n1_; clear n0_ n1_; clear hb ho26; obtain ⟨Ao27, co27, eo27⟩ := Kd.R_slice HO116.out; subst eo27) | ((with_reducible refine gate_callee (f := 9) rfl ?_); refine goesL_ (some 3) rfl rfl Try.func9 (by kernel_rfl) rfl #[.slice Ao27 y114.length co27] rfl (by (try simp only [List.map_toArray, List.map_cons, List.map_nil]); first | done | rfl | (simp only [List.length_drop, List.length_take]; rfl)) ?_; (with_reducible refine (hist_Order.calls _ _ y114 t117 _ ?side1 ?side2 A1.out).mono ?_); (case side1 => repeat (first | exact (Kd.R_reads' HO116.out).2.2 | (with_reducible refine Kd.C_alloc ?_ _) | (with_reducible refine Kd.C_drewN ?_ _) | (with_reducible refine Kd.C_drew ?_))); (case side2 => exact (Kd.R_reads' HO116.out).2.1); rintro e w28 ⟨v118, rfl, ho0, hb⟩; refine ⟨_, rfl, ?_⟩; have n0_ := Aside0.mk (Kd.R_elder' (by (with_reducible repeat (first | apply Kd.R_alloc | apply Kd.R_drewN | apply Kd.R_drew)); exact HO116.out) (Kd.R_base ho0) hb); have n1_ := Aside0.mk (Kd.R_lower (Kd.R_new' ho0 (Kd.R_lt (by (with_reducible repeat (first | apply Kd.R_alloc | apply Kd.R_drewN | apply Kd.R_drew)); exact HO116.out))) (below_size (by repeat (first | (with_reducible first | exact HB.out | apply below_alloc | apply pw_below_drewN | apply below_drew1) | exact HB.out)))); have n2_ := Aside0.mk (below_step (by repeat (first | (with_reducible first | exact HB.out | apply below_alloc | apply pw_below_drewN | apply below_drew1) | exact HB.out)) hb); clear HO116; clear HB; have HO116 := n0_; have HO119 := n1_; have HB := n2_; clear n0_ n1_ n2_; (try clear hb); (try clear hb2); (try clear hk); (try clear hi); (try clear ho0); obtain ⟨Ao29, co29, eo29⟩ := Kd.R_slice HO119.out; subst eo29))
    go_ret
    exact ⟨by first | rfl | (simp [errW_none, errW_some] <;> rfl) | (simp [*, errW_none, errW_some] <;> rfl), by repeat (first | (with_reducible first | exact HB.out | apply below_alloc | apply pw_below_drewN | apply below_drew1) | exact HB.out)⟩

end Go.Proofs.Ytlfakfdlifipnaa.PA

-- ---- Ub
/- Words of the print's plain functions: small facts. No program in sight. -/
namespace Go.Proofs.Ytlfakfdlifipnaa.PA
set_option linter.unusedVariables false
set_option linter.unusedSimpArgs false
open Go.RowKit Go.Proofs.YtlfakfdlifipnaaW.PrintWords Go.Proofs.YtlfakfdlifipnaaW.PrintLast Go.Proofs.YtlfakfdlifipnaaW.PrintMore

theorem w64 {x : Int} (h1 : -9223372036854775808 ≤ x) (h2 : x ≤ 9223372036854775807) : wrap64 x = x := by unfold wrap64; omega
theorem rd_nat (xs : List Int) (i : Nat) : rd xs (i : Int) = xs.getD i 0 := by unfold rd; rw [Int.toNat_natCast]
theorem pow2_le (k m : Nat) (h : k ≤ m) : 2 ^ k ≤ 2 ^ m := Nat.pow_le_pow_right (by decide) h
theorem i64_wrap_nat (n : Nat) (h : n < 9223372036854775808) : IntKind.i64.wrap (n : Int) = (n : Int) := by
  simp [IntKind.wrap, IntKind.bits, IntKind.signed]; omega
theorem shl_nat (x k : Nat) (hk : k ≤ 62) (h : x * 2 ^ k < 9223372036854775808) : shl .i64 (x : Int) (k : Int) = ((x * 2 ^ k : Nat) : Int) := by
  unfold shl
  have e : min ((k : Int).toNat) (IntKind.bits .i64) = k := by simp [IntKind.bits]; omega
  rw [e]
  have e2 : (x : Int) * 2 ^ k = ((x * 2 ^ k : Nat) : Int) := by simp
  rw [e2, i64_wrap_nat _ h]
theorem shl_1 (k : Nat) (hk : k ≤ 62) : shl .i64 1 (k : Int) = ((2 ^ k : Nat) : Int) := by
  have h := shl_nat 1 k hk (by have := pow2_le k 62 hk; rw [Nat.one_mul]; have e : 2 ^ 62 = 4611686018427387904 := by decide
                               omega)
  rw [Nat.one_mul] at h; exact h
theorem shr_nat (x k : Nat) (hk : k ≤ 64) : shr .i64 (x : Int) (k : Int) = ((x / 2 ^ k : Nat) : Int) := by
  unfold shr
  have e : min ((k : Int).toNat) (IntKind.bits .i64) = k := by simp [IntKind.bits]; omega
  rw [e]; simp
theorem tdiv_nat (a b : Nat) : Int.tdiv (a : Int) (b : Int) = ((a / b : Nat) : Int) := by
  rw [Int.tdiv_eq_ediv_of_nonneg (by omega)]; simp
theorem tmod_nat (a b : Nat) : Int.tmod (a : Int) (b : Int) = ((a % b : Nat) : Int) := by
  rw [Int.tmod_eq_emod_of_nonneg (by omega)]; simp

/-- What a loop comes to, from some number of rounds on: by what is left to do. -/
theorem evq {α : Type} {g : Nat → Option α} {r s : α} (e : r = s) (h : Ev g r) : Ev g s := e ▸ h
/-- A call whose answer needs no rounds. -/
theorem Ev.bind0 {α β : Type} {x : Option α} {f : Nat → α → Option β} {a : α} {r : β} (h : x = some a) (k : Ev (fun n => f n a) r) : Ev (fun n => x.bind (f n)) r := by
  subst h; exact k
theorem Ev.ite_pos {α : Type} {c : Prop} [Decidable c] {f g : Nat → Option α} {r : α} (h : c) (k : Ev f r) : Ev (fun n => if c then f n else g n) r := by
  simpa only [if_pos h] using k
theorem Ev.ite_neg {α : Type} {c : Prop} [Decidable c] {f g : Nat → Option α} {r : α} (h : ¬ c) (k : Ev g r) : Ev (fun n => if c then f n else g n) r := by
  simpa only [if_neg h] using k
theorem Ev.ofSome {α : Type} {r s : α} (h : r = s) : Ev (fun _ => some r) s := by subst h; exact Ev.now r
theorem mx_max (x y : Int) : mx x y = max x y := by unfold mx; split <;> omega
theorem mn_min (x y : Int) : mn x y = min x y := by unfold mn; split <;> omega
end Go.Proofs.Ytlfakfdlifipnaa.PA

-- ---- Ue
/- Lists of whole numbers that are one, or not. -/
namespace Go.Proofs.Ytlfakfdlifipnaa.PA
set_option linter.unusedVariables false
set_option linter.unusedSimpArgs false
open Go.RowKit Go.Proofs.YtlfakfdlifipnaaW.PrintWords Go.Proofs.YtlfakfdlifipnaaW.PrintLast Go.Proofs.YtlfakfdlifipnaaW.PrintMore

theorem drop_cons0 (l : List Int) (i : Nat) (h : i < l.length) : l.drop i = l.getD i 0 :: l.drop (i + 1) := by
  rw [List.drop_eq_getElem_cons h]; simp [List.getD_eq_getElem?_getD, h]
theorem same_l0 (a b : List Int) (hl : a.length = b.length) (hb : a.length < 4611686018427387904) : ∀ (d i : Nat), i + d = a.length →
    Ev (fun k => wringerref7_SameInts.l0 k a b (i : Int)) (decide (a.drop i = b.drop i)) := by
  intro d
  induction d with
  | zero =>
    intro i hi
    refine Ev.step (f := fun _ => some true) (fun k => by simp only [wringerref7_SameInts.l0]; rw [if_neg (by omega)]) (Ev.ofSome ?_)
    rw [List.drop_eq_nil_of_le (by omega), List.drop_eq_nil_of_le (by omega)]; simp
  | succ d ih =>
    intro i hi
    rw [drop_cons0 a i (by omega), drop_cons0 b i (by omega)]
    by_cases h : a.getD i 0 = b.getD i 0
    · refine evq ?_ (Ev.step (f := fun k => wringerref7_SameInts.l0 k a b ((i + 1 : Nat) : Int)) (fun k => by simp only [wringerref7_SameInts.l0]; rw [if_pos (by omega), if_pos (by omega), if_pos (by omega), rd_nat, rd_nat, if_pos h, w64 (by omega) (by omega)]; rfl) (ih (i + 1) (by omega)))
      rw [h]; congr 1; simp
    · refine Ev.step (f := fun _ => some false) (fun k => by simp only [wringerref7_SameInts.l0]; rw [if_pos (by omega), if_pos (by omega), if_pos (by omega), rd_nat, rd_nat, if_neg h]) (Ev.ofSome ?_)
      symm; rw [decide_eq_false_iff_not]; intro e; exact h (List.cons.inj e).1
theorem same_is (a b : List Int) (hb : a.length < 4611686018427387904) : Ev (fun k => wringerref7_SameInts.f k a b) (decide (a = b)) := by
  unfold wringerref7_SameInts.f
  by_cases hl : a.length = b.length
  · refine Ev.ite_pos (by omega) ?_
    have := same_l0 a b hl hb a.length 0 (by omega)
    rw [List.drop_zero, List.drop_zero] at this
    exact this
  · refine Ev.ite_neg (by omega) (Ev.ofSome ?_)
    symm; rw [decide_eq_false_iff_not]; intro e; exact hl (by rw [e])
theorem same_self (a : List Int) (hb : a.length < 4611686018427387904) : Ev (fun k => wringerref7_SameInts.f k a a) true := by
  have := same_is a a hb
  simpa using this
end Go.Proofs.Ytlfakfdlifipnaa.PA

-- ---- Zm
/- Numbers by their size: plain facts; no program in sight. -/
namespace Go.Proofs.Ytlfakfdlifipnaa.Zig
set_option linter.unusedSimpArgs false
set_option linter.unusedVariables false

abbrev bl (u : Nat) : Nat := Go.Lib.bitLen u

theorem bl_zero : bl 0 = 0 := by decide

theorem bl_pos (u : Nat) (h0 : u ≠ 0) (h : u < 2 ^ 64) : 1 ≤ bl u := by
  have := Go.Lib.bitLen_half u h0 h
  unfold bl; omega

theorem bl_spec : ∀ (n u : Nat), u < n → u ≠ 0 → u < 2 ^ 64 → 2 ^ (bl u - 1) ≤ u ∧ u < 2 ^ bl u := by
  intro n
  induction n with
  | zero => intro u h; omega
  | succ n ih =>
    intro u hn h0 h
    have hb := Go.Lib.bitLen_half u h0 h
    by_cases h1 : u / 2 = 0
    · have hu : u = 1 := by omega
      subst hu
      decide
    · have ih2 := ih (u / 2) (by omega) h1 (by omega)
      have hp := bl_pos (u / 2) h1 (by omega)
      unfold bl at *
      rw [hb]
      have e : 1 + Go.Lib.bitLen (u / 2) - 1 = (Go.Lib.bitLen (u / 2) - 1) + 1 := by omega
      rw [e, Nat.add_comm 1, Nat.pow_succ, Nat.pow_succ]
      omega

theorem bl_le (u : Nat) (h : u < 2 ^ 64) : bl u ≤ 64 := Go.Lib.bitLen_le u 64 (by decide) h

theorem bl_eq (u k : Nat) (h1 : 2 ^ k ≤ u) (h2 : u < 2 ^ (k + 1)) (h : u < 2 ^ 64) : bl u = k + 1 := by
  have h0 : u ≠ 0 := by have := Nat.pow_pos (n := k) (show 0 < 2 by decide); omega
  have hs := bl_spec (u + 1) u (by omega) h0 h
  have hp := bl_pos u h0 h
  rcases Nat.lt_trichotomy (bl u) (k + 1) with hl | hl | hl
  · have : 2 ^ bl u ≤ 2 ^ k := Nat.pow_le_pow_right (by decide) (by omega)
    omega
  · exact hl
  · have : 2 ^ (k + 1) ≤ 2 ^ (bl u - 1) := Nat.pow_le_pow_right (by decide) (by omega)
    omega

theorem bl_mono (u v : Nat) (hv : v < 2 ^ 64) (h : u ≤ v) : bl u ≤ bl v := by
  by_cases h0 : u = 0
  · subst h0; rw [bl_zero]; omega
  · have hs := bl_spec (u + 1) u (by omega) h0 (by omega)
    have ht := bl_spec (v + 1) v (by omega) (by omega) hv
    rcases Nat.lt_or_ge (bl v) (bl u) with hl | hl
    · have : 2 ^ bl v ≤ 2 ^ (bl u - 1) := Nat.pow_le_pow_right (by decide) (by omega)
      omega
    · exact hl

/-- A number by its size. -/
def zmap (v : Int) : Nat := if v < 0 then (-2 * v - 1).toNat else (2 * v).toNat
def zback (u : Nat) : Int := if u % 2 = 1 then -((u / 2 : Nat) : Int) - 1 else ((u / 2 : Nat) : Int)

theorem zmap_lt (v : Int) (h0 : -9223372036854775808 ≤ v) (h1 : v ≤ 9223372036854775807) : zmap v < 18446744073709551616 := by unfold zmap; split <;> omega
theorem zback_zmap (v : Int) : zback (zmap v) = v := by
  unfold zback zmap
  split <;> split <;> omega
theorem zmap_zback (u : Nat) : zmap (zback u) = u := by
  unfold zback zmap
  split <;> split <;> omega
theorem zback_range (u : Nat) (h : u < 18446744073709551616) : -9223372036854775808 ≤ zback u ∧ zback u ≤ 9223372036854775807 := by
  unfold zback; split <;> omega
theorem zmap_inj (v w : Int) : zmap v = zmap w ↔ v = w :=
  ⟨fun h => by rw [← zback_zmap v, h, zback_zmap], fun h => by rw [h]⟩

/-- A class, and what stands beyond. -/
def clsU (u : Nat) : Nat := bl u
def rstU (u : Nat) : Nat := if bl u = 0 then 0 else u - 2 ^ (bl u - 1)

theorem rstU_lt (u : Nat) (h : u < 18446744073709551616) : rstU u < 18446744073709551616 := by
  unfold rstU
  split
  · decide
  · exact Nat.lt_of_le_of_lt (Nat.sub_le _ _) h
theorem bl_eq_zero (u : Nat) (h : u < 2 ^ 64) : bl u = 0 ↔ u = 0 := by
  constructor
  · intro e
    by_cases h0 : u = 0
    · exact h0
    · have := bl_pos u h0 h; omega
  · intro e; subst e; exact bl_zero

/-- Has a part a number? -/
def may (c : Int) (r : Nat) : Bool := decide (0 ≤ c ∧ c ≤ 64) && (if c < 1 then decide (r = 0) else decide (r < 2 ^ (c.toNat - 1)))
def sizeOf (c : Int) (r : Nat) : Nat := if c < 1 then 0 else 2 ^ (c.toNat - 1) + r
def join (c : Int) (r : Nat) : Int := if may c r then zback (sizeOf c r) else 0

theorem pow_le63 (k : Nat) (h : k ≤ 63) : 2 ^ k ≤ 9223372036854775808 := by
  have : 2 ^ k ≤ 2 ^ 63 := Nat.pow_le_pow_right (by decide) h
  omega

theorem sizeOf_lt (c : Int) (r : Nat) (h : may c r = true) : sizeOf c r < 18446744073709551616 := by
  unfold may at h
  unfold sizeOf
  simp only [Bool.and_eq_true, decide_eq_true_eq] at h
  split
  · decide
  · rw [if_neg (by assumption)] at h
    have := pow_le63 (c.toNat - 1) (by omega)
    have h2 := of_decide_eq_true h.2
    omega

theorem bl_size (c : Int) (r : Nat) (h : may c r = true) (hc : 1 ≤ c) : bl (sizeOf c r) = c.toNat := by
  have hl := sizeOf_lt c r h
  unfold may at h
  simp only [Bool.and_eq_true, decide_eq_true_eq] at h
  rw [if_neg (by omega)] at h
  have h2 := of_decide_eq_true h.2
  unfold sizeOf at *
  rw [if_neg (by omega)] at *
  have e : c.toNat = (c.toNat - 1) + 1 := by omega
  rw [e]
  refine bl_eq _ _ ?_ ?_ ?_
  · rw [show c.toNat - 1 + 1 - 1 = c.toNat - 1 by omega]; omega
  · rw [show c.toNat - 1 + 1 - 1 = c.toNat - 1 by omega, Nat.pow_succ]; omega
  · rw [show c.toNat - 1 + 1 - 1 = c.toNat - 1 by omega]; omega

/-- What is split of a number has it. -/
theorem may_split (u : Nat) (h : u < 18446744073709551616) : may (bl u : Int) (rstU u) = true := by
  unfold may rstU
  by_cases h0 : u = 0
  · subst h0; rw [bl_zero]; decide
  · have hs := bl_spec (u + 1) u (by omega) h0 h
    have hp := bl_pos u h0 h
    have hl := bl_le u h
    simp only [Bool.and_eq_true, decide_eq_true_eq]
    refine ⟨by omega, ?_⟩
    rw [if_neg (by omega), if_neg (by omega), decide_eq_true_eq, Int.toNat_natCast]
    have e : 2 ^ bl u = 2 ^ (bl u - 1) * 2 := by rw [← Nat.pow_succ]; congr 1; omega
    omega
theorem size_split (u : Nat) (h : u < 18446744073709551616) : sizeOf (bl u : Int) (rstU u) = u := by
  unfold sizeOf rstU
  by_cases h0 : u = 0
  · subst h0; rw [bl_zero]; decide
  · have hs := bl_spec (u + 1) u (by omega) h0 h
    have hp := bl_pos u h0 h
    rw [if_neg (by omega), if_neg (by omega), Int.toNat_natCast]
    omega
theorem join_split (v : Int) (h0 : -9223372036854775808 ≤ v) (h1 : v ≤ 9223372036854775807) : join (bl (zmap v) : Int) (rstU (zmap v)) = v := by
  have hl := zmap_lt v h0 h1
  unfold join
  rw [if_pos (may_split _ hl), size_split _ hl, zback_zmap]
end Go.Proofs.Ytlfakfdlifipnaa.Zig

-- ---- Zc
/- zig: what its functions return. -/
namespace Go.Proofs.Ytlfakfdlifipnaa
set_option linter.unusedSimpArgs false
set_option linter.unusedVariables false
open Go.RowKit Mix Own Zig

theorem i64_xor_zero (x : Nat) (hx : x < 9223372036854775808) : bits .xor .i64 (x : Int) 0 = (x : Int) := by
  show IntKind.i64.wrap ((BitVec.ofInt 64 (x : Int) ^^^ BitVec.ofInt 64 0).toNat : Int) = _
  have h1 : (BitVec.ofInt 64 0).toNat = 0 := by decide
  have h2 : (BitVec.ofInt 64 (x : Int)).toNat = x := by
    rw [BitVec.ofInt_natCast, BitVec.toNat_ofNat]; exact Nat.mod_eq_of_lt (by omega)
  rw [BitVec.toNat_xor, h1, h2, Nat.xor_zero, IntKind.wrap_i64]
  omega
theorem i64_xor_neg (x : Nat) (hx : x < 9223372036854775808) : bits .xor .i64 (x : Int) (-1) = -(x : Int) - 1 := by
  rw [← Go.Lib.i64_not x hx]
  show IntKind.i64.wrap ((BitVec.ofInt 64 (x : Int) ^^^ BitVec.ofInt 64 (-1)).toNat : Int) = IntKind.i64.wrap ((BitVec.ofInt 64 (-1) ^^^ BitVec.ofInt 64 (x : Int)).toNat : Int)
  rw [BitVec.xor_comm]

theorem zmap_bits (v : Int) (h0 : -9223372036854775808 ≤ v) (h1 : v ≤ 9223372036854775807) :
    bits .xor .u64 (IntKind.u64.wrap (IntKind.u64.wrap v * 2)) (IntKind.u64.wrap (v / 9223372036854775808)) = (zmap v : Int) := by
  by_cases hv : v < 0
  · have e1 : IntKind.u64.wrap (IntKind.u64.wrap v * 2) = (((2 * v + 18446744073709551616).toNat : Nat) : Int) := by
      rw [IntKind.wrap_u64, IntKind.wrap_u64]
      omega
    have e2 : IntKind.u64.wrap (v / 9223372036854775808) = ((2 ^ 64 - 1 : Nat) : Int) := by
      rw [IntKind.wrap_u64]
      omega
    rw [e1, e2, bits_xor_u64_nat _ _ (by omega) (by decide), Nat.xor_comm, Go.Lib.xor_ones64 _ (by omega)]
    unfold zmap
    rw [if_pos hv]
    omega
  · have e1 : IntKind.u64.wrap (IntKind.u64.wrap v * 2) = (((2 * v).toNat : Nat) : Int) := by
      rw [IntKind.wrap_u64, IntKind.wrap_u64]
      omega
    have e2 : IntKind.u64.wrap (v / 9223372036854775808) = ((0 : Nat) : Int) := by
      rw [IntKind.wrap_u64]
      omega
    rw [e1, e2, bits_xor_u64_nat _ _ (by omega) (by decide), Nat.xor_zero]
    unfold zmap
    rw [if_neg hv]

theorem zback_bits (u : Nat) (h : u < 18446744073709551616) :
    bits .xor .i64 ((u : Int) / 2) (wrap64 (-wrap64 (bits .and .u64 (u : Int) 1))) = zback u := by
  rw [Go.Lib.u64_and1 _ (by omega) (by omega)]
  have e : (u : Int) / 2 = ((u / 2 : Nat) : Int) := by omega
  unfold zback
  by_cases ho : u % 2 = 1
  · have e2 : wrap64 (-wrap64 ((u : Int) % 2)) = -1 := by unfold wrap64; omega
    rw [e, e2, i64_xor_neg _ (by omega), if_pos ho]
  · have e2 : wrap64 (-wrap64 ((u : Int) % 2)) = 0 := by unfold wrap64; omega
    rw [e, e2, i64_xor_zero _ (by omega), if_neg ho]

theorem top_bits (c : Nat) (h1 : c ≤ 64) : IntKind.u64.wrap ((2 : Int) ^ (c - 1)) = ((2 ^ (c - 1) : Nat) : Int) := by
  have h2 := pow_le63 (c - 1) (by omega)
  have e : ((2 : Int) ^ (c - 1)) = ((2 ^ (c - 1) : Nat) : Int) := by simp
  rw [e, IntKind.wrap_u64]
  generalize 2 ^ (c - 1) = P at h2
  omega

theorem zmap_calls (v : Int) (w : World) (h0 : -9223372036854775808 ≤ v) (h1 : v ≤ 9223372036854775807) :
    Calls Try.prog 29 #[.int .i64 v] w fun e w' => e = .returned (.int .u64 (zmap v : Int)) ∧ w = w' := by
  rw [← zmap_bits v h0 h1]
  go_enter Try.func29, Try.ntmps29
  go_wp2_with fail
  go_ret
  exact ⟨rfl, rfl⟩

theorem zback_calls (u : Nat) (w : World) (h : u < 18446744073709551616) :
    Calls Try.prog 32 #[.int .u64 (u : Int)] w fun e w' => e = .returned (.int .i64 (zback u)) ∧ w = w' := by
  rw [← zback_bits u h]
  go_enter Try.func32, Try.ntmps32
  go_wp2_with fail
  go_ret
  exact ⟨rfl, rfl⟩

theorem ztop_calls (c : Nat) (w : World) (h0 : 1 ≤ c) (h1 : c ≤ 64) :
    Calls Try.prog 31 #[.int .i64 (c : Int)] w fun e w' => e = .returned (.int .u64 ((2 ^ (c - 1) : Nat) : Int)) ∧ w = w' := by
  rw [← top_bits c h1]
  go_enter Try.func31, Try.ntmps31
  go_wp2_with fail
  go_ret
  exact ⟨rfl, rfl⟩

theorem len64_calls (u : Nat) (w : World) (h : u < 18446744073709551616) :
    Calls Try.prog 30 #[.int .u64 (u : Int)] w fun e w' => e = .returned (.int .i64 (bl u : Int)) ∧ w = w' :=
  (len64_lib (u : Int) w (by omega) (by omega)).mono fun e w' ⟨he, hw⟩ => ⟨by rw [he]; rfl, hw.symm⟩

/-- What is split of a number. -/
def partOf (c : Int) (r : Nat) : Value := .agg #[.int .i64 c, .int .u64 (r : Int)]

set_option maxHeartbeats 2000000 in
theorem zsplit_calls (v : Int) (w : World) (h0 : -9223372036854775808 ≤ v) (h1 : v ≤ 9223372036854775807) :
    Calls Try.prog 23 #[.int .i64 v] w fun e w' => e = .returned (partOf (bl (zmap v) : Int) (rstU (zmap v))) ∧ Below w.heap.size w w' := by
  have hu := zmap_lt v h0 h1
  obtain ⟨u, hue⟩ : ∃ u, u = zmap v := ⟨_, rfl⟩
  rw [← hue] at hu
  have hm := zmap_calls v (w.alloc (.cells #[.int .i64 0, .int .u64 0] 43)) h0 h1
  rw [← hue] at hm
  rw [← hue]
  have hl64 := bl_le u hu
  have hb := len64_calls u (w.alloc (.cells #[.int .i64 0, .int .u64 0] 43)) hu
  obtain ⟨n, hn⟩ : ∃ n, n = bl u := ⟨_, rfl⟩
  rw [← hn] at hb hl64
  rw [← hn]
  by_cases hz : u = 0
  · have hn0 : n = 0 := by rw [hn, hz, bl_zero]
    have hr : rstU u = 0 := by rw [hz]; decide
    have e : partOf (n : Int) (rstU u) = .agg #[.int .i64 0, .int .u64 0] := by rw [hr, hn0]; rfl
    rw [e]
    have t0 : ((n : Int) == 0) = true := by rw [beq_iff_eq]; omega
    have HM := kept hm
    have HB := kept hb
    clear hm hb hu hr e hn hue hz hn0
    go_enter Try.func23, Try.ntmps23
    go_wp2_with (first
      | (go_at_call 29; refine HM.out.mono ?_; rintro e w' ⟨rfl, rfl⟩)
      | (go_at_call 30; refine HB.out.mono ?_; rintro e w' ⟨rfl, rfl⟩))
    exact bodyPost_ret (results_cell_row rfl _ _ w.heap.size 43 #[.int .i64 0, .int .u64 0] (0, 0) _ rfl (Blk.fresh _ _ _) Try.underlying43 rfl (by kernel_rfl)) rfl ⟨rfl, (Below.refl _ _).alloc (Nat.le_refl _) _⟩
  · have hn1 := bl_pos u hz hu
    have hs := bl_spec (u + 1) u (by omega) hz hu
    rw [← hn] at hn1 hs
    have hr : rstU u = u - 2 ^ (n - 1) := by unfold rstU; rw [← hn, if_neg (by omega)]
    rw [hr]
    obtain ⟨P, hP⟩ : ∃ P, P = 2 ^ (n - 1) := ⟨_, rfl⟩
    have ht := ztop_calls n (w.alloc (.cells #[.int .i64 0, .int .u64 0] 43)) hn1 hl64
    rw [← hP] at ht hs
    rw [← hP]
    obtain ⟨r, hre⟩ : ∃ r, r = u - P := ⟨_, rfl⟩
    rw [← hre]
    have hsub : IntKind.u64.wrap ((u : Int) - (P : Int)) = (r : Int) := by rw [IntKind.wrap_u64]; omega
    have t0 : ((n : Int) == 0) = false := by rw [beq_eq_false_iff_ne]; omega
    have HM := kept hm
    have HB := kept hb
    have HT := kept ht
    have hPu : P ≤ u := hs.1
    clear hm hb ht hn hr hP hs hue hre
    go_enter Try.func23, Try.ntmps23
    go_wp2_with (first
      | (go_at_call 29; refine HM.out.mono ?_; rintro e w' ⟨rfl, rfl⟩)
      | (go_at_call 30; refine HB.out.mono ?_; rintro e w' ⟨rfl, rfl⟩)
      | (go_at_call 31; refine HT.out.mono ?_; rintro e w' ⟨rfl, rfl⟩))
    exact bodyPost_ret (results_cell_row rfl _ _ w.heap.size 43 #[.int .i64 (n : Int), .int .u64 (r : Int)] (0, 0) _ rfl (Blk.fresh _ _ _) Try.underlying43 rfl (by kernel_rfl)) rfl ⟨rfl, (Below.refl _ _).alloc (Nat.le_refl _) _⟩

theorem may_top (n r : Nat) (h1 : 1 ≤ n) (h2 : n ≤ 64) : may (n : Int) r = decide (r < 2 ^ (n - 1)) := by
  unfold may
  rw [decide_eq_true (by omega), Bool.true_and, if_neg (by omega), Int.toNat_natCast]

set_option maxHeartbeats 2000000 in
theorem zjoin_calls (c : Int) (r : Nat) (w : World) (h0 : -9223372036854775808 ≤ c) (h1 : c ≤ 9223372036854775807) (hr : r < 18446744073709551616) :
    Calls Try.prog 24 #[partOf c r] w fun e w' => e = .returned (.tuple #[.int .i64 (join c r), .bool (may c r)]) ∧ Below w.heap.size w w' := by
  unfold partOf
  by_cases hz : c = 0 ∧ r = 0
  · obtain ⟨hc, hr0⟩ := hz
    have hm : may c r = true := by rw [hc, hr0]; decide
    have hj : join c r = 0 := by rw [hc, hr0]; decide
    rw [hm, hj]
    have t0 : (c == 0) = true := by rw [beq_iff_eq]; exact hc
    have t1 : ((r : Int) == 0) = true := by rw [beq_iff_eq]; omega
    clear hm hj hc hr0 h0 h1 hr
    go_enter Try.func24, Try.ntmps24
    go_wp2_with fail
    go_ret2
    exact ⟨rfl, (Below.refl _ _).alloc (Nat.le_refl _) _⟩
  rcases (show (c = 0 ∧ ¬ r = 0) ∨ c < 0 ∨ 64 < c ∨ (1 ≤ c ∧ c ≤ 64) by omega) with hc | hc | hc | hc
  · have hm : may c r = false := by
      unfold may; rw [hc.1]; simp [hc.2]
    have hj : join c r = 0 := by unfold join; rw [hm]; rfl
    have t0 : (c == 0) = true := by rw [beq_iff_eq]; exact hc.1
    have t1 : ((r : Int) == 0) = false := by rw [beq_eq_false_iff_ne]; omega
    have t2 : decide (c < 1) = true := by simp; omega
    rw [hm, hj]
    clear hm hj h0 h1 hr hz hc
    go_enter Try.func24, Try.ntmps24
    go_wp2_with fail
    generalize hwa : World.alloc w _ = wa
    have hb : Below w.heap.size w wa := by rw [← hwa]; exact (Below.refl _ _).alloc (Nat.le_refl _) _
    have hB : Blk wa w.heap.size #[.int .i64 c, .int .u64 (r : Int)] 43 := by rw [← hwa]; exact Blk.fresh _ _ _
    have l0 := lat_cell (hB.cell (i := 0) rfl)
    have l1 := lat_cell (hB.cell (i := 1) rfl)
    have HB := kept hb
    have HBk := kept hB
    clear hwa hb hB
    refine wp_region_quietL (by kernel_rfl) (by kernel_rfl) ?_
    repeat (go_big_quiet_step (fail))
    refine wpQuiet_nil ?_
    intro nq
    go_wp2_with fail
    go_ret2
    exact ⟨rfl, HB.out.trans (nq.below.mono HB.out.size)⟩
  · have hm : may c r = false := by
      unfold may; rw [decide_eq_false (by omega)]; rfl
    have hj : join c r = 0 := by unfold join; rw [hm]; rfl
    have t0 : (c == 0) = false := by rw [beq_eq_false_iff_ne]; omega
    have t2 : decide (c < 1) = true := by simp; omega
    rw [hm, hj]
    clear hm hj h0 h1 hr hz hc
    go_enter Try.func24, Try.ntmps24
    go_wp2_with fail
    generalize hwa : World.alloc w _ = wa
    have hb : Below w.heap.size w wa := by rw [← hwa]; exact (Below.refl _ _).alloc (Nat.le_refl _) _
    have hB : Blk wa w.heap.size #[.int .i64 c, .int .u64 (r : Int)] 43 := by rw [← hwa]; exact Blk.fresh _ _ _
    have l0 := lat_cell (hB.cell (i := 0) rfl)
    have l1 := lat_cell (hB.cell (i := 1) rfl)
    have HB := kept hb
    have HBk := kept hB
    clear hwa hb hB
    refine wp_region_quietL (by kernel_rfl) (by kernel_rfl) ?_
    repeat (go_big_quiet_step (fail))
    refine wpQuiet_nil ?_
    intro nq
    go_wp2_with fail
    go_ret2
    exact ⟨rfl, HB.out.trans (nq.below.mono HB.out.size)⟩
  · have hm : may c r = false := by
      unfold may; rw [decide_eq_false (by omega)]; rfl
    have hj : join c r = 0 := by unfold join; rw [hm]; rfl
    have t0 : (c == 0) = false := by rw [beq_eq_false_iff_ne]; omega
    have t2 : decide (c < 1) = false := by simp; omega
    have t3 : decide ((65 : Int) ≤ c) = true := by simp; omega
    rw [hm, hj]
    clear hm hj h0 h1 hr hz hc
    go_enter Try.func24, Try.ntmps24
    go_wp2_with fail
    generalize hwa : World.alloc w _ = wa
    have hb : Below w.heap.size w wa := by rw [← hwa]; exact (Below.refl _ _).alloc (Nat.le_refl _) _
    have hB : Blk wa w.heap.size #[.int .i64 c, .int .u64 (r : Int)] 43 := by rw [← hwa]; exact Blk.fresh _ _ _
    have l0 := lat_cell (hB.cell (i := 0) rfl)
    have l1 := lat_cell (hB.cell (i := 1) rfl)
    have HB := kept hb
    have HBk := kept hB
    clear hwa hb hB
    refine wp_region_quietL (by kernel_rfl) (by kernel_rfl) ?_
    repeat (go_big_quiet_step (fail))
    refine wpQuiet_nil ?_
    intro nq
    go_wp2_with fail
    go_ret2
    exact ⟨rfl, HB.out.trans (nq.below.mono HB.out.size)⟩
  · obtain ⟨n, rfl⟩ := Int.eq_ofNat_of_zero_le (show 0 ≤ c by omega)
    have hn1 : 1 ≤ n := by omega
    have hn2 : n ≤ 64 := by omega
    have t0 : ((n : Int) == 0) = false := by rw [beq_eq_false_iff_ne]; omega
    have t2 : decide ((n : Int) < 1) = false := by simp; omega
    have t3 : decide ((65 : Int) ≤ (n : Int)) = false := by simp; omega
    have hmt := may_top n r hn1 hn2
    have hp63 := pow_le63 (n - 1) (by omega)
    obtain ⟨P, hP⟩ : ∃ P, P = 2 ^ (n - 1) := ⟨_, rfl⟩
    have ht : ∀ w', Calls Try.prog 31 #[.int .i64 (n : Int)] w' fun e w'' => e = .returned (.int .u64 (P : Int)) ∧ w' = w'' := fun w' => by
      rw [hP]; exact ztop_calls n w' hn1 hn2
    rw [← hP] at hmt hp63
    have HT := kept ht
    clear ht
    by_cases hlt : r < P
    · have hm : may (n : Int) r = true := by rw [hmt]; simpa using hlt
      have hj : join (n : Int) r = zback (P + r) := by
        unfold join Zig.sizeOf
        rw [hm, if_pos rfl, if_neg (by omega), Int.toNat_natCast, ← hP]
      have hbk : ∀ w', Calls Try.prog 32 #[.int .u64 ((P : Int) + (r : Int))] w' fun e w'' => e = .returned (.int .i64 (zback (P + r))) ∧ w' = w'' := fun w' => by
        have := zback_calls (P + r) w' (by omega)
        rw [show ((P + r : Nat) : Int) = (P : Int) + (r : Int) by omega] at this
        exact this
      have hw2 : IntKind.u64.wrap ((P : Int) + (r : Int)) = (P : Int) + (r : Int) := by rw [IntKind.wrap_u64]; omega
      obtain ⟨J, hJ⟩ : ∃ J, J = zback (P + r) := ⟨_, rfl⟩
      rw [← hJ] at hbk hj
      have HBack := kept hbk
      have t4 : decide ((P : Int) ≤ (r : Int)) = false := by simp; omega
      rw [hm, hj]
      clear hm hj h0 h1 hr hz hc hmt hP hbk hJ
      go_enter Try.func24, Try.ntmps24
      go_wp2_with fail
      generalize hwa : World.alloc w _ = wa
      have hb : Below w.heap.size w wa := by rw [← hwa]; exact (Below.refl _ _).alloc (Nat.le_refl _) _
      have hB : Blk wa w.heap.size #[.int .i64 (n : Int), .int .u64 (r : Int)] 43 := by rw [← hwa]; exact Blk.fresh _ _ _
      have l0 := lat_cell (hB.cell (i := 0) rfl)
      have l1 := lat_cell (hB.cell (i := 1) rfl)
      have HB := kept hb
      have HBk := kept hB
      clear hwa hb hB
      refine wp_region_quietL (by kernel_rfl) (by kernel_rfl) ?_
      repeat (go_big_quiet_step ((first | (go_at_call 31; exact lat_call_same (HT.out _)))))
      refine wpQuiet_nil ?_
      intro nq
      have HB2 := kept (HB.out.trans (nq.below.mono HB.out.size))
      have HBk2 : Kept (Blk nq.w w.heap.size #[.int .i64 (n : Int), .int .u64 (r : Int)] 43) := kept (lat_block HBk.out nq)
      clear l0 l1
      generalize nq.w = w2 at HB2 HBk2 ⊢
      have l0 := lat_cell (HBk2.out.cell (i := 0) rfl)
      have l1 := lat_cell (HBk2.out.cell (i := 1) rfl)
      go_wp2_with fail
      refine wp_region_quietL (by kernel_rfl) (by kernel_rfl) ?_
      repeat (go_big_quiet_step ((first | (go_at_call 31; exact lat_call_same (HT.out _)) | (go_at_call 32; exact lat_call_same (HBack.out _)))))
      refine wpQuiet_nil ?_
      intro nq2
      go_wp2_with fail
      go_ret2
      exact ⟨rfl, HB2.out.trans (nq2.below.mono HB2.out.size)⟩
    · have hm : may (n : Int) r = false := by rw [hmt]; simpa using hlt
      have hj : join (n : Int) r = 0 := by unfold join; rw [hm]; rfl
      have t4 : decide ((P : Int) ≤ (r : Int)) = true := by simp; omega
      rw [hm, hj]
      clear hm hj h0 h1 hr hz hc hmt hP
      go_enter Try.func24, Try.ntmps24
      go_wp2_with fail
      generalize hwa : World.alloc w _ = wa
      have hb : Below w.heap.size w wa := by rw [← hwa]; exact (Below.refl _ _).alloc (Nat.le_refl _) _
      have hB : Blk wa w.heap.size #[.int .i64 (n : Int), .int .u64 (r : Int)] 43 := by rw [← hwa]; exact Blk.fresh _ _ _
      have l0 := lat_cell (hB.cell (i := 0) rfl)
      have l1 := lat_cell (hB.cell (i := 1) rfl)
      have HB := kept hb
      have HBk := kept hB
      clear hwa hb hB
      refine wp_region_quietL (by kernel_rfl) (by kernel_rfl) ?_
      repeat (go_big_quiet_step ((first | (go_at_call 31; exact lat_call_same (HT.out _)))))
      refine wpQuiet_nil ?_
      intro nq
      go_wp2_with fail
      go_ret2
      exact ⟨rfl, HB.out.trans (nq.below.mono HB.out.size)⟩
end Go.Proofs.Ytlfakfdlifipnaa

-- ---- Uz
/- Numbers and their parts: what the print's functions come to. No program in sight. -/
namespace Go.Proofs.Ytlfakfdlifipnaa.PA
set_option linter.unusedVariables false
set_option linter.unusedSimpArgs false
open Go.RowKit Go.Proofs.YtlfakfdlifipnaaW.PrintWords Go.Proofs.YtlfakfdlifipnaaW.PrintLast Go.Proofs.YtlfakfdlifipnaaW.PrintMore
open Zig

theorem shl_u64 (k : Nat) (hk : k ≤ 63) : shl .u64 1 (k : Int) = ((2 ^ k : Nat) : Int) := by
  have h2 := Zig.pow_le63 k hk
  have e : shl .u64 1 (k : Int) = IntKind.u64.wrap ((2 ^ k : Nat) : Int) := by
    unfold shl
    have em : min ((k : Int).toNat) (IntKind.bits .u64) = k := by simp [IntKind.bits]; omega
    rw [em, Int.one_mul]
    simp
  rw [e, IntKind.wrap_u64]
  generalize 2 ^ k = P at *
  omega
theorem zig_Map.is (v : Int) (h0 : -9223372036854775808 ≤ v) (h1 : v ≤ 9223372036854775807) : zig_Map.f v = some (zmap v : Int) := by
  unfold zig_Map.f; rw [zmap_bits v h0 h1]
theorem zig_top.is (c : Nat) (h0 : 1 ≤ c) (h1 : c ≤ 64) : zig_top.f (c : Int) = some ((2 ^ (c - 1) : Nat) : Int) := by
  unfold zig_top.f
  have e : wrap64 ((c : Int) - 1) = ((c - 1 : Nat) : Int) := by rw [w64 (by omega) (by omega)]; omega
  rw [e, if_pos (by omega), shl_u64 _ (by omega)]
theorem zig_Back.is (u : Nat) (h : u < 18446744073709551616) : zig_Back.f (u : Int) = some (zback u) := by
  unfold zig_Back.f
  have e : wrap64 ((u : Int) / 2) = (u : Int) / 2 := by unfold wrap64; omega
  rw [e, zback_bits u h]
theorem zig_Split.is (v : Int) (h0 : -9223372036854775808 ≤ v) (h1 : v ≤ 9223372036854775807) : zig_Split.f v = some ((bl (zmap v) : Int), (rstU (zmap v) : Int)) := by
  have hu := zmap_lt v h0 h1
  unfold zig_Split.f
  rw [zig_Map.is v h0 h1]
  generalize zmap v = u at hu
  have hb : bits_Len64.f (u : Int) = some (bl u : Int) := by unfold bits_Len64.f; rw [if_pos (by omega), Int.toNat_natCast]
  simp only [Option.bind_some]
  rw [hb]
  simp only [Option.bind_some]
  have hl := bl_le u (by omega)
  by_cases hz : bl u = 0
  · rw [if_pos (by omega)]
    unfold rstU; rw [if_pos hz, hz]; rfl
  · rw [if_neg (by omega), zig_top.is (bl u) (by omega) hl]
    simp only [Option.bind_some]
    have hu0 : u ≠ 0 := fun e => hz (by rw [e]; exact bl_zero)
    obtain ⟨h2, h3⟩ := bl_spec (u + 1) u (by omega) hu0 (by omega)
    unfold rstU; rw [if_neg hz, IntKind.wrap_u64]
    generalize 2 ^ (bl u - 1) = P at *
    rw [show ((u : Int) - (P : Int)) % 18446744073709551616 = ((u - P : Nat) : Int) by omega]
theorem zig_Join.is (c : Int) (r : Nat) (h0 : -9223372036854775808 ≤ c) (h1 : c ≤ 9223372036854775807) (hr : r < 18446744073709551616) : Ev (fun k => zig_Join.f k c (r : Int)) (join c r, may c r) := by
  unfold zig_Join.f
  by_cases hz : c = 0 ∧ r = 0
  · obtain ⟨rfl, rfl⟩ := hz
    refine Ev.ite_pos (by simp) (Ev.ofSome ?_)
    decide
  · refine Ev.ite_neg (by simp; omega) ?_
    have bad : may c r = false → Ev (fun k => zig_Join.j0 k true c (r : Int)) (join c r, may c r) := fun hm => by
      refine Ev.step (f := fun _ => some (0, false)) (fun k => by simp [zig_Join.j0]) (Ev.ofSome ?_)
      unfold join; rw [hm]; rfl
    by_cases hc1 : c < 1
    · refine Ev.ite_pos hc1 (bad ?_)
      unfold may; rw [if_pos hc1]
      by_cases h2 : 0 ≤ c
      · have : r ≠ 0 := fun e => hz ⟨by omega, e⟩
        simp [this]
      · simp; omega
    · refine Ev.ite_neg hc1 ?_
      by_cases hc2 : c ≥ 65
      · refine Ev.ite_pos hc2 (bad ?_)
        unfold may; simp; omega
      · refine Ev.ite_neg hc2 ?_
        obtain ⟨n, rfl⟩ := Int.eq_ofNat_of_zero_le (show 0 ≤ c by omega)
        refine Ev.bind0 (zig_top.is n (by omega) (by omega)) ?_
        have hm := may_top n r (by omega) (by omega)
        by_cases hlt : r < 2 ^ (n - 1)
        · have hmt : may (n : Int) r = true := by rw [hm]; simp [hlt]
          have hs := sizeOf_lt (n : Int) r hmt
          refine Ev.step (f := fun _ => some (join (n : Int) r, may (n : Int) r)) (fun k => ?_) (Ev.now _)
          have hd : decide ((r : Int) ≥ ((2 ^ (n - 1) : Nat) : Int)) = false := by
            rw [decide_eq_false_iff_not]
            generalize 2 ^ (n - 1) = P at *
            omega
          rw [hd]
          simp only [zig_Join.j0, Bool.false_eq_true, if_false]
          rw [zig_top.is n (by omega) (by omega)]
          simp only [Option.bind_some]
          have e : IntKind.u64.wrap (((2 ^ (n - 1) : Nat) : Int) + (r : Int)) = (Zig.sizeOf (n : Int) r : Int) := by
            unfold Zig.sizeOf at *
            rw [if_neg hc1, Int.toNat_natCast] at *
            rw [IntKind.wrap_u64]
            generalize 2 ^ (n - 1) = P at *
            omega
          rw [e, zig_Back.is _ hs]
          simp only [Option.bind_some]
          rw [hmt]; unfold join; rw [if_pos hmt]
        · refine evq rfl (Ev.congr (fun k => ?_) (bad (by rw [hm]; simp; omega)))
          rw [show decide (((r : Nat) : Int) ≥ ((2 ^ (n - 1) : Nat) : Int)) = true by rw [decide_eq_true_eq]; generalize 2 ^ (n - 1) = P at *; omega]
end Go.Proofs.Ytlfakfdlifipnaa.PA

-- ---- Uh
/- How often each class comes: what the print's functions come to. No program in sight. -/
namespace Go.Proofs.Ytlfakfdlifipnaa.PA
set_option linter.unusedVariables false
set_option linter.unusedSimpArgs false
open Go.RowKit Go.Proofs.YtlfakfdlifipnaaW.PrintWords Go.Proofs.YtlfakfdlifipnaaW.PrintLast Go.Proofs.YtlfakfdlifipnaaW.PrintMore
open Zig

abbrev PartS := S43
abbrev rdP (xs : List PartS) (i : Int) : PartS := rd_T43 xs i
theorem rdP_nat (xs : List PartS) (i : Nat) : rd_T43 xs (i : Int) = xs.getD i z43 := by unfold rd_T43; rw [Int.toNat_natCast]

/-- A whole number of 64 bits. -/
def Wf (v : Int) : Prop := -9223372036854775808 ≤ v ∧ v ≤ 9223372036854775807
def partP (v : Int) : PartS := ⟨(bl (zmap v) : Int), (rstU (zmap v) : Int)⟩
theorem take_snoc {α : Type} (l : List α) (z : α) (i : Nat) (h : i < l.length) : l.take (i + 1) = l.take i ++ [l.getD i z] := by
  rw [List.take_succ_eq_append_getElem h]; simp [List.getD_eq_getElem?_getD, h]
theorem getD_map' {α β : Type} (f : α → β) (l : List α) (a : α) (b : β) (i : Nat) (h : i < l.length) : (l.map f).getD i b = f (l.getD i a) := by
  simp [List.getD_eq_getElem?_getD, h]
theorem mem_getD {α : Type} (l : List α) (a : α) (i : Nat) (h : i < l.length) : l.getD i a ∈ l := by
  simp [List.getD_eq_getElem?_getD, h]

theorem parts_l0 (l : List Int) (hl : l.length ≤ 1000000) (hw : ∀ x ∈ l, Wf x) : ∀ (d i : Nat), i + d = l.length →
    Ev (fun k => hist_Parts.l0 k ((l.take i).map partP) l (l.length : Int) (i : Int)) (l.map partP) := by
  intro d
  induction d with
  | zero =>
    intro i hi
    refine Ev.step (f := fun _ => some ((l.take i).map partP)) (fun k => by simp only [hist_Parts.l0]; rw [if_neg (by omega)]) (Ev.ofSome ?_)
    rw [List.take_of_length_le (by omega)]
  | succ d ih =>
    intro i hi
    have hil : i < l.length := by omega
    have hx := hw _ (mem_getD l 0 i hil)
    have e := take_snoc l 0 i hil
    have hb : ((l.take i).map partP).length < 8796093022208 := by rw [List.length_map, List.length_take]; omega
    refine Ev.step (f := fun k => hist_Parts.l0 k ((l.take (i + 1)).map partP) l (l.length : Int) ((i + 1 : Nat) : Int)) (fun k => ?_) (ih (i + 1) (by omega))
    simp only [hist_Parts.l0]
    rw [if_pos (by omega), if_pos (by omega), if_pos (by omega), rd_nat, zig_Split.is _ hx.1 hx.2, Option.bind_some, if_pos hb, w64 (by omega) (by omega), e, List.map_append]
    rfl
theorem parts_is (l : List Int) (hl : l.length ≤ 1000000) (hw : ∀ x ∈ l, Wf x) : Ev (fun k => hist_Parts.f k l) (l.map partP) := by
  unfold hist_Parts.f
  exact parts_l0 l hl hw l.length 0 (by omega)

def WfP (p : PartS) : Prop := Wf p.f0 ∧ 0 ≤ p.f1 ∧ p.f1 < 18446744073709551616
def mayP (p : PartS) : Bool := may p.f0 p.f1.toNat
def joinP (p : PartS) : Int := join p.f0 p.f1.toNat
theorem joinP_is (p : PartS) (h : WfP p) : Ev (fun k => zig_Join.f k p.f0 p.f1) (joinP p, mayP p) := by
  have := zig_Join.is p.f0 p.f1.toNat h.1.1 h.1.2 (by have := h.2; omega)
  rw [show ((p.f1.toNat : Nat) : Int) = p.f1 by have := h.2; omega] at this
  exact this
/-- The parts' numbers. -/
def valsP (ps : List PartS) : List Int × Bool := if ps.all mayP then (ps.map joinP, true) else ([], false)

theorem values_l0 (ps : List PartS) (hl : ps.length ≤ 1000000) (hw : ∀ p ∈ ps, WfP p) : ∀ (d i : Nat), i + d = ps.length →
    Ev (fun k => hist_Values.l0 k ((ps.take i).map joinP) ps (ps.length : Int) (i : Int)) (if (ps.drop i).all mayP then (ps.map joinP, true) else ([], false)) := by
  intro d
  induction d with
  | zero =>
    intro i hi
    refine Ev.step (f := fun _ => some ((ps.take i).map joinP, true)) (fun k => by simp only [hist_Values.l0]; rw [if_neg (by omega)]) (Ev.ofSome ?_)
    rw [List.take_of_length_le (by omega), List.drop_eq_nil_of_le (by omega)]; rfl
  | succ d ih =>
    intro i hi
    have hil : i < ps.length := by omega
    obtain ⟨p, hp⟩ : ∃ p, p = ps.getD i z43 := ⟨_, rfl⟩
    have hx := hw _ (mem_getD ps z43 i hil)
    have e := take_snoc ps z43 i hil
    have e2 : ps.drop i = ps.getD i z43 :: ps.drop (i + 1) := by rw [List.drop_eq_getElem_cons hil]; simp [List.getD_eq_getElem?_getD, hil]
    rw [← hp] at hx e e2
    have hb : ((ps.take i).map joinP).length < 17592186044416 := by rw [List.length_map, List.length_take]; omega
    refine Ev.step (f := fun k => (zig_Join.f k p.f0 p.f1).bind fun bt => if bt.2 = true then (if ((ps.take i).map joinP).length < 17592186044416 then hist_Values.l0 k ((ps.take i).map joinP ++ [bt.1]) ps (ps.length : Int) (wrap64 ((i : Int) + 1)) else none) else some (([] : List Int), false)) (fun k => ?_) ?_
    · simp only [hist_Values.l0]
      rw [if_pos (by omega), if_pos (by omega), if_pos (by omega), rdP_nat, ← hp]
    · refine Ev.bind (joinP_is p hx) ?_
      rw [e2, List.all_cons]
      cases hm : mayP p with
      | true =>
        refine Ev.ite_pos rfl (Ev.ite_pos hb ?_)
        rw [w64 (by omega) (by omega), Bool.true_and]
        have := ih (i + 1) (by omega)
        rw [e, List.map_append] at this
        exact this
      | false =>
        refine Ev.ite_neg (by simp) (Ev.ofSome ?_)
        simp
theorem values_is (ps : List PartS) (hl : ps.length ≤ 1000000) (hw : ∀ p ∈ ps, WfP p) : Ev (fun k => hist_Values.f k ps) (valsP ps) := by
  unfold hist_Values.f
  exact values_l0 ps hl hw ps.length 0 (by omega)

theorem partP_wf (v : Int) (h : Wf v) : WfP (partP v) := by
  have hu := zmap_lt v h.1 h.2
  have h1 := bl_le (zmap v) (by omega)
  have h2 := rstU_lt (zmap v) hu
  unfold WfP partP Wf; simp only; omega
theorem mayP_part (v : Int) (h : Wf v) : mayP (partP v) = true := by
  unfold mayP partP; simp only [Int.toNat_natCast]; exact may_split _ (zmap_lt v h.1 h.2)
theorem joinP_part (v : Int) (h : Wf v) : joinP (partP v) = v := by
  unfold joinP partP; simp only [Int.toNat_natCast]; exact join_split v h.1 h.2
theorem vals_parts (l : List Int) (hw : ∀ x ∈ l, Wf x) : valsP (l.map partP) = (l, true) := by
  unfold valsP
  rw [if_pos (by rw [List.all_eq_true]; intro p hp; obtain ⟨v, hv, rfl⟩ := List.mem_map.1 hp; exact mayP_part v (hw v hv)), List.map_map]
  congr 1
  have : l.map (joinP ∘ partP) = l.map id := List.map_congr_left fun v hv => joinP_part v (hw v hv)
  rw [this, List.map_id]

/-- How many parts are of a class. -/
def cnt (ps : List PartS) (c : Nat) : Nat := (ps.filter fun p => p.f0 == (c : Int)).length
def ofL (ps : List PartS) : List Int := (List.range 65).map fun c => (cnt ps c : Int)
theorem length_ofL (ps : List PartS) : (ofL ps).length = 65 := by simp [ofL]
theorem ofL_at (ps : List PartS) (c : Nat) (h : c < 65) : (ofL ps).getD c 0 = (cnt ps c : Int) := by
  simp [ofL, List.getD_eq_getElem?_getD, h]
theorem cnt_le (ps : List PartS) (c : Nat) : cnt ps c ≤ ps.length := List.length_filter_le _ _
theorem cnt_snoc (ps : List PartS) (p : PartS) (c : Nat) : cnt (ps ++ [p]) c = cnt ps c + (if p.f0 = (c : Int) then 1 else 0) := by
  unfold cnt
  rw [List.filter_append, List.length_append]
  by_cases h : p.f0 = (c : Int) <;> simp [h]
theorem ofL_snoc (ps : List PartS) (p : PartS) (c : Nat) (h : c < 65) (hc : p.f0 = (c : Int)) : ofL (ps ++ [p]) = (ofL ps).set c ((ofL ps).getD c 0 + 1) := by
  apply List.ext_getElem
  · rw [List.length_set, length_ofL, length_ofL]
  · intro j h1 h2
    rw [length_ofL] at h1
    rw [List.getElem_set]
    have a : (ofL (ps ++ [p]))[j]'(by rw [length_ofL]; exact h1) = (cnt (ps ++ [p]) j : Int) := by simp [ofL]
    have b : (ofL ps)[j]'(by rw [length_ofL]; exact h1) = (cnt ps j : Int) := by simp [ofL]
    rw [a, b, cnt_snoc, ofL_at ps c h, hc]
    by_cases e : c = j
    · subst e; rw [if_pos rfl, if_pos rfl]; omega
    · rw [if_neg e, if_neg (by omega)]; omega
theorem ofL_out (ps : List PartS) (p : PartS) (hc : ¬ (0 ≤ p.f0 ∧ p.f0 < 65)) : ofL (ps ++ [p]) = ofL ps := by
  unfold ofL
  refine List.map_congr_left fun c hc2 => ?_
  have := List.mem_range.1 hc2
  rw [cnt_snoc, if_neg (by omega), Nat.add_zero]

theorem of_l0 (ps : List PartS) (hl : ps.length ≤ 1000000) : ∀ (d i : Nat), i + d = ps.length →
    Ev (fun k => hist_Of.l0 k (ofL (ps.take i)) ps (ps.length : Int) (i : Int)) (ofL ps) := by
  intro d
  induction d with
  | zero =>
    intro i hi
    refine Ev.step (f := fun _ => some (ofL (ps.take i))) (fun k => by simp only [hist_Of.l0]; rw [if_neg (by omega)]) (Ev.ofSome ?_)
    rw [List.take_of_length_le (by omega)]
  | succ d ih =>
    intro i hi
    have hil : i < ps.length := by omega
    obtain ⟨p, hp⟩ : ∃ p, p = ps.getD i z43 := ⟨_, rfl⟩
    have e := take_snoc ps z43 i hil
    rw [← hp] at e
    have hcl : (ps.take i).length ≤ 1000000 := by rw [List.length_take]; omega
    refine Ev.step (f := fun k => hist_Of.l0 k (ofL (ps.take (i + 1))) ps (ps.length : Int) ((i + 1 : Nat) : Int)) (fun k => ?_) (ih (i + 1) (by omega))
    simp only [hist_Of.l0]
    rw [if_pos (by omega), if_pos (by omega), if_pos (by omega), rdP_nat, ← hp, length_ofL, w64 (x := (i : Int) + 1) (by omega) (by omega), e]
    by_cases h1 : 0 ≤ p.f0 ∧ p.f0 < 65
    · obtain ⟨c, hc⟩ := Int.eq_ofNat_of_zero_le h1.1
      have hc65 : c < 65 := by omega
      have hcn := cnt_le (ps.take i) c
      rw [if_pos (by omega), if_pos (by omega), if_pos (by omega), if_pos (by omega), ofL_snoc _ p c hc65 hc, hc, rd_nat, Int.toNat_natCast, w64 (by rw [ofL_at _ c hc65]; omega) (by rw [ofL_at _ c hc65]; omega)]
      rfl
    · rw [ofL_out _ p h1]
      by_cases h2 : p.f0 ≥ 0
      · rw [if_pos h2, if_neg (by omega)]; rfl
      · rw [if_neg h2]; rfl
theorem ofL_nil : ofL [] = List.replicate 65 0 := by decide
theorem of_is (ps : List PartS) (hl : ps.length ≤ 1000000) : Ev (fun k => hist_Of.f k ps) (ofL ps) := by
  unfold hist_Of.f
  refine Ev.ite_pos (by decide) ?_
  have := of_l0 ps hl ps.length 0 (by omega)
  rw [List.take_zero, ofL_nil] at this
  exact this

theorem order_is (l : List Int) (h : l.length ≤ 100000) : hist_Order.f l = some ((Ol.ordL l).map fun i : Nat => (i : Int)) := by unfold hist_Order.f; rw [if_pos h]
end Go.Proofs.Ytlfakfdlifipnaa.PA

-- ---- Uy
/- Lists of whole numbers that are one, or not. -/
namespace Go.Proofs.Ytlfakfdlifipnaa.PA
set_option linter.unusedVariables false
set_option linter.unusedSimpArgs false
open Go.RowKit Go.Proofs.YtlfakfdlifipnaaW.PrintWords Go.Proofs.YtlfakfdlifipnaaW.PrintLast Go.Proofs.YtlfakfdlifipnaaW.PrintMore

theorem drop_cons1 (l : List Int) (i : Nat) (h : i < l.length) : l.drop i = l.getD i 0 :: l.drop (i + 1) := by
  rw [List.drop_eq_getElem_cons h]; simp [List.getD_eq_getElem?_getD, h]
theorem samen_l0 (a b : List Int) (hl : a.length = b.length) (hb : a.length < 4611686018427387904) : ∀ (d i : Nat), i + d = a.length →
    Ev (fun k => wringerref7_SameNums.l0 k a b (i : Int)) (decide (a.drop i = b.drop i)) := by
  intro d
  induction d with
  | zero =>
    intro i hi
    refine Ev.step (f := fun _ => some true) (fun k => by simp only [wringerref7_SameNums.l0]; rw [if_neg (by omega)]) (Ev.ofSome ?_)
    rw [List.drop_eq_nil_of_le (by omega), List.drop_eq_nil_of_le (by omega)]; simp
  | succ d ih =>
    intro i hi
    rw [drop_cons1 a i (by omega), drop_cons1 b i (by omega)]
    by_cases h : a.getD i 0 = b.getD i 0
    · refine evq ?_ (Ev.step (f := fun k => wringerref7_SameNums.l0 k a b ((i + 1 : Nat) : Int)) (fun k => by simp only [wringerref7_SameNums.l0]; rw [if_pos (by omega), if_pos (by omega), if_pos (by omega), rd_nat, rd_nat, if_pos h, w64 (by omega) (by omega)]; rfl) (ih (i + 1) (by omega)))
      rw [h]; congr 1; simp
    · refine Ev.step (f := fun _ => some false) (fun k => by simp only [wringerref7_SameNums.l0]; rw [if_pos (by omega), if_pos (by omega), if_pos (by omega), rd_nat, rd_nat, if_neg h]) (Ev.ofSome ?_)
      symm; rw [decide_eq_false_iff_not]; intro e; exact h (List.cons.inj e).1
theorem samen_is (a b : List Int) (hb : a.length < 4611686018427387904) : Ev (fun k => wringerref7_SameNums.f k a b) (decide (a = b)) := by
  unfold wringerref7_SameNums.f
  by_cases hl : a.length = b.length
  · refine Ev.ite_pos (by omega) ?_
    have := samen_l0 a b hl hb a.length 0 (by omega)
    rw [List.drop_zero, List.drop_zero] at this
    exact this
  · refine Ev.ite_neg (by omega) (Ev.ofSome ?_)
    symm; rw [decide_eq_false_iff_not]; intro e; exact hl (by rw [e])
theorem samen_self (a : List Int) (hb : a.length < 4611686018427387904) : Ev (fun k => wringerref7_SameNums.f k a a) true := by
  have := samen_is a a hb
  simpa using this
end Go.Proofs.Ytlfakfdlifipnaa.PA

-- ---- Uv
/- Layer 7's own: awake, sums. No program in sight. -/
namespace Go.Proofs.Ytlfakfdlifipnaa.PA
set_option linter.unusedVariables false
set_option linter.unusedSimpArgs false
open Go.RowKit Go.Proofs.YtlfakfdlifipnaaW.PrintWords Go.Proofs.YtlfakfdlifipnaaW.PrintLast Go.Proofs.YtlfakfdlifipnaaW.PrintMore
open Zig

theorem wf_of {v : Int} (h : (Lit.int .i64 v).wf = true) : Wf v := by
  simp only [Lit.wf, Bool.and_eq_true, decide_eq_true_eq] at h
  have h1 : IntKind.i64.min = -9223372036854775808 := rfl
  have h2 : IntKind.i64.max = 9223372036854775807 := rfl
  unfold Wf; omega
theorem u8_of {a : Int} (h : (Lit.int .u8 a).wf = true) : ∃ v : Nat, a = (v : Int) ∧ v ≤ 255 := by
  simp only [Lit.wf, Bool.and_eq_true, decide_eq_true_eq] at h
  have h1 : IntKind.u8.min = 0 := rfl
  have h2 : IntKind.u8.max = 255 := rfl
  exact ⟨a.toNat, by omega, by omega⟩
theorem awake7 : Ev (fun k => wringerlaw7_awake.f k) true := by
  unfold wringerlaw7_awake.f
  refine Ev.bind0 (order_is _ (by decide)) ?_
  have e : (Ol.ordL ([2, 0, 5] : List Int)).map (fun i : Nat => (i : Int)) = [2, 0] := by decide
  rw [e]
  refine Ev.ite_pos (by decide) (Ev.ite_pos (by decide) (Ev.ite_pos (by decide) (Ev.ite_pos (by decide) (Ev.ite_pos (by decide) ?_))))
  refine Ev.bind (of_is [] (by decide)) (Ev.ofSome ?_)
  decide
theorem sum_set (l : List Int) : ∀ (c : Nat) (x : Int), c < l.length → (l.set c x).sum = l.sum - l.getD c 0 + x := by
  induction l with
  | nil => intro c x h; simp at h
  | cons a t ih =>
    intro c x h
    cases c with
    | zero => simp; omega
    | succ c =>
      have := ih c x (by simpa using h)
      simp only [List.set_cons_succ, List.sum_cons, List.getD_cons_succ]
      omega
def InC (p : PartS) : Prop := 0 ≤ p.f0 ∧ p.f0 < 65
theorem partP_in (v : Int) (h : Wf v) : InC (partP v) := by
  have hu := zmap_lt v h.1 h.2
  have h1 := bl_le (zmap v) (by omega)
  unfold InC partP; simp only; omega
theorem sum_ofL (ps : List PartS) : (∀ p ∈ ps, InC p) → (ofL ps).sum = (ps.length : Int) := by
  induction ps using Hp.snoc_ind with
  | h0 => intro _; decide
  | h1 ps p ih =>
    intro h
    obtain ⟨h1, h2⟩ := h p (by simp)
    obtain ⟨c, hc⟩ := Int.eq_ofNat_of_zero_le h1
    rw [ofL_snoc ps p c (by omega) hc, sum_set _ _ _ (by rw [length_ofL]; omega), ih fun q hq => h q (by simp [hq])]
    simp; omega
theorem cnt_append (a b : List PartS) (c : Nat) : cnt (a ++ b) c = cnt a c + cnt b c := by unfold cnt; rw [List.filter_append, List.length_append]
theorem cnt_perm {a b : List PartS} (h : a.Perm b) (c : Nat) : cnt a c = cnt b c := by unfold cnt; exact (h.filter _).length_eq
theorem ofL_perm {a b : List PartS} (h : a.Perm b) : ofL a = ofL b := by
  unfold ofL; exact List.map_congr_left fun c _ => by rw [cnt_perm h c]
end Go.Proofs.Ytlfakfdlifipnaa.PA
