/- Part HistOrder1 of what the layer's laws stand on: PAx35, PureHistOrder, LawHistOrder. Written by a program (merge.py) out of this session's own texts and of what the kit's print wrote over stand-ins (sp.py). Conditions: those that each theorem names. -/
import Derived.Test.YtlfakfdlifipnaaQB1
import Derived.Test.YtlfakfdlifipnaaQB2
import Derived.Test.YtlfakfdlifipnaaRows
import Derived.WalkKit
import Derived.ProofKit
import Derived.OpenShut
import Derived.ShutString
import Derived.ChangeOld
import Derived.Below
import Derived.SizedLaws
import Derived.Test.YtlfakfdlifipnaaWSized
-- ---- PAx35

namespace Go.Proofs.Ytlfakfdlifipnaa.PA
open Go.RowKit Go.Proofs.YtlfakfdlifipnaaW.PrintWords Go.Proofs.YtlfakfdlifipnaaW.PrintLast Go.Proofs.YtlfakfdlifipnaaW.PrintMore
attribute [local go_sem] max2_int min2_int max_two min_two max_three min_three max_four min_four   -- for this text's walks alone
set_option linter.unusedVariables false
set_option linter.unusedSimpArgs false

/-! ### wringerlaw7_HistOrder: function 3 -/
mutual
def wringerlaw7_HistOrder.l0 : Nat → List Int → List Int → List Int → Int → Option (Bool)
  | 0, _, _, _, _ => none
  | k + 1, x0, x3, x4, x5 => if x5 < (x3.length : Int) then (if 0 ≤ x5 then (if (rd x3 x5) < 0 then (some false) else (if (rd x3 x5) ≥ (x0.length : Int) then (some false) else (if x5 > 0 then (if 0 ≤ (rd x3 x5) then (if (rd x3 x5) < (x0.length : Int) then (if 0 ≤ (wrap64 (x5 - 1)) then (if (wrap64 (x5 - 1)) < (x3.length : Int) then (if 0 ≤ (rd x3 (wrap64 (x5 - 1))) then (if (rd x3 (wrap64 (x5 - 1))) < (x0.length : Int) then (if (rd x0 (rd x3 x5)) > (rd x0 (rd x3 (wrap64 (x5 - 1)))) then (some false) else (if (rd x0 (rd x3 x5)) = (rd x0 (rd x3 (wrap64 (x5 - 1)))) then (if (rd x3 x5) < (rd x3 (wrap64 (x5 - 1))) then (some false) else (if (rd x3 x5) < (x4.length : Int) then (wringerlaw7_HistOrder.l0 k x0 x3 (x4.set ((rd x3 x5) : Int).toNat (wrap64 ((rd x4 (rd x3 x5)) + 1))) (wrap64 (x5 + 1))) else (none))) else (if (rd x3 x5) < (x4.length : Int) then (wringerlaw7_HistOrder.l0 k x0 x3 (x4.set ((rd x3 x5) : Int).toNat (wrap64 ((rd x4 (rd x3 x5)) + 1))) (wrap64 (x5 + 1))) else (none)))) else (none)) else (none)) else (none)) else (none)) else (none)) else (none)) else (if 0 ≤ (rd x3 x5) then (if (rd x3 x5) < (x4.length : Int) then (wringerlaw7_HistOrder.l0 k x0 x3 (x4.set ((rd x3 x5) : Int).toNat (wrap64 ((rd x4 (rd x3 x5)) + 1))) (wrap64 (x5 + 1))) else (none)) else (none))))) else (none)) else (wringerlaw7_HistOrder.l1 k x0 x4 0)
def wringerlaw7_HistOrder.l1 : Nat → List Int → List Int → Int → Option (Bool)
  | 0, _, _, _ => none
  | k + 1, x0, x4, x6 => if x6 < (x4.length : Int) then (if 0 ≤ x6 then (if x6 < (x0.length : Int) then (if (((rd x4 x6) == 1) != (decide ((rd x0 x6) > 0))) = true then (some false) else (if (rd x4 x6) > 1 then (some false) else (wringerlaw7_HistOrder.l1 k x0 x4 (wrap64 (x6 + 1))))) else (none)) else (none)) else ((wringerlaw7_awake.f k).bind fun t350 => (some t350))
end
def wringerlaw7_HistOrder.f (k : Nat) (l0 : List Int) : Option (Bool) := if (l0.length : Int) > 200 then ((wringerlaw7_awake.f k).bind fun t319 => (some t319)) else ((hist_Order.f l0).bind fun t320 => (if 0 ≤ (l0.length : Int) then (if ((l0.length : Int) : Int).toNat ≤ 35184372088832 then (wringerlaw7_HistOrder.l0 k l0 t320 (List.replicate ((l0.length : Int) : Int).toNat 0) 0) else (none)) else (none)))
theorem wringerlaw7_HistOrder.mono_l : ∀ k, (∀ y0 y1 y2 y3, LeO (wringerlaw7_HistOrder.l0 k y0 y1 y2 y3) (wringerlaw7_HistOrder.l0 (k + 1) y0 y1 y2 y3)) ∧ (∀ y0 y1 y2, LeO (wringerlaw7_HistOrder.l1 k y0 y1 y2) (wringerlaw7_HistOrder.l1 (k + 1) y0 y1 y2))
  | 0 => ⟨fun _ _ _ _ r h => by simp [wringerlaw7_HistOrder.l0] at h, fun _ _ _ r h => by simp [wringerlaw7_HistOrder.l1] at h⟩
  | k + 1 => by
    obtain ⟨ih0, ih1⟩ := wringerlaw7_HistOrder.mono_l k
    refine ⟨?_, ?_⟩
    · intro y0 y1 y2 y3
      unfold wringerlaw7_HistOrder.l0
      repeat' first
      | (with_reducible exact ih0 _ _ _ _)
      | (with_reducible exact ih1 _ _ _)
      | (with_reducible exact wringerlaw7_awake.mono _)
      | (with_reducible exact LeO.refl _)
      | (with_reducible exact LeO.none _)
      | (with_reducible refine LeO.ite ?_ ?_)
      | (with_reducible refine LeO.bind ?_ (fun _ => ?_))
      | exact ih0 _ _ _ _
      | exact ih1 _ _ _
      | exact wringerlaw7_awake.mono _
      | exact LeO.none _
      | refine LeO.ite ?_ ?_
      | refine LeO.bind ?_ (fun _ => ?_)
    · intro y0 y1 y2
      unfold wringerlaw7_HistOrder.l1
      repeat' first
      | (with_reducible exact ih0 _ _ _ _)
      | (with_reducible exact ih1 _ _ _)
      | (with_reducible exact wringerlaw7_awake.mono _)
      | (with_reducible exact LeO.refl _)
      | (with_reducible exact LeO.none _)
      | (with_reducible refine LeO.ite ?_ ?_)
      | (with_reducible refine LeO.bind ?_ (fun _ => ?_))
      | exact ih0 _ _ _ _
      | exact ih1 _ _ _
      | exact wringerlaw7_awake.mono _
      | exact LeO.none _
      | refine LeO.ite ?_ ?_
      | refine LeO.bind ?_ (fun _ => ?_)
theorem wringerlaw7_HistOrder.mono : ∀ a0 k, LeO (wringerlaw7_HistOrder.f k a0) (wringerlaw7_HistOrder.f (k + 1) a0) := by
  intro a0 k
  obtain ⟨ih0, ih1⟩ := wringerlaw7_HistOrder.mono_l k
  unfold wringerlaw7_HistOrder.f
  repeat' first
      | (with_reducible exact ih0 _ _ _ _)
      | (with_reducible exact ih1 _ _ _)
      | (with_reducible exact wringerlaw7_awake.mono _)
      | (with_reducible exact LeO.refl _)
      | (with_reducible exact LeO.none _)
      | (with_reducible refine LeO.ite ?_ ?_)
      | (with_reducible refine LeO.bind ?_ (fun _ => ?_))
      | exact ih0 _ _ _ _
      | exact ih1 _ _ _
      | exact wringerlaw7_awake.mono _
      | exact LeO.none _
      | refine LeO.ite ?_ ?_
      | refine LeO.bind ?_ (fun _ => ?_)
set_option maxHeartbeats 8000000 in
set_option maxRecDepth 100000 in
theorem wringerlaw7_HistOrder.calls (k : Nat) (A0 : Option Addr) (c0 : Nat) (l0 : List Int) (r : Bool) (w : World) (hr0 : Kd.C (Kd.int .i64) w A0 l0.length l0) (hc0 : l0.length ≤ c0) (h : wringerlaw7_HistOrder.f k l0 = some r) :
    Calls Try.prog 3 #[.slice A0 l0.length c0] w fun e w' => e = .returned (.bool r) ∧ Below w.heap.size w w' := by
  have HR0 := Aside0.mk hr0
  have HC0 := Aside0.mk hc0
  clear hr0 hc0
  have HB := Aside0.mk (Below.refl w.heap.size w)
  have H : (if (l0.length : Int) > 200 then ((wringerlaw7_awake.f k).bind fun t319 => (some t319)) else ((hist_Order.f l0).bind fun t320 => (if 0 ≤ (l0.length : Int) then (if ((l0.length : Int) : Int).toNat ≤ 35184372088832 then (wringerlaw7_HistOrder.l0 k l0 t320 (List.replicate ((l0.length : Int) : Int).toNat 0) 0) else (none)) else (none)))) = some r := h
  clear h
  by_cases c2 : (l0.length : Int) > 200
  · rw [if_pos c2] at H
    have c2b0 : decide (200 < (l0.length : Int)) = true := decide_eq_true c2
    have c2b1 : decide (200 < l0.length) = true := decide_eq_true (by omega)
    clear c2
    replace H := Option.bind_eq_some_iff.mp H
    obtain ⟨t319, A30, H⟩ := H
    replace H : (some t319) = some r := H
    have A3 := Aside0.mk A30
    clear A30
    obtain rfl := Option.some.inj H
    go_enter Try.func3, Try.ntmps3
    go_wp2_with (first | (go_at_call 8; (with_reducible refine (wringerlaw7_awake.calls k  t319 _ A3.out).mono ?_); rintro e w4 ⟨rfl, hb⟩; have n0_ := Aside0.mk (below_step (by repeat (first | (with_reducible first | exact HB.out | apply below_alloc | apply pw_below_drewN | apply below_drew1) | exact HB.out)) hb); clear HB; have HB := n0_; clear n0_; (try clear hb); (try clear hb2); (try clear hk); (try clear hi)))
    repeat (go_quiet (first | (go_at_call 8; (with_reducible refine (wringerlaw7_awake.calls k  t319 _ A3.out).mono ?_); rintro e w4 ⟨rfl, hb⟩; have n0_ := Aside0.mk (below_step (by repeat (first | (with_reducible first | exact HB.out | apply below_alloc | apply pw_below_drewN | apply below_drew1) | exact HB.out)) hb); clear HB; have HB := n0_; clear n0_; (try clear hb); (try clear hb2); (try clear hk); (try clear hi))); try go_wp2_with (first | (go_at_call 8; (with_reducible refine (wringerlaw7_awake.calls k  t319 _ A3.out).mono ?_); rintro e w4 ⟨rfl, hb⟩; have n0_ := Aside0.mk (below_step (by repeat (first | (with_reducible first | exact HB.out | apply below_alloc | apply pw_below_drewN | apply below_drew1) | exact HB.out)) hb); clear HB; have HB := n0_; clear n0_; (try clear hb); (try clear hb2); (try clear hk); (try clear hi))))
    go_ret
    exact ⟨by first | rfl | (simp [errW_none, errW_some] <;> rfl) | (simp [*, errW_none, errW_some] <;> rfl), by repeat (first | (with_reducible first | exact HB.out | apply below_alloc | apply pw_below_drewN | apply below_drew1) | exact HB.out)⟩
  · rw [if_neg c2] at H
    have c2b0 : decide (200 < (l0.length : Int)) = false := decide_eq_false c2
    have c2b1 : decide (200 < l0.length) = false := decide_eq_false (by omega)
    clear c2
    replace H := Option.bind_eq_some_iff.mp H
    obtain ⟨t320, A50, H⟩ := H
    replace H : (if 0 ≤ (l0.length : Int) then (if ((l0.length : Int) : Int).toNat ≤ 35184372088832 then (wringerlaw7_HistOrder.l0 k l0 t320 (List.replicate ((l0.length : Int) : Int).toNat 0) 0) else (none)) else (none)) = some r := H
    have A5 := Aside0.mk A50
    clear A50
    by_cases c6 : 0 ≤ (l0.length : Int)
    · rw [if_pos c6] at H
      have c6b0 := eq_true c6
      have c6b1 : decide (0 ≤ (l0.length : Int)) = true := decide_eq_true c6
      clear c6
      by_cases c7 : ((l0.length : Int) : Int).toNat ≤ 35184372088832
      · rw [if_pos c7] at H
        have c7b0 := eq_true c7
        have c7b1 : decide (((l0.length : Int) : Int).toNat ≤ 35184372088832) = true := decide_eq_true c7
        clear c7
        obtain ⟨y323, hy323⟩ : ∃ y_ : List Int, y_ = (List.replicate ((l0.length : Int) : Int).toNat 0) := ⟨_, rfl⟩
        replace H : (wringerlaw7_HistOrder.l0 k l0 t320 y323 0) = some r := by first | (rw [hy323]; with_reducible exact H) | (have H2_ := (Option.bind_some _ _).symm.trans H; rw [hy323]; with_reducible exact H2_) | (have H2_ := (Option.bind_some _ _).symm.trans H; with_reducible exact H2_) | with_reducible exact H | (rw [hy323]; exact H) | exact H
        have Ny323 := Aside0.mk hy323
        clear hy323
        have H' := Aside0.mk H
        clear H
        go_enter Try.func3, Try.ntmps3
        go_wp2_with (first | (go_at_call 9; (with_reducible refine (hist_Order.calls _ _ l0 t320 _ ?side1 ?side2 A5.out).mono ?_); (case side1 => repeat (first | exact HR0.out | (with_reducible refine Kd.C_alloc ?_ _) | (with_reducible refine Kd.C_drewN ?_ _) | (with_reducible refine Kd.C_drew ?_))); (case side2 => exact HC0.out); rintro e w8 ⟨v321, rfl, ho0, hb⟩; have n0_ := Aside0.mk (Kd.R_lower ho0 (below_size (by repeat (first | (with_reducible first | exact HB.out | apply below_alloc | apply pw_below_drewN | apply below_drew1) | exact HB.out)))); have n1_ := Aside0.mk (below_step (by repeat (first | (with_reducible first | exact HB.out | apply below_alloc | apply pw_below_drewN | apply below_drew1) | exact HB.out)) hb); clear HB; have HO322 := n0_; have HB := n1_; clear n0_ n1_; (try clear hb); (try clear hb2); (try clear hk); (try clear hi); (try clear ho0)) | ((with_reducible refine gate_dst (N := 15) rfl ?_); (try (refine gate_guard (by rfl) ?_; dsimp only)); refine Kd.R_make (Kd.int .i64) _ 3 rfl (N := 15) rfl 22 _ _ rfl (l0.length : Int) rfl rfl Try.underlying22 (.int .i64 0) 8 info3 rfl (by decide) (by omega) 0 (ok := fun _ => True) (okp := fun _ => True) rfl (fun _ hk => hk) trivial (of_decide_eq_true (by first | (with_reducible assumption) | assumption)) (Nat.le_trans (Nat.mul_le_mul_right _ (of_decide_eq_true (by first | (with_reducible assumption) | assumption) : (l0.length : Int).toNat ≤ 35184372088832)) (by omega)) (Below.refl _ _) (Nat.le_refl _) ?_; intro v324 w9 ho10 hb hg_ hnew_; clear hg_ hnew_; (first | rw [← Ny323.out] at ho10 | (simp only [Int.reduceToNat] at ho10; rw [← Ny323.out] at ho10)); have n0_ := Aside0.mk (Kd.R_elder' (by (with_reducible repeat (first | apply Kd.R_alloc | apply Kd.R_drewN | apply Kd.R_drew)); exact HO322.out) (Kd.R_base ho10) hb); have n1_ := Aside0.mk (Kd.R_lower (Kd.R_new' ho10 (Kd.R_lt (by (with_reducible repeat (first | apply Kd.R_alloc | apply Kd.R_drewN | apply Kd.R_drew)); exact HO322.out))) (below_size (by repeat (first | (with_reducible first | exact HB.out | apply below_alloc | apply pw_below_drewN | apply below_drew1) | exact HB.out)))); have n2_ := Aside0.mk (below_step (by repeat (first | (with_reducible first | exact HB.out | apply below_alloc | apply pw_below_drewN | apply below_drew1) | exact HB.out)) hb); clear HO322; clear HB; have HO322 := n0_; have HO325 := n1_; have HB := n2_; clear n0_ n1_ n2_; clear hb ho10))
        repeat (go_quiet (first | (go_at_call 9; (with_reducible refine (hist_Order.calls _ _ l0 t320 _ ?side1 ?side2 A5.out).mono ?_); (case side1 => repeat (first | exact HR0.out | (with_reducible refine Kd.C_alloc ?_ _) | (with_reducible refine Kd.C_drewN ?_ _) | (with_reducible refine Kd.C_drew ?_))); (case side2 => exact HC0.out); rintro e w8 ⟨v321, rfl, ho0, hb⟩; have n0_ := Aside0.mk (Kd.R_lower ho0 (below_size (by repeat (first | (with_reducible first | exact HB.out | apply below_alloc | apply pw_below_drewN | apply below_drew1) | exact HB.out)))); have n1_ := Aside0.mk (below_step (by repeat (first | (with_reducible first | exact HB.out | apply below_alloc | apply pw_below_drewN | apply below_drew1) | exact HB.out)) hb); clear HB; have HO322 := n0_; have HB := n1_; clear n0_ n1_; (try clear hb); (try clear hb2); (try clear hk); (try clear hi); (try clear ho0)) | ((with_reducible refine gate_dst (N := 15) rfl ?_); (try (refine gate_guard (by rfl) ?_; dsimp only)); refine Kd.R_make (Kd.int .i64) _ 3 rfl (N := 15) rfl 22 _ _ rfl (l0.length : Int) rfl rfl Try.underlying22 (.int .i64 0) 8 info3 rfl (by decide) (by omega) 0 (ok := fun _ => True) (okp := fun _ => True) rfl (fun _ hk => hk) trivial (of_decide_eq_true (by first | (with_reducible assumption) | assumption)) (Nat.le_trans (Nat.mul_le_mul_right _ (of_decide_eq_true (by first | (with_reducible assumption) | assumption) : (l0.length : Int).toNat ≤ 35184372088832)) (by omega)) (Below.refl _ _) (Nat.le_refl _) ?_; intro v324 w9 ho10 hb hg_ hnew_; clear hg_ hnew_; (first | rw [← Ny323.out] at ho10 | (simp only [Int.reduceToNat] at ho10; rw [← Ny323.out] at ho10)); have n0_ := Aside0.mk (Kd.R_elder' (by (with_reducible repeat (first | apply Kd.R_alloc | apply Kd.R_drewN | apply Kd.R_drew)); exact HO322.out) (Kd.R_base ho10) hb); have n1_ := Aside0.mk (Kd.R_lower (Kd.R_new' ho10 (Kd.R_lt (by (with_reducible repeat (first | apply Kd.R_alloc | apply Kd.R_drewN | apply Kd.R_drew)); exact HO322.out))) (below_size (by repeat (first | (with_reducible first | exact HB.out | apply below_alloc | apply pw_below_drewN | apply below_drew1) | exact HB.out)))); have n2_ := Aside0.mk (below_step (by repeat (first | (with_reducible first | exact HB.out | apply below_alloc | apply pw_below_drewN | apply below_drew1) | exact HB.out)) hb); clear HO322; clear HB; have HO322 := n0_; have HO325 := n1_; have HB := n2_; clear n0_ n1_ n2_; clear hb ho10)); try go_wp2_with (first | (go_at_call 9; (with_reducible refine (hist_Order.calls _ _ l0 t320 _ ?side1 ?side2 A5.out).mono ?_); (case side1 => repeat (first | exact HR0.out | (with_reducible refine Kd.C_alloc ?_ _) | (with_reducible refine Kd.C_drewN ?_ _) | (with_reducible refine Kd.C_drew ?_))); (case side2 => exact HC0.out); rintro e w8 ⟨v321, rfl, ho0, hb⟩; have n0_ := Aside0.mk (Kd.R_lower ho0 (below_size (by repeat (first | (with_reducible first | exact HB.out | apply below_alloc | apply pw_below_drewN | apply below_drew1) | exact HB.out)))); have n1_ := Aside0.mk (below_step (by repeat (first | (with_reducible first | exact HB.out | apply below_alloc | apply pw_below_drewN | apply below_drew1) | exact HB.out)) hb); clear HB; have HO322 := n0_; have HB := n1_; clear n0_ n1_; (try clear hb); (try clear hb2); (try clear hk); (try clear hi); (try clear ho0)) | ((with_reducible refine gate_dst (N := 15) rfl ?_); (try (refine gate_guard (by rfl) ?_; dsimp only)); refine Kd.R_make (Kd.int .i64) _ 3 rfl (N := 15) rfl 22 _ _ rfl (l0.length : Int) rfl rfl Try.underlying22 (.int .i64 0) 8 info3 rfl (by decide) (by omega) 0 (ok := fun _ => True) (okp := fun _ => True) rfl (fun _ hk => hk) trivial (of_decide_eq_true (by first | (with_reducible assumption) | assumption)) (Nat.le_trans (Nat.mul_le_mul_right _ (of_decide_eq_true (by first | (with_reducible assumption) | assumption) : (l0.length : Int).toNat ≤ 35184372088832)) (by omega)) (Below.refl _ _) (Nat.le_refl _) ?_; intro v324 w9 ho10 hb hg_ hnew_; clear hg_ hnew_; (first | rw [← Ny323.out] at ho10 | (simp only [Int.reduceToNat] at ho10; rw [← Ny323.out] at ho10)); have n0_ := Aside0.mk (Kd.R_elder' (by (with_reducible repeat (first | apply Kd.R_alloc | apply Kd.R_drewN | apply Kd.R_drew)); exact HO322.out) (Kd.R_base ho10) hb); have n1_ := Aside0.mk (Kd.R_lower (Kd.R_new' ho10 (Kd.R_lt (by (with_reducible repeat (first | apply Kd.R_alloc | apply Kd.R_drewN | apply Kd.R_drew)); exact HO322.out))) (below_size (by repeat (first | (with_reducible first | exact HB.out | apply below_alloc | apply pw_below_drewN | apply below_drew1) | exact HB.out)))); have n2_ := Aside0.mk (below_step (by repeat (first | (with_reducible first | exact HB.out | apply below_alloc | apply pw_below_drewN | apply below_drew1) | exact HB.out)) hb); clear HO322; clear HB; have HO322 := n0_; have HO325 := n1_; have HB := n2_; clear n0_ n1_ n2_; clear hb ho10)))
        go_loopg [5] k (fun kq v5 w' => ∃ (x4_1 : List Int) (x5_1 : Int), v5 = .int .i64 x5_1 ∧ Aside0 (wringerlaw7_HistOrder.l0 kq l0 t320 x4_1 x5_1 = some r) ∧ Aside0 (kq ≤ k) ∧ Aside0 (Kd.R (Kd.int .i64) 3 w' w.heap.size (fun k_ => some k_ ≠ (v324 : Value).ownBlock) v321 t320) ∧ Aside0 (Kd.R (Kd.int .i64) 3 w' w.heap.size (fun k_ => some k_ ≠ (v321 : Value).ownBlock) v324 x4_1) ∧ Aside0 (Below w.heap.size w w'))
        case atStart => exact ⟨(y323), (0), (by first | rfl | (simp; done) | (simp [*]; done)), H', ⟨Nat.le_refl _⟩, ⟨by (with_reducible repeat (first | apply Kd.R_alloc | apply Kd.R_drewN | apply Kd.R_drew)); exact Kd.R_mono HO322.out (fun _ hk => hk.2)⟩, ⟨by (with_reducible repeat (first | apply Kd.R_alloc | apply Kd.R_drewN | apply Kd.R_drew)); exact Kd.R_mono HO325.out (fun _ hk => hk.2)⟩, ⟨by repeat (first | (with_reducible first | exact HB.out | apply below_alloc | apply pw_below_drewN | apply below_drew1) | exact HB.out)⟩⟩
        case round =>
          clear H'
          try clear c2
          try clear c2b0
          try clear c2b1
          try clear p2
          try clear c3
          try clear c6
          try clear c6b0
          try clear c6b1
          try clear c7
          try clear c7b0
          try clear c7b1
          obtain ⟨x4_1, x5_1, rfl, HA, HK1, HO_3, HO_4, HB⟩ := hrel
          cases gk with
          | zero => exact absurd HA.out (by simp [wringerlaw7_HistOrder.l0])
          | succ k1 =>
            have H := HA.out
            clear HA
            simp only [wringerlaw7_HistOrder.l0] at H
            by_cases c11 : x5_1 < (t320.length : Int)
            · rw [if_pos c11] at H
              have c11b0 : decide (x5_1 < (t320.length : Int)) = true := decide_eq_true c11
              clear c11
              by_cases c12 : 0 ≤ x5_1
              · rw [if_pos c12] at H
                have c12b0 : decide (0 ≤ x5_1) = true := decide_eq_true c12
                clear c12
                by_cases c13 : (rd t320 x5_1) < 0
                · rw [if_pos c13] at H
                  have c13b0 : decide ((rd t320 x5_1) < 0) = true := decide_eq_true c13
                  clear c13
                  obtain rfl := Option.some.inj H
                  obtain ⟨Ao14, co14, eo14⟩ := Kd.R_slice HO_3.out
                  subst eo14
                  have p326 : 0 ≤ (x5_1 : Int) := of_decide_eq_true (by first | (with_reducible assumption) | assumption)
                  have q326 : x5_1 < (t320.length : Int) := of_decide_eq_true (by first | (with_reducible assumption) | assumption)
                  obtain ⟨ad326, e326, hx326_0⟩ := Kd.at_int (Kd.R_reads' HO_3.out).2.2 x5_1 p326 q326
                  cases e326
                  replace p326 := eq_true p326
                  replace q326 := eq_true q326
                  go_wp2
                  repeat (go_quiet (fail); try go_wp2)
                  go_ret
                  exact ⟨by first | rfl | (simp [errW_none, errW_some] <;> rfl) | (simp [*, errW_none, errW_some] <;> rfl), by repeat (first | (with_reducible first | exact HB.out | apply below_alloc | apply pw_below_drewN | apply below_drew1) | exact HB.out)⟩
                · rw [if_neg c13] at H
                  have c13b0 : decide ((rd t320 x5_1) < 0) = false := decide_eq_false c13
                  clear c13
                  by_cases c15 : (rd t320 x5_1) ≥ (l0.length : Int)
                  · rw [if_pos c15] at H
                    have c15b0 : decide ((l0.length : Int) ≤ (rd t320 x5_1)) = true := decide_eq_true c15
                    clear c15
                    obtain rfl := Option.some.inj H
                    obtain ⟨Ao16, co16, eo16⟩ := Kd.R_slice HO_3.out
                    subst eo16
                    have p326 : 0 ≤ (x5_1 : Int) := of_decide_eq_true (by first | (with_reducible assumption) | assumption)
                    have q326 : x5_1 < (t320.length : Int) := of_decide_eq_true (by first | (with_reducible assumption) | assumption)
                    obtain ⟨ad326, e326, hx326_0⟩ := Kd.at_int (Kd.R_reads' HO_3.out).2.2 x5_1 p326 q326
                    cases e326
                    replace p326 := eq_true p326
                    replace q326 := eq_true q326
                    have p327 : 0 ≤ (x5_1 : Int) := of_decide_eq_true (by first | (with_reducible assumption) | assumption)
                    have q327 : x5_1 < (t320.length : Int) := of_decide_eq_true (by first | (with_reducible assumption) | assumption)
                    obtain ⟨ad327, e327, hx327_0⟩ := Kd.at_int (Kd.R_reads' HO_3.out).2.2 x5_1 p327 q327
                    obtain rfl : ad326 = ad327 := (by injection e327)
                    replace p327 := eq_true p327
                    replace q327 := eq_true q327
                    go_wp2
                    repeat (go_quiet (fail); try go_wp2)
                    go_ret
                    exact ⟨by first | rfl | (simp [errW_none, errW_some] <;> rfl) | (simp [*, errW_none, errW_some] <;> rfl), by repeat (first | (with_reducible first | exact HB.out | apply below_alloc | apply pw_below_drewN | apply below_drew1) | exact HB.out)⟩
                  · rw [if_neg c15] at H
                    have c15b0 : decide ((l0.length : Int) ≤ (rd t320 x5_1)) = false := decide_eq_false c15
                    clear c15
                    by_cases c17 : x5_1 > 0
                    · rw [if_pos c17] at H
                      have c17b0 : decide (0 < x5_1) = true := decide_eq_true c17
                      clear c17
                      by_cases c18 : 0 ≤ (rd t320 x5_1)
                      · rw [if_pos c18] at H
                        have c18b0 : decide (0 ≤ (rd t320 x5_1)) = true := decide_eq_true c18
                        clear c18
                        by_cases c19 : (rd t320 x5_1) < (l0.length : Int)
                        · rw [if_pos c19] at H
                          have c19b0 : decide ((rd t320 x5_1) < (l0.length : Int)) = true := decide_eq_true c19
                          clear c19
                          obtain ⟨ji20, hji20⟩ : ∃ j_ : Int, (wrap64 (x5_1 - 1)) = j_ := ⟨_, rfl⟩
                          replace H : (if 0 ≤ (ji20) then (if (ji20) < (t320.length : Int) then (if 0 ≤ (rd t320 (ji20)) then (if (rd t320 (ji20)) < (l0.length : Int) then (if (rd l0 (rd t320 x5_1)) > (rd l0 (rd t320 (ji20))) then (some false) else (if (rd l0 (rd t320 x5_1)) = (rd l0 (rd t320 (ji20))) then (if (rd t320 x5_1) < (rd t320 (ji20)) then (some false) else (if (rd t320 x5_1) < (x4_1.length : Int) then (wringerlaw7_HistOrder.l0 k1 l0 t320 (x4_1.set ((rd t320 x5_1) : Int).toNat (wrap64 ((rd x4_1 (rd t320 x5_1)) + 1))) (wrap64 (x5_1 + 1))) else (none))) else (if (rd t320 x5_1) < (x4_1.length : Int) then (wringerlaw7_HistOrder.l0 k1 l0 t320 (x4_1.set ((rd t320 x5_1) : Int).toNat (wrap64 ((rd x4_1 (rd t320 x5_1)) + 1))) (wrap64 (x5_1 + 1))) else (none)))) else (none)) else (none)) else (none)) else (none)) = some r := by first | (rw [hji20] at H; exact H) | (simp only [hji20] at H ⊢; exact H)
                          have hji20w : (IntKind.i64.wrap (x5_1 - 1)) = ji20 := (i64_w _).trans hji20
                          by_cases c21 : 0 ≤ (ji20)
                          · rw [if_pos c21] at H
                            have c21b0 : decide (0 ≤ (ji20)) = true := decide_eq_true c21
                            clear c21
                            by_cases c22 : (ji20) < (t320.length : Int)
                            · rw [if_pos c22] at H
                              have c22b0 : decide ((ji20) < (t320.length : Int)) = true := decide_eq_true c22
                              clear c22
                              by_cases c23 : 0 ≤ (rd t320 (ji20))
                              · rw [if_pos c23] at H
                                have c23b0 : decide (0 ≤ (rd t320 (ji20))) = true := decide_eq_true c23
                                clear c23
                                by_cases c24 : (rd t320 (ji20)) < (l0.length : Int)
                                · rw [if_pos c24] at H
                                  have c24b0 : decide ((rd t320 (ji20)) < (l0.length : Int)) = true := decide_eq_true c24
                                  clear c24
                                  by_cases c25 : (rd l0 (rd t320 x5_1)) > (rd l0 (rd t320 (ji20)))
                                  · rw [if_pos c25] at H
                                    have c25b0 : decide ((rd l0 (rd t320 (ji20))) < (rd l0 (rd t320 x5_1))) = true := decide_eq_true c25
                                    clear c25
                                    obtain rfl := Option.some.inj H
                                    obtain ⟨Ao26, co26, eo26⟩ := Kd.R_slice HO_3.out
                                    subst eo26
                                    have p326 : 0 ≤ (x5_1 : Int) := of_decide_eq_true (by first | (with_reducible assumption) | assumption)
                                    have q326 : x5_1 < (t320.length : Int) := of_decide_eq_true (by first | (with_reducible assumption) | assumption)
                                    obtain ⟨ad326, e326, hx326_0⟩ := Kd.at_int (Kd.R_reads' HO_3.out).2.2 x5_1 p326 q326
                                    cases e326
                                    replace p326 := eq_true p326
                                    replace q326 := eq_true q326
                                    have p327 : 0 ≤ (x5_1 : Int) := of_decide_eq_true (by first | (with_reducible assumption) | assumption)
                                    have q327 : x5_1 < (t320.length : Int) := of_decide_eq_true (by first | (with_reducible assumption) | assumption)
                                    obtain ⟨ad327, e327, hx327_0⟩ := Kd.at_int (Kd.R_reads' HO_3.out).2.2 x5_1 p327 q327
                                    obtain rfl : ad326 = ad327 := (by injection e327)
                                    replace p327 := eq_true p327
                                    replace q327 := eq_true q327
                                    have p328 : 0 ≤ (x5_1 : Int) := of_decide_eq_true (by first | (with_reducible assumption) | assumption)
                                    have q328 : x5_1 < (t320.length : Int) := of_decide_eq_true (by first | (with_reducible assumption) | assumption)
                                    obtain ⟨ad328, e328, hx328_0⟩ := Kd.at_int (Kd.R_reads' HO_3.out).2.2 x5_1 p328 q328
                                    obtain rfl : ad326 = ad328 := (by injection e328)
                                    replace p328 := eq_true p328
                                    replace q328 := eq_true q328
                                    have p329 : 0 ≤ ((rd t320 x5_1) : Int) := of_decide_eq_true (by first | (with_reducible assumption) | assumption)
                                    have q329 : (rd t320 x5_1) < (l0.length : Int) := of_decide_eq_true (by first | (with_reducible assumption) | assumption)
                                    obtain ⟨ad329, e329, hx329_0⟩ := Kd.at_int HR0.out (rd t320 x5_1) p329 q329
                                    cases e329
                                    replace hx329_0 := (HB.out.cell (World.block_lt_of_cell? w _ hx329_0)).trans hx329_0
                                    replace p329 := eq_true p329
                                    replace q329 := eq_true q329
                                    have p330 : 0 ≤ ((ji20) : Int) := of_decide_eq_true (by first | (with_reducible assumption) | assumption)
                                    have q330 : (ji20) < (t320.length : Int) := of_decide_eq_true (by first | (with_reducible assumption) | assumption)
                                    obtain ⟨ad330, e330, hx330_0⟩ := Kd.at_int (Kd.R_reads' HO_3.out).2.2 (ji20) p330 q330
                                    obtain rfl : ad326 = ad330 := (by injection e330)
                                    replace p330 := eq_true p330
                                    replace q330 := eq_true q330
                                    have p331 : 0 ≤ ((rd t320 (ji20)) : Int) := of_decide_eq_true (by first | (with_reducible assumption) | assumption)
                                    have q331 : (rd t320 (ji20)) < (l0.length : Int) := of_decide_eq_true (by first | (with_reducible assumption) | assumption)
                                    obtain ⟨ad331, e331, hx331_0⟩ := Kd.at_int HR0.out (rd t320 (ji20)) p331 q331
                                    obtain rfl : ad329 = ad331 := (by injection e331)
                                    replace hx331_0 := (HB.out.cell (World.block_lt_of_cell? w _ hx331_0)).trans hx331_0
                                    replace p331 := eq_true p331
                                    replace q331 := eq_true q331
                                    go_wp2
                                    repeat (go_quiet (fail); try go_wp2)
                                    go_ret
                                    exact ⟨by first | rfl | (simp [errW_none, errW_some] <;> rfl) | (simp only [← hji20]; first | rfl | (simp [errW_none, errW_some] <;> rfl)) | (simp [*, errW_none, errW_some] <;> rfl), by repeat (first | (with_reducible first | exact HB.out | apply below_alloc | apply pw_below_drewN | apply below_drew1) | exact HB.out)⟩
                                  · rw [if_neg c25] at H
                                    have c25b0 : decide ((rd l0 (rd t320 (ji20))) < (rd l0 (rd t320 x5_1))) = false := decide_eq_false c25
                                    clear c25
                                    by_cases c27 : (rd l0 (rd t320 x5_1)) = (rd l0 (rd t320 (ji20)))
                                    · rw [if_pos c27] at H
                                      have c27b0 : ((rd l0 (rd t320 x5_1)) == (rd l0 (rd t320 (ji20)))) = true := beq_iff_eq.mpr c27
                                      have c27b1 : ((rd l0 (rd t320 x5_1)) != (rd l0 (rd t320 (ji20)))) = false := bne_eq_false_iff_eq.mpr c27
                                      clear c27
                                      by_cases c28 : (rd t320 x5_1) < (rd t320 (ji20))
                                      · rw [if_pos c28] at H
                                        have c28b0 : decide ((rd t320 x5_1) < (rd t320 (ji20))) = true := decide_eq_true c28
                                        clear c28
                                        obtain rfl := Option.some.inj H
                                        obtain ⟨Ao29, co29, eo29⟩ := Kd.R_slice HO_3.out
                                        subst eo29
                                        have p326 : 0 ≤ (x5_1 : Int) := of_decide_eq_true (by first | (with_reducible assumption) | assumption)
                                        have q326 : x5_1 < (t320.length : Int) := of_decide_eq_true (by first | (with_reducible assumption) | assumption)
                                        obtain ⟨ad326, e326, hx326_0⟩ := Kd.at_int (Kd.R_reads' HO_3.out).2.2 x5_1 p326 q326
                                        cases e326
                                        replace p326 := eq_true p326
                                        replace q326 := eq_true q326
                                        have p327 : 0 ≤ (x5_1 : Int) := of_decide_eq_true (by first | (with_reducible assumption) | assumption)
                                        have q327 : x5_1 < (t320.length : Int) := of_decide_eq_true (by first | (with_reducible assumption) | assumption)
                                        obtain ⟨ad327, e327, hx327_0⟩ := Kd.at_int (Kd.R_reads' HO_3.out).2.2 x5_1 p327 q327
                                        obtain rfl : ad326 = ad327 := (by injection e327)
                                        replace p327 := eq_true p327
                                        replace q327 := eq_true q327
                                        have p328 : 0 ≤ (x5_1 : Int) := of_decide_eq_true (by first | (with_reducible assumption) | assumption)
                                        have q328 : x5_1 < (t320.length : Int) := of_decide_eq_true (by first | (with_reducible assumption) | assumption)
                                        obtain ⟨ad328, e328, hx328_0⟩ := Kd.at_int (Kd.R_reads' HO_3.out).2.2 x5_1 p328 q328
                                        obtain rfl : ad326 = ad328 := (by injection e328)
                                        replace p328 := eq_true p328
                                        replace q328 := eq_true q328
                                        have p329 : 0 ≤ ((rd t320 x5_1) : Int) := of_decide_eq_true (by first | (with_reducible assumption) | assumption)
                                        have q329 : (rd t320 x5_1) < (l0.length : Int) := of_decide_eq_true (by first | (with_reducible assumption) | assumption)
                                        obtain ⟨ad329, e329, hx329_0⟩ := Kd.at_int HR0.out (rd t320 x5_1) p329 q329
                                        cases e329
                                        replace hx329_0 := (HB.out.cell (World.block_lt_of_cell? w _ hx329_0)).trans hx329_0
                                        replace p329 := eq_true p329
                                        replace q329 := eq_true q329
                                        have p330 : 0 ≤ ((ji20) : Int) := of_decide_eq_true (by first | (with_reducible assumption) | assumption)
                                        have q330 : (ji20) < (t320.length : Int) := of_decide_eq_true (by first | (with_reducible assumption) | assumption)
                                        obtain ⟨ad330, e330, hx330_0⟩ := Kd.at_int (Kd.R_reads' HO_3.out).2.2 (ji20) p330 q330
                                        obtain rfl : ad326 = ad330 := (by injection e330)
                                        replace p330 := eq_true p330
                                        replace q330 := eq_true q330
                                        have p331 : 0 ≤ ((rd t320 (ji20)) : Int) := of_decide_eq_true (by first | (with_reducible assumption) | assumption)
                                        have q331 : (rd t320 (ji20)) < (l0.length : Int) := of_decide_eq_true (by first | (with_reducible assumption) | assumption)
                                        obtain ⟨ad331, e331, hx331_0⟩ := Kd.at_int HR0.out (rd t320 (ji20)) p331 q331
                                        obtain rfl : ad329 = ad331 := (by injection e331)
                                        replace hx331_0 := (HB.out.cell (World.block_lt_of_cell? w _ hx331_0)).trans hx331_0
                                        replace p331 := eq_true p331
                                        replace q331 := eq_true q331
                                        have p332 : 0 ≤ (x5_1 : Int) := of_decide_eq_true (by first | (with_reducible assumption) | assumption)
                                        have q332 : x5_1 < (t320.length : Int) := of_decide_eq_true (by first | (with_reducible assumption) | assumption)
                                        obtain ⟨ad332, e332, hx332_0⟩ := Kd.at_int (Kd.R_reads' HO_3.out).2.2 x5_1 p332 q332
                                        obtain rfl : ad326 = ad332 := (by injection e332)
                                        replace p332 := eq_true p332
                                        replace q332 := eq_true q332
                                        have p333 : 0 ≤ ((rd t320 x5_1) : Int) := of_decide_eq_true (by first | (with_reducible assumption) | assumption)
                                        have q333 : (rd t320 x5_1) < (l0.length : Int) := of_decide_eq_true (by first | (with_reducible assumption) | assumption)
                                        obtain ⟨ad333, e333, hx333_0⟩ := Kd.at_int HR0.out (rd t320 x5_1) p333 q333
                                        obtain rfl : ad329 = ad333 := (by injection e333)
                                        replace hx333_0 := (HB.out.cell (World.block_lt_of_cell? w _ hx333_0)).trans hx333_0
                                        replace p333 := eq_true p333
                                        replace q333 := eq_true q333
                                        have p334 : 0 ≤ ((ji20) : Int) := of_decide_eq_true (by first | (with_reducible assumption) | assumption)
                                        have q334 : (ji20) < (t320.length : Int) := of_decide_eq_true (by first | (with_reducible assumption) | assumption)
                                        obtain ⟨ad334, e334, hx334_0⟩ := Kd.at_int (Kd.R_reads' HO_3.out).2.2 (ji20) p334 q334
                                        obtain rfl : ad326 = ad334 := (by injection e334)
                                        replace p334 := eq_true p334
                                        replace q334 := eq_true q334
                                        have p335 : 0 ≤ ((rd t320 (ji20)) : Int) := of_decide_eq_true (by first | (with_reducible assumption) | assumption)
                                        have q335 : (rd t320 (ji20)) < (l0.length : Int) := of_decide_eq_true (by first | (with_reducible assumption) | assumption)
                                        obtain ⟨ad335, e335, hx335_0⟩ := Kd.at_int HR0.out (rd t320 (ji20)) p335 q335
                                        obtain rfl : ad329 = ad335 := (by injection e335)
                                        replace hx335_0 := (HB.out.cell (World.block_lt_of_cell? w _ hx335_0)).trans hx335_0
                                        replace p335 := eq_true p335
                                        replace q335 := eq_true q335
                                        have p336 : 0 ≤ (x5_1 : Int) := of_decide_eq_true (by first | (with_reducible assumption) | assumption)
                                        have q336 : x5_1 < (t320.length : Int) := of_decide_eq_true (by first | (with_reducible assumption) | assumption)
                                        obtain ⟨ad336, e336, hx336_0⟩ := Kd.at_int (Kd.R_reads' HO_3.out).2.2 x5_1 p336 q336
                                        obtain rfl : ad326 = ad336 := (by injection e336)
                                        replace p336 := eq_true p336
                                        replace q336 := eq_true q336
                                        have p337 : 0 ≤ ((ji20) : Int) := of_decide_eq_true (by first | (with_reducible assumption) | assumption)
                                        have q337 : (ji20) < (t320.length : Int) := of_decide_eq_true (by first | (with_reducible assumption) | assumption)
                                        obtain ⟨ad337, e337, hx337_0⟩ := Kd.at_int (Kd.R_reads' HO_3.out).2.2 (ji20) p337 q337
                                        obtain rfl : ad326 = ad337 := (by injection e337)
                                        replace p337 := eq_true p337
                                        replace q337 := eq_true q337
                                        go_wp2
                                        repeat (go_quiet (fail); try go_wp2)
                                        go_ret
                                        exact ⟨by first | rfl | (simp [errW_none, errW_some] <;> rfl) | (simp only [← hji20]; first | rfl | (simp [errW_none, errW_some] <;> rfl)) | (simp [*, errW_none, errW_some] <;> rfl), by repeat (first | (with_reducible first | exact HB.out | apply below_alloc | apply pw_below_drewN | apply below_drew1) | exact HB.out)⟩
                                      · rw [if_neg c28] at H
                                        have c28b0 : decide ((rd t320 x5_1) < (rd t320 (ji20))) = false := decide_eq_false c28
                                        clear c28
                                        by_cases c30 : (rd t320 x5_1) < (x4_1.length : Int)
                                        · rw [if_pos c30] at H
                                          have c30b0 : decide ((rd t320 x5_1) < (x4_1.length : Int)) = true := decide_eq_true c30
                                          clear c30
                                          obtain ⟨y340, hy340⟩ : ∃ y_ : List Int, y_ = (x4_1.set ((rd t320 x5_1) : Int).toNat (wrap64 ((rd x4_1 (rd t320 x5_1)) + 1))) := ⟨_, rfl⟩
                                          replace H : (wringerlaw7_HistOrder.l0 k1 l0 t320 y340 (wrap64 (x5_1 + 1))) = some r := by first | (rw [hy340]; with_reducible exact H) | (have H2_ := (Option.bind_some _ _).symm.trans H; rw [hy340]; with_reducible exact H2_) | (have H2_ := (Option.bind_some _ _).symm.trans H; with_reducible exact H2_) | with_reducible exact H | (rw [hy340]; exact H) | exact H
                                          have Ny340 := Aside0.mk hy340
                                          clear hy340
                                          have H' := Aside0.mk H
                                          clear H
                                          obtain ⟨Ao32, co32, eo32⟩ := Kd.R_slice HO_3.out
                                          subst eo32
                                          have p326 : 0 ≤ (x5_1 : Int) := of_decide_eq_true (by first | (with_reducible assumption) | assumption)
                                          have q326 : x5_1 < (t320.length : Int) := of_decide_eq_true (by first | (with_reducible assumption) | assumption)
                                          obtain ⟨ad326, e326, hx326_0⟩ := Kd.at_int (Kd.R_reads' HO_3.out).2.2 x5_1 p326 q326
                                          cases e326
                                          replace p326 := eq_true p326
                                          replace q326 := eq_true q326
                                          have p327 : 0 ≤ (x5_1 : Int) := of_decide_eq_true (by first | (with_reducible assumption) | assumption)
                                          have q327 : x5_1 < (t320.length : Int) := of_decide_eq_true (by first | (with_reducible assumption) | assumption)
                                          obtain ⟨ad327, e327, hx327_0⟩ := Kd.at_int (Kd.R_reads' HO_3.out).2.2 x5_1 p327 q327
                                          obtain rfl : ad326 = ad327 := (by injection e327)
                                          replace p327 := eq_true p327
                                          replace q327 := eq_true q327
                                          have p328 : 0 ≤ (x5_1 : Int) := of_decide_eq_true (by first | (with_reducible assumption) | assumption)
                                          have q328 : x5_1 < (t320.length : Int) := of_decide_eq_true (by first | (with_reducible assumption) | assumption)
                                          obtain ⟨ad328, e328, hx328_0⟩ := Kd.at_int (Kd.R_reads' HO_3.out).2.2 x5_1 p328 q328
                                          obtain rfl : ad326 = ad328 := (by injection e328)
                                          replace p328 := eq_true p328
                                          replace q328 := eq_true q328
                                          have p329 : 0 ≤ ((rd t320 x5_1) : Int) := of_decide_eq_true (by first | (with_reducible assumption) | assumption)
                                          have q329 : (rd t320 x5_1) < (l0.length : Int) := of_decide_eq_true (by first | (with_reducible assumption) | assumption)
                                          obtain ⟨ad329, e329, hx329_0⟩ := Kd.at_int HR0.out (rd t320 x5_1) p329 q329
                                          cases e329
                                          replace hx329_0 := (HB.out.cell (World.block_lt_of_cell? w _ hx329_0)).trans hx329_0
                                          replace p329 := eq_true p329
                                          replace q329 := eq_true q329
                                          have p330 : 0 ≤ ((ji20) : Int) := of_decide_eq_true (by first | (with_reducible assumption) | assumption)
                                          have q330 : (ji20) < (t320.length : Int) := of_decide_eq_true (by first | (with_reducible assumption) | assumption)
                                          obtain ⟨ad330, e330, hx330_0⟩ := Kd.at_int (Kd.R_reads' HO_3.out).2.2 (ji20) p330 q330
                                          obtain rfl : ad326 = ad330 := (by injection e330)
                                          replace p330 := eq_true p330
                                          replace q330 := eq_true q330
                                          have p331 : 0 ≤ ((rd t320 (ji20)) : Int) := of_decide_eq_true (by first | (with_reducible assumption) | assumption)
                                          have q331 : (rd t320 (ji20)) < (l0.length : Int) := of_decide_eq_true (by first | (with_reducible assumption) | assumption)
                                          obtain ⟨ad331, e331, hx331_0⟩ := Kd.at_int HR0.out (rd t320 (ji20)) p331 q331
                                          obtain rfl : ad329 = ad331 := (by injection e331)
                                          replace hx331_0 := (HB.out.cell (World.block_lt_of_cell? w _ hx331_0)).trans hx331_0
                                          replace p331 := eq_true p331
                                          replace q331 := eq_true q331
                                          have p332 : 0 ≤ (x5_1 : Int) := of_decide_eq_true (by first | (with_reducible assumption) | assumption)
                                          have q332 : x5_1 < (t320.length : Int) := of_decide_eq_true (by first | (with_reducible assumption) | assumption)
                                          obtain ⟨ad332, e332, hx332_0⟩ := Kd.at_int (Kd.R_reads' HO_3.out).2.2 x5_1 p332 q332
                                          obtain rfl : ad326 = ad332 := (by injection e332)
                                          replace p332 := eq_true p332
                                          replace q332 := eq_true q332
                                          have p333 : 0 ≤ ((rd t320 x5_1) : Int) := of_decide_eq_true (by first | (with_reducible assumption) | assumption)
                                          have q333 : (rd t320 x5_1) < (l0.length : Int) := of_decide_eq_true (by first | (with_reducible assumption) | assumption)
                                          obtain ⟨ad333, e333, hx333_0⟩ := Kd.at_int HR0.out (rd t320 x5_1) p333 q333
                                          obtain rfl : ad329 = ad333 := (by injection e333)
                                          replace hx333_0 := (HB.out.cell (World.block_lt_of_cell? w _ hx333_0)).trans hx333_0
                                          replace p333 := eq_true p333
                                          replace q333 := eq_true q333
                                          have p334 : 0 ≤ ((ji20) : Int) := of_decide_eq_true (by first | (with_reducible assumption) | assumption)
                                          have q334 : (ji20) < (t320.length : Int) := of_decide_eq_true (by first | (with_reducible assumption) | assumption)
                                          obtain ⟨ad334, e334, hx334_0⟩ := Kd.at_int (Kd.R_reads' HO_3.out).2.2 (ji20) p334 q334
                                          obtain rfl : ad326 = ad334 := (by injection e334)
                                          replace p334 := eq_true p334
                                          replace q334 := eq_true q334
                                          have p335 : 0 ≤ ((rd t320 (ji20)) : Int) := of_decide_eq_true (by first | (with_reducible assumption) | assumption)
                                          have q335 : (rd t320 (ji20)) < (l0.length : Int) := of_decide_eq_true (by first | (with_reducible assumption) | assumption)
                                          obtain ⟨ad335, e335, hx335_0⟩ := Kd.at_int HR0.out (rd t320 (ji20)) p335 q335
                                          obtain rfl : ad329 = ad335 := (by injection e335)
                                          replace hx335_0 := (HB.out.cell (World.block_lt_of_cell? w _ hx335_0)).trans hx335_0
                                          replace p335 := eq_true p335
                                          replace q335 := eq_true q335
                                          have p336 : 0 ≤ (x5_1 : Int) := of_decide_eq_true (by first | (with_reducible assumption) | assumption)
                                          have q336 : x5_1 < (t320.length : Int) := of_decide_eq_true (by first | (with_reducible assumption) | assumption)
                                          obtain ⟨ad336, e336, hx336_0⟩ := Kd.at_int (Kd.R_reads' HO_3.out).2.2 x5_1 p336 q336
                                          obtain rfl : ad326 = ad336 := (by injection e336)
                                          replace p336 := eq_true p336
                                          replace q336 := eq_true q336
                                          have p337 : 0 ≤ ((ji20) : Int) := of_decide_eq_true (by first | (with_reducible assumption) | assumption)
                                          have q337 : (ji20) < (t320.length : Int) := of_decide_eq_true (by first | (with_reducible assumption) | assumption)
                                          obtain ⟨ad337, e337, hx337_0⟩ := Kd.at_int (Kd.R_reads' HO_3.out).2.2 (ji20) p337 q337
                                          obtain rfl : ad326 = ad337 := (by injection e337)
                                          replace p337 := eq_true p337
                                          replace q337 := eq_true q337
                                          have p338 : 0 ≤ (x5_1 : Int) := of_decide_eq_true (by first | (with_reducible assumption) | assumption)
                                          have q338 : x5_1 < (t320.length : Int) := of_decide_eq_true (by first | (with_reducible assumption) | assumption)
                                          obtain ⟨ad338, e338, hx338_0⟩ := Kd.at_int (Kd.R_reads' HO_3.out).2.2 x5_1 p338 q338
                                          obtain rfl : ad326 = ad338 := (by injection e338)
                                          replace p338 := eq_true p338
                                          replace q338 := eq_true q338
                                          obtain ⟨Ao33, co33, eo33⟩ := Kd.R_slice HO_4.out
                                          subst eo33
                                          have p339 : 0 ≤ ((rd t320 x5_1) : Int) := of_decide_eq_true (by first | (with_reducible assumption) | assumption)
                                          have q339 : (rd t320 x5_1) < (x4_1.length : Int) := of_decide_eq_true (by first | (with_reducible assumption) | assumption)
                                          obtain ⟨ad339, e339, hx339_0⟩ := Kd.at_int (Kd.R_reads' HO_4.out).2.2 (rd t320 x5_1) p339 q339
                                          cases e339
                                          replace p339 := eq_true p339
                                          replace q339 := eq_true q339
                                          have p31 : 0 ≤ ((rd t320 x5_1) : Int) := of_decide_eq_true (by first | (with_reducible assumption) | assumption)
                                          have q31 : ((rd t320 x5_1) : Int) < ((x4_1.length : Int) : Int) := of_decide_eq_true (by first | (with_reducible assumption) | assumption)
                                          obtain ⟨go31, co31, eo31, gb31, gl31, cl31, HG31⟩ := Kd.R_form HO_4.out (by omega)
                                          (first | cases eo31 | (injection eo31 with ea_ en_ ec_; (first | subst ea_ | (injection ea_ with ea_; subst ea_)); subst ec_; clear en_))
                                          have GB31 := Aside0.mk gb31
                                          have GG31 := Aside0.mk HG31
                                          clear gb31 gl31 HG31
                                          (first | simp only [add_plain] at hx339_0 | skip)
                                          obtain ⟨hx31_0, hf31_0⟩ := Kd.R_celln 0 HO_4.out ((rd t320 x5_1) : Int) p31 q31
                                          replace p31 := eq_true p31
                                          replace q31 := eq_true q31
                                          have HP34 := Kd.R_putg HO_4.out ((rd t320 x5_1) : Int) (wrap64 ((rd x4_1 (rd t320 x5_1)) + 1))
                                          go_wp2_with (first | ((with_reducible refine gate_store (t := 3) (p := 96) rfl ?_); (try (rw [drewN_self wr]; generalize hq_ : World.drewN wr _ = wr; have n0_ := Aside0.mk (Kd.R_at hq_ HO_3.out); have n1_ := Aside0.mk (Kd.R_at hq_ HO_4.out); have n2_ := Aside0.mk (below_at hq_ HB.out); clear hq_ HO_3 HO_4 HB; have HO_3 := n0_; have HO_4 := n1_; have HB := n2_; clear n0_ n1_ n2_; (try (have HP34 := Kd.R_putg HO_4.out ((rd t320 x5_1) : Int) (wrap64 ((rd x4_1 (rd t320 x5_1)) + 1)))))); (try (obtain ⟨hx31_0, hf31_0⟩ := Kd.R_celln 0 HO_4.out ((rd t320 x5_1) : Int) (of_eq_true p31) (of_eq_true q31))); refine store_event (t := 3) (p := 96) (v := ?vo_w35) (w1 := (wr.setCell ⟨go31, ((rd t320 x5_1) : Int).toNat, none⟩ (.int .i64 (wrap64 ((rd x4_1 (rd t320 x5_1)) + 1))))) ?hg ?ho ?hn ?hr ?_; (case ho => rfl); (case hg => rfl); (case hn => rfl); (case hr => first | (go_simp; done) | (go_simp; rfl)); intro w35 hw; have hg : wr.grownBy w35 (some go31) := (by rw [hw]; exact HP34.2); have hp_ : Kd.R (Kd.int .i64) 3 w35 w.heap.size (fun k_ => some k_ ≠ (.slice (some ad326) t320.length co32 : Value).ownBlock) (.slice (some ⟨go31, 0, none⟩) x4_1.length co33) y340 := (by rw [hw, Ny340.out]; exact HP34.1); clear HP34; have n0_ := Aside0.mk (Kd.R_after (v := (.slice (some ⟨go31, 0, none⟩) x4_1.length co33)) (v1 := (.slice (some ⟨go31, 0, none⟩) x4_1.length co33)) (ok := (fun _ => True)) (by (with_reducible repeat (first | apply Kd.R_alloc | apply Kd.R_drewN | apply Kd.R_drew)); exact Kd.R_mono HO_3.out (fun _ hk => ⟨trivial, hk⟩)) hg (.inl rfl)); have n1_ := Aside0.mk (hp_); have n2_ := Aside0.mk ((by rw [hw]; exact below_set (HB.out) GB31.out : Below w.heap.size w w35)); clear HO_3; clear HO_4; clear HB; have HO_3 := n0_; have HO_4 := n1_; have HB := n2_; clear n0_ n1_ n2_; clear hg hw hp_))
                                          repeat (go_quiet (first | ((with_reducible refine gate_store (t := 3) (p := 96) rfl ?_); (try (rw [drewN_self wr]; generalize hq_ : World.drewN wr _ = wr; have n0_ := Aside0.mk (Kd.R_at hq_ HO_3.out); have n1_ := Aside0.mk (Kd.R_at hq_ HO_4.out); have n2_ := Aside0.mk (below_at hq_ HB.out); clear hq_ HO_3 HO_4 HB; have HO_3 := n0_; have HO_4 := n1_; have HB := n2_; clear n0_ n1_ n2_; (try (have HP34 := Kd.R_putg HO_4.out ((rd t320 x5_1) : Int) (wrap64 ((rd x4_1 (rd t320 x5_1)) + 1)))))); (try (obtain ⟨hx31_0, hf31_0⟩ := Kd.R_celln 0 HO_4.out ((rd t320 x5_1) : Int) (of_eq_true p31) (of_eq_true q31))); refine store_event (t := 3) (p := 96) (v := ?vo_w35) (w1 := (wr.setCell ⟨go31, ((rd t320 x5_1) : Int).toNat, none⟩ (.int .i64 (wrap64 ((rd x4_1 (rd t320 x5_1)) + 1))))) ?hg ?ho ?hn ?hr ?_; (case ho => rfl); (case hg => rfl); (case hn => rfl); (case hr => first | (go_simp; done) | (go_simp; rfl)); intro w35 hw; have hg : wr.grownBy w35 (some go31) := (by rw [hw]; exact HP34.2); have hp_ : Kd.R (Kd.int .i64) 3 w35 w.heap.size (fun k_ => some k_ ≠ (.slice (some ad326) t320.length co32 : Value).ownBlock) (.slice (some ⟨go31, 0, none⟩) x4_1.length co33) y340 := (by rw [hw, Ny340.out]; exact HP34.1); clear HP34; have n0_ := Aside0.mk (Kd.R_after (v := (.slice (some ⟨go31, 0, none⟩) x4_1.length co33)) (v1 := (.slice (some ⟨go31, 0, none⟩) x4_1.length co33)) (ok := (fun _ => True)) (by (with_reducible repeat (first | apply Kd.R_alloc | apply Kd.R_drewN | apply Kd.R_drew)); exact Kd.R_mono HO_3.out (fun _ hk => ⟨trivial, hk⟩)) hg (.inl rfl)); have n1_ := Aside0.mk (hp_); have n2_ := Aside0.mk ((by rw [hw]; exact below_set (HB.out) GB31.out : Below w.heap.size w w35)); clear HO_3; clear HO_4; clear HB; have HO_3 := n0_; have HO_4 := n1_; have HB := n2_; clear n0_ n1_ n2_; clear hg hw hp_)); try go_wp2_with (first | ((with_reducible refine gate_store (t := 3) (p := 96) rfl ?_); (try (rw [drewN_self wr]; generalize hq_ : World.drewN wr _ = wr; have n0_ := Aside0.mk (Kd.R_at hq_ HO_3.out); have n1_ := Aside0.mk (Kd.R_at hq_ HO_4.out); have n2_ := Aside0.mk (below_at hq_ HB.out); clear hq_ HO_3 HO_4 HB; have HO_3 := n0_; have HO_4 := n1_; have HB := n2_; clear n0_ n1_ n2_; (try (have HP34 := Kd.R_putg HO_4.out ((rd t320 x5_1) : Int) (wrap64 ((rd x4_1 (rd t320 x5_1)) + 1)))))); (try (obtain ⟨hx31_0, hf31_0⟩ := Kd.R_celln 0 HO_4.out ((rd t320 x5_1) : Int) (of_eq_true p31) (of_eq_true q31))); refine store_event (t := 3) (p := 96) (v := ?vo_w35) (w1 := (wr.setCell ⟨go31, ((rd t320 x5_1) : Int).toNat, none⟩ (.int .i64 (wrap64 ((rd x4_1 (rd t320 x5_1)) + 1))))) ?hg ?ho ?hn ?hr ?_; (case ho => rfl); (case hg => rfl); (case hn => rfl); (case hr => first | (go_simp; done) | (go_simp; rfl)); intro w35 hw; have hg : wr.grownBy w35 (some go31) := (by rw [hw]; exact HP34.2); have hp_ : Kd.R (Kd.int .i64) 3 w35 w.heap.size (fun k_ => some k_ ≠ (.slice (some ad326) t320.length co32 : Value).ownBlock) (.slice (some ⟨go31, 0, none⟩) x4_1.length co33) y340 := (by rw [hw, Ny340.out]; exact HP34.1); clear HP34; have n0_ := Aside0.mk (Kd.R_after (v := (.slice (some ⟨go31, 0, none⟩) x4_1.length co33)) (v1 := (.slice (some ⟨go31, 0, none⟩) x4_1.length co33)) (ok := (fun _ => True)) (by (with_reducible repeat (first | apply Kd.R_alloc | apply Kd.R_drewN | apply Kd.R_drew)); exact Kd.R_mono HO_3.out (fun _ hk => ⟨trivial, hk⟩)) hg (.inl rfl)); have n1_ := Aside0.mk (hp_); have n2_ := Aside0.mk ((by rw [hw]; exact below_set (HB.out) GB31.out : Below w.heap.size w w35)); clear HO_3; clear HO_4; clear HB; have HO_3 := n0_; have HO_4 := n1_; have HB := n2_; clear n0_ n1_ n2_; clear hg hw hp_)))
                                          go_roundg k1
                                          case measure => have := HK1.out; omega
                                          case rel => exact ⟨(y340), (wrap64 (x5_1 + 1)), (by first | rfl | (simp; done) | (simp [*]; done)), H', ⟨by have := HK1.out; omega⟩, ⟨by (with_reducible repeat (first | apply Kd.R_alloc | apply Kd.R_drewN | apply Kd.R_drew)); exact Kd.R_mono HO_3.out (fun _ hk => hk.2)⟩, ⟨by (with_reducible repeat (first | apply Kd.R_alloc | apply Kd.R_drewN | apply Kd.R_drew)); exact HO_4.out⟩, ⟨by repeat (first | (with_reducible first | exact HB.out | apply below_alloc | apply pw_below_drewN | apply below_drew1) | exact HB.out)⟩⟩
                                        · rw [if_neg c30] at H
                                          exact absurd H (by simp)
                                    · rw [if_neg c27] at H
                                      have c27b0 : ((rd l0 (rd t320 x5_1)) == (rd l0 (rd t320 (ji20)))) = false := beq_eq_false_iff_ne.mpr c27
                                      have c27b1 : ((rd l0 (rd t320 x5_1)) != (rd l0 (rd t320 (ji20)))) = true := bne_iff_ne.mpr c27
                                      by_cases c36 : (rd t320 x5_1) < (x4_1.length : Int)
                                      · rw [if_pos c36] at H
                                        have c36b0 : decide ((rd t320 x5_1) < (x4_1.length : Int)) = true := decide_eq_true c36
                                        clear c36
                                        obtain ⟨y343, hy343⟩ : ∃ y_ : List Int, y_ = (x4_1.set ((rd t320 x5_1) : Int).toNat (wrap64 ((rd x4_1 (rd t320 x5_1)) + 1))) := ⟨_, rfl⟩
                                        replace H : (wringerlaw7_HistOrder.l0 k1 l0 t320 y343 (wrap64 (x5_1 + 1))) = some r := by first | (rw [hy343]; with_reducible exact H) | (have H2_ := (Option.bind_some _ _).symm.trans H; rw [hy343]; with_reducible exact H2_) | (have H2_ := (Option.bind_some _ _).symm.trans H; with_reducible exact H2_) | with_reducible exact H | (rw [hy343]; exact H) | exact H
                                        have Ny343 := Aside0.mk hy343
                                        clear hy343
                                        have H' := Aside0.mk H
                                        clear H
                                        obtain ⟨Ao38, co38, eo38⟩ := Kd.R_slice HO_3.out
                                        subst eo38
                                        have p326 : 0 ≤ (x5_1 : Int) := of_decide_eq_true (by first | (with_reducible assumption) | assumption)
                                        have q326 : x5_1 < (t320.length : Int) := of_decide_eq_true (by first | (with_reducible assumption) | assumption)
                                        obtain ⟨ad326, e326, hx326_0⟩ := Kd.at_int (Kd.R_reads' HO_3.out).2.2 x5_1 p326 q326
                                        cases e326
                                        replace p326 := eq_true p326
                                        replace q326 := eq_true q326
                                        have p327 : 0 ≤ (x5_1 : Int) := of_decide_eq_true (by first | (with_reducible assumption) | assumption)
                                        have q327 : x5_1 < (t320.length : Int) := of_decide_eq_true (by first | (with_reducible assumption) | assumption)
                                        obtain ⟨ad327, e327, hx327_0⟩ := Kd.at_int (Kd.R_reads' HO_3.out).2.2 x5_1 p327 q327
                                        obtain rfl : ad326 = ad327 := (by injection e327)
                                        replace p327 := eq_true p327
                                        replace q327 := eq_true q327
                                        have p328 : 0 ≤ (x5_1 : Int) := of_decide_eq_true (by first | (with_reducible assumption) | assumption)
                                        have q328 : x5_1 < (t320.length : Int) := of_decide_eq_true (by first | (with_reducible assumption) | assumption)
                                        obtain ⟨ad328, e328, hx328_0⟩ := Kd.at_int (Kd.R_reads' HO_3.out).2.2 x5_1 p328 q328
                                        obtain rfl : ad326 = ad328 := (by injection e328)
                                        replace p328 := eq_true p328
                                        replace q328 := eq_true q328
                                        have p329 : 0 ≤ ((rd t320 x5_1) : Int) := of_decide_eq_true (by first | (with_reducible assumption) | assumption)
                                        have q329 : (rd t320 x5_1) < (l0.length : Int) := of_decide_eq_true (by first | (with_reducible assumption) | assumption)
                                        obtain ⟨ad329, e329, hx329_0⟩ := Kd.at_int HR0.out (rd t320 x5_1) p329 q329
                                        cases e329
                                        replace hx329_0 := (HB.out.cell (World.block_lt_of_cell? w _ hx329_0)).trans hx329_0
                                        replace p329 := eq_true p329
                                        replace q329 := eq_true q329
                                        have p330 : 0 ≤ ((ji20) : Int) := of_decide_eq_true (by first | (with_reducible assumption) | assumption)
                                        have q330 : (ji20) < (t320.length : Int) := of_decide_eq_true (by first | (with_reducible assumption) | assumption)
                                        obtain ⟨ad330, e330, hx330_0⟩ := Kd.at_int (Kd.R_reads' HO_3.out).2.2 (ji20) p330 q330
                                        obtain rfl : ad326 = ad330 := (by injection e330)
                                        replace p330 := eq_true p330
                                        replace q330 := eq_true q330
                                        have p331 : 0 ≤ ((rd t320 (ji20)) : Int) := of_decide_eq_true (by first | (with_reducible assumption) | assumption)
                                        have q331 : (rd t320 (ji20)) < (l0.length : Int) := of_decide_eq_true (by first | (with_reducible assumption) | assumption)
                                        obtain ⟨ad331, e331, hx331_0⟩ := Kd.at_int HR0.out (rd t320 (ji20)) p331 q331
                                        obtain rfl : ad329 = ad331 := (by injection e331)
                                        replace hx331_0 := (HB.out.cell (World.block_lt_of_cell? w _ hx331_0)).trans hx331_0
                                        replace p331 := eq_true p331
                                        replace q331 := eq_true q331
                                        have p332 : 0 ≤ (x5_1 : Int) := of_decide_eq_true (by first | (with_reducible assumption) | assumption)
                                        have q332 : x5_1 < (t320.length : Int) := of_decide_eq_true (by first | (with_reducible assumption) | assumption)
                                        obtain ⟨ad332, e332, hx332_0⟩ := Kd.at_int (Kd.R_reads' HO_3.out).2.2 x5_1 p332 q332
                                        obtain rfl : ad326 = ad332 := (by injection e332)
                                        replace p332 := eq_true p332
                                        replace q332 := eq_true q332
                                        have p333 : 0 ≤ ((rd t320 x5_1) : Int) := of_decide_eq_true (by first | (with_reducible assumption) | assumption)
                                        have q333 : (rd t320 x5_1) < (l0.length : Int) := of_decide_eq_true (by first | (with_reducible assumption) | assumption)
                                        obtain ⟨ad333, e333, hx333_0⟩ := Kd.at_int HR0.out (rd t320 x5_1) p333 q333
                                        obtain rfl : ad329 = ad333 := (by injection e333)
                                        replace hx333_0 := (HB.out.cell (World.block_lt_of_cell? w _ hx333_0)).trans hx333_0
                                        replace p333 := eq_true p333
                                        replace q333 := eq_true q333
                                        have p334 : 0 ≤ ((ji20) : Int) := of_decide_eq_true (by first | (with_reducible assumption) | assumption)
                                        have q334 : (ji20) < (t320.length : Int) := of_decide_eq_true (by first | (with_reducible assumption) | assumption)
                                        obtain ⟨ad334, e334, hx334_0⟩ := Kd.at_int (Kd.R_reads' HO_3.out).2.2 (ji20) p334 q334
                                        obtain rfl : ad326 = ad334 := (by injection e334)
                                        replace p334 := eq_true p334
                                        replace q334 := eq_true q334
                                        have p335 : 0 ≤ ((rd t320 (ji20)) : Int) := of_decide_eq_true (by first | (with_reducible assumption) | assumption)
                                        have q335 : (rd t320 (ji20)) < (l0.length : Int) := of_decide_eq_true (by first | (with_reducible assumption) | assumption)
                                        obtain ⟨ad335, e335, hx335_0⟩ := Kd.at_int HR0.out (rd t320 (ji20)) p335 q335
                                        obtain rfl : ad329 = ad335 := (by injection e335)
                                        replace hx335_0 := (HB.out.cell (World.block_lt_of_cell? w _ hx335_0)).trans hx335_0
                                        replace p335 := eq_true p335
                                        replace q335 := eq_true q335
                                        have p341 : 0 ≤ (x5_1 : Int) := of_decide_eq_true (by first | (with_reducible assumption) | assumption)
                                        have q341 : x5_1 < (t320.length : Int) := of_decide_eq_true (by first | (with_reducible assumption) | assumption)
                                        obtain ⟨ad341, e341, hx341_0⟩ := Kd.at_int (Kd.R_reads' HO_3.out).2.2 x5_1 p341 q341
                                        obtain rfl : ad326 = ad341 := (by injection e341)
                                        replace p341 := eq_true p341
                                        replace q341 := eq_true q341
                                        obtain ⟨Ao39, co39, eo39⟩ := Kd.R_slice HO_4.out
                                        subst eo39
                                        have p342 : 0 ≤ ((rd t320 x5_1) : Int) := of_decide_eq_true (by first | (with_reducible assumption) | assumption)
                                        have q342 : (rd t320 x5_1) < (x4_1.length : Int) := of_decide_eq_true (by first | (with_reducible assumption) | assumption)
                                        obtain ⟨ad342, e342, hx342_0⟩ := Kd.at_int (Kd.R_reads' HO_4.out).2.2 (rd t320 x5_1) p342 q342
                                        cases e342
                                        replace p342 := eq_true p342
                                        replace q342 := eq_true q342
                                        have p37 : 0 ≤ ((rd t320 x5_1) : Int) := of_decide_eq_true (by first | (with_reducible assumption) | assumption)
                                        have q37 : ((rd t320 x5_1) : Int) < ((x4_1.length : Int) : Int) := of_decide_eq_true (by first | (with_reducible assumption) | assumption)
                                        obtain ⟨go37, co37, eo37, gb37, gl37, cl37, HG37⟩ := Kd.R_form HO_4.out (by omega)
                                        (first | cases eo37 | (injection eo37 with ea_ en_ ec_; (first | subst ea_ | (injection ea_ with ea_; subst ea_)); subst ec_; clear en_))
                                        have GB37 := Aside0.mk gb37
                                        have GG37 := Aside0.mk HG37
                                        clear gb37 gl37 HG37
                                        (first | simp only [add_plain] at hx342_0 | skip)
                                        obtain ⟨hx37_0, hf37_0⟩ := Kd.R_celln 0 HO_4.out ((rd t320 x5_1) : Int) p37 q37
                                        replace p37 := eq_true p37
                                        replace q37 := eq_true q37
                                        have HP40 := Kd.R_putg HO_4.out ((rd t320 x5_1) : Int) (wrap64 ((rd x4_1 (rd t320 x5_1)) + 1))
                                        go_wp2_with (first | ((with_reducible refine gate_store (t := 3) (p := 96) rfl ?_); (try (rw [drewN_self wr]; generalize hq_ : World.drewN wr _ = wr; have n0_ := Aside0.mk (Kd.R_at hq_ HO_3.out); have n1_ := Aside0.mk (Kd.R_at hq_ HO_4.out); have n2_ := Aside0.mk (below_at hq_ HB.out); clear hq_ HO_3 HO_4 HB; have HO_3 := n0_; have HO_4 := n1_; have HB := n2_; clear n0_ n1_ n2_; (try (have HP40 := Kd.R_putg HO_4.out ((rd t320 x5_1) : Int) (wrap64 ((rd x4_1 (rd t320 x5_1)) + 1)))))); (try (obtain ⟨hx37_0, hf37_0⟩ := Kd.R_celln 0 HO_4.out ((rd t320 x5_1) : Int) (of_eq_true p37) (of_eq_true q37))); refine store_event (t := 3) (p := 96) (v := ?vo_w41) (w1 := (wr.setCell ⟨go37, ((rd t320 x5_1) : Int).toNat, none⟩ (.int .i64 (wrap64 ((rd x4_1 (rd t320 x5_1)) + 1))))) ?hg ?ho ?hn ?hr ?_; (case ho => rfl); (case hg => rfl); (case hn => rfl); (case hr => first | (go_simp; done) | (go_simp; rfl)); intro w41 hw; have hg : wr.grownBy w41 (some go37) := (by rw [hw]; exact HP40.2); have hp_ : Kd.R (Kd.int .i64) 3 w41 w.heap.size (fun k_ => some k_ ≠ (.slice (some ad326) t320.length co38 : Value).ownBlock) (.slice (some ⟨go37, 0, none⟩) x4_1.length co39) y343 := (by rw [hw, Ny343.out]; exact HP40.1); clear HP40; have n0_ := Aside0.mk (Kd.R_after (v := (.slice (some ⟨go37, 0, none⟩) x4_1.length co39)) (v1 := (.slice (some ⟨go37, 0, none⟩) x4_1.length co39)) (ok := (fun _ => True)) (by (with_reducible repeat (first | apply Kd.R_alloc | apply Kd.R_drewN | apply Kd.R_drew)); exact Kd.R_mono HO_3.out (fun _ hk => ⟨trivial, hk⟩)) hg (.inl rfl)); have n1_ := Aside0.mk (hp_); have n2_ := Aside0.mk ((by rw [hw]; exact below_set (HB.out) GB37.out : Below w.heap.size w w41)); clear HO_3; clear HO_4; clear HB; have HO_3 := n0_; have HO_4 := n1_; have HB := n2_; clear n0_ n1_ n2_; clear hg hw hp_))
                                        repeat (go_quiet (first | ((with_reducible refine gate_store (t := 3) (p := 96) rfl ?_); (try (rw [drewN_self wr]; generalize hq_ : World.drewN wr _ = wr; have n0_ := Aside0.mk (Kd.R_at hq_ HO_3.out); have n1_ := Aside0.mk (Kd.R_at hq_ HO_4.out); have n2_ := Aside0.mk (below_at hq_ HB.out); clear hq_ HO_3 HO_4 HB; have HO_3 := n0_; have HO_4 := n1_; have HB := n2_; clear n0_ n1_ n2_; (try (have HP40 := Kd.R_putg HO_4.out ((rd t320 x5_1) : Int) (wrap64 ((rd x4_1 (rd t320 x5_1)) + 1)))))); (try (obtain ⟨hx37_0, hf37_0⟩ := Kd.R_celln 0 HO_4.out ((rd t320 x5_1) : Int) (of_eq_true p37) (of_eq_true q37))); refine store_event (t := 3) (p := 96) (v := ?vo_w41) (w1 := (wr.setCell ⟨go37, ((rd t320 x5_1) : Int).toNat, none⟩ (.int .i64 (wrap64 ((rd x4_1 (rd t320 x5_1)) + 1))))) ?hg ?ho ?hn ?hr ?_; (case ho => rfl); (case hg => rfl); (case hn => rfl); (case hr => first | (go_simp; done) | (go_simp; rfl)); intro w41 hw; have hg : wr.grownBy w41 (some go37) := (by rw [hw]; exact HP40.2); have hp_ : Kd.R (Kd.int .i64) 3 w41 w.heap.size (fun k_ => some k_ ≠ (.slice (some ad326) t320.length co38 : Value).ownBlock) (.slice (some ⟨go37, 0, none⟩) x4_1.length co39) y343 := (by rw [hw, Ny343.out]; exact HP40.1); clear HP40; have n0_ := Aside0.mk (Kd.R_after (v := (.slice (some ⟨go37, 0, none⟩) x4_1.length co39)) (v1 := (.slice (some ⟨go37, 0, none⟩) x4_1.length co39)) (ok := (fun _ => True)) (by (with_reducible repeat (first | apply Kd.R_alloc | apply Kd.R_drewN | apply Kd.R_drew)); exact Kd.R_mono HO_3.out (fun _ hk => ⟨trivial, hk⟩)) hg (.inl rfl)); have n1_ := Aside0.mk (hp_); have n2_ := Aside0.mk ((by rw [hw]; exact below_set (HB.out) GB37.out : Below w.heap.size w w41)); clear HO_3; clear HO_4; clear HB; have HO_3 := n0_; have HO_4 := n1_; have HB := n2_; clear n0_ n1_ n2_; clear hg hw hp_)); try go_wp2_with (first | ((with_reducible refine gate_store (t := 3) (p := 96) rfl ?_); (try (rw [drewN_self wr]; generalize hq_ : World.drewN wr _ = wr; have n0_ := Aside0.mk (Kd.R_at hq_ HO_3.out); have n1_ := Aside0.mk (Kd.R_at hq_ HO_4.out); have n2_ := Aside0.mk (below_at hq_ HB.out); clear hq_ HO_3 HO_4 HB; have HO_3 := n0_; have HO_4 := n1_; have HB := n2_; clear n0_ n1_ n2_; (try (have HP40 := Kd.R_putg HO_4.out ((rd t320 x5_1) : Int) (wrap64 ((rd x4_1 (rd t320 x5_1)) + 1)))))); (try (obtain ⟨hx37_0, hf37_0⟩ := Kd.R_celln 0 HO_4.out ((rd t320 x5_1) : Int) (of_eq_true p37) (of_eq_true q37))); refine store_event (t := 3) (p := 96) (v := ?vo_w41) (w1 := (wr.setCell ⟨go37, ((rd t320 x5_1) : Int).toNat, none⟩ (.int .i64 (wrap64 ((rd x4_1 (rd t320 x5_1)) + 1))))) ?hg ?ho ?hn ?hr ?_; (case ho => rfl); (case hg => rfl); (case hn => rfl); (case hr => first | (go_simp; done) | (go_simp; rfl)); intro w41 hw; have hg : wr.grownBy w41 (some go37) := (by rw [hw]; exact HP40.2); have hp_ : Kd.R (Kd.int .i64) 3 w41 w.heap.size (fun k_ => some k_ ≠ (.slice (some ad326) t320.length co38 : Value).ownBlock) (.slice (some ⟨go37, 0, none⟩) x4_1.length co39) y343 := (by rw [hw, Ny343.out]; exact HP40.1); clear HP40; have n0_ := Aside0.mk (Kd.R_after (v := (.slice (some ⟨go37, 0, none⟩) x4_1.length co39)) (v1 := (.slice (some ⟨go37, 0, none⟩) x4_1.length co39)) (ok := (fun _ => True)) (by (with_reducible repeat (first | apply Kd.R_alloc | apply Kd.R_drewN | apply Kd.R_drew)); exact Kd.R_mono HO_3.out (fun _ hk => ⟨trivial, hk⟩)) hg (.inl rfl)); have n1_ := Aside0.mk (hp_); have n2_ := Aside0.mk ((by rw [hw]; exact below_set (HB.out) GB37.out : Below w.heap.size w w41)); clear HO_3; clear HO_4; clear HB; have HO_3 := n0_; have HO_4 := n1_; have HB := n2_; clear n0_ n1_ n2_; clear hg hw hp_)))
                                        go_roundg k1
                                        case measure => have := HK1.out; omega
                                        case rel => exact ⟨(y343), (wrap64 (x5_1 + 1)), (by first | rfl | (simp; done) | (simp [*]; done)), H', ⟨by have := HK1.out; omega⟩, ⟨by (with_reducible repeat (first | apply Kd.R_alloc | apply Kd.R_drewN | apply Kd.R_drew)); exact Kd.R_mono HO_3.out (fun _ hk => hk.2)⟩, ⟨by (with_reducible repeat (first | apply Kd.R_alloc | apply Kd.R_drewN | apply Kd.R_drew)); exact HO_4.out⟩, ⟨by repeat (first | (with_reducible first | exact HB.out | apply below_alloc | apply pw_below_drewN | apply below_drew1) | exact HB.out)⟩⟩
                                      · rw [if_neg c36] at H
                                        exact absurd H (by simp)
                                · rw [if_neg c24] at H
                                  exact absurd H (by simp)
                              · rw [if_neg c23] at H
                                exact absurd H (by simp)
                            · rw [if_neg c22] at H
                              exact absurd H (by simp)
                          · rw [if_neg c21] at H
                            exact absurd H (by simp)
                        · rw [if_neg c19] at H
                          exact absurd H (by simp)
                      · rw [if_neg c18] at H
                        exact absurd H (by simp)
                    · rw [if_neg c17] at H
                      have c17b0 : decide (0 < x5_1) = false := decide_eq_false c17
                      clear c17
                      by_cases c42 : 0 ≤ (rd t320 x5_1)
                      · rw [if_pos c42] at H
                        have c42b0 : decide (0 ≤ (rd t320 x5_1)) = true := decide_eq_true c42
                        clear c42
                        by_cases c43 : (rd t320 x5_1) < (x4_1.length : Int)
                        · rw [if_pos c43] at H
                          have c43b0 : decide ((rd t320 x5_1) < (x4_1.length : Int)) = true := decide_eq_true c43
                          clear c43
                          obtain ⟨y346, hy346⟩ : ∃ y_ : List Int, y_ = (x4_1.set ((rd t320 x5_1) : Int).toNat (wrap64 ((rd x4_1 (rd t320 x5_1)) + 1))) := ⟨_, rfl⟩
                          replace H : (wringerlaw7_HistOrder.l0 k1 l0 t320 y346 (wrap64 (x5_1 + 1))) = some r := by first | (rw [hy346]; with_reducible exact H) | (have H2_ := (Option.bind_some _ _).symm.trans H; rw [hy346]; with_reducible exact H2_) | (have H2_ := (Option.bind_some _ _).symm.trans H; with_reducible exact H2_) | with_reducible exact H | (rw [hy346]; exact H) | exact H
                          have Ny346 := Aside0.mk hy346
                          clear hy346
                          have H' := Aside0.mk H
                          clear H
                          obtain ⟨Ao45, co45, eo45⟩ := Kd.R_slice HO_3.out
                          subst eo45
                          have p326 : 0 ≤ (x5_1 : Int) := of_decide_eq_true (by first | (with_reducible assumption) | assumption)
                          have q326 : x5_1 < (t320.length : Int) := of_decide_eq_true (by first | (with_reducible assumption) | assumption)
                          obtain ⟨ad326, e326, hx326_0⟩ := Kd.at_int (Kd.R_reads' HO_3.out).2.2 x5_1 p326 q326
                          cases e326
                          replace p326 := eq_true p326
                          replace q326 := eq_true q326
                          have p327 : 0 ≤ (x5_1 : Int) := of_decide_eq_true (by first | (with_reducible assumption) | assumption)
                          have q327 : x5_1 < (t320.length : Int) := of_decide_eq_true (by first | (with_reducible assumption) | assumption)
                          obtain ⟨ad327, e327, hx327_0⟩ := Kd.at_int (Kd.R_reads' HO_3.out).2.2 x5_1 p327 q327
                          obtain rfl : ad326 = ad327 := (by injection e327)
                          replace p327 := eq_true p327
                          replace q327 := eq_true q327
                          have p344 : 0 ≤ (x5_1 : Int) := of_decide_eq_true (by first | (with_reducible assumption) | assumption)
                          have q344 : x5_1 < (t320.length : Int) := of_decide_eq_true (by first | (with_reducible assumption) | assumption)
                          obtain ⟨ad344, e344, hx344_0⟩ := Kd.at_int (Kd.R_reads' HO_3.out).2.2 x5_1 p344 q344
                          obtain rfl : ad326 = ad344 := (by injection e344)
                          replace p344 := eq_true p344
                          replace q344 := eq_true q344
                          obtain ⟨Ao46, co46, eo46⟩ := Kd.R_slice HO_4.out
                          subst eo46
                          have p345 : 0 ≤ ((rd t320 x5_1) : Int) := of_decide_eq_true (by first | (with_reducible assumption) | assumption)
                          have q345 : (rd t320 x5_1) < (x4_1.length : Int) := of_decide_eq_true (by first | (with_reducible assumption) | assumption)
                          obtain ⟨ad345, e345, hx345_0⟩ := Kd.at_int (Kd.R_reads' HO_4.out).2.2 (rd t320 x5_1) p345 q345
                          cases e345
                          replace p345 := eq_true p345
                          replace q345 := eq_true q345
                          have p44 : 0 ≤ ((rd t320 x5_1) : Int) := of_decide_eq_true (by first | (with_reducible assumption) | assumption)
                          have q44 : ((rd t320 x5_1) : Int) < ((x4_1.length : Int) : Int) := of_decide_eq_true (by first | (with_reducible assumption) | assumption)
                          obtain ⟨go44, co44, eo44, gb44, gl44, cl44, HG44⟩ := Kd.R_form HO_4.out (by omega)
                          (first | cases eo44 | (injection eo44 with ea_ en_ ec_; (first | subst ea_ | (injection ea_ with ea_; subst ea_)); subst ec_; clear en_))
                          have GB44 := Aside0.mk gb44
                          have GG44 := Aside0.mk HG44
                          clear gb44 gl44 HG44
                          (first | simp only [add_plain] at hx345_0 | skip)
                          obtain ⟨hx44_0, hf44_0⟩ := Kd.R_celln 0 HO_4.out ((rd t320 x5_1) : Int) p44 q44
                          replace p44 := eq_true p44
                          replace q44 := eq_true q44
                          have HP47 := Kd.R_putg HO_4.out ((rd t320 x5_1) : Int) (wrap64 ((rd x4_1 (rd t320 x5_1)) + 1))
                          go_wp2_with (first | ((with_reducible refine gate_store (t := 3) (p := 96) rfl ?_); (try (rw [drewN_self wr]; generalize hq_ : World.drewN wr _ = wr; have n0_ := Aside0.mk (Kd.R_at hq_ HO_3.out); have n1_ := Aside0.mk (Kd.R_at hq_ HO_4.out); have n2_ := Aside0.mk (below_at hq_ HB.out); clear hq_ HO_3 HO_4 HB; have HO_3 := n0_; have HO_4 := n1_; have HB := n2_; clear n0_ n1_ n2_; (try (have HP47 := Kd.R_putg HO_4.out ((rd t320 x5_1) : Int) (wrap64 ((rd x4_1 (rd t320 x5_1)) + 1)))))); (try (obtain ⟨hx44_0, hf44_0⟩ := Kd.R_celln 0 HO_4.out ((rd t320 x5_1) : Int) (of_eq_true p44) (of_eq_true q44))); refine store_event (t := 3) (p := 96) (v := ?vo_w48) (w1 := (wr.setCell ⟨go44, ((rd t320 x5_1) : Int).toNat, none⟩ (.int .i64 (wrap64 ((rd x4_1 (rd t320 x5_1)) + 1))))) ?hg ?ho ?hn ?hr ?_; (case ho => rfl); (case hg => rfl); (case hn => rfl); (case hr => first | (go_simp; done) | (go_simp; rfl)); intro w48 hw; have hg : wr.grownBy w48 (some go44) := (by rw [hw]; exact HP47.2); have hp_ : Kd.R (Kd.int .i64) 3 w48 w.heap.size (fun k_ => some k_ ≠ (.slice (some ad326) t320.length co45 : Value).ownBlock) (.slice (some ⟨go44, 0, none⟩) x4_1.length co46) y346 := (by rw [hw, Ny346.out]; exact HP47.1); clear HP47; have n0_ := Aside0.mk (Kd.R_after (v := (.slice (some ⟨go44, 0, none⟩) x4_1.length co46)) (v1 := (.slice (some ⟨go44, 0, none⟩) x4_1.length co46)) (ok := (fun _ => True)) (by (with_reducible repeat (first | apply Kd.R_alloc | apply Kd.R_drewN | apply Kd.R_drew)); exact Kd.R_mono HO_3.out (fun _ hk => ⟨trivial, hk⟩)) hg (.inl rfl)); have n1_ := Aside0.mk (hp_); have n2_ := Aside0.mk ((by rw [hw]; exact below_set (HB.out) GB44.out : Below w.heap.size w w48)); clear HO_3; clear HO_4; clear HB; have HO_3 := n0_; have HO_4 := n1_; have HB := n2_; clear n0_ n1_ n2_; clear hg hw hp_))
                          repeat (go_quiet (first | ((with_reducible refine gate_store (t := 3) (p := 96) rfl ?_); (try (rw [drewN_self wr]; generalize hq_ : World.drewN wr _ = wr; have n0_ := Aside0.mk (Kd.R_at hq_ HO_3.out); have n1_ := Aside0.mk (Kd.R_at hq_ HO_4.out); have n2_ := Aside0.mk (below_at hq_ HB.out); clear hq_ HO_3 HO_4 HB; have HO_3 := n0_; have HO_4 := n1_; have HB := n2_; clear n0_ n1_ n2_; (try (have HP47 := Kd.R_putg HO_4.out ((rd t320 x5_1) : Int) (wrap64 ((rd x4_1 (rd t320 x5_1)) + 1)))))); (try (obtain ⟨hx44_0, hf44_0⟩ := Kd.R_celln 0 HO_4.out ((rd t320 x5_1) : Int) (of_eq_true p44) (of_eq_true q44))); refine store_event (t := 3) (p := 96) (v := ?vo_w48) (w1 := (wr.setCell ⟨go44, ((rd t320 x5_1) : Int).toNat, none⟩ (.int .i64 (wrap64 ((rd x4_1 (rd t320 x5_1)) + 1))))) ?hg ?ho ?hn ?hr ?_; (case ho => rfl); (case hg => rfl); (case hn => rfl); (case hr => first | (go_simp; done) | (go_simp; rfl)); intro w48 hw; have hg : wr.grownBy w48 (some go44) := (by rw [hw]; exact HP47.2); have hp_ : Kd.R (Kd.int .i64) 3 w48 w.heap.size (fun k_ => some k_ ≠ (.slice (some ad326) t320.length co45 : Value).ownBlock) (.slice (some ⟨go44, 0, none⟩) x4_1.length co46) y346 := (by rw [hw, Ny346.out]; exact HP47.1); clear HP47; have n0_ := Aside0.mk (Kd.R_after (v := (.slice (some ⟨go44, 0, none⟩) x4_1.length co46)) (v1 := (.slice (some ⟨go44, 0, none⟩) x4_1.length co46)) (ok := (fun _ => True)) (by (with_reducible repeat (first | apply Kd.R_alloc | apply Kd.R_drewN | apply Kd.R_drew)); exact Kd.R_mono HO_3.out (fun _ hk => ⟨trivial, hk⟩)) hg (.inl rfl)); have n1_ := Aside0.mk (hp_); have n2_ := Aside0.mk ((by rw [hw]; exact below_set (HB.out) GB44.out : Below w.heap.size w w48)); clear HO_3; clear HO_4; clear HB; have HO_3 := n0_; have HO_4 := n1_; have HB := n2_; clear n0_ n1_ n2_; clear hg hw hp_)); try go_wp2_with (first | ((with_reducible refine gate_store (t := 3) (p := 96) rfl ?_); (try (rw [drewN_self wr]; generalize hq_ : World.drewN wr _ = wr; have n0_ := Aside0.mk (Kd.R_at hq_ HO_3.out); have n1_ := Aside0.mk (Kd.R_at hq_ HO_4.out); have n2_ := Aside0.mk (below_at hq_ HB.out); clear hq_ HO_3 HO_4 HB; have HO_3 := n0_; have HO_4 := n1_; have HB := n2_; clear n0_ n1_ n2_; (try (have HP47 := Kd.R_putg HO_4.out ((rd t320 x5_1) : Int) (wrap64 ((rd x4_1 (rd t320 x5_1)) + 1)))))); (try (obtain ⟨hx44_0, hf44_0⟩ := Kd.R_celln 0 HO_4.out ((rd t320 x5_1) : Int) (of_eq_true p44) (of_eq_true q44))); refine store_event (t := 3) (p := 96) (v := ?vo_w48) (w1 := (wr.setCell ⟨go44, ((rd t320 x5_1) : Int).toNat, none⟩ (.int .i64 (wrap64 ((rd x4_1 (rd t320 x5_1)) + 1))))) ?hg ?ho ?hn ?hr ?_; (case ho => rfl); (case hg => rfl); (case hn => rfl); (case hr => first | (go_simp; done) | (go_simp; rfl)); intro w48 hw; have hg : wr.grownBy w48 (some go44) := (by rw [hw]; exact HP47.2); have hp_ : Kd.R (Kd.int .i64) 3 w48 w.heap.size (fun k_ => some k_ ≠ (.slice (some ad326) t320.length co45 : Value).ownBlock) (.slice (some ⟨go44, 0, none⟩) x4_1.length co46) y346 := (by rw [hw, Ny346.out]; exact HP47.1); clear HP47; have n0_ := Aside0.mk (Kd.R_after (v := (.slice (some ⟨go44, 0, none⟩) x4_1.length co46)) (v1 := (.slice (some ⟨go44, 0, none⟩) x4_1.length co46)) (ok := (fun _ => True)) (by (with_reducible repeat (first | apply Kd.R_alloc | apply Kd.R_drewN | apply Kd.R_drew)); exact Kd.R_mono HO_3.out (fun _ hk => ⟨trivial, hk⟩)) hg (.inl rfl)); have n1_ := Aside0.mk (hp_); have n2_ := Aside0.mk ((by rw [hw]; exact below_set (HB.out) GB44.out : Below w.heap.size w w48)); clear HO_3; clear HO_4; clear HB; have HO_3 := n0_; have HO_4 := n1_; have HB := n2_; clear n0_ n1_ n2_; clear hg hw hp_)))
                          go_roundg k1
                          case measure => have := HK1.out; omega
                          case rel => exact ⟨(y346), (wrap64 (x5_1 + 1)), (by first | rfl | (simp; done) | (simp [*]; done)), H', ⟨by have := HK1.out; omega⟩, ⟨by (with_reducible repeat (first | apply Kd.R_alloc | apply Kd.R_drewN | apply Kd.R_drew)); exact Kd.R_mono HO_3.out (fun _ hk => hk.2)⟩, ⟨by (with_reducible repeat (first | apply Kd.R_alloc | apply Kd.R_drewN | apply Kd.R_drew)); exact HO_4.out⟩, ⟨by repeat (first | (with_reducible first | exact HB.out | apply below_alloc | apply pw_below_drewN | apply below_drew1) | exact HB.out)⟩⟩
                        · rw [if_neg c43] at H
                          exact absurd H (by simp)
                      · rw [if_neg c42] at H
                        exact absurd H (by simp)
              · rw [if_neg c12] at H
                exact absurd H (by simp)
            · rw [if_neg c11] at H
              have c11b0 : decide (x5_1 < (t320.length : Int)) = false := decide_eq_false c11
              clear c11
              have H' := Aside0.mk H
              clear H
              obtain ⟨Ao49, co49, eo49⟩ := Kd.R_slice HO_3.out
              subst eo49
              go_wp2
              repeat (go_quiet (fail); try go_wp2)
              go_loopg [6] k1 (fun kq v6 w' => ∃ (x6_2 : Int), v6 = .int .i64 x6_2 ∧ Aside0 (wringerlaw7_HistOrder.l1 kq l0 x4_1 x6_2 = some r) ∧ Aside0 (kq ≤ k1) ∧ Aside0 (Kd.R (Kd.int .i64) 3 w' w.heap.size (fun _ => True) v324 x4_1) ∧ Aside0 (Below w.heap.size w w'))
              case atStart => exact ⟨(0), (by first | rfl | (simp; done) | (simp [*]; done)), H', ⟨Nat.le_refl _⟩, ⟨by (with_reducible repeat (first | apply Kd.R_alloc | apply Kd.R_drewN | apply Kd.R_drew)); exact Kd.R_mono HO_4.out (fun _ hk => trivial)⟩, ⟨by repeat (first | (with_reducible first | exact HB.out | apply below_alloc | apply pw_below_drewN | apply below_drew1) | exact HB.out)⟩⟩
              case round =>
                clear H'
                try clear c1
                try clear c2
                try clear c2b0
                try clear c2b1
                try clear p2
                try clear c3
                try clear p3
                try clear q3
                try clear hx3
                try clear hf3
                try clear c4
                try clear p4
                try clear q4
                try clear hx4
                try clear hf4
                try clear c6
                try clear c6b0
                try clear c6b1
                try clear p6
                try clear c7
                try clear c7b0
                try clear c7b1
                try clear c11
                try clear c11b0
                try clear c12
                try clear c12b0
                try clear c13
                try clear c13b0
                try clear c15
                try clear c15b0
                try clear c17
                try clear c17b0
                try clear c18
                try clear c18b0
                try clear c19
                try clear c19b0
                try clear c21
                try clear c21b0
                try clear c22
                try clear c22b0
                try clear c23
                try clear c23b0
                try clear c24
                try clear c24b0
                try clear c25
                try clear c25b0
                try clear c27
                try clear c27b0
                try clear c27b1
                try clear c28
                try clear c28b0
                try clear c30
                try clear c30b0
                try clear p31
                try clear q31
                try clear hx31
                try clear hf31
                try clear p32
                try clear q32
                try clear hx32
                try clear p33
                try clear q33
                try clear hx33
                try clear p34
                try clear q34
                try clear hx34
                try clear c36
                try clear c36b0
                try clear p37
                try clear q37
                try clear hx37
                try clear hf37
                try clear c42
                try clear c42b0
                try clear c43
                try clear c43b0
                try clear p44
                try clear q44
                try clear hx44
                try clear hf44
                try clear hx31_0
                try clear hx326_0
                try clear hx327_0
                try clear hx328_0
                try clear hx329_0
                try clear hx330_0
                try clear hx331_0
                try clear hx332_0
                try clear hx333_0
                try clear hx334_0
                try clear hx335_0
                try clear hx336_0
                try clear hx337_0
                try clear hx338_0
                try clear hx339_0
                try clear hx341_0
                try clear hx342_0
                try clear hx344_0
                try clear hx345_0
                try clear hx37_0
                try clear hx44_0
                try clear p2
                try clear p31
                try clear p326
                try clear p327
                try clear p328
                try clear p329
                try clear p330
                try clear p331
                try clear p332
                try clear p333
                try clear p334
                try clear p335
                try clear p336
                try clear p337
                try clear p338
                try clear p339
                try clear p341
                try clear p342
                try clear p344
                try clear p345
                try clear p37
                try clear p44
                try clear q31
                try clear q326
                try clear q327
                try clear q328
                try clear q329
                try clear q330
                try clear q331
                try clear q332
                try clear q333
                try clear q334
                try clear q335
                try clear q336
                try clear q337
                try clear q338
                try clear q339
                try clear q341
                try clear q342
                try clear q344
                try clear q345
                try clear q37
                try clear q44
                obtain ⟨x6_2, rfl, HA, HK2, HO_4, HB⟩ := hrel
                cases gk with
                | zero => exact absurd HA.out (by simp [wringerlaw7_HistOrder.l1])
                | succ k2 =>
                  have H := HA.out
                  clear HA
                  simp only [wringerlaw7_HistOrder.l1] at H
                  by_cases c50 : x6_2 < (x4_1.length : Int)
                  · rw [if_pos c50] at H
                    have c50b0 : decide (x6_2 < (x4_1.length : Int)) = true := decide_eq_true c50
                    clear c50
                    by_cases c51 : 0 ≤ x6_2
                    · rw [if_pos c51] at H
                      have c51b0 : decide (0 ≤ x6_2) = true := decide_eq_true c51
                      clear c51
                      by_cases c52 : x6_2 < (l0.length : Int)
                      · rw [if_pos c52] at H
                        have c52b0 : decide (x6_2 < (l0.length : Int)) = true := decide_eq_true c52
                        clear c52
                        by_cases c53 : (((rd x4_1 x6_2) == 1) != (decide ((rd l0 x6_2) > 0))) = true
                        · rw [if_pos c53] at H
                          have c53b0 : (((rd x4_1 x6_2) == 1) != (decide ((rd l0 x6_2) > 0))) = true := c53
                          (try (have c53b1 : decide (((rd x4_1 x6_2) == 1) = (decide ((rd l0 x6_2) > 0))) = false := by simpa using c53))
                          (try (have c53b2 : (((rd x4_1 x6_2) == 1) == (decide ((rd l0 x6_2) > 0))) = false := by simpa using c53))
                          (try (have c53b3 : ¬ (((rd x4_1 x6_2) == 1) = (decide ((rd l0 x6_2) > 0))) := by simpa using c53))
                          clear c53
                          obtain rfl := Option.some.inj H
                          obtain ⟨Ao54, co54, eo54⟩ := Kd.R_slice HO_4.out
                          subst eo54
                          have p347 : 0 ≤ (x6_2 : Int) := of_decide_eq_true (by first | (with_reducible assumption) | assumption)
                          have q347 : x6_2 < (x4_1.length : Int) := of_decide_eq_true (by first | (with_reducible assumption) | assumption)
                          obtain ⟨ad347, e347, hx347_0⟩ := Kd.at_int (Kd.R_reads' HO_4.out).2.2 x6_2 p347 q347
                          cases e347
                          replace p347 := eq_true p347
                          replace q347 := eq_true q347
                          have p348 : 0 ≤ (x6_2 : Int) := of_decide_eq_true (by first | (with_reducible assumption) | assumption)
                          have q348 : x6_2 < (l0.length : Int) := of_decide_eq_true (by first | (with_reducible assumption) | assumption)
                          obtain ⟨ad348, e348, hx348_0⟩ := Kd.at_int HR0.out x6_2 p348 q348
                          cases e348
                          replace hx348_0 := (HB.out.cell (World.block_lt_of_cell? w _ hx348_0)).trans hx348_0
                          replace p348 := eq_true p348
                          replace q348 := eq_true q348
                          go_wp2
                          repeat (go_quiet (fail); try go_wp2)
                          go_ret
                          exact ⟨by first | rfl | (simp [errW_none, errW_some] <;> rfl) | (simp [*, errW_none, errW_some] <;> rfl), by repeat (first | (with_reducible first | exact HB.out | apply below_alloc | apply pw_below_drewN | apply below_drew1) | exact HB.out)⟩
                        · rw [if_neg c53] at H
                          have c53b0 : (((rd x4_1 x6_2) == 1) != (decide ((rd l0 x6_2) > 0))) = false := by simpa using c53
                          (try (have c53b1 : decide (((rd x4_1 x6_2) == 1) = (decide ((rd l0 x6_2) > 0))) = true := by simpa using c53))
                          (try (have c53b2 : (((rd x4_1 x6_2) == 1) == (decide ((rd l0 x6_2) > 0))) = true := by simpa using c53))
                          clear c53
                          by_cases c55 : (rd x4_1 x6_2) > 1
                          · rw [if_pos c55] at H
                            have c55b0 : decide (1 < (rd x4_1 x6_2)) = true := decide_eq_true c55
                            clear c55
                            obtain rfl := Option.some.inj H
                            obtain ⟨Ao56, co56, eo56⟩ := Kd.R_slice HO_4.out
                            subst eo56
                            have p347 : 0 ≤ (x6_2 : Int) := of_decide_eq_true (by first | (with_reducible assumption) | assumption)
                            have q347 : x6_2 < (x4_1.length : Int) := of_decide_eq_true (by first | (with_reducible assumption) | assumption)
                            obtain ⟨ad347, e347, hx347_0⟩ := Kd.at_int (Kd.R_reads' HO_4.out).2.2 x6_2 p347 q347
                            cases e347
                            replace p347 := eq_true p347
                            replace q347 := eq_true q347
                            have p348 : 0 ≤ (x6_2 : Int) := of_decide_eq_true (by first | (with_reducible assumption) | assumption)
                            have q348 : x6_2 < (l0.length : Int) := of_decide_eq_true (by first | (with_reducible assumption) | assumption)
                            obtain ⟨ad348, e348, hx348_0⟩ := Kd.at_int HR0.out x6_2 p348 q348
                            cases e348
                            replace hx348_0 := (HB.out.cell (World.block_lt_of_cell? w _ hx348_0)).trans hx348_0
                            replace p348 := eq_true p348
                            replace q348 := eq_true q348
                            have p349 : 0 ≤ (x6_2 : Int) := of_decide_eq_true (by first | (with_reducible assumption) | assumption)
                            have q349 : x6_2 < (x4_1.length : Int) := of_decide_eq_true (by first | (with_reducible assumption) | assumption)
                            obtain ⟨ad349, e349, hx349_0⟩ := Kd.at_int (Kd.R_reads' HO_4.out).2.2 x6_2 p349 q349
                            obtain rfl : ad347 = ad349 := (by injection e349)
                            replace p349 := eq_true p349
                            replace q349 := eq_true q349
                            go_wp2
                            repeat (go_quiet (fail); try go_wp2)
                            go_ret
                            exact ⟨by first | rfl | (simp [errW_none, errW_some] <;> rfl) | (simp [*, errW_none, errW_some] <;> rfl), by repeat (first | (with_reducible first | exact HB.out | apply below_alloc | apply pw_below_drewN | apply below_drew1) | exact HB.out)⟩
                          · rw [if_neg c55] at H
                            have c55b0 : decide (1 < (rd x4_1 x6_2)) = false := decide_eq_false c55
                            clear c55
                            have H' := Aside0.mk H
                            clear H
                            obtain ⟨Ao57, co57, eo57⟩ := Kd.R_slice HO_4.out
                            subst eo57
                            have p347 : 0 ≤ (x6_2 : Int) := of_decide_eq_true (by first | (with_reducible assumption) | assumption)
                            have q347 : x6_2 < (x4_1.length : Int) := of_decide_eq_true (by first | (with_reducible assumption) | assumption)
                            obtain ⟨ad347, e347, hx347_0⟩ := Kd.at_int (Kd.R_reads' HO_4.out).2.2 x6_2 p347 q347
                            cases e347
                            replace p347 := eq_true p347
                            replace q347 := eq_true q347
                            have p348 : 0 ≤ (x6_2 : Int) := of_decide_eq_true (by first | (with_reducible assumption) | assumption)
                            have q348 : x6_2 < (l0.length : Int) := of_decide_eq_true (by first | (with_reducible assumption) | assumption)
                            obtain ⟨ad348, e348, hx348_0⟩ := Kd.at_int HR0.out x6_2 p348 q348
                            cases e348
                            replace hx348_0 := (HB.out.cell (World.block_lt_of_cell? w _ hx348_0)).trans hx348_0
                            replace p348 := eq_true p348
                            replace q348 := eq_true q348
                            have p349 : 0 ≤ (x6_2 : Int) := of_decide_eq_true (by first | (with_reducible assumption) | assumption)
                            have q349 : x6_2 < (x4_1.length : Int) := of_decide_eq_true (by first | (with_reducible assumption) | assumption)
                            obtain ⟨ad349, e349, hx349_0⟩ := Kd.at_int (Kd.R_reads' HO_4.out).2.2 x6_2 p349 q349
                            obtain rfl : ad347 = ad349 := (by injection e349)
                            replace p349 := eq_true p349
                            replace q349 := eq_true q349
                            go_wp2
                            repeat (go_quiet (fail); try go_wp2)
                            go_roundg k2
                            case measure => have := HK1.out; have := HK2.out; omega
                            case rel => exact ⟨(wrap64 (x6_2 + 1)), (by first | rfl | (simp; done) | (simp [*]; done)), H', ⟨by have := HK1.out; have := HK2.out; omega⟩, ⟨by (with_reducible repeat (first | apply Kd.R_alloc | apply Kd.R_drewN | apply Kd.R_drew)); exact HO_4.out⟩, ⟨by repeat (first | (with_reducible first | exact HB.out | apply below_alloc | apply pw_below_drewN | apply below_drew1) | exact HB.out)⟩⟩
                      · rw [if_neg c52] at H
                        exact absurd H (by simp)
                    · rw [if_neg c51] at H
                      exact absurd H (by simp)
                  · rw [if_neg c50] at H
                    have c50b0 : decide (x6_2 < (x4_1.length : Int)) = false := decide_eq_false c50
                    clear c50
                    replace H := Option.bind_eq_some_iff.mp H
                    obtain ⟨t350, A580, H⟩ := H
                    replace H : (some t350) = some r := H
                    have A58 := Aside0.mk A580
                    clear A580
                    obtain rfl := Option.some.inj H
                    obtain ⟨Ao59, co59, eo59⟩ := Kd.R_slice HO_4.out
                    subst eo59
                    go_wp2_with (first | (go_at_call 8; (with_reducible refine (wringerlaw7_awake.calls k2  t350 _ A58.out).mono ?_); rintro e w60 ⟨rfl, hb⟩; have n0_ := Aside0.mk (Kd.R_below (by (with_reducible repeat (first | apply Kd.R_alloc | apply Kd.R_drewN | apply Kd.R_drew)); exact HO_4.out) hb); have n1_ := Aside0.mk (below_step (by repeat (first | (with_reducible first | exact HB.out | apply below_alloc | apply pw_below_drewN | apply below_drew1) | exact HB.out)) hb); clear HO_4; clear HB; have HO_4 := n0_; have HB := n1_; clear n0_ n1_; (try clear hb); (try clear hb2); (try clear hk); (try clear hi)))
                    repeat (go_quiet (first | (go_at_call 8; (with_reducible refine (wringerlaw7_awake.calls k2  t350 _ A58.out).mono ?_); rintro e w60 ⟨rfl, hb⟩; have n0_ := Aside0.mk (Kd.R_below (by (with_reducible repeat (first | apply Kd.R_alloc | apply Kd.R_drewN | apply Kd.R_drew)); exact HO_4.out) hb); have n1_ := Aside0.mk (below_step (by repeat (first | (with_reducible first | exact HB.out | apply below_alloc | apply pw_below_drewN | apply below_drew1) | exact HB.out)) hb); clear HO_4; clear HB; have HO_4 := n0_; have HB := n1_; clear n0_ n1_; (try clear hb); (try clear hb2); (try clear hk); (try clear hi))); try go_wp2_with (first | (go_at_call 8; (with_reducible refine (wringerlaw7_awake.calls k2  t350 _ A58.out).mono ?_); rintro e w60 ⟨rfl, hb⟩; have n0_ := Aside0.mk (Kd.R_below (by (with_reducible repeat (first | apply Kd.R_alloc | apply Kd.R_drewN | apply Kd.R_drew)); exact HO_4.out) hb); have n1_ := Aside0.mk (below_step (by repeat (first | (with_reducible first | exact HB.out | apply below_alloc | apply pw_below_drewN | apply below_drew1) | exact HB.out)) hb); clear HO_4; clear HB; have HO_4 := n0_; have HB := n1_; clear n0_ n1_; (try clear hb); (try clear hb2); (try clear hk); (try clear hi))))
                    go_ret
                    exact ⟨by first | rfl | (simp [errW_none, errW_some] <;> rfl) | (simp [*, errW_none, errW_some] <;> rfl), by repeat (first | (with_reducible first | exact HB.out | apply below_alloc | apply pw_below_drewN | apply below_drew1) | exact HB.out)⟩
      · rw [if_neg c7] at H
        exact absurd H (by simp)
    · rw [if_neg c6] at H
      exact absurd H (by simp)

/-- THE ONE PURE STATEMENT of wringerlaw7_HistOrder: yours. -/
def wringerlaw7_HistOrder.Pure : Prop := ∀ (l0 : List Int), l0.length ≤ maxLen → l0.length * 8 ≤ 140737488351232 → (∀ x ∈ l0, (Lit.int .i64 x).wf = true) → ∃ k, wringerlaw7_HistOrder.f k l0 = some true
theorem wringerlaw7_HistOrder.walk (P : wringerlaw7_HistOrder.Pure) (a0 : Option Addr) (len0 cap0 : Nat) (z0 : List Int) (w : World) (w0 : (a0 = none ∧ len0 = 0 ∧ cap0 = 0 ∧ z0 = []) ∨ ∃ x, a0 = some x ∧ len0 ≤ cap0 ∧ cap0 ≤ maxLen ∧ z0.length = cap0 ∧ (∀ i, i < z0.length → w.cell? (x.add i) = some (.int .i64 (z0.getD i 0))) ∧ ∀ n ∈ z0, (Lit.int .i64 n).wf = true) (y0 : len0 * 8 ≤ 140737488351232) :
    Calls Try.prog 3 #[.slice a0 len0 cap0] w fun e w' => e = .returned (.bool true) ∧ Below w.heap.size w w' := by
  obtain ⟨l0, rfl, hr0, hm0, hw0, hc0⟩ := ReadsInt.ofRowC w0
  obtain ⟨k, h⟩ := P l0 hm0 y0 hw0
  refine (wringerlaw7_HistOrder.calls k _ _ l0 true w (Kd.C_of_reads (d := (0 : Int)) (h1 := fun _ => rfl) hr0) hc0 h).mono ?_
  rintro e w' ⟨rfl, hd⟩
  exact ⟨rfl, hd⟩

end Go.Proofs.Ytlfakfdlifipnaa.PA

-- ---- PureHistOrder
/- What is ordered falls, of two alike the lesser place first; all above nought are there, once: the plain statement of HistOrder holds for every input. Conditions: none. -/
namespace Go.Proofs.Ytlfakfdlifipnaa.Pure
open Go.RowKit Go.Proofs.Ytlfakfdlifipnaa.PA Go.Proofs.YtlfakfdlifipnaaW.PrintWords Go.Proofs.YtlfakfdlifipnaaW.PrintLast Go.Proofs.YtlfakfdlifipnaaW.PrintMore Ol
set_option linter.unusedVariables false
set_option linter.unusedSimpArgs false

def ix (o : List Nat) : List Int := o.map fun i : Nat => (i : Int)
theorem length_ix (o : List Nat) : (ix o).length = o.length := by simp [ix]
theorem ix_at (o : List Nat) (i : Nat) (h : i < o.length) : (ix o).getD i 0 = ((o.getD i 0 : Nat) : Int) := getD_map' _ o 0 0 i h
/-- Which of n places are among these. -/
def inL (n : Nat) (o : List Nat) : List Int := (List.range n).map fun j => if j ∈ o then 1 else 0
theorem length_inL (n : Nat) (o : List Nat) : (inL n o).length = n := by simp [inL]
theorem inL_at (n : Nat) (o : List Nat) (j : Nat) (h : j < n) : (inL n o).getD j 0 = if j ∈ o then 1 else 0 := by
  simp [inL, List.getD_eq_getElem?_getD, h]
theorem inL_snoc (n : Nat) (o : List Nat) (k : Nat) (h : k < n) (hk : k ∉ o) : inL n (o ++ [k]) = (inL n o).set k 1 := by
  apply List.ext_getElem
  · rw [List.length_set, length_inL, length_inL]
  · intro j h1 h2
    rw [List.getElem_set]
    by_cases e : k = j
    · subst e; simp [inL]
    · rw [if_neg e]
      have : (j ∈ o ++ [k]) ↔ j ∈ o := by simp; intro h; exact absurd h.symm e
      simp [inL, this, Ne.symm e]
theorem inL_nil (n : Nat) : inL n [] = List.replicate n 0 := by
  apply List.ext_getElem
  · simp [inL]
  · intro j h1 h2; simp [inL]

theorem order_l1 (l : List Int) (hl : l.length ≤ 200) : ∀ (d i : Nat), i + d = l.length →
    Ev (fun k => wringerlaw7_HistOrder.l1 k l (inL l.length (ordL l)) (i : Int)) true := by
  intro d
  induction d with
  | zero =>
    intro i hi
    refine Ev.step (f := fun k => (wringerlaw7_awake.f k).bind fun t350 => (some t350)) (fun k => by simp only [wringerlaw7_HistOrder.l1]; rw [length_inL, if_neg (by omega)]) ?_
    exact Ev.bind awake7 (Ev.now _)
  | succ d ih =>
    intro i hi
    have hil : i < l.length := by omega
    refine Ev.step (f := fun k => wringerlaw7_HistOrder.l1 k l (inL l.length (ordL l)) ((i + 1 : Nat) : Int)) (fun k => ?_) (ih (i + 1) (by omega))
    simp only [wringerlaw7_HistOrder.l1]
    rw [length_inL, if_pos (by omega), if_pos (by omega), if_pos (by omega), rd_nat, rd_nat, inL_at _ _ _ hil, w64 (by omega) (by omega)]
    by_cases hm : i ∈ ordL l
    · have := (mem_ordL.1 hm).2
      rw [if_pos hm, if_neg (by simp [-List.getD_eq_getElem?_getD]; omega), if_neg (by omega)]; rfl
    · have : ¬ 0 < l.getD i 0 := fun h => hm (mem_ordL.2 ⟨hil, h⟩)
      rw [if_neg hm, if_neg (by simp [-List.getD_eq_getElem?_getD]; omega), if_neg (by omega)]; rfl
theorem order_l0 (l : List Int) (hl : l.length ≤ 200) : ∀ (d i : Nat), i + d = (ordL l).length →
    Ev (fun k => wringerlaw7_HistOrder.l0 k l (ix (ordL l)) (inL l.length ((ordL l).take i)) (i : Int)) true := by
  have hol := length_ordL l
  intro d
  induction d with
  | zero =>
    intro i hi
    rw [List.take_of_length_le (by omega)]
    refine Ev.step (f := fun k => wringerlaw7_HistOrder.l1 k l (inL l.length (ordL l)) 0) (fun k => by simp only [wringerlaw7_HistOrder.l0]; rw [length_ix, if_neg (by omega)]) ?_
    exact order_l1 l hl l.length 0 (by omega)
  | succ d ih =>
    intro i hi
    have hil : i < (ordL l).length := by omega
    obtain ⟨q, hq⟩ : ∃ q, q = (ordL l).getD i 0 := ⟨_, rfl⟩
    have hqm : q ∈ ordL l := by rw [hq]; exact mem_getD _ _ _ hil
    have hql := (mem_ordL.1 hqm).1
    have e := take_snoc (ordL l) 0 i hil
    rw [← hq] at e
    have hnin : q ∉ (ordL l).take i := by
      intro hc
      have hnd := nodup_ordL l
      have h1 : (ordL l).take (i + 1) = (ordL l).take i ++ [q] := e
      have h2 : ((ordL l).take (i + 1)).Nodup := hnd.sublist (List.take_sublist _ _)
      rw [h1, List.nodup_append] at h2
      exact h2.2.2 q hc q (by simp) rfl
    have hx : (ix (ordL l)).getD i 0 = (q : Int) := by rw [ix_at _ _ hil, ← hq]
    have hin : (inL l.length ((ordL l).take i)).getD q 0 = 0 := by rw [inL_at _ _ _ hql, if_neg hnin]
    have last : ∀ k, (if (q : Int) < ((inL l.length ((ordL l).take i)).length : Int) then wringerlaw7_HistOrder.l0 k l (ix (ordL l)) ((inL l.length ((ordL l).take i)).set q (wrap64 (0 + 1))) (wrap64 ((i : Int) + 1)) else none) = wringerlaw7_HistOrder.l0 k l (ix (ordL l)) (inL l.length ((ordL l).take (i + 1))) ((i + 1 : Nat) : Int) := fun k => by
      rw [length_inL, if_pos (by omega), e, inL_snoc _ _ _ hql hnin, w64 (x := (i : Int) + 1) (by omega) (by omega), w64 (x := (0 : Int) + 1) (by decide) (by decide)]; rfl
    refine Ev.step (f := fun k => wringerlaw7_HistOrder.l0 k l (ix (ordL l)) (inL l.length ((ordL l).take (i + 1))) ((i + 1 : Nat) : Int)) (fun k => ?_) (ih (i + 1) (by omega))
    simp only [wringerlaw7_HistOrder.l0]
    rw [length_ix, if_pos (by omega), if_pos (by omega), rd_nat, hx, if_neg (by omega), if_neg (by omega)]
    by_cases h0 : i = 0
    · rw [if_neg (by omega), if_pos (by omega), rd_nat, hin, Int.toNat_natCast, last]
    · obtain ⟨j, rfl⟩ : ∃ j, i = j + 1 := ⟨i - 1, by omega⟩
      obtain ⟨p, hp⟩ : ∃ p, p = (ordL l).getD j 0 := ⟨_, rfl⟩
      have hpm : p ∈ ordL l := by rw [hp]; exact mem_getD _ _ _ (by omega)
      have hpl := (mem_ordL.1 hpm).1
      have hy : (ix (ordL l)).getD j 0 = (p : Int) := by rw [ix_at _ _ (by omega), ← hp]
      have hf := List.pairwise_iff_getElem.1 (ordL_fall l) j (j + 1) (by omega) hil (by omega)
      have e1 : (ordL l)[j]'(by omega) = p := by rw [hp]; simp [List.getD_eq_getElem?_getD, show j < (ordL l).length by omega]
      have e2 : (ordL l)[j + 1]'hil = q := by rw [hq]; simp [List.getD_eq_getElem?_getD, hil]
      rw [e1, e2] at hf
      unfold ltG pr at hf
      rw [decide_eq_false_iff_not] at hf
      simp only at hf
      have ew : wrap64 (((j + 1 : Nat) : Int) - 1) = (j : Int) := by rw [w64 (by omega) (by omega)]; omega
      rw [if_pos (by omega), if_pos (by omega), if_pos (by omega), ew, if_pos (by omega), if_pos (by omega), rd_nat (ix (ordL l)) j, hy, if_pos (by omega), if_pos (by omega), rd_nat l, rd_nat l, rd_nat, hin, Int.toNat_natCast, if_neg (by omega)]
      by_cases heq : l.getD q 0 = l.getD p 0
      · rw [if_pos heq, if_neg (by omega), last]
      · rw [if_neg heq, last]
theorem HistOrder : wringerlaw7_HistOrder.Pure := by
  intro l0 _ _ hw
  apply Ev.rounds
  unfold wringerlaw7_HistOrder.f
  by_cases hl : (l0.length : Int) > 200
  · exact Ev.ite_pos hl (Ev.bind awake7 (Ev.now _))
  · refine Ev.ite_neg hl ?_
    refine Ev.bind0 (order_is _ (by omega)) (Ev.ite_pos (by omega) (Ev.ite_pos (by rw [Int.toNat_natCast]; omega) ?_))
    have := order_l0 l0 (by omega) (ordL l0).length 0 (by omega)
    rw [List.take_zero, inL_nil] at this
    rw [Int.toNat_natCast]
    exact this
end Go.Proofs.Ytlfakfdlifipnaa.Pure

-- ---- LawHistOrder

namespace Go.Proofs.Ytlfakfdlifipnaa.histOrder
open Go.ChangeShapes Go.WideShapes Go.ChangeAt Go.RowKit
open Go.ChangeMaps (open_string shut_string)
set_option linter.unusedVariables false
theorem own : ownKnob Try.prog.godebug = none := by kernel_rfl
theorem laidOut : laidOutB Try.prog = true := by kernel_rfl
def IsRow (k : IntKind) (w : World) (a : Option Addr) (len cap : Nat) (zs : List Int) : Prop :=
  (a = none ∧ len = 0 ∧ cap = 0 ∧ zs = []) ∨
  ∃ x, a = some x ∧ len ≤ cap ∧ cap ≤ maxLen ∧ zs.length = cap ∧ (∀ i, i < zs.length → w.cell? (x.add i) = some (.int k (zs.getD i 0))) ∧ ∀ n ∈ zs, (Lit.int k n).wf = true
set_option maxRecDepth 100000 in
theorem lifted (os : Os) (started : os.Started) (H : Type) (enc : TypeId × Value → H) :
    ReturnsInHanded {} Try.checked os 3 .any (Rows.histOrderSpec.pre6 enc Try.prog Try.f3 Rows.histOrderRow.domain false) (Rows.histOrderSpec.post enc Try.prog Try.f3 false true false false) := by
  refine returnsInHanded_of_change_sized (C := Try.checked) own started (by kernel_rfl) Try.func3
    (ChangeSpec.witness6 (enc := enc) (C := Try.checked) false ⟨#[], #[.slice none 0 0], []⟩ 8 (by kernel_rfl) (by kernel_rfl) (by kernel_rfl) (by kernel_rfl)) ?_
  intro W base args ds gs before hval0 hW hcnd hsz0 _
  have hsz : (DataW.weightsEach Try.prog (Try.f3.params.toList ++ Rows.histOrderSpec.plain.varTypes Try.prog) (ds ++ gs)).all (· ≤ reachBytes) = true := hsz0
  have hval : ∀ (j : Nat) t v, Try.f3.params[j]? = some t → args[j]? = some v → Value.okWide Try.prog W .any base t v := hval0
  have hW' := hW
  obtain ⟨p, q, hA0, hV, rfl, hfz, hnd⟩ := hW
  have hA : DataW.TrodAll enc Try.prog W 0 (fun _ => true) true Try.f3.params.toList args.toList ds p := hA0
  rw [Try.params3] at hA hval hsz
  obtain ⟨v0, vs0, d0, ds0, p0, q0, hargs, rfl, rfl, h0, r0⟩ := trodAll_cons hA
  obtain ⟨rfl, rfl, rfl⟩ := trodAll_nil r0
  obtain rfl : args = #[v0] := by cases args; simp_all
  obtain ⟨rfl, rfl⟩ := trodVars_none hV
  obtain ⟨a0, len0, cap0, rfl⟩ := okWide_slice Try.underlying22 (hval 0 22 v0 rfl rfl)
  have k0 := h0
  have lt0 : ∀ x ∈ p0, x.block < W.heap.size := by obtain ⟨m, hm⟩ := k0; exact DataW.trod_lt m _ _ _ hm
  obtain ⟨z0, w0⟩ : ∃ zs, IsRow .i64 W a0 len0 cap0 zs := by
    obtain ⟨fuel, hf⟩ := h0
    rcases open_ints Try.underlying22 Try.underlying3 (by kernel_rfl) hf with ⟨hcs, _⟩ | ⟨x, l, c, zs, hcs, _, hl, hm, hz, _, hcell, hwz⟩
    · simp [Value.cells] at hcs
      obtain ⟨rfl, rfl, rfl⟩ := hcs
      exact ⟨[], .inl ⟨rfl, rfl, rfl, rfl⟩⟩
    · simp [Value.cells] at hcs
      obtain ⟨rfl, rfl, rfl⟩ := hcs
      exact ⟨zs, .inr ⟨_, rfl, hl, hm, by simpa using hz, hcell, hwz⟩⟩
  have y0 : len0 * 8 ≤ 140737488351232 := Go.Proofs.YtlfakfdlifipnaaW.PrintWords.sized_ints hsz (j := 0) (t := 22) rfl rfl Try.underlying22 Try.underlying3 (by kernel_rfl) (by kernel_rfl) h0
  clear hA0 hval0 hsz0 hsz
  refine (PA.wringerlaw7_HistOrder.walk Pure.HistOrder a0 len0 cap0 z0 W w0 y0).mono fun e W' ⟨he, bel⟩ => ?_
  subst he
  exact ⟨_, rfl, _, _, _, [], _, [], hW', trodAll_mk1 (shut_bool Try.underlying4 _), (trodAll_cons_mk (Below.trod laidOut (by kernel_rfl) (of_decide_eq_true (by kernel_rfl)) k0 bel lt0) trodAll_mk0), rfl, bel.frame _, fun h => by cases h⟩
theorem over : Rows.histOrderRow.holds Try.pinned (OpenSpec.ofChange Rows.histOrderSpec) :=
  OpenClaim.holds_of_wide 3 Try.f3 rfl rfl rfl rfl rfl rfl rfl ⟨rfl, rfl, rfl, rfl, rfl⟩ rfl rfl rfl rfl rfl (by kernel_rfl) Try.func3 (by kernel_rfl)
    (of_decide_eq_true (by kernel_rfl)) (by unfold Func.isWrapper; first | (rw [if_pos (by decide +kernel)]; kernel_rfl) | (rw [if_neg (by decide +kernel)]; exact ⟨rfl, rfl⟩))
    (fun os started H enc _ => lifted os started H enc)
theorem proved : Rows.HistOrderSaid := over
#print axioms proved
end Go.Proofs.Ytlfakfdlifipnaa.histOrder
namespace Go.Proofs.Ytlfakfdlifipnaa
/-- The row, under a short name, for the claim. -/
theorem histOrder_holds : Rows.HistOrderSaid := histOrder.proved
end Go.Proofs.Ytlfakfdlifipnaa
