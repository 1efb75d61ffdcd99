/- Part SpreadSteps1 of what the layer's laws stand on: PAx23, PureSpreadSteps, LawSpreadSteps. Written by a program (merge.py) out of this session's own texts and of what the kit's print wrote over stand-ins (sp.py). Conditions: those that each theorem names. -/
import Derived.Test.YtlconnmfceabiaaQB1
import Derived.Test.YtlconnmfceabiaaQB2
import Derived.Test.YtlconnmfceabiaaQB3
import Derived.Test.YtlconnmfceabiaaRows
import Derived.WalkKit
import Derived.ProofKit
import Derived.OpenShut
import Derived.ShutString
import Derived.ChangeOld
import Derived.Below
import Derived.SizedLaws
import Derived.Test.YtlconnmfceabiaaWSized
-- ---- PAx23

namespace Go.Proofs.Ytlconnmfceabiaa.PA
open Go.RowKit Go.Proofs.YtlconnmfceabiaaW.PrintWords Go.Proofs.YtlconnmfceabiaaW.PrintLast Go.Proofs.YtlconnmfceabiaaW.PrintMore
attribute [local go_sem] max2_int min2_int max_two min_two max_three min_three max_four min_four   -- for this text's walks alone
set_option linter.unusedVariables false
set_option linter.unusedSimpArgs false

/-! ### wringerlaw13_SpreadSteps: function 7 -/
mutual
def wringerlaw13_SpreadSteps.j0 : Nat → List Int → List Int → Int → Bool → Option (Bool)
  | 0, _, _, _, _ => none
  | k + 1, x5, x7, x9, x40 => if x40 = true then (some false) else (if 0 < (x5.length : Int) then (wringerlaw13_SpreadSteps.l0 k x5 x7 x9 0 0 (rd x5 0) 0) else (none))
def wringerlaw13_SpreadSteps.l0 : Nat → List Int → List Int → Int → Int → Int → Int → Int → Option (Bool)
  | 0, _, _, _, _, _, _, _ => none
  | k + 1, x5, x7, x9, x10, x11, x12, x13 => if x13 < x9 then (wringerlaw13_SpreadSteps.l1 k x5 x7 x9 x10 x11 x12 x13) else (if x10 = 0 then ((wringerlaw13_awake.f).bind fun t319 => (some t319)) else (some false))
def wringerlaw13_SpreadSteps.l1 : Nat → List Int → List Int → Int → Int → Int → Int → Int → Option (Bool)
  | 0, _, _, _, _, _, _, _ => none
  | k + 1, x5, x7, x9, x10, x11, x12, x13 => if x12 = 0 then (if 0 ≤ (wrap64 (x11 + 1)) then (if (wrap64 (x11 + 1)) < (x5.length : Int) then (wringerlaw13_SpreadSteps.l1 k x5 x7 x9 x10 (wrap64 (x11 + 1)) (rd x5 (wrap64 (x11 + 1))) x13) else (none)) else (none)) else (if 0 ≤ x10 then (if x10 < (x7.length : Int) then (if (rd x7 x10) = x11 then (if x9 = 0 then (none) else (wringerlaw13_SpreadSteps.l0 k x5 x7 x9 (Int.tmod (wrap64 ((wrap64 ((wrap64 (x10 + (wrap64 (Int.tdiv x9 2)))) + (wrap64 (Int.tdiv x9 8)))) + 3)) x9) x11 (wrap64 (x12 - 1)) (wrap64 (x13 + 1)))) else (some false)) else (none)) else (none))
end
def wringerlaw13_SpreadSteps.f (k : Nat) (l0 : List Int) (a1 : Int) : Option (Bool) := if (l0.length : Int) > 140 then ((wringerlaw13_awake.f).bind fun t308 => (some t308)) else ((wringerlaw13_Counts.f k l0 a1).bind fun bt309 => ((spread_Spread.f k bt309.1 bt309.2).bind fun bt313 => (if 0 ≤ bt309.2 then ((wringerlaw1_Err.f bt313.2).bind fun t317 => (if t317 = 0 then (wringerlaw13_SpreadSteps.j0 k bt309.1 bt313.1 (shl .i64 1 bt309.2) ((bt313.1.length : Int) != (shl .i64 1 bt309.2))) else (wringerlaw13_SpreadSteps.j0 k bt309.1 bt313.1 (shl .i64 1 bt309.2) true))) else (none))))
theorem wringerlaw13_SpreadSteps.mono_l : ∀ k, (∀ y0 y1 y2 y3, LeO (wringerlaw13_SpreadSteps.j0 k y0 y1 y2 y3) (wringerlaw13_SpreadSteps.j0 (k + 1) y0 y1 y2 y3)) ∧ (∀ y0 y1 y2 y3 y4 y5 y6, LeO (wringerlaw13_SpreadSteps.l0 k y0 y1 y2 y3 y4 y5 y6) (wringerlaw13_SpreadSteps.l0 (k + 1) y0 y1 y2 y3 y4 y5 y6)) ∧ (∀ y0 y1 y2 y3 y4 y5 y6, LeO (wringerlaw13_SpreadSteps.l1 k y0 y1 y2 y3 y4 y5 y6) (wringerlaw13_SpreadSteps.l1 (k + 1) y0 y1 y2 y3 y4 y5 y6))
  | 0 => ⟨fun _ _ _ _ r h => by simp [wringerlaw13_SpreadSteps.j0] at h, fun _ _ _ _ _ _ _ r h => by simp [wringerlaw13_SpreadSteps.l0] at h, fun _ _ _ _ _ _ _ r h => by simp [wringerlaw13_SpreadSteps.l1] at h⟩
  | k + 1 => by
    obtain ⟨ih0, ih1, ih2⟩ := wringerlaw13_SpreadSteps.mono_l k
    refine ⟨?_, ?_, ?_⟩
    · intro y0 y1 y2 y3
      unfold wringerlaw13_SpreadSteps.j0
      repeat' first
      | (with_reducible exact ih0 _ _ _ _)
      | (with_reducible exact ih1 _ _ _ _ _ _ _)
      | (with_reducible exact ih2 _ _ _ _ _ _ _)
      | (with_reducible exact spread_Spread.mono _ _ _)
      | (with_reducible exact wringerlaw13_Counts.mono _ _ _)
      | (with_reducible exact LeO.refl _)
      | (with_reducible exact LeO.none _)
      | (with_reducible refine LeO.ite ?_ ?_)
      | (with_reducible refine LeO.bind ?_ (fun _ => ?_))
      | exact ih0 _ _ _ _
      | exact ih1 _ _ _ _ _ _ _
      | exact ih2 _ _ _ _ _ _ _
      | exact spread_Spread.mono _ _ _
      | exact wringerlaw13_Counts.mono _ _ _
      | exact LeO.none _
      | refine LeO.ite ?_ ?_
      | refine LeO.bind ?_ (fun _ => ?_)
    · intro y0 y1 y2 y3 y4 y5 y6
      unfold wringerlaw13_SpreadSteps.l0
      repeat' first
      | (with_reducible exact ih0 _ _ _ _)
      | (with_reducible exact ih1 _ _ _ _ _ _ _)
      | (with_reducible exact ih2 _ _ _ _ _ _ _)
      | (with_reducible exact spread_Spread.mono _ _ _)
      | (with_reducible exact wringerlaw13_Counts.mono _ _ _)
      | (with_reducible exact LeO.refl _)
      | (with_reducible exact LeO.none _)
      | (with_reducible refine LeO.ite ?_ ?_)
      | (with_reducible refine LeO.bind ?_ (fun _ => ?_))
      | exact ih0 _ _ _ _
      | exact ih1 _ _ _ _ _ _ _
      | exact ih2 _ _ _ _ _ _ _
      | exact spread_Spread.mono _ _ _
      | exact wringerlaw13_Counts.mono _ _ _
      | exact LeO.none _
      | refine LeO.ite ?_ ?_
      | refine LeO.bind ?_ (fun _ => ?_)
    · intro y0 y1 y2 y3 y4 y5 y6
      unfold wringerlaw13_SpreadSteps.l1
      repeat' first
      | (with_reducible exact ih0 _ _ _ _)
      | (with_reducible exact ih1 _ _ _ _ _ _ _)
      | (with_reducible exact ih2 _ _ _ _ _ _ _)
      | (with_reducible exact spread_Spread.mono _ _ _)
      | (with_reducible exact wringerlaw13_Counts.mono _ _ _)
      | (with_reducible exact LeO.refl _)
      | (with_reducible exact LeO.none _)
      | (with_reducible refine LeO.ite ?_ ?_)
      | (with_reducible refine LeO.bind ?_ (fun _ => ?_))
      | exact ih0 _ _ _ _
      | exact ih1 _ _ _ _ _ _ _
      | exact ih2 _ _ _ _ _ _ _
      | exact spread_Spread.mono _ _ _
      | exact wringerlaw13_Counts.mono _ _ _
      | exact LeO.none _
      | refine LeO.ite ?_ ?_
      | refine LeO.bind ?_ (fun _ => ?_)
theorem wringerlaw13_SpreadSteps.mono : ∀ a0 a1 k, LeO (wringerlaw13_SpreadSteps.f k a0 a1) (wringerlaw13_SpreadSteps.f (k + 1) a0 a1) := by
  intro a0 a1 k
  obtain ⟨ih0, ih1, ih2⟩ := wringerlaw13_SpreadSteps.mono_l k
  unfold wringerlaw13_SpreadSteps.f
  repeat' first
      | (with_reducible exact ih0 _ _ _ _)
      | (with_reducible exact ih1 _ _ _ _ _ _ _)
      | (with_reducible exact ih2 _ _ _ _ _ _ _)
      | (with_reducible exact spread_Spread.mono _ _ _)
      | (with_reducible exact wringerlaw13_Counts.mono _ _ _)
      | (with_reducible exact LeO.refl _)
      | (with_reducible exact LeO.none _)
      | (with_reducible refine LeO.ite ?_ ?_)
      | (with_reducible refine LeO.bind ?_ (fun _ => ?_))
      | exact ih0 _ _ _ _
      | exact ih1 _ _ _ _ _ _ _
      | exact ih2 _ _ _ _ _ _ _
      | exact spread_Spread.mono _ _ _
      | exact wringerlaw13_Counts.mono _ _ _
      | exact LeO.none _
      | refine LeO.ite ?_ ?_
      | refine LeO.bind ?_ (fun _ => ?_)
set_option maxHeartbeats 8000000 in
set_option maxRecDepth 100000 in
theorem wringerlaw13_SpreadSteps.calls (k : Nat) (A0 : Option Addr) (c0 : Nat) (l0 : List Int) (a1 : Int) (r : Bool) (w : World) (hr0 : Kd.C (Kd.int .u16) w A0 l0.length l0) (hc0 : l0.length ≤ c0) (h : wringerlaw13_SpreadSteps.f k l0 a1 = some r) :
    Calls Try.prog 7 #[.slice A0 l0.length c0, .int .u8 a1] w fun e w' => e = .returned (.bool r) ∧ Below w.heap.size w w' := by
  have HR0 := Aside0.mk hr0
  have HC0 := Aside0.mk hc0
  clear hr0 hc0
  have HB := Aside0.mk (Below.refl w.heap.size w)
  have H : (if (l0.length : Int) > 140 then ((wringerlaw13_awake.f).bind fun t308 => (some t308)) else ((wringerlaw13_Counts.f k l0 a1).bind fun bt309 => ((spread_Spread.f k bt309.1 bt309.2).bind fun bt313 => (if 0 ≤ bt309.2 then ((wringerlaw1_Err.f bt313.2).bind fun t317 => (if t317 = 0 then (wringerlaw13_SpreadSteps.j0 k bt309.1 bt313.1 (shl .i64 1 bt309.2) ((bt313.1.length : Int) != (shl .i64 1 bt309.2))) else (wringerlaw13_SpreadSteps.j0 k bt309.1 bt313.1 (shl .i64 1 bt309.2) true))) else (none))))) = some r := h
  clear h
  by_cases c3 : (l0.length : Int) > 140
  · rw [if_pos c3] at H
    have c3b0 : decide (140 < (l0.length : Int)) = true := decide_eq_true c3
    have c3b1 : decide (140 < l0.length) = true := decide_eq_true (by omega)
    clear c3
    replace H := Option.bind_eq_some_iff.mp H
    obtain ⟨t308, A40, H⟩ := H
    replace H : (some t308) = some r := H
    have A4 := Aside0.mk A40
    clear A40
    obtain rfl := Option.some.inj H
    go_enter Try.func7, Try.ntmps7
    go_wp2_with (first | (go_at_call 8; (with_reducible refine (wringerlaw13_awake.calls  t308 _ A4.out).mono ?_); rintro e w5 ⟨rfl, hb⟩; have n0_ := Aside0.mk (below_step (by repeat (first | (with_reducible first | exact HB.out | apply below_alloc | apply pw_below_drewN | apply below_drew1) | exact HB.out)) hb); clear HB; have HB := n0_; clear n0_; (try clear hb); (try clear hb2); (try clear hk); (try clear hi)))
    repeat (go_quiet (first | (go_at_call 8; (with_reducible refine (wringerlaw13_awake.calls  t308 _ A4.out).mono ?_); rintro e w5 ⟨rfl, hb⟩; have n0_ := Aside0.mk (below_step (by repeat (first | (with_reducible first | exact HB.out | apply below_alloc | apply pw_below_drewN | apply below_drew1) | exact HB.out)) hb); clear HB; have HB := n0_; clear n0_; (try clear hb); (try clear hb2); (try clear hk); (try clear hi))); try go_wp2_with (first | (go_at_call 8; (with_reducible refine (wringerlaw13_awake.calls  t308 _ A4.out).mono ?_); rintro e w5 ⟨rfl, hb⟩; have n0_ := Aside0.mk (below_step (by repeat (first | (with_reducible first | exact HB.out | apply below_alloc | apply pw_below_drewN | apply below_drew1) | exact HB.out)) hb); clear HB; have HB := n0_; clear n0_; (try clear hb); (try clear hb2); (try clear hk); (try clear hi))))
    go_ret
    exact ⟨by first | rfl | (simp [errW_none, errW_some] <;> rfl) | (simp [*, errW_none, errW_some] <;> rfl), by repeat (first | (with_reducible first | exact HB.out | apply below_alloc | apply pw_below_drewN | apply below_drew1) | exact HB.out)⟩
  · rw [if_neg c3] at H
    have c3b0 : decide (140 < (l0.length : Int)) = false := decide_eq_false c3
    have c3b1 : decide (140 < l0.length) = false := decide_eq_false (by omega)
    clear c3
    replace H := Option.bind_eq_some_iff.mp H
    obtain ⟨⟨t309, t310⟩, A60, H⟩ := H
    replace H : ((spread_Spread.f k t309 t310).bind fun bt313 => (if 0 ≤ t310 then ((wringerlaw1_Err.f bt313.2).bind fun t317 => (if t317 = 0 then (wringerlaw13_SpreadSteps.j0 k t309 bt313.1 (shl .i64 1 t310) ((bt313.1.length : Int) != (shl .i64 1 t310))) else (wringerlaw13_SpreadSteps.j0 k t309 bt313.1 (shl .i64 1 t310) true))) else (none))) = some r := H
    have A6 := Aside0.mk A60
    clear A60
    replace H := Option.bind_eq_some_iff.mp H
    obtain ⟨⟨t313, t314⟩, A70, H⟩ := H
    replace H : (if 0 ≤ t310 then ((wringerlaw1_Err.f t314).bind fun t317 => (if t317 = 0 then (wringerlaw13_SpreadSteps.j0 k t309 t313 (shl .i64 1 t310) ((t313.length : Int) != (shl .i64 1 t310))) else (wringerlaw13_SpreadSteps.j0 k t309 t313 (shl .i64 1 t310) true))) else (none)) = some r := H
    have A7 := Aside0.mk A70
    clear A70
    by_cases c8 : 0 ≤ t310
    · rw [if_pos c8] at H
      have c8b0 := eq_true c8
      have c8b1 : decide (0 ≤ t310) = true := decide_eq_true c8
      clear c8
      obtain ⟨ji9, hji9⟩ : ∃ j_ : Int, (shl .i64 1 t310) = j_ := ⟨_, rfl⟩
      replace H : ((wringerlaw1_Err.f t314).bind fun t317 => (if t317 = 0 then (wringerlaw13_SpreadSteps.j0 k t309 t313 ji9 ((t313.length : Int) != (ji9))) else (wringerlaw13_SpreadSteps.j0 k t309 t313 ji9 true))) = some r := by first | (rw [hji9] at H; exact H) | (simp only [hji9] at H ⊢; exact H)
      (try rw [hji9] at A6)
      (try rw [hji9] at A7)
      have hji9_ : (IntKind.i64.wrap (1 * 2 ^ min t310.toNat 64)) = ji9 := hji9
      have hji9z : t310 ≤ 64 → (IntKind.i64.wrap (1 * 2 ^ t310.toNat)) = ji9 := shl_small hji9
      have hji9u : (IntKind.i64.wrap (2 ^ min t310.toNat 64)) = ji9 := by have h_ := hji9_; rw [Int.one_mul] at h_; exact h_
      have hji9v : t310 ≤ 64 → (IntKind.i64.wrap (2 ^ t310.toNat)) = ji9 := fun hle_ => by have h_ := hji9z hle_; rw [Int.one_mul] at h_; exact h_
      have hji9y : (wrap64 (1 * 2 ^ min t310.toNat 64)) = ji9 := (i64_w _).symm.trans hji9_
      have hji9x : t310 ≤ 64 → (wrap64 (1 * 2 ^ t310.toNat)) = ji9 := fun h_ => (i64_w _).symm.trans (hji9z h_)
      have HC10 := Aside0.mk H
      clear H
      go_enter Try.func7, Try.ntmps7
      go_upto_region 6 with (first | (go_at_call 16; (with_reducible refine (wringerlaw13_Counts.calls k _ _ l0 a1 t309 t310 _ ?side1 ?side2 A6.out).mono ?_); (case side1 => repeat (first | exact HR0.out | (with_reducible refine Kd.C_alloc ?_ _) | (with_reducible refine Kd.C_drewN ?_ _) | (with_reducible refine Kd.C_drew ?_))); (case side2 => exact HC0.out); rintro e w11 ⟨v311, rfl, ho0, hb⟩; have n0_ := Aside0.mk (Kd.R_lower ho0 (below_size (by repeat (first | (with_reducible first | exact HB.out | apply below_alloc | apply pw_below_drewN | apply below_drew1) | exact HB.out)))); have n1_ := Aside0.mk (below_step (by repeat (first | (with_reducible first | exact HB.out | apply below_alloc | apply pw_below_drewN | apply below_drew1) | exact HB.out)) hb); clear HB; have HO312 := n0_; have HB := n1_; clear n0_ n1_; (try clear hb); (try clear hb2); (try clear hk); (try clear hi); (try clear ho0); obtain ⟨Ao12, co12, eo12⟩ := Kd.R_slice HO312.out; subst eo12) | (go_at_call 9; (with_reducible refine (spread_Spread.calls k _ _ t309 t310 t313 t314 _ ?side1 ?side2 A7.out).mono ?_); (case side1 => repeat (first | exact (Kd.R_reads' HO312.out).2.2 | (with_reducible refine Kd.C_alloc ?_ _) | (with_reducible refine Kd.C_drewN ?_ _) | (with_reducible refine Kd.C_drew ?_))); (case side2 => exact (Kd.R_reads' HO312.out).2.1); rintro e w13 ⟨v315, rfl, ho0, hb⟩; have n0_ := Aside0.mk (Kd.R_elder' (by (with_reducible repeat (first | apply Kd.R_alloc | apply Kd.R_drewN | apply Kd.R_drew)); exact HO312.out) (Kd.R_base ho0) hb); have n1_ := Aside0.mk (Kd.R_lower (Kd.R_new' ho0 (Kd.R_lt (by (with_reducible repeat (first | apply Kd.R_alloc | apply Kd.R_drewN | apply Kd.R_drew)); exact HO312.out))) (below_size (by repeat (first | (with_reducible first | exact HB.out | apply below_alloc | apply pw_below_drewN | apply below_drew1) | exact HB.out)))); have n2_ := Aside0.mk (below_step (by repeat (first | (with_reducible first | exact HB.out | apply below_alloc | apply pw_below_drewN | apply below_drew1) | exact HB.out)) hb); clear HO312; clear HB; have HO312 := n0_; have HO316 := n1_; have HB := n2_; clear n0_ n1_ n2_; (try clear hb); (try clear hb2); (try clear hk); (try clear hi); (try clear ho0)))
      repeat (go_quiet (first | (go_at_call 16; (with_reducible refine (wringerlaw13_Counts.calls k _ _ l0 a1 t309 t310 _ ?side1 ?side2 A6.out).mono ?_); (case side1 => repeat (first | exact HR0.out | (with_reducible refine Kd.C_alloc ?_ _) | (with_reducible refine Kd.C_drewN ?_ _) | (with_reducible refine Kd.C_drew ?_))); (case side2 => exact HC0.out); rintro e w11 ⟨v311, rfl, ho0, hb⟩; have n0_ := Aside0.mk (Kd.R_lower ho0 (below_size (by repeat (first | (with_reducible first | exact HB.out | apply below_alloc | apply pw_below_drewN | apply below_drew1) | exact HB.out)))); have n1_ := Aside0.mk (below_step (by repeat (first | (with_reducible first | exact HB.out | apply below_alloc | apply pw_below_drewN | apply below_drew1) | exact HB.out)) hb); clear HB; have HO312 := n0_; have HB := n1_; clear n0_ n1_; (try clear hb); (try clear hb2); (try clear hk); (try clear hi); (try clear ho0); obtain ⟨Ao12, co12, eo12⟩ := Kd.R_slice HO312.out; subst eo12) | (go_at_call 9; (with_reducible refine (spread_Spread.calls k _ _ t309 t310 t313 t314 _ ?side1 ?side2 A7.out).mono ?_); (case side1 => repeat (first | exact (Kd.R_reads' HO312.out).2.2 | (with_reducible refine Kd.C_alloc ?_ _) | (with_reducible refine Kd.C_drewN ?_ _) | (with_reducible refine Kd.C_drew ?_))); (case side2 => exact (Kd.R_reads' HO312.out).2.1); rintro e w13 ⟨v315, rfl, ho0, hb⟩; have n0_ := Aside0.mk (Kd.R_elder' (by (with_reducible repeat (first | apply Kd.R_alloc | apply Kd.R_drewN | apply Kd.R_drew)); exact HO312.out) (Kd.R_base ho0) hb); have n1_ := Aside0.mk (Kd.R_lower (Kd.R_new' ho0 (Kd.R_lt (by (with_reducible repeat (first | apply Kd.R_alloc | apply Kd.R_drewN | apply Kd.R_drew)); exact HO312.out))) (below_size (by repeat (first | (with_reducible first | exact HB.out | apply below_alloc | apply pw_below_drewN | apply below_drew1) | exact HB.out)))); have n2_ := Aside0.mk (below_step (by repeat (first | (with_reducible first | exact HB.out | apply below_alloc | apply pw_below_drewN | apply below_drew1) | exact HB.out)) hb); clear HO312; clear HB; have HO312 := n0_; have HO316 := n1_; have HB := n2_; clear n0_ n1_ n2_; (try clear hb); (try clear hb2); (try clear hk); (try clear hi); (try clear ho0))); go_upto_region 6 with (first | (go_at_call 16; (with_reducible refine (wringerlaw13_Counts.calls k _ _ l0 a1 t309 t310 _ ?side1 ?side2 A6.out).mono ?_); (case side1 => repeat (first | exact HR0.out | (with_reducible refine Kd.C_alloc ?_ _) | (with_reducible refine Kd.C_drewN ?_ _) | (with_reducible refine Kd.C_drew ?_))); (case side2 => exact HC0.out); rintro e w11 ⟨v311, rfl, ho0, hb⟩; have n0_ := Aside0.mk (Kd.R_lower ho0 (below_size (by repeat (first | (with_reducible first | exact HB.out | apply below_alloc | apply pw_below_drewN | apply below_drew1) | exact HB.out)))); have n1_ := Aside0.mk (below_step (by repeat (first | (with_reducible first | exact HB.out | apply below_alloc | apply pw_below_drewN | apply below_drew1) | exact HB.out)) hb); clear HB; have HO312 := n0_; have HB := n1_; clear n0_ n1_; (try clear hb); (try clear hb2); (try clear hk); (try clear hi); (try clear ho0); obtain ⟨Ao12, co12, eo12⟩ := Kd.R_slice HO312.out; subst eo12) | (go_at_call 9; (with_reducible refine (spread_Spread.calls k _ _ t309 t310 t313 t314 _ ?side1 ?side2 A7.out).mono ?_); (case side1 => repeat (first | exact (Kd.R_reads' HO312.out).2.2 | (with_reducible refine Kd.C_alloc ?_ _) | (with_reducible refine Kd.C_drewN ?_ _) | (with_reducible refine Kd.C_drew ?_))); (case side2 => exact (Kd.R_reads' HO312.out).2.1); rintro e w13 ⟨v315, rfl, ho0, hb⟩; have n0_ := Aside0.mk (Kd.R_elder' (by (with_reducible repeat (first | apply Kd.R_alloc | apply Kd.R_drewN | apply Kd.R_drew)); exact HO312.out) (Kd.R_base ho0) hb); have n1_ := Aside0.mk (Kd.R_lower (Kd.R_new' ho0 (Kd.R_lt (by (with_reducible repeat (first | apply Kd.R_alloc | apply Kd.R_drewN | apply Kd.R_drew)); exact HO312.out))) (below_size (by repeat (first | (with_reducible first | exact HB.out | apply below_alloc | apply pw_below_drewN | apply below_drew1) | exact HB.out)))); have n2_ := Aside0.mk (below_step (by repeat (first | (with_reducible first | exact HB.out | apply below_alloc | apply pw_below_drewN | apply below_drew1) | exact HB.out)) hb); clear HO312; clear HB; have HO312 := n0_; have HO316 := n1_; have HB := n2_; clear n0_ n1_ n2_; (try clear hb); (try clear hb2); (try clear hk); (try clear hi); (try clear ho0))))
      (try simp only [Act.put, List.setIfInBounds_toArray, List.set_cons_zero, List.set_cons_succ])
      go_cut [40] (fun v40 wc => ∃ (kq : Nat) (x40_9 : Bool), v40 = .bool x40_9 ∧ Aside0 (wringerlaw13_SpreadSteps.j0 kq t309 t313 ji9 x40_9 = some r) ∧ Aside0 (kq ≤ k) ∧ Aside0 (Kd.R (Kd.int .i64) 3 wc w.heap.size (fun k_ => some k_ ≠ (v315 : Value).ownBlock) (.slice Ao12 t309.length co12) t309) ∧ Aside0 (Kd.R (Kd.int .i64) 3 wc w.heap.size (fun k_ => some k_ ≠ ((.slice Ao12 t309.length co12) : Value).ownBlock) v315 t313) ∧ Aside0 (Below w.heap.size w wc))
      case first =>
        have H := HC10.out
        clear HC10
        replace H := Option.bind_eq_some_iff.mp H
        obtain ⟨t317, A140, H⟩ := H
        replace H : (if t317 = 0 then (wringerlaw13_SpreadSteps.j0 k t309 t313 ji9 ((t313.length : Int) != (ji9))) else (wringerlaw13_SpreadSteps.j0 k t309 t313 ji9 true)) = some r := H
        have A14 := Aside0.mk A140
        clear A140
        by_cases c15 : t317 = 0
        · rw [if_pos c15] at H
          have c15b0 : (t317 == 0) = true := beq_iff_eq.mpr c15
          have c15b1 : (t317 != 0) = false := bne_eq_false_iff_eq.mpr c15
          clear c15
          (first | rw [c15b0] | (simp only [i64_w, i32_w]; rw [c15b0]) | skip)
          have H' := Aside0.mk H
          clear H
          go_wp2_with (first | (go_at_call 14; (with_reducible refine (wringerlaw1_Err.calls t314 t317 _ A14.out).mono ?_); rintro e w' ⟨rfl, ⟨nd, rfl⟩⟩; (try first | exact ⟨rfl, _, World.drewN_drewN _ _ _⟩ | exact ⟨rfl, _, Eq.trans (World.drewN_drewN _ _ _) (congrArg (World.drewN _) (Nat.add_assoc _ _ _))⟩); obtain ⟨Ao16, co16, eo16⟩ := Kd.R_slice HO316.out; subst eo16))
          repeat (go_quiet (first | (go_at_call 14; (with_reducible refine (wringerlaw1_Err.calls t314 t317 _ A14.out).mono ?_); rintro e w' ⟨rfl, ⟨nd, rfl⟩⟩; (try first | exact ⟨rfl, _, World.drewN_drewN _ _ _⟩ | exact ⟨rfl, _, Eq.trans (World.drewN_drewN _ _ _) (congrArg (World.drewN _) (Nat.add_assoc _ _ _))⟩); obtain ⟨Ao16, co16, eo16⟩ := Kd.R_slice HO316.out; subst eo16)); try go_wp2_with (first | (go_at_call 14; (with_reducible refine (wringerlaw1_Err.calls t314 t317 _ A14.out).mono ?_); rintro e w' ⟨rfl, ⟨nd, rfl⟩⟩; (try first | exact ⟨rfl, _, World.drewN_drewN _ _ _⟩ | exact ⟨rfl, _, Eq.trans (World.drewN_drewN _ _ _) (congrArg (World.drewN _) (Nat.add_assoc _ _ _))⟩); obtain ⟨Ao16, co16, eo16⟩ := Kd.R_slice HO316.out; subst eo16)))
          go_meet
          case rel => exact ⟨_, (((t313.length : Int) != (ji9))), (by first | rfl | (simp; done) | (simp only [← hji9] <;> (first | rfl | simp)) | (simp [*]; done)), H', ⟨by first | omega | exact Nat.le_refl _⟩, ⟨by (with_reducible repeat (first | apply Kd.R_alloc | apply Kd.R_drewN | apply Kd.R_drew)); exact Kd.R_mono HO312.out (fun _ hk => hk.2)⟩, ⟨by (with_reducible repeat (first | apply Kd.R_alloc | apply Kd.R_drewN | apply Kd.R_drew)); exact Kd.R_mono HO316.out (fun _ hk => hk.2)⟩, ⟨by repeat (first | (with_reducible first | exact HB.out | apply below_alloc | apply pw_below_drewN | apply below_drew1) | exact HB.out)⟩⟩
        · rw [if_neg c15] at H
          have c15b0 : (t317 == 0) = false := beq_eq_false_iff_ne.mpr c15
          have c15b1 : (t317 != 0) = true := bne_iff_ne.mpr c15
          (first | rw [c15b0] | (simp only [i64_w, i32_w]; rw [c15b0]) | skip)
          have H' := Aside0.mk H
          clear H
          go_wp2_with (first | (go_at_call 14; (with_reducible refine (wringerlaw1_Err.calls t314 t317 _ A14.out).mono ?_); rintro e w' ⟨rfl, ⟨nd, rfl⟩⟩; (try first | exact ⟨rfl, _, World.drewN_drewN _ _ _⟩ | exact ⟨rfl, _, Eq.trans (World.drewN_drewN _ _ _) (congrArg (World.drewN _) (Nat.add_assoc _ _ _))⟩)))
          repeat (go_quiet (first | (go_at_call 14; (with_reducible refine (wringerlaw1_Err.calls t314 t317 _ A14.out).mono ?_); rintro e w' ⟨rfl, ⟨nd, rfl⟩⟩; (try first | exact ⟨rfl, _, World.drewN_drewN _ _ _⟩ | exact ⟨rfl, _, Eq.trans (World.drewN_drewN _ _ _) (congrArg (World.drewN _) (Nat.add_assoc _ _ _))⟩))); try go_wp2_with (first | (go_at_call 14; (with_reducible refine (wringerlaw1_Err.calls t314 t317 _ A14.out).mono ?_); rintro e w' ⟨rfl, ⟨nd, rfl⟩⟩; (try first | exact ⟨rfl, _, World.drewN_drewN _ _ _⟩ | exact ⟨rfl, _, Eq.trans (World.drewN_drewN _ _ _) (congrArg (World.drewN _) (Nat.add_assoc _ _ _))⟩))))
          go_meet
          case rel => exact ⟨_, (true), (by first | rfl | (simp; done) | (simp [*]; done)), H', ⟨by first | omega | exact Nat.le_refl _⟩, ⟨by (with_reducible repeat (first | apply Kd.R_alloc | apply Kd.R_drewN | apply Kd.R_drew)); exact Kd.R_mono HO312.out (fun _ hk => hk.2)⟩, ⟨by (with_reducible repeat (first | apply Kd.R_alloc | apply Kd.R_drewN | apply Kd.R_drew)); exact Kd.R_mono HO316.out (fun _ hk => hk.2)⟩, ⟨by repeat (first | (with_reducible first | exact HB.out | apply below_alloc | apply pw_below_drewN | apply below_drew1) | exact HB.out)⟩⟩
      case rest =>
        clear HC10
        try clear c1
        try clear p2
        try clear c3
        try clear c3b0
        try clear c3b1
        try clear p6
        try clear c7
        try clear c8
        try clear c8b0
        try clear c8b1
        try clear c15
        try clear c15b0
        try clear c15b1
        obtain ⟨kq, x40_9, rfl, HA, HJ9, HO_5, HO_7, HB⟩ := hcut
        cases kq with
        | zero => exact absurd HA.out (by simp [wringerlaw13_SpreadSteps.j0])
        | succ kj9 =>
          have H := HA.out
          clear HA
          simp only [wringerlaw13_SpreadSteps.j0] at H
          by_cases c17 : x40_9 = true
          · subst c17
            have H1 : (some false) = some r := by rw [if_pos rfl] at H; exact H
            clear H
            have H := H1
            clear H1
            obtain rfl := Option.some.inj H
            go_wp2
            repeat (go_quiet (fail); try go_wp2)
            go_ret
            exact ⟨by first | rfl | (simp [errW_none, errW_some] <;> rfl) | (simp only [← hji9]; first | rfl | (simp [errW_none, errW_some] <;> rfl)) | (simp [*, errW_none, errW_some] <;> rfl), by repeat (first | (with_reducible first | exact HB.out | apply below_alloc | apply pw_below_drewN | apply below_drew1) | exact HB.out)⟩
          · replace c17 := Bool.eq_false_iff.mpr c17
            subst c17
            have H1 : (if 0 < (t309.length : Int) then (wringerlaw13_SpreadSteps.l0 kj9 t309 t313 ji9 0 0 (rd t309 0) 0) else (none)) = some r := by rw [if_neg (show ¬ (false = true) by decide)] at H; exact H
            clear H
            have H := H1
            clear H1
            by_cases c18 : 0 < (t309.length : Int)
            · rw [if_pos c18] at H
              have c18b0 : decide (0 < (t309.length : Int)) = true := decide_eq_true c18
              have c18b1 : decide (0 < t309.length) = true := decide_eq_true (by omega)
              clear c18
              have H' := Aside0.mk H
              clear H
              have p318 : 0 ≤ (0 : Int) := (by omega)
              have q318 : 0 < (t309.length : Int) := of_decide_eq_true (by first | (with_reducible assumption) | assumption)
              obtain ⟨ad318, e318, hx318_0⟩ := Kd.at_int (Kd.R_reads' HO_5.out).2.2 0 p318 q318
              cases e318
              have qi318 : (0 < t309.length) = True := eq_true (by omega)
              (try rw [show ((0 : Int)).toNat = 0 from rfl] at hx318_0)
              (try rw [Addr.add_zero'] at hx318_0)
              replace p318 := eq_true p318
              replace q318 := eq_true q318
              go_wp2
              repeat (go_quiet (fail); try go_wp2)
              go_loopg [10, 11, 12, 13] kj9 (fun kq v10 v11 v12 v13 w' => ∃ (x10_2 : Int) (x11_2 : Int) (x12_2 : Int) (x13_2 : Int), v10 = .int .i64 x10_2 ∧ v11 = .int .i64 x11_2 ∧ v12 = .int .i64 x12_2 ∧ v13 = .int .i64 x13_2 ∧ Aside0 (wringerlaw13_SpreadSteps.l0 kq t309 t313 ji9 x10_2 x11_2 x12_2 x13_2 = some r) ∧ Aside0 (kq ≤ kj9) ∧ Aside0 (Kd.R (Kd.int .i64) 3 w' w.heap.size (fun k_ => some k_ ≠ (v315 : Value).ownBlock) (.slice (some ad318) t309.length co12) t309) ∧ Aside0 (Kd.R (Kd.int .i64) 3 w' w.heap.size (fun k_ => some k_ ≠ ((.slice (some ad318) t309.length co12) : Value).ownBlock) v315 t313) ∧ Aside0 (Below w.heap.size w w'))
              case atStart => exact ⟨(0), (0), (rd t309 0), (0), (by first | rfl | (simp; done) | (simp [*]; done)), (by first | rfl | (simp; done) | (simp [*]; done)), (by first | rfl | (simp; done) | (simp [*]; done)), (by first | rfl | (simp; done) | (simp [*]; done)), H', ⟨Nat.le_refl _⟩, ⟨by (with_reducible repeat (first | apply Kd.R_alloc | apply Kd.R_drewN | apply Kd.R_drew)); exact HO_5.out⟩, ⟨by (with_reducible repeat (first | apply Kd.R_alloc | apply Kd.R_drewN | apply Kd.R_drew)); exact HO_7.out⟩, ⟨by repeat (first | (with_reducible first | exact HB.out | apply below_alloc | apply pw_below_drewN | apply below_drew1) | exact HB.out)⟩⟩
              case round =>
                clear H'
                try clear c1
                try clear p2
                try clear c3
                try clear c3b0
                try clear c3b1
                try clear p3
                try clear q3
                try clear hx3
                try clear qi3
                try clear p6
                try clear c7
                try clear c8
                try clear c8b0
                try clear c8b1
                try clear c15
                try clear c15b0
                try clear c15b1
                try clear c17
                try clear c18
                try clear c18b0
                try clear c18b1
                try clear hx318_0
                try clear p2
                try clear p318
                try clear p6
                try clear q318
                obtain ⟨x10_2, x11_2, x12_2, x13_2, rfl, rfl, rfl, rfl, HA, HK2, HO_5, HO_7, HB⟩ := hrel
                cases gk with
                | zero => exact absurd HA.out (by simp [wringerlaw13_SpreadSteps.l0])
                | succ k2 =>
                  have H := HA.out
                  clear HA
                  simp only [wringerlaw13_SpreadSteps.l0] at H
                  by_cases c19 : x13_2 < ji9
                  · rw [if_pos c19] at H
                    have c19b0 : decide (x13_2 < ji9) = true := decide_eq_true c19
                    clear c19
                    have H' := Aside0.mk H
                    clear H
                    go_wp2
                    repeat (go_quiet (fail); try go_wp2)
                    go_loopg [11, 12] k2 (fun kq v11 v12 w' => ∃ (x11_3 : Int) (x12_3 : Int), v11 = .int .i64 x11_3 ∧ v12 = .int .i64 x12_3 ∧ Aside0 (wringerlaw13_SpreadSteps.l1 kq t309 t313 ji9 x10_2 x11_3 x12_3 x13_2 = some r) ∧ Aside0 (kq ≤ k2) ∧ Aside0 (Kd.R (Kd.int .i64) 3 w' w.heap.size (fun k_ => some k_ ≠ (v315 : Value).ownBlock) (.slice (some ad318) t309.length co12) t309) ∧ Aside0 (Kd.R (Kd.int .i64) 3 w' w.heap.size (fun k_ => some k_ ≠ ((.slice (some ad318) t309.length co12) : Value).ownBlock) v315 t313) ∧ Aside0 (Below w.heap.size w w'))
                    case atStart => exact ⟨(x11_2), (x12_2), (by first | rfl | (simp; done) | (simp [*]; done)), (by first | rfl | (simp; done) | (simp [*]; done)), H', ⟨Nat.le_refl _⟩, ⟨by (with_reducible repeat (first | apply Kd.R_alloc | apply Kd.R_drewN | apply Kd.R_drew)); exact HO_5.out⟩, ⟨by (with_reducible repeat (first | apply Kd.R_alloc | apply Kd.R_drewN | apply Kd.R_drew)); exact HO_7.out⟩, ⟨by repeat (first | (with_reducible first | exact HB.out | apply below_alloc | apply pw_below_drewN | apply below_drew1) | exact HB.out)⟩⟩
                    case round =>
                      clear H'
                      try clear c1
                      try clear p2
                      try clear c3
                      try clear c3b0
                      try clear c3b1
                      try clear p3
                      try clear q3
                      try clear hx3
                      try clear qi3
                      try clear p6
                      try clear c7
                      try clear c8
                      try clear c8b0
                      try clear c8b1
                      try clear c15
                      try clear c15b0
                      try clear c15b1
                      try clear c17
                      try clear c18
                      try clear c18b0
                      try clear c18b1
                      try clear c19
                      try clear c19b0
                      try clear hx318_0
                      try clear p2
                      try clear p3
                      try clear p318
                      try clear p6
                      try clear q3
                      try clear q318
                      obtain ⟨x11_3, x12_3, rfl, rfl, HA, HK3, HO_5, HO_7, HB⟩ := hrel
                      cases gk with
                      | zero => exact absurd HA.out (by simp [wringerlaw13_SpreadSteps.l1])
                      | succ k3 =>
                        have H := HA.out
                        clear HA
                        simp only [wringerlaw13_SpreadSteps.l1] at H
                        by_cases c20 : x12_3 = 0
                        · rw [if_pos c20] at H
                          have c20b0 : (x12_3 == 0) = true := beq_iff_eq.mpr c20
                          have c20b1 : (x12_3 != 0) = false := bne_eq_false_iff_eq.mpr c20
                          clear c20
                          obtain ⟨ji21, hji21⟩ : ∃ j_ : Int, (wrap64 (x11_3 + 1)) = j_ := ⟨_, rfl⟩
                          replace H : (if 0 ≤ (ji21) then (if (ji21) < (t309.length : Int) then (wringerlaw13_SpreadSteps.l1 k3 t309 t313 ji9 x10_2 ji21 (rd t309 (ji21)) x13_2) else (none)) else (none)) = some r := by first | (rw [hji21] at H; exact H) | (simp only [hji21] at H ⊢; exact H)
                          have hji21w : (IntKind.i64.wrap (x11_3 + 1)) = ji21 := (i64_w _).trans hji21
                          by_cases c22 : 0 ≤ (ji21)
                          · rw [if_pos c22] at H
                            have c22b0 : decide (0 ≤ (ji21)) = true := decide_eq_true c22
                            clear c22
                            by_cases c23 : (ji21) < (t309.length : Int)
                            · rw [if_pos c23] at H
                              have c23b0 : decide ((ji21) < (t309.length : Int)) = true := decide_eq_true c23
                              clear c23
                              have H' := Aside0.mk H
                              clear H
                              have p320 : 0 ≤ ((ji21) : Int) := of_decide_eq_true (by first | (with_reducible assumption) | assumption)
                              have q320 : (ji21) < (t309.length : Int) := of_decide_eq_true (by first | (with_reducible assumption) | assumption)
                              obtain ⟨ad320, e320, hx320_0⟩ := Kd.at_int (Kd.R_reads' HO_5.out).2.2 (ji21) p320 q320
                              obtain rfl : ad318 = ad320 := (by injection e320)
                              replace p320 := eq_true p320
                              replace q320 := eq_true q320
                              go_wp2
                              repeat (go_quiet (fail); try go_wp2)
                              go_roundg k3
                              case measure => have := HJ9.out; have := HK2.out; have := HK3.out; omega
                              case rel => exact ⟨(ji21), (rd t309 (ji21)), (by first | rfl | (simp; done) | (simp only [← hji21] <;> (first | rfl | simp)) | (simp [*]; done)), (by first | rfl | (simp; done) | (simp only [← hji21] <;> (first | rfl | simp)) | (simp [*]; done)), H', ⟨by have := HJ9.out; have := HK2.out; have := HK3.out; omega⟩, ⟨by (with_reducible repeat (first | apply Kd.R_alloc | apply Kd.R_drewN | apply Kd.R_drew)); exact HO_5.out⟩, ⟨by (with_reducible repeat (first | apply Kd.R_alloc | apply Kd.R_drewN | apply Kd.R_drew)); exact HO_7.out⟩, ⟨by repeat (first | (with_reducible first | exact HB.out | apply below_alloc | apply pw_below_drewN | apply below_drew1) | exact HB.out)⟩⟩
                            · rw [if_neg c23] at H
                              exact absurd H (by simp)
                          · rw [if_neg c22] at H
                            exact absurd H (by simp)
                        · rw [if_neg c20] at H
                          have c20b0 : (x12_3 == 0) = false := beq_eq_false_iff_ne.mpr c20
                          have c20b1 : (x12_3 != 0) = true := bne_iff_ne.mpr c20
                          by_cases c24 : 0 ≤ x10_2
                          · rw [if_pos c24] at H
                            have c24b0 : decide (0 ≤ x10_2) = true := decide_eq_true c24
                            clear c24
                            by_cases c25 : x10_2 < (t313.length : Int)
                            · rw [if_pos c25] at H
                              have c25b0 : decide (x10_2 < (t313.length : Int)) = true := decide_eq_true c25
                              clear c25
                              by_cases c26 : (rd t313 x10_2) = x11_3
                              · rw [if_pos c26] at H
                                have c26b0 : ((rd t313 x10_2) == x11_3) = true := beq_iff_eq.mpr c26
                                have c26b1 : ((rd t313 x10_2) != x11_3) = false := bne_eq_false_iff_eq.mpr c26
                                clear c26
                                by_cases c27 : ji9 = 0
                                · rw [if_pos c27] at H
                                  exact absurd H (by simp)
                                · rw [if_neg c27] at H
                                  have c27b0 : (ji9 == 0) = false := beq_eq_false_iff_ne.mpr c27
                                  have c27b1 : (ji9 != 0) = true := bne_iff_ne.mpr c27
                                  have H' := Aside0.mk H
                                  clear H
                                  obtain ⟨Ao28, co28, eo28⟩ := Kd.R_slice HO_7.out
                                  subst eo28
                                  have p321 : 0 ≤ (x10_2 : Int) := of_decide_eq_true (by first | (with_reducible assumption) | assumption)
                                  have q321 : x10_2 < (t313.length : Int) := of_decide_eq_true (by first | (with_reducible assumption) | assumption)
                                  obtain ⟨ad321, e321, hx321_0⟩ := Kd.at_int (Kd.R_reads' HO_7.out).2.2 x10_2 p321 q321
                                  cases e321
                                  replace p321 := eq_true p321
                                  replace q321 := eq_true q321
                                  go_wp2
                                  repeat (go_quiet (fail); try go_wp2)
                                  go_roundg k3
                                  case measure => have := HJ9.out; have := HK2.out; have := HK3.out; omega
                                  case rel => exact ⟨(Int.tmod (wrap64 ((wrap64 ((wrap64 (x10_2 + (wrap64 (Int.tdiv ji9 2)))) + (wrap64 (Int.tdiv ji9 8)))) + 3)) ji9), (x11_3), (wrap64 (x12_3 - 1)), (wrap64 (x13_2 + 1)), (by first | rfl | (simp; done) | (simp only [← hji9] <;> (first | rfl | simp)) | (simp [*]; done)), (by first | rfl | (simp; done) | (simp [*]; done)), (by first | rfl | (simp; done) | (simp [*]; done)), (by first | rfl | (simp; done) | (simp [*]; done)), H', ⟨by have := HJ9.out; have := HK2.out; have := HK3.out; omega⟩, ⟨by (with_reducible repeat (first | apply Kd.R_alloc | apply Kd.R_drewN | apply Kd.R_drew)); exact HO_5.out⟩, ⟨by (with_reducible repeat (first | apply Kd.R_alloc | apply Kd.R_drewN | apply Kd.R_drew)); exact HO_7.out⟩, ⟨by repeat (first | (with_reducible first | exact HB.out | apply below_alloc | apply pw_below_drewN | apply below_drew1) | exact HB.out)⟩⟩
                              · rw [if_neg c26] at H
                                have c26b0 : ((rd t313 x10_2) == x11_3) = false := beq_eq_false_iff_ne.mpr c26
                                have c26b1 : ((rd t313 x10_2) != x11_3) = true := bne_iff_ne.mpr c26
                                obtain rfl := Option.some.inj H
                                obtain ⟨Ao29, co29, eo29⟩ := Kd.R_slice HO_7.out
                                subst eo29
                                have p321 : 0 ≤ (x10_2 : Int) := of_decide_eq_true (by first | (with_reducible assumption) | assumption)
                                have q321 : x10_2 < (t313.length : Int) := of_decide_eq_true (by first | (with_reducible assumption) | assumption)
                                obtain ⟨ad321, e321, hx321_0⟩ := Kd.at_int (Kd.R_reads' HO_7.out).2.2 x10_2 p321 q321
                                cases e321
                                replace p321 := eq_true p321
                                replace q321 := eq_true q321
                                go_wp2
                                repeat (go_quiet (fail); try go_wp2)
                                go_ret
                                exact ⟨by first | rfl | (simp [errW_none, errW_some] <;> rfl) | (simp only [← hji9]; first | rfl | (simp [errW_none, errW_some] <;> rfl)) | (simp [*, errW_none, errW_some] <;> rfl), by repeat (first | (with_reducible first | exact HB.out | apply below_alloc | apply pw_below_drewN | apply below_drew1) | exact HB.out)⟩
                            · rw [if_neg c25] at H
                              exact absurd H (by simp)
                          · rw [if_neg c24] at H
                            exact absurd H (by simp)
                  · rw [if_neg c19] at H
                    have c19b0 : decide (x13_2 < ji9) = false := decide_eq_false c19
                    clear c19
                    by_cases c30 : x10_2 = 0
                    · rw [if_pos c30] at H
                      have c30b0 : (x10_2 == 0) = true := beq_iff_eq.mpr c30
                      have c30b1 : (x10_2 != 0) = false := bne_eq_false_iff_eq.mpr c30
                      clear c30
                      replace H := Option.bind_eq_some_iff.mp H
                      obtain ⟨t319, A310, H⟩ := H
                      replace H : (some t319) = some r := H
                      have A31 := Aside0.mk A310
                      clear A310
                      obtain rfl := Option.some.inj H
                      go_wp2_with (first | (go_at_call 8; (with_reducible refine (wringerlaw13_awake.calls  t319 _ A31.out).mono ?_); rintro e w32 ⟨rfl, hb⟩; have n0_ := Aside0.mk (Kd.R_below (by (with_reducible repeat (first | apply Kd.R_alloc | apply Kd.R_drewN | apply Kd.R_drew)); exact HO_5.out) hb); have n1_ := Aside0.mk (Kd.R_below (by (with_reducible repeat (first | apply Kd.R_alloc | apply Kd.R_drewN | apply Kd.R_drew)); exact HO_7.out) hb); have n2_ := Aside0.mk (below_step (by repeat (first | (with_reducible first | exact HB.out | apply below_alloc | apply pw_below_drewN | apply below_drew1) | exact HB.out)) hb); clear HO_5; clear HO_7; clear HB; have HO_5 := n0_; have HO_7 := n1_; have HB := n2_; clear n0_ n1_ n2_; (try clear hb); (try clear hb2); (try clear hk); (try clear hi)))
                      repeat (go_quiet (first | (go_at_call 8; (with_reducible refine (wringerlaw13_awake.calls  t319 _ A31.out).mono ?_); rintro e w32 ⟨rfl, hb⟩; have n0_ := Aside0.mk (Kd.R_below (by (with_reducible repeat (first | apply Kd.R_alloc | apply Kd.R_drewN | apply Kd.R_drew)); exact HO_5.out) hb); have n1_ := Aside0.mk (Kd.R_below (by (with_reducible repeat (first | apply Kd.R_alloc | apply Kd.R_drewN | apply Kd.R_drew)); exact HO_7.out) hb); have n2_ := Aside0.mk (below_step (by repeat (first | (with_reducible first | exact HB.out | apply below_alloc | apply pw_below_drewN | apply below_drew1) | exact HB.out)) hb); clear HO_5; clear HO_7; clear HB; have HO_5 := n0_; have HO_7 := n1_; have HB := n2_; clear n0_ n1_ n2_; (try clear hb); (try clear hb2); (try clear hk); (try clear hi))); try go_wp2_with (first | (go_at_call 8; (with_reducible refine (wringerlaw13_awake.calls  t319 _ A31.out).mono ?_); rintro e w32 ⟨rfl, hb⟩; have n0_ := Aside0.mk (Kd.R_below (by (with_reducible repeat (first | apply Kd.R_alloc | apply Kd.R_drewN | apply Kd.R_drew)); exact HO_5.out) hb); have n1_ := Aside0.mk (Kd.R_below (by (with_reducible repeat (first | apply Kd.R_alloc | apply Kd.R_drewN | apply Kd.R_drew)); exact HO_7.out) hb); have n2_ := Aside0.mk (below_step (by repeat (first | (with_reducible first | exact HB.out | apply below_alloc | apply pw_below_drewN | apply below_drew1) | exact HB.out)) hb); clear HO_5; clear HO_7; clear HB; have HO_5 := n0_; have HO_7 := n1_; have HB := n2_; clear n0_ n1_ n2_; (try clear hb); (try clear hb2); (try clear hk); (try clear hi))))
                      go_ret
                      exact ⟨by first | rfl | (simp [errW_none, errW_some] <;> rfl) | (simp only [← hji9]; first | rfl | (simp [errW_none, errW_some] <;> rfl)) | (simp [*, errW_none, errW_some] <;> rfl), by repeat (first | (with_reducible first | exact HB.out | apply below_alloc | apply pw_below_drewN | apply below_drew1) | exact HB.out)⟩
                    · rw [if_neg c30] at H
                      have c30b0 : (x10_2 == 0) = false := beq_eq_false_iff_ne.mpr c30
                      have c30b1 : (x10_2 != 0) = true := bne_iff_ne.mpr c30
                      obtain rfl := Option.some.inj H
                      go_wp2
                      repeat (go_quiet (fail); try go_wp2)
                      go_ret
                      exact ⟨by first | rfl | (simp [errW_none, errW_some] <;> rfl) | (simp only [← hji9]; first | rfl | (simp [errW_none, errW_some] <;> rfl)) | (simp [*, errW_none, errW_some] <;> rfl), by repeat (first | (with_reducible first | exact HB.out | apply below_alloc | apply pw_below_drewN | apply below_drew1) | exact HB.out)⟩
            · rw [if_neg c18] at H
              exact absurd H (by simp)
    · rw [if_neg c8] at H
      exact absurd H (by simp)

/-- THE ONE PURE STATEMENT of wringerlaw13_SpreadSteps: yours. -/
def wringerlaw13_SpreadSteps.Pure : Prop := ∀ (l0 : List Int) (a1 : Int), l0.length ≤ maxLen → l0.length * 2 ≤ 140737488351232 → (∀ x ∈ l0, (Lit.int .u16 x).wf = true) → (Lit.int .u8 a1).wf = true → ∃ k, wringerlaw13_SpreadSteps.f k l0 a1 = some true
theorem wringerlaw13_SpreadSteps.walk (P : wringerlaw13_SpreadSteps.Pure) (a0 : Option Addr) (len0 cap0 : Nat) (z0 : List Int) (a1 : Int) (w : World) (w0 : (a0 = none ∧ len0 = 0 ∧ cap0 = 0 ∧ z0 = []) ∨ ∃ x, a0 = some x ∧ len0 ≤ cap0 ∧ cap0 ≤ maxLen ∧ z0.length = cap0 ∧ (∀ i, i < z0.length → w.cell? (x.add i) = some (.int .u16 (z0.getD i 0))) ∧ ∀ n ∈ z0, (Lit.int .u16 n).wf = true) (y0 : len0 * 2 ≤ 140737488351232) (w1 : (Lit.int .u8 a1).wf = true) :
    Calls Try.prog 7 #[.slice a0 len0 cap0, .int .u8 a1] w fun e w' => e = .returned (.bool true) ∧ Below w.heap.size w w' := by
  obtain ⟨l0, rfl, hr0, hm0, hw0, hc0⟩ := ReadsInt.ofRowC w0
  obtain ⟨k, h⟩ := P l0 a1 hm0 y0 hw0 w1
  refine (wringerlaw13_SpreadSteps.calls k _ _ l0 a1 true w (Kd.C_of_reads (d := (0 : Int)) (h1 := fun _ => rfl) hr0) hc0 h).mono ?_
  rintro e w' ⟨rfl, hd⟩
  exact ⟨rfl, hd⟩

end Go.Proofs.Ytlconnmfceabiaa.PA

-- ---- PureSpreadSteps
/- Classes stand from place 0 on, each place so much further than the one ahead: the plain statement of SpreadSteps holds for every input. Conditions: none. -/
namespace Go.Proofs.Ytlconnmfceabiaa.Pure
open Go.RowKit Go.Proofs.Ytlconnmfceabiaa.PA Go.Proofs.YtlconnmfceabiaaW.PrintWords Go.Proofs.YtlconnmfceabiaaW.PrintLast Go.Proofs.YtlconnmfceabiaaW.PrintMore Nl Sp
set_option linter.unusedVariables false
set_option linter.unusedSimpArgs false

/-- What stands from class c on. -/
def tailE (l : List Int) : Nat → Nat → List Int
  | 0, _ => []
  | d + 1, c => List.replicate (l.getD c 0).toNat (c : Int) ++ tailE l d (c + 1)
theorem expand_tail (l : List Int) : ∀ (d c : Nat), expand l (c + d) = expand l c ++ tailE l d c := by
  intro d
  induction d with
  | zero => intro c; simp [tailE]
  | succ d ih =>
    intro c
    have := ih (c + 1)
    rw [show c + 1 + d = c + (d + 1) by omega] at this
    rw [this, expand_succ, tailE, List.append_assoc]
theorem pos_succ (S i : Nat) (h : 0 < S) : posS S (i + 1) = (posS S i + S / 2 + S / 8 + 3) % S := by
  unfold posS
  rw [Nat.succ_mul, show stepS S = S / 2 + (S / 8 + 3) by unfold stepS; omega, ← Nat.mod_add_mod]
  congr 1; omega
def InvS (l : List Int) (i c left : Nat) : Prop := c ≤ 64 ∧ (expand l 65).drop i = List.replicate left (c : Int) ++ tailE l (64 - c) (c + 1)
theorem steps_l1 (l : List Int) (m : Nat) (hM : MayS l m) (i : Nat) (hi : i < 2 ^ m)
    (hn : ∀ (c left : Nat), left ≤ 4096 → InvS l (i + 1) c left → Ev (fun k => wringerlaw13_SpreadSteps.l0 k l (spread l (2 ^ m)) ((2 ^ m : Nat) : Int) ((posS (2 ^ m) (i + 1) : Nat) : Int) (c : Int) (left : Int) ((i + 1 : Nat) : Int)) true) :
    ∀ (d c left : Nat), c + d = 64 → left ≤ 4096 → InvS l i c left → Ev (fun k => wringerlaw13_SpreadSteps.l1 k l (spread l (2 ^ m)) ((2 ^ m : Nat) : Int) ((posS (2 ^ m) i : Nat) : Int) (c : Int) (left : Int) (i : Int)) true := by
  have hp12 : 2 ^ m ≤ 4096 := by have := pow2_le m 12 hM.hi; omega
  have hlen := hM.length_expand
  rw [hM.len] at hlen
  have hsl := length_spread l (2 ^ m)
  have hpos := pos_lt hM.lo hM.hi i
  have hget := putN_get hM.lo hM.hi (expand l 65) (by omega) i (by omega)
  have hsp : spread l (2 ^ m) = (putN (2 ^ m) (expand l 65)).1 := by unfold spread; rw [hM.len]
  intro d
  induction d with
  | zero =>
    intro c left hc hl hinv
    have hc64 : c = 64 := by omega
    subst hc64
    obtain ⟨_, h⟩ := hinv
    simp only [Nat.sub_self, tailE, List.append_nil] at h
    have hl0 : 0 < left := by
      have := congrArg List.length h
      simp at this; omega
    obtain ⟨left, rfl⟩ : ∃ n, left = n + 1 := ⟨left - 1, by omega⟩
    have hx : (expand l 65).getD i 0 = ((64 : Nat) : Int) := by
      rw [List.drop_eq_getElem_cons (by omega), List.replicate_succ] at h
      have := (List.cons.inj h).1
      simp [List.getD_eq_getElem?_getD, show i < (expand l 65).length by omega, this]
    have hin2 : InvS l (i + 1) 64 left := ⟨by omega, by
      rw [List.drop_eq_getElem_cons (by omega), List.replicate_succ] at h
      simp only [Nat.sub_self, tailE, List.append_nil]
      exact (List.cons.inj h).2⟩
    refine Ev.step (fun k => ?_) (hn 64 left (by omega) hin2)
    simp only [wringerlaw13_SpreadSteps.l1]
    rw [if_neg (by omega), if_pos (by omega), if_pos (by omega), rd_nat, hsp, hget, hx, if_pos rfl, if_neg (by omega), next_at _ _ hp12 hpos, ← pos_succ _ _ (by omega), w64 (by omega) (by omega), w64 (by omega) (by omega), show ((left + 1 : Nat) : Int) - 1 = (left : Int) by omega]; rfl
  | succ d ih =>
    intro c left hc hl hinv
    obtain ⟨_, h⟩ := hinv
    cases left with
    | zero =>
      have hx := hM.each _ (getD_mem (show c + 1 < l.length by rw [hM.len]; omega))
      have hin2 : InvS l i (c + 1) (l.getD (c + 1) 0).toNat := ⟨by omega, by
        rw [h, show 64 - c = (64 - (c + 1)) + 1 by omega, tailE]; simp⟩
      refine Ev.step (fun k => ?_) (ih (c + 1) (l.getD (c + 1) 0).toNat (by omega) (by omega) hin2)
      simp only [wringerlaw13_SpreadSteps.l1]
      have hl65 := hM.len
      have c2 : (0 : Int) ≤ ((c + 1 : Nat) : Int) := by omega
      have c3 : ((c + 1 : Nat) : Int) < (l.length : Int) := by omega
      have e1 : wrap64 ((c : Int) + 1) = ((c + 1 : Nat) : Int) := by rw [w64 (by omega) (by omega)]; rfl
      rw [if_pos (show ((0 : Nat) : Int) = 0 from rfl), e1, if_pos c2, if_pos c3, rd_nat, Int.toNat_of_nonneg hx.1]
    | succ left =>
      have hx : (expand l 65).getD i 0 = (c : Int) := by
        rw [List.drop_eq_getElem_cons (by omega), List.replicate_succ] at h
        have := (List.cons.inj h).1
        simp [List.getD_eq_getElem?_getD, show i < (expand l 65).length by omega, this]
      have hin2 : InvS l (i + 1) c left := ⟨by omega, by
        rw [List.drop_eq_getElem_cons (by omega), List.replicate_succ] at h
        exact (List.cons.inj h).2⟩
      refine Ev.step (fun k => ?_) (hn c left (by omega) hin2)
      simp only [wringerlaw13_SpreadSteps.l1]
      rw [if_neg (by omega), if_pos (by omega), if_pos (by omega), rd_nat, hsp, hget, hx, if_pos rfl, if_neg (by omega), next_at _ _ hp12 hpos, ← pos_succ _ _ (by omega), w64 (by omega) (by omega), w64 (by omega) (by omega), show ((left + 1 : Nat) : Int) - 1 = (left : Int) by omega]; rfl
theorem steps_l0 (l : List Int) (m : Nat) (hM : MayS l m) : ∀ (d i c left : Nat), i + d = 2 ^ m → left ≤ 4096 → InvS l i c left →
    Ev (fun k => wringerlaw13_SpreadSteps.l0 k l (spread l (2 ^ m)) ((2 ^ m : Nat) : Int) ((posS (2 ^ m) i : Nat) : Int) (c : Int) (left : Int) (i : Int)) true := by
  intro d
  induction d with
  | zero =>
    intro i c left hi hl hinv
    have hz : posS (2 ^ m) i = 0 := by unfold posS; rw [show i = 2 ^ m by omega]; exact Nat.mul_mod_right _ _
    refine Ev.step (f := fun _ => (wringerlaw13_awake.f).bind fun t => some t) (fun k => ?_) (Ev.bind0 awake13 (Ev.now _))
    simp only [wringerlaw13_SpreadSteps.l0]
    rw [if_neg (by omega), if_pos (by omega)]
  | succ d ih =>
    intro i c left hi hl hinv
    refine Ev.step (fun k => ?_) (steps_l1 l m hM i (by omega) (fun c left hl2 hinv2 => ih (i + 1) c left (by omega) hl2 hinv2) (64 - c) c left (by have := hinv.1; omega) hl hinv)
    simp only [wringerlaw13_SpreadSteps.l0]
    rw [if_pos (by omega)]
theorem SpreadSteps : wringerlaw13_SpreadSteps.Pure := by
  intro l0 a1 _ _ hw ha
  apply Ev.rounds
  unfold wringerlaw13_SpreadSteps.f
  by_cases hl : (l0.length : Int) > 140
  · exact Ev.ite_pos hl (Ev.bind0 awake13 (Ev.now _))
  · refine Ev.ite_neg hl ?_
    obtain ⟨f, m, hc, hf, h7, h12, _⟩ := counts_is l0 hw (by omega) a1 ha
    have hmay := norm_mayN hf h7 h12
    generalize normL f ((2 ^ m : Nat) : Int) = l at hc hmay
    have hM := mayS_of hmay
    have hs := spread_is l (m : Int)
    rw [spreadE_ok hmay] at hs
    have hx := hM.each _ (getD_mem (show 0 < l.length by rw [hM.len]; decide))
    have hp12 : 2 ^ m ≤ 4096 := by have := pow2_le m 12 h12; omega
    refine Ev.bind hc (Ev.bind hs (Ev.ite_pos (by omega) ?_))
    refine Ev.bind0 (rfl : wringerlaw1_Err.f _ = some _) (Ev.ite_pos rfl ?_)
    have h0 := steps_l0 l m hM (2 ^ m) 0 0 (l.getD 0 0).toNat (by omega) (by omega) ⟨by omega, by
      have := expand_tail l 65 0
      rw [show 0 + 65 = 65 from rfl] at this
      rw [List.drop_zero, this, tailE]; simp [expand]⟩
    refine Ev.step (fun k => ?_) h0
    simp only [wringerlaw13_SpreadSteps.j0]
    have hsl := length_spread l (2 ^ m)
    rw [if_neg (by rw [shl_1 m (by omega), hsl]; simp), if_pos (by rw [hM.len]; decide), shl_1 m (by omega), Int.toNat_of_nonneg hx.1]
    have e : rd l 0 = l.getD 0 0 := rd_nat l 0
    rw [e]; simp [posS]
end Go.Proofs.Ytlconnmfceabiaa.Pure

-- ---- LawSpreadSteps

namespace Go.Proofs.Ytlconnmfceabiaa.spreadSteps
open Go.ChangeShapes Go.WideShapes Go.ChangeAt Go.RowKit
open Go.ChangeMaps (open_string shut_string)
set_option linter.unusedVariables false
theorem own : ownKnob Try.prog.godebug = none := by kernel_rfl
theorem laidOut : laidOutB Try.prog = true := by kernel_rfl
def IsRow (k : IntKind) (w : World) (a : Option Addr) (len cap : Nat) (zs : List Int) : Prop :=
  (a = none ∧ len = 0 ∧ cap = 0 ∧ zs = []) ∨
  ∃ x, a = some x ∧ len ≤ cap ∧ cap ≤ maxLen ∧ zs.length = cap ∧ (∀ i, i < zs.length → w.cell? (x.add i) = some (.int k (zs.getD i 0))) ∧ ∀ n ∈ zs, (Lit.int k n).wf = true
set_option maxRecDepth 100000 in
theorem lifted (os : Os) (started : os.Started) (H : Type) (enc : TypeId × Value → H) :
    ReturnsInHanded {} Try.checked os 7 .any (Rows.spreadStepsSpec.pre6 enc Try.prog Try.f7 Rows.spreadStepsRow.domain false) (Rows.spreadStepsSpec.post enc Try.prog Try.f7 false true false false) := by
  refine returnsInHanded_of_change_sized (C := Try.checked) own started (by kernel_rfl) Try.func7
    (ChangeSpec.witness6 (enc := enc) (C := Try.checked) false ⟨#[], #[.slice none 0 0, .int .u8 0], []⟩ 8 (by kernel_rfl) (by kernel_rfl) (by kernel_rfl) (by kernel_rfl)) ?_
  intro W base args ds gs before hval0 hW hcnd hsz0 _
  have hsz : (DataW.weightsEach Try.prog (Try.f7.params.toList ++ Rows.spreadStepsSpec.plain.varTypes Try.prog) (ds ++ gs)).all (· ≤ reachBytes) = true := hsz0
  have hval : ∀ (j : Nat) t v, Try.f7.params[j]? = some t → args[j]? = some v → Value.okWide Try.prog W .any base t v := hval0
  have hW' := hW
  obtain ⟨p, q, hA0, hV, rfl, hfz, hnd⟩ := hW
  have hA : DataW.TrodAll enc Try.prog W 0 (fun _ => true) true Try.f7.params.toList args.toList ds p := hA0
  rw [Try.params7] at hA hval hsz
  obtain ⟨v0, vs0, d0, ds0, p0, q0, hargs, rfl, rfl, h0, r0⟩ := trodAll_cons hA
  obtain ⟨v1, vs1, d1, ds1, p1, q1, rfl, rfl, rfl, h1, r1⟩ := trodAll_cons r0
  obtain ⟨rfl, rfl, rfl⟩ := trodAll_nil r1
  obtain rfl : args = #[v0, v1] := by cases args; simp_all
  obtain ⟨rfl, rfl⟩ := trodVars_none hV
  obtain ⟨a0, len0, cap0, rfl⟩ := okWide_slice Try.underlying40 (hval 0 40 v0 rfl rfl)
  have k0 := h0
  have lt0 : ∀ x ∈ p0, x.block < W.heap.size := by obtain ⟨m, hm⟩ := k0; exact DataW.trod_lt m _ _ _ hm
  obtain ⟨z0, w0⟩ : ∃ zs, IsRow .u16 W a0 len0 cap0 zs := by
    obtain ⟨fuel, hf⟩ := h0
    rcases open_ints Try.underlying40 Try.underlying56 (by kernel_rfl) hf with ⟨hcs, _⟩ | ⟨x, l, c, zs, hcs, _, hl, hm, hz, _, hcell, hwz⟩
    · simp [Value.cells] at hcs
      obtain ⟨rfl, rfl, rfl⟩ := hcs
      exact ⟨[], .inl ⟨rfl, rfl, rfl, rfl⟩⟩
    · simp [Value.cells] at hcs
      obtain ⟨rfl, rfl, rfl⟩ := hcs
      exact ⟨zs, .inr ⟨_, rfl, hl, hm, by simpa using hz, hcell, hwz⟩⟩
  have y0 : len0 * 2 ≤ 140737488351232 := Go.Proofs.YtlconnmfceabiaaW.PrintWords.sized_ints hsz (j := 0) (t := 40) rfl rfl Try.underlying40 Try.underlying56 (by kernel_rfl) (by kernel_rfl) h0
  obtain ⟨a1, rfl, rfl, rfl, w1⟩ := open_int Try.underlying5 (hval 1 5 v1 rfl rfl) h1
  clear hA0 hval0 hsz0 hsz
  refine (PA.wringerlaw13_SpreadSteps.walk Pure.SpreadSteps a0 len0 cap0 z0 a1 W w0 y0 w1).mono fun e W' ⟨he, bel⟩ => ?_
  subst he
  exact ⟨_, rfl, _, _, _, [], _, [], hW', trodAll_mk1 (shut_bool Try.underlying4 _), (trodAll_cons_mk (Below.trod laidOut (by kernel_rfl) (of_decide_eq_true (by kernel_rfl)) k0 bel lt0) (trodAll_cons_mk (shut_int Try.underlying5 w1) trodAll_mk0)), rfl, bel.frame _, fun h => by cases h⟩
theorem over : Rows.spreadStepsRow.holds Try.pinned (OpenSpec.ofChange Rows.spreadStepsSpec) :=
  OpenClaim.holds_of_wide 7 Try.f7 rfl rfl rfl rfl rfl rfl rfl ⟨rfl, rfl, rfl, rfl, rfl⟩ rfl rfl rfl rfl rfl (by kernel_rfl) Try.func7 (by kernel_rfl)
    (of_decide_eq_true (by kernel_rfl)) (by unfold Func.isWrapper; first | (rw [if_pos (by decide +kernel)]; kernel_rfl) | (rw [if_neg (by decide +kernel)]; exact ⟨rfl, rfl⟩))
    (fun os started H enc _ => lifted os started H enc)
theorem proved : Rows.SpreadStepsSaid := over
#print axioms proved
end Go.Proofs.Ytlconnmfceabiaa.spreadSteps
namespace Go.Proofs.Ytlconnmfceabiaa
/-- The row, under a short name, for the claim. -/
theorem spreadSteps_holds : Rows.SpreadStepsSaid := spreadSteps.proved
end Go.Proofs.Ytlconnmfceabiaa
