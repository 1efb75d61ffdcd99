/- Part SpreadPlaces1 of what the layer's laws stand on: PAx21, PureSpreadPlaces, LawSpreadPlaces. Written by a program (merge.py) out of this session's own texts and of what the kit's print wrote over stand-ins (sp.py). Conditions: those that each theorem names. -/
import Derived.Test.YtlconnmfceabiaaQB1
import Derived.Test.YtlconnmfceabiaaQB2
import Derived.Test.YtlconnmfceabiaaQB3
import Derived.Test.YtlconnmfceabiaaRows
import Derived.WalkKit
import Derived.ProofKit
import Derived.OpenShut
import Derived.ShutString
import Derived.ChangeOld
import Derived.Below
import Derived.SizedLaws
import Derived.Test.YtlconnmfceabiaaWSized
-- ---- PAx21

namespace Go.Proofs.Ytlconnmfceabiaa.PA
open Go.RowKit Go.Proofs.YtlconnmfceabiaaW.PrintWords Go.Proofs.YtlconnmfceabiaaW.PrintLast Go.Proofs.YtlconnmfceabiaaW.PrintMore
attribute [local go_sem] max2_int min2_int max_two min_two max_three min_three max_four min_four   -- for this text's walks alone
set_option linter.unusedVariables false
set_option linter.unusedSimpArgs false

/-! ### wringerlaw13_SpreadPlaces: function 5 -/
mutual
def wringerlaw13_SpreadPlaces.j0 : Nat → Int → List Int → Int → List (S45) → Int → Bool → Option (Bool)
  | 0, _, _, _, _, _, _ => none
  | k + 1, x2, x7, x8, x9, x11, x45 => if x45 = true then (some false) else (if 65 ≤ 35184372088832 then (if 0 ≤ x11 then (if (x11 : Int).toNat ≤ 35184372088832 then (wringerlaw13_SpreadPlaces.l0 k x7 x8 x9 x11 (List.replicate 65 0) (Int.tmod (wrap64 (x2)) 65) (List.replicate (x11 : Int).toNat 0) 0) else (none)) else (none)) else (none))
def wringerlaw13_SpreadPlaces.l0 : Nat → List Int → Int → List (S45) → Int → List Int → Int → List Int → Int → Option (Bool)
  | 0, _, _, _, _, _, _, _, _ => none
  | k + 1, x7, x8, x9, x11, x12, x13, x14, x15 => if x15 < x11 then (if 0 ≤ x15 then (if x15 < (x9.length : Int) then (if ((rd_T45 x9 x15).f0) < 0 then (wringerlaw13_SpreadPlaces.j2 k x7 x8 x9 x11 x12 x13 x14 x15 true ((rd_T45 x9 x15).f0) ((rd_T45 x9 x15).f1) ((rd_T45 x9 x15).f2)) else (if ((rd_T45 x9 x15).f0) > 64 then (wringerlaw13_SpreadPlaces.j2 k x7 x8 x9 x11 x12 x13 x14 x15 true ((rd_T45 x9 x15).f0) ((rd_T45 x9 x15).f1) ((rd_T45 x9 x15).f2)) else (if ((rd_T45 x9 x15).f1) < 0 then (wringerlaw13_SpreadPlaces.j2 k x7 x8 x9 x11 x12 x13 x14 x15 true ((rd_T45 x9 x15).f0) ((rd_T45 x9 x15).f1) ((rd_T45 x9 x15).f2)) else (if ((rd_T45 x9 x15).f1) > x8 then (wringerlaw13_SpreadPlaces.j2 k x7 x8 x9 x11 x12 x13 x14 x15 true ((rd_T45 x9 x15).f0) ((rd_T45 x9 x15).f1) ((rd_T45 x9 x15).f2)) else (if ((rd_T45 x9 x15).f2) < 0 then (wringerlaw13_SpreadPlaces.j2 k x7 x8 x9 x11 x12 x13 x14 x15 true ((rd_T45 x9 x15).f0) ((rd_T45 x9 x15).f1) ((rd_T45 x9 x15).f2)) else (if 0 ≤ ((rd_T45 x9 x15).f1) then (wringerlaw13_SpreadPlaces.j2 k x7 x8 x9 x11 x12 x13 x14 x15 (decide ((wrap64 (((rd_T45 x9 x15).f2) + (shl .i64 1 ((rd_T45 x9 x15).f1)))) > x11)) ((rd_T45 x9 x15).f0) ((rd_T45 x9 x15).f1) ((rd_T45 x9 x15).f2)) else (none))))))) else (none)) else (none)) else (wringerlaw13_SpreadPlaces.l2 k x7 x11 x12 x13 x14 0)
def wringerlaw13_SpreadPlaces.j2 : Nat → List Int → Int → List (S45) → Int → List Int → Int → List Int → Int → Bool → Int → Int → Int → Option (Bool)
  | 0, _, _, _, _, _, _, _, _, _, _, _, _ => none
  | k + 1, x7, x8, x9, x11, x12, x13, x14, x15, x94, x260000, x260001, x260002 => if x94 = true then (some false) else (if 0 ≤ x260000 then (if x260000 < (x12.length : Int) then ((some (x12.set (x260000 : Int).toNat (wrap64 ((rd x12 x260000) + 1)) : List Int)).bind fun y261 => (if x260000 = x13 then (wringerlaw13_SpreadPlaces.l1 k x7 x8 x9 x11 y261 x13 x14 x15 0 x260000 x260001 x260002) else (wringerlaw13_SpreadPlaces.l0 k x7 x8 x9 x11 y261 x13 x14 (wrap64 (x15 + 1))))) else (none)) else (none))
def wringerlaw13_SpreadPlaces.l1 : Nat → List Int → Int → List (S45) → Int → List Int → Int → List Int → Int → Int → Int → Int → Int → Option (Bool)
  | 0, _, _, _, _, _, _, _, _, _, _, _, _ => none
  | k + 1, x7, x8, x9, x11, x12, x13, x14, x15, x17, x260000, x260001, x260002 => if 0 ≤ x260001 then (if x17 < (shl .i64 1 x260001) then (if 0 ≤ (wrap64 (x260002 + x17)) then (if (wrap64 (x260002 + x17)) < (x14.length : Int) then (wringerlaw13_SpreadPlaces.l1 k x7 x8 x9 x11 x12 x13 (x14.set ((wrap64 (x260002 + x17)) : Int).toNat (wrap64 ((rd x14 (wrap64 (x260002 + x17))) + 1))) x15 (wrap64 (x17 + 1)) x260000 x260001 x260002) else (none)) else (none)) else (wringerlaw13_SpreadPlaces.l0 k x7 x8 x9 x11 x12 x13 x14 (wrap64 (x15 + 1)))) else (none)
def wringerlaw13_SpreadPlaces.l2 : Nat → List Int → Int → List Int → Int → List Int → Int → Option (Bool)
  | 0, _, _, _, _, _, _ => none
  | k + 1, x7, x11, x12, x13, x14, x18 => if x18 < x11 then (if 0 ≤ x18 then (if x18 < (x14.length : Int) then (if (rd x14 x18) = 1 then (if (rd x14 x18) = 0 then (wringerlaw13_SpreadPlaces.l2 k x7 x11 x12 x13 x14 (wrap64 (x18 + 1))) else (if 0 ≤ x13 then (if x13 < (x7.length : Int) then (if (rd x7 x13) = 0 then (some false) else (wringerlaw13_SpreadPlaces.l2 k x7 x11 x12 x13 x14 (wrap64 (x18 + 1)))) else (none)) else (none))) else (if 0 ≤ x13 then (if x13 < (x7.length : Int) then (if (rd x7 x13) > 0 then (some false) else (if (rd x14 x18) = 0 then (wringerlaw13_SpreadPlaces.l2 k x7 x11 x12 x13 x14 (wrap64 (x18 + 1))) else (if (rd x7 x13) = 0 then (some false) else (wringerlaw13_SpreadPlaces.l2 k x7 x11 x12 x13 x14 (wrap64 (x18 + 1)))))) else (none)) else (none))) else (none)) else (none)) else ((wringerref7_SameInts.f k x12 x7).bind fun t270 => (if t270 = true then ((wringerlaw13_awake.f).bind fun t271 => (some t271)) else (some false)))
end
def wringerlaw13_SpreadPlaces.f (k : Nat) (l0 : List Int) (a1 : Int) (a2 : Int) : Option (Bool) := if (l0.length : Int) > 140 then ((wringerlaw13_awake.f).bind fun t242 => (some t242)) else ((wringerlaw13_Counts.f k l0 a1).bind fun bt243 => ((spread_Table.f bt243.1 bt243.2).bind fun bt247 => (if 0 ≤ bt243.2 then ((wringerlaw1_Err.f bt247.2).bind fun t251 => (if t251 = 0 then (wringerlaw13_SpreadPlaces.j0 k a2 bt243.1 bt243.2 bt247.1 (shl .i64 1 bt243.2) ((bt247.1.length : Int) != (shl .i64 1 bt243.2))) else (wringerlaw13_SpreadPlaces.j0 k a2 bt243.1 bt243.2 bt247.1 (shl .i64 1 bt243.2) true))) else (none))))
theorem wringerlaw13_SpreadPlaces.mono_l : ∀ k, (∀ y0 y1 y2 y3 y4 y5, LeO (wringerlaw13_SpreadPlaces.j0 k y0 y1 y2 y3 y4 y5) (wringerlaw13_SpreadPlaces.j0 (k + 1) y0 y1 y2 y3 y4 y5)) ∧ (∀ y0 y1 y2 y3 y4 y5 y6 y7, LeO (wringerlaw13_SpreadPlaces.l0 k y0 y1 y2 y3 y4 y5 y6 y7) (wringerlaw13_SpreadPlaces.l0 (k + 1) y0 y1 y2 y3 y4 y5 y6 y7)) ∧ (∀ y0 y1 y2 y3 y4 y5 y6 y7 y8 y9 y10 y11, LeO (wringerlaw13_SpreadPlaces.j2 k y0 y1 y2 y3 y4 y5 y6 y7 y8 y9 y10 y11) (wringerlaw13_SpreadPlaces.j2 (k + 1) y0 y1 y2 y3 y4 y5 y6 y7 y8 y9 y10 y11)) ∧ (∀ y0 y1 y2 y3 y4 y5 y6 y7 y8 y9 y10 y11, LeO (wringerlaw13_SpreadPlaces.l1 k y0 y1 y2 y3 y4 y5 y6 y7 y8 y9 y10 y11) (wringerlaw13_SpreadPlaces.l1 (k + 1) y0 y1 y2 y3 y4 y5 y6 y7 y8 y9 y10 y11)) ∧ (∀ y0 y1 y2 y3 y4 y5, LeO (wringerlaw13_SpreadPlaces.l2 k y0 y1 y2 y3 y4 y5) (wringerlaw13_SpreadPlaces.l2 (k + 1) y0 y1 y2 y3 y4 y5))
  | 0 => ⟨fun _ _ _ _ _ _ r h => by simp [wringerlaw13_SpreadPlaces.j0] at h, fun _ _ _ _ _ _ _ _ r h => by simp [wringerlaw13_SpreadPlaces.l0] at h, fun _ _ _ _ _ _ _ _ _ _ _ _ r h => by simp [wringerlaw13_SpreadPlaces.j2] at h, fun _ _ _ _ _ _ _ _ _ _ _ _ r h => by simp [wringerlaw13_SpreadPlaces.l1] at h, fun _ _ _ _ _ _ r h => by simp [wringerlaw13_SpreadPlaces.l2] at h⟩
  | k + 1 => by
    obtain ⟨ih0, ih1, ih2, ih3, ih4⟩ := wringerlaw13_SpreadPlaces.mono_l k
    refine ⟨?_, ?_, ?_, ?_, ?_⟩
    · intro y0 y1 y2 y3 y4 y5
      unfold wringerlaw13_SpreadPlaces.j0
      repeat' first
      | (with_reducible exact ih0 _ _ _ _ _ _)
      | (with_reducible exact ih1 _ _ _ _ _ _ _ _)
      | (with_reducible exact ih2 _ _ _ _ _ _ _ _ _ _ _ _)
      | (with_reducible exact ih3 _ _ _ _ _ _ _ _ _ _ _ _)
      | (with_reducible exact ih4 _ _ _ _ _ _)
      | (with_reducible exact wringerlaw13_Counts.mono _ _ _)
      | (with_reducible exact wringerref7_SameInts.mono _ _ _)
      | (with_reducible exact LeO.refl _)
      | (with_reducible exact LeO.none _)
      | (with_reducible refine LeO.ite ?_ ?_)
      | (with_reducible refine LeO.bind ?_ (fun _ => ?_))
      | exact ih0 _ _ _ _ _ _
      | exact ih1 _ _ _ _ _ _ _ _
      | exact ih2 _ _ _ _ _ _ _ _ _ _ _ _
      | exact ih3 _ _ _ _ _ _ _ _ _ _ _ _
      | exact ih4 _ _ _ _ _ _
      | exact wringerlaw13_Counts.mono _ _ _
      | exact wringerref7_SameInts.mono _ _ _
      | exact LeO.none _
      | refine LeO.ite ?_ ?_
      | refine LeO.bind ?_ (fun _ => ?_)
    · intro y0 y1 y2 y3 y4 y5 y6 y7
      unfold wringerlaw13_SpreadPlaces.l0
      repeat' first
      | (with_reducible exact ih0 _ _ _ _ _ _)
      | (with_reducible exact ih1 _ _ _ _ _ _ _ _)
      | (with_reducible exact ih2 _ _ _ _ _ _ _ _ _ _ _ _)
      | (with_reducible exact ih3 _ _ _ _ _ _ _ _ _ _ _ _)
      | (with_reducible exact ih4 _ _ _ _ _ _)
      | (with_reducible exact wringerlaw13_Counts.mono _ _ _)
      | (with_reducible exact wringerref7_SameInts.mono _ _ _)
      | (with_reducible exact LeO.refl _)
      | (with_reducible exact LeO.none _)
      | (with_reducible refine LeO.ite ?_ ?_)
      | (with_reducible refine LeO.bind ?_ (fun _ => ?_))
      | exact ih0 _ _ _ _ _ _
      | exact ih1 _ _ _ _ _ _ _ _
      | exact ih2 _ _ _ _ _ _ _ _ _ _ _ _
      | exact ih3 _ _ _ _ _ _ _ _ _ _ _ _
      | exact ih4 _ _ _ _ _ _
      | exact wringerlaw13_Counts.mono _ _ _
      | exact wringerref7_SameInts.mono _ _ _
      | exact LeO.none _
      | refine LeO.ite ?_ ?_
      | refine LeO.bind ?_ (fun _ => ?_)
    · intro y0 y1 y2 y3 y4 y5 y6 y7 y8 y9 y10 y11
      unfold wringerlaw13_SpreadPlaces.j2
      repeat' first
      | (with_reducible exact ih0 _ _ _ _ _ _)
      | (with_reducible exact ih1 _ _ _ _ _ _ _ _)
      | (with_reducible exact ih2 _ _ _ _ _ _ _ _ _ _ _ _)
      | (with_reducible exact ih3 _ _ _ _ _ _ _ _ _ _ _ _)
      | (with_reducible exact ih4 _ _ _ _ _ _)
      | (with_reducible exact wringerlaw13_Counts.mono _ _ _)
      | (with_reducible exact wringerref7_SameInts.mono _ _ _)
      | (with_reducible exact LeO.refl _)
      | (with_reducible exact LeO.none _)
      | (with_reducible refine LeO.ite ?_ ?_)
      | (with_reducible refine LeO.bind ?_ (fun _ => ?_))
      | exact ih0 _ _ _ _ _ _
      | exact ih1 _ _ _ _ _ _ _ _
      | exact ih2 _ _ _ _ _ _ _ _ _ _ _ _
      | exact ih3 _ _ _ _ _ _ _ _ _ _ _ _
      | exact ih4 _ _ _ _ _ _
      | exact wringerlaw13_Counts.mono _ _ _
      | exact wringerref7_SameInts.mono _ _ _
      | exact LeO.none _
      | refine LeO.ite ?_ ?_
      | refine LeO.bind ?_ (fun _ => ?_)
    · intro y0 y1 y2 y3 y4 y5 y6 y7 y8 y9 y10 y11
      unfold wringerlaw13_SpreadPlaces.l1
      repeat' first
      | (with_reducible exact ih0 _ _ _ _ _ _)
      | (with_reducible exact ih1 _ _ _ _ _ _ _ _)
      | (with_reducible exact ih2 _ _ _ _ _ _ _ _ _ _ _ _)
      | (with_reducible exact ih3 _ _ _ _ _ _ _ _ _ _ _ _)
      | (with_reducible exact ih4 _ _ _ _ _ _)
      | (with_reducible exact wringerlaw13_Counts.mono _ _ _)
      | (with_reducible exact wringerref7_SameInts.mono _ _ _)
      | (with_reducible exact LeO.refl _)
      | (with_reducible exact LeO.none _)
      | (with_reducible refine LeO.ite ?_ ?_)
      | (with_reducible refine LeO.bind ?_ (fun _ => ?_))
      | exact ih0 _ _ _ _ _ _
      | exact ih1 _ _ _ _ _ _ _ _
      | exact ih2 _ _ _ _ _ _ _ _ _ _ _ _
      | exact ih3 _ _ _ _ _ _ _ _ _ _ _ _
      | exact ih4 _ _ _ _ _ _
      | exact wringerlaw13_Counts.mono _ _ _
      | exact wringerref7_SameInts.mono _ _ _
      | exact LeO.none _
      | refine LeO.ite ?_ ?_
      | refine LeO.bind ?_ (fun _ => ?_)
    · intro y0 y1 y2 y3 y4 y5
      unfold wringerlaw13_SpreadPlaces.l2
      repeat' first
      | (with_reducible exact ih0 _ _ _ _ _ _)
      | (with_reducible exact ih1 _ _ _ _ _ _ _ _)
      | (with_reducible exact ih2 _ _ _ _ _ _ _ _ _ _ _ _)
      | (with_reducible exact ih3 _ _ _ _ _ _ _ _ _ _ _ _)
      | (with_reducible exact ih4 _ _ _ _ _ _)
      | (with_reducible exact wringerlaw13_Counts.mono _ _ _)
      | (with_reducible exact wringerref7_SameInts.mono _ _ _)
      | (with_reducible exact LeO.refl _)
      | (with_reducible exact LeO.none _)
      | (with_reducible refine LeO.ite ?_ ?_)
      | (with_reducible refine LeO.bind ?_ (fun _ => ?_))
      | exact ih0 _ _ _ _ _ _
      | exact ih1 _ _ _ _ _ _ _ _
      | exact ih2 _ _ _ _ _ _ _ _ _ _ _ _
      | exact ih3 _ _ _ _ _ _ _ _ _ _ _ _
      | exact ih4 _ _ _ _ _ _
      | exact wringerlaw13_Counts.mono _ _ _
      | exact wringerref7_SameInts.mono _ _ _
      | exact LeO.none _
      | refine LeO.ite ?_ ?_
      | refine LeO.bind ?_ (fun _ => ?_)
theorem wringerlaw13_SpreadPlaces.mono : ∀ a0 a1 a2 k, LeO (wringerlaw13_SpreadPlaces.f k a0 a1 a2) (wringerlaw13_SpreadPlaces.f (k + 1) a0 a1 a2) := by
  intro a0 a1 a2 k
  obtain ⟨ih0, ih1, ih2, ih3, ih4⟩ := wringerlaw13_SpreadPlaces.mono_l k
  unfold wringerlaw13_SpreadPlaces.f
  repeat' first
      | (with_reducible exact ih0 _ _ _ _ _ _)
      | (with_reducible exact ih1 _ _ _ _ _ _ _ _)
      | (with_reducible exact ih2 _ _ _ _ _ _ _ _ _ _ _ _)
      | (with_reducible exact ih3 _ _ _ _ _ _ _ _ _ _ _ _)
      | (with_reducible exact ih4 _ _ _ _ _ _)
      | (with_reducible exact wringerlaw13_Counts.mono _ _ _)
      | (with_reducible exact wringerref7_SameInts.mono _ _ _)
      | (with_reducible exact LeO.refl _)
      | (with_reducible exact LeO.none _)
      | (with_reducible refine LeO.ite ?_ ?_)
      | (with_reducible refine LeO.bind ?_ (fun _ => ?_))
      | exact ih0 _ _ _ _ _ _
      | exact ih1 _ _ _ _ _ _ _ _
      | exact ih2 _ _ _ _ _ _ _ _ _ _ _ _
      | exact ih3 _ _ _ _ _ _ _ _ _ _ _ _
      | exact ih4 _ _ _ _ _ _
      | exact wringerlaw13_Counts.mono _ _ _
      | exact wringerref7_SameInts.mono _ _ _
      | exact LeO.none _
      | refine LeO.ite ?_ ?_
      | refine LeO.bind ?_ (fun _ => ?_)
set_option maxHeartbeats 8000000 in
set_option maxRecDepth 100000 in
theorem wringerlaw13_SpreadPlaces.calls (k : Nat) (A0 : Option Addr) (c0 : Nat) (l0 : List Int) (a1 : Int) (a2 : Int) (r : Bool) (w : World) (hr0 : Kd.C (Kd.int .u16) w A0 l0.length l0) (hc0 : l0.length ≤ c0) (h : wringerlaw13_SpreadPlaces.f k l0 a1 a2 = some r) :
    Calls Try.prog 5 #[.slice A0 l0.length c0, .int .u8 a1, .int .u8 a2] w fun e w' => e = .returned (.bool r) ∧ Below w.heap.size w w' := by
  have hu45 := Try.underlying45
  have HR0 := Aside0.mk hr0
  have HC0 := Aside0.mk hc0
  clear hr0 hc0
  have HB := Aside0.mk (Below.refl w.heap.size w)
  have H : (if (l0.length : Int) > 140 then ((wringerlaw13_awake.f).bind fun t242 => (some t242)) else ((wringerlaw13_Counts.f k l0 a1).bind fun bt243 => ((spread_Table.f bt243.1 bt243.2).bind fun bt247 => (if 0 ≤ bt243.2 then ((wringerlaw1_Err.f bt247.2).bind fun t251 => (if t251 = 0 then (wringerlaw13_SpreadPlaces.j0 k a2 bt243.1 bt243.2 bt247.1 (shl .i64 1 bt243.2) ((bt247.1.length : Int) != (shl .i64 1 bt243.2))) else (wringerlaw13_SpreadPlaces.j0 k a2 bt243.1 bt243.2 bt247.1 (shl .i64 1 bt243.2) true))) else (none))))) = some r := h
  clear h
  by_cases c4 : (l0.length : Int) > 140
  · rw [if_pos c4] at H
    have c4b0 : decide (140 < (l0.length : Int)) = true := decide_eq_true c4
    have c4b1 : decide (140 < l0.length) = true := decide_eq_true (by omega)
    clear c4
    replace H := Option.bind_eq_some_iff.mp H
    obtain ⟨t242, A50, H⟩ := H
    replace H : (some t242) = some r := H
    have A5 := Aside0.mk A50
    clear A50
    obtain rfl := Option.some.inj H
    go_enter Try.func5, Try.ntmps5
    go_wp2_with (first | (go_at_call 8; (with_reducible refine (wringerlaw13_awake.calls  t242 _ A5.out).mono ?_); rintro e w6 ⟨rfl, hb⟩; have n0_ := Aside0.mk (below_step (by repeat (first | (with_reducible first | exact HB.out | apply below_alloc | apply pw_below_drewN | apply below_drew1) | exact HB.out)) hb); clear HB; have HB := n0_; clear n0_; (try clear hb); (try clear hb2); (try clear hk); (try clear hi)))
    repeat (go_quiet (first | (go_at_call 8; (with_reducible refine (wringerlaw13_awake.calls  t242 _ A5.out).mono ?_); rintro e w6 ⟨rfl, hb⟩; have n0_ := Aside0.mk (below_step (by repeat (first | (with_reducible first | exact HB.out | apply below_alloc | apply pw_below_drewN | apply below_drew1) | exact HB.out)) hb); clear HB; have HB := n0_; clear n0_; (try clear hb); (try clear hb2); (try clear hk); (try clear hi))); try go_wp2_with (first | (go_at_call 8; (with_reducible refine (wringerlaw13_awake.calls  t242 _ A5.out).mono ?_); rintro e w6 ⟨rfl, hb⟩; have n0_ := Aside0.mk (below_step (by repeat (first | (with_reducible first | exact HB.out | apply below_alloc | apply pw_below_drewN | apply below_drew1) | exact HB.out)) hb); clear HB; have HB := n0_; clear n0_; (try clear hb); (try clear hb2); (try clear hk); (try clear hi))))
    go_ret
    exact ⟨by first | rfl | (simp [errW_none, errW_some] <;> rfl) | (simp [*, errW_none, errW_some] <;> rfl), by repeat (first | (with_reducible first | exact HB.out | apply below_alloc | apply pw_below_drewN | apply below_drew1) | exact HB.out)⟩
  · rw [if_neg c4] at H
    have c4b0 : decide (140 < (l0.length : Int)) = false := decide_eq_false c4
    have c4b1 : decide (140 < l0.length) = false := decide_eq_false (by omega)
    clear c4
    replace H := Option.bind_eq_some_iff.mp H
    obtain ⟨⟨t243, t244⟩, A70, H⟩ := H
    replace H : ((spread_Table.f t243 t244).bind fun bt247 => (if 0 ≤ t244 then ((wringerlaw1_Err.f bt247.2).bind fun t251 => (if t251 = 0 then (wringerlaw13_SpreadPlaces.j0 k a2 t243 t244 bt247.1 (shl .i64 1 t244) ((bt247.1.length : Int) != (shl .i64 1 t244))) else (wringerlaw13_SpreadPlaces.j0 k a2 t243 t244 bt247.1 (shl .i64 1 t244) true))) else (none))) = some r := H
    have A7 := Aside0.mk A70
    clear A70
    replace H := Option.bind_eq_some_iff.mp H
    obtain ⟨⟨t247, t248⟩, A80, H⟩ := H
    replace H : (if 0 ≤ t244 then ((wringerlaw1_Err.f t248).bind fun t251 => (if t251 = 0 then (wringerlaw13_SpreadPlaces.j0 k a2 t243 t244 t247 (shl .i64 1 t244) ((t247.length : Int) != (shl .i64 1 t244))) else (wringerlaw13_SpreadPlaces.j0 k a2 t243 t244 t247 (shl .i64 1 t244) true))) else (none)) = some r := H
    have A8 := Aside0.mk A80
    clear A80
    by_cases c9 : 0 ≤ t244
    · rw [if_pos c9] at H
      have c9b0 := eq_true c9
      have c9b1 : decide (0 ≤ t244) = true := decide_eq_true c9
      clear c9
      obtain ⟨ji10, hji10⟩ : ∃ j_ : Int, (shl .i64 1 t244) = j_ := ⟨_, rfl⟩
      replace H : ((wringerlaw1_Err.f t248).bind fun t251 => (if t251 = 0 then (wringerlaw13_SpreadPlaces.j0 k a2 t243 t244 t247 ji10 ((t247.length : Int) != (ji10))) else (wringerlaw13_SpreadPlaces.j0 k a2 t243 t244 t247 ji10 true))) = some r := by first | (rw [hji10] at H; exact H) | (simp only [hji10] at H ⊢; exact H)
      (try rw [hji10] at A7)
      (try rw [hji10] at A8)
      have hji10_ : (IntKind.i64.wrap (1 * 2 ^ min t244.toNat 64)) = ji10 := hji10
      have hji10z : t244 ≤ 64 → (IntKind.i64.wrap (1 * 2 ^ t244.toNat)) = ji10 := shl_small hji10
      have hji10u : (IntKind.i64.wrap (2 ^ min t244.toNat 64)) = ji10 := by have h_ := hji10_; rw [Int.one_mul] at h_; exact h_
      have hji10v : t244 ≤ 64 → (IntKind.i64.wrap (2 ^ t244.toNat)) = ji10 := fun hle_ => by have h_ := hji10z hle_; rw [Int.one_mul] at h_; exact h_
      have hji10y : (wrap64 (1 * 2 ^ min t244.toNat 64)) = ji10 := (i64_w _).symm.trans hji10_
      have hji10x : t244 ≤ 64 → (wrap64 (1 * 2 ^ t244.toNat)) = ji10 := fun h_ => (i64_w _).symm.trans (hji10z h_)
      have HC11 := Aside0.mk H
      clear H
      go_enter Try.func5, Try.ntmps5
      go_upto_region 6 with (first | (go_at_call 16; (with_reducible refine (wringerlaw13_Counts.calls k _ _ l0 a1 t243 t244 _ ?side1 ?side2 A7.out).mono ?_); (case side1 => repeat (first | exact HR0.out | (with_reducible refine Kd.C_alloc ?_ _) | (with_reducible refine Kd.C_drewN ?_ _) | (with_reducible refine Kd.C_drew ?_))); (case side2 => exact HC0.out); rintro e w12 ⟨v245, rfl, ho0, hb⟩; have n0_ := Aside0.mk (Kd.R_lower ho0 (below_size (by repeat (first | (with_reducible first | exact HB.out | apply below_alloc | apply pw_below_drewN | apply below_drew1) | exact HB.out)))); have n1_ := Aside0.mk (below_step (by repeat (first | (with_reducible first | exact HB.out | apply below_alloc | apply pw_below_drewN | apply below_drew1) | exact HB.out)) hb); clear HB; have HO246 := n0_; have HB := n1_; clear n0_ n1_; (try clear hb); (try clear hb2); (try clear hk); (try clear hi); (try clear ho0); obtain ⟨Ao13, co13, eo13⟩ := Kd.R_slice HO246.out; subst eo13) | (go_at_call 11; (with_reducible refine (spread_Table.calls _ _ t243 t244 t247 t248 _ ?side1 ?side2 A8.out).mono ?_); (case side1 => repeat (first | exact (Kd.R_reads' HO246.out).2.2 | (with_reducible refine Kd.C_alloc ?_ _) | (with_reducible refine Kd.C_drewN ?_ _) | (with_reducible refine Kd.C_drew ?_))); (case side2 => exact (Kd.R_reads' HO246.out).2.1); rintro e w14 ⟨v249, rfl, ho0, hb⟩; have n0_ := Aside0.mk (Kd.R_below (by (with_reducible repeat (first | apply Kd.R_alloc | apply Kd.R_drewN | apply Kd.R_drew)); exact HO246.out) hb); have n1_ := Aside0.mk (Kd.R_lower ho0 (below_size (by repeat (first | (with_reducible first | exact HB.out | apply below_alloc | apply pw_below_drewN | apply below_drew1) | exact HB.out)))); have n2_ := Aside0.mk (below_step (by repeat (first | (with_reducible first | exact HB.out | apply below_alloc | apply pw_below_drewN | apply below_drew1) | exact HB.out)) hb); clear HO246; clear HB; have HO246 := n0_; have HO250 := n1_; have HB := n2_; clear n0_ n1_ n2_; (try clear hb); (try clear hb2); (try clear hk); (try clear hi); (try clear ho0)))
      repeat (go_quiet (first | (go_at_call 16; (with_reducible refine (wringerlaw13_Counts.calls k _ _ l0 a1 t243 t244 _ ?side1 ?side2 A7.out).mono ?_); (case side1 => repeat (first | exact HR0.out | (with_reducible refine Kd.C_alloc ?_ _) | (with_reducible refine Kd.C_drewN ?_ _) | (with_reducible refine Kd.C_drew ?_))); (case side2 => exact HC0.out); rintro e w12 ⟨v245, rfl, ho0, hb⟩; have n0_ := Aside0.mk (Kd.R_lower ho0 (below_size (by repeat (first | (with_reducible first | exact HB.out | apply below_alloc | apply pw_below_drewN | apply below_drew1) | exact HB.out)))); have n1_ := Aside0.mk (below_step (by repeat (first | (with_reducible first | exact HB.out | apply below_alloc | apply pw_below_drewN | apply below_drew1) | exact HB.out)) hb); clear HB; have HO246 := n0_; have HB := n1_; clear n0_ n1_; (try clear hb); (try clear hb2); (try clear hk); (try clear hi); (try clear ho0); obtain ⟨Ao13, co13, eo13⟩ := Kd.R_slice HO246.out; subst eo13) | (go_at_call 11; (with_reducible refine (spread_Table.calls _ _ t243 t244 t247 t248 _ ?side1 ?side2 A8.out).mono ?_); (case side1 => repeat (first | exact (Kd.R_reads' HO246.out).2.2 | (with_reducible refine Kd.C_alloc ?_ _) | (with_reducible refine Kd.C_drewN ?_ _) | (with_reducible refine Kd.C_drew ?_))); (case side2 => exact (Kd.R_reads' HO246.out).2.1); rintro e w14 ⟨v249, rfl, ho0, hb⟩; have n0_ := Aside0.mk (Kd.R_below (by (with_reducible repeat (first | apply Kd.R_alloc | apply Kd.R_drewN | apply Kd.R_drew)); exact HO246.out) hb); have n1_ := Aside0.mk (Kd.R_lower ho0 (below_size (by repeat (first | (with_reducible first | exact HB.out | apply below_alloc | apply pw_below_drewN | apply below_drew1) | exact HB.out)))); have n2_ := Aside0.mk (below_step (by repeat (first | (with_reducible first | exact HB.out | apply below_alloc | apply pw_below_drewN | apply below_drew1) | exact HB.out)) hb); clear HO246; clear HB; have HO246 := n0_; have HO250 := n1_; have HB := n2_; clear n0_ n1_ n2_; (try clear hb); (try clear hb2); (try clear hk); (try clear hi); (try clear ho0))); go_upto_region 6 with (first | (go_at_call 16; (with_reducible refine (wringerlaw13_Counts.calls k _ _ l0 a1 t243 t244 _ ?side1 ?side2 A7.out).mono ?_); (case side1 => repeat (first | exact HR0.out | (with_reducible refine Kd.C_alloc ?_ _) | (with_reducible refine Kd.C_drewN ?_ _) | (with_reducible refine Kd.C_drew ?_))); (case side2 => exact HC0.out); rintro e w12 ⟨v245, rfl, ho0, hb⟩; have n0_ := Aside0.mk (Kd.R_lower ho0 (below_size (by repeat (first | (with_reducible first | exact HB.out | apply below_alloc | apply pw_below_drewN | apply below_drew1) | exact HB.out)))); have n1_ := Aside0.mk (below_step (by repeat (first | (with_reducible first | exact HB.out | apply below_alloc | apply pw_below_drewN | apply below_drew1) | exact HB.out)) hb); clear HB; have HO246 := n0_; have HB := n1_; clear n0_ n1_; (try clear hb); (try clear hb2); (try clear hk); (try clear hi); (try clear ho0); obtain ⟨Ao13, co13, eo13⟩ := Kd.R_slice HO246.out; subst eo13) | (go_at_call 11; (with_reducible refine (spread_Table.calls _ _ t243 t244 t247 t248 _ ?side1 ?side2 A8.out).mono ?_); (case side1 => repeat (first | exact (Kd.R_reads' HO246.out).2.2 | (with_reducible refine Kd.C_alloc ?_ _) | (with_reducible refine Kd.C_drewN ?_ _) | (with_reducible refine Kd.C_drew ?_))); (case side2 => exact (Kd.R_reads' HO246.out).2.1); rintro e w14 ⟨v249, rfl, ho0, hb⟩; have n0_ := Aside0.mk (Kd.R_below (by (with_reducible repeat (first | apply Kd.R_alloc | apply Kd.R_drewN | apply Kd.R_drew)); exact HO246.out) hb); have n1_ := Aside0.mk (Kd.R_lower ho0 (below_size (by repeat (first | (with_reducible first | exact HB.out | apply below_alloc | apply pw_below_drewN | apply below_drew1) | exact HB.out)))); have n2_ := Aside0.mk (below_step (by repeat (first | (with_reducible first | exact HB.out | apply below_alloc | apply pw_below_drewN | apply below_drew1) | exact HB.out)) hb); clear HO246; clear HB; have HO246 := n0_; have HO250 := n1_; have HB := n2_; clear n0_ n1_ n2_; (try clear hb); (try clear hb2); (try clear hk); (try clear hi); (try clear ho0))))
      (try simp only [Act.put, List.setIfInBounds_toArray, List.set_cons_zero, List.set_cons_succ])
      go_cut [45] (fun v45 wc => ∃ (kq : Nat) (x45_10 : Bool), v45 = .bool x45_10 ∧ Aside0 (wringerlaw13_SpreadPlaces.j0 kq a2 t243 t244 t247 ji10 x45_10 = some r) ∧ Aside0 (kq ≤ k) ∧ Aside0 (Kd.R (Kd.int .i64) 3 wc w.heap.size (fun _ => True) (.slice Ao13 t243.length co13) t243) ∧ Aside0 (Kd.R k45 45 wc w.heap.size (fun _ => True) v249 t247) ∧ Aside0 (Below w.heap.size w wc))
      case first =>
        have H := HC11.out
        clear HC11
        replace H := Option.bind_eq_some_iff.mp H
        obtain ⟨t251, A150, H⟩ := H
        replace H : (if t251 = 0 then (wringerlaw13_SpreadPlaces.j0 k a2 t243 t244 t247 ji10 ((t247.length : Int) != (ji10))) else (wringerlaw13_SpreadPlaces.j0 k a2 t243 t244 t247 ji10 true)) = some r := H
        have A15 := Aside0.mk A150
        clear A150
        by_cases c16 : t251 = 0
        · rw [if_pos c16] at H
          have c16b0 : (t251 == 0) = true := beq_iff_eq.mpr c16
          have c16b1 : (t251 != 0) = false := bne_eq_false_iff_eq.mpr c16
          clear c16
          (first | rw [c16b0] | (simp only [i64_w, i32_w]; rw [c16b0]) | skip)
          have H' := Aside0.mk H
          clear H
          go_wp2_with (first | (go_at_call 14; (with_reducible refine (wringerlaw1_Err.calls t248 t251 _ A15.out).mono ?_); rintro e w' ⟨rfl, ⟨nd, rfl⟩⟩; (try first | exact ⟨rfl, _, World.drewN_drewN _ _ _⟩ | exact ⟨rfl, _, Eq.trans (World.drewN_drewN _ _ _) (congrArg (World.drewN _) (Nat.add_assoc _ _ _))⟩); obtain ⟨Ao17, co17, eo17⟩ := Kd.R_slice HO250.out; subst eo17))
          repeat (go_quiet (first | (go_at_call 14; (with_reducible refine (wringerlaw1_Err.calls t248 t251 _ A15.out).mono ?_); rintro e w' ⟨rfl, ⟨nd, rfl⟩⟩; (try first | exact ⟨rfl, _, World.drewN_drewN _ _ _⟩ | exact ⟨rfl, _, Eq.trans (World.drewN_drewN _ _ _) (congrArg (World.drewN _) (Nat.add_assoc _ _ _))⟩); obtain ⟨Ao17, co17, eo17⟩ := Kd.R_slice HO250.out; subst eo17)); try go_wp2_with (first | (go_at_call 14; (with_reducible refine (wringerlaw1_Err.calls t248 t251 _ A15.out).mono ?_); rintro e w' ⟨rfl, ⟨nd, rfl⟩⟩; (try first | exact ⟨rfl, _, World.drewN_drewN _ _ _⟩ | exact ⟨rfl, _, Eq.trans (World.drewN_drewN _ _ _) (congrArg (World.drewN _) (Nat.add_assoc _ _ _))⟩); obtain ⟨Ao17, co17, eo17⟩ := Kd.R_slice HO250.out; subst eo17)))
          go_meet
          case rel => exact ⟨_, (((t247.length : Int) != (ji10))), (by first | rfl | (simp; done) | (simp only [← hji10] <;> (first | rfl | simp)) | (simp [*]; done)), H', ⟨by first | omega | exact Nat.le_refl _⟩, ⟨by (with_reducible repeat (first | apply Kd.R_alloc | apply Kd.R_drewN | apply Kd.R_drew)); exact HO246.out⟩, ⟨by (with_reducible repeat (first | apply Kd.R_alloc | apply Kd.R_drewN | apply Kd.R_drew)); exact HO250.out⟩, ⟨by repeat (first | (with_reducible first | exact HB.out | apply below_alloc | apply pw_below_drewN | apply below_drew1) | exact HB.out)⟩⟩
        · rw [if_neg c16] at H
          have c16b0 : (t251 == 0) = false := beq_eq_false_iff_ne.mpr c16
          have c16b1 : (t251 != 0) = true := bne_iff_ne.mpr c16
          (first | rw [c16b0] | (simp only [i64_w, i32_w]; rw [c16b0]) | skip)
          have H' := Aside0.mk H
          clear H
          go_wp2_with (first | (go_at_call 14; (with_reducible refine (wringerlaw1_Err.calls t248 t251 _ A15.out).mono ?_); rintro e w' ⟨rfl, ⟨nd, rfl⟩⟩; (try first | exact ⟨rfl, _, World.drewN_drewN _ _ _⟩ | exact ⟨rfl, _, Eq.trans (World.drewN_drewN _ _ _) (congrArg (World.drewN _) (Nat.add_assoc _ _ _))⟩)))
          repeat (go_quiet (first | (go_at_call 14; (with_reducible refine (wringerlaw1_Err.calls t248 t251 _ A15.out).mono ?_); rintro e w' ⟨rfl, ⟨nd, rfl⟩⟩; (try first | exact ⟨rfl, _, World.drewN_drewN _ _ _⟩ | exact ⟨rfl, _, Eq.trans (World.drewN_drewN _ _ _) (congrArg (World.drewN _) (Nat.add_assoc _ _ _))⟩))); try go_wp2_with (first | (go_at_call 14; (with_reducible refine (wringerlaw1_Err.calls t248 t251 _ A15.out).mono ?_); rintro e w' ⟨rfl, ⟨nd, rfl⟩⟩; (try first | exact ⟨rfl, _, World.drewN_drewN _ _ _⟩ | exact ⟨rfl, _, Eq.trans (World.drewN_drewN _ _ _) (congrArg (World.drewN _) (Nat.add_assoc _ _ _))⟩))))
          go_meet
          case rel => exact ⟨_, (true), (by first | rfl | (simp; done) | (simp [*]; done)), H', ⟨by first | omega | exact Nat.le_refl _⟩, ⟨by (with_reducible repeat (first | apply Kd.R_alloc | apply Kd.R_drewN | apply Kd.R_drew)); exact HO246.out⟩, ⟨by (with_reducible repeat (first | apply Kd.R_alloc | apply Kd.R_drewN | apply Kd.R_drew)); exact HO250.out⟩, ⟨by repeat (first | (with_reducible first | exact HB.out | apply below_alloc | apply pw_below_drewN | apply below_drew1) | exact HB.out)⟩⟩
      case rest =>
        clear HC11
        try clear c1
        try clear p2
        try clear c4
        try clear c4b0
        try clear c4b1
        try clear c5
        try clear p6
        try clear c9
        try clear c9b0
        try clear c9b1
        try clear c16
        try clear c16b0
        try clear c16b1
        obtain ⟨kq, x45_10, rfl, HA, HJ10, HO_7, HO_9, HB⟩ := hcut
        cases kq with
        | zero => exact absurd HA.out (by simp [wringerlaw13_SpreadPlaces.j0])
        | succ kj10 =>
          have H := HA.out
          clear HA
          simp only [wringerlaw13_SpreadPlaces.j0] at H
          by_cases c18 : x45_10 = true
          · subst c18
            have H1 : (some false) = some r := by rw [if_pos rfl] at H; exact H
            clear H
            have H := H1
            clear H1
            obtain rfl := Option.some.inj H
            go_wp2
            repeat (go_quiet (fail); try go_wp2)
            go_ret
            exact ⟨by first | rfl | (simp [errW_none, errW_some] <;> rfl) | (simp only [← hji10]; first | rfl | (simp [errW_none, errW_some] <;> rfl)) | (simp [*, errW_none, errW_some] <;> rfl), by repeat (first | (with_reducible first | exact HB.out | apply below_alloc | apply pw_below_drewN | apply below_drew1) | exact HB.out)⟩
          · replace c18 := Bool.eq_false_iff.mpr c18
            subst c18
            have H1 : (if 65 ≤ 35184372088832 then (if 0 ≤ ji10 then (if (ji10 : Int).toNat ≤ 35184372088832 then (wringerlaw13_SpreadPlaces.l0 kj10 t243 t244 t247 ji10 (List.replicate 65 0) (Int.tmod (wrap64 (a2)) 65) (List.replicate (ji10 : Int).toNat 0) 0) else (none)) else (none)) else (none)) = some r := by rw [if_neg (show ¬ (false = true) by decide)] at H; exact H
            clear H
            have H := H1
            clear H1
            by_cases c19 : 65 ≤ 35184372088832
            · rw [if_pos c19] at H
              have c19b0 := eq_true c19
              have c19b1 : decide (65 ≤ 35184372088832) = true := decide_eq_true c19
              clear c19
              obtain ⟨y252, hy252⟩ : ∃ y_ : List Int, y_ = (List.replicate 65 0) := ⟨_, rfl⟩
              replace H : (if 0 ≤ ji10 then (if (ji10 : Int).toNat ≤ 35184372088832 then (wringerlaw13_SpreadPlaces.l0 kj10 t243 t244 t247 ji10 y252 (Int.tmod (wrap64 (a2)) 65) (List.replicate (ji10 : Int).toNat 0) 0) else (none)) else (none)) = some r := by first | (rw [hy252]; with_reducible exact H) | (have H2_ := (Option.bind_some _ _).symm.trans H; rw [hy252]; with_reducible exact H2_) | (have H2_ := (Option.bind_some _ _).symm.trans H; with_reducible exact H2_) | with_reducible exact H | (rw [hy252]; exact H) | exact H
              have Ny252 := Aside0.mk hy252
              clear hy252
              by_cases c20 : 0 ≤ ji10
              · rw [if_pos c20] at H
                have c20b0 := eq_true c20
                have c20b1 : decide (0 ≤ ji10) = true := decide_eq_true c20
                clear c20
                by_cases c21 : (ji10 : Int).toNat ≤ 35184372088832
                · rw [if_pos c21] at H
                  have c21b0 := eq_true c21
                  have c21b1 : decide ((ji10 : Int).toNat ≤ 35184372088832) = true := decide_eq_true c21
                  clear c21
                  obtain ⟨y255, hy255⟩ : ∃ y_ : List Int, y_ = (List.replicate (ji10 : Int).toNat 0) := ⟨_, rfl⟩
                  replace H : (wringerlaw13_SpreadPlaces.l0 kj10 t243 t244 t247 ji10 y252 (Int.tmod (wrap64 (a2)) 65) y255 0) = some r := by first | (rw [hy255]; with_reducible exact H) | (have H2_ := (Option.bind_some _ _).symm.trans H; rw [hy255]; with_reducible exact H2_) | (have H2_ := (Option.bind_some _ _).symm.trans H; with_reducible exact H2_) | with_reducible exact H | (rw [hy255]; exact H) | exact H
                  have Ny255 := Aside0.mk hy255
                  clear hy255
                  have H' := Aside0.mk H
                  clear H
                  go_wp2_with (first | ((with_reducible refine gate_dst (N := 46) rfl ?_); (try (refine gate_guard (by rfl) ?_; dsimp only)); refine Kd.R_make (Kd.int .i64) _ 3 rfl (N := 46) rfl 22 _ _ rfl 65 rfl rfl Try.underlying22 (.int .i64 0) 8 info3 rfl (by decide) (by omega) 0 (ok := fun _ => True) (okp := fun _ => True) rfl (fun _ hk => hk) trivial (by omega) (by omega) (Below.refl _ _) (Nat.le_refl _) ?_; intro v253 w22 ho23 hb hg_ hnew_; clear hg_ hnew_; (first | rw [← Ny252.out] at ho23 | (simp only [Int.reduceToNat] at ho23; rw [← Ny252.out] at ho23)); have n0_ := Aside0.mk (Kd.R_elder' (by (with_reducible repeat (first | apply Kd.R_alloc | apply Kd.R_drewN | apply Kd.R_drew)); exact HO_7.out) (Kd.R_base ho23) hb); have n1_ := Aside0.mk (Kd.R_below (by (with_reducible repeat (first | apply Kd.R_alloc | apply Kd.R_drewN | apply Kd.R_drew)); exact HO_9.out) hb); have n2_ := Aside0.mk (Kd.R_lower (Kd.R_new' ho23 (Kd.R_lt (by (with_reducible repeat (first | apply Kd.R_alloc | apply Kd.R_drewN | apply Kd.R_drew)); exact HO_7.out))) (below_size (by repeat (first | (with_reducible first | exact HB.out | apply below_alloc | apply pw_below_drewN | apply below_drew1) | exact HB.out)))); have n3_ := Aside0.mk (below_step (by repeat (first | (with_reducible first | exact HB.out | apply below_alloc | apply pw_below_drewN | apply below_drew1) | exact HB.out)) hb); clear HO_7; clear HO_9; clear HB; have HO_7 := n0_; have HO_9 := n1_; have HO254 := n2_; have HB := n3_; clear n0_ n1_ n2_ n3_; clear hb ho23) | ((with_reducible refine gate_dst (N := 51) rfl ?_); (try (refine gate_guard (by rfl) ?_; dsimp only)); refine Kd.R_make (Kd.int .i64) _ 3 rfl (N := 51) rfl 22 _ _ rfl ji10 rfl rfl Try.underlying22 (.int .i64 0) 8 info3 rfl (by decide) (by omega) 0 (ok := fun _ => True) (okp := fun _ => True) rfl (fun _ hk => hk) trivial (of_decide_eq_true (by first | (with_reducible assumption) | assumption)) (Nat.le_trans (Nat.mul_le_mul_right _ (of_decide_eq_true (by first | (with_reducible assumption) | assumption) : ji10.toNat ≤ 35184372088832)) (by omega)) (Below.refl _ _) (Nat.le_refl _) ?_; intro v256 w24 ho25 hb hg_ hnew_; clear hg_ hnew_; (first | rw [← Ny255.out] at ho25 | (simp only [Int.reduceToNat] at ho25; rw [← Ny255.out] at ho25)); have n0_ := Aside0.mk (Kd.R_elder' (by (with_reducible repeat (first | apply Kd.R_alloc | apply Kd.R_drewN | apply Kd.R_drew)); exact HO_7.out) (Kd.R_base ho25) hb); have n1_ := Aside0.mk (Kd.R_below (by (with_reducible repeat (first | apply Kd.R_alloc | apply Kd.R_drewN | apply Kd.R_drew)); exact HO_9.out) hb); have n2_ := Aside0.mk (Kd.R_elder' (by (with_reducible repeat (first | apply Kd.R_alloc | apply Kd.R_drewN | apply Kd.R_drew)); exact HO254.out) (Kd.R_base ho25) hb); have n3_ := Aside0.mk (Kd.R_lower (Kd.R_new' (Kd.R_new' ho25 (Kd.R_lt (by (with_reducible repeat (first | apply Kd.R_alloc | apply Kd.R_drewN | apply Kd.R_drew)); exact HO_7.out))) (Kd.R_lt (by (with_reducible repeat (first | apply Kd.R_alloc | apply Kd.R_drewN | apply Kd.R_drew)); exact HO254.out))) (below_size (by repeat (first | (with_reducible first | exact HB.out | apply below_alloc | apply pw_below_drewN | apply below_drew1) | exact HB.out)))); have n4_ := Aside0.mk (below_step (by repeat (first | (with_reducible first | exact HB.out | apply below_alloc | apply pw_below_drewN | apply below_drew1) | exact HB.out)) hb); clear HO_7; clear HO_9; clear HO254; clear HB; have HO_7 := n0_; have HO_9 := n1_; have HO254 := n2_; have HO257 := n3_; have HB := n4_; clear n0_ n1_ n2_ n3_ n4_; clear hb ho25))
                  repeat (go_quiet (first | ((with_reducible refine gate_dst (N := 46) rfl ?_); (try (refine gate_guard (by rfl) ?_; dsimp only)); refine Kd.R_make (Kd.int .i64) _ 3 rfl (N := 46) rfl 22 _ _ rfl 65 rfl rfl Try.underlying22 (.int .i64 0) 8 info3 rfl (by decide) (by omega) 0 (ok := fun _ => True) (okp := fun _ => True) rfl (fun _ hk => hk) trivial (by omega) (by omega) (Below.refl _ _) (Nat.le_refl _) ?_; intro v253 w22 ho23 hb hg_ hnew_; clear hg_ hnew_; (first | rw [← Ny252.out] at ho23 | (simp only [Int.reduceToNat] at ho23; rw [← Ny252.out] at ho23)); have n0_ := Aside0.mk (Kd.R_elder' (by (with_reducible repeat (first | apply Kd.R_alloc | apply Kd.R_drewN | apply Kd.R_drew)); exact HO_7.out) (Kd.R_base ho23) hb); have n1_ := Aside0.mk (Kd.R_below (by (with_reducible repeat (first | apply Kd.R_alloc | apply Kd.R_drewN | apply Kd.R_drew)); exact HO_9.out) hb); have n2_ := Aside0.mk (Kd.R_lower (Kd.R_new' ho23 (Kd.R_lt (by (with_reducible repeat (first | apply Kd.R_alloc | apply Kd.R_drewN | apply Kd.R_drew)); exact HO_7.out))) (below_size (by repeat (first | (with_reducible first | exact HB.out | apply below_alloc | apply pw_below_drewN | apply below_drew1) | exact HB.out)))); have n3_ := Aside0.mk (below_step (by repeat (first | (with_reducible first | exact HB.out | apply below_alloc | apply pw_below_drewN | apply below_drew1) | exact HB.out)) hb); clear HO_7; clear HO_9; clear HB; have HO_7 := n0_; have HO_9 := n1_; have HO254 := n2_; have HB := n3_; clear n0_ n1_ n2_ n3_; clear hb ho23) | ((with_reducible refine gate_dst (N := 51) rfl ?_); (try (refine gate_guard (by rfl) ?_; dsimp only)); refine Kd.R_make (Kd.int .i64) _ 3 rfl (N := 51) rfl 22 _ _ rfl ji10 rfl rfl Try.underlying22 (.int .i64 0) 8 info3 rfl (by decide) (by omega) 0 (ok := fun _ => True) (okp := fun _ => True) rfl (fun _ hk => hk) trivial (of_decide_eq_true (by first | (with_reducible assumption) | assumption)) (Nat.le_trans (Nat.mul_le_mul_right _ (of_decide_eq_true (by first | (with_reducible assumption) | assumption) : ji10.toNat ≤ 35184372088832)) (by omega)) (Below.refl _ _) (Nat.le_refl _) ?_; intro v256 w24 ho25 hb hg_ hnew_; clear hg_ hnew_; (first | rw [← Ny255.out] at ho25 | (simp only [Int.reduceToNat] at ho25; rw [← Ny255.out] at ho25)); have n0_ := Aside0.mk (Kd.R_elder' (by (with_reducible repeat (first | apply Kd.R_alloc | apply Kd.R_drewN | apply Kd.R_drew)); exact HO_7.out) (Kd.R_base ho25) hb); have n1_ := Aside0.mk (Kd.R_below (by (with_reducible repeat (first | apply Kd.R_alloc | apply Kd.R_drewN | apply Kd.R_drew)); exact HO_9.out) hb); have n2_ := Aside0.mk (Kd.R_elder' (by (with_reducible repeat (first | apply Kd.R_alloc | apply Kd.R_drewN | apply Kd.R_drew)); exact HO254.out) (Kd.R_base ho25) hb); have n3_ := Aside0.mk (Kd.R_lower (Kd.R_new' (Kd.R_new' ho25 (Kd.R_lt (by (with_reducible repeat (first | apply Kd.R_alloc | apply Kd.R_drewN | apply Kd.R_drew)); exact HO_7.out))) (Kd.R_lt (by (with_reducible repeat (first | apply Kd.R_alloc | apply Kd.R_drewN | apply Kd.R_drew)); exact HO254.out))) (below_size (by repeat (first | (with_reducible first | exact HB.out | apply below_alloc | apply pw_below_drewN | apply below_drew1) | exact HB.out)))); have n4_ := Aside0.mk (below_step (by repeat (first | (with_reducible first | exact HB.out | apply below_alloc | apply pw_below_drewN | apply below_drew1) | exact HB.out)) hb); clear HO_7; clear HO_9; clear HO254; clear HB; have HO_7 := n0_; have HO_9 := n1_; have HO254 := n2_; have HO257 := n3_; have HB := n4_; clear n0_ n1_ n2_ n3_ n4_; clear hb ho25)); try go_wp2_with (first | ((with_reducible refine gate_dst (N := 46) rfl ?_); (try (refine gate_guard (by rfl) ?_; dsimp only)); refine Kd.R_make (Kd.int .i64) _ 3 rfl (N := 46) rfl 22 _ _ rfl 65 rfl rfl Try.underlying22 (.int .i64 0) 8 info3 rfl (by decide) (by omega) 0 (ok := fun _ => True) (okp := fun _ => True) rfl (fun _ hk => hk) trivial (by omega) (by omega) (Below.refl _ _) (Nat.le_refl _) ?_; intro v253 w22 ho23 hb hg_ hnew_; clear hg_ hnew_; (first | rw [← Ny252.out] at ho23 | (simp only [Int.reduceToNat] at ho23; rw [← Ny252.out] at ho23)); have n0_ := Aside0.mk (Kd.R_elder' (by (with_reducible repeat (first | apply Kd.R_alloc | apply Kd.R_drewN | apply Kd.R_drew)); exact HO_7.out) (Kd.R_base ho23) hb); have n1_ := Aside0.mk (Kd.R_below (by (with_reducible repeat (first | apply Kd.R_alloc | apply Kd.R_drewN | apply Kd.R_drew)); exact HO_9.out) hb); have n2_ := Aside0.mk (Kd.R_lower (Kd.R_new' ho23 (Kd.R_lt (by (with_reducible repeat (first | apply Kd.R_alloc | apply Kd.R_drewN | apply Kd.R_drew)); exact HO_7.out))) (below_size (by repeat (first | (with_reducible first | exact HB.out | apply below_alloc | apply pw_below_drewN | apply below_drew1) | exact HB.out)))); have n3_ := Aside0.mk (below_step (by repeat (first | (with_reducible first | exact HB.out | apply below_alloc | apply pw_below_drewN | apply below_drew1) | exact HB.out)) hb); clear HO_7; clear HO_9; clear HB; have HO_7 := n0_; have HO_9 := n1_; have HO254 := n2_; have HB := n3_; clear n0_ n1_ n2_ n3_; clear hb ho23) | ((with_reducible refine gate_dst (N := 51) rfl ?_); (try (refine gate_guard (by rfl) ?_; dsimp only)); refine Kd.R_make (Kd.int .i64) _ 3 rfl (N := 51) rfl 22 _ _ rfl ji10 rfl rfl Try.underlying22 (.int .i64 0) 8 info3 rfl (by decide) (by omega) 0 (ok := fun _ => True) (okp := fun _ => True) rfl (fun _ hk => hk) trivial (of_decide_eq_true (by first | (with_reducible assumption) | assumption)) (Nat.le_trans (Nat.mul_le_mul_right _ (of_decide_eq_true (by first | (with_reducible assumption) | assumption) : ji10.toNat ≤ 35184372088832)) (by omega)) (Below.refl _ _) (Nat.le_refl _) ?_; intro v256 w24 ho25 hb hg_ hnew_; clear hg_ hnew_; (first | rw [← Ny255.out] at ho25 | (simp only [Int.reduceToNat] at ho25; rw [← Ny255.out] at ho25)); have n0_ := Aside0.mk (Kd.R_elder' (by (with_reducible repeat (first | apply Kd.R_alloc | apply Kd.R_drewN | apply Kd.R_drew)); exact HO_7.out) (Kd.R_base ho25) hb); have n1_ := Aside0.mk (Kd.R_below (by (with_reducible repeat (first | apply Kd.R_alloc | apply Kd.R_drewN | apply Kd.R_drew)); exact HO_9.out) hb); have n2_ := Aside0.mk (Kd.R_elder' (by (with_reducible repeat (first | apply Kd.R_alloc | apply Kd.R_drewN | apply Kd.R_drew)); exact HO254.out) (Kd.R_base ho25) hb); have n3_ := Aside0.mk (Kd.R_lower (Kd.R_new' (Kd.R_new' ho25 (Kd.R_lt (by (with_reducible repeat (first | apply Kd.R_alloc | apply Kd.R_drewN | apply Kd.R_drew)); exact HO_7.out))) (Kd.R_lt (by (with_reducible repeat (first | apply Kd.R_alloc | apply Kd.R_drewN | apply Kd.R_drew)); exact HO254.out))) (below_size (by repeat (first | (with_reducible first | exact HB.out | apply below_alloc | apply pw_below_drewN | apply below_drew1) | exact HB.out)))); have n4_ := Aside0.mk (below_step (by repeat (first | (with_reducible first | exact HB.out | apply below_alloc | apply pw_below_drewN | apply below_drew1) | exact HB.out)) hb); clear HO_7; clear HO_9; clear HO254; clear HB; have HO_7 := n0_; have HO_9 := n1_; have HO254 := n2_; have HO257 := n3_; have HB := n4_; clear n0_ n1_ n2_ n3_ n4_; clear hb ho25)))
                  go_loopg [15] kj10 (fun kq v15 w' => ∃ (x12_2 : List Int) (x14_2 : List Int) (x15_2 : Int), v15 = .int .i64 x15_2 ∧ Aside0 (wringerlaw13_SpreadPlaces.l0 kq t243 t244 t247 ji10 x12_2 (Int.tmod (wrap64 (a2)) 65) x14_2 x15_2 = some r) ∧ Aside0 (kq ≤ kj10) ∧ Aside0 (Kd.R (Kd.int .i64) 3 w' w.heap.size (fun k_ => some k_ ≠ (v253 : Value).ownBlock ∧ some k_ ≠ (v256 : Value).ownBlock) (.slice Ao13 t243.length co13) t243) ∧ Aside0 (Kd.R k45 45 w' w.heap.size (fun _ => True) v249 t247) ∧ Aside0 (Kd.R (Kd.int .i64) 3 w' w.heap.size (fun k_ => some k_ ≠ ((.slice Ao13 t243.length co13) : Value).ownBlock ∧ some k_ ≠ (v256 : Value).ownBlock) v253 x12_2) ∧ Aside0 (Kd.R (Kd.int .i64) 3 w' w.heap.size (fun k_ => some k_ ≠ ((.slice Ao13 t243.length co13) : Value).ownBlock ∧ some k_ ≠ (v253 : Value).ownBlock) v256 x14_2) ∧ Aside0 (Below w.heap.size w w'))
                  case atStart => exact ⟨(y252), (y255), (0), (by first | rfl | (simp; done) | (simp [*]; done)), H', ⟨Nat.le_refl _⟩, ⟨by (with_reducible repeat (first | apply Kd.R_alloc | apply Kd.R_drewN | apply Kd.R_drew)); exact Kd.R_mono HO_7.out (fun _ hk => ⟨hk.1.2, hk.2⟩)⟩, ⟨by (with_reducible repeat (first | apply Kd.R_alloc | apply Kd.R_drewN | apply Kd.R_drew)); exact HO_9.out⟩, ⟨by (with_reducible repeat (first | apply Kd.R_alloc | apply Kd.R_drewN | apply Kd.R_drew)); exact Kd.R_mono HO254.out (fun _ hk => ⟨hk.1.2, hk.2⟩)⟩, ⟨by (with_reducible repeat (first | apply Kd.R_alloc | apply Kd.R_drewN | apply Kd.R_drew)); exact Kd.R_mono HO257.out (fun _ hk => ⟨hk.1.2, hk.2⟩)⟩, ⟨by repeat (first | (with_reducible first | exact HB.out | apply below_alloc | apply pw_below_drewN | apply below_drew1) | exact HB.out)⟩⟩
                  case round =>
                    clear H'
                    try clear c1
                    try clear c2
                    try clear p2
                    try clear c4
                    try clear c4b0
                    try clear c4b1
                    try clear c5
                    try clear p6
                    try clear c9
                    try clear c9b0
                    try clear c9b1
                    try clear c16
                    try clear c16b0
                    try clear c16b1
                    try clear c18
                    try clear c19
                    try clear c19b0
                    try clear c19b1
                    try clear c20
                    try clear c20b0
                    try clear c20b1
                    try clear c21
                    try clear c21b0
                    try clear c21b1
                    try clear p2
                    try clear p6
                    obtain ⟨x12_2, x14_2, x15_2, rfl, HA, HK2, HO_7, HO_9, HO_12, HO_14, HB⟩ := hrel
                    cases gk with
                    | zero => exact absurd HA.out (by simp [wringerlaw13_SpreadPlaces.l0])
                    | succ k2 =>
                      have H := HA.out
                      clear HA
                      simp only [wringerlaw13_SpreadPlaces.l0] at H
                      by_cases c26 : x15_2 < ji10
                      · rw [if_pos c26] at H
                        have c26b0 : decide (x15_2 < ji10) = true := decide_eq_true c26
                        clear c26
                        by_cases c27 : 0 ≤ x15_2
                        · rw [if_pos c27] at H
                          have c27b0 : decide (0 ≤ x15_2) = true := decide_eq_true c27
                          clear c27
                          by_cases c28 : x15_2 < (t247.length : Int)
                          · rw [if_pos c28] at H
                            have c28b0 : decide (x15_2 < (t247.length : Int)) = true := decide_eq_true c28
                            clear c28
                            have HC29 := Aside0.mk H
                            clear H
                            obtain ⟨Ao30, co30, eo30⟩ := Kd.R_slice HO_9.out
                            subst eo30
                            have p258 : 0 ≤ (x15_2 : Int) := of_decide_eq_true (by first | (with_reducible assumption) | assumption)
                            have q258 : x15_2 < (t247.length : Int) := of_decide_eq_true (by first | (with_reducible assumption) | assumption)
                            obtain ⟨ad258, e258, hx258_0, hx258_1, hx258_2⟩ := at_T45 (Kd.R_reads' HO_9.out).2.2 x15_2 p258 q258
                            cases e258
                            replace p258 := eq_true p258
                            replace q258 := eq_true q258
                            go_upto_region 15 with (first | ((with_reducible refine gate_dst (N := 16) rfl ?_); (try (refine gate_guard (by rfl) ?_; dsimp only)); refine box_event ?hg (N := 16) ?hd (cs := #[.int .i64 0, .int .i64 0, .int .i64 0]) (t := 45) ?hr ?_; (case hd => rfl); (case hg => rfl); (case hr => first | (go_simp; done) | (go_simp; rfl)); intro gb259 hg w31 hbox hb; have n0_ := Aside0.mk (Kd.R_below (by (with_reducible repeat (first | apply Kd.R_alloc | apply Kd.R_drewN | apply Kd.R_drew)); exact HO_7.out) hb); have n1_ := Aside0.mk (Kd.R_below (Kd.R_elderB (by (with_reducible repeat (first | apply Kd.R_alloc | apply Kd.R_drewN | apply Kd.R_drew)); exact HO_9.out) gb259 (Nat.le_of_eq hg.symm)) hb); have n2_ := Aside0.mk (Kd.R_below (by (with_reducible repeat (first | apply Kd.R_alloc | apply Kd.R_drewN | apply Kd.R_drew)); exact HO_12.out) hb); have n3_ := Aside0.mk (Kd.R_below (by (with_reducible repeat (first | apply Kd.R_alloc | apply Kd.R_drewN | apply Kd.R_drew)); exact HO_14.out) hb); have n4_ := Aside0.mk (below_step (by repeat (first | (with_reducible first | exact HB.out | apply below_alloc | apply pw_below_drewN | apply below_drew1) | exact HB.out)) hb); have n5_ := Aside0.mk (hbox); have n6_ := Aside0.mk ((by rw [hg]; exact (below_size (by repeat (first | (with_reducible first | exact HB.out | apply below_alloc | apply pw_below_drewN | apply below_drew1) | exact HB.out))) : w.heap.size ≤ gb259)); have n7_ := Aside0.mk ((by rw [hg]; exact (below_size (by repeat (first | (with_reducible first | exact HB.out | apply below_alloc | apply pw_below_drewN | apply below_drew1) | exact HB.out))) : w.heap.size ≤ gb259)); clear HO_7; clear HO_9; clear HO_12; clear HO_14; clear HB; have HO_7 := n0_; have HO_9 := n1_; have HO_12 := n2_; have HO_14 := n3_; have HB := n4_; have BK259 := n5_; have GW259 := n6_; have GE259 := n7_; clear n0_ n1_ n2_ n3_ n4_ n5_ n6_ n7_; clear hb hbox hg; have hcz32_0 : w31.cell? ⟨gb259, 0, none⟩ = some (.int .i64 0) := (blk_cell BK259.out 0).trans rfl; have hcz32_1 : w31.cell? ⟨gb259, 1, none⟩ = some (.int .i64 0) := (blk_cell BK259.out 1).trans rfl; have hcz32_2 : w31.cell? ⟨gb259, 2, none⟩ = some (.int .i64 0) := (blk_cell BK259.out 2).trans rfl; have hfz32_0 := blk_frozen BK259.out 0; have hfz32_1 := blk_frozen BK259.out 1; have hfz32_2 := blk_frozen BK259.out 2))
                            repeat (go_quiet (first | ((with_reducible refine gate_dst (N := 16) rfl ?_); (try (refine gate_guard (by rfl) ?_; dsimp only)); refine box_event ?hg (N := 16) ?hd (cs := #[.int .i64 0, .int .i64 0, .int .i64 0]) (t := 45) ?hr ?_; (case hd => rfl); (case hg => rfl); (case hr => first | (go_simp; done) | (go_simp; rfl)); intro gb259 hg w31 hbox hb; have n0_ := Aside0.mk (Kd.R_below (by (with_reducible repeat (first | apply Kd.R_alloc | apply Kd.R_drewN | apply Kd.R_drew)); exact HO_7.out) hb); have n1_ := Aside0.mk (Kd.R_below (Kd.R_elderB (by (with_reducible repeat (first | apply Kd.R_alloc | apply Kd.R_drewN | apply Kd.R_drew)); exact HO_9.out) gb259 (Nat.le_of_eq hg.symm)) hb); have n2_ := Aside0.mk (Kd.R_below (by (with_reducible repeat (first | apply Kd.R_alloc | apply Kd.R_drewN | apply Kd.R_drew)); exact HO_12.out) hb); have n3_ := Aside0.mk (Kd.R_below (by (with_reducible repeat (first | apply Kd.R_alloc | apply Kd.R_drewN | apply Kd.R_drew)); exact HO_14.out) hb); have n4_ := Aside0.mk (below_step (by repeat (first | (with_reducible first | exact HB.out | apply below_alloc | apply pw_below_drewN | apply below_drew1) | exact HB.out)) hb); have n5_ := Aside0.mk (hbox); have n6_ := Aside0.mk ((by rw [hg]; exact (below_size (by repeat (first | (with_reducible first | exact HB.out | apply below_alloc | apply pw_below_drewN | apply below_drew1) | exact HB.out))) : w.heap.size ≤ gb259)); have n7_ := Aside0.mk ((by rw [hg]; exact (below_size (by repeat (first | (with_reducible first | exact HB.out | apply below_alloc | apply pw_below_drewN | apply below_drew1) | exact HB.out))) : w.heap.size ≤ gb259)); clear HO_7; clear HO_9; clear HO_12; clear HO_14; clear HB; have HO_7 := n0_; have HO_9 := n1_; have HO_12 := n2_; have HO_14 := n3_; have HB := n4_; have BK259 := n5_; have GW259 := n6_; have GE259 := n7_; clear n0_ n1_ n2_ n3_ n4_ n5_ n6_ n7_; clear hb hbox hg; have hcz32_0 : w31.cell? ⟨gb259, 0, none⟩ = some (.int .i64 0) := (blk_cell BK259.out 0).trans rfl; have hcz32_1 : w31.cell? ⟨gb259, 1, none⟩ = some (.int .i64 0) := (blk_cell BK259.out 1).trans rfl; have hcz32_2 : w31.cell? ⟨gb259, 2, none⟩ = some (.int .i64 0) := (blk_cell BK259.out 2).trans rfl; have hfz32_0 := blk_frozen BK259.out 0; have hfz32_1 := blk_frozen BK259.out 1; have hfz32_2 := blk_frozen BK259.out 2)); go_upto_region 15 with (first | ((with_reducible refine gate_dst (N := 16) rfl ?_); (try (refine gate_guard (by rfl) ?_; dsimp only)); refine box_event ?hg (N := 16) ?hd (cs := #[.int .i64 0, .int .i64 0, .int .i64 0]) (t := 45) ?hr ?_; (case hd => rfl); (case hg => rfl); (case hr => first | (go_simp; done) | (go_simp; rfl)); intro gb259 hg w31 hbox hb; have n0_ := Aside0.mk (Kd.R_below (by (with_reducible repeat (first | apply Kd.R_alloc | apply Kd.R_drewN | apply Kd.R_drew)); exact HO_7.out) hb); have n1_ := Aside0.mk (Kd.R_below (Kd.R_elderB (by (with_reducible repeat (first | apply Kd.R_alloc | apply Kd.R_drewN | apply Kd.R_drew)); exact HO_9.out) gb259 (Nat.le_of_eq hg.symm)) hb); have n2_ := Aside0.mk (Kd.R_below (by (with_reducible repeat (first | apply Kd.R_alloc | apply Kd.R_drewN | apply Kd.R_drew)); exact HO_12.out) hb); have n3_ := Aside0.mk (Kd.R_below (by (with_reducible repeat (first | apply Kd.R_alloc | apply Kd.R_drewN | apply Kd.R_drew)); exact HO_14.out) hb); have n4_ := Aside0.mk (below_step (by repeat (first | (with_reducible first | exact HB.out | apply below_alloc | apply pw_below_drewN | apply below_drew1) | exact HB.out)) hb); have n5_ := Aside0.mk (hbox); have n6_ := Aside0.mk ((by rw [hg]; exact (below_size (by repeat (first | (with_reducible first | exact HB.out | apply below_alloc | apply pw_below_drewN | apply below_drew1) | exact HB.out))) : w.heap.size ≤ gb259)); have n7_ := Aside0.mk ((by rw [hg]; exact (below_size (by repeat (first | (with_reducible first | exact HB.out | apply below_alloc | apply pw_below_drewN | apply below_drew1) | exact HB.out))) : w.heap.size ≤ gb259)); clear HO_7; clear HO_9; clear HO_12; clear HO_14; clear HB; have HO_7 := n0_; have HO_9 := n1_; have HO_12 := n2_; have HO_14 := n3_; have HB := n4_; have BK259 := n5_; have GW259 := n6_; have GE259 := n7_; clear n0_ n1_ n2_ n3_ n4_ n5_ n6_ n7_; clear hb hbox hg; have hcz32_0 : w31.cell? ⟨gb259, 0, none⟩ = some (.int .i64 0) := (blk_cell BK259.out 0).trans rfl; have hcz32_1 : w31.cell? ⟨gb259, 1, none⟩ = some (.int .i64 0) := (blk_cell BK259.out 1).trans rfl; have hcz32_2 : w31.cell? ⟨gb259, 2, none⟩ = some (.int .i64 0) := (blk_cell BK259.out 2).trans rfl; have hfz32_0 := blk_frozen BK259.out 0; have hfz32_1 := blk_frozen BK259.out 1; have hfz32_2 := blk_frozen BK259.out 2)))
                            (try simp only [Act.put, List.setIfInBounds_toArray, List.set_cons_zero, List.set_cons_succ])
                            go_cut [94] (fun v94 wc => ∃ (kq : Nat) (x94_28 : Bool), v94 = .bool x94_28 ∧ Aside0 (wringerlaw13_SpreadPlaces.j2 kq t243 t244 t247 ji10 x12_2 (Int.tmod (wrap64 (a2)) 65) x14_2 x15_2 x94_28 ((rd_T45 t247 x15_2).f0) ((rd_T45 t247 x15_2).f1) ((rd_T45 t247 x15_2).f2) = some r) ∧ Aside0 (kq ≤ k2) ∧ Aside0 (Kd.R (Kd.int .i64) 3 wc w.heap.size (fun k_ => some k_ ≠ (v253 : Value).ownBlock ∧ some k_ ≠ (v256 : Value).ownBlock) (.slice Ao13 t243.length co13) t243) ∧ Aside0 (Kd.R k45 45 wc w.heap.size (fun k_ => k_ ≠ gb259) (.slice (some ad258) t247.length co30) t247) ∧ Aside0 (Kd.R (Kd.int .i64) 3 wc w.heap.size (fun k_ => some k_ ≠ ((.slice Ao13 t243.length co13) : Value).ownBlock ∧ some k_ ≠ (v256 : Value).ownBlock) v253 x12_2) ∧ Aside0 (Kd.R (Kd.int .i64) 3 wc w.heap.size (fun k_ => some k_ ≠ ((.slice Ao13 t243.length co13) : Value).ownBlock ∧ some k_ ≠ (v253 : Value).ownBlock) v256 x14_2) ∧ Aside0 (wc.heap[gb259]? = some (.cells #[.int .i64 ((rd_T45 t247 x15_2).f0), .int .i64 ((rd_T45 t247 x15_2).f1), .int .i64 ((rd_T45 t247 x15_2).f2)] 45 (0, 0))) ∧ Aside0 (Below w.heap.size w wc))
                            case first =>
                              have H := HC29.out
                              clear HC29
                              by_cases c33 : ((rd_T45 t247 x15_2).f0) < 0
                              · rw [if_pos c33] at H
                                have c33b0 : decide (((rd_T45 t247 x15_2).f0) < 0) = true := decide_eq_true c33
                                clear c33
                                (first | rw [c33b0] | (simp only [i64_w, i32_w]; rw [c33b0]) | skip)
                                have H' := Aside0.mk H
                                clear H
                                have hcz34_0 : w31.cell? ⟨gb259, 0, none⟩ = some (.int .i64 0) := (blk_cell BK259.out 0).trans rfl
                                have hcz34_1 : w31.cell? ⟨gb259, 1, none⟩ = some (.int .i64 0) := (blk_cell BK259.out 1).trans rfl
                                have hcz34_2 : w31.cell? ⟨gb259, 2, none⟩ = some (.int .i64 0) := (blk_cell BK259.out 2).trans rfl
                                have hfz34_0 := blk_frozen BK259.out 0
                                have hfz34_1 := blk_frozen BK259.out 1
                                have hfz34_2 := blk_frozen BK259.out 2
                                go_wp2
                                repeat (go_quiet (fail); try go_wp2)
                                go_meet
                                case rel => exact ⟨_, (true), (by first | rfl | (simp; done) | (simp [*]; done)), H', ⟨by have := HJ10.out; have := HK2.out; first | omega | exact Nat.le_refl _⟩, ⟨by (with_reducible repeat (first | apply Kd.R_alloc | apply Kd.R_drewN | apply Kd.R_drew)); exact Kd.R_mono (Kd.R_far (p := ⟨gb259, 2, none⟩) (Kd.R_far (p := ⟨gb259, 1, none⟩) (Kd.R_far (p := ⟨gb259, 0, none⟩) (Kd.R_types HO_7.out BK259.out (by decide)) (fun _ hk => hk.2) (.int .i64 ((rd_T45 t247 x15_2).f0))) (fun _ hk => hk.2) (.int .i64 ((rd_T45 t247 x15_2).f1))) (fun _ hk => hk.2) (.int .i64 ((rd_T45 t247 x15_2).f2))) (fun _ hk => ⟨hk.1.1, hk.1.2⟩)⟩, ⟨by (with_reducible repeat (first | apply Kd.R_alloc | apply Kd.R_drewN | apply Kd.R_drew)); exact Kd.R_mono (Kd.R_far (p := ⟨gb259, 2, none⟩) (Kd.R_far (p := ⟨gb259, 1, none⟩) (Kd.R_far (p := ⟨gb259, 0, none⟩) (Kd.R_mono HO_9.out (fun k_ hk => (⟨hk, hk.2⟩ : _ ∧ k_ ≠ gb259))) (fun _ hk => hk.2) (.int .i64 ((rd_T45 t247 x15_2).f0))) (fun _ hk => hk.2) (.int .i64 ((rd_T45 t247 x15_2).f1))) (fun _ hk => hk.2) (.int .i64 ((rd_T45 t247 x15_2).f2))) (fun _ hk => hk.1.2)⟩, ⟨by (with_reducible repeat (first | apply Kd.R_alloc | apply Kd.R_drewN | apply Kd.R_drew)); exact Kd.R_mono (Kd.R_far (p := ⟨gb259, 2, none⟩) (Kd.R_far (p := ⟨gb259, 1, none⟩) (Kd.R_far (p := ⟨gb259, 0, none⟩) (Kd.R_types HO_12.out BK259.out (by decide)) (fun _ hk => hk.2) (.int .i64 ((rd_T45 t247 x15_2).f0))) (fun _ hk => hk.2) (.int .i64 ((rd_T45 t247 x15_2).f1))) (fun _ hk => hk.2) (.int .i64 ((rd_T45 t247 x15_2).f2))) (fun _ hk => ⟨hk.1.1, hk.1.2⟩)⟩, ⟨by (with_reducible repeat (first | apply Kd.R_alloc | apply Kd.R_drewN | apply Kd.R_drew)); exact Kd.R_mono (Kd.R_far (p := ⟨gb259, 2, none⟩) (Kd.R_far (p := ⟨gb259, 1, none⟩) (Kd.R_far (p := ⟨gb259, 0, none⟩) (Kd.R_types HO_14.out BK259.out (by decide)) (fun _ hk => hk.2) (.int .i64 ((rd_T45 t247 x15_2).f0))) (fun _ hk => hk.2) (.int .i64 ((rd_T45 t247 x15_2).f1))) (fun _ hk => hk.2) (.int .i64 ((rd_T45 t247 x15_2).f2))) (fun _ hk => ⟨hk.1.1, hk.1.2⟩)⟩, ⟨by (with_reducible repeat (first | refine blk_drewN ?_ _ | refine blk_drew ?_ | refine blk_alloc ?_ _)); refine blk_put (cs := #[.int .i64 ((rd_T45 t247 x15_2).f0), .int .i64 ((rd_T45 t247 x15_2).f1), .int .i64 0]) ?_ 2 _ rfl; (with_reducible repeat (first | refine blk_drewN ?_ _ | refine blk_drew ?_ | refine blk_alloc ?_ _)); refine blk_put (cs := #[.int .i64 ((rd_T45 t247 x15_2).f0), .int .i64 0, .int .i64 0]) ?_ 1 _ rfl; (with_reducible repeat (first | refine blk_drewN ?_ _ | refine blk_drew ?_ | refine blk_alloc ?_ _)); refine blk_put (cs := #[.int .i64 0, .int .i64 0, .int .i64 0]) ?_ 0 _ rfl; (with_reducible repeat (first | refine blk_drewN ?_ _ | refine blk_drew ?_ | refine blk_alloc ?_ _)); exact BK259.out⟩, ⟨by repeat (first | (with_reducible first | exact HB.out | apply below_alloc | apply pw_below_drewN | apply below_drew1 | refine below_set ?_ GE259.out) | exact HB.out)⟩⟩
                              · rw [if_neg c33] at H
                                have c33b0 : decide (((rd_T45 t247 x15_2).f0) < 0) = false := decide_eq_false c33
                                clear c33
                                (first | rw [c33b0] | (simp only [i64_w, i32_w]; rw [c33b0]) | skip)
                                by_cases c35 : ((rd_T45 t247 x15_2).f0) > 64
                                · rw [if_pos c35] at H
                                  have c35b0 : decide (64 < ((rd_T45 t247 x15_2).f0)) = true := decide_eq_true c35
                                  clear c35
                                  have H' := Aside0.mk H
                                  clear H
                                  have hcz36_0 : w31.cell? ⟨gb259, 0, none⟩ = some (.int .i64 0) := (blk_cell BK259.out 0).trans rfl
                                  have hcz36_1 : w31.cell? ⟨gb259, 1, none⟩ = some (.int .i64 0) := (blk_cell BK259.out 1).trans rfl
                                  have hcz36_2 : w31.cell? ⟨gb259, 2, none⟩ = some (.int .i64 0) := (blk_cell BK259.out 2).trans rfl
                                  have hfz36_0 := blk_frozen BK259.out 0
                                  have hfz36_1 := blk_frozen BK259.out 1
                                  have hfz36_2 := blk_frozen BK259.out 2
                                  go_wp2
                                  repeat (go_quiet (fail); try go_wp2)
                                  go_meet
                                  case rel => exact ⟨_, (true), (by first | rfl | (simp; done) | (simp [*]; done)), H', ⟨by have := HJ10.out; have := HK2.out; first | omega | exact Nat.le_refl _⟩, ⟨by (with_reducible repeat (first | apply Kd.R_alloc | apply Kd.R_drewN | apply Kd.R_drew)); exact Kd.R_mono (Kd.R_far (p := ⟨gb259, 2, none⟩) (Kd.R_far (p := ⟨gb259, 1, none⟩) (Kd.R_far (p := ⟨gb259, 0, none⟩) (Kd.R_types HO_7.out BK259.out (by decide)) (fun _ hk => hk.2) (.int .i64 ((rd_T45 t247 x15_2).f0))) (fun _ hk => hk.2) (.int .i64 ((rd_T45 t247 x15_2).f1))) (fun _ hk => hk.2) (.int .i64 ((rd_T45 t247 x15_2).f2))) (fun _ hk => ⟨hk.1.1, hk.1.2⟩)⟩, ⟨by (with_reducible repeat (first | apply Kd.R_alloc | apply Kd.R_drewN | apply Kd.R_drew)); exact Kd.R_mono (Kd.R_far (p := ⟨gb259, 2, none⟩) (Kd.R_far (p := ⟨gb259, 1, none⟩) (Kd.R_far (p := ⟨gb259, 0, none⟩) (Kd.R_mono HO_9.out (fun k_ hk => (⟨hk, hk.2⟩ : _ ∧ k_ ≠ gb259))) (fun _ hk => hk.2) (.int .i64 ((rd_T45 t247 x15_2).f0))) (fun _ hk => hk.2) (.int .i64 ((rd_T45 t247 x15_2).f1))) (fun _ hk => hk.2) (.int .i64 ((rd_T45 t247 x15_2).f2))) (fun _ hk => hk.1.2)⟩, ⟨by (with_reducible repeat (first | apply Kd.R_alloc | apply Kd.R_drewN | apply Kd.R_drew)); exact Kd.R_mono (Kd.R_far (p := ⟨gb259, 2, none⟩) (Kd.R_far (p := ⟨gb259, 1, none⟩) (Kd.R_far (p := ⟨gb259, 0, none⟩) (Kd.R_types HO_12.out BK259.out (by decide)) (fun _ hk => hk.2) (.int .i64 ((rd_T45 t247 x15_2).f0))) (fun _ hk => hk.2) (.int .i64 ((rd_T45 t247 x15_2).f1))) (fun _ hk => hk.2) (.int .i64 ((rd_T45 t247 x15_2).f2))) (fun _ hk => ⟨hk.1.1, hk.1.2⟩)⟩, ⟨by (with_reducible repeat (first | apply Kd.R_alloc | apply Kd.R_drewN | apply Kd.R_drew)); exact Kd.R_mono (Kd.R_far (p := ⟨gb259, 2, none⟩) (Kd.R_far (p := ⟨gb259, 1, none⟩) (Kd.R_far (p := ⟨gb259, 0, none⟩) (Kd.R_types HO_14.out BK259.out (by decide)) (fun _ hk => hk.2) (.int .i64 ((rd_T45 t247 x15_2).f0))) (fun _ hk => hk.2) (.int .i64 ((rd_T45 t247 x15_2).f1))) (fun _ hk => hk.2) (.int .i64 ((rd_T45 t247 x15_2).f2))) (fun _ hk => ⟨hk.1.1, hk.1.2⟩)⟩, ⟨by (with_reducible repeat (first | refine blk_drewN ?_ _ | refine blk_drew ?_ | refine blk_alloc ?_ _)); refine blk_put (cs := #[.int .i64 ((rd_T45 t247 x15_2).f0), .int .i64 ((rd_T45 t247 x15_2).f1), .int .i64 0]) ?_ 2 _ rfl; (with_reducible repeat (first | refine blk_drewN ?_ _ | refine blk_drew ?_ | refine blk_alloc ?_ _)); refine blk_put (cs := #[.int .i64 ((rd_T45 t247 x15_2).f0), .int .i64 0, .int .i64 0]) ?_ 1 _ rfl; (with_reducible repeat (first | refine blk_drewN ?_ _ | refine blk_drew ?_ | refine blk_alloc ?_ _)); refine blk_put (cs := #[.int .i64 0, .int .i64 0, .int .i64 0]) ?_ 0 _ rfl; (with_reducible repeat (first | refine blk_drewN ?_ _ | refine blk_drew ?_ | refine blk_alloc ?_ _)); exact BK259.out⟩, ⟨by repeat (first | (with_reducible first | exact HB.out | apply below_alloc | apply pw_below_drewN | apply below_drew1 | refine below_set ?_ GE259.out) | exact HB.out)⟩⟩
                                · rw [if_neg c35] at H
                                  have c35b0 : decide (64 < ((rd_T45 t247 x15_2).f0)) = false := decide_eq_false c35
                                  clear c35
                                  by_cases c37 : ((rd_T45 t247 x15_2).f1) < 0
                                  · rw [if_pos c37] at H
                                    have c37b0 : decide (((rd_T45 t247 x15_2).f1) < 0) = true := decide_eq_true c37
                                    clear c37
                                    have H' := Aside0.mk H
                                    clear H
                                    have hcz38_0 : w31.cell? ⟨gb259, 0, none⟩ = some (.int .i64 0) := (blk_cell BK259.out 0).trans rfl
                                    have hcz38_1 : w31.cell? ⟨gb259, 1, none⟩ = some (.int .i64 0) := (blk_cell BK259.out 1).trans rfl
                                    have hcz38_2 : w31.cell? ⟨gb259, 2, none⟩ = some (.int .i64 0) := (blk_cell BK259.out 2).trans rfl
                                    have hfz38_0 := blk_frozen BK259.out 0
                                    have hfz38_1 := blk_frozen BK259.out 1
                                    have hfz38_2 := blk_frozen BK259.out 2
                                    go_wp2
                                    repeat (go_quiet (fail); try go_wp2)
                                    go_meet
                                    case rel => exact ⟨_, (true), (by first | rfl | (simp; done) | (simp [*]; done)), H', ⟨by have := HJ10.out; have := HK2.out; first | omega | exact Nat.le_refl _⟩, ⟨by (with_reducible repeat (first | apply Kd.R_alloc | apply Kd.R_drewN | apply Kd.R_drew)); exact Kd.R_mono (Kd.R_far (p := ⟨gb259, 2, none⟩) (Kd.R_far (p := ⟨gb259, 1, none⟩) (Kd.R_far (p := ⟨gb259, 0, none⟩) (Kd.R_types HO_7.out BK259.out (by decide)) (fun _ hk => hk.2) (.int .i64 ((rd_T45 t247 x15_2).f0))) (fun _ hk => hk.2) (.int .i64 ((rd_T45 t247 x15_2).f1))) (fun _ hk => hk.2) (.int .i64 ((rd_T45 t247 x15_2).f2))) (fun _ hk => ⟨hk.1.1, hk.1.2⟩)⟩, ⟨by (with_reducible repeat (first | apply Kd.R_alloc | apply Kd.R_drewN | apply Kd.R_drew)); exact Kd.R_mono (Kd.R_far (p := ⟨gb259, 2, none⟩) (Kd.R_far (p := ⟨gb259, 1, none⟩) (Kd.R_far (p := ⟨gb259, 0, none⟩) (Kd.R_mono HO_9.out (fun k_ hk => (⟨hk, hk.2⟩ : _ ∧ k_ ≠ gb259))) (fun _ hk => hk.2) (.int .i64 ((rd_T45 t247 x15_2).f0))) (fun _ hk => hk.2) (.int .i64 ((rd_T45 t247 x15_2).f1))) (fun _ hk => hk.2) (.int .i64 ((rd_T45 t247 x15_2).f2))) (fun _ hk => hk.1.2)⟩, ⟨by (with_reducible repeat (first | apply Kd.R_alloc | apply Kd.R_drewN | apply Kd.R_drew)); exact Kd.R_mono (Kd.R_far (p := ⟨gb259, 2, none⟩) (Kd.R_far (p := ⟨gb259, 1, none⟩) (Kd.R_far (p := ⟨gb259, 0, none⟩) (Kd.R_types HO_12.out BK259.out (by decide)) (fun _ hk => hk.2) (.int .i64 ((rd_T45 t247 x15_2).f0))) (fun _ hk => hk.2) (.int .i64 ((rd_T45 t247 x15_2).f1))) (fun _ hk => hk.2) (.int .i64 ((rd_T45 t247 x15_2).f2))) (fun _ hk => ⟨hk.1.1, hk.1.2⟩)⟩, ⟨by (with_reducible repeat (first | apply Kd.R_alloc | apply Kd.R_drewN | apply Kd.R_drew)); exact Kd.R_mono (Kd.R_far (p := ⟨gb259, 2, none⟩) (Kd.R_far (p := ⟨gb259, 1, none⟩) (Kd.R_far (p := ⟨gb259, 0, none⟩) (Kd.R_types HO_14.out BK259.out (by decide)) (fun _ hk => hk.2) (.int .i64 ((rd_T45 t247 x15_2).f0))) (fun _ hk => hk.2) (.int .i64 ((rd_T45 t247 x15_2).f1))) (fun _ hk => hk.2) (.int .i64 ((rd_T45 t247 x15_2).f2))) (fun _ hk => ⟨hk.1.1, hk.1.2⟩)⟩, ⟨by (with_reducible repeat (first | refine blk_drewN ?_ _ | refine blk_drew ?_ | refine blk_alloc ?_ _)); refine blk_put (cs := #[.int .i64 ((rd_T45 t247 x15_2).f0), .int .i64 ((rd_T45 t247 x15_2).f1), .int .i64 0]) ?_ 2 _ rfl; (with_reducible repeat (first | refine blk_drewN ?_ _ | refine blk_drew ?_ | refine blk_alloc ?_ _)); refine blk_put (cs := #[.int .i64 ((rd_T45 t247 x15_2).f0), .int .i64 0, .int .i64 0]) ?_ 1 _ rfl; (with_reducible repeat (first | refine blk_drewN ?_ _ | refine blk_drew ?_ | refine blk_alloc ?_ _)); refine blk_put (cs := #[.int .i64 0, .int .i64 0, .int .i64 0]) ?_ 0 _ rfl; (with_reducible repeat (first | refine blk_drewN ?_ _ | refine blk_drew ?_ | refine blk_alloc ?_ _)); exact BK259.out⟩, ⟨by repeat (first | (with_reducible first | exact HB.out | apply below_alloc | apply pw_below_drewN | apply below_drew1 | refine below_set ?_ GE259.out) | exact HB.out)⟩⟩
                                  · rw [if_neg c37] at H
                                    have c37b0 : decide (((rd_T45 t247 x15_2).f1) < 0) = false := decide_eq_false c37
                                    clear c37
                                    by_cases c39 : ((rd_T45 t247 x15_2).f1) > t244
                                    · rw [if_pos c39] at H
                                      have c39b0 : decide (t244 < ((rd_T45 t247 x15_2).f1)) = true := decide_eq_true c39
                                      clear c39
                                      have H' := Aside0.mk H
                                      clear H
                                      have hcz40_0 : w31.cell? ⟨gb259, 0, none⟩ = some (.int .i64 0) := (blk_cell BK259.out 0).trans rfl
                                      have hcz40_1 : w31.cell? ⟨gb259, 1, none⟩ = some (.int .i64 0) := (blk_cell BK259.out 1).trans rfl
                                      have hcz40_2 : w31.cell? ⟨gb259, 2, none⟩ = some (.int .i64 0) := (blk_cell BK259.out 2).trans rfl
                                      have hfz40_0 := blk_frozen BK259.out 0
                                      have hfz40_1 := blk_frozen BK259.out 1
                                      have hfz40_2 := blk_frozen BK259.out 2
                                      go_wp2
                                      repeat (go_quiet (fail); try go_wp2)
                                      go_meet
                                      case rel => exact ⟨_, (true), (by first | rfl | (simp; done) | (simp [*]; done)), H', ⟨by have := HJ10.out; have := HK2.out; first | omega | exact Nat.le_refl _⟩, ⟨by (with_reducible repeat (first | apply Kd.R_alloc | apply Kd.R_drewN | apply Kd.R_drew)); exact Kd.R_mono (Kd.R_far (p := ⟨gb259, 2, none⟩) (Kd.R_far (p := ⟨gb259, 1, none⟩) (Kd.R_far (p := ⟨gb259, 0, none⟩) (Kd.R_types HO_7.out BK259.out (by decide)) (fun _ hk => hk.2) (.int .i64 ((rd_T45 t247 x15_2).f0))) (fun _ hk => hk.2) (.int .i64 ((rd_T45 t247 x15_2).f1))) (fun _ hk => hk.2) (.int .i64 ((rd_T45 t247 x15_2).f2))) (fun _ hk => ⟨hk.1.1, hk.1.2⟩)⟩, ⟨by (with_reducible repeat (first | apply Kd.R_alloc | apply Kd.R_drewN | apply Kd.R_drew)); exact Kd.R_mono (Kd.R_far (p := ⟨gb259, 2, none⟩) (Kd.R_far (p := ⟨gb259, 1, none⟩) (Kd.R_far (p := ⟨gb259, 0, none⟩) (Kd.R_mono HO_9.out (fun k_ hk => (⟨hk, hk.2⟩ : _ ∧ k_ ≠ gb259))) (fun _ hk => hk.2) (.int .i64 ((rd_T45 t247 x15_2).f0))) (fun _ hk => hk.2) (.int .i64 ((rd_T45 t247 x15_2).f1))) (fun _ hk => hk.2) (.int .i64 ((rd_T45 t247 x15_2).f2))) (fun _ hk => hk.1.2)⟩, ⟨by (with_reducible repeat (first | apply Kd.R_alloc | apply Kd.R_drewN | apply Kd.R_drew)); exact Kd.R_mono (Kd.R_far (p := ⟨gb259, 2, none⟩) (Kd.R_far (p := ⟨gb259, 1, none⟩) (Kd.R_far (p := ⟨gb259, 0, none⟩) (Kd.R_types HO_12.out BK259.out (by decide)) (fun _ hk => hk.2) (.int .i64 ((rd_T45 t247 x15_2).f0))) (fun _ hk => hk.2) (.int .i64 ((rd_T45 t247 x15_2).f1))) (fun _ hk => hk.2) (.int .i64 ((rd_T45 t247 x15_2).f2))) (fun _ hk => ⟨hk.1.1, hk.1.2⟩)⟩, ⟨by (with_reducible repeat (first | apply Kd.R_alloc | apply Kd.R_drewN | apply Kd.R_drew)); exact Kd.R_mono (Kd.R_far (p := ⟨gb259, 2, none⟩) (Kd.R_far (p := ⟨gb259, 1, none⟩) (Kd.R_far (p := ⟨gb259, 0, none⟩) (Kd.R_types HO_14.out BK259.out (by decide)) (fun _ hk => hk.2) (.int .i64 ((rd_T45 t247 x15_2).f0))) (fun _ hk => hk.2) (.int .i64 ((rd_T45 t247 x15_2).f1))) (fun _ hk => hk.2) (.int .i64 ((rd_T45 t247 x15_2).f2))) (fun _ hk => ⟨hk.1.1, hk.1.2⟩)⟩, ⟨by (with_reducible repeat (first | refine blk_drewN ?_ _ | refine blk_drew ?_ | refine blk_alloc ?_ _)); refine blk_put (cs := #[.int .i64 ((rd_T45 t247 x15_2).f0), .int .i64 ((rd_T45 t247 x15_2).f1), .int .i64 0]) ?_ 2 _ rfl; (with_reducible repeat (first | refine blk_drewN ?_ _ | refine blk_drew ?_ | refine blk_alloc ?_ _)); refine blk_put (cs := #[.int .i64 ((rd_T45 t247 x15_2).f0), .int .i64 0, .int .i64 0]) ?_ 1 _ rfl; (with_reducible repeat (first | refine blk_drewN ?_ _ | refine blk_drew ?_ | refine blk_alloc ?_ _)); refine blk_put (cs := #[.int .i64 0, .int .i64 0, .int .i64 0]) ?_ 0 _ rfl; (with_reducible repeat (first | refine blk_drewN ?_ _ | refine blk_drew ?_ | refine blk_alloc ?_ _)); exact BK259.out⟩, ⟨by repeat (first | (with_reducible first | exact HB.out | apply below_alloc | apply pw_below_drewN | apply below_drew1 | refine below_set ?_ GE259.out) | exact HB.out)⟩⟩
                                    · rw [if_neg c39] at H
                                      have c39b0 : decide (t244 < ((rd_T45 t247 x15_2).f1)) = false := decide_eq_false c39
                                      clear c39
                                      by_cases c41 : ((rd_T45 t247 x15_2).f2) < 0
                                      · rw [if_pos c41] at H
                                        have c41b0 : decide (((rd_T45 t247 x15_2).f2) < 0) = true := decide_eq_true c41
                                        clear c41
                                        have H' := Aside0.mk H
                                        clear H
                                        have hcz42_0 : w31.cell? ⟨gb259, 0, none⟩ = some (.int .i64 0) := (blk_cell BK259.out 0).trans rfl
                                        have hcz42_1 : w31.cell? ⟨gb259, 1, none⟩ = some (.int .i64 0) := (blk_cell BK259.out 1).trans rfl
                                        have hcz42_2 : w31.cell? ⟨gb259, 2, none⟩ = some (.int .i64 0) := (blk_cell BK259.out 2).trans rfl
                                        have hfz42_0 := blk_frozen BK259.out 0
                                        have hfz42_1 := blk_frozen BK259.out 1
                                        have hfz42_2 := blk_frozen BK259.out 2
                                        go_wp2
                                        repeat (go_quiet (fail); try go_wp2)
                                        go_meet
                                        case rel => exact ⟨_, (true), (by first | rfl | (simp; done) | (simp [*]; done)), H', ⟨by have := HJ10.out; have := HK2.out; first | omega | exact Nat.le_refl _⟩, ⟨by (with_reducible repeat (first | apply Kd.R_alloc | apply Kd.R_drewN | apply Kd.R_drew)); exact Kd.R_mono (Kd.R_far (p := ⟨gb259, 2, none⟩) (Kd.R_far (p := ⟨gb259, 1, none⟩) (Kd.R_far (p := ⟨gb259, 0, none⟩) (Kd.R_types HO_7.out BK259.out (by decide)) (fun _ hk => hk.2) (.int .i64 ((rd_T45 t247 x15_2).f0))) (fun _ hk => hk.2) (.int .i64 ((rd_T45 t247 x15_2).f1))) (fun _ hk => hk.2) (.int .i64 ((rd_T45 t247 x15_2).f2))) (fun _ hk => ⟨hk.1.1, hk.1.2⟩)⟩, ⟨by (with_reducible repeat (first | apply Kd.R_alloc | apply Kd.R_drewN | apply Kd.R_drew)); exact Kd.R_mono (Kd.R_far (p := ⟨gb259, 2, none⟩) (Kd.R_far (p := ⟨gb259, 1, none⟩) (Kd.R_far (p := ⟨gb259, 0, none⟩) (Kd.R_mono HO_9.out (fun k_ hk => (⟨hk, hk.2⟩ : _ ∧ k_ ≠ gb259))) (fun _ hk => hk.2) (.int .i64 ((rd_T45 t247 x15_2).f0))) (fun _ hk => hk.2) (.int .i64 ((rd_T45 t247 x15_2).f1))) (fun _ hk => hk.2) (.int .i64 ((rd_T45 t247 x15_2).f2))) (fun _ hk => hk.1.2)⟩, ⟨by (with_reducible repeat (first | apply Kd.R_alloc | apply Kd.R_drewN | apply Kd.R_drew)); exact Kd.R_mono (Kd.R_far (p := ⟨gb259, 2, none⟩) (Kd.R_far (p := ⟨gb259, 1, none⟩) (Kd.R_far (p := ⟨gb259, 0, none⟩) (Kd.R_types HO_12.out BK259.out (by decide)) (fun _ hk => hk.2) (.int .i64 ((rd_T45 t247 x15_2).f0))) (fun _ hk => hk.2) (.int .i64 ((rd_T45 t247 x15_2).f1))) (fun _ hk => hk.2) (.int .i64 ((rd_T45 t247 x15_2).f2))) (fun _ hk => ⟨hk.1.1, hk.1.2⟩)⟩, ⟨by (with_reducible repeat (first | apply Kd.R_alloc | apply Kd.R_drewN | apply Kd.R_drew)); exact Kd.R_mono (Kd.R_far (p := ⟨gb259, 2, none⟩) (Kd.R_far (p := ⟨gb259, 1, none⟩) (Kd.R_far (p := ⟨gb259, 0, none⟩) (Kd.R_types HO_14.out BK259.out (by decide)) (fun _ hk => hk.2) (.int .i64 ((rd_T45 t247 x15_2).f0))) (fun _ hk => hk.2) (.int .i64 ((rd_T45 t247 x15_2).f1))) (fun _ hk => hk.2) (.int .i64 ((rd_T45 t247 x15_2).f2))) (fun _ hk => ⟨hk.1.1, hk.1.2⟩)⟩, ⟨by (with_reducible repeat (first | refine blk_drewN ?_ _ | refine blk_drew ?_ | refine blk_alloc ?_ _)); refine blk_put (cs := #[.int .i64 ((rd_T45 t247 x15_2).f0), .int .i64 ((rd_T45 t247 x15_2).f1), .int .i64 0]) ?_ 2 _ rfl; (with_reducible repeat (first | refine blk_drewN ?_ _ | refine blk_drew ?_ | refine blk_alloc ?_ _)); refine blk_put (cs := #[.int .i64 ((rd_T45 t247 x15_2).f0), .int .i64 0, .int .i64 0]) ?_ 1 _ rfl; (with_reducible repeat (first | refine blk_drewN ?_ _ | refine blk_drew ?_ | refine blk_alloc ?_ _)); refine blk_put (cs := #[.int .i64 0, .int .i64 0, .int .i64 0]) ?_ 0 _ rfl; (with_reducible repeat (first | refine blk_drewN ?_ _ | refine blk_drew ?_ | refine blk_alloc ?_ _)); exact BK259.out⟩, ⟨by repeat (first | (with_reducible first | exact HB.out | apply below_alloc | apply pw_below_drewN | apply below_drew1 | refine below_set ?_ GE259.out) | exact HB.out)⟩⟩
                                      · rw [if_neg c41] at H
                                        have c41b0 : decide (((rd_T45 t247 x15_2).f2) < 0) = false := decide_eq_false c41
                                        clear c41
                                        by_cases c43 : 0 ≤ ((rd_T45 t247 x15_2).f1)
                                        · rw [if_pos c43] at H
                                          have c43b0 := eq_true c43
                                          have c43b1 : decide (0 ≤ ((rd_T45 t247 x15_2).f1)) = true := decide_eq_true c43
                                          clear c43
                                          obtain ⟨ji44, hji44⟩ : ∃ j_ : Int, (shl .i64 1 ((rd_T45 t247 x15_2).f1)) = j_ := ⟨_, rfl⟩
                                          replace H : (wringerlaw13_SpreadPlaces.j2 k2 t243 t244 t247 ji10 x12_2 (Int.tmod (wrap64 (a2)) 65) x14_2 x15_2 (decide ((wrap64 (((rd_T45 t247 x15_2).f2) + (ji44))) > ji10)) ((rd_T45 t247 x15_2).f0) ((rd_T45 t247 x15_2).f1) ((rd_T45 t247 x15_2).f2)) = some r := by first | (rw [hji44] at H; exact H) | (simp only [hji44] at H ⊢; exact H)
                                          have hji44_ : (IntKind.i64.wrap (1 * 2 ^ min ((rd_T45 t247 x15_2).f1).toNat 64)) = ji44 := hji44
                                          have hji44z : ((rd_T45 t247 x15_2).f1) ≤ 64 → (IntKind.i64.wrap (1 * 2 ^ ((rd_T45 t247 x15_2).f1).toNat)) = ji44 := shl_small hji44
                                          have hji44u : (IntKind.i64.wrap (2 ^ min ((rd_T45 t247 x15_2).f1).toNat 64)) = ji44 := by have h_ := hji44_; rw [Int.one_mul] at h_; exact h_
                                          have hji44v : ((rd_T45 t247 x15_2).f1) ≤ 64 → (IntKind.i64.wrap (2 ^ ((rd_T45 t247 x15_2).f1).toNat)) = ji44 := fun hle_ => by have h_ := hji44z hle_; rw [Int.one_mul] at h_; exact h_
                                          have hji44y : (wrap64 (1 * 2 ^ min ((rd_T45 t247 x15_2).f1).toNat 64)) = ji44 := (i64_w _).symm.trans hji44_
                                          have hji44x : ((rd_T45 t247 x15_2).f1) ≤ 64 → (wrap64 (1 * 2 ^ ((rd_T45 t247 x15_2).f1).toNat)) = ji44 := fun h_ => (i64_w _).symm.trans (hji44z h_)
                                          have H' := Aside0.mk H
                                          clear H
                                          have hcz45_0 : w31.cell? ⟨gb259, 0, none⟩ = some (.int .i64 0) := (blk_cell BK259.out 0).trans rfl
                                          have hcz45_1 : w31.cell? ⟨gb259, 1, none⟩ = some (.int .i64 0) := (blk_cell BK259.out 1).trans rfl
                                          have hcz45_2 : w31.cell? ⟨gb259, 2, none⟩ = some (.int .i64 0) := (blk_cell BK259.out 2).trans rfl
                                          have hfz45_0 := blk_frozen BK259.out 0
                                          have hfz45_1 := blk_frozen BK259.out 1
                                          have hfz45_2 := blk_frozen BK259.out 2
                                          go_wp2
                                          repeat (go_quiet (fail); try go_wp2)
                                          go_meet
                                          case rel => exact ⟨_, (decide ((wrap64 (((rd_T45 t247 x15_2).f2) + (ji44))) > ji10)), (by first | rfl | (simp; done) | (simp only [← hji10, ← hji44] <;> (first | rfl | simp)) | (simp [*]; done)), H', ⟨by have := HJ10.out; have := HK2.out; first | omega | exact Nat.le_refl _⟩, ⟨by (with_reducible repeat (first | apply Kd.R_alloc | apply Kd.R_drewN | apply Kd.R_drew)); exact Kd.R_mono (Kd.R_far (p := ⟨gb259, 2, none⟩) (Kd.R_far (p := ⟨gb259, 1, none⟩) (Kd.R_far (p := ⟨gb259, 0, none⟩) (Kd.R_types HO_7.out BK259.out (by decide)) (fun _ hk => hk.2) (.int .i64 ((rd_T45 t247 x15_2).f0))) (fun _ hk => hk.2) (.int .i64 ((rd_T45 t247 x15_2).f1))) (fun _ hk => hk.2) (.int .i64 ((rd_T45 t247 x15_2).f2))) (fun _ hk => ⟨hk.1.1, hk.1.2⟩)⟩, ⟨by (with_reducible repeat (first | apply Kd.R_alloc | apply Kd.R_drewN | apply Kd.R_drew)); exact Kd.R_mono (Kd.R_far (p := ⟨gb259, 2, none⟩) (Kd.R_far (p := ⟨gb259, 1, none⟩) (Kd.R_far (p := ⟨gb259, 0, none⟩) (Kd.R_mono HO_9.out (fun k_ hk => (⟨hk, hk.2⟩ : _ ∧ k_ ≠ gb259))) (fun _ hk => hk.2) (.int .i64 ((rd_T45 t247 x15_2).f0))) (fun _ hk => hk.2) (.int .i64 ((rd_T45 t247 x15_2).f1))) (fun _ hk => hk.2) (.int .i64 ((rd_T45 t247 x15_2).f2))) (fun _ hk => hk.1.2)⟩, ⟨by (with_reducible repeat (first | apply Kd.R_alloc | apply Kd.R_drewN | apply Kd.R_drew)); exact Kd.R_mono (Kd.R_far (p := ⟨gb259, 2, none⟩) (Kd.R_far (p := ⟨gb259, 1, none⟩) (Kd.R_far (p := ⟨gb259, 0, none⟩) (Kd.R_types HO_12.out BK259.out (by decide)) (fun _ hk => hk.2) (.int .i64 ((rd_T45 t247 x15_2).f0))) (fun _ hk => hk.2) (.int .i64 ((rd_T45 t247 x15_2).f1))) (fun _ hk => hk.2) (.int .i64 ((rd_T45 t247 x15_2).f2))) (fun _ hk => ⟨hk.1.1, hk.1.2⟩)⟩, ⟨by (with_reducible repeat (first | apply Kd.R_alloc | apply Kd.R_drewN | apply Kd.R_drew)); exact Kd.R_mono (Kd.R_far (p := ⟨gb259, 2, none⟩) (Kd.R_far (p := ⟨gb259, 1, none⟩) (Kd.R_far (p := ⟨gb259, 0, none⟩) (Kd.R_types HO_14.out BK259.out (by decide)) (fun _ hk => hk.2) (.int .i64 ((rd_T45 t247 x15_2).f0))) (fun _ hk => hk.2) (.int .i64 ((rd_T45 t247 x15_2).f1))) (fun _ hk => hk.2) (.int .i64 ((rd_T45 t247 x15_2).f2))) (fun _ hk => ⟨hk.1.1, hk.1.2⟩)⟩, ⟨by (with_reducible repeat (first | refine blk_drewN ?_ _ | refine blk_drew ?_ | refine blk_alloc ?_ _)); refine blk_put (cs := #[.int .i64 ((rd_T45 t247 x15_2).f0), .int .i64 ((rd_T45 t247 x15_2).f1), .int .i64 0]) ?_ 2 _ rfl; (with_reducible repeat (first | refine blk_drewN ?_ _ | refine blk_drew ?_ | refine blk_alloc ?_ _)); refine blk_put (cs := #[.int .i64 ((rd_T45 t247 x15_2).f0), .int .i64 0, .int .i64 0]) ?_ 1 _ rfl; (with_reducible repeat (first | refine blk_drewN ?_ _ | refine blk_drew ?_ | refine blk_alloc ?_ _)); refine blk_put (cs := #[.int .i64 0, .int .i64 0, .int .i64 0]) ?_ 0 _ rfl; (with_reducible repeat (first | refine blk_drewN ?_ _ | refine blk_drew ?_ | refine blk_alloc ?_ _)); exact BK259.out⟩, ⟨by repeat (first | (with_reducible first | exact HB.out | apply below_alloc | apply pw_below_drewN | apply below_drew1 | refine below_set ?_ GE259.out) | exact HB.out)⟩⟩
                                        · rw [if_neg c43] at H
                                          exact absurd H (by simp)
                            case rest =>
                              clear HC29
                              try clear c1
                              try clear c2
                              try clear p2
                              try clear q2
                              try clear hx2
                              try clear c3
                              try clear c4
                              try clear c4b0
                              try clear c4b1
                              try clear c5
                              try clear p6
                              try clear c9
                              try clear c9b0
                              try clear c9b1
                              try clear c16
                              try clear c16b0
                              try clear c16b1
                              try clear c18
                              try clear c19
                              try clear c19b0
                              try clear c19b1
                              try clear c20
                              try clear c20b0
                              try clear c20b1
                              try clear c21
                              try clear c21b0
                              try clear c21b1
                              try clear p25
                              try clear q25
                              try clear hx25
                              try clear c26
                              try clear c26b0
                              try clear c27
                              try clear c27b0
                              try clear c28
                              try clear c28b0
                              try clear c33
                              try clear c33b0
                              try clear c35
                              try clear c35b0
                              try clear c37
                              try clear c37b0
                              try clear c39
                              try clear c39b0
                              try clear c41
                              try clear c41b0
                              try clear c43
                              try clear c43b0
                              try clear c43b1
                              try clear hcz32_0
                              try clear hcz32_1
                              try clear hcz32_2
                              try clear hcz34_0
                              try clear hcz34_1
                              try clear hcz34_2
                              try clear hcz36_0
                              try clear hcz36_1
                              try clear hcz36_2
                              try clear hcz38_0
                              try clear hcz38_1
                              try clear hcz38_2
                              try clear hcz40_0
                              try clear hcz40_1
                              try clear hcz40_2
                              try clear hcz42_0
                              try clear hcz42_1
                              try clear hcz42_2
                              try clear hcz45_0
                              try clear hcz45_1
                              try clear hcz45_2
                              try clear hfz32_0
                              try clear hfz32_1
                              try clear hfz32_2
                              try clear hfz34_0
                              try clear hfz34_1
                              try clear hfz34_2
                              try clear hfz36_0
                              try clear hfz36_1
                              try clear hfz36_2
                              try clear hfz38_0
                              try clear hfz38_1
                              try clear hfz38_2
                              try clear hfz40_0
                              try clear hfz40_1
                              try clear hfz40_2
                              try clear hfz42_0
                              try clear hfz42_1
                              try clear hfz42_2
                              try clear hfz45_0
                              try clear hfz45_1
                              try clear hfz45_2
                              try clear hx258_0
                              try clear hx258_1
                              try clear hx258_2
                              try clear p2
                              try clear p258
                              try clear p6
                              try clear q258
                              obtain ⟨kq, x94_28, rfl, HA, HJ28, HO_7, HO_9, HO_12, HO_14, BK259, HB⟩ := hcut
                              cases kq with
                              | zero => exact absurd HA.out (by simp [wringerlaw13_SpreadPlaces.j2])
                              | succ kj28 =>
                                have H := HA.out
                                clear HA
                                simp only [wringerlaw13_SpreadPlaces.j2] at H
                                by_cases c46 : x94_28 = true
                                · subst c46
                                  have H1 : (some false) = some r := by rw [if_pos rfl] at H; exact H
                                  clear H
                                  have H := H1
                                  clear H1
                                  obtain rfl := Option.some.inj H
                                  go_wp2
                                  repeat (go_quiet (fail); try go_wp2)
                                  go_ret
                                  exact ⟨by first | rfl | (simp [errW_none, errW_some] <;> rfl) | (simp only [← hji10]; first | rfl | (simp [errW_none, errW_some] <;> rfl)) | (simp [*, errW_none, errW_some] <;> rfl), by repeat (first | (with_reducible first | exact HB.out | apply below_alloc | apply pw_below_drewN | apply below_drew1 | refine below_set ?_ GE259.out) | exact HB.out)⟩
                                · replace c46 := Bool.eq_false_iff.mpr c46
                                  subst c46
                                  have H1 : (if 0 ≤ ((rd_T45 t247 x15_2).f0) then (if ((rd_T45 t247 x15_2).f0) < (x12_2.length : Int) then ((some (x12_2.set (((rd_T45 t247 x15_2).f0) : Int).toNat (wrap64 ((rd x12_2 ((rd_T45 t247 x15_2).f0)) + 1)) : List Int)).bind fun y261 => (if ((rd_T45 t247 x15_2).f0) = (Int.tmod (wrap64 (a2)) 65) then (wringerlaw13_SpreadPlaces.l1 kj28 t243 t244 t247 ji10 y261 (Int.tmod (wrap64 (a2)) 65) x14_2 x15_2 0 ((rd_T45 t247 x15_2).f0) ((rd_T45 t247 x15_2).f1) ((rd_T45 t247 x15_2).f2)) else (wringerlaw13_SpreadPlaces.l0 kj28 t243 t244 t247 ji10 y261 (Int.tmod (wrap64 (a2)) 65) x14_2 (wrap64 (x15_2 + 1))))) else (none)) else (none)) = some r := by rw [if_neg (show ¬ (false = true) by decide)] at H; exact H
                                  clear H
                                  have H := H1
                                  clear H1
                                  by_cases c47 : 0 ≤ ((rd_T45 t247 x15_2).f0)
                                  · rw [if_pos c47] at H
                                    have c47b0 : decide (0 ≤ ((rd_T45 t247 x15_2).f0)) = true := decide_eq_true c47
                                    clear c47
                                    by_cases c48 : ((rd_T45 t247 x15_2).f0) < (x12_2.length : Int)
                                    · rw [if_pos c48] at H
                                      have c48b0 : decide (((rd_T45 t247 x15_2).f0) < (x12_2.length : Int)) = true := decide_eq_true c48
                                      clear c48
                                      obtain ⟨y261, hy261⟩ : ∃ y_ : List Int, y_ = (x12_2.set (((rd_T45 t247 x15_2).f0) : Int).toNat (wrap64 ((rd x12_2 ((rd_T45 t247 x15_2).f0)) + 1))) := ⟨_, rfl⟩
                                      replace H : (if ((rd_T45 t247 x15_2).f0) = (Int.tmod (wrap64 (a2)) 65) then (wringerlaw13_SpreadPlaces.l1 kj28 t243 t244 t247 ji10 y261 (Int.tmod (wrap64 (a2)) 65) x14_2 x15_2 0 ((rd_T45 t247 x15_2).f0) ((rd_T45 t247 x15_2).f1) ((rd_T45 t247 x15_2).f2)) else (wringerlaw13_SpreadPlaces.l0 kj28 t243 t244 t247 ji10 y261 (Int.tmod (wrap64 (a2)) 65) x14_2 (wrap64 (x15_2 + 1)))) = some r := by first | (rw [hy261]; with_reducible exact H) | (have H2_ := (Option.bind_some _ _).symm.trans H; rw [hy261]; with_reducible exact H2_) | (have H2_ := (Option.bind_some _ _).symm.trans H; with_reducible exact H2_) | with_reducible exact H | (rw [hy261]; exact H) | exact H
                                      have Ny261 := Aside0.mk hy261
                                      clear hy261
                                      by_cases c50 : ((rd_T45 t247 x15_2).f0) = (Int.tmod (wrap64 (a2)) 65)
                                      · rw [if_pos c50] at H
                                        have c50b0 : (((rd_T45 t247 x15_2).f0) == (Int.tmod (wrap64 (a2)) 65)) = true := beq_iff_eq.mpr c50
                                        have c50b1 : (((rd_T45 t247 x15_2).f0) != (Int.tmod (wrap64 (a2)) 65)) = false := bne_eq_false_iff_eq.mpr c50
                                        clear c50
                                        have H' := Aside0.mk H
                                        clear H
                                        have hcz51_0 : wc.cell? ⟨gb259, 0, none⟩ = some (.int .i64 ((rd_T45 t247 x15_2).f0)) := (blk_cell BK259.out 0).trans rfl
                                        have hcz51_1 : wc.cell? ⟨gb259, 1, none⟩ = some (.int .i64 ((rd_T45 t247 x15_2).f1)) := (blk_cell BK259.out 1).trans rfl
                                        have hcz51_2 : wc.cell? ⟨gb259, 2, none⟩ = some (.int .i64 ((rd_T45 t247 x15_2).f2)) := (blk_cell BK259.out 2).trans rfl
                                        have hfz51_0 := blk_frozen BK259.out 0
                                        have hfz51_1 := blk_frozen BK259.out 1
                                        have hfz51_2 := blk_frozen BK259.out 2
                                        obtain ⟨Ao52, co52, eo52⟩ := Kd.R_slice HO_12.out
                                        subst eo52
                                        have p260 : 0 ≤ (((rd_T45 t247 x15_2).f0) : Int) := of_decide_eq_true (by first | (with_reducible assumption) | assumption)
                                        have q260 : ((rd_T45 t247 x15_2).f0) < (x12_2.length : Int) := of_decide_eq_true (by first | (with_reducible assumption) | assumption)
                                        obtain ⟨ad260, e260, hx260_0⟩ := Kd.at_int (Kd.R_reads' HO_12.out).2.2 ((rd_T45 t247 x15_2).f0) p260 q260
                                        cases e260
                                        replace p260 := eq_true p260
                                        replace q260 := eq_true q260
                                        have p49 : 0 ≤ (((rd_T45 t247 x15_2).f0) : Int) := of_decide_eq_true (by first | (with_reducible assumption) | assumption)
                                        have q49 : (((rd_T45 t247 x15_2).f0) : Int) < ((x12_2.length : Int) : Int) := of_decide_eq_true (by first | (with_reducible assumption) | assumption)
                                        obtain ⟨go49, co49, eo49, gb49, gl49, cl49, HG49⟩ := Kd.R_form HO_12.out (by omega)
                                        (first | cases eo49 | (injection eo49 with ea_ en_ ec_; (first | subst ea_ | (injection ea_ with ea_; subst ea_)); subst ec_; clear en_))
                                        have GB49 := Aside0.mk gb49
                                        have GG49 := Aside0.mk HG49
                                        clear gb49 gl49 HG49
                                        (first | simp only [add_plain] at hx260_0 | skip)
                                        obtain ⟨hx49_0, hf49_0⟩ := Kd.R_celln 0 HO_12.out (((rd_T45 t247 x15_2).f0) : Int) p49 q49
                                        replace p49 := eq_true p49
                                        replace q49 := eq_true q49
                                        have HP53 := Kd.R_putg HO_12.out (((rd_T45 t247 x15_2).f0) : Int) (wrap64 ((rd x12_2 ((rd_T45 t247 x15_2).f0)) + 1))
                                        go_wp2_with (first | ((with_reducible refine gate_store (t := 3) (p := 101) rfl ?_); (try (rw [drewN_self wc]; generalize hq_ : World.drewN wc _ = wc; have n0_ := Aside0.mk (Kd.R_at hq_ HO_7.out); have n1_ := Aside0.mk (Kd.R_at hq_ HO_9.out); have n2_ := Aside0.mk (Kd.R_at hq_ HO_12.out); have n3_ := Aside0.mk (Kd.R_at hq_ HO_14.out); have n4_ := Aside0.mk (blk_at hq_ BK259.out); have n5_ := Aside0.mk (below_at hq_ HB.out); clear hq_ HO_7 HO_9 HO_12 HO_14 BK259 HB; have HO_7 := n0_; have HO_9 := n1_; have HO_12 := n2_; have HO_14 := n3_; have BK259 := n4_; have HB := n5_; clear n0_ n1_ n2_ n3_ n4_ n5_; (try (have HP53 := Kd.R_putg HO_12.out (((rd_T45 t247 x15_2).f0) : Int) (wrap64 ((rd x12_2 ((rd_T45 t247 x15_2).f0)) + 1)))))); refine store_event (t := 3) (p := 101) (v := ?vo_w54) (w1 := (wc.setCell ⟨go49, (((rd_T45 t247 x15_2).f0) : Int).toNat, none⟩ (.int .i64 (wrap64 ((rd x12_2 ((rd_T45 t247 x15_2).f0)) + 1))))) ?hg ?ho ?hn ?hr ?_; (case ho => rfl); (case hg => rfl); (case hn => rfl); (case hr => first | (go_simp; done) | (go_simp; rfl)); intro w54 hw; have hg : wc.grownBy w54 (some go49) := (by rw [hw]; exact HP53.2); have hp_ : Kd.R (Kd.int .i64) 3 w54 w.heap.size (fun k_ => some k_ ≠ (.slice Ao13 t243.length co13 : Value).ownBlock ∧ some k_ ≠ (v256 : Value).ownBlock) (.slice (some ⟨go49, 0, none⟩) x12_2.length co52) y261 := (by rw [hw, Ny261.out]; exact HP53.1); clear HP53; have n0_ := Aside0.mk (Kd.R_after (v := (.slice (some ⟨go49, 0, none⟩) x12_2.length co52)) (v1 := (.slice (some ⟨go49, 0, none⟩) x12_2.length co52)) (ok := (fun k_ => some k_ ≠ (v256 : Value).ownBlock)) (by (with_reducible repeat (first | apply Kd.R_alloc | apply Kd.R_drewN | apply Kd.R_drew)); exact Kd.R_mono HO_7.out (fun _ hk => ⟨hk.2, hk.1⟩)) hg (.inl rfl)); have n1_ := Aside0.mk (Kd.R_over' (v := (.slice (some ⟨go49, 0, none⟩) x12_2.length co52)) (by (with_reducible repeat (first | apply Kd.R_alloc | apply Kd.R_drewN | apply Kd.R_drew)); exact HO_9.out) (Kd.R_typed HO_12.out) (by decide) hg); have n2_ := Aside0.mk (hp_); have n3_ := Aside0.mk (Kd.R_after (v := (.slice (some ⟨go49, 0, none⟩) x12_2.length co52)) (v1 := (.slice (some ⟨go49, 0, none⟩) x12_2.length co52)) (ok := (fun k_ => some k_ ≠ (.slice Ao13 t243.length co13 : Value).ownBlock)) (by (with_reducible repeat (first | apply Kd.R_alloc | apply Kd.R_drewN | apply Kd.R_drew)); exact HO_14.out) hg (.inl rfl)); have n4_ := Aside0.mk (blk_grown (g := gb259) (o := .cells #[.int .i64 ((rd_T45 t247 x15_2).f0), .int .i64 ((rd_T45 t247 x15_2).f1), .int .i64 ((rd_T45 t247 x15_2).f2)] 45 (0, 0)) (by (with_reducible repeat (first | refine blk_drewN ?_ _ | refine blk_drew ?_ | refine blk_alloc ?_ _)); exact BK259.out) hg (Kd.R_ne HO_12.out BK259.out (by decide))); have n5_ := Aside0.mk ((by rw [hw]; exact below_set (HB.out) GB49.out : Below w.heap.size w w54)); clear HO_7; clear HO_9; clear HO_12; clear HO_14; clear BK259; clear HB; have HO_7 := n0_; have HO_9 := n1_; have HO_12 := n2_; have HO_14 := n3_; have BK259 := n4_; have HB := n5_; clear n0_ n1_ n2_ n3_ n4_ n5_; clear hg hw hp_; have hcz55_0 : w54.cell? ⟨gb259, 0, none⟩ = some (.int .i64 ((rd_T45 t247 x15_2).f0)) := (blk_cell BK259.out 0).trans rfl; have hcz55_1 : w54.cell? ⟨gb259, 1, none⟩ = some (.int .i64 ((rd_T45 t247 x15_2).f1)) := (blk_cell BK259.out 1).trans rfl; have hcz55_2 : w54.cell? ⟨gb259, 2, none⟩ = some (.int .i64 ((rd_T45 t247 x15_2).f2)) := (blk_cell BK259.out 2).trans rfl; have hfz55_0 := blk_frozen BK259.out 0; have hfz55_1 := blk_frozen BK259.out 1; have hfz55_2 := blk_frozen BK259.out 2))
                                        repeat (go_quiet (first | ((with_reducible refine gate_store (t := 3) (p := 101) rfl ?_); (try (rw [drewN_self wc]; generalize hq_ : World.drewN wc _ = wc; have n0_ := Aside0.mk (Kd.R_at hq_ HO_7.out); have n1_ := Aside0.mk (Kd.R_at hq_ HO_9.out); have n2_ := Aside0.mk (Kd.R_at hq_ HO_12.out); have n3_ := Aside0.mk (Kd.R_at hq_ HO_14.out); have n4_ := Aside0.mk (blk_at hq_ BK259.out); have n5_ := Aside0.mk (below_at hq_ HB.out); clear hq_ HO_7 HO_9 HO_12 HO_14 BK259 HB; have HO_7 := n0_; have HO_9 := n1_; have HO_12 := n2_; have HO_14 := n3_; have BK259 := n4_; have HB := n5_; clear n0_ n1_ n2_ n3_ n4_ n5_; (try (have HP53 := Kd.R_putg HO_12.out (((rd_T45 t247 x15_2).f0) : Int) (wrap64 ((rd x12_2 ((rd_T45 t247 x15_2).f0)) + 1)))))); refine store_event (t := 3) (p := 101) (v := ?vo_w54) (w1 := (wc.setCell ⟨go49, (((rd_T45 t247 x15_2).f0) : Int).toNat, none⟩ (.int .i64 (wrap64 ((rd x12_2 ((rd_T45 t247 x15_2).f0)) + 1))))) ?hg ?ho ?hn ?hr ?_; (case ho => rfl); (case hg => rfl); (case hn => rfl); (case hr => first | (go_simp; done) | (go_simp; rfl)); intro w54 hw; have hg : wc.grownBy w54 (some go49) := (by rw [hw]; exact HP53.2); have hp_ : Kd.R (Kd.int .i64) 3 w54 w.heap.size (fun k_ => some k_ ≠ (.slice Ao13 t243.length co13 : Value).ownBlock ∧ some k_ ≠ (v256 : Value).ownBlock) (.slice (some ⟨go49, 0, none⟩) x12_2.length co52) y261 := (by rw [hw, Ny261.out]; exact HP53.1); clear HP53; have n0_ := Aside0.mk (Kd.R_after (v := (.slice (some ⟨go49, 0, none⟩) x12_2.length co52)) (v1 := (.slice (some ⟨go49, 0, none⟩) x12_2.length co52)) (ok := (fun k_ => some k_ ≠ (v256 : Value).ownBlock)) (by (with_reducible repeat (first | apply Kd.R_alloc | apply Kd.R_drewN | apply Kd.R_drew)); exact Kd.R_mono HO_7.out (fun _ hk => ⟨hk.2, hk.1⟩)) hg (.inl rfl)); have n1_ := Aside0.mk (Kd.R_over' (v := (.slice (some ⟨go49, 0, none⟩) x12_2.length co52)) (by (with_reducible repeat (first | apply Kd.R_alloc | apply Kd.R_drewN | apply Kd.R_drew)); exact HO_9.out) (Kd.R_typed HO_12.out) (by decide) hg); have n2_ := Aside0.mk (hp_); have n3_ := Aside0.mk (Kd.R_after (v := (.slice (some ⟨go49, 0, none⟩) x12_2.length co52)) (v1 := (.slice (some ⟨go49, 0, none⟩) x12_2.length co52)) (ok := (fun k_ => some k_ ≠ (.slice Ao13 t243.length co13 : Value).ownBlock)) (by (with_reducible repeat (first | apply Kd.R_alloc | apply Kd.R_drewN | apply Kd.R_drew)); exact HO_14.out) hg (.inl rfl)); have n4_ := Aside0.mk (blk_grown (g := gb259) (o := .cells #[.int .i64 ((rd_T45 t247 x15_2).f0), .int .i64 ((rd_T45 t247 x15_2).f1), .int .i64 ((rd_T45 t247 x15_2).f2)] 45 (0, 0)) (by (with_reducible repeat (first | refine blk_drewN ?_ _ | refine blk_drew ?_ | refine blk_alloc ?_ _)); exact BK259.out) hg (Kd.R_ne HO_12.out BK259.out (by decide))); have n5_ := Aside0.mk ((by rw [hw]; exact below_set (HB.out) GB49.out : Below w.heap.size w w54)); clear HO_7; clear HO_9; clear HO_12; clear HO_14; clear BK259; clear HB; have HO_7 := n0_; have HO_9 := n1_; have HO_12 := n2_; have HO_14 := n3_; have BK259 := n4_; have HB := n5_; clear n0_ n1_ n2_ n3_ n4_ n5_; clear hg hw hp_; have hcz55_0 : w54.cell? ⟨gb259, 0, none⟩ = some (.int .i64 ((rd_T45 t247 x15_2).f0)) := (blk_cell BK259.out 0).trans rfl; have hcz55_1 : w54.cell? ⟨gb259, 1, none⟩ = some (.int .i64 ((rd_T45 t247 x15_2).f1)) := (blk_cell BK259.out 1).trans rfl; have hcz55_2 : w54.cell? ⟨gb259, 2, none⟩ = some (.int .i64 ((rd_T45 t247 x15_2).f2)) := (blk_cell BK259.out 2).trans rfl; have hfz55_0 := blk_frozen BK259.out 0; have hfz55_1 := blk_frozen BK259.out 1; have hfz55_2 := blk_frozen BK259.out 2)); try go_wp2_with (first | ((with_reducible refine gate_store (t := 3) (p := 101) rfl ?_); (try (rw [drewN_self wc]; generalize hq_ : World.drewN wc _ = wc; have n0_ := Aside0.mk (Kd.R_at hq_ HO_7.out); have n1_ := Aside0.mk (Kd.R_at hq_ HO_9.out); have n2_ := Aside0.mk (Kd.R_at hq_ HO_12.out); have n3_ := Aside0.mk (Kd.R_at hq_ HO_14.out); have n4_ := Aside0.mk (blk_at hq_ BK259.out); have n5_ := Aside0.mk (below_at hq_ HB.out); clear hq_ HO_7 HO_9 HO_12 HO_14 BK259 HB; have HO_7 := n0_; have HO_9 := n1_; have HO_12 := n2_; have HO_14 := n3_; have BK259 := n4_; have HB := n5_; clear n0_ n1_ n2_ n3_ n4_ n5_; (try (have HP53 := Kd.R_putg HO_12.out (((rd_T45 t247 x15_2).f0) : Int) (wrap64 ((rd x12_2 ((rd_T45 t247 x15_2).f0)) + 1)))))); refine store_event (t := 3) (p := 101) (v := ?vo_w54) (w1 := (wc.setCell ⟨go49, (((rd_T45 t247 x15_2).f0) : Int).toNat, none⟩ (.int .i64 (wrap64 ((rd x12_2 ((rd_T45 t247 x15_2).f0)) + 1))))) ?hg ?ho ?hn ?hr ?_; (case ho => rfl); (case hg => rfl); (case hn => rfl); (case hr => first | (go_simp; done) | (go_simp; rfl)); intro w54 hw; have hg : wc.grownBy w54 (some go49) := (by rw [hw]; exact HP53.2); have hp_ : Kd.R (Kd.int .i64) 3 w54 w.heap.size (fun k_ => some k_ ≠ (.slice Ao13 t243.length co13 : Value).ownBlock ∧ some k_ ≠ (v256 : Value).ownBlock) (.slice (some ⟨go49, 0, none⟩) x12_2.length co52) y261 := (by rw [hw, Ny261.out]; exact HP53.1); clear HP53; have n0_ := Aside0.mk (Kd.R_after (v := (.slice (some ⟨go49, 0, none⟩) x12_2.length co52)) (v1 := (.slice (some ⟨go49, 0, none⟩) x12_2.length co52)) (ok := (fun k_ => some k_ ≠ (v256 : Value).ownBlock)) (by (with_reducible repeat (first | apply Kd.R_alloc | apply Kd.R_drewN | apply Kd.R_drew)); exact Kd.R_mono HO_7.out (fun _ hk => ⟨hk.2, hk.1⟩)) hg (.inl rfl)); have n1_ := Aside0.mk (Kd.R_over' (v := (.slice (some ⟨go49, 0, none⟩) x12_2.length co52)) (by (with_reducible repeat (first | apply Kd.R_alloc | apply Kd.R_drewN | apply Kd.R_drew)); exact HO_9.out) (Kd.R_typed HO_12.out) (by decide) hg); have n2_ := Aside0.mk (hp_); have n3_ := Aside0.mk (Kd.R_after (v := (.slice (some ⟨go49, 0, none⟩) x12_2.length co52)) (v1 := (.slice (some ⟨go49, 0, none⟩) x12_2.length co52)) (ok := (fun k_ => some k_ ≠ (.slice Ao13 t243.length co13 : Value).ownBlock)) (by (with_reducible repeat (first | apply Kd.R_alloc | apply Kd.R_drewN | apply Kd.R_drew)); exact HO_14.out) hg (.inl rfl)); have n4_ := Aside0.mk (blk_grown (g := gb259) (o := .cells #[.int .i64 ((rd_T45 t247 x15_2).f0), .int .i64 ((rd_T45 t247 x15_2).f1), .int .i64 ((rd_T45 t247 x15_2).f2)] 45 (0, 0)) (by (with_reducible repeat (first | refine blk_drewN ?_ _ | refine blk_drew ?_ | refine blk_alloc ?_ _)); exact BK259.out) hg (Kd.R_ne HO_12.out BK259.out (by decide))); have n5_ := Aside0.mk ((by rw [hw]; exact below_set (HB.out) GB49.out : Below w.heap.size w w54)); clear HO_7; clear HO_9; clear HO_12; clear HO_14; clear BK259; clear HB; have HO_7 := n0_; have HO_9 := n1_; have HO_12 := n2_; have HO_14 := n3_; have BK259 := n4_; have HB := n5_; clear n0_ n1_ n2_ n3_ n4_ n5_; clear hg hw hp_; have hcz55_0 : w54.cell? ⟨gb259, 0, none⟩ = some (.int .i64 ((rd_T45 t247 x15_2).f0)) := (blk_cell BK259.out 0).trans rfl; have hcz55_1 : w54.cell? ⟨gb259, 1, none⟩ = some (.int .i64 ((rd_T45 t247 x15_2).f1)) := (blk_cell BK259.out 1).trans rfl; have hcz55_2 : w54.cell? ⟨gb259, 2, none⟩ = some (.int .i64 ((rd_T45 t247 x15_2).f2)) := (blk_cell BK259.out 2).trans rfl; have hfz55_0 := blk_frozen BK259.out 0; have hfz55_1 := blk_frozen BK259.out 1; have hfz55_2 := blk_frozen BK259.out 2)))
                                        go_loopg [17] kj28 (fun kq v17 w' => ∃ (x14_4 : List Int) (x17_4 : Int), v17 = .int .i64 x17_4 ∧ Aside0 (wringerlaw13_SpreadPlaces.l1 kq t243 t244 t247 ji10 y261 (Int.tmod (wrap64 (a2)) 65) x14_4 x15_2 x17_4 ((rd_T45 t247 x15_2).f0) ((rd_T45 t247 x15_2).f1) ((rd_T45 t247 x15_2).f2) = some r) ∧ Aside0 (kq ≤ kj28) ∧ Aside0 (Kd.R (Kd.int .i64) 3 w' w.heap.size (fun k_ => some k_ ≠ ((.slice (some ⟨go49, 0, none⟩) x12_2.length co52) : Value).ownBlock ∧ some k_ ≠ (v256 : Value).ownBlock) (.slice Ao13 t243.length co13) t243) ∧ Aside0 (Kd.R k45 45 w' w.heap.size (fun k_ => k_ ≠ gb259) (.slice (some ad258) t247.length co30) t247) ∧ Aside0 (Kd.R (Kd.int .i64) 3 w' w.heap.size (fun k_ => some k_ ≠ ((.slice Ao13 t243.length co13) : Value).ownBlock ∧ some k_ ≠ (v256 : Value).ownBlock) (.slice (some ⟨go49, 0, none⟩) x12_2.length co52) y261) ∧ Aside0 (Kd.R (Kd.int .i64) 3 w' w.heap.size (fun k_ => some k_ ≠ ((.slice Ao13 t243.length co13) : Value).ownBlock ∧ some k_ ≠ ((.slice (some ⟨go49, 0, none⟩) x12_2.length co52) : Value).ownBlock) v256 x14_4) ∧ Aside0 (w'.heap[gb259]? = some (.cells #[.int .i64 ((rd_T45 t247 x15_2).f0), .int .i64 ((rd_T45 t247 x15_2).f1), .int .i64 ((rd_T45 t247 x15_2).f2)] 45 (0, 0))) ∧ Aside0 (Below w.heap.size w w'))
                                        case atStart => exact ⟨(x14_2), (0), (by first | rfl | (simp; done) | (simp [*]; done)), H', ⟨Nat.le_refl _⟩, ⟨by (with_reducible repeat (first | apply Kd.R_alloc | apply Kd.R_drewN | apply Kd.R_drew)); exact Kd.R_mono HO_7.out (fun _ hk => ⟨hk.2, hk.1⟩)⟩, ⟨by (with_reducible repeat (first | apply Kd.R_alloc | apply Kd.R_drewN | apply Kd.R_drew)); exact HO_9.out⟩, ⟨by (with_reducible repeat (first | apply Kd.R_alloc | apply Kd.R_drewN | apply Kd.R_drew)); exact HO_12.out⟩, ⟨by (with_reducible repeat (first | apply Kd.R_alloc | apply Kd.R_drewN | apply Kd.R_drew)); exact HO_14.out⟩, ⟨by (with_reducible repeat (first | refine blk_drewN ?_ _ | refine blk_drew ?_ | refine blk_alloc ?_ _)); exact BK259.out⟩, ⟨by repeat (first | (with_reducible first | exact HB.out | apply below_alloc | apply pw_below_drewN | apply below_drew1 | refine below_set ?_ GE259.out) | exact HB.out)⟩⟩
                                        case round =>
                                          clear H'
                                          try clear c1
                                          try clear c2
                                          try clear p2
                                          try clear q2
                                          try clear hx2
                                          try clear c3
                                          try clear c4
                                          try clear c4b0
                                          try clear c4b1
                                          try clear p4
                                          try clear q4
                                          try clear hx4
                                          try clear hf4
                                          try clear c5
                                          try clear p6
                                          try clear c9
                                          try clear c9b0
                                          try clear c9b1
                                          try clear c16
                                          try clear c16b0
                                          try clear c16b1
                                          try clear c18
                                          try clear c19
                                          try clear c19b0
                                          try clear c19b1
                                          try clear c20
                                          try clear c20b0
                                          try clear c20b1
                                          try clear c21
                                          try clear c21b0
                                          try clear c21b1
                                          try clear p25
                                          try clear q25
                                          try clear hx25
                                          try clear c26
                                          try clear c26b0
                                          try clear p26
                                          try clear q26
                                          try clear hx26
                                          try clear c27
                                          try clear c27b0
                                          try clear c28
                                          try clear c28b0
                                          try clear c33
                                          try clear c33b0
                                          try clear c35
                                          try clear c35b0
                                          try clear c37
                                          try clear c37b0
                                          try clear c39
                                          try clear c39b0
                                          try clear c41
                                          try clear c41b0
                                          try clear c43
                                          try clear c43b0
                                          try clear c43b1
                                          try clear c46
                                          try clear c47
                                          try clear c47b0
                                          try clear c48
                                          try clear c48b0
                                          try clear p49
                                          try clear q49
                                          try clear hx49
                                          try clear hf49
                                          try clear c50
                                          try clear c50b0
                                          try clear c50b1
                                          try clear hcz32_0
                                          try clear hcz32_1
                                          try clear hcz32_2
                                          try clear hcz34_0
                                          try clear hcz34_1
                                          try clear hcz34_2
                                          try clear hcz36_0
                                          try clear hcz36_1
                                          try clear hcz36_2
                                          try clear hcz38_0
                                          try clear hcz38_1
                                          try clear hcz38_2
                                          try clear hcz40_0
                                          try clear hcz40_1
                                          try clear hcz40_2
                                          try clear hcz42_0
                                          try clear hcz42_1
                                          try clear hcz42_2
                                          try clear hcz45_0
                                          try clear hcz45_1
                                          try clear hcz45_2
                                          try clear hcz51_0
                                          try clear hcz51_1
                                          try clear hcz51_2
                                          try clear hcz55_0
                                          try clear hcz55_1
                                          try clear hcz55_2
                                          try clear hfz32_0
                                          try clear hfz32_1
                                          try clear hfz32_2
                                          try clear hfz34_0
                                          try clear hfz34_1
                                          try clear hfz34_2
                                          try clear hfz36_0
                                          try clear hfz36_1
                                          try clear hfz36_2
                                          try clear hfz38_0
                                          try clear hfz38_1
                                          try clear hfz38_2
                                          try clear hfz40_0
                                          try clear hfz40_1
                                          try clear hfz40_2
                                          try clear hfz42_0
                                          try clear hfz42_1
                                          try clear hfz42_2
                                          try clear hfz45_0
                                          try clear hfz45_1
                                          try clear hfz45_2
                                          try clear hfz51_0
                                          try clear hfz51_1
                                          try clear hfz51_2
                                          try clear hfz55_0
                                          try clear hfz55_1
                                          try clear hfz55_2
                                          try clear hx258_0
                                          try clear hx258_1
                                          try clear hx258_2
                                          try clear hx260_0
                                          try clear hx49_0
                                          try clear p2
                                          try clear p25
                                          try clear p258
                                          try clear p260
                                          try clear p49
                                          try clear p6
                                          try clear q2
                                          try clear q25
                                          try clear q258
                                          try clear q260
                                          try clear q49
                                          obtain ⟨x14_4, x17_4, rfl, HA, HK4, HO_7, HO_9, HO_12, HO_14, BK259, HB⟩ := hrel
                                          have hl12_4 := (Kd.R_reads' HO_12.out).1
                                          rw [hl12_4] at HO_12
                                          (try simp only [hl12_4])
                                          (try simp only [hl12_4] at BK259)
                                          (try simp only [hl12_4] at HO_7)
                                          (try simp only [hl12_4] at HO_9)
                                          (try simp only [hl12_4] at HO_14)
                                          cases gk with
                                          | zero => exact absurd HA.out (by simp [wringerlaw13_SpreadPlaces.l1])
                                          | succ k4 =>
                                            have H := HA.out
                                            clear HA
                                            simp only [wringerlaw13_SpreadPlaces.l1] at H
                                            by_cases c56 : 0 ≤ ((rd_T45 t247 x15_2).f1)
                                            · rw [if_pos c56] at H
                                              have c56b0 := eq_true c56
                                              have c56b1 : decide (0 ≤ ((rd_T45 t247 x15_2).f1)) = true := decide_eq_true c56
                                              clear c56
                                              obtain ⟨ji57, hji57⟩ : ∃ j_ : Int, (shl .i64 1 ((rd_T45 t247 x15_2).f1)) = j_ := ⟨_, rfl⟩
                                              replace H : (if x17_4 < (ji57) then (if 0 ≤ (wrap64 (((rd_T45 t247 x15_2).f2) + x17_4)) then (if (wrap64 (((rd_T45 t247 x15_2).f2) + x17_4)) < (x14_4.length : Int) then (wringerlaw13_SpreadPlaces.l1 k4 t243 t244 t247 ji10 y261 (Int.tmod (wrap64 (a2)) 65) (x14_4.set ((wrap64 (((rd_T45 t247 x15_2).f2) + x17_4)) : Int).toNat (wrap64 ((rd x14_4 (wrap64 (((rd_T45 t247 x15_2).f2) + x17_4))) + 1))) x15_2 (wrap64 (x17_4 + 1)) ((rd_T45 t247 x15_2).f0) ((rd_T45 t247 x15_2).f1) ((rd_T45 t247 x15_2).f2)) else (none)) else (none)) else (wringerlaw13_SpreadPlaces.l0 k4 t243 t244 t247 ji10 y261 (Int.tmod (wrap64 (a2)) 65) x14_4 (wrap64 (x15_2 + 1)))) = some r := by first | (rw [hji57] at H; exact H) | (simp only [hji57] at H ⊢; exact H)
                                              have hji57_ : (IntKind.i64.wrap (1 * 2 ^ min ((rd_T45 t247 x15_2).f1).toNat 64)) = ji57 := hji57
                                              have hji57z : ((rd_T45 t247 x15_2).f1) ≤ 64 → (IntKind.i64.wrap (1 * 2 ^ ((rd_T45 t247 x15_2).f1).toNat)) = ji57 := shl_small hji57
                                              have hji57u : (IntKind.i64.wrap (2 ^ min ((rd_T45 t247 x15_2).f1).toNat 64)) = ji57 := by have h_ := hji57_; rw [Int.one_mul] at h_; exact h_
                                              have hji57v : ((rd_T45 t247 x15_2).f1) ≤ 64 → (IntKind.i64.wrap (2 ^ ((rd_T45 t247 x15_2).f1).toNat)) = ji57 := fun hle_ => by have h_ := hji57z hle_; rw [Int.one_mul] at h_; exact h_
                                              have hji57y : (wrap64 (1 * 2 ^ min ((rd_T45 t247 x15_2).f1).toNat 64)) = ji57 := (i64_w _).symm.trans hji57_
                                              have hji57x : ((rd_T45 t247 x15_2).f1) ≤ 64 → (wrap64 (1 * 2 ^ ((rd_T45 t247 x15_2).f1).toNat)) = ji57 := fun h_ => (i64_w _).symm.trans (hji57z h_)
                                              by_cases c58 : x17_4 < (ji57)
                                              · rw [if_pos c58] at H
                                                have c58b0 : decide (x17_4 < (ji57)) = true := decide_eq_true c58
                                                clear c58
                                                obtain ⟨ji59, hji59⟩ : ∃ j_ : Int, (wrap64 (((rd_T45 t247 x15_2).f2) + x17_4)) = j_ := ⟨_, rfl⟩
                                                replace H : (if 0 ≤ (ji59) then (if (ji59) < (x14_4.length : Int) then (wringerlaw13_SpreadPlaces.l1 k4 t243 t244 t247 ji10 y261 (Int.tmod (wrap64 (a2)) 65) (x14_4.set ((ji59) : Int).toNat (wrap64 ((rd x14_4 (ji59)) + 1))) x15_2 (wrap64 (x17_4 + 1)) ((rd_T45 t247 x15_2).f0) ((rd_T45 t247 x15_2).f1) ((rd_T45 t247 x15_2).f2)) else (none)) else (none)) = some r := by first | (rw [hji59] at H; exact H) | (simp only [hji59] at H ⊢; exact H)
                                                have hji59w : (IntKind.i64.wrap (((rd_T45 t247 x15_2).f2) + x17_4)) = ji59 := (i64_w _).trans hji59
                                                by_cases c60 : 0 ≤ (ji59)
                                                · rw [if_pos c60] at H
                                                  have c60b0 : decide (0 ≤ (ji59)) = true := decide_eq_true c60
                                                  clear c60
                                                  by_cases c61 : (ji59) < (x14_4.length : Int)
                                                  · rw [if_pos c61] at H
                                                    have c61b0 : decide ((ji59) < (x14_4.length : Int)) = true := decide_eq_true c61
                                                    clear c61
                                                    obtain ⟨y263, hy263⟩ : ∃ y_ : List Int, y_ = (x14_4.set ((ji59) : Int).toNat (wrap64 ((rd x14_4 (ji59)) + 1))) := ⟨_, rfl⟩
                                                    replace H : (wringerlaw13_SpreadPlaces.l1 k4 t243 t244 t247 ji10 y261 (Int.tmod (wrap64 (a2)) 65) y263 x15_2 (wrap64 (x17_4 + 1)) ((rd_T45 t247 x15_2).f0) ((rd_T45 t247 x15_2).f1) ((rd_T45 t247 x15_2).f2)) = some r := by first | (rw [hy263]; with_reducible exact H) | (have H2_ := (Option.bind_some _ _).symm.trans H; rw [hy263]; with_reducible exact H2_) | (have H2_ := (Option.bind_some _ _).symm.trans H; with_reducible exact H2_) | with_reducible exact H | (rw [hy263]; exact H) | exact H
                                                    have Ny263 := Aside0.mk hy263
                                                    clear hy263
                                                    have H' := Aside0.mk H
                                                    clear H
                                                    have hcz63_0 : wr.cell? ⟨gb259, 0, none⟩ = some (.int .i64 ((rd_T45 t247 x15_2).f0)) := (blk_cell BK259.out 0).trans rfl
                                                    have hcz63_1 : wr.cell? ⟨gb259, 1, none⟩ = some (.int .i64 ((rd_T45 t247 x15_2).f1)) := (blk_cell BK259.out 1).trans rfl
                                                    have hcz63_2 : wr.cell? ⟨gb259, 2, none⟩ = some (.int .i64 ((rd_T45 t247 x15_2).f2)) := (blk_cell BK259.out 2).trans rfl
                                                    have hfz63_0 := blk_frozen BK259.out 0
                                                    have hfz63_1 := blk_frozen BK259.out 1
                                                    have hfz63_2 := blk_frozen BK259.out 2
                                                    obtain ⟨Ao64, co64, eo64⟩ := Kd.R_slice HO_14.out
                                                    subst eo64
                                                    have p262 : 0 ≤ ((ji59) : Int) := of_decide_eq_true (by first | (with_reducible assumption) | assumption)
                                                    have q262 : (ji59) < (x14_4.length : Int) := of_decide_eq_true (by first | (with_reducible assumption) | assumption)
                                                    obtain ⟨ad262, e262, hx262_0⟩ := Kd.at_int (Kd.R_reads' HO_14.out).2.2 (ji59) p262 q262
                                                    cases e262
                                                    replace p262 := eq_true p262
                                                    replace q262 := eq_true q262
                                                    have p62 : 0 ≤ ((ji59) : Int) := of_decide_eq_true (by first | (with_reducible assumption) | assumption)
                                                    have q62 : ((ji59) : Int) < ((x14_4.length : Int) : Int) := of_decide_eq_true (by first | (with_reducible assumption) | assumption)
                                                    obtain ⟨go62, co62, eo62, gb62, gl62, cl62, HG62⟩ := Kd.R_form HO_14.out (by omega)
                                                    (first | cases eo62 | (injection eo62 with ea_ en_ ec_; (first | subst ea_ | (injection ea_ with ea_; subst ea_)); subst ec_; clear en_))
                                                    have GB62 := Aside0.mk gb62
                                                    have GG62 := Aside0.mk HG62
                                                    clear gb62 gl62 HG62
                                                    (first | simp only [add_plain] at hx262_0 | skip)
                                                    obtain ⟨hx62_0, hf62_0⟩ := Kd.R_celln 0 HO_14.out ((ji59) : Int) p62 q62
                                                    replace p62 := eq_true p62
                                                    replace q62 := eq_true q62
                                                    have HP65 := Kd.R_putg HO_14.out ((ji59) : Int) (wrap64 ((rd x14_4 (ji59)) + 1))
                                                    go_wp2_with (first | ((with_reducible refine gate_store (t := 3) (p := 121) rfl ?_); (try (rw [drewN_self wr]; generalize hq_ : World.drewN wr _ = wr; have n0_ := Aside0.mk (Kd.R_at hq_ HO_7.out); have n1_ := Aside0.mk (Kd.R_at hq_ HO_9.out); have n2_ := Aside0.mk (Kd.R_at hq_ HO_12.out); have n3_ := Aside0.mk (Kd.R_at hq_ HO_14.out); have n4_ := Aside0.mk (blk_at hq_ BK259.out); have n5_ := Aside0.mk (below_at hq_ HB.out); clear hq_ HO_7 HO_9 HO_12 HO_14 BK259 HB; have HO_7 := n0_; have HO_9 := n1_; have HO_12 := n2_; have HO_14 := n3_; have BK259 := n4_; have HB := n5_; clear n0_ n1_ n2_ n3_ n4_ n5_; (try (have HP65 := Kd.R_putg HO_14.out ((ji59) : Int) (wrap64 ((rd x14_4 (ji59)) + 1)))))); refine store_event (t := 3) (p := 121) (v := ?vo_w66) (w1 := (wr.setCell ⟨go62, ((ji59) : Int).toNat, none⟩ (.int .i64 (wrap64 ((rd x14_4 (ji59)) + 1))))) ?hg ?ho ?hn ?hr ?_; (case ho => rfl); (case hg => rfl); (case hn => rfl); (case hr => first | (go_simp; done) | (go_simp; rfl)); intro w66 hw; have hg : wr.grownBy w66 (some go62) := (by rw [hw]; exact HP65.2); have hp_ : Kd.R (Kd.int .i64) 3 w66 w.heap.size (fun k_ => some k_ ≠ (.slice Ao13 t243.length co13 : Value).ownBlock ∧ some k_ ≠ (.slice (some ⟨go49, 0, none⟩) y261.length co52 : Value).ownBlock) (.slice (some ⟨go62, 0, none⟩) x14_4.length co64) y263 := (by rw [hw, Ny263.out]; exact HP65.1); clear HP65; have n0_ := Aside0.mk (Kd.R_after (v := (.slice (some ⟨go62, 0, none⟩) x14_4.length co64)) (v1 := (.slice (some ⟨go62, 0, none⟩) x14_4.length co64)) (ok := (fun k_ => some k_ ≠ (.slice (some ⟨go49, 0, none⟩) y261.length co52 : Value).ownBlock)) (by (with_reducible repeat (first | apply Kd.R_alloc | apply Kd.R_drewN | apply Kd.R_drew)); exact HO_7.out) hg (.inl rfl)); have n1_ := Aside0.mk (Kd.R_over' (v := (.slice (some ⟨go62, 0, none⟩) x14_4.length co64)) (by (with_reducible repeat (first | apply Kd.R_alloc | apply Kd.R_drewN | apply Kd.R_drew)); exact HO_9.out) (Kd.R_typed HO_14.out) (by decide) hg); have n2_ := Aside0.mk (Kd.R_after (v := (.slice (some ⟨go62, 0, none⟩) x14_4.length co64)) (v1 := (.slice (some ⟨go62, 0, none⟩) x14_4.length co64)) (ok := (fun k_ => some k_ ≠ (.slice Ao13 t243.length co13 : Value).ownBlock)) (by (with_reducible repeat (first | apply Kd.R_alloc | apply Kd.R_drewN | apply Kd.R_drew)); exact HO_12.out) hg (.inl rfl)); have n3_ := Aside0.mk (hp_); have n4_ := Aside0.mk (blk_grown (g := gb259) (o := .cells #[.int .i64 ((rd_T45 t247 x15_2).f0), .int .i64 ((rd_T45 t247 x15_2).f1), .int .i64 ((rd_T45 t247 x15_2).f2)] 45 (0, 0)) (by (with_reducible repeat (first | refine blk_drewN ?_ _ | refine blk_drew ?_ | refine blk_alloc ?_ _)); exact BK259.out) hg (Kd.R_ne HO_14.out BK259.out (by decide))); have n5_ := Aside0.mk ((by rw [hw]; exact below_set (HB.out) GB62.out : Below w.heap.size w w66)); clear HO_7; clear HO_9; clear HO_12; clear HO_14; clear BK259; clear HB; have HO_7 := n0_; have HO_9 := n1_; have HO_12 := n2_; have HO_14 := n3_; have BK259 := n4_; have HB := n5_; clear n0_ n1_ n2_ n3_ n4_ n5_; clear hg hw hp_))
                                                    repeat (go_quiet (first | ((with_reducible refine gate_store (t := 3) (p := 121) rfl ?_); (try (rw [drewN_self wr]; generalize hq_ : World.drewN wr _ = wr; have n0_ := Aside0.mk (Kd.R_at hq_ HO_7.out); have n1_ := Aside0.mk (Kd.R_at hq_ HO_9.out); have n2_ := Aside0.mk (Kd.R_at hq_ HO_12.out); have n3_ := Aside0.mk (Kd.R_at hq_ HO_14.out); have n4_ := Aside0.mk (blk_at hq_ BK259.out); have n5_ := Aside0.mk (below_at hq_ HB.out); clear hq_ HO_7 HO_9 HO_12 HO_14 BK259 HB; have HO_7 := n0_; have HO_9 := n1_; have HO_12 := n2_; have HO_14 := n3_; have BK259 := n4_; have HB := n5_; clear n0_ n1_ n2_ n3_ n4_ n5_; (try (have HP65 := Kd.R_putg HO_14.out ((ji59) : Int) (wrap64 ((rd x14_4 (ji59)) + 1)))))); refine store_event (t := 3) (p := 121) (v := ?vo_w66) (w1 := (wr.setCell ⟨go62, ((ji59) : Int).toNat, none⟩ (.int .i64 (wrap64 ((rd x14_4 (ji59)) + 1))))) ?hg ?ho ?hn ?hr ?_; (case ho => rfl); (case hg => rfl); (case hn => rfl); (case hr => first | (go_simp; done) | (go_simp; rfl)); intro w66 hw; have hg : wr.grownBy w66 (some go62) := (by rw [hw]; exact HP65.2); have hp_ : Kd.R (Kd.int .i64) 3 w66 w.heap.size (fun k_ => some k_ ≠ (.slice Ao13 t243.length co13 : Value).ownBlock ∧ some k_ ≠ (.slice (some ⟨go49, 0, none⟩) y261.length co52 : Value).ownBlock) (.slice (some ⟨go62, 0, none⟩) x14_4.length co64) y263 := (by rw [hw, Ny263.out]; exact HP65.1); clear HP65; have n0_ := Aside0.mk (Kd.R_after (v := (.slice (some ⟨go62, 0, none⟩) x14_4.length co64)) (v1 := (.slice (some ⟨go62, 0, none⟩) x14_4.length co64)) (ok := (fun k_ => some k_ ≠ (.slice (some ⟨go49, 0, none⟩) y261.length co52 : Value).ownBlock)) (by (with_reducible repeat (first | apply Kd.R_alloc | apply Kd.R_drewN | apply Kd.R_drew)); exact HO_7.out) hg (.inl rfl)); have n1_ := Aside0.mk (Kd.R_over' (v := (.slice (some ⟨go62, 0, none⟩) x14_4.length co64)) (by (with_reducible repeat (first | apply Kd.R_alloc | apply Kd.R_drewN | apply Kd.R_drew)); exact HO_9.out) (Kd.R_typed HO_14.out) (by decide) hg); have n2_ := Aside0.mk (Kd.R_after (v := (.slice (some ⟨go62, 0, none⟩) x14_4.length co64)) (v1 := (.slice (some ⟨go62, 0, none⟩) x14_4.length co64)) (ok := (fun k_ => some k_ ≠ (.slice Ao13 t243.length co13 : Value).ownBlock)) (by (with_reducible repeat (first | apply Kd.R_alloc | apply Kd.R_drewN | apply Kd.R_drew)); exact HO_12.out) hg (.inl rfl)); have n3_ := Aside0.mk (hp_); have n4_ := Aside0.mk (blk_grown (g := gb259) (o := .cells #[.int .i64 ((rd_T45 t247 x15_2).f0), .int .i64 ((rd_T45 t247 x15_2).f1), .int .i64 ((rd_T45 t247 x15_2).f2)] 45 (0, 0)) (by (with_reducible repeat (first | refine blk_drewN ?_ _ | refine blk_drew ?_ | refine blk_alloc ?_ _)); exact BK259.out) hg (Kd.R_ne HO_14.out BK259.out (by decide))); have n5_ := Aside0.mk ((by rw [hw]; exact below_set (HB.out) GB62.out : Below w.heap.size w w66)); clear HO_7; clear HO_9; clear HO_12; clear HO_14; clear BK259; clear HB; have HO_7 := n0_; have HO_9 := n1_; have HO_12 := n2_; have HO_14 := n3_; have BK259 := n4_; have HB := n5_; clear n0_ n1_ n2_ n3_ n4_ n5_; clear hg hw hp_)); try go_wp2_with (first | ((with_reducible refine gate_store (t := 3) (p := 121) rfl ?_); (try (rw [drewN_self wr]; generalize hq_ : World.drewN wr _ = wr; have n0_ := Aside0.mk (Kd.R_at hq_ HO_7.out); have n1_ := Aside0.mk (Kd.R_at hq_ HO_9.out); have n2_ := Aside0.mk (Kd.R_at hq_ HO_12.out); have n3_ := Aside0.mk (Kd.R_at hq_ HO_14.out); have n4_ := Aside0.mk (blk_at hq_ BK259.out); have n5_ := Aside0.mk (below_at hq_ HB.out); clear hq_ HO_7 HO_9 HO_12 HO_14 BK259 HB; have HO_7 := n0_; have HO_9 := n1_; have HO_12 := n2_; have HO_14 := n3_; have BK259 := n4_; have HB := n5_; clear n0_ n1_ n2_ n3_ n4_ n5_; (try (have HP65 := Kd.R_putg HO_14.out ((ji59) : Int) (wrap64 ((rd x14_4 (ji59)) + 1)))))); refine store_event (t := 3) (p := 121) (v := ?vo_w66) (w1 := (wr.setCell ⟨go62, ((ji59) : Int).toNat, none⟩ (.int .i64 (wrap64 ((rd x14_4 (ji59)) + 1))))) ?hg ?ho ?hn ?hr ?_; (case ho => rfl); (case hg => rfl); (case hn => rfl); (case hr => first | (go_simp; done) | (go_simp; rfl)); intro w66 hw; have hg : wr.grownBy w66 (some go62) := (by rw [hw]; exact HP65.2); have hp_ : Kd.R (Kd.int .i64) 3 w66 w.heap.size (fun k_ => some k_ ≠ (.slice Ao13 t243.length co13 : Value).ownBlock ∧ some k_ ≠ (.slice (some ⟨go49, 0, none⟩) y261.length co52 : Value).ownBlock) (.slice (some ⟨go62, 0, none⟩) x14_4.length co64) y263 := (by rw [hw, Ny263.out]; exact HP65.1); clear HP65; have n0_ := Aside0.mk (Kd.R_after (v := (.slice (some ⟨go62, 0, none⟩) x14_4.length co64)) (v1 := (.slice (some ⟨go62, 0, none⟩) x14_4.length co64)) (ok := (fun k_ => some k_ ≠ (.slice (some ⟨go49, 0, none⟩) y261.length co52 : Value).ownBlock)) (by (with_reducible repeat (first | apply Kd.R_alloc | apply Kd.R_drewN | apply Kd.R_drew)); exact HO_7.out) hg (.inl rfl)); have n1_ := Aside0.mk (Kd.R_over' (v := (.slice (some ⟨go62, 0, none⟩) x14_4.length co64)) (by (with_reducible repeat (first | apply Kd.R_alloc | apply Kd.R_drewN | apply Kd.R_drew)); exact HO_9.out) (Kd.R_typed HO_14.out) (by decide) hg); have n2_ := Aside0.mk (Kd.R_after (v := (.slice (some ⟨go62, 0, none⟩) x14_4.length co64)) (v1 := (.slice (some ⟨go62, 0, none⟩) x14_4.length co64)) (ok := (fun k_ => some k_ ≠ (.slice Ao13 t243.length co13 : Value).ownBlock)) (by (with_reducible repeat (first | apply Kd.R_alloc | apply Kd.R_drewN | apply Kd.R_drew)); exact HO_12.out) hg (.inl rfl)); have n3_ := Aside0.mk (hp_); have n4_ := Aside0.mk (blk_grown (g := gb259) (o := .cells #[.int .i64 ((rd_T45 t247 x15_2).f0), .int .i64 ((rd_T45 t247 x15_2).f1), .int .i64 ((rd_T45 t247 x15_2).f2)] 45 (0, 0)) (by (with_reducible repeat (first | refine blk_drewN ?_ _ | refine blk_drew ?_ | refine blk_alloc ?_ _)); exact BK259.out) hg (Kd.R_ne HO_14.out BK259.out (by decide))); have n5_ := Aside0.mk ((by rw [hw]; exact below_set (HB.out) GB62.out : Below w.heap.size w w66)); clear HO_7; clear HO_9; clear HO_12; clear HO_14; clear BK259; clear HB; have HO_7 := n0_; have HO_9 := n1_; have HO_12 := n2_; have HO_14 := n3_; have BK259 := n4_; have HB := n5_; clear n0_ n1_ n2_ n3_ n4_ n5_; clear hg hw hp_)))
                                                    (try simp only [← hl12_4])
                                                    try subst hji10
                                                    try subst hji57
                                                    try subst hji59
                                                    go_roundg k4
                                                    case measure => have := HJ10.out; have := HK2.out; have := HJ28.out; have := HK4.out; omega
                                                    case rel => exact ⟨(y263), (wrap64 (x17_4 + 1)), (by first | rfl | (simp; done) | (simp [*]; done)), H', ⟨by have := HJ10.out; have := HK2.out; have := HJ28.out; have := HK4.out; omega⟩, ⟨by (try simp only [hl12_4]); (with_reducible repeat (first | apply Kd.R_alloc | apply Kd.R_drewN | apply Kd.R_drew)); exact HO_7.out⟩, ⟨by (try simp only [hl12_4]); (with_reducible repeat (first | apply Kd.R_alloc | apply Kd.R_drewN | apply Kd.R_drew)); exact HO_9.out⟩, ⟨by (try simp only [hl12_4]); (with_reducible repeat (first | apply Kd.R_alloc | apply Kd.R_drewN | apply Kd.R_drew)); exact HO_12.out⟩, ⟨by (try simp only [hl12_4]); (with_reducible repeat (first | apply Kd.R_alloc | apply Kd.R_drewN | apply Kd.R_drew)); exact HO_14.out⟩, ⟨by (try simp only [hl12_4]); (with_reducible repeat (first | refine blk_drewN ?_ _ | refine blk_drew ?_ | refine blk_alloc ?_ _)); exact BK259.out⟩, ⟨by repeat (first | (with_reducible first | exact HB.out | apply below_alloc | apply pw_below_drewN | apply below_drew1 | refine below_set ?_ GE259.out) | exact HB.out)⟩⟩
                                                  · rw [if_neg c61] at H
                                                    exact absurd H (by simp)
                                                · rw [if_neg c60] at H
                                                  exact absurd H (by simp)
                                              · rw [if_neg c58] at H
                                                have c58b0 : decide (x17_4 < (ji57)) = false := decide_eq_false c58
                                                clear c58
                                                have H' := Aside0.mk H
                                                clear H
                                                have hcz67_0 : wr.cell? ⟨gb259, 0, none⟩ = some (.int .i64 ((rd_T45 t247 x15_2).f0)) := (blk_cell BK259.out 0).trans rfl
                                                have hcz67_1 : wr.cell? ⟨gb259, 1, none⟩ = some (.int .i64 ((rd_T45 t247 x15_2).f1)) := (blk_cell BK259.out 1).trans rfl
                                                have hcz67_2 : wr.cell? ⟨gb259, 2, none⟩ = some (.int .i64 ((rd_T45 t247 x15_2).f2)) := (blk_cell BK259.out 2).trans rfl
                                                have hfz67_0 := blk_frozen BK259.out 0
                                                have hfz67_1 := blk_frozen BK259.out 1
                                                have hfz67_2 := blk_frozen BK259.out 2
                                                go_wp2
                                                repeat (go_quiet (fail); try go_wp2)
                                                (try simp only [← hl12_4])
                                                try subst hji10
                                                try subst hji57
                                                go_roundg k4
                                                case measure => have := HJ10.out; have := HK2.out; have := HJ28.out; have := HK4.out; omega
                                                case rel => exact ⟨(y261), (x14_4), (wrap64 (x15_2 + 1)), (by first | rfl | (simp; done) | (simp [*]; done)), H', ⟨by have := HJ10.out; have := HK2.out; have := HJ28.out; have := HK4.out; omega⟩, ⟨by (try simp only [hl12_4]); (with_reducible repeat (first | apply Kd.R_alloc | apply Kd.R_drewN | apply Kd.R_drew)); exact HO_7.out⟩, ⟨by (try simp only [hl12_4]); (with_reducible repeat (first | apply Kd.R_alloc | apply Kd.R_drewN | apply Kd.R_drew)); exact Kd.R_mono HO_9.out (fun _ hk => trivial)⟩, ⟨by (try simp only [hl12_4]); (with_reducible repeat (first | apply Kd.R_alloc | apply Kd.R_drewN | apply Kd.R_drew)); exact HO_12.out⟩, ⟨by (try simp only [hl12_4]); (with_reducible repeat (first | apply Kd.R_alloc | apply Kd.R_drewN | apply Kd.R_drew)); exact HO_14.out⟩, ⟨by repeat (first | (with_reducible first | exact HB.out | apply below_alloc | apply pw_below_drewN | apply below_drew1 | refine below_set ?_ GE259.out) | exact HB.out)⟩⟩
                                            · rw [if_neg c56] at H
                                              exact absurd H (by simp)
                                      · rw [if_neg c50] at H
                                        have c50b0 : (((rd_T45 t247 x15_2).f0) == (Int.tmod (wrap64 (a2)) 65)) = false := beq_eq_false_iff_ne.mpr c50
                                        have c50b1 : (((rd_T45 t247 x15_2).f0) != (Int.tmod (wrap64 (a2)) 65)) = true := bne_iff_ne.mpr c50
                                        have H' := Aside0.mk H
                                        clear H
                                        have hcz68_0 : wc.cell? ⟨gb259, 0, none⟩ = some (.int .i64 ((rd_T45 t247 x15_2).f0)) := (blk_cell BK259.out 0).trans rfl
                                        have hcz68_1 : wc.cell? ⟨gb259, 1, none⟩ = some (.int .i64 ((rd_T45 t247 x15_2).f1)) := (blk_cell BK259.out 1).trans rfl
                                        have hcz68_2 : wc.cell? ⟨gb259, 2, none⟩ = some (.int .i64 ((rd_T45 t247 x15_2).f2)) := (blk_cell BK259.out 2).trans rfl
                                        have hfz68_0 := blk_frozen BK259.out 0
                                        have hfz68_1 := blk_frozen BK259.out 1
                                        have hfz68_2 := blk_frozen BK259.out 2
                                        obtain ⟨Ao69, co69, eo69⟩ := Kd.R_slice HO_12.out
                                        subst eo69
                                        have p260 : 0 ≤ (((rd_T45 t247 x15_2).f0) : Int) := of_decide_eq_true (by first | (with_reducible assumption) | assumption)
                                        have q260 : ((rd_T45 t247 x15_2).f0) < (x12_2.length : Int) := of_decide_eq_true (by first | (with_reducible assumption) | assumption)
                                        obtain ⟨ad260, e260, hx260_0⟩ := Kd.at_int (Kd.R_reads' HO_12.out).2.2 ((rd_T45 t247 x15_2).f0) p260 q260
                                        cases e260
                                        replace p260 := eq_true p260
                                        replace q260 := eq_true q260
                                        have p49 : 0 ≤ (((rd_T45 t247 x15_2).f0) : Int) := of_decide_eq_true (by first | (with_reducible assumption) | assumption)
                                        have q49 : (((rd_T45 t247 x15_2).f0) : Int) < ((x12_2.length : Int) : Int) := of_decide_eq_true (by first | (with_reducible assumption) | assumption)
                                        obtain ⟨go49, co49, eo49, gb49, gl49, cl49, HG49⟩ := Kd.R_form HO_12.out (by omega)
                                        (first | cases eo49 | (injection eo49 with ea_ en_ ec_; (first | subst ea_ | (injection ea_ with ea_; subst ea_)); subst ec_; clear en_))
                                        have GB49 := Aside0.mk gb49
                                        have GG49 := Aside0.mk HG49
                                        clear gb49 gl49 HG49
                                        (first | simp only [add_plain] at hx260_0 | skip)
                                        obtain ⟨hx49_0, hf49_0⟩ := Kd.R_celln 0 HO_12.out (((rd_T45 t247 x15_2).f0) : Int) p49 q49
                                        replace p49 := eq_true p49
                                        replace q49 := eq_true q49
                                        have HP70 := Kd.R_putg HO_12.out (((rd_T45 t247 x15_2).f0) : Int) (wrap64 ((rd x12_2 ((rd_T45 t247 x15_2).f0)) + 1))
                                        go_wp2_with (first | ((with_reducible refine gate_store (t := 3) (p := 101) rfl ?_); (try (rw [drewN_self wc]; generalize hq_ : World.drewN wc _ = wc; have n0_ := Aside0.mk (Kd.R_at hq_ HO_7.out); have n1_ := Aside0.mk (Kd.R_at hq_ HO_9.out); have n2_ := Aside0.mk (Kd.R_at hq_ HO_12.out); have n3_ := Aside0.mk (Kd.R_at hq_ HO_14.out); have n4_ := Aside0.mk (blk_at hq_ BK259.out); have n5_ := Aside0.mk (below_at hq_ HB.out); clear hq_ HO_7 HO_9 HO_12 HO_14 BK259 HB; have HO_7 := n0_; have HO_9 := n1_; have HO_12 := n2_; have HO_14 := n3_; have BK259 := n4_; have HB := n5_; clear n0_ n1_ n2_ n3_ n4_ n5_; (try (have HP70 := Kd.R_putg HO_12.out (((rd_T45 t247 x15_2).f0) : Int) (wrap64 ((rd x12_2 ((rd_T45 t247 x15_2).f0)) + 1)))))); refine store_event (t := 3) (p := 101) (v := ?vo_w71) (w1 := (wc.setCell ⟨go49, (((rd_T45 t247 x15_2).f0) : Int).toNat, none⟩ (.int .i64 (wrap64 ((rd x12_2 ((rd_T45 t247 x15_2).f0)) + 1))))) ?hg ?ho ?hn ?hr ?_; (case ho => rfl); (case hg => rfl); (case hn => rfl); (case hr => first | (go_simp; done) | (go_simp; rfl)); intro w71 hw; have hg : wc.grownBy w71 (some go49) := (by rw [hw]; exact HP70.2); have hp_ : Kd.R (Kd.int .i64) 3 w71 w.heap.size (fun k_ => some k_ ≠ (.slice Ao13 t243.length co13 : Value).ownBlock ∧ some k_ ≠ (v256 : Value).ownBlock) (.slice (some ⟨go49, 0, none⟩) x12_2.length co69) y261 := (by rw [hw, Ny261.out]; exact HP70.1); clear HP70; have n0_ := Aside0.mk (Kd.R_after (v := (.slice (some ⟨go49, 0, none⟩) x12_2.length co69)) (v1 := (.slice (some ⟨go49, 0, none⟩) x12_2.length co69)) (ok := (fun k_ => some k_ ≠ (v256 : Value).ownBlock)) (by (with_reducible repeat (first | apply Kd.R_alloc | apply Kd.R_drewN | apply Kd.R_drew)); exact Kd.R_mono HO_7.out (fun _ hk => ⟨hk.2, hk.1⟩)) hg (.inl rfl)); have n1_ := Aside0.mk (Kd.R_over' (v := (.slice (some ⟨go49, 0, none⟩) x12_2.length co69)) (by (with_reducible repeat (first | apply Kd.R_alloc | apply Kd.R_drewN | apply Kd.R_drew)); exact HO_9.out) (Kd.R_typed HO_12.out) (by decide) hg); have n2_ := Aside0.mk (hp_); have n3_ := Aside0.mk (Kd.R_after (v := (.slice (some ⟨go49, 0, none⟩) x12_2.length co69)) (v1 := (.slice (some ⟨go49, 0, none⟩) x12_2.length co69)) (ok := (fun k_ => some k_ ≠ (.slice Ao13 t243.length co13 : Value).ownBlock)) (by (with_reducible repeat (first | apply Kd.R_alloc | apply Kd.R_drewN | apply Kd.R_drew)); exact HO_14.out) hg (.inl rfl)); have n4_ := Aside0.mk (blk_grown (g := gb259) (o := .cells #[.int .i64 ((rd_T45 t247 x15_2).f0), .int .i64 ((rd_T45 t247 x15_2).f1), .int .i64 ((rd_T45 t247 x15_2).f2)] 45 (0, 0)) (by (with_reducible repeat (first | refine blk_drewN ?_ _ | refine blk_drew ?_ | refine blk_alloc ?_ _)); exact BK259.out) hg (Kd.R_ne HO_12.out BK259.out (by decide))); have n5_ := Aside0.mk ((by rw [hw]; exact below_set (HB.out) GB49.out : Below w.heap.size w w71)); clear HO_7; clear HO_9; clear HO_12; clear HO_14; clear BK259; clear HB; have HO_7 := n0_; have HO_9 := n1_; have HO_12 := n2_; have HO_14 := n3_; have BK259 := n4_; have HB := n5_; clear n0_ n1_ n2_ n3_ n4_ n5_; clear hg hw hp_; have hcz72_0 : w71.cell? ⟨gb259, 0, none⟩ = some (.int .i64 ((rd_T45 t247 x15_2).f0)) := (blk_cell BK259.out 0).trans rfl; have hcz72_1 : w71.cell? ⟨gb259, 1, none⟩ = some (.int .i64 ((rd_T45 t247 x15_2).f1)) := (blk_cell BK259.out 1).trans rfl; have hcz72_2 : w71.cell? ⟨gb259, 2, none⟩ = some (.int .i64 ((rd_T45 t247 x15_2).f2)) := (blk_cell BK259.out 2).trans rfl; have hfz72_0 := blk_frozen BK259.out 0; have hfz72_1 := blk_frozen BK259.out 1; have hfz72_2 := blk_frozen BK259.out 2))
                                        repeat (go_quiet (first | ((with_reducible refine gate_store (t := 3) (p := 101) rfl ?_); (try (rw [drewN_self wc]; generalize hq_ : World.drewN wc _ = wc; have n0_ := Aside0.mk (Kd.R_at hq_ HO_7.out); have n1_ := Aside0.mk (Kd.R_at hq_ HO_9.out); have n2_ := Aside0.mk (Kd.R_at hq_ HO_12.out); have n3_ := Aside0.mk (Kd.R_at hq_ HO_14.out); have n4_ := Aside0.mk (blk_at hq_ BK259.out); have n5_ := Aside0.mk (below_at hq_ HB.out); clear hq_ HO_7 HO_9 HO_12 HO_14 BK259 HB; have HO_7 := n0_; have HO_9 := n1_; have HO_12 := n2_; have HO_14 := n3_; have BK259 := n4_; have HB := n5_; clear n0_ n1_ n2_ n3_ n4_ n5_; (try (have HP70 := Kd.R_putg HO_12.out (((rd_T45 t247 x15_2).f0) : Int) (wrap64 ((rd x12_2 ((rd_T45 t247 x15_2).f0)) + 1)))))); refine store_event (t := 3) (p := 101) (v := ?vo_w71) (w1 := (wc.setCell ⟨go49, (((rd_T45 t247 x15_2).f0) : Int).toNat, none⟩ (.int .i64 (wrap64 ((rd x12_2 ((rd_T45 t247 x15_2).f0)) + 1))))) ?hg ?ho ?hn ?hr ?_; (case ho => rfl); (case hg => rfl); (case hn => rfl); (case hr => first | (go_simp; done) | (go_simp; rfl)); intro w71 hw; have hg : wc.grownBy w71 (some go49) := (by rw [hw]; exact HP70.2); have hp_ : Kd.R (Kd.int .i64) 3 w71 w.heap.size (fun k_ => some k_ ≠ (.slice Ao13 t243.length co13 : Value).ownBlock ∧ some k_ ≠ (v256 : Value).ownBlock) (.slice (some ⟨go49, 0, none⟩) x12_2.length co69) y261 := (by rw [hw, Ny261.out]; exact HP70.1); clear HP70; have n0_ := Aside0.mk (Kd.R_after (v := (.slice (some ⟨go49, 0, none⟩) x12_2.length co69)) (v1 := (.slice (some ⟨go49, 0, none⟩) x12_2.length co69)) (ok := (fun k_ => some k_ ≠ (v256 : Value).ownBlock)) (by (with_reducible repeat (first | apply Kd.R_alloc | apply Kd.R_drewN | apply Kd.R_drew)); exact Kd.R_mono HO_7.out (fun _ hk => ⟨hk.2, hk.1⟩)) hg (.inl rfl)); have n1_ := Aside0.mk (Kd.R_over' (v := (.slice (some ⟨go49, 0, none⟩) x12_2.length co69)) (by (with_reducible repeat (first | apply Kd.R_alloc | apply Kd.R_drewN | apply Kd.R_drew)); exact HO_9.out) (Kd.R_typed HO_12.out) (by decide) hg); have n2_ := Aside0.mk (hp_); have n3_ := Aside0.mk (Kd.R_after (v := (.slice (some ⟨go49, 0, none⟩) x12_2.length co69)) (v1 := (.slice (some ⟨go49, 0, none⟩) x12_2.length co69)) (ok := (fun k_ => some k_ ≠ (.slice Ao13 t243.length co13 : Value).ownBlock)) (by (with_reducible repeat (first | apply Kd.R_alloc | apply Kd.R_drewN | apply Kd.R_drew)); exact HO_14.out) hg (.inl rfl)); have n4_ := Aside0.mk (blk_grown (g := gb259) (o := .cells #[.int .i64 ((rd_T45 t247 x15_2).f0), .int .i64 ((rd_T45 t247 x15_2).f1), .int .i64 ((rd_T45 t247 x15_2).f2)] 45 (0, 0)) (by (with_reducible repeat (first | refine blk_drewN ?_ _ | refine blk_drew ?_ | refine blk_alloc ?_ _)); exact BK259.out) hg (Kd.R_ne HO_12.out BK259.out (by decide))); have n5_ := Aside0.mk ((by rw [hw]; exact below_set (HB.out) GB49.out : Below w.heap.size w w71)); clear HO_7; clear HO_9; clear HO_12; clear HO_14; clear BK259; clear HB; have HO_7 := n0_; have HO_9 := n1_; have HO_12 := n2_; have HO_14 := n3_; have BK259 := n4_; have HB := n5_; clear n0_ n1_ n2_ n3_ n4_ n5_; clear hg hw hp_; have hcz72_0 : w71.cell? ⟨gb259, 0, none⟩ = some (.int .i64 ((rd_T45 t247 x15_2).f0)) := (blk_cell BK259.out 0).trans rfl; have hcz72_1 : w71.cell? ⟨gb259, 1, none⟩ = some (.int .i64 ((rd_T45 t247 x15_2).f1)) := (blk_cell BK259.out 1).trans rfl; have hcz72_2 : w71.cell? ⟨gb259, 2, none⟩ = some (.int .i64 ((rd_T45 t247 x15_2).f2)) := (blk_cell BK259.out 2).trans rfl; have hfz72_0 := blk_frozen BK259.out 0; have hfz72_1 := blk_frozen BK259.out 1; have hfz72_2 := blk_frozen BK259.out 2)); try go_wp2_with (first | ((with_reducible refine gate_store (t := 3) (p := 101) rfl ?_); (try (rw [drewN_self wc]; generalize hq_ : World.drewN wc _ = wc; have n0_ := Aside0.mk (Kd.R_at hq_ HO_7.out); have n1_ := Aside0.mk (Kd.R_at hq_ HO_9.out); have n2_ := Aside0.mk (Kd.R_at hq_ HO_12.out); have n3_ := Aside0.mk (Kd.R_at hq_ HO_14.out); have n4_ := Aside0.mk (blk_at hq_ BK259.out); have n5_ := Aside0.mk (below_at hq_ HB.out); clear hq_ HO_7 HO_9 HO_12 HO_14 BK259 HB; have HO_7 := n0_; have HO_9 := n1_; have HO_12 := n2_; have HO_14 := n3_; have BK259 := n4_; have HB := n5_; clear n0_ n1_ n2_ n3_ n4_ n5_; (try (have HP70 := Kd.R_putg HO_12.out (((rd_T45 t247 x15_2).f0) : Int) (wrap64 ((rd x12_2 ((rd_T45 t247 x15_2).f0)) + 1)))))); refine store_event (t := 3) (p := 101) (v := ?vo_w71) (w1 := (wc.setCell ⟨go49, (((rd_T45 t247 x15_2).f0) : Int).toNat, none⟩ (.int .i64 (wrap64 ((rd x12_2 ((rd_T45 t247 x15_2).f0)) + 1))))) ?hg ?ho ?hn ?hr ?_; (case ho => rfl); (case hg => rfl); (case hn => rfl); (case hr => first | (go_simp; done) | (go_simp; rfl)); intro w71 hw; have hg : wc.grownBy w71 (some go49) := (by rw [hw]; exact HP70.2); have hp_ : Kd.R (Kd.int .i64) 3 w71 w.heap.size (fun k_ => some k_ ≠ (.slice Ao13 t243.length co13 : Value).ownBlock ∧ some k_ ≠ (v256 : Value).ownBlock) (.slice (some ⟨go49, 0, none⟩) x12_2.length co69) y261 := (by rw [hw, Ny261.out]; exact HP70.1); clear HP70; have n0_ := Aside0.mk (Kd.R_after (v := (.slice (some ⟨go49, 0, none⟩) x12_2.length co69)) (v1 := (.slice (some ⟨go49, 0, none⟩) x12_2.length co69)) (ok := (fun k_ => some k_ ≠ (v256 : Value).ownBlock)) (by (with_reducible repeat (first | apply Kd.R_alloc | apply Kd.R_drewN | apply Kd.R_drew)); exact Kd.R_mono HO_7.out (fun _ hk => ⟨hk.2, hk.1⟩)) hg (.inl rfl)); have n1_ := Aside0.mk (Kd.R_over' (v := (.slice (some ⟨go49, 0, none⟩) x12_2.length co69)) (by (with_reducible repeat (first | apply Kd.R_alloc | apply Kd.R_drewN | apply Kd.R_drew)); exact HO_9.out) (Kd.R_typed HO_12.out) (by decide) hg); have n2_ := Aside0.mk (hp_); have n3_ := Aside0.mk (Kd.R_after (v := (.slice (some ⟨go49, 0, none⟩) x12_2.length co69)) (v1 := (.slice (some ⟨go49, 0, none⟩) x12_2.length co69)) (ok := (fun k_ => some k_ ≠ (.slice Ao13 t243.length co13 : Value).ownBlock)) (by (with_reducible repeat (first | apply Kd.R_alloc | apply Kd.R_drewN | apply Kd.R_drew)); exact HO_14.out) hg (.inl rfl)); have n4_ := Aside0.mk (blk_grown (g := gb259) (o := .cells #[.int .i64 ((rd_T45 t247 x15_2).f0), .int .i64 ((rd_T45 t247 x15_2).f1), .int .i64 ((rd_T45 t247 x15_2).f2)] 45 (0, 0)) (by (with_reducible repeat (first | refine blk_drewN ?_ _ | refine blk_drew ?_ | refine blk_alloc ?_ _)); exact BK259.out) hg (Kd.R_ne HO_12.out BK259.out (by decide))); have n5_ := Aside0.mk ((by rw [hw]; exact below_set (HB.out) GB49.out : Below w.heap.size w w71)); clear HO_7; clear HO_9; clear HO_12; clear HO_14; clear BK259; clear HB; have HO_7 := n0_; have HO_9 := n1_; have HO_12 := n2_; have HO_14 := n3_; have BK259 := n4_; have HB := n5_; clear n0_ n1_ n2_ n3_ n4_ n5_; clear hg hw hp_; have hcz72_0 : w71.cell? ⟨gb259, 0, none⟩ = some (.int .i64 ((rd_T45 t247 x15_2).f0)) := (blk_cell BK259.out 0).trans rfl; have hcz72_1 : w71.cell? ⟨gb259, 1, none⟩ = some (.int .i64 ((rd_T45 t247 x15_2).f1)) := (blk_cell BK259.out 1).trans rfl; have hcz72_2 : w71.cell? ⟨gb259, 2, none⟩ = some (.int .i64 ((rd_T45 t247 x15_2).f2)) := (blk_cell BK259.out 2).trans rfl; have hfz72_0 := blk_frozen BK259.out 0; have hfz72_1 := blk_frozen BK259.out 1; have hfz72_2 := blk_frozen BK259.out 2)))
                                        try subst hji10
                                        go_roundg kj28
                                        case measure => have := HJ10.out; have := HK2.out; have := HJ28.out; omega
                                        case rel => exact ⟨(y261), (x14_2), (wrap64 (x15_2 + 1)), (by first | rfl | (simp; done) | (simp [*]; done)), H', ⟨by have := HJ10.out; have := HK2.out; have := HJ28.out; omega⟩, ⟨by (with_reducible repeat (first | apply Kd.R_alloc | apply Kd.R_drewN | apply Kd.R_drew)); exact Kd.R_mono HO_7.out (fun _ hk => ⟨hk.2, hk.1⟩)⟩, ⟨by (with_reducible repeat (first | apply Kd.R_alloc | apply Kd.R_drewN | apply Kd.R_drew)); exact Kd.R_mono HO_9.out (fun _ hk => trivial)⟩, ⟨by (with_reducible repeat (first | apply Kd.R_alloc | apply Kd.R_drewN | apply Kd.R_drew)); exact HO_12.out⟩, ⟨by (with_reducible repeat (first | apply Kd.R_alloc | apply Kd.R_drewN | apply Kd.R_drew)); exact HO_14.out⟩, ⟨by repeat (first | (with_reducible first | exact HB.out | apply below_alloc | apply pw_below_drewN | apply below_drew1 | refine below_set ?_ GE259.out) | exact HB.out)⟩⟩
                                    · rw [if_neg c48] at H
                                      exact absurd H (by simp)
                                  · rw [if_neg c47] at H
                                    exact absurd H (by simp)
                          · rw [if_neg c28] at H
                            exact absurd H (by simp)
                        · rw [if_neg c27] at H
                          exact absurd H (by simp)
                      · rw [if_neg c26] at H
                        have c26b0 : decide (x15_2 < ji10) = false := decide_eq_false c26
                        clear c26
                        have H' := Aside0.mk H
                        clear H
                        go_wp2
                        repeat (go_quiet (fail); try go_wp2)
                        go_loopg [18] k2 (fun kq v18 w' => ∃ (x18_3 : Int), v18 = .int .i64 x18_3 ∧ Aside0 (wringerlaw13_SpreadPlaces.l2 kq t243 ji10 x12_2 (Int.tmod (wrap64 (a2)) 65) x14_2 x18_3 = some r) ∧ Aside0 (kq ≤ k2) ∧ Aside0 (Kd.R (Kd.int .i64) 3 w' w.heap.size (fun k_ => some k_ ≠ (v253 : Value).ownBlock ∧ some k_ ≠ (v256 : Value).ownBlock) (.slice Ao13 t243.length co13) t243) ∧ Aside0 (Kd.R (Kd.int .i64) 3 w' w.heap.size (fun k_ => some k_ ≠ ((.slice Ao13 t243.length co13) : Value).ownBlock ∧ some k_ ≠ (v256 : Value).ownBlock) v253 x12_2) ∧ Aside0 (Kd.R (Kd.int .i64) 3 w' w.heap.size (fun k_ => some k_ ≠ ((.slice Ao13 t243.length co13) : Value).ownBlock ∧ some k_ ≠ (v253 : Value).ownBlock) v256 x14_2) ∧ Aside0 (Below w.heap.size w w'))
                        case atStart => exact ⟨(0), (by first | rfl | (simp; done) | (simp [*]; done)), H', ⟨Nat.le_refl _⟩, ⟨by (with_reducible repeat (first | apply Kd.R_alloc | apply Kd.R_drewN | apply Kd.R_drew)); exact HO_7.out⟩, ⟨by (with_reducible repeat (first | apply Kd.R_alloc | apply Kd.R_drewN | apply Kd.R_drew)); exact HO_12.out⟩, ⟨by (with_reducible repeat (first | apply Kd.R_alloc | apply Kd.R_drewN | apply Kd.R_drew)); exact HO_14.out⟩, ⟨by repeat (first | (with_reducible first | exact HB.out | apply below_alloc | apply pw_below_drewN | apply below_drew1) | exact HB.out)⟩⟩
                        case round =>
                          clear H'
                          try clear c1
                          try clear c2
                          try clear p2
                          try clear q2
                          try clear hx2
                          try clear c3
                          try clear c4
                          try clear c4b0
                          try clear c4b1
                          try clear p4
                          try clear q4
                          try clear hx4
                          try clear hf4
                          try clear c5
                          try clear c6
                          try clear p6
                          try clear q6
                          try clear hx6
                          try clear hf6
                          try clear c9
                          try clear c9b0
                          try clear c9b1
                          try clear c16
                          try clear c16b0
                          try clear c16b1
                          try clear c18
                          try clear c19
                          try clear c19b0
                          try clear c19b1
                          try clear c20
                          try clear c20b0
                          try clear c20b1
                          try clear c21
                          try clear c21b0
                          try clear c21b1
                          try clear p25
                          try clear q25
                          try clear hx25
                          try clear c26
                          try clear c26b0
                          try clear p26
                          try clear q26
                          try clear hx26
                          try clear c27
                          try clear c27b0
                          try clear c28
                          try clear c28b0
                          try clear c33
                          try clear c33b0
                          try clear c35
                          try clear c35b0
                          try clear c37
                          try clear c37b0
                          try clear c39
                          try clear c39b0
                          try clear c41
                          try clear c41b0
                          try clear c43
                          try clear c43b0
                          try clear c43b1
                          try clear c46
                          try clear c47
                          try clear c47b0
                          try clear c48
                          try clear c48b0
                          try clear p49
                          try clear q49
                          try clear hx49
                          try clear hf49
                          try clear c50
                          try clear c50b0
                          try clear c50b1
                          try clear c56
                          try clear c56b0
                          try clear c56b1
                          try clear c58
                          try clear c58b0
                          try clear c60
                          try clear c60b0
                          try clear c61
                          try clear c61b0
                          try clear p62
                          try clear q62
                          try clear hx62
                          try clear hf62
                          try clear p64
                          try clear hcz32_0
                          try clear hcz32_1
                          try clear hcz32_2
                          try clear hcz34_0
                          try clear hcz34_1
                          try clear hcz34_2
                          try clear hcz36_0
                          try clear hcz36_1
                          try clear hcz36_2
                          try clear hcz38_0
                          try clear hcz38_1
                          try clear hcz38_2
                          try clear hcz40_0
                          try clear hcz40_1
                          try clear hcz40_2
                          try clear hcz42_0
                          try clear hcz42_1
                          try clear hcz42_2
                          try clear hcz45_0
                          try clear hcz45_1
                          try clear hcz45_2
                          try clear hcz51_0
                          try clear hcz51_1
                          try clear hcz51_2
                          try clear hcz55_0
                          try clear hcz55_1
                          try clear hcz55_2
                          try clear hcz63_0
                          try clear hcz63_1
                          try clear hcz63_2
                          try clear hcz67_0
                          try clear hcz67_1
                          try clear hcz67_2
                          try clear hcz68_0
                          try clear hcz68_1
                          try clear hcz68_2
                          try clear hcz72_0
                          try clear hcz72_1
                          try clear hcz72_2
                          try clear hfz32_0
                          try clear hfz32_1
                          try clear hfz32_2
                          try clear hfz34_0
                          try clear hfz34_1
                          try clear hfz34_2
                          try clear hfz36_0
                          try clear hfz36_1
                          try clear hfz36_2
                          try clear hfz38_0
                          try clear hfz38_1
                          try clear hfz38_2
                          try clear hfz40_0
                          try clear hfz40_1
                          try clear hfz40_2
                          try clear hfz42_0
                          try clear hfz42_1
                          try clear hfz42_2
                          try clear hfz45_0
                          try clear hfz45_1
                          try clear hfz45_2
                          try clear hfz51_0
                          try clear hfz51_1
                          try clear hfz51_2
                          try clear hfz55_0
                          try clear hfz55_1
                          try clear hfz55_2
                          try clear hfz63_0
                          try clear hfz63_1
                          try clear hfz63_2
                          try clear hfz67_0
                          try clear hfz67_1
                          try clear hfz67_2
                          try clear hfz68_0
                          try clear hfz68_1
                          try clear hfz68_2
                          try clear hfz72_0
                          try clear hfz72_1
                          try clear hfz72_2
                          try clear hx258_0
                          try clear hx258_1
                          try clear hx258_2
                          try clear hx260_0
                          try clear hx262_0
                          try clear hx49_0
                          try clear hx62_0
                          try clear p2
                          try clear p25
                          try clear p258
                          try clear p26
                          try clear p260
                          try clear p262
                          try clear p4
                          try clear p49
                          try clear p6
                          try clear p62
                          try clear q2
                          try clear q25
                          try clear q258
                          try clear q26
                          try clear q260
                          try clear q262
                          try clear q4
                          try clear q49
                          try clear q62
                          obtain ⟨x18_3, rfl, HA, HK3, HO_7, HO_12, HO_14, HB⟩ := hrel
                          cases gk with
                          | zero => exact absurd HA.out (by simp [wringerlaw13_SpreadPlaces.l2])
                          | succ k3 =>
                            have H := HA.out
                            clear HA
                            simp only [wringerlaw13_SpreadPlaces.l2] at H
                            by_cases c73 : x18_3 < ji10
                            · rw [if_pos c73] at H
                              have c73b0 : decide (x18_3 < ji10) = true := decide_eq_true c73
                              clear c73
                              by_cases c74 : 0 ≤ x18_3
                              · rw [if_pos c74] at H
                                have c74b0 : decide (0 ≤ x18_3) = true := decide_eq_true c74
                                clear c74
                                by_cases c75 : x18_3 < (x14_2.length : Int)
                                · rw [if_pos c75] at H
                                  have c75b0 : decide (x18_3 < (x14_2.length : Int)) = true := decide_eq_true c75
                                  clear c75
                                  by_cases c76 : (rd x14_2 x18_3) = 1
                                  · rw [if_pos c76] at H
                                    have c76b0 : ((rd x14_2 x18_3) == 1) = true := beq_iff_eq.mpr c76
                                    have c76b1 : ((rd x14_2 x18_3) != 1) = false := bne_eq_false_iff_eq.mpr c76
                                    clear c76
                                    by_cases c77 : (rd x14_2 x18_3) = 0
                                    · rw [if_pos c77] at H
                                      have c77b0 : ((rd x14_2 x18_3) == 0) = true := beq_iff_eq.mpr c77
                                      have c77b1 : ((rd x14_2 x18_3) != 0) = false := bne_eq_false_iff_eq.mpr c77
                                      clear c77
                                      have H' := Aside0.mk H
                                      clear H
                                      obtain ⟨Ao78, co78, eo78⟩ := Kd.R_slice HO_14.out
                                      subst eo78
                                      have p264 : 0 ≤ (x18_3 : Int) := of_decide_eq_true (by first | (with_reducible assumption) | assumption)
                                      have q264 : x18_3 < (x14_2.length : Int) := of_decide_eq_true (by first | (with_reducible assumption) | assumption)
                                      obtain ⟨ad264, e264, hx264_0⟩ := Kd.at_int (Kd.R_reads' HO_14.out).2.2 x18_3 p264 q264
                                      cases e264
                                      replace p264 := eq_true p264
                                      replace q264 := eq_true q264
                                      have p265 : 0 ≤ (x18_3 : Int) := of_decide_eq_true (by first | (with_reducible assumption) | assumption)
                                      have q265 : x18_3 < (x14_2.length : Int) := of_decide_eq_true (by first | (with_reducible assumption) | assumption)
                                      obtain ⟨ad265, e265, hx265_0⟩ := Kd.at_int (Kd.R_reads' HO_14.out).2.2 x18_3 p265 q265
                                      obtain rfl : ad264 = ad265 := (by injection e265)
                                      replace p265 := eq_true p265
                                      replace q265 := eq_true q265
                                      go_wp2
                                      repeat (go_quiet (fail); try go_wp2)
                                      try subst hji10
                                      go_roundg k3
                                      case measure => have := HJ10.out; have := HK2.out; have := HK3.out; omega
                                      case rel => exact ⟨(wrap64 (x18_3 + 1)), (by first | rfl | (simp; done) | (simp [*]; done)), H', ⟨by have := HJ10.out; have := HK2.out; have := HK3.out; omega⟩, ⟨by (with_reducible repeat (first | apply Kd.R_alloc | apply Kd.R_drewN | apply Kd.R_drew)); exact HO_7.out⟩, ⟨by (with_reducible repeat (first | apply Kd.R_alloc | apply Kd.R_drewN | apply Kd.R_drew)); exact HO_12.out⟩, ⟨by (with_reducible repeat (first | apply Kd.R_alloc | apply Kd.R_drewN | apply Kd.R_drew)); exact HO_14.out⟩, ⟨by repeat (first | (with_reducible first | exact HB.out | apply below_alloc | apply pw_below_drewN | apply below_drew1) | exact HB.out)⟩⟩
                                    · rw [if_neg c77] at H
                                      have c77b0 : ((rd x14_2 x18_3) == 0) = false := beq_eq_false_iff_ne.mpr c77
                                      have c77b1 : ((rd x14_2 x18_3) != 0) = true := bne_iff_ne.mpr c77
                                      obtain ⟨ji79, hji79⟩ : ∃ j_ : Int, (Int.tmod (wrap64 (a2)) 65) = j_ := ⟨_, rfl⟩
                                      replace H : (if 0 ≤ (ji79) then (if (ji79) < (t243.length : Int) then (if (rd t243 (ji79)) = 0 then (some false) else (wringerlaw13_SpreadPlaces.l2 k3 t243 ji10 x12_2 (ji79) x14_2 (wrap64 (x18_3 + 1)))) else (none)) else (none)) = some r := by first | (rw [hji79] at H; exact H) | (simp only [hji79] at H ⊢; exact H)
                                      by_cases c80 : 0 ≤ (ji79)
                                      · rw [if_pos c80] at H
                                        have c80b0 : decide (0 ≤ (ji79)) = true := decide_eq_true c80
                                        clear c80
                                        by_cases c81 : (ji79) < (t243.length : Int)
                                        · rw [if_pos c81] at H
                                          have c81b0 : decide ((ji79) < (t243.length : Int)) = true := decide_eq_true c81
                                          clear c81
                                          by_cases c82 : (rd t243 (ji79)) = 0
                                          · rw [if_pos c82] at H
                                            have c82b0 : ((rd t243 (ji79)) == 0) = true := beq_iff_eq.mpr c82
                                            have c82b1 : ((rd t243 (ji79)) != 0) = false := bne_eq_false_iff_eq.mpr c82
                                            clear c82
                                            obtain rfl := Option.some.inj H
                                            obtain ⟨Ao83, co83, eo83⟩ := Kd.R_slice HO_14.out
                                            subst eo83
                                            have p264 : 0 ≤ (x18_3 : Int) := of_decide_eq_true (by first | (with_reducible assumption) | assumption)
                                            have q264 : x18_3 < (x14_2.length : Int) := of_decide_eq_true (by first | (with_reducible assumption) | assumption)
                                            obtain ⟨ad264, e264, hx264_0⟩ := Kd.at_int (Kd.R_reads' HO_14.out).2.2 x18_3 p264 q264
                                            cases e264
                                            replace p264 := eq_true p264
                                            replace q264 := eq_true q264
                                            have p265 : 0 ≤ (x18_3 : Int) := of_decide_eq_true (by first | (with_reducible assumption) | assumption)
                                            have q265 : x18_3 < (x14_2.length : Int) := of_decide_eq_true (by first | (with_reducible assumption) | assumption)
                                            obtain ⟨ad265, e265, hx265_0⟩ := Kd.at_int (Kd.R_reads' HO_14.out).2.2 x18_3 p265 q265
                                            obtain rfl : ad264 = ad265 := (by injection e265)
                                            replace p265 := eq_true p265
                                            replace q265 := eq_true q265
                                            have p266 : 0 ≤ ((ji79) : Int) := of_decide_eq_true (by first | (with_reducible assumption) | assumption)
                                            have q266 : (ji79) < (t243.length : Int) := of_decide_eq_true (by first | (with_reducible assumption) | assumption)
                                            obtain ⟨ad266, e266, hx266_0⟩ := Kd.at_int (Kd.R_reads' HO_7.out).2.2 (ji79) p266 q266
                                            cases e266
                                            replace p266 := eq_true p266
                                            replace q266 := eq_true q266
                                            go_wp2
                                            repeat (go_quiet (fail); try go_wp2)
                                            go_ret
                                            exact ⟨by first | rfl | (simp [errW_none, errW_some] <;> rfl) | (simp only [← hji10, ← hji79]; first | rfl | (simp [errW_none, errW_some] <;> rfl)) | (simp [*, errW_none, errW_some] <;> rfl), by repeat (first | (with_reducible first | exact HB.out | apply below_alloc | apply pw_below_drewN | apply below_drew1) | exact HB.out)⟩
                                          · rw [if_neg c82] at H
                                            have c82b0 : ((rd t243 (ji79)) == 0) = false := beq_eq_false_iff_ne.mpr c82
                                            have c82b1 : ((rd t243 (ji79)) != 0) = true := bne_iff_ne.mpr c82
                                            have H' := Aside0.mk H
                                            clear H
                                            obtain ⟨Ao84, co84, eo84⟩ := Kd.R_slice HO_14.out
                                            subst eo84
                                            have p264 : 0 ≤ (x18_3 : Int) := of_decide_eq_true (by first | (with_reducible assumption) | assumption)
                                            have q264 : x18_3 < (x14_2.length : Int) := of_decide_eq_true (by first | (with_reducible assumption) | assumption)
                                            obtain ⟨ad264, e264, hx264_0⟩ := Kd.at_int (Kd.R_reads' HO_14.out).2.2 x18_3 p264 q264
                                            cases e264
                                            replace p264 := eq_true p264
                                            replace q264 := eq_true q264
                                            have p265 : 0 ≤ (x18_3 : Int) := of_decide_eq_true (by first | (with_reducible assumption) | assumption)
                                            have q265 : x18_3 < (x14_2.length : Int) := of_decide_eq_true (by first | (with_reducible assumption) | assumption)
                                            obtain ⟨ad265, e265, hx265_0⟩ := Kd.at_int (Kd.R_reads' HO_14.out).2.2 x18_3 p265 q265
                                            obtain rfl : ad264 = ad265 := (by injection e265)
                                            replace p265 := eq_true p265
                                            replace q265 := eq_true q265
                                            have p266 : 0 ≤ ((ji79) : Int) := of_decide_eq_true (by first | (with_reducible assumption) | assumption)
                                            have q266 : (ji79) < (t243.length : Int) := of_decide_eq_true (by first | (with_reducible assumption) | assumption)
                                            obtain ⟨ad266, e266, hx266_0⟩ := Kd.at_int (Kd.R_reads' HO_7.out).2.2 (ji79) p266 q266
                                            cases e266
                                            replace p266 := eq_true p266
                                            replace q266 := eq_true q266
                                            go_wp2
                                            repeat (go_quiet (fail); try go_wp2)
                                            try subst hji10
                                            try subst hji79
                                            go_roundg k3
                                            case measure => have := HJ10.out; have := HK2.out; have := HK3.out; omega
                                            case rel => exact ⟨(wrap64 (x18_3 + 1)), (by first | rfl | (simp; done) | (simp [*]; done)), H', ⟨by have := HJ10.out; have := HK2.out; have := HK3.out; omega⟩, ⟨by (with_reducible repeat (first | apply Kd.R_alloc | apply Kd.R_drewN | apply Kd.R_drew)); exact HO_7.out⟩, ⟨by (with_reducible repeat (first | apply Kd.R_alloc | apply Kd.R_drewN | apply Kd.R_drew)); exact HO_12.out⟩, ⟨by (with_reducible repeat (first | apply Kd.R_alloc | apply Kd.R_drewN | apply Kd.R_drew)); exact HO_14.out⟩, ⟨by repeat (first | (with_reducible first | exact HB.out | apply below_alloc | apply pw_below_drewN | apply below_drew1) | exact HB.out)⟩⟩
                                        · rw [if_neg c81] at H
                                          exact absurd H (by simp)
                                      · rw [if_neg c80] at H
                                        exact absurd H (by simp)
                                  · rw [if_neg c76] at H
                                    have c76b0 : ((rd x14_2 x18_3) == 1) = false := beq_eq_false_iff_ne.mpr c76
                                    have c76b1 : ((rd x14_2 x18_3) != 1) = true := bne_iff_ne.mpr c76
                                    obtain ⟨ji85, hji85⟩ : ∃ j_ : Int, (Int.tmod (wrap64 (a2)) 65) = j_ := ⟨_, rfl⟩
                                    replace H : (if 0 ≤ (ji85) then (if (ji85) < (t243.length : Int) then (if (rd t243 (ji85)) > 0 then (some false) else (if (rd x14_2 x18_3) = 0 then (wringerlaw13_SpreadPlaces.l2 k3 t243 ji10 x12_2 (ji85) x14_2 (wrap64 (x18_3 + 1))) else (if (rd t243 (ji85)) = 0 then (some false) else (wringerlaw13_SpreadPlaces.l2 k3 t243 ji10 x12_2 (ji85) x14_2 (wrap64 (x18_3 + 1)))))) else (none)) else (none)) = some r := by first | (rw [hji85] at H; exact H) | (simp only [hji85] at H ⊢; exact H)
                                    by_cases c86 : 0 ≤ (ji85)
                                    · rw [if_pos c86] at H
                                      have c86b0 : decide (0 ≤ (ji85)) = true := decide_eq_true c86
                                      clear c86
                                      by_cases c87 : (ji85) < (t243.length : Int)
                                      · rw [if_pos c87] at H
                                        have c87b0 : decide ((ji85) < (t243.length : Int)) = true := decide_eq_true c87
                                        clear c87
                                        by_cases c88 : (rd t243 (ji85)) > 0
                                        · rw [if_pos c88] at H
                                          have c88b0 : decide (0 < (rd t243 (ji85))) = true := decide_eq_true c88
                                          clear c88
                                          obtain rfl := Option.some.inj H
                                          obtain ⟨Ao89, co89, eo89⟩ := Kd.R_slice HO_14.out
                                          subst eo89
                                          have p264 : 0 ≤ (x18_3 : Int) := of_decide_eq_true (by first | (with_reducible assumption) | assumption)
                                          have q264 : x18_3 < (x14_2.length : Int) := of_decide_eq_true (by first | (with_reducible assumption) | assumption)
                                          obtain ⟨ad264, e264, hx264_0⟩ := Kd.at_int (Kd.R_reads' HO_14.out).2.2 x18_3 p264 q264
                                          cases e264
                                          replace p264 := eq_true p264
                                          replace q264 := eq_true q264
                                          have p267 : 0 ≤ ((ji85) : Int) := of_decide_eq_true (by first | (with_reducible assumption) | assumption)
                                          have q267 : (ji85) < (t243.length : Int) := of_decide_eq_true (by first | (with_reducible assumption) | assumption)
                                          obtain ⟨ad267, e267, hx267_0⟩ := Kd.at_int (Kd.R_reads' HO_7.out).2.2 (ji85) p267 q267
                                          cases e267
                                          replace p267 := eq_true p267
                                          replace q267 := eq_true q267
                                          go_wp2
                                          repeat (go_quiet (fail); try go_wp2)
                                          go_ret
                                          exact ⟨by first | rfl | (simp [errW_none, errW_some] <;> rfl) | (simp only [← hji10, ← hji85]; first | rfl | (simp [errW_none, errW_some] <;> rfl)) | (simp [*, errW_none, errW_some] <;> rfl), by repeat (first | (with_reducible first | exact HB.out | apply below_alloc | apply pw_below_drewN | apply below_drew1) | exact HB.out)⟩
                                        · rw [if_neg c88] at H
                                          have c88b0 : decide (0 < (rd t243 (ji85))) = false := decide_eq_false c88
                                          clear c88
                                          by_cases c90 : (rd x14_2 x18_3) = 0
                                          · rw [if_pos c90] at H
                                            have c90b0 : ((rd x14_2 x18_3) == 0) = true := beq_iff_eq.mpr c90
                                            have c90b1 : ((rd x14_2 x18_3) != 0) = false := bne_eq_false_iff_eq.mpr c90
                                            clear c90
                                            have H' := Aside0.mk H
                                            clear H
                                            obtain ⟨Ao91, co91, eo91⟩ := Kd.R_slice HO_14.out
                                            subst eo91
                                            have p264 : 0 ≤ (x18_3 : Int) := of_decide_eq_true (by first | (with_reducible assumption) | assumption)
                                            have q264 : x18_3 < (x14_2.length : Int) := of_decide_eq_true (by first | (with_reducible assumption) | assumption)
                                            obtain ⟨ad264, e264, hx264_0⟩ := Kd.at_int (Kd.R_reads' HO_14.out).2.2 x18_3 p264 q264
                                            cases e264
                                            replace p264 := eq_true p264
                                            replace q264 := eq_true q264
                                            have p267 : 0 ≤ ((ji85) : Int) := of_decide_eq_true (by first | (with_reducible assumption) | assumption)
                                            have q267 : (ji85) < (t243.length : Int) := of_decide_eq_true (by first | (with_reducible assumption) | assumption)
                                            obtain ⟨ad267, e267, hx267_0⟩ := Kd.at_int (Kd.R_reads' HO_7.out).2.2 (ji85) p267 q267
                                            cases e267
                                            replace p267 := eq_true p267
                                            replace q267 := eq_true q267
                                            have p268 : 0 ≤ (x18_3 : Int) := of_decide_eq_true (by first | (with_reducible assumption) | assumption)
                                            have q268 : x18_3 < (x14_2.length : Int) := of_decide_eq_true (by first | (with_reducible assumption) | assumption)
                                            obtain ⟨ad268, e268, hx268_0⟩ := Kd.at_int (Kd.R_reads' HO_14.out).2.2 x18_3 p268 q268
                                            obtain rfl : ad264 = ad268 := (by injection e268)
                                            replace p268 := eq_true p268
                                            replace q268 := eq_true q268
                                            go_wp2
                                            repeat (go_quiet (fail); try go_wp2)
                                            try subst hji10
                                            try subst hji85
                                            go_roundg k3
                                            case measure => have := HJ10.out; have := HK2.out; have := HK3.out; omega
                                            case rel => exact ⟨(wrap64 (x18_3 + 1)), (by first | rfl | (simp; done) | (simp [*]; done)), H', ⟨by have := HJ10.out; have := HK2.out; have := HK3.out; omega⟩, ⟨by (with_reducible repeat (first | apply Kd.R_alloc | apply Kd.R_drewN | apply Kd.R_drew)); exact HO_7.out⟩, ⟨by (with_reducible repeat (first | apply Kd.R_alloc | apply Kd.R_drewN | apply Kd.R_drew)); exact HO_12.out⟩, ⟨by (with_reducible repeat (first | apply Kd.R_alloc | apply Kd.R_drewN | apply Kd.R_drew)); exact HO_14.out⟩, ⟨by repeat (first | (with_reducible first | exact HB.out | apply below_alloc | apply pw_below_drewN | apply below_drew1) | exact HB.out)⟩⟩
                                          · rw [if_neg c90] at H
                                            have c90b0 : ((rd x14_2 x18_3) == 0) = false := beq_eq_false_iff_ne.mpr c90
                                            have c90b1 : ((rd x14_2 x18_3) != 0) = true := bne_iff_ne.mpr c90
                                            by_cases c92 : (rd t243 (ji85)) = 0
                                            · rw [if_pos c92] at H
                                              have c92b0 : ((rd t243 (ji85)) == 0) = true := beq_iff_eq.mpr c92
                                              have c92b1 : ((rd t243 (ji85)) != 0) = false := bne_eq_false_iff_eq.mpr c92
                                              clear c92
                                              obtain rfl := Option.some.inj H
                                              obtain ⟨Ao93, co93, eo93⟩ := Kd.R_slice HO_14.out
                                              subst eo93
                                              have p264 : 0 ≤ (x18_3 : Int) := of_decide_eq_true (by first | (with_reducible assumption) | assumption)
                                              have q264 : x18_3 < (x14_2.length : Int) := of_decide_eq_true (by first | (with_reducible assumption) | assumption)
                                              obtain ⟨ad264, e264, hx264_0⟩ := Kd.at_int (Kd.R_reads' HO_14.out).2.2 x18_3 p264 q264
                                              cases e264
                                              replace p264 := eq_true p264
                                              replace q264 := eq_true q264
                                              have p267 : 0 ≤ ((ji85) : Int) := of_decide_eq_true (by first | (with_reducible assumption) | assumption)
                                              have q267 : (ji85) < (t243.length : Int) := of_decide_eq_true (by first | (with_reducible assumption) | assumption)
                                              obtain ⟨ad267, e267, hx267_0⟩ := Kd.at_int (Kd.R_reads' HO_7.out).2.2 (ji85) p267 q267
                                              cases e267
                                              replace p267 := eq_true p267
                                              replace q267 := eq_true q267
                                              have p268 : 0 ≤ (x18_3 : Int) := of_decide_eq_true (by first | (with_reducible assumption) | assumption)
                                              have q268 : x18_3 < (x14_2.length : Int) := of_decide_eq_true (by first | (with_reducible assumption) | assumption)
                                              obtain ⟨ad268, e268, hx268_0⟩ := Kd.at_int (Kd.R_reads' HO_14.out).2.2 x18_3 p268 q268
                                              obtain rfl : ad264 = ad268 := (by injection e268)
                                              replace p268 := eq_true p268
                                              replace q268 := eq_true q268
                                              have p269 : 0 ≤ ((ji85) : Int) := of_decide_eq_true (by first | (with_reducible assumption) | assumption)
                                              have q269 : (ji85) < (t243.length : Int) := of_decide_eq_true (by first | (with_reducible assumption) | assumption)
                                              obtain ⟨ad269, e269, hx269_0⟩ := Kd.at_int (Kd.R_reads' HO_7.out).2.2 (ji85) p269 q269
                                              obtain rfl : ad267 = ad269 := (by injection e269)
                                              replace p269 := eq_true p269
                                              replace q269 := eq_true q269
                                              go_wp2
                                              repeat (go_quiet (fail); try go_wp2)
                                              go_ret
                                              exact ⟨by first | rfl | (simp [errW_none, errW_some] <;> rfl) | (simp only [← hji10, ← hji85]; first | rfl | (simp [errW_none, errW_some] <;> rfl)) | (simp [*, errW_none, errW_some] <;> rfl), by repeat (first | (with_reducible first | exact HB.out | apply below_alloc | apply pw_below_drewN | apply below_drew1) | exact HB.out)⟩
                                            · rw [if_neg c92] at H
                                              have c92b0 : ((rd t243 (ji85)) == 0) = false := beq_eq_false_iff_ne.mpr c92
                                              have c92b1 : ((rd t243 (ji85)) != 0) = true := bne_iff_ne.mpr c92
                                              have H' := Aside0.mk H
                                              clear H
                                              obtain ⟨Ao94, co94, eo94⟩ := Kd.R_slice HO_14.out
                                              subst eo94
                                              have p264 : 0 ≤ (x18_3 : Int) := of_decide_eq_true (by first | (with_reducible assumption) | assumption)
                                              have q264 : x18_3 < (x14_2.length : Int) := of_decide_eq_true (by first | (with_reducible assumption) | assumption)
                                              obtain ⟨ad264, e264, hx264_0⟩ := Kd.at_int (Kd.R_reads' HO_14.out).2.2 x18_3 p264 q264
                                              cases e264
                                              replace p264 := eq_true p264
                                              replace q264 := eq_true q264
                                              have p267 : 0 ≤ ((ji85) : Int) := of_decide_eq_true (by first | (with_reducible assumption) | assumption)
                                              have q267 : (ji85) < (t243.length : Int) := of_decide_eq_true (by first | (with_reducible assumption) | assumption)
                                              obtain ⟨ad267, e267, hx267_0⟩ := Kd.at_int (Kd.R_reads' HO_7.out).2.2 (ji85) p267 q267
                                              cases e267
                                              replace p267 := eq_true p267
                                              replace q267 := eq_true q267
                                              have p268 : 0 ≤ (x18_3 : Int) := of_decide_eq_true (by first | (with_reducible assumption) | assumption)
                                              have q268 : x18_3 < (x14_2.length : Int) := of_decide_eq_true (by first | (with_reducible assumption) | assumption)
                                              obtain ⟨ad268, e268, hx268_0⟩ := Kd.at_int (Kd.R_reads' HO_14.out).2.2 x18_3 p268 q268
                                              obtain rfl : ad264 = ad268 := (by injection e268)
                                              replace p268 := eq_true p268
                                              replace q268 := eq_true q268
                                              have p269 : 0 ≤ ((ji85) : Int) := of_decide_eq_true (by first | (with_reducible assumption) | assumption)
                                              have q269 : (ji85) < (t243.length : Int) := of_decide_eq_true (by first | (with_reducible assumption) | assumption)
                                              obtain ⟨ad269, e269, hx269_0⟩ := Kd.at_int (Kd.R_reads' HO_7.out).2.2 (ji85) p269 q269
                                              obtain rfl : ad267 = ad269 := (by injection e269)
                                              replace p269 := eq_true p269
                                              replace q269 := eq_true q269
                                              go_wp2
                                              repeat (go_quiet (fail); try go_wp2)
                                              try subst hji10
                                              try subst hji85
                                              go_roundg k3
                                              case measure => have := HJ10.out; have := HK2.out; have := HK3.out; omega
                                              case rel => exact ⟨(wrap64 (x18_3 + 1)), (by first | rfl | (simp; done) | (simp [*]; done)), H', ⟨by have := HJ10.out; have := HK2.out; have := HK3.out; omega⟩, ⟨by (with_reducible repeat (first | apply Kd.R_alloc | apply Kd.R_drewN | apply Kd.R_drew)); exact HO_7.out⟩, ⟨by (with_reducible repeat (first | apply Kd.R_alloc | apply Kd.R_drewN | apply Kd.R_drew)); exact HO_12.out⟩, ⟨by (with_reducible repeat (first | apply Kd.R_alloc | apply Kd.R_drewN | apply Kd.R_drew)); exact HO_14.out⟩, ⟨by repeat (first | (with_reducible first | exact HB.out | apply below_alloc | apply pw_below_drewN | apply below_drew1) | exact HB.out)⟩⟩
                                      · rw [if_neg c87] at H
                                        exact absurd H (by simp)
                                    · rw [if_neg c86] at H
                                      exact absurd H (by simp)
                                · rw [if_neg c75] at H
                                  exact absurd H (by simp)
                              · rw [if_neg c74] at H
                                exact absurd H (by simp)
                            · rw [if_neg c73] at H
                              have c73b0 : decide (x18_3 < ji10) = false := decide_eq_false c73
                              clear c73
                              replace H := Option.bind_eq_some_iff.mp H
                              obtain ⟨t270, A950, H⟩ := H
                              replace H : (if t270 = true then ((wringerlaw13_awake.f).bind fun t271 => (some t271)) else (some false)) = some r := H
                              have A95 := Aside0.mk A950
                              clear A950
                              by_cases c96 : t270 = true
                              · subst c96
                                have H1 : ((wringerlaw13_awake.f).bind fun t271 => (some t271)) = some r := by rw [if_pos rfl] at H; exact H
                                clear H
                                have H := H1
                                clear H1
                                replace H := Option.bind_eq_some_iff.mp H
                                obtain ⟨t271, A970, H⟩ := H
                                replace H : (some t271) = some r := H
                                have A97 := Aside0.mk A970
                                clear A970
                                obtain rfl := Option.some.inj H
                                obtain ⟨Ao98, co98, eo98⟩ := Kd.R_slice HO_12.out
                                subst eo98
                                go_wp2_with (first | (go_at_call 13; (with_reducible refine (wringerref7_SameInts.calls k3 _ _ x12_2 _ _ t243 true _ ?side1 ?side2 ?side3 ?side4 A95.out).mono ?_); (case side1 => repeat (first | exact (Kd.R_reads' HO_12.out).2.2 | (with_reducible refine Kd.C_alloc ?_ _) | (with_reducible refine Kd.C_drewN ?_ _) | (with_reducible refine Kd.C_drew ?_))); (case side2 => exact (Kd.R_reads' HO_12.out).2.1); (case side3 => repeat (first | exact (Kd.R_reads' HO_7.out).2.2 | (with_reducible refine Kd.C_alloc ?_ _) | (with_reducible refine Kd.C_drewN ?_ _) | (with_reducible refine Kd.C_drew ?_))); (case side4 => exact (Kd.R_reads' HO_7.out).2.1); rintro e w' ⟨rfl, ⟨nd, rfl⟩⟩; (try first | exact ⟨rfl, _, World.drewN_drewN _ _ _⟩ | exact ⟨rfl, _, Eq.trans (World.drewN_drewN _ _ _) (congrArg (World.drewN _) (Nat.add_assoc _ _ _))⟩)) | (go_at_call 8; (with_reducible refine (wringerlaw13_awake.calls  t271 _ A97.out).mono ?_); rintro e w99 ⟨rfl, hb⟩; have n0_ := Aside0.mk (Kd.R_below (by (with_reducible repeat (first | apply Kd.R_alloc | apply Kd.R_drewN | apply Kd.R_drew)); exact HO_7.out) hb); have n1_ := Aside0.mk (Kd.R_below (by (with_reducible repeat (first | apply Kd.R_alloc | apply Kd.R_drewN | apply Kd.R_drew)); exact HO_12.out) hb); have n2_ := Aside0.mk (Kd.R_below (by (with_reducible repeat (first | apply Kd.R_alloc | apply Kd.R_drewN | apply Kd.R_drew)); exact HO_14.out) hb); have n3_ := Aside0.mk (below_step (by repeat (first | (with_reducible first | exact HB.out | apply below_alloc | apply pw_below_drewN | apply below_drew1) | exact HB.out)) hb); clear HO_7; clear HO_12; clear HO_14; clear HB; have HO_7 := n0_; have HO_12 := n1_; have HO_14 := n2_; have HB := n3_; clear n0_ n1_ n2_ n3_; (try clear hb); (try clear hb2); (try clear hk); (try clear hi)))
                                repeat (go_quiet (first | (go_at_call 13; (with_reducible refine (wringerref7_SameInts.calls k3 _ _ x12_2 _ _ t243 true _ ?side1 ?side2 ?side3 ?side4 A95.out).mono ?_); (case side1 => repeat (first | exact (Kd.R_reads' HO_12.out).2.2 | (with_reducible refine Kd.C_alloc ?_ _) | (with_reducible refine Kd.C_drewN ?_ _) | (with_reducible refine Kd.C_drew ?_))); (case side2 => exact (Kd.R_reads' HO_12.out).2.1); (case side3 => repeat (first | exact (Kd.R_reads' HO_7.out).2.2 | (with_reducible refine Kd.C_alloc ?_ _) | (with_reducible refine Kd.C_drewN ?_ _) | (with_reducible refine Kd.C_drew ?_))); (case side4 => exact (Kd.R_reads' HO_7.out).2.1); rintro e w' ⟨rfl, ⟨nd, rfl⟩⟩; (try first | exact ⟨rfl, _, World.drewN_drewN _ _ _⟩ | exact ⟨rfl, _, Eq.trans (World.drewN_drewN _ _ _) (congrArg (World.drewN _) (Nat.add_assoc _ _ _))⟩)) | (go_at_call 8; (with_reducible refine (wringerlaw13_awake.calls  t271 _ A97.out).mono ?_); rintro e w99 ⟨rfl, hb⟩; have n0_ := Aside0.mk (Kd.R_below (by (with_reducible repeat (first | apply Kd.R_alloc | apply Kd.R_drewN | apply Kd.R_drew)); exact HO_7.out) hb); have n1_ := Aside0.mk (Kd.R_below (by (with_reducible repeat (first | apply Kd.R_alloc | apply Kd.R_drewN | apply Kd.R_drew)); exact HO_12.out) hb); have n2_ := Aside0.mk (Kd.R_below (by (with_reducible repeat (first | apply Kd.R_alloc | apply Kd.R_drewN | apply Kd.R_drew)); exact HO_14.out) hb); have n3_ := Aside0.mk (below_step (by repeat (first | (with_reducible first | exact HB.out | apply below_alloc | apply pw_below_drewN | apply below_drew1) | exact HB.out)) hb); clear HO_7; clear HO_12; clear HO_14; clear HB; have HO_7 := n0_; have HO_12 := n1_; have HO_14 := n2_; have HB := n3_; clear n0_ n1_ n2_ n3_; (try clear hb); (try clear hb2); (try clear hk); (try clear hi))); try go_wp2_with (first | (go_at_call 13; (with_reducible refine (wringerref7_SameInts.calls k3 _ _ x12_2 _ _ t243 true _ ?side1 ?side2 ?side3 ?side4 A95.out).mono ?_); (case side1 => repeat (first | exact (Kd.R_reads' HO_12.out).2.2 | (with_reducible refine Kd.C_alloc ?_ _) | (with_reducible refine Kd.C_drewN ?_ _) | (with_reducible refine Kd.C_drew ?_))); (case side2 => exact (Kd.R_reads' HO_12.out).2.1); (case side3 => repeat (first | exact (Kd.R_reads' HO_7.out).2.2 | (with_reducible refine Kd.C_alloc ?_ _) | (with_reducible refine Kd.C_drewN ?_ _) | (with_reducible refine Kd.C_drew ?_))); (case side4 => exact (Kd.R_reads' HO_7.out).2.1); rintro e w' ⟨rfl, ⟨nd, rfl⟩⟩; (try first | exact ⟨rfl, _, World.drewN_drewN _ _ _⟩ | exact ⟨rfl, _, Eq.trans (World.drewN_drewN _ _ _) (congrArg (World.drewN _) (Nat.add_assoc _ _ _))⟩)) | (go_at_call 8; (with_reducible refine (wringerlaw13_awake.calls  t271 _ A97.out).mono ?_); rintro e w99 ⟨rfl, hb⟩; have n0_ := Aside0.mk (Kd.R_below (by (with_reducible repeat (first | apply Kd.R_alloc | apply Kd.R_drewN | apply Kd.R_drew)); exact HO_7.out) hb); have n1_ := Aside0.mk (Kd.R_below (by (with_reducible repeat (first | apply Kd.R_alloc | apply Kd.R_drewN | apply Kd.R_drew)); exact HO_12.out) hb); have n2_ := Aside0.mk (Kd.R_below (by (with_reducible repeat (first | apply Kd.R_alloc | apply Kd.R_drewN | apply Kd.R_drew)); exact HO_14.out) hb); have n3_ := Aside0.mk (below_step (by repeat (first | (with_reducible first | exact HB.out | apply below_alloc | apply pw_below_drewN | apply below_drew1) | exact HB.out)) hb); clear HO_7; clear HO_12; clear HO_14; clear HB; have HO_7 := n0_; have HO_12 := n1_; have HO_14 := n2_; have HB := n3_; clear n0_ n1_ n2_ n3_; (try clear hb); (try clear hb2); (try clear hk); (try clear hi))))
                                go_ret
                                exact ⟨by first | rfl | (simp [errW_none, errW_some] <;> rfl) | (simp only [← hji10]; first | rfl | (simp [errW_none, errW_some] <;> rfl)) | (simp [*, errW_none, errW_some] <;> rfl), by repeat (first | (with_reducible first | exact HB.out | apply below_alloc | apply pw_below_drewN | apply below_drew1) | exact HB.out)⟩
                              · replace c96 := Bool.eq_false_iff.mpr c96
                                subst c96
                                have H1 : (some false) = some r := by rw [if_neg (show ¬ (false = true) by decide)] at H; exact H
                                clear H
                                have H := H1
                                clear H1
                                obtain rfl := Option.some.inj H
                                obtain ⟨Ao100, co100, eo100⟩ := Kd.R_slice HO_12.out
                                subst eo100
                                go_wp2_with (first | (go_at_call 13; (with_reducible refine (wringerref7_SameInts.calls k3 _ _ x12_2 _ _ t243 false _ ?side1 ?side2 ?side3 ?side4 A95.out).mono ?_); (case side1 => repeat (first | exact (Kd.R_reads' HO_12.out).2.2 | (with_reducible refine Kd.C_alloc ?_ _) | (with_reducible refine Kd.C_drewN ?_ _) | (with_reducible refine Kd.C_drew ?_))); (case side2 => exact (Kd.R_reads' HO_12.out).2.1); (case side3 => repeat (first | exact (Kd.R_reads' HO_7.out).2.2 | (with_reducible refine Kd.C_alloc ?_ _) | (with_reducible refine Kd.C_drewN ?_ _) | (with_reducible refine Kd.C_drew ?_))); (case side4 => exact (Kd.R_reads' HO_7.out).2.1); rintro e w' ⟨rfl, ⟨nd, rfl⟩⟩; (try first | exact ⟨rfl, _, World.drewN_drewN _ _ _⟩ | exact ⟨rfl, _, Eq.trans (World.drewN_drewN _ _ _) (congrArg (World.drewN _) (Nat.add_assoc _ _ _))⟩)))
                                repeat (go_quiet (first | (go_at_call 13; (with_reducible refine (wringerref7_SameInts.calls k3 _ _ x12_2 _ _ t243 false _ ?side1 ?side2 ?side3 ?side4 A95.out).mono ?_); (case side1 => repeat (first | exact (Kd.R_reads' HO_12.out).2.2 | (with_reducible refine Kd.C_alloc ?_ _) | (with_reducible refine Kd.C_drewN ?_ _) | (with_reducible refine Kd.C_drew ?_))); (case side2 => exact (Kd.R_reads' HO_12.out).2.1); (case side3 => repeat (first | exact (Kd.R_reads' HO_7.out).2.2 | (with_reducible refine Kd.C_alloc ?_ _) | (with_reducible refine Kd.C_drewN ?_ _) | (with_reducible refine Kd.C_drew ?_))); (case side4 => exact (Kd.R_reads' HO_7.out).2.1); rintro e w' ⟨rfl, ⟨nd, rfl⟩⟩; (try first | exact ⟨rfl, _, World.drewN_drewN _ _ _⟩ | exact ⟨rfl, _, Eq.trans (World.drewN_drewN _ _ _) (congrArg (World.drewN _) (Nat.add_assoc _ _ _))⟩))); try go_wp2_with (first | (go_at_call 13; (with_reducible refine (wringerref7_SameInts.calls k3 _ _ x12_2 _ _ t243 false _ ?side1 ?side2 ?side3 ?side4 A95.out).mono ?_); (case side1 => repeat (first | exact (Kd.R_reads' HO_12.out).2.2 | (with_reducible refine Kd.C_alloc ?_ _) | (with_reducible refine Kd.C_drewN ?_ _) | (with_reducible refine Kd.C_drew ?_))); (case side2 => exact (Kd.R_reads' HO_12.out).2.1); (case side3 => repeat (first | exact (Kd.R_reads' HO_7.out).2.2 | (with_reducible refine Kd.C_alloc ?_ _) | (with_reducible refine Kd.C_drewN ?_ _) | (with_reducible refine Kd.C_drew ?_))); (case side4 => exact (Kd.R_reads' HO_7.out).2.1); rintro e w' ⟨rfl, ⟨nd, rfl⟩⟩; (try first | exact ⟨rfl, _, World.drewN_drewN _ _ _⟩ | exact ⟨rfl, _, Eq.trans (World.drewN_drewN _ _ _) (congrArg (World.drewN _) (Nat.add_assoc _ _ _))⟩))))
                                go_ret
                                exact ⟨by first | rfl | (simp [errW_none, errW_some] <;> rfl) | (simp only [← hji10]; first | rfl | (simp [errW_none, errW_some] <;> rfl)) | (simp [*, errW_none, errW_some] <;> rfl), by repeat (first | (with_reducible first | exact HB.out | apply below_alloc | apply pw_below_drewN | apply below_drew1) | exact HB.out)⟩
                · rw [if_neg c21] at H
                  exact absurd H (by simp)
              · rw [if_neg c20] at H
                exact absurd H (by simp)
            · rw [if_neg c19] at H
              exact absurd H (by simp)
    · rw [if_neg c9] at H
      exact absurd H (by simp)

/-- THE ONE PURE STATEMENT of wringerlaw13_SpreadPlaces: yours. -/
def wringerlaw13_SpreadPlaces.Pure : Prop := ∀ (l0 : List Int) (a1 : Int) (a2 : Int), l0.length ≤ maxLen → l0.length * 2 ≤ 140737488351232 → (∀ x ∈ l0, (Lit.int .u16 x).wf = true) → (Lit.int .u8 a1).wf = true → (Lit.int .u8 a2).wf = true → ∃ k, wringerlaw13_SpreadPlaces.f k l0 a1 a2 = some true
theorem wringerlaw13_SpreadPlaces.walk (P : wringerlaw13_SpreadPlaces.Pure) (a0 : Option Addr) (len0 cap0 : Nat) (z0 : List Int) (a1 : Int) (a2 : Int) (w : World) (w0 : (a0 = none ∧ len0 = 0 ∧ cap0 = 0 ∧ z0 = []) ∨ ∃ x, a0 = some x ∧ len0 ≤ cap0 ∧ cap0 ≤ maxLen ∧ z0.length = cap0 ∧ (∀ i, i < z0.length → w.cell? (x.add i) = some (.int .u16 (z0.getD i 0))) ∧ ∀ n ∈ z0, (Lit.int .u16 n).wf = true) (y0 : len0 * 2 ≤ 140737488351232) (w1 : (Lit.int .u8 a1).wf = true) (w2 : (Lit.int .u8 a2).wf = true) :
    Calls Try.prog 5 #[.slice a0 len0 cap0, .int .u8 a1, .int .u8 a2] w fun e w' => e = .returned (.bool true) ∧ Below w.heap.size w w' := by
  obtain ⟨l0, rfl, hr0, hm0, hw0, hc0⟩ := ReadsInt.ofRowC w0
  obtain ⟨k, h⟩ := P l0 a1 a2 hm0 y0 hw0 w1 w2
  refine (wringerlaw13_SpreadPlaces.calls k _ _ l0 a1 a2 true w (Kd.C_of_reads (d := (0 : Int)) (h1 := fun _ => rfl) hr0) hc0 h).mono ?_
  rintro e w' ⟨rfl, hd⟩
  exact ⟨rfl, hd⟩

end Go.Proofs.Ytlconnmfceabiaa.PA

-- ---- PureSpreadPlaces
/- Each place has a class, each class as many as it is said; from each state of a class one comes to all states, to each by one place: the plain statement of SpreadPlaces holds for every input. Conditions: none. -/
namespace Go.Proofs.Ytlconnmfceabiaa.Pure
open Go.RowKit Go.Proofs.Ytlconnmfceabiaa.PA Go.Proofs.YtlconnmfceabiaaW.PrintWords Go.Proofs.YtlconnmfceabiaaW.PrintLast Go.Proofs.YtlconnmfceabiaaW.PrintMore Nl Sp
set_option linter.unusedVariables false
set_option linter.unusedSimpArgs false
set_option linter.unusedSectionVars false

/-- One more on each of n places. -/
def addR (l : List Int) (b : Nat) : Nat → List Int
  | 0 => l
  | n + 1 => bump (addR l b n) (b + n) 1
theorem length_addR (l : List Int) (b : Nat) : ∀ n, (addR l b n).length = l.length := by
  intro n; induction n with
  | zero => rfl
  | succ n ih => rw [addR, length_bump, ih]
theorem addR_at (l : List Int) (b : Nat) : ∀ n, b + n ≤ l.length → ∀ s, (addR l b n).getD s 0 = l.getD s 0 + (if b ≤ s ∧ s < b + n then 1 else 0) := by
  intro n
  induction n with
  | zero => intro _ s; rw [if_neg (by omega)]; simp [addR]
  | succ n ih =>
    intro h s
    rw [addR, getD_bump _ _ _ _ (by rw [length_addR]; omega), ih (by omega), ih (by omega)]
    by_cases e : s = b + n
    · subst e; rw [if_pos rfl, if_neg (by omega), if_pos (by omega)]; omega
    · rw [if_neg e]
      by_cases h2 : b ≤ s ∧ s < b + n
      · rw [if_pos h2, if_pos (by omega)]
      · rw [if_neg h2, if_neg (by omega)]
def bitsX (m x : Nat) : Nat := m - Nat.log2 x
def baseX (m x : Nat) : Nat := x * 2 ^ bitsX m x - 2 ^ m
/-- To how many of the first n cells of a class a state belongs. -/
def covL (m r : Nat) : Nat → List Int
  | 0 => List.replicate (2 ^ m) 0
  | n + 1 => addR (covL m r n) (baseX m (r + n)) (2 ^ bitsX m (r + n))
theorem length_covL (m r : Nat) : ∀ n, (covL m r n).length = 2 ^ m := by
  intro n; induction n with
  | zero => simp [covL]
  | succ n ih => rw [covL, length_addR, ih]
theorem log2_is {x t : Nat} (h1 : 2 ^ t ≤ x) (h2 : x < 2 ^ (t + 1)) : Nat.log2 x = t := by
  have h0 : x ≠ 0 := by have := Nat.pow_pos (n := t) (show 0 < 2 by decide); omega
  have a := Nat.log2_self_le h0
  have b := Nat.lt_log2_self (n := x)
  rcases Nat.lt_trichotomy (Nat.log2 x) t with h | h | h
  · have : 2 ^ (Nat.log2 x + 1) ≤ 2 ^ t := Nat.pow_le_pow_right (by decide) h
    omega
  · exact h
  · have : 2 ^ (t + 1) ≤ 2 ^ Nat.log2 x := Nat.pow_le_pow_right (by decide) h
    omega
/-- A cell's states: from where, to where. -/
theorem cell_range {m x t : Nat} (ht : t ≤ m) (h1 : 2 ^ t ≤ x) (h2 : x < 2 ^ (t + 1)) : 2 ^ bitsX m x = 2 ^ (m - t) ∧ baseX m x + 2 ^ m = x * 2 ^ (m - t) ∧ baseX m x + 2 ^ bitsX m x ≤ 2 ^ m := by
  have e := log2_is h1 h2
  have hb : bitsX m x = m - t := by unfold bitsX; rw [e]
  have hS : 2 ^ m = 2 ^ t * 2 ^ (m - t) := by rw [← Nat.pow_add]; congr 1; omega
  have g1 : 2 ^ t * 2 ^ (m - t) ≤ x * 2 ^ (m - t) := Nat.mul_le_mul_right _ h1
  have g2 : (x + 1) * 2 ^ (m - t) ≤ 2 ^ (t + 1) * 2 ^ (m - t) := Nat.mul_le_mul_right _ h2
  have g3 : 2 ^ (t + 1) * 2 ^ (m - t) = 2 * (2 ^ t * 2 ^ (m - t)) := by rw [Nat.pow_succ, Nat.mul_comm (2 ^ t) 2, Nat.mul_assoc]
  have g4 : (x + 1) * 2 ^ (m - t) = x * 2 ^ (m - t) + 2 ^ (m - t) := Nat.succ_mul _ _
  unfold baseX
  rw [hb]
  refine ⟨rfl, by omega, by omega⟩
theorem step_a (A C W b s S : Nat) (hAC : A ≤ C) (hb : b + S = C) :
    (if A ≤ s + S ∧ s + S < C then (1 : Int) else 0) + (if b ≤ s ∧ s < b + W then 1 else 0) = if A ≤ s + S ∧ s + S < C + W then 1 else 0 := by
  by_cases a : A ≤ s + S ∧ s + S < C
  · rw [if_pos a, if_neg (by omega), if_pos (by omega)]; rfl
  · rw [if_neg a]
    by_cases d : b ≤ s ∧ s < b + W
    · rw [if_pos d, if_pos (by omega)]; rfl
    · rw [if_neg d, if_neg (by omega)]; rfl
theorem step_b (A C Q b s S : Nat) (hb : b + S = C) (hA : 2 * C + 2 * Q ≤ 2 * A) :
    (if A ≤ s + S ∨ 2 * (s + S) < 2 * C then (1 : Int) else 0) + (if b ≤ s ∧ s < b + Q then 1 else 0) = if A ≤ s + S ∨ 2 * (s + S) < 2 * C + 2 * Q then 1 else 0 := by
  by_cases a : A ≤ s + S
  · rw [if_pos (Or.inl a), if_neg (by omega), if_pos (Or.inl a)]; rfl
  · by_cases c : 2 * (s + S) < 2 * C
    · rw [if_pos (Or.inr c), if_neg (by omega), if_pos (Or.inr (by omega))]; rfl
    · rw [if_neg (by omega)]
      by_cases d : b ≤ s ∧ s < b + Q
      · rw [if_pos d, if_pos (Or.inr (by omega))]; rfl
      · rw [if_neg d, if_neg (by omega)]; rfl
/-- Which states the first n cells have: one each. -/
theorem cov_spec (m r t : Nat) (ht : t ≤ m) (h1 : 2 ^ t ≤ r) (h2 : r < 2 ^ (t + 1)) (hr : r ≤ 2 ^ m) : ∀ n, n ≤ r → ∀ s, s < 2 ^ m →
    (r + n ≤ 2 ^ (t + 1) → (covL m r n).getD s 0 = if r * 2 ^ (m - t) ≤ s + 2 ^ m ∧ s + 2 ^ m < (r + n) * 2 ^ (m - t) then 1 else 0) ∧
    (2 ^ (t + 1) ≤ r + n → (covL m r n).getD s 0 = if r * 2 ^ (m - t) ≤ s + 2 ^ m ∨ 2 * (s + 2 ^ m) < (r + n) * 2 ^ (m - t) then 1 else 0) := by
  have hS : 2 ^ m = 2 ^ t * 2 ^ (m - t) := by rw [← Nat.pow_add]; congr 1; omega
  have hT : 2 ^ (t + 1) * 2 ^ (m - t) = 2 * 2 ^ m := by rw [Nat.pow_succ, hS, Nat.mul_comm (2 ^ t) 2, Nat.mul_assoc]
  have gr : 2 ^ t * 2 ^ (m - t) ≤ r * 2 ^ (m - t) := Nat.mul_le_mul_right _ h1
  intro n
  induction n with
  | zero =>
    intro _ s hs
    have e : (covL m r 0).getD s 0 = 0 := by simp [covL, List.getD_eq_getElem?_getD, hs]
    rw [e, Nat.add_zero]
    refine ⟨fun _ => by rw [if_neg (by omega)], fun h => by omega⟩
  | succ n ih =>
    intro hn s hs
    obtain ⟨ih1, ih2⟩ := ih (by omega) s hs
    have hsucc : (r + (n + 1)) * 2 ^ (m - t) = (r + n) * 2 ^ (m - t) + 2 ^ (m - t) := by rw [← Nat.add_assoc]; exact Nat.succ_mul _ _
    have hge : r * 2 ^ (m - t) ≤ (r + n) * 2 ^ (m - t) := Nat.mul_le_mul_right _ (by omega)
    rcases Nat.lt_or_ge (r + n) (2 ^ (t + 1)) with hlt | hge2
    · obtain ⟨c1, c2, c3⟩ := cell_range ht (show 2 ^ t ≤ r + n by omega) hlt
      have hle : (r + (n + 1)) * 2 ^ (m - t) ≤ 2 ^ (t + 1) * 2 ^ (m - t) := Nat.mul_le_mul_right _ (by omega)
      have hadd := addR_at (covL m r n) (baseX m (r + n)) (2 ^ bitsX m (r + n)) (by rw [length_covL]; exact c3) s
      rw [covL, hadd, ih1 (by omega), c1]
      have key := step_a (r * 2 ^ (m - t)) ((r + n) * 2 ^ (m - t)) (2 ^ (m - t)) (baseX m (r + n)) s (2 ^ m) hge c2
      rw [← hsucc] at key
      refine ⟨fun _ => key, fun hge3 => ?_⟩
      rw [key]
      have e : r + (n + 1) = 2 ^ (t + 1) := by omega
      rw [e, hT]
      by_cases a : r * 2 ^ (m - t) ≤ s + 2 ^ m
      · rw [if_pos (by omega), if_pos (by omega)]
      · rw [if_neg (by omega), if_neg (by omega)]
    · have htm : t + 1 ≤ m := by
        rcases Nat.lt_or_ge t m with h | h
        · omega
        · have : t = m := by omega
          subst this
          rw [Nat.pow_succ] at hge2; omega
      have hlt2 : r + n < 2 ^ (t + 1 + 1) := by rw [Nat.pow_succ 2 (t + 1)]; omega
      obtain ⟨c1, c2, c3⟩ := cell_range htm hge2 hlt2
      have hQ : 2 ^ (m - t) = 2 * 2 ^ (m - (t + 1)) := by rw [show m - t = (m - (t + 1)) + 1 by omega, Nat.pow_succ, Nat.mul_comm]
      have hrn : (r + n) * 2 ^ (m - t) = 2 * ((r + n) * 2 ^ (m - (t + 1))) := by rw [hQ, Nat.mul_left_comm]
      have hr2 : (r + n) * 2 ^ (m - t) ≤ 2 * (r * 2 ^ (m - t)) := by
        have : (r + n) * 2 ^ (m - t) ≤ (2 * r) * 2 ^ (m - t) := Nat.mul_le_mul_right _ (by omega)
        rwa [Nat.mul_assoc] at this
      have hr3 : (r + (n + 1)) * 2 ^ (m - t) ≤ 2 * (r * 2 ^ (m - t)) := by
        have : (r + (n + 1)) * 2 ^ (m - t) ≤ (2 * r) * 2 ^ (m - t) := Nat.mul_le_mul_right _ (by omega)
        rwa [Nat.mul_assoc] at this
      have hadd := addR_at (covL m r n) (baseX m (r + n)) (2 ^ bitsX m (r + n)) (by rw [length_covL]; exact c3) s
      refine ⟨fun h => by omega, fun _ => ?_⟩
      rw [covL, hadd, ih2 hge2, c1]
      have hsucc2 : (r + (n + 1)) * 2 ^ (m - t) = 2 * ((r + n) * 2 ^ (m - (t + 1))) + 2 * 2 ^ (m - (t + 1)) := by rw [hsucc, hrn, hQ]
      have key := step_b (r * 2 ^ (m - t)) ((r + n) * 2 ^ (m - (t + 1))) (2 ^ (m - (t + 1))) (baseX m (r + n)) s (2 ^ m) c2 (by rw [← hsucc2]; exact hr3)
      rw [← hsucc2, ← hrn] at key
      exact key
theorem cov_all (m r : Nat) (h0 : 0 < r) (hr : r ≤ 2 ^ m) (s : Nat) (hs : s < 2 ^ m) : (covL m r r).getD s 0 = 1 := by
  have h1 := Nat.log2_self_le (n := r) (by omega)
  have h2 := Nat.lt_log2_self (n := r)
  have ht : Nat.log2 r ≤ m := by
    rcases Nat.lt_or_ge m (Nat.log2 r) with h | h
    · have : 2 ^ (m + 1) ≤ 2 ^ Nat.log2 r := Nat.pow_le_pow_right (by decide) h
      have := Nat.pow_lt_pow_right (show 1 < 2 by decide) (Nat.lt_succ_self m)
      omega
    · exact h
  obtain ⟨a, b⟩ := cov_spec m r (Nat.log2 r) ht h1 h2 hr r (Nat.le_refl _) s hs
  have hS : 2 ^ m = 2 ^ Nat.log2 r * 2 ^ (m - Nat.log2 r) := by rw [← Nat.pow_add]; congr 1; omega
  have e2 : (r + r) * 2 ^ (m - Nat.log2 r) = 2 * (r * 2 ^ (m - Nat.log2 r)) := by rw [← Nat.two_mul, Nat.mul_assoc]
  rcases Nat.lt_or_ge (2 ^ (Nat.log2 r + 1)) (r + r) with h | h
  · rw [b (by omega)]
    by_cases c : r * 2 ^ (m - Nat.log2 r) ≤ s + 2 ^ m
    · rw [if_pos (Or.inl c)]
    · rw [if_pos (Or.inr (by omega))]
  · have hr2 : r = 2 ^ Nat.log2 r := by rw [Nat.pow_succ] at h; omega
    rw [a h]
    have e : r * 2 ^ (m - Nat.log2 r) = 2 ^ m := by rw [hS]; congr 1
    rw [if_pos (by omega)]

theorem cells_append (m : Nat) (a : List Int) : ∀ (b next : List Int), cells m next (a ++ b) = cells m next a ++ cells m (nexts next a) b := by
  induction a with
  | nil => intro b next; rfl
  | cons x t ih => intro b next; simp only [List.cons_append, cells, nexts, ih]
/-- What is told of so many places: how often each class has come. -/
def manyL (l : List Int) (m i : Nat) : List Int := (List.range 65).map fun c : Nat => (((spread l (2 ^ m)).take i).count (c : Int) : Int)
theorem length_manyL (l : List Int) (m i : Nat) : (manyL l m i).length = 65 := by simp [manyL]
theorem manyL_at (l : List Int) (m i c : Nat) (hc : c < 65) : (manyL l m i).getD c 0 = (((spread l (2 ^ m)).take i).count (c : Int) : Int) := by
  simp [manyL, List.getD_eq_getElem?_getD, hc]
theorem list_ext_getD (a b : List Int) (hl : a.length = b.length) (h : ∀ c, c < a.length → a.getD c 0 = b.getD c 0) : a = b := by
  apply List.ext_getElem hl
  intro c h1 h2
  have := h c h1
  simpa [List.getD_eq_getElem?_getD, h1, h2] using this
theorem take_next {l : List Int} {m i c : Nat} (hi : i < 2 ^ m) (hS : (spread l (2 ^ m)).getD i 0 = (c : Int)) : (spread l (2 ^ m)).take (i + 1) = (spread l (2 ^ m)).take i ++ [(c : Int)] := by
  have hl := length_spread l (2 ^ m)
  rw [List.take_succ_eq_append_getElem (by omega)]
  have e : (spread l (2 ^ m)).getD i 0 = (spread l (2 ^ m))[i]'(by omega) := by simp [List.getD_eq_getElem?_getD, show i < (spread l (2 ^ m)).length by omega]
  rw [← e, hS]
theorem manyL_succ {l : List Int} {m i c : Nat} (hi : i < 2 ^ m) (hc : c < 65) (hS : (spread l (2 ^ m)).getD i 0 = (c : Int)) : manyL l m (i + 1) = (manyL l m i).set c ((manyL l m i).getD c 0 + 1) := by
  apply list_ext_getD
  · rw [List.length_set, length_manyL, length_manyL]
  · intro d hd
    rw [length_manyL] at hd
    have h1 := getD_bump (manyL l m i) c 1 d (by rw [length_manyL]; exact hc)
    unfold bump at h1
    rw [h1, manyL_at l m (i + 1) d hd, manyL_at l m i c hc, manyL_at l m i d hd, take_next hi hS, List.count_append]
    by_cases e : d = c
    · subst e; rw [if_pos rfl]; simp
    · rw [if_neg e]
      have : ((c : Int) == (d : Int)) = false := by rw [beq_eq_false_iff_ne]; omega
      simp [List.count_cons, this]
theorem manyL_end {l : List Int} {m : Nat} (hM : MayS l m) : manyL l m (2 ^ m) = l := by
  apply list_ext_getD
  · rw [length_manyL, hM.len]
  · intro c hc
    rw [length_manyL] at hc
    rw [manyL_at l m _ c hc, List.take_of_length_le (by rw [length_spread]; exact Nat.le_refl _), hM.count c hc]
    have := (hM.each _ (getD_mem (show c < l.length by rw [hM.len]; exact hc))).1
    omega
/-- A place's cell. -/
theorem table_at {l : List Int} {m i c x : Nat} (hi : i < 2 ^ m) (hS : (spread l (2 ^ m)).getD i 0 = (c : Int)) (hx : (nexts l ((spread l (2 ^ m)).take i)).getD c 0 = (x : Int)) :
    rd_T45 ((table l m).map cellS) (i : Int) = cellS (cellOf m (c : Int) x) := by
  have hl := length_spread l (2 ^ m)
  have e : spread l (2 ^ m) = (spread l (2 ^ m)).take (i + 1) ++ (spread l (2 ^ m)).drop (i + 1) := (List.take_append_drop _ _).symm
  have h1 : table l m = cells m l ((spread l (2 ^ m)).take i) ++ (cellOf m (c : Int) x :: cells m (nexts l ((spread l (2 ^ m)).take i ++ [(c : Int)])) ((spread l (2 ^ m)).drop (i + 1))) := by
    have e2 : cells m l (spread l (2 ^ m)) = cells m l ((spread l (2 ^ m)).take (i + 1) ++ (spread l (2 ^ m)).drop (i + 1)) := congrArg (cells m l) e
    unfold table
    rw [e2, cells_append, take_next hi hS, cells_snoc, Int.toNat_natCast, hx, Int.toNat_natCast, List.append_assoc]
    rfl
  have hcl : (cells m l ((spread l (2 ^ m)).take i)).length = i := by rw [length_cells, List.length_take]; omega
  unfold rd_T45
  rw [Int.toNat_natCast, h1, List.map_append, List.getD_eq_getElem?_getD, List.getElem?_append_right (by rw [List.length_map, hcl]; exact Nat.le_refl _), List.length_map, hcl, Nat.sub_self]
  rfl
theorem cell_told {m x : Nat} (c : Nat) (hx0 : 0 < x) (hx1 : x < 2 ^ (m + 1)) : cellS (cellOf m (c : Int) x) = (⟨(c : Int), (bitsX m x : Int), (baseX m x : Int)⟩ : S45) ∧ bitsX m x ≤ m ∧ baseX m x + 2 ^ bitsX m x ≤ 2 ^ m := by
  have h1 := Nat.log2_self_le (n := x) (by omega)
  have h2 := Nat.lt_log2_self (n := x)
  have ht : Nat.log2 x ≤ m := by
    rcases Nat.lt_or_ge m (Nat.log2 x) with h | h
    · have : 2 ^ (m + 1) ≤ 2 ^ Nat.log2 x := Nat.pow_le_pow_right (by decide) h
      omega
    · exact h
  obtain ⟨a, b, d⟩ := cell_range ht h1 h2
  refine ⟨?_, by unfold bitsX; omega, d⟩
  unfold cellS cellOf
  have e : ((x * 2 ^ (m - Nat.log2 x) : Nat) : Int) - ((2 ^ m : Nat) : Int) = (baseX m x : Int) := by omega
  rw [e]; rfl

section
variable {l : List Int} {m : Nat} (hM : MayS l m) (cc : Nat) (hcc : cc < 65)
include hM hcc
/-- The state behind i places. -/
def inL (l : List Int) (m cc i : Nat) : List Int := covL m (l.getD cc 0).toNat (((spread l (2 ^ m)).take i).count (cc : Int))
theorem places_l1 (i c b base : Nat) (many inn : List Int) (hb : b ≤ m) (hin : inn.length = 2 ^ m) (hbs : base + 2 ^ b ≤ 2 ^ m) (hi : i < 2 ^ m) (T : List S45) (r : Bool) (hsm : ∀ n s, n ≤ 2 ^ b → 0 ≤ (addR inn base n).getD s 0 ∧ (addR inn base n).getD s 0 ≤ 10000)
    (hn : Ev (fun k => wringerlaw13_SpreadPlaces.l0 k l (m : Int) T ((2 ^ m : Nat) : Int) many (cc : Int) (addR inn base (2 ^ b)) ((i + 1 : Nat) : Int)) r) :
    ∀ (d j : Nat), j + d = 2 ^ b → Ev (fun k => wringerlaw13_SpreadPlaces.l1 k l (m : Int) T ((2 ^ m : Nat) : Int) many (cc : Int) (addR inn base j) (i : Int) (j : Int) (c : Int) (b : Int) (base : Int)) r := by
  have hp12 : 2 ^ m ≤ 4096 := by have := pow2_le m 12 hM.hi; omega
  have hs1 := shl_1 b (by have := hM.hi; omega)
  intro d
  induction d with
  | zero =>
    intro j hj
    refine Ev.step (fun k => ?_) hn
    simp only [wringerlaw13_SpreadPlaces.l1]
    rw [if_pos (by omega), hs1, if_neg (by omega), w64 (by omega) (by omega), show j = 2 ^ b by omega]; rfl
  | succ d ih =>
    intro j hj
    have h1 := hsm j (base + j) (by omega)
    refine Ev.step (fun k => ?_) (ih (j + 1) (by omega))
    simp only [wringerlaw13_SpreadPlaces.l1]
    have hl := length_addR inn base j
    have a1 : (0 : Int) ≤ ((base + j : Nat) : Int) := by omega
    have a2 : ((base + j : Nat) : Int) < ((addR inn base j).length : Int) := by omega
    have a3 : (j : Int) < ((2 ^ b : Nat) : Int) := by omega
    have e1 : wrap64 ((base : Int) + (j : Int)) = ((base + j : Nat) : Int) := by rw [w64 (by omega) (by omega)]; rfl
    have e2 : wrap64 ((addR inn base j).getD (base + j) 0 + 1) = (addR inn base j).getD (base + j) 0 + 1 := by clear e1; exact w64 (by omega) (by omega)
    have e3 : wrap64 ((j : Int) + 1) = ((j + 1 : Nat) : Int) := by clear e1 e2; rw [w64 (by omega) (by omega)]; rfl
    rw [if_pos (Int.natCast_nonneg _), hs1, if_pos a3, e1, if_pos a1, if_pos a2, rd_nat, e2, e3, Int.toNat_natCast]
    rfl
theorem inL_small (n s : Nat) (hr : (l.getD cc 0).toNat ≤ 2 ^ m) : ∀ n, n ≤ (l.getD cc 0).toNat → ∀ s, 0 ≤ (covL m (l.getD cc 0).toNat n).getD s 0 ∧ (covL m (l.getD cc 0).toNat n).getD s 0 ≤ (n : Int) := by
  generalize hrr : (l.getD cc 0).toNat = r at hr
  intro n
  induction n with
  | zero =>
    intro _ s
    have : (covL m r 0).getD s 0 = 0 := by
      simp only [covL, List.getD_eq_getElem?_getD, List.getElem?_replicate]
      split <;> rfl
    rw [this]; simp
  | succ n ih =>
    intro hn s
    have h0 := ih (by omega) s
    obtain ⟨_, _, hrange⟩ := cell_told (m := m) 0 (show 0 < r + n by omega) (by rw [Nat.pow_succ]; omega)
    rw [covL, addR_at _ _ _ (by rw [length_covL]; exact hrange) s]
    split <;> omega
theorem places_l0 : ∀ (d i : Nat), i + d = 2 ^ m → Ev (fun k => wringerlaw13_SpreadPlaces.l0 k l (m : Int) ((table l m).map cellS) ((2 ^ m : Nat) : Int) (manyL l m i) (cc : Int) (inL l m cc i) (i : Int)) true := by
  have hp12 : 2 ^ m ≤ 4096 := by have := pow2_le m 12 hM.hi; omega
  have hx := hM.each _ (getD_mem (show cc < l.length by rw [hM.len]; exact hcc))
  obtain ⟨r, hr⟩ := Int.eq_ofNat_of_zero_le hx.1
  have hr0 : (l.getD cc 0).toNat = r := by omega
  have hrm : r ≤ 2 ^ m := by omega
  have hsmall := inL_small hM cc hcc 0 0 (by omega)
  rw [hr0] at hsmall
  have hl65 := hM.len
  intro d
  induction d with
  | zero =>
    intro i hi
    have he : i = 2 ^ m := by omega
    subst he
    have hin : inL l m cc (2 ^ m) = covL m r r := by
      unfold inL; rw [List.take_of_length_le (by rw [length_spread]; exact Nat.le_refl _), hM.count cc hcc, hr0]
    rw [hin, manyL_end hM]
    have l2 : ∀ (d i : Nat), i + d = 2 ^ m → Ev (fun k => wringerlaw13_SpreadPlaces.l2 k l ((2 ^ m : Nat) : Int) l (cc : Int) (covL m r r) (i : Int)) true := by
      intro d
      induction d with
      | zero =>
        intro i hi
        refine Ev.step (f := fun k => (wringerref7_SameInts.f k l l).bind fun t289 => (if t289 = true then ((wringerlaw13_awake.f).bind fun t290 => (some t290)) else (some false))) (fun k => ?_) (Ev.bind (same_self l (by omega)) (Ev.ite_pos rfl (Ev.bind0 awake13 (Ev.now _))))
        simp only [wringerlaw13_SpreadPlaces.l2]
        rw [if_neg (by omega)]
      | succ d ih =>
        intro i hi
        refine Ev.step (fun k => ?_) (ih (i + 1) (by omega))
        simp only [wringerlaw13_SpreadPlaces.l2]
        have hcl := length_covL m r r
        rw [if_pos (by omega), if_pos (by omega), if_pos (by omega), rd_nat, rd_nat, hr, w64 (by omega) (by omega)]
        rcases Nat.eq_zero_or_pos r with h0 | h0
        · have : (covL m r r).getD i 0 = 0 := by
            subst h0
            simp only [covL, List.getD_eq_getElem?_getD, List.getElem?_replicate]
            split <;> rfl
          rw [this, if_neg (by decide), if_pos (by omega), if_pos (by omega), if_neg (by omega), if_pos rfl]; rfl
        · rw [cov_all m r h0 hrm i (by omega), if_pos rfl, if_neg (by decide), if_pos (by omega), if_pos (by omega), if_neg (by omega)]; rfl
    refine Ev.step (fun k => ?_) (l2 (2 ^ m) 0 (by omega))
    simp only [wringerlaw13_SpreadPlaces.l0]
    rw [if_neg (by omega)]; rfl
  | succ d ih =>
    intro i hi
    have ih := ih (i + 1) (by omega)
    obtain ⟨c, x, rc, hS, hc65, hnx, hx0, hx1, hrc, hxe, hcnt, hrcm⟩ := hM.next i (by omega)
    obtain ⟨hcell, hbm, hbs⟩ := cell_told (m := m) c hx0 hx1
    have htab := table_at (by omega) hS hnx
    have hlt : ((table l m).map cellS).length = 2 ^ m := by rw [List.length_map, length_table]
    have hml := length_manyL l m i
    have hmany := manyL_succ (by omega) hc65 hS
    have hm0 := manyL_at l m i c hc65
    have htk := take_next (by omega) hS
    have hcl : ((spread l (2 ^ m)).take i).count (c : Int) ≤ 4096 := by omega
    rw [hmany] at ih
    have h2b : 2 ^ bitsX m x ≤ 4096 := by omega
    have h2p : 0 < 2 ^ bitsX m x := Nat.pow_pos (by decide)
    have hwr : wrap64 (((baseX m x : Nat) : Int) + ((2 ^ bitsX m x : Nat) : Int)) = ((baseX m x : Nat) : Int) + ((2 ^ bitsX m x : Nat) : Int) := w64 (by omega) (by omega)
    have hs1 := shl_1 (bitsX m x) (by clear hwr; have := hM.hi; omega)
    obtain ⟨hwr0⟩ : Nonempty (PLift (wrap64 (((baseX m x : Nat) : Int) + ((2 ^ bitsX m x : Nat) : Int)) = ((baseX m x : Nat) : Int) + ((2 ^ bitsX m x : Nat) : Int))) := ⟨⟨hwr⟩⟩
    clear hwr
    -- behind the checks
    have key : Ev (fun k => wringerlaw13_SpreadPlaces.j2 k l (m : Int) ((table l m).map cellS) ((2 ^ m : Nat) : Int) (manyL l m i) (cc : Int) (inL l m cc i) (i : Int) false (c : Int) (bitsX m x : Int) (baseX m x : Int)) true := by
      by_cases hc : c = cc
      · subst hc
        have hrr : rc = r := by omega
        have hin : inL l m c (i + 1) = addR (inL l m c i) (baseX m x) (2 ^ bitsX m x) := by
          unfold inL
          rw [htk, List.count_append, hr0, show ([(c : Int)].count (c : Int)) = 1 by simp, covL, ← hrr, ← hxe]
        rw [hin] at ih
        have hl1 := places_l1 hM c hc65 i c (bitsX m x) (baseX m x) ((manyL l m i).set c ((manyL l m i).getD c 0 + 1)) (inL l m c i) hbm (by unfold inL; exact length_covL _ _ _) hbs (by omega) ((table l m).map cellS) true (fun n s hn => by
          have h1 := addR_at (inL l m c i) (baseX m x) n (by unfold inL; rw [length_covL]; omega) s
          rw [h1]
          have h2 := hsmall (((spread l (2 ^ m)).take i).count (c : Int)) (by omega) s
          unfold inL
          rw [hr0]
          split <;> omega) ih (2 ^ bitsX m x) 0 (by omega)
        refine Ev.step (fun k => ?_) hl1
        simp only [wringerlaw13_SpreadPlaces.j2, Option.bind_some]
        rw [if_neg (by decide), if_pos (by omega), if_pos (by omega), if_pos trivial, rd_nat, hm0, w64 (by omega) (by omega), Int.toNat_natCast]; rfl
      · have hin : inL l m cc (i + 1) = inL l m cc i := by
          unfold inL
          have e0 : ((c : Int) == (cc : Int)) = false := by rw [beq_eq_false_iff_ne]; omega
          rw [htk, List.count_append]; simp [List.count_cons, e0]
        rw [hin] at ih
        refine Ev.step (fun k => ?_) ih
        simp only [wringerlaw13_SpreadPlaces.j2, Option.bind_some]
        rw [if_neg (by decide), if_pos (by omega), if_pos (by omega), if_neg (by omega), rd_nat, hm0, w64 (x := (((spread l (2 ^ m)).take i).count (c : Int) : Int) + 1) (by omega) (by omega), w64 (by omega) (by omega), Int.toNat_natCast]; rfl
    refine Ev.step (fun k => ?_) key
    simp only [wringerlaw13_SpreadPlaces.l0]
    rw [htab, hcell]
    simp only
    rw [if_pos (by omega), if_pos (by omega), if_pos (by omega), if_neg (by omega), if_neg (by omega), if_neg (by omega), if_neg (by omega), if_neg (by omega), if_pos (by omega), hs1, hwr0.down]
    have hf : decide (((baseX m x : Nat) : Int) + ((2 ^ bitsX m x : Nat) : Int) > ((2 ^ m : Nat) : Int)) = false := by rw [decide_eq_false_iff_not]; omega
    rw [hf]
end
theorem SpreadPlaces : wringerlaw13_SpreadPlaces.Pure := by
  intro l0 a1 a2 _ _ hw ha hb
  apply Ev.rounds
  unfold wringerlaw13_SpreadPlaces.f
  by_cases hl : (l0.length : Int) > 140
  · exact Ev.ite_pos hl (Ev.bind0 awake13 (Ev.now _))
  · refine Ev.ite_neg hl ?_
    obtain ⟨f, m, hc, hf, h7, h12, _⟩ := counts_is l0 hw (by omega) a1 ha
    obtain ⟨v, rfl, hv⟩ := u8_at hb
    have hmay := norm_mayN hf h7 h12
    generalize normL f ((2 ^ m : Nat) : Int) = l at hc hmay
    have hM := mayS_of hmay
    have hp12 : 2 ^ m ≤ 4096 := by have := pow2_le m 12 h12; omega
    have hs1 := shl_1 m (by omega)
    refine Ev.bind hc (Ev.bind0 (a := tableE l (m : Int)) rfl ?_)
    rw [tableE_ok hmay]
    refine Ev.ite_pos (by omega) (Ev.bind0 (rfl : wringerlaw1_Err.f _ = some _) (Ev.ite_pos rfl ?_))
    have h0 := places_l0 hM (v % 65) (Nat.mod_lt _ (by decide)) (2 ^ m) 0 (by omega)
    refine Ev.step (fun k => ?_) h0
    simp only [wringerlaw13_SpreadPlaces.j0]
    have e : Int.tmod (v : Int) 65 = ((v % 65 : Nat) : Int) := tmod_nat v 65
    have em : manyL l m 0 = List.replicate 65 0 := by
      apply list_ext_getD
      · rw [length_manyL]; simp
      · intro c hc; rw [length_manyL] at hc; rw [manyL_at l m 0 c hc, List.getD_eq_getElem?_getD, List.getElem?_replicate, if_pos hc]; simp
    have ei : inL l m (v % 65) 0 = List.replicate (2 ^ m) 0 := by unfold inL; simp [covL]
    rw [if_neg (by rw [List.length_map, length_table, hs1]; simp), if_pos (by decide), hs1, if_pos (Int.natCast_nonneg _), Int.toNat_natCast, if_pos (by omega), w64 (x := (v : Int)) (by omega) (by omega), e, em, ei]; rfl
end Go.Proofs.Ytlconnmfceabiaa.Pure

-- ---- LawSpreadPlaces

namespace Go.Proofs.Ytlconnmfceabiaa.spreadPlaces
open Go.ChangeShapes Go.WideShapes Go.ChangeAt Go.RowKit
open Go.ChangeMaps (open_string shut_string)
set_option linter.unusedVariables false
theorem own : ownKnob Try.prog.godebug = none := by kernel_rfl
theorem laidOut : laidOutB Try.prog = true := by kernel_rfl
def IsRow (k : IntKind) (w : World) (a : Option Addr) (len cap : Nat) (zs : List Int) : Prop :=
  (a = none ∧ len = 0 ∧ cap = 0 ∧ zs = []) ∨
  ∃ x, a = some x ∧ len ≤ cap ∧ cap ≤ maxLen ∧ zs.length = cap ∧ (∀ i, i < zs.length → w.cell? (x.add i) = some (.int k (zs.getD i 0))) ∧ ∀ n ∈ zs, (Lit.int k n).wf = true
set_option maxRecDepth 100000 in
theorem lifted (os : Os) (started : os.Started) (H : Type) (enc : TypeId × Value → H) :
    ReturnsInHanded {} Try.checked os 5 .any (Rows.spreadPlacesSpec.pre6 enc Try.prog Try.f5 Rows.spreadPlacesRow.domain false) (Rows.spreadPlacesSpec.post enc Try.prog Try.f5 false true false false) := by
  refine returnsInHanded_of_change_sized (C := Try.checked) own started (by kernel_rfl) Try.func5
    (ChangeSpec.witness6 (enc := enc) (C := Try.checked) false ⟨#[], #[.slice none 0 0, .int .u8 0, .int .u8 0], []⟩ 8 (by kernel_rfl) (by kernel_rfl) (by kernel_rfl) (by kernel_rfl)) ?_
  intro W base args ds gs before hval0 hW hcnd hsz0 _
  have hsz : (DataW.weightsEach Try.prog (Try.f5.params.toList ++ Rows.spreadPlacesSpec.plain.varTypes Try.prog) (ds ++ gs)).all (· ≤ reachBytes) = true := hsz0
  have hval : ∀ (j : Nat) t v, Try.f5.params[j]? = some t → args[j]? = some v → Value.okWide Try.prog W .any base t v := hval0
  have hW' := hW
  obtain ⟨p, q, hA0, hV, rfl, hfz, hnd⟩ := hW
  have hA : DataW.TrodAll enc Try.prog W 0 (fun _ => true) true Try.f5.params.toList args.toList ds p := hA0
  rw [Try.params5] at hA hval hsz
  obtain ⟨v0, vs0, d0, ds0, p0, q0, hargs, rfl, rfl, h0, r0⟩ := trodAll_cons hA
  obtain ⟨v1, vs1, d1, ds1, p1, q1, rfl, rfl, rfl, h1, r1⟩ := trodAll_cons r0
  obtain ⟨v2, vs2, d2, ds2, p2, q2, rfl, rfl, rfl, h2, r2⟩ := trodAll_cons r1
  obtain ⟨rfl, rfl, rfl⟩ := trodAll_nil r2
  obtain rfl : args = #[v0, v1, v2] := by cases args; simp_all
  obtain ⟨rfl, rfl⟩ := trodVars_none hV
  obtain ⟨a0, len0, cap0, rfl⟩ := okWide_slice Try.underlying40 (hval 0 40 v0 rfl rfl)
  have k0 := h0
  have lt0 : ∀ x ∈ p0, x.block < W.heap.size := by obtain ⟨m, hm⟩ := k0; exact DataW.trod_lt m _ _ _ hm
  obtain ⟨z0, w0⟩ : ∃ zs, IsRow .u16 W a0 len0 cap0 zs := by
    obtain ⟨fuel, hf⟩ := h0
    rcases open_ints Try.underlying40 Try.underlying56 (by kernel_rfl) hf with ⟨hcs, _⟩ | ⟨x, l, c, zs, hcs, _, hl, hm, hz, _, hcell, hwz⟩
    · simp [Value.cells] at hcs
      obtain ⟨rfl, rfl, rfl⟩ := hcs
      exact ⟨[], .inl ⟨rfl, rfl, rfl, rfl⟩⟩
    · simp [Value.cells] at hcs
      obtain ⟨rfl, rfl, rfl⟩ := hcs
      exact ⟨zs, .inr ⟨_, rfl, hl, hm, by simpa using hz, hcell, hwz⟩⟩
  have y0 : len0 * 2 ≤ 140737488351232 := Go.Proofs.YtlconnmfceabiaaW.PrintWords.sized_ints hsz (j := 0) (t := 40) rfl rfl Try.underlying40 Try.underlying56 (by kernel_rfl) (by kernel_rfl) h0
  obtain ⟨a1, rfl, rfl, rfl, w1⟩ := open_int Try.underlying5 (hval 1 5 v1 rfl rfl) h1
  obtain ⟨a2, rfl, rfl, rfl, w2⟩ := open_int Try.underlying5 (hval 2 5 v2 rfl rfl) h2
  clear hA0 hval0 hsz0 hsz
  refine (PA.wringerlaw13_SpreadPlaces.walk Pure.SpreadPlaces a0 len0 cap0 z0 a1 a2 W w0 y0 w1 w2).mono fun e W' ⟨he, bel⟩ => ?_
  subst he
  exact ⟨_, rfl, _, _, _, [], _, [], hW', trodAll_mk1 (shut_bool Try.underlying4 _), (trodAll_cons_mk (Below.trod laidOut (by kernel_rfl) (of_decide_eq_true (by kernel_rfl)) k0 bel lt0) (trodAll_cons_mk (shut_int Try.underlying5 w1) (trodAll_cons_mk (shut_int Try.underlying5 w2) trodAll_mk0))), rfl, bel.frame _, fun h => by cases h⟩
theorem over : Rows.spreadPlacesRow.holds Try.pinned (OpenSpec.ofChange Rows.spreadPlacesSpec) :=
  OpenClaim.holds_of_wide 5 Try.f5 rfl rfl rfl rfl rfl rfl rfl ⟨rfl, rfl, rfl, rfl, rfl⟩ rfl rfl rfl rfl rfl (by kernel_rfl) Try.func5 (by kernel_rfl)
    (of_decide_eq_true (by kernel_rfl)) (by unfold Func.isWrapper; first | (rw [if_pos (by decide +kernel)]; kernel_rfl) | (rw [if_neg (by decide +kernel)]; exact ⟨rfl, rfl⟩))
    (fun os started H enc _ => lifted os started H enc)
theorem proved : Rows.SpreadPlacesSaid := over
#print axioms proved
end Go.Proofs.Ytlconnmfceabiaa.spreadPlaces
namespace Go.Proofs.Ytlconnmfceabiaa
/-- The row, under a short name, for the claim. -/
theorem spreadPlaces_holds : Rows.SpreadPlacesSaid := spreadPlaces.proved
end Go.Proofs.Ytlconnmfceabiaa
