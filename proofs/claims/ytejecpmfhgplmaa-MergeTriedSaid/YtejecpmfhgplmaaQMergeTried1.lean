/- Part MergeTried1 of what the layer's laws stand on: PAx31, PureMergeTried, LawMergeTried. Written by a program (merge.py) out of this session's own texts and of what the kit's print wrote over stand-ins (sp.py). Conditions: those that each theorem names. -/
import Derived.Test.YtejecpmfhgplmaaQB2
import Derived.Test.YtejecpmfhgplmaaQB3
import Derived.Laws.BitsLemmas
import Derived.Test.YtejecpmfhgplmaaRows
import Derived.WalkKit
import Derived.ProofKit
import Derived.OpenShut
import Derived.ShutString
import Derived.ChangeOld
import Derived.Below
import Derived.SizedLaws
import Derived.Test.YtejecpmfhgplmaaWSized
-- ---- PAx31

namespace Go.Proofs.Ytejecpmfhgplmaa.PA
open Go.RowKit Go.Proofs.YtejecpmfhgplmaaW.PrintWords Go.Proofs.YtejecpmfhgplmaaW.PrintLast Go.Proofs.YtejecpmfhgplmaaW.PrintMore
attribute [local go_sem] max2_int min2_int max_two min_two max_three min_three max_four min_four   -- for this text's walks alone
set_option linter.unusedVariables false
set_option linter.unusedSimpArgs false

/-! ### wringerlaw8_MergeTried: function 6 -/
mutual
def wringerlaw8_MergeTried.l0 : Nat → List Int → Int → Int → List Int → Int → Option (Bool)
  | 0, _, _, _, _, _ => none
  | k + 1, x0, x1, x5, x6, x7 => if x7 < x5 then (if 0 ≤ x7 then (if x7 < (x0.length : Int) then (if 0 ≤ (wrap64 (x7 * 7)) then (if (wrap64 (x7 * 7)) < (x6.length : Int) then (wringerlaw8_MergeTried.l0 k x0 x1 x5 (x6.set ((wrap64 (x7 * 7)) : Int).toNat (wrap64 (1 + (wrap64 (rd x0 x7))))) (wrap64 (x7 + 1))) else (none)) else (none)) else (none)) else (none)) else ((merge_Lengths.f x6 (wrap64 (7 + (Int.tmod (wrap64 (x1)) 9)))).bind fun bt327 => ((wringerlaw1_Err.f bt327.2).bind fun t331 => (if t331 = 0 then (wringerlaw8_MergeTried.j1 k x5 x6 bt327.1 ((bt327.1.length : Int) != 65)) else (wringerlaw8_MergeTried.j1 k x5 x6 bt327.1 true))))
def wringerlaw8_MergeTried.j1 : Nat → Int → List Int → List Int → Bool → Option (Bool)
  | 0, _, _, _, _ => none
  | k + 1, x5, x6, x8, x54 => if x54 = true then (some false) else (if x5 < 2 then ((merge_Cost.f x6 x8).bind fun t332 => (if 0 < (x6.length : Int) then (if t332 = (rd x6 0) then ((wringerlaw8_awake.f).bind fun t334 => (some t334)) else (some false)) else (none))) else ((merge_Cost.f x6 x8).bind fun t335 => (wringerlaw8_MergeTried.l1 k x5 x6 t335 1 0)))
def wringerlaw8_MergeTried.l1 : Nat → Int → List Int → Int → Int → Int → Option (Bool)
  | 0, _, _, _, _, _ => none
  | k + 1, x5, x6, x10, x11, x12 => if x12 < x5 then (wringerlaw8_MergeTried.l1 k x5 x6 x10 (wrap64 (x11 * 4)) (wrap64 (x12 + 1))) else (wringerlaw8_MergeTried.l2 k x5 x6 x10 x11 1099511627776 0)
def wringerlaw8_MergeTried.l2 : Nat → Int → List Int → Int → Int → Int → Int → Option (Bool)
  | 0, _, _, _, _, _, _ => none
  | k + 1, x5, x6, x10, x11, x13, x14 => if x14 < x11 then (wringerlaw8_MergeTried.l3 k x5 x6 x10 x11 x13 x14 0 0 0) else (if x13 = x10 then ((wringerlaw8_awake.f).bind fun t336 => (some t336)) else (some false))
def wringerlaw8_MergeTried.l3 : Nat → Int → List Int → Int → Int → Int → Int → Int → Int → Int → Option (Bool)
  | 0, _, _, _, _, _, _, _, _, _ => none
  | k + 1, x5, x6, x10, x11, x13, x14, x15, x16, x17 => if x17 < x5 then (if 0 ≤ (wrap64 (2 * x17)) then (if 0 ≤ (wrap64 ((Go.bits .and .i64 (shr .i64 x14 (wrap64 (2 * x17))) 3) + 1)) then (if 0 ≤ (wrap64 (x17 * 7)) then (if (wrap64 (x17 * 7)) < (x6.length : Int) then (wringerlaw8_MergeTried.l3 k x5 x6 x10 x11 x13 x14 (wrap64 (x15 + (shr .i64 16 (wrap64 ((Go.bits .and .i64 (shr .i64 x14 (wrap64 (2 * x17))) 3) + 1))))) (wrap64 (x16 + (wrap64 ((wrap64 ((Go.bits .and .i64 (shr .i64 x14 (wrap64 (2 * x17))) 3) + 1)) * (rd x6 (wrap64 (x17 * 7))))))) (wrap64 (x17 + 1))) else (none)) else (none)) else (none)) else (none)) else (if x15 = 16 then (wringerlaw8_MergeTried.l2 k x5 x6 x10 x11 (mn x13 x16) (wrap64 (x14 + 1))) else (wringerlaw8_MergeTried.l2 k x5 x6 x10 x11 x13 (wrap64 (x14 + 1))))
end
def wringerlaw8_MergeTried.f (k : Nat) (l0 : List Int) (a1 : Int) : Option (Bool) := if 65 ≤ 35184372088832 then (wringerlaw8_MergeTried.l0 k l0 a1 (mn (l0.length : Int) 5) (List.replicate 65 0) 0) else (none)
theorem wringerlaw8_MergeTried.mono_l : ∀ k, (∀ y0 y1 y2 y3 y4, LeO (wringerlaw8_MergeTried.l0 k y0 y1 y2 y3 y4) (wringerlaw8_MergeTried.l0 (k + 1) y0 y1 y2 y3 y4)) ∧ (∀ y0 y1 y2 y3, LeO (wringerlaw8_MergeTried.j1 k y0 y1 y2 y3) (wringerlaw8_MergeTried.j1 (k + 1) y0 y1 y2 y3)) ∧ (∀ y0 y1 y2 y3 y4, LeO (wringerlaw8_MergeTried.l1 k y0 y1 y2 y3 y4) (wringerlaw8_MergeTried.l1 (k + 1) y0 y1 y2 y3 y4)) ∧ (∀ y0 y1 y2 y3 y4 y5, LeO (wringerlaw8_MergeTried.l2 k y0 y1 y2 y3 y4 y5) (wringerlaw8_MergeTried.l2 (k + 1) y0 y1 y2 y3 y4 y5)) ∧ (∀ y0 y1 y2 y3 y4 y5 y6 y7 y8, LeO (wringerlaw8_MergeTried.l3 k y0 y1 y2 y3 y4 y5 y6 y7 y8) (wringerlaw8_MergeTried.l3 (k + 1) y0 y1 y2 y3 y4 y5 y6 y7 y8))
  | 0 => ⟨fun _ _ _ _ _ r h => by simp [wringerlaw8_MergeTried.l0] at h, fun _ _ _ _ r h => by simp [wringerlaw8_MergeTried.j1] at h, fun _ _ _ _ _ r h => by simp [wringerlaw8_MergeTried.l1] at h, fun _ _ _ _ _ _ r h => by simp [wringerlaw8_MergeTried.l2] at h, fun _ _ _ _ _ _ _ _ _ r h => by simp [wringerlaw8_MergeTried.l3] at h⟩
  | k + 1 => by
    obtain ⟨ih0, ih1, ih2, ih3, ih4⟩ := wringerlaw8_MergeTried.mono_l k
    refine ⟨?_, ?_, ?_, ?_, ?_⟩
    · intro y0 y1 y2 y3 y4
      unfold wringerlaw8_MergeTried.l0
      repeat' first
      | (with_reducible exact ih0 _ _ _ _ _)
      | (with_reducible exact ih1 _ _ _ _)
      | (with_reducible exact ih2 _ _ _ _ _)
      | (with_reducible exact ih3 _ _ _ _ _ _)
      | (with_reducible exact ih4 _ _ _ _ _ _ _ _ _)
      | (with_reducible exact LeO.refl _)
      | (with_reducible exact LeO.none _)
      | (with_reducible refine LeO.ite ?_ ?_)
      | (with_reducible refine LeO.bind ?_ (fun _ => ?_))
      | exact ih0 _ _ _ _ _
      | exact ih1 _ _ _ _
      | exact ih2 _ _ _ _ _
      | exact ih3 _ _ _ _ _ _
      | exact ih4 _ _ _ _ _ _ _ _ _
      | exact LeO.none _
      | refine LeO.ite ?_ ?_
      | refine LeO.bind ?_ (fun _ => ?_)
    · intro y0 y1 y2 y3
      unfold wringerlaw8_MergeTried.j1
      repeat' first
      | (with_reducible exact ih0 _ _ _ _ _)
      | (with_reducible exact ih1 _ _ _ _)
      | (with_reducible exact ih2 _ _ _ _ _)
      | (with_reducible exact ih3 _ _ _ _ _ _)
      | (with_reducible exact ih4 _ _ _ _ _ _ _ _ _)
      | (with_reducible exact LeO.refl _)
      | (with_reducible exact LeO.none _)
      | (with_reducible refine LeO.ite ?_ ?_)
      | (with_reducible refine LeO.bind ?_ (fun _ => ?_))
      | exact ih0 _ _ _ _ _
      | exact ih1 _ _ _ _
      | exact ih2 _ _ _ _ _
      | exact ih3 _ _ _ _ _ _
      | exact ih4 _ _ _ _ _ _ _ _ _
      | exact LeO.none _
      | refine LeO.ite ?_ ?_
      | refine LeO.bind ?_ (fun _ => ?_)
    · intro y0 y1 y2 y3 y4
      unfold wringerlaw8_MergeTried.l1
      repeat' first
      | (with_reducible exact ih0 _ _ _ _ _)
      | (with_reducible exact ih1 _ _ _ _)
      | (with_reducible exact ih2 _ _ _ _ _)
      | (with_reducible exact ih3 _ _ _ _ _ _)
      | (with_reducible exact ih4 _ _ _ _ _ _ _ _ _)
      | (with_reducible exact LeO.refl _)
      | (with_reducible exact LeO.none _)
      | (with_reducible refine LeO.ite ?_ ?_)
      | (with_reducible refine LeO.bind ?_ (fun _ => ?_))
      | exact ih0 _ _ _ _ _
      | exact ih1 _ _ _ _
      | exact ih2 _ _ _ _ _
      | exact ih3 _ _ _ _ _ _
      | exact ih4 _ _ _ _ _ _ _ _ _
      | exact LeO.none _
      | refine LeO.ite ?_ ?_
      | refine LeO.bind ?_ (fun _ => ?_)
    · intro y0 y1 y2 y3 y4 y5
      unfold wringerlaw8_MergeTried.l2
      repeat' first
      | (with_reducible exact ih0 _ _ _ _ _)
      | (with_reducible exact ih1 _ _ _ _)
      | (with_reducible exact ih2 _ _ _ _ _)
      | (with_reducible exact ih3 _ _ _ _ _ _)
      | (with_reducible exact ih4 _ _ _ _ _ _ _ _ _)
      | (with_reducible exact LeO.refl _)
      | (with_reducible exact LeO.none _)
      | (with_reducible refine LeO.ite ?_ ?_)
      | (with_reducible refine LeO.bind ?_ (fun _ => ?_))
      | exact ih0 _ _ _ _ _
      | exact ih1 _ _ _ _
      | exact ih2 _ _ _ _ _
      | exact ih3 _ _ _ _ _ _
      | exact ih4 _ _ _ _ _ _ _ _ _
      | exact LeO.none _
      | refine LeO.ite ?_ ?_
      | refine LeO.bind ?_ (fun _ => ?_)
    · intro y0 y1 y2 y3 y4 y5 y6 y7 y8
      unfold wringerlaw8_MergeTried.l3
      repeat' first
      | (with_reducible exact ih0 _ _ _ _ _)
      | (with_reducible exact ih1 _ _ _ _)
      | (with_reducible exact ih2 _ _ _ _ _)
      | (with_reducible exact ih3 _ _ _ _ _ _)
      | (with_reducible exact ih4 _ _ _ _ _ _ _ _ _)
      | (with_reducible exact LeO.refl _)
      | (with_reducible exact LeO.none _)
      | (with_reducible refine LeO.ite ?_ ?_)
      | (with_reducible refine LeO.bind ?_ (fun _ => ?_))
      | exact ih0 _ _ _ _ _
      | exact ih1 _ _ _ _
      | exact ih2 _ _ _ _ _
      | exact ih3 _ _ _ _ _ _
      | exact ih4 _ _ _ _ _ _ _ _ _
      | exact LeO.none _
      | refine LeO.ite ?_ ?_
      | refine LeO.bind ?_ (fun _ => ?_)
theorem wringerlaw8_MergeTried.mono : ∀ a0 a1 k, LeO (wringerlaw8_MergeTried.f k a0 a1) (wringerlaw8_MergeTried.f (k + 1) a0 a1) := by
  intro a0 a1 k
  obtain ⟨ih0, ih1, ih2, ih3, ih4⟩ := wringerlaw8_MergeTried.mono_l k
  unfold wringerlaw8_MergeTried.f
  repeat' first
      | (with_reducible exact ih0 _ _ _ _ _)
      | (with_reducible exact ih1 _ _ _ _)
      | (with_reducible exact ih2 _ _ _ _ _)
      | (with_reducible exact ih3 _ _ _ _ _ _)
      | (with_reducible exact ih4 _ _ _ _ _ _ _ _ _)
      | (with_reducible exact LeO.refl _)
      | (with_reducible exact LeO.none _)
      | (with_reducible refine LeO.ite ?_ ?_)
      | (with_reducible refine LeO.bind ?_ (fun _ => ?_))
      | exact ih0 _ _ _ _ _
      | exact ih1 _ _ _ _
      | exact ih2 _ _ _ _ _
      | exact ih3 _ _ _ _ _ _
      | exact ih4 _ _ _ _ _ _ _ _ _
      | exact LeO.none _
      | refine LeO.ite ?_ ?_
      | refine LeO.bind ?_ (fun _ => ?_)
def wringerlaw8_MergeTried.T11 : Bool × List (List Nat × List Nat) := (true, [([], []), ([], []), ([0, 1], [0, 1]), ([], []), ([3], [3]), ([4], [4]), ([2, 5], [2, 5]), ([6, 2], [6]), ([7, 7], [7]), ([7, 8], [7, 8]), ([9, 8, 0, 1, 2, 3, 4, 5, 6, 7, 8, 9], [9])])
def wringerlaw8_MergeTried.B11 : List Nat := [0, 0, 3, 0, 8, 24, 63, 127, 255, 511, 1023]
theorem wringerlaw8_MergeTried.tab11 : rtab .any (opsOf Try.f6 11) = wringerlaw8_MergeTried.T11 := by kernel_rfl
theorem wringerlaw8_MergeTried.bits11 : waitsOk wringerlaw8_MergeTried.T11.2 wringerlaw8_MergeTried.B11 = true := by kernel_rfl
set_option maxHeartbeats 8000000 in
set_option maxRecDepth 100000 in
theorem wringerlaw8_MergeTried.calls (k : Nat) (A0 : Option Addr) (c0 : Nat) (l0 : List Int) (a1 : Int) (r : Bool) (w : World) (hr0 : Kd.C (Kd.int .u8) w A0 l0.length l0) (hc0 : l0.length ≤ c0) (h : wringerlaw8_MergeTried.f k l0 a1 = some r) :
    Calls Try.prog 6 #[.slice A0 l0.length c0, .int .u8 a1] w fun e w' => e = .returned (.bool r) ∧ Below w.heap.size w w' := by
  have HR0 := Aside0.mk hr0
  have HC0 := Aside0.mk hc0
  clear hr0 hc0
  have HB := Aside0.mk (Below.refl w.heap.size w)
  have H : (if 65 ≤ 35184372088832 then (wringerlaw8_MergeTried.l0 k l0 a1 (mn (l0.length : Int) 5) (List.replicate 65 0) 0) else (none)) = some r := h
  clear h
  obtain ⟨ji3, hji3⟩ : ∃ j_ : Int, (mn (l0.length : Int) 5) = j_ := ⟨_, rfl⟩
  replace H : (if 65 ≤ 35184372088832 then (wringerlaw8_MergeTried.l0 k l0 a1 ji3 (List.replicate 65 0) 0) else (none)) = some r := by first | (rw [hji3] at H; exact H) | (simp only [hji3] at H ⊢; exact H)
  (try (have hji3h : ji3 ≤ 5 := by (rw [← hji3]; unfold mn; (repeat' split) <;> omega)))
  (try (have hji3g : ji3 ≤ 64 := by omega))
  (try (have hji3l : 0 ≤ ji3 := by (rw [← hji3]; unfold mn; (repeat' split) <;> omega)))
  (try (have hji3m : 0 ≤ ji3 := by omega))
  have hji3_ : (if 5 < (l0.length : Int) then 5 else (l0.length : Int)) = ji3 := hji3
  by_cases c4 : 65 ≤ 35184372088832
  · rw [if_pos c4] at H
    have c4b0 := eq_true c4
    have c4b1 : decide (65 ≤ 35184372088832) = true := decide_eq_true c4
    clear c4
    obtain ⟨y322, hy322⟩ : ∃ y_ : List Int, y_ = (List.replicate 65 0) := ⟨_, rfl⟩
    replace H : (wringerlaw8_MergeTried.l0 k l0 a1 ji3 y322 0) = some r := by first | (rw [hy322]; with_reducible exact H) | (have H2_ := (Option.bind_some _ _).symm.trans H; rw [hy322]; with_reducible exact H2_) | (have H2_ := (Option.bind_some _ _).symm.trans H; with_reducible exact H2_) | with_reducible exact H | (rw [hy322]; exact H) | exact H
    have Ny322 := Aside0.mk hy322
    clear hy322
    have H' := Aside0.mk H
    clear H
    go_enter Try.func6, Try.ntmps6
    go_wp2_with (first | ((with_reducible refine gate_dst (N := 22) rfl ?_); (try (refine gate_guard (by rfl) ?_; dsimp only)); refine Kd.R_make (Kd.int .i64) _ 3 rfl (N := 22) rfl 22 _ _ rfl 65 rfl rfl Try.underlying22 (.int .i64 0) 8 info3 rfl (by decide) (by omega) 0 (ok := fun _ => True) (okp := fun _ => True) rfl (fun _ hk => hk) trivial (by omega) (by omega) (Below.refl _ _) (Nat.le_refl _) ?_; intro v323 w5 ho6 hb hg_ hnew_; clear hg_ hnew_; (first | rw [← Ny322.out] at ho6 | (simp only [Int.reduceToNat] at ho6; rw [← Ny322.out] at ho6)); have n0_ := Aside0.mk (Kd.R_lower ho6 (below_size (by repeat (first | (with_reducible first | exact HB.out | apply below_alloc | apply pw_below_drewN | apply below_drew1) | exact HB.out)))); have n1_ := Aside0.mk (below_step (by repeat (first | (with_reducible first | exact HB.out | apply below_alloc | apply pw_below_drewN | apply below_drew1) | exact HB.out)) hb); clear HB; have HO324 := n0_; have HB := n1_; clear n0_ n1_; clear hb ho6))
    go_loopg [7] k (fun kq v7 w' => ∃ (x6_1 : List Int) (x7_1 : Int), v7 = .int .i64 x7_1 ∧ Aside0 (wringerlaw8_MergeTried.l0 kq l0 a1 ji3 x6_1 x7_1 = some r) ∧ Aside0 (kq ≤ k) ∧ Aside0 (Kd.R (Kd.int .i64) 3 w' w.heap.size (fun _ => True) v323 x6_1) ∧ Aside0 (Below w.heap.size w w'))
    case atStart => exact ⟨(y322), (0), (by first | rfl | (simp; done) | (simp [*]; done)), H', ⟨Nat.le_refl _⟩, ⟨by (with_reducible repeat (first | apply Kd.R_alloc | apply Kd.R_drewN | apply Kd.R_drew)); exact HO324.out⟩, ⟨by repeat (first | (with_reducible first | exact HB.out | apply below_alloc | apply pw_below_drewN | apply below_drew1) | exact HB.out)⟩⟩
    case round =>
      clear H'
      try clear p2
      try clear c4
      try clear c4b0
      try clear c4b1
      try clear c6
      obtain ⟨x6_1, x7_1, rfl, HA, HK1, HO_6, HB⟩ := hrel
      cases gk with
      | zero => exact absurd HA.out (by simp [wringerlaw8_MergeTried.l0])
      | succ k1 =>
        have H := HA.out
        clear HA
        simp only [wringerlaw8_MergeTried.l0] at H
        by_cases c7 : x7_1 < ji3
        · rw [if_pos c7] at H
          have c7b0 : decide (x7_1 < ji3) = true := decide_eq_true c7
          clear c7
          by_cases c8 : 0 ≤ x7_1
          · rw [if_pos c8] at H
            have c8b0 : decide (0 ≤ x7_1) = true := decide_eq_true c8
            clear c8
            by_cases c9 : x7_1 < (l0.length : Int)
            · rw [if_pos c9] at H
              have c9b0 : decide (x7_1 < (l0.length : Int)) = true := decide_eq_true c9
              clear c9
              obtain ⟨ji10, hji10⟩ : ∃ j_ : Int, (wrap64 (x7_1 * 7)) = j_ := ⟨_, rfl⟩
              replace H : (if 0 ≤ (ji10) then (if (ji10) < (x6_1.length : Int) then (wringerlaw8_MergeTried.l0 k1 l0 a1 ji3 (x6_1.set ((ji10) : Int).toNat (wrap64 (1 + (wrap64 (rd l0 x7_1))))) (wrap64 (x7_1 + 1))) else (none)) else (none)) = some r := by first | (rw [hji10] at H; exact H) | (simp only [hji10] at H ⊢; exact H)
              have hji10w : (IntKind.i64.wrap (x7_1 * 7)) = ji10 := (i64_w _).trans hji10
              by_cases c11 : 0 ≤ (ji10)
              · rw [if_pos c11] at H
                have c11b0 : decide (0 ≤ (ji10)) = true := decide_eq_true c11
                clear c11
                by_cases c12 : (ji10) < (x6_1.length : Int)
                · rw [if_pos c12] at H
                  have c12b0 : decide ((ji10) < (x6_1.length : Int)) = true := decide_eq_true c12
                  clear c12
                  obtain ⟨y326, hy326⟩ : ∃ y_ : List Int, y_ = (x6_1.set ((ji10) : Int).toNat (wrap64 (1 + (wrap64 (rd l0 x7_1))))) := ⟨_, rfl⟩
                  replace H : (wringerlaw8_MergeTried.l0 k1 l0 a1 ji3 y326 (wrap64 (x7_1 + 1))) = some r := by first | (rw [hy326]; with_reducible exact H) | (have H2_ := (Option.bind_some _ _).symm.trans H; rw [hy326]; with_reducible exact H2_) | (have H2_ := (Option.bind_some _ _).symm.trans H; with_reducible exact H2_) | with_reducible exact H | (rw [hy326]; exact H) | exact H
                  have Ny326 := Aside0.mk hy326
                  clear hy326
                  have H' := Aside0.mk H
                  clear H
                  have p325 : 0 ≤ (x7_1 : Int) := of_decide_eq_true (by first | (with_reducible assumption) | assumption)
                  have q325 : x7_1 < (l0.length : Int) := of_decide_eq_true (by first | (with_reducible assumption) | assumption)
                  obtain ⟨ad325, e325, hx325_0⟩ := Kd.at_int HR0.out x7_1 p325 q325
                  cases e325
                  replace hx325_0 := (HB.out.cell (World.block_lt_of_cell? w _ hx325_0)).trans hx325_0
                  replace p325 := eq_true p325
                  replace q325 := eq_true q325
                  have p13 : 0 ≤ ((ji10) : Int) := of_decide_eq_true (by first | (with_reducible assumption) | assumption)
                  have q13 : ((ji10) : Int) < ((x6_1.length : Int) : Int) := of_decide_eq_true (by first | (with_reducible assumption) | assumption)
                  obtain ⟨go13, co13, eo13, gb13, gl13, cl13, HG13⟩ := Kd.R_form HO_6.out (by omega)
                  (first | cases eo13 | (injection eo13 with ea_ en_ ec_; (first | subst ea_ | (injection ea_ with ea_; subst ea_)); subst ec_; clear en_))
                  have GB13 := Aside0.mk gb13
                  have GG13 := Aside0.mk HG13
                  clear gb13 gl13 HG13
                  obtain ⟨hx13_0, hf13_0⟩ := Kd.R_celln 0 HO_6.out ((ji10) : Int) p13 q13
                  replace p13 := eq_true p13
                  replace q13 := eq_true q13
                  have HP14 := Kd.R_putg HO_6.out ((ji10) : Int) (wrap64 (1 + (wrap64 (rd l0 x7_1))))
                  go_wp2_with (first | ((with_reducible refine gate_store (t := 3) (p := 37) rfl ?_); refine store_event (t := 3) (p := 37) (v := ?vo_w15) (w1 := (wr.setCell ⟨go13, ((ji10) : Int).toNat, none⟩ (.int .i64 (wrap64 (1 + (wrap64 (rd l0 x7_1))))))) ?hg ?ho ?hn ?hr ?_; (case ho => rfl); (case hg => rfl); (case hn => rfl); (case hr => first | (go_simp; done) | (go_simp; rfl)); intro w15 hw; have hg : wr.grownBy w15 (some go13) := (by rw [hw]; exact HP14.2); have hp_ : Kd.R (Kd.int .i64) 3 w15 w.heap.size (fun _ => True) (.slice (some ⟨go13, 0, none⟩) x6_1.length co13) y326 := (by rw [hw, Ny326.out]; exact HP14.1); clear HP14; have n0_ := Aside0.mk (hp_); have n1_ := Aside0.mk ((by rw [hw]; exact below_set (HB.out) GB13.out : Below w.heap.size w w15)); clear HO_6; clear HB; have HO_6 := n0_; have HB := n1_; clear n0_ n1_; clear hg hw hp_))
                  go_roundg k1
                  case measure => have := HK1.out; omega
                  case rel => exact ⟨(y326), (wrap64 (x7_1 + 1)), (by first | rfl | (simp; done) | (simp [*]; done)), H', ⟨by have := HK1.out; omega⟩, ⟨by (with_reducible repeat (first | apply Kd.R_alloc | apply Kd.R_drewN | apply Kd.R_drew)); exact HO_6.out⟩, ⟨by repeat (first | (with_reducible first | exact HB.out | apply below_alloc | apply pw_below_drewN | apply below_drew1) | exact HB.out)⟩⟩
                · rw [if_neg c12] at H
                  exact absurd H (by simp)
              · rw [if_neg c11] at H
                exact absurd H (by simp)
            · rw [if_neg c9] at H
              exact absurd H (by simp)
          · rw [if_neg c8] at H
            exact absurd H (by simp)
        · rw [if_neg c7] at H
          have c7b0 : decide (x7_1 < ji3) = false := decide_eq_false c7
          clear c7
          replace H := Option.bind_eq_some_iff.mp H
          obtain ⟨⟨t327, t328⟩, A160, H⟩ := H
          replace H : ((wringerlaw1_Err.f t328).bind fun t331 => (if t331 = 0 then (wringerlaw8_MergeTried.j1 k1 ji3 x6_1 t327 ((t327.length : Int) != 65)) else (wringerlaw8_MergeTried.j1 k1 ji3 x6_1 t327 true))) = some r := H
          have A16 := Aside0.mk A160
          clear A160
          have HC17 := Aside0.mk H
          clear H
          obtain ⟨Ao18, co18, eo18⟩ := Kd.R_slice HO_6.out
          subst eo18
          go_upto_region 8 with (first | ((with_reducible refine gate_callee (f := 11) rfl ?_); refine goesL_ (some 44) rfl rfl Try.func11 (by kernel_rfl) rfl #[.slice Ao18 x6_1.length co18, .int .i64 (wrap64 (7 + (Int.tmod (wrap64 (a1)) 9)))] rfl (by (try simp only [List.map_toArray, List.map_cons, List.map_nil]); first | done | rfl | (simp only [List.length_drop, List.length_take]; rfl)) ?_; (with_reducible refine (merge_Lengths.calls _ _ x6_1 (wrap64 (7 + (Int.tmod (wrap64 (a1)) 9))) t327 t328 _ ?side1 ?side2 A16.out).mono ?_); (case side1 => repeat (first | exact (Kd.R_reads' HO_6.out).2.2 | (with_reducible refine Kd.C_alloc ?_ _) | (with_reducible refine Kd.C_drewN ?_ _) | (with_reducible refine Kd.C_drew ?_))); (case side2 => exact (Kd.R_reads' HO_6.out).2.1); rintro e w19 ⟨v329, rfl, ho0, hb⟩; refine ⟨_, rfl, ?_⟩; have n0_ := Aside0.mk (Kd.R_elder' (by (with_reducible repeat (first | apply Kd.R_alloc | apply Kd.R_drewN | apply Kd.R_drew)); exact HO_6.out) (Kd.R_base ho0) hb); have n1_ := Aside0.mk (Kd.R_lower (Kd.R_new' ho0 (Kd.R_lt (by (with_reducible repeat (first | apply Kd.R_alloc | apply Kd.R_drewN | apply Kd.R_drew)); exact HO_6.out))) (below_size (by repeat (first | (with_reducible first | exact HB.out | apply below_alloc | apply pw_below_drewN | apply below_drew1) | exact HB.out)))); have n2_ := Aside0.mk (below_step (by repeat (first | (with_reducible first | exact HB.out | apply below_alloc | apply pw_below_drewN | apply below_drew1) | exact HB.out)) hb); clear HO_6; clear HB; have HO_6 := n0_; have HO330 := n1_; have HB := n2_; clear n0_ n1_ n2_; (try clear hb); (try clear hb2); (try clear hk); (try clear hi); (try clear ho0)))
          (try simp only [Act.put, List.setIfInBounds_toArray, List.set_cons_zero, List.set_cons_succ])
          go_cut [54] (fun v54 wc => ∃ (kq : Nat) (x54_16 : Bool), v54 = .bool x54_16 ∧ Aside0 (wringerlaw8_MergeTried.j1 kq ji3 x6_1 t327 x54_16 = some r) ∧ Aside0 (kq ≤ k1) ∧ Aside0 (Kd.R (Kd.int .i64) 3 wc w.heap.size (fun k_ => some k_ ≠ (v329 : Value).ownBlock) (.slice Ao18 x6_1.length co18) x6_1) ∧ Aside0 (Kd.R (Kd.int .i64) 3 wc w.heap.size (fun k_ => some k_ ≠ ((.slice Ao18 x6_1.length co18) : Value).ownBlock) v329 t327) ∧ Aside0 (Below w.heap.size w wc))
          case first =>
            have H := HC17.out
            clear HC17
            replace H := Option.bind_eq_some_iff.mp H
            obtain ⟨t331, A200, H⟩ := H
            replace H : (if t331 = 0 then (wringerlaw8_MergeTried.j1 k1 ji3 x6_1 t327 ((t327.length : Int) != 65)) else (wringerlaw8_MergeTried.j1 k1 ji3 x6_1 t327 true)) = some r := H
            have A20 := Aside0.mk A200
            clear A200
            by_cases c21 : t331 = 0
            · rw [if_pos c21] at H
              have c21b0 : (t331 == 0) = true := beq_iff_eq.mpr c21
              have c21b1 : (t331 != 0) = false := bne_eq_false_iff_eq.mpr c21
              clear c21
              (first | rw [c21b0] | (simp only [i64_w, i32_w]; rw [c21b0]) | skip)
              have H' := Aside0.mk H
              clear H
              go_wp2_with (first | ((with_reducible refine gate_callee (f := 14) rfl ?_); refine goesL_ (some 48) rfl rfl Try.func14 (by kernel_rfl) rfl #[.int .i64 t328] rfl (by (try simp only [List.map_toArray, List.map_cons, List.map_nil]); first | done | rfl | (simp only [List.length_drop, List.length_take]; rfl)) ?_; (with_reducible refine (wringerlaw1_Err.calls t328 t331 _ A20.out).mono ?_); rintro e w' ⟨rfl, ⟨nd, rfl⟩⟩; refine ⟨_, rfl, ?_⟩; obtain ⟨Ao22, co22, eo22⟩ := Kd.R_slice HO330.out; subst eo22))
              go_meet
              case rel => exact ⟨_, (((t327.length : Int) != 65)), (by first | rfl | (simp; done) | (simp [*]; done)), H', ⟨by have := HK1.out; first | omega | exact Nat.le_refl _⟩, ⟨by (with_reducible repeat (first | apply Kd.R_alloc | apply Kd.R_drewN | apply Kd.R_drew)); exact Kd.R_mono HO_6.out (fun _ hk => hk.2)⟩, ⟨by (with_reducible repeat (first | apply Kd.R_alloc | apply Kd.R_drewN | apply Kd.R_drew)); exact Kd.R_mono HO330.out (fun _ hk => hk.2)⟩, ⟨by repeat (first | (with_reducible first | exact HB.out | apply below_alloc | apply pw_below_drewN | apply below_drew1) | exact HB.out)⟩⟩
            · rw [if_neg c21] at H
              have c21b0 : (t331 == 0) = false := beq_eq_false_iff_ne.mpr c21
              have c21b1 : (t331 != 0) = true := bne_iff_ne.mpr c21
              (first | rw [c21b0] | (simp only [i64_w, i32_w]; rw [c21b0]) | skip)
              have H' := Aside0.mk H
              clear H
              go_wp2_with (first | ((with_reducible refine gate_callee (f := 14) rfl ?_); refine goesL_ (some 48) rfl rfl Try.func14 (by kernel_rfl) rfl #[.int .i64 t328] rfl (by (try simp only [List.map_toArray, List.map_cons, List.map_nil]); first | done | rfl | (simp only [List.length_drop, List.length_take]; rfl)) ?_; (with_reducible refine (wringerlaw1_Err.calls t328 t331 _ A20.out).mono ?_); rintro e w' ⟨rfl, ⟨nd, rfl⟩⟩; refine ⟨_, rfl, ?_⟩))
              go_meet
              case rel => exact ⟨_, (true), (by first | rfl | (simp; done) | (simp [*]; done)), H', ⟨by have := HK1.out; first | omega | exact Nat.le_refl _⟩, ⟨by (with_reducible repeat (first | apply Kd.R_alloc | apply Kd.R_drewN | apply Kd.R_drew)); exact Kd.R_mono HO_6.out (fun _ hk => hk.2)⟩, ⟨by (with_reducible repeat (first | apply Kd.R_alloc | apply Kd.R_drewN | apply Kd.R_drew)); exact Kd.R_mono HO330.out (fun _ hk => hk.2)⟩, ⟨by repeat (first | (with_reducible first | exact HB.out | apply below_alloc | apply pw_below_drewN | apply below_drew1) | exact HB.out)⟩⟩
          case rest =>
            clear HC17
            try clear c1
            try clear p1
            try clear q1
            try clear hx1
            try clear c2
            try clear p2
            try clear p3
            try clear q3
            try clear hx3
            try clear c4
            try clear c4b0
            try clear c4b1
            try clear c6
            try clear p6
            try clear c7
            try clear c7b0
            try clear c8
            try clear c8b0
            try clear c9
            try clear c9b0
            try clear c11
            try clear c11b0
            try clear c12
            try clear c12b0
            try clear p13
            try clear q13
            try clear hx13
            try clear hf13
            try clear c14
            try clear c21
            try clear c21b0
            try clear c21b1
            try clear hx13_0
            try clear hx325_0
            try clear p13
            try clear p2
            try clear p325
            try clear q13
            try clear q325
            obtain ⟨kq, x54_16, rfl, HA, HJ16, HO_6, HO_8, HB⟩ := hcut
            cases kq with
            | zero => exact absurd HA.out (by simp [wringerlaw8_MergeTried.j1])
            | succ kj16 =>
              have H := HA.out
              clear HA
              simp only [wringerlaw8_MergeTried.j1] at H
              by_cases c23 : x54_16 = true
              · subst c23
                have H1 : (some false) = some r := by rw [if_pos rfl] at H; exact H
                clear H
                have H := H1
                clear H1
                obtain rfl := Option.some.inj H
                go_wp2
                go_ret
                exact ⟨by first | rfl | (simp [errW_none, errW_some] <;> rfl) | (simp only [← hji3]; first | rfl | (simp [errW_none, errW_some] <;> rfl)) | (simp [*, errW_none, errW_some] <;> rfl), by repeat (first | (with_reducible first | exact HB.out | apply below_alloc | apply pw_below_drewN | apply below_drew1) | exact HB.out)⟩
              · replace c23 := Bool.eq_false_iff.mpr c23
                subst c23
                have H1 : (if ji3 < 2 then ((merge_Cost.f x6_1 t327).bind fun t332 => (if 0 < (x6_1.length : Int) then (if t332 = (rd x6_1 0) then ((wringerlaw8_awake.f).bind fun t334 => (some t334)) else (some false)) else (none))) else ((merge_Cost.f x6_1 t327).bind fun t335 => (wringerlaw8_MergeTried.l1 kj16 ji3 x6_1 t335 1 0))) = some r := by rw [if_neg (show ¬ (false = true) by decide)] at H; exact H
                clear H
                have H := H1
                clear H1
                by_cases c24 : ji3 < 2
                · rw [if_pos c24] at H
                  have c24b0 : decide (ji3 < 2) = true := decide_eq_true c24
                  clear c24
                  replace H := Option.bind_eq_some_iff.mp H
                  obtain ⟨t332, A250, H⟩ := H
                  replace H : (if 0 < (x6_1.length : Int) then (if t332 = (rd x6_1 0) then ((wringerlaw8_awake.f).bind fun t334 => (some t334)) else (some false)) else (none)) = some r := H
                  have A25 := Aside0.mk A250
                  clear A250
                  by_cases c26 : 0 < (x6_1.length : Int)
                  · rw [if_pos c26] at H
                    have c26b0 : decide (0 < (x6_1.length : Int)) = true := decide_eq_true c26
                    have c26b1 : decide (0 < x6_1.length) = true := decide_eq_true (by omega)
                    clear c26
                    by_cases c27 : t332 = (rd x6_1 0)
                    · rw [if_pos c27] at H
                      have c27b0 : (t332 == (rd x6_1 0)) = true := beq_iff_eq.mpr c27
                      have c27b1 : (t332 != (rd x6_1 0)) = false := bne_eq_false_iff_eq.mpr c27
                      clear c27
                      replace H := Option.bind_eq_some_iff.mp H
                      obtain ⟨t334, A280, H⟩ := H
                      replace H : (some t334) = some r := H
                      have A28 := Aside0.mk A280
                      clear A280
                      obtain rfl := Option.some.inj H
                      try go_wp2
                      have n0_ := Aside0.mk (Kd.R_drew HO_6.out)
                      have n1_ := Aside0.mk (Kd.R_drew HO_8.out)
                      have n2_ := Aside0.mk (below_drew1 HB.out)
                      clear HO_6
                      clear HO_8
                      clear HB
                      have HO_6 := n0_
                      have HO_8 := n1_
                      have HB := n2_
                      clear n0_ n1_ n2_
                      have p333 : 0 ≤ (0 : Int) := (by omega)
                      have q333 : 0 < (x6_1.length : Int) := of_decide_eq_true (by first | (with_reducible assumption) | assumption)
                      obtain ⟨ad333, e333, hx333_0⟩ := Kd.at_int (Kd.R_reads' HO_6.out).2.2 0 p333 q333
                      cases e333
                      have qi333 : (0 < x6_1.length) = True := eq_true (by omega)
                      (try rw [show ((0 : Int)).toNat = 0 from rfl] at hx333_0)
                      (try rw [Addr.add_zero'] at hx333_0)
                      replace p333 := eq_true p333
                      replace q333 := eq_true q333
                      obtain ⟨Ao30, co30, eo30⟩ := Kd.R_slice HO_8.out
                      (first | subst eo30 | (injection eo30 with f1_ f2_ f3_; have f4_ := f1_.symm; have f5_ := f3_.symm; clear f1_ f2_ f3_; subst f4_; subst f5_))
                      refine start_ (n := 11) (S := fun w' => w'.cell? ad333 = some (.int .i64 (rd x6_1 0))) (ds := []) #[false, false, false, false, false, false, false, false, false, false, false] (by kernel_rfl) rfl rfl (hx333_0) (fun hHeld => ?_); refine with_tabW wringerlaw8_MergeTried.tab11 wringerlaw8_MergeTried.bits11 (fun HT_ HW_ => ?_)
                      generalize wc.drew = w29 at HO_6 HO_8 HB hx333_0 hHeld ⊢
                      refine pure_ (i := 0) (N := some 57) (v := ?_) (a' := ?_) #[true, false, false, false, false, false, false, false, false, false, false] rfl rfl (any_of HT_.out (by kernel_rfl)) (fun _ _ _ h => h) (Or.inl ⟨by rfl, ?_⟩) ?_ ?_
                      rotate_left
                      · intro w'
                        go_simp
                        with_reducible rfl
                      rotate_left
                      · simp only [Act.put, List.setIfInBounds_toArray, List.set_cons_zero, List.set_cons_succ, i64_w, i32_w]
                        rfl
                      refine pure_ (i := 1) (N := some 58) (v := ?_) (a' := ?_) #[true, true, false, false, false, false, false, false, false, false, false] rfl rfl (any_of HT_.out (by kernel_rfl)) (fun _ _ _ h => h) (Or.inl ⟨by rfl, ?_⟩) ?_ ?_
                      rotate_left
                      · intro w'
                        go_simp
                        with_reducible rfl
                      rotate_left
                      · simp only [Act.put, List.setIfInBounds_toArray, List.set_cons_zero, List.set_cons_succ, i64_w, i32_w]
                        rfl
                      refine pure_ (i := 3) (N := some 60) (v := ?_) (a' := ?_) #[true, true, false, true, false, false, false, false, false, false, false] rfl rfl (any_of HT_.out (by kernel_rfl)) (fun _ _ _ h => h) (Or.inl ⟨by rfl, ?_⟩) ?_ ?_
                      rotate_left
                      · intro w'
                        go_simp
                        with_reducible rfl
                      rotate_left
                      · simp only [Act.put, List.setIfInBounds_toArray, List.set_cons_zero, List.set_cons_succ, i64_w, i32_w]
                        rfl
                      refine pure_ (i := 4) (N := some 61) (v := ?_) (a' := ?_) #[true, true, false, true, true, false, false, false, false, false, false] rfl rfl (any_of HT_.out (by kernel_rfl)) (fun _ _ _ h => h) (Or.inl ⟨by rfl, ?_⟩) ?_ ?_
                      rotate_left
                      · intro w'
                        go_simp
                        with_reducible rfl
                      rotate_left
                      · simp only [Act.put, List.setIfInBounds_toArray, List.set_cons_zero, List.set_cons_succ, i64_w, i32_w]
                        rfl
                      refine take_ (i := 5) (N := some 62) (v := ?_) (a' := ?_) #[true, true, false, true, true, true, false, false, false, false, false] rfl rfl (take_ofW HT_.out HW_.out (by kernel_rfl)) (fun _ _ _ h => h) (Or.inl ⟨by rfl, ?_⟩) hHeld ?_ ?_
                      rotate_left
                      · intro w' s0
                        go_simp
                        with_reducible rfl
                      rotate_left
                      · simp only [Act.put, List.setIfInBounds_toArray, List.set_cons_zero, List.set_cons_succ, i64_w, i32_w]
                        rfl
                      refine one_ (i := 2) (N := some 59) #[true, true, true, true, true, true, false, false, false, false, false] rfl rfl (one_of HT_.out (by kernel_rfl)) (by decide) (fun K hK => ?_)
                      refine goes_ Try.func15 (by kernel_rfl) rfl #[.slice (some ad333) x6_1.length co18, .slice Ao30 t327.length co30] (by rfl) rfl rfl (by (try simp only [List.map_toArray, List.map_cons, List.map_nil]); first | done | rfl | (simp only [List.length_drop, List.length_take]; rfl)) ?_
                      with_reducible refine (merge_Cost.calls _ _ x6_1 _ _ t327 t332 _ ?side1 ?side2 ?side3 ?side4 A25.out).mono ?_
                      (case side1 => repeat (first | exact (Kd.R_reads' HO_6.out).2.2 | (with_reducible refine Kd.C_alloc ?_ _) | (with_reducible refine Kd.C_drewN ?_ _) | (with_reducible refine Kd.C_drew ?_)))
                      (case side2 => exact (Kd.R_reads' HO_6.out).2.1)
                      (case side3 => repeat (first | exact (Kd.R_reads' HO_8.out).2.2 | (with_reducible refine Kd.C_alloc ?_ _) | (with_reducible refine Kd.C_drewN ?_ _) | (with_reducible refine Kd.C_drew ?_)))
                      (case side4 => exact (Kd.R_reads' HO_8.out).2.1)
                      rintro e w' ⟨rfl, ⟨nd, rfl⟩⟩
                      refine ⟨_, rfl, ?_⟩
                      refine hK.out _ _ (hHeld) (fun hHeld => ?_)
                      clear hK K
                      refine norm_ (a' := ?_) ?_ ?_
                      rotate_left
                      · show Act.put _ (some 59) _ = _
                        simp only [Act.put, List.setIfInBounds_toArray, List.set_cons_zero, List.set_cons_succ, i64_w, i32_w]
                        rfl
                      refine pure_ (i := 6) (N := some 63) (v := ?_) (a' := ?_) #[true, true, true, true, true, true, true, false, false, false, false] rfl rfl (any_of HT_.out (by kernel_rfl)) (fun _ _ _ h => h) (Or.inl ⟨by rfl, ?_⟩) ?_ ?_
                      rotate_left
                      · intro w'
                        go_simp
                        with_reducible rfl
                      rotate_left
                      · simp only [Act.put, List.setIfInBounds_toArray, List.set_cons_zero, List.set_cons_succ, i64_w, i32_w]
                        rfl
                      refine pure_ (i := 7) (N := some 64) (v := ?_) (a' := ?_) #[true, true, true, true, true, true, true, true, false, false, false] rfl rfl (any_of HT_.out (by kernel_rfl)) (fun _ _ _ h => h) (Or.inl ⟨by rfl, ?_⟩) ?_ ?_
                      rotate_left
                      · intro w'
                        go_simp
                        with_reducible rfl
                      rotate_left
                      · simp only [Act.put, List.setIfInBounds_toArray, List.set_cons_zero, List.set_cons_succ, i64_w, i32_w]
                        rfl
                      refine one_ (i := 8) (N := some 65) #[true, true, true, true, true, true, true, true, true, false, false] rfl rfl (one_of HT_.out (by kernel_rfl)) (by decide) (fun K hK => ?_)
                      refine goes_ Try.func10 (by kernel_rfl) rfl #[] (by rfl) rfl rfl (by (try simp only [List.map_toArray, List.map_cons, List.map_nil]); first | done | rfl | (simp only [List.length_drop, List.length_take]; rfl)) ?_
                      with_reducible refine (wringerlaw8_awake.calls  t334 _ A28.out).mono ?_
                      rintro e w31 ⟨rfl, hb⟩
                      have HS0_ := (hb.cell (World.block_lt_of_cell? _ _ (hHeld))).trans (hHeld)
                      refine ⟨_, rfl, ?_⟩
                      have n0_ := Aside0.mk (Kd.R_below (by (with_reducible repeat (first | apply Kd.R_alloc | apply Kd.R_drewN | apply Kd.R_drew)); exact HO_6.out) hb)
                      have n1_ := Aside0.mk (Kd.R_below (by (with_reducible repeat (first | apply Kd.R_alloc | apply Kd.R_drewN | apply Kd.R_drew)); exact HO_8.out) hb)
                      have n2_ := Aside0.mk (below_step (by repeat (first | (with_reducible first | exact HB.out | apply below_alloc | apply pw_below_drewN | apply below_drew1) | exact HB.out)) hb)
                      clear HO_6
                      clear HO_8
                      clear HB
                      have HO_6 := n0_
                      have HO_8 := n1_
                      have HB := n2_
                      clear n0_ n1_ n2_
                      (try clear hb)
                      (try clear hb2)
                      (try clear hk)
                      (try clear hi)
                      refine hK.out _ _ (HS0_) (fun hHeld => ?_)
                      clear hK K
                      refine norm_ (a' := ?_) ?_ ?_
                      rotate_left
                      · show Act.put _ (some 65) _ = _
                        simp only [Act.put, List.setIfInBounds_toArray, List.set_cons_zero, List.set_cons_succ, i64_w, i32_w]
                        rfl
                      refine pure_ (i := 9) (N := some 66) (v := ?_) (a' := ?_) #[true, true, true, true, true, true, true, true, true, true, false] rfl rfl (any_of HT_.out (by kernel_rfl)) (fun _ _ _ h => h) (Or.inl ⟨by rfl, ?_⟩) ?_ ?_
                      rotate_left
                      · intro w'
                        go_simp
                        with_reducible rfl
                      rotate_left
                      · simp only [Act.put, List.setIfInBounds_toArray, List.set_cons_zero, List.set_cons_succ, i64_w, i32_w]
                        rfl
                      refine pure_ (i := 10) (N := some 4) (v := ?_) (a' := ?_) #[true, true, true, true, true, true, true, true, true, true, true] rfl rfl (any_of HT_.out (by kernel_rfl)) (fun _ _ _ h => h) (Or.inl ⟨by rfl, ?_⟩) ?_ ?_
                      rotate_left
                      · intro w'
                        go_simp
                        with_reducible rfl
                      rotate_left
                      · simp only [Act.put, List.setIfInBounds_toArray, List.set_cons_zero, List.set_cons_succ, i64_w, i32_w]
                        rfl
                      refine done_ (done_of HT_.out (by kernel_rfl)) ?_
                      try go_wp2
                      go_ret
                      exact ⟨by first | rfl | (simp [errW_none, errW_some] <;> rfl) | (simp only [← hji3]; first | rfl | (simp [errW_none, errW_some] <;> rfl)) | (simp [*, errW_none, errW_some] <;> rfl), by repeat (first | (with_reducible first | exact HB.out | apply below_alloc | apply pw_below_drewN | apply below_drew1) | exact HB.out)⟩
                    · rw [if_neg c27] at H
                      have c27b0 : (t332 == (rd x6_1 0)) = false := beq_eq_false_iff_ne.mpr c27
                      have c27b1 : (t332 != (rd x6_1 0)) = true := bne_iff_ne.mpr c27
                      obtain rfl := Option.some.inj H
                      try go_wp2
                      have n0_ := Aside0.mk (Kd.R_drew HO_6.out)
                      have n1_ := Aside0.mk (Kd.R_drew HO_8.out)
                      have n2_ := Aside0.mk (below_drew1 HB.out)
                      clear HO_6
                      clear HO_8
                      clear HB
                      have HO_6 := n0_
                      have HO_8 := n1_
                      have HB := n2_
                      clear n0_ n1_ n2_
                      have p333 : 0 ≤ (0 : Int) := (by omega)
                      have q333 : 0 < (x6_1.length : Int) := of_decide_eq_true (by first | (with_reducible assumption) | assumption)
                      obtain ⟨ad333, e333, hx333_0⟩ := Kd.at_int (Kd.R_reads' HO_6.out).2.2 0 p333 q333
                      cases e333
                      have qi333 : (0 < x6_1.length) = True := eq_true (by omega)
                      (try rw [show ((0 : Int)).toNat = 0 from rfl] at hx333_0)
                      (try rw [Addr.add_zero'] at hx333_0)
                      replace p333 := eq_true p333
                      replace q333 := eq_true q333
                      obtain ⟨Ao33, co33, eo33⟩ := Kd.R_slice HO_8.out
                      (first | subst eo33 | (injection eo33 with f1_ f2_ f3_; have f4_ := f1_.symm; have f5_ := f3_.symm; clear f1_ f2_ f3_; subst f4_; subst f5_))
                      refine start_ (n := 11) (S := fun w' => w'.cell? ad333 = some (.int .i64 (rd x6_1 0))) (ds := []) #[false, false, false, false, false, false, false, false, false, false, false] (by kernel_rfl) rfl rfl (hx333_0) (fun hHeld => ?_); refine with_tabW wringerlaw8_MergeTried.tab11 wringerlaw8_MergeTried.bits11 (fun HT_ HW_ => ?_)
                      generalize wc.drew = w32 at HO_6 HO_8 HB hx333_0 hHeld ⊢
                      refine pure_ (i := 0) (N := some 57) (v := ?_) (a' := ?_) #[true, false, false, false, false, false, false, false, false, false, false] rfl rfl (any_of HT_.out (by kernel_rfl)) (fun _ _ _ h => h) (Or.inl ⟨by rfl, ?_⟩) ?_ ?_
                      rotate_left
                      · intro w'
                        go_simp
                        with_reducible rfl
                      rotate_left
                      · simp only [Act.put, List.setIfInBounds_toArray, List.set_cons_zero, List.set_cons_succ, i64_w, i32_w]
                        rfl
                      refine pure_ (i := 1) (N := some 58) (v := ?_) (a' := ?_) #[true, true, false, false, false, false, false, false, false, false, false] rfl rfl (any_of HT_.out (by kernel_rfl)) (fun _ _ _ h => h) (Or.inl ⟨by rfl, ?_⟩) ?_ ?_
                      rotate_left
                      · intro w'
                        go_simp
                        with_reducible rfl
                      rotate_left
                      · simp only [Act.put, List.setIfInBounds_toArray, List.set_cons_zero, List.set_cons_succ, i64_w, i32_w]
                        rfl
                      refine pure_ (i := 3) (N := some 60) (v := ?_) (a' := ?_) #[true, true, false, true, false, false, false, false, false, false, false] rfl rfl (any_of HT_.out (by kernel_rfl)) (fun _ _ _ h => h) (Or.inl ⟨by rfl, ?_⟩) ?_ ?_
                      rotate_left
                      · intro w'
                        go_simp
                        with_reducible rfl
                      rotate_left
                      · simp only [Act.put, List.setIfInBounds_toArray, List.set_cons_zero, List.set_cons_succ, i64_w, i32_w]
                        rfl
                      refine pure_ (i := 4) (N := some 61) (v := ?_) (a' := ?_) #[true, true, false, true, true, false, false, false, false, false, false] rfl rfl (any_of HT_.out (by kernel_rfl)) (fun _ _ _ h => h) (Or.inl ⟨by rfl, ?_⟩) ?_ ?_
                      rotate_left
                      · intro w'
                        go_simp
                        with_reducible rfl
                      rotate_left
                      · simp only [Act.put, List.setIfInBounds_toArray, List.set_cons_zero, List.set_cons_succ, i64_w, i32_w]
                        rfl
                      refine take_ (i := 5) (N := some 62) (v := ?_) (a' := ?_) #[true, true, false, true, true, true, false, false, false, false, false] rfl rfl (take_ofW HT_.out HW_.out (by kernel_rfl)) (fun _ _ _ h => h) (Or.inl ⟨by rfl, ?_⟩) hHeld ?_ ?_
                      rotate_left
                      · intro w' s0
                        go_simp
                        with_reducible rfl
                      rotate_left
                      · simp only [Act.put, List.setIfInBounds_toArray, List.set_cons_zero, List.set_cons_succ, i64_w, i32_w]
                        rfl
                      refine one_ (i := 2) (N := some 59) #[true, true, true, true, true, true, false, false, false, false, false] rfl rfl (one_of HT_.out (by kernel_rfl)) (by decide) (fun K hK => ?_)
                      refine goes_ Try.func15 (by kernel_rfl) rfl #[.slice (some ad333) x6_1.length co18, .slice Ao33 t327.length co33] (by rfl) rfl rfl (by (try simp only [List.map_toArray, List.map_cons, List.map_nil]); first | done | rfl | (simp only [List.length_drop, List.length_take]; rfl)) ?_
                      with_reducible refine (merge_Cost.calls _ _ x6_1 _ _ t327 t332 _ ?side1 ?side2 ?side3 ?side4 A25.out).mono ?_
                      (case side1 => repeat (first | exact (Kd.R_reads' HO_6.out).2.2 | (with_reducible refine Kd.C_alloc ?_ _) | (with_reducible refine Kd.C_drewN ?_ _) | (with_reducible refine Kd.C_drew ?_)))
                      (case side2 => exact (Kd.R_reads' HO_6.out).2.1)
                      (case side3 => repeat (first | exact (Kd.R_reads' HO_8.out).2.2 | (with_reducible refine Kd.C_alloc ?_ _) | (with_reducible refine Kd.C_drewN ?_ _) | (with_reducible refine Kd.C_drew ?_)))
                      (case side4 => exact (Kd.R_reads' HO_8.out).2.1)
                      rintro e w' ⟨rfl, ⟨nd, rfl⟩⟩
                      refine ⟨_, rfl, ?_⟩
                      refine hK.out _ _ (hHeld) (fun hHeld => ?_)
                      clear hK K
                      refine norm_ (a' := ?_) ?_ ?_
                      rotate_left
                      · show Act.put _ (some 59) _ = _
                        simp only [Act.put, List.setIfInBounds_toArray, List.set_cons_zero, List.set_cons_succ, i64_w, i32_w]
                        rfl
                      refine pure_ (i := 6) (N := some 63) (v := ?_) (a' := ?_) #[true, true, true, true, true, true, true, false, false, false, false] rfl rfl (any_of HT_.out (by kernel_rfl)) (fun _ _ _ h => h) (Or.inl ⟨by rfl, ?_⟩) ?_ ?_
                      rotate_left
                      · intro w'
                        go_simp
                        with_reducible rfl
                      rotate_left
                      · simp only [Act.put, List.setIfInBounds_toArray, List.set_cons_zero, List.set_cons_succ, i64_w, i32_w]
                        rfl
                      refine pure_ (i := 7) (N := some 64) (v := ?_) (a' := ?_) #[true, true, true, true, true, true, true, true, false, false, false] rfl rfl (any_of HT_.out (by kernel_rfl)) (fun _ _ _ h => h) (Or.inl ⟨by rfl, ?_⟩) ?_ ?_
                      rotate_left
                      · intro w'
                        go_simp
                        with_reducible rfl
                      rotate_left
                      · simp only [Act.put, List.setIfInBounds_toArray, List.set_cons_zero, List.set_cons_succ, i64_w, i32_w]
                        rfl
                      refine pure_ (i := 8) (N := some 65) (v := undef) (a' := ?_) #[true, true, true, true, true, true, true, true, true, false, false] rfl rfl (any_of HT_.out (by kernel_rfl)) (fun _ _ _ h => h) (Or.inr ⟨by rfl, rfl⟩) ?_ ?_
                      rotate_left
                      · simp only [Act.put, List.setIfInBounds_toArray, List.set_cons_zero, List.set_cons_succ, i64_w, i32_w]
                        rfl
                      refine pure_ (i := 9) (N := some 66) (v := ?_) (a' := ?_) #[true, true, true, true, true, true, true, true, true, true, false] rfl rfl (any_of HT_.out (by kernel_rfl)) (fun _ _ _ h => h) (Or.inl ⟨by rfl, ?_⟩) ?_ ?_
                      rotate_left
                      · intro w'
                        go_simp
                        with_reducible rfl
                      rotate_left
                      · simp only [Act.put, List.setIfInBounds_toArray, List.set_cons_zero, List.set_cons_succ, i64_w, i32_w]
                        rfl
                      refine pure_ (i := 10) (N := some 4) (v := ?_) (a' := ?_) #[true, true, true, true, true, true, true, true, true, true, true] rfl rfl (any_of HT_.out (by kernel_rfl)) (fun _ _ _ h => h) (Or.inl ⟨by rfl, ?_⟩) ?_ ?_
                      rotate_left
                      · intro w'
                        go_simp
                        with_reducible rfl
                      rotate_left
                      · simp only [Act.put, List.setIfInBounds_toArray, List.set_cons_zero, List.set_cons_succ, i64_w, i32_w]
                        rfl
                      refine done_ (done_of HT_.out (by kernel_rfl)) ?_
                      try go_wp2
                      go_ret
                      exact ⟨by first | rfl | (simp [errW_none, errW_some] <;> rfl) | (simp only [← hji3]; first | rfl | (simp [errW_none, errW_some] <;> rfl)) | (simp [*, errW_none, errW_some] <;> rfl), by repeat (first | (with_reducible first | exact HB.out | apply below_alloc | apply pw_below_drewN | apply below_drew1) | exact HB.out)⟩
                  · rw [if_neg c26] at H
                    exact absurd H (by simp)
                · rw [if_neg c24] at H
                  have c24b0 : decide (ji3 < 2) = false := decide_eq_false c24
                  clear c24
                  replace H := Option.bind_eq_some_iff.mp H
                  obtain ⟨t335, A340, H⟩ := H
                  replace H : (wringerlaw8_MergeTried.l1 kj16 ji3 x6_1 t335 1 0) = some r := H
                  have A34 := Aside0.mk A340
                  clear A340
                  have H' := Aside0.mk H
                  clear H
                  obtain ⟨Ao35, co35, eo35⟩ := Kd.R_slice HO_8.out
                  subst eo35
                  go_wp2_with (first | ((with_reducible refine gate_callee (f := 15) rfl ?_); refine goesL_ (some 69) rfl rfl Try.func15 (by kernel_rfl) rfl #[.slice Ao18 x6_1.length co18, .slice Ao35 t327.length co35] rfl (by (try simp only [List.map_toArray, List.map_cons, List.map_nil]); first | done | rfl | (simp only [List.length_drop, List.length_take]; rfl)) ?_; (with_reducible refine (merge_Cost.calls _ _ x6_1 _ _ t327 t335 _ ?side1 ?side2 ?side3 ?side4 A34.out).mono ?_); (case side1 => repeat (first | exact (Kd.R_reads' HO_6.out).2.2 | (with_reducible refine Kd.C_alloc ?_ _) | (with_reducible refine Kd.C_drewN ?_ _) | (with_reducible refine Kd.C_drew ?_))); (case side2 => exact (Kd.R_reads' HO_6.out).2.1); (case side3 => repeat (first | exact (Kd.R_reads' HO_8.out).2.2 | (with_reducible refine Kd.C_alloc ?_ _) | (with_reducible refine Kd.C_drewN ?_ _) | (with_reducible refine Kd.C_drew ?_))); (case side4 => exact (Kd.R_reads' HO_8.out).2.1); rintro e w' ⟨rfl, ⟨nd, rfl⟩⟩; refine ⟨_, rfl, ?_⟩))
                  go_loopg [11, 12] kj16 (fun kq v11 v12 w' => ∃ (x11_3 : Int) (x12_3 : Int), v11 = .int .i64 x11_3 ∧ v12 = .int .i64 x12_3 ∧ Aside0 (wringerlaw8_MergeTried.l1 kq ji3 x6_1 t335 x11_3 x12_3 = some r) ∧ Aside0 (kq ≤ kj16) ∧ Aside0 (Kd.R (Kd.int .i64) 3 w' w.heap.size (fun _ => True) (.slice Ao18 x6_1.length co18) x6_1) ∧ Aside0 (Below w.heap.size w w'))
                  case atStart => exact ⟨(1), (0), (by first | rfl | (simp; done) | (simp [*]; done)), (by first | rfl | (simp; done) | (simp [*]; done)), H', ⟨Nat.le_refl _⟩, ⟨by (with_reducible repeat (first | apply Kd.R_alloc | apply Kd.R_drewN | apply Kd.R_drew)); exact Kd.R_mono HO_6.out (fun _ hk => trivial)⟩, ⟨by repeat (first | (with_reducible first | exact HB.out | apply below_alloc | apply pw_below_drewN | apply below_drew1) | exact HB.out)⟩⟩
                  case round =>
                    clear H'
                    try clear c1
                    try clear p1
                    try clear q1
                    try clear hx1
                    try clear c2
                    try clear p2
                    try clear p3
                    try clear q3
                    try clear hx3
                    try clear qi3
                    try clear c4
                    try clear c4b0
                    try clear c4b1
                    try clear c6
                    try clear p6
                    try clear c7
                    try clear c7b0
                    try clear c8
                    try clear c8b0
                    try clear c9
                    try clear c9b0
                    try clear c10
                    try clear c11
                    try clear c11b0
                    try clear c12
                    try clear c12b0
                    try clear p13
                    try clear q13
                    try clear hx13
                    try clear hf13
                    try clear c14
                    try clear c15
                    try clear c21
                    try clear c21b0
                    try clear c21b1
                    try clear c23
                    try clear c24
                    try clear c24b0
                    try clear c26
                    try clear c26b0
                    try clear c26b1
                    try clear c27
                    try clear c27b0
                    try clear c27b1
                    try clear p32
                    try clear q32
                    try clear hx32
                    try clear p33
                    try clear q33
                    try clear hx33
                    try clear qi33
                    try clear hx13_0
                    try clear hx325_0
                    try clear hx333_0
                    try clear p1
                    try clear p13
                    try clear p2
                    try clear p3
                    try clear p325
                    try clear p333
                    try clear p6
                    try clear q1
                    try clear q13
                    try clear q3
                    try clear q325
                    try clear q333
                    obtain ⟨x11_3, x12_3, rfl, rfl, HA, HK3, HO_6, HB⟩ := hrel
                    cases gk with
                    | zero => exact absurd HA.out (by simp [wringerlaw8_MergeTried.l1])
                    | succ k3 =>
                      have H := HA.out
                      clear HA
                      simp only [wringerlaw8_MergeTried.l1] at H
                      by_cases c36 : x12_3 < ji3
                      · rw [if_pos c36] at H
                        have c36b0 : decide (x12_3 < ji3) = true := decide_eq_true c36
                        clear c36
                        have H' := Aside0.mk H
                        clear H
                        go_wp2
                        go_roundg k3
                        case measure => have := HK1.out; have := HJ16.out; have := HK3.out; omega
                        case rel => exact ⟨(wrap64 (x11_3 * 4)), (wrap64 (x12_3 + 1)), (by first | rfl | (simp; done) | (simp [*]; done)), (by first | rfl | (simp; done) | (simp [*]; done)), H', ⟨by have := HK1.out; have := HJ16.out; have := HK3.out; omega⟩, ⟨by (with_reducible repeat (first | apply Kd.R_alloc | apply Kd.R_drewN | apply Kd.R_drew)); exact HO_6.out⟩, ⟨by repeat (first | (with_reducible first | exact HB.out | apply below_alloc | apply pw_below_drewN | apply below_drew1) | exact HB.out)⟩⟩
                      · rw [if_neg c36] at H
                        have c36b0 : decide (x12_3 < ji3) = false := decide_eq_false c36
                        clear c36
                        have H' := Aside0.mk H
                        clear H
                        go_wp2
                        go_loopg [13, 14] k3 (fun kq v13 v14 w' => ∃ (x13_4 : Int) (x14_4 : Int), v13 = .int .i64 x13_4 ∧ v14 = .int .i64 x14_4 ∧ Aside0 (wringerlaw8_MergeTried.l2 kq ji3 x6_1 t335 x11_3 x13_4 x14_4 = some r) ∧ Aside0 (kq ≤ k3) ∧ Aside0 (Kd.R (Kd.int .i64) 3 w' w.heap.size (fun _ => True) (.slice Ao18 x6_1.length co18) x6_1) ∧ Aside0 (Below w.heap.size w w'))
                        case atStart => exact ⟨(1099511627776), (0), (by first | rfl | (simp; done) | (simp [*]; done)), (by first | rfl | (simp; done) | (simp [*]; done)), H', ⟨Nat.le_refl _⟩, ⟨by (with_reducible repeat (first | apply Kd.R_alloc | apply Kd.R_drewN | apply Kd.R_drew)); exact HO_6.out⟩, ⟨by repeat (first | (with_reducible first | exact HB.out | apply below_alloc | apply pw_below_drewN | apply below_drew1) | exact HB.out)⟩⟩
                        case round =>
                          clear H'
                          try clear c1
                          try clear p1
                          try clear q1
                          try clear hx1
                          try clear c2
                          try clear p2
                          try clear c3
                          try clear p3
                          try clear q3
                          try clear hx3
                          try clear qi3
                          try clear c4
                          try clear c4b0
                          try clear c4b1
                          try clear c6
                          try clear p6
                          try clear c7
                          try clear c7b0
                          try clear c8
                          try clear c8b0
                          try clear c9
                          try clear c9b0
                          try clear c10
                          try clear c11
                          try clear c11b0
                          try clear c12
                          try clear c12b0
                          try clear p13
                          try clear q13
                          try clear hx13
                          try clear hf13
                          try clear c14
                          try clear c15
                          try clear c21
                          try clear c21b0
                          try clear c21b1
                          try clear c23
                          try clear c24
                          try clear c24b0
                          try clear c26
                          try clear c26b0
                          try clear c26b1
                          try clear c27
                          try clear c27b0
                          try clear c27b1
                          try clear p32
                          try clear q32
                          try clear hx32
                          try clear p33
                          try clear q33
                          try clear hx33
                          try clear qi33
                          try clear c36
                          try clear c36b0
                          try clear hx13_0
                          try clear hx325_0
                          try clear hx333_0
                          try clear p1
                          try clear p13
                          try clear p2
                          try clear p3
                          try clear p32
                          try clear p325
                          try clear p33
                          try clear p333
                          try clear p6
                          try clear q1
                          try clear q13
                          try clear q3
                          try clear q32
                          try clear q325
                          try clear q33
                          try clear q333
                          obtain ⟨x13_4, x14_4, rfl, rfl, HA, HK4, HO_6, HB⟩ := hrel
                          cases gk with
                          | zero => exact absurd HA.out (by simp [wringerlaw8_MergeTried.l2])
                          | succ k4 =>
                            have H := HA.out
                            clear HA
                            simp only [wringerlaw8_MergeTried.l2] at H
                            by_cases c37 : x14_4 < x11_3
                            · rw [if_pos c37] at H
                              have c37b0 : decide (x14_4 < x11_3) = true := decide_eq_true c37
                              clear c37
                              have H' := Aside0.mk H
                              clear H
                              go_wp2
                              go_loopg [15, 16, 17] k4 (fun kq v15 v16 v17 w' => ∃ (x15_5 : Int) (x16_5 : Int) (x17_5 : Int), v15 = .int .i64 x15_5 ∧ v16 = .int .i64 x16_5 ∧ v17 = .int .i64 x17_5 ∧ Aside0 (wringerlaw8_MergeTried.l3 kq ji3 x6_1 t335 x11_3 x13_4 x14_4 x15_5 x16_5 x17_5 = some r) ∧ Aside0 (kq ≤ k4) ∧ Aside0 (Kd.R (Kd.int .i64) 3 w' w.heap.size (fun _ => True) (.slice Ao18 x6_1.length co18) x6_1) ∧ Aside0 (Below w.heap.size w w'))
                              case atStart => exact ⟨(0), (0), (0), (by first | rfl | (simp; done) | (simp [*]; done)), (by first | rfl | (simp; done) | (simp [*]; done)), (by first | rfl | (simp; done) | (simp [*]; done)), H', ⟨Nat.le_refl _⟩, ⟨by (with_reducible repeat (first | apply Kd.R_alloc | apply Kd.R_drewN | apply Kd.R_drew)); exact HO_6.out⟩, ⟨by repeat (first | (with_reducible first | exact HB.out | apply below_alloc | apply pw_below_drewN | apply below_drew1) | exact HB.out)⟩⟩
                              case round =>
                                clear H'
                                try clear c1
                                try clear p1
                                try clear q1
                                try clear hx1
                                try clear c2
                                try clear p2
                                try clear c3
                                try clear p3
                                try clear q3
                                try clear hx3
                                try clear qi3
                                try clear c4
                                try clear c4b0
                                try clear c4b1
                                try clear c6
                                try clear p6
                                try clear c7
                                try clear c7b0
                                try clear c8
                                try clear c8b0
                                try clear c9
                                try clear c9b0
                                try clear c10
                                try clear c11
                                try clear c11b0
                                try clear c12
                                try clear c12b0
                                try clear p13
                                try clear q13
                                try clear hx13
                                try clear hf13
                                try clear c14
                                try clear c15
                                try clear c21
                                try clear c21b0
                                try clear c21b1
                                try clear c23
                                try clear c24
                                try clear c24b0
                                try clear c26
                                try clear c26b0
                                try clear c26b1
                                try clear c27
                                try clear c27b0
                                try clear c27b1
                                try clear p32
                                try clear q32
                                try clear hx32
                                try clear p33
                                try clear q33
                                try clear hx33
                                try clear qi33
                                try clear c36
                                try clear c36b0
                                try clear c37
                                try clear c37b0
                                try clear hx13_0
                                try clear hx325_0
                                try clear hx333_0
                                try clear p1
                                try clear p13
                                try clear p2
                                try clear p3
                                try clear p32
                                try clear p325
                                try clear p33
                                try clear p333
                                try clear p6
                                try clear q1
                                try clear q13
                                try clear q3
                                try clear q32
                                try clear q325
                                try clear q33
                                try clear q333
                                obtain ⟨x15_5, x16_5, x17_5, rfl, rfl, rfl, HA, HK5, HO_6, HB⟩ := hrel
                                cases gk with
                                | zero => exact absurd HA.out (by simp [wringerlaw8_MergeTried.l3])
                                | succ k5 =>
                                  have H := HA.out
                                  clear HA
                                  simp only [wringerlaw8_MergeTried.l3] at H
                                  by_cases c38 : x17_5 < ji3
                                  · rw [if_pos c38] at H
                                    have c38b0 : decide (x17_5 < ji3) = true := decide_eq_true c38
                                    clear c38
                                    obtain ⟨ji39, hji39⟩ : ∃ j_ : Int, (wrap64 (2 * x17_5)) = j_ := ⟨_, rfl⟩
                                    replace H : (if 0 ≤ (ji39) then (if 0 ≤ (wrap64 ((Go.bits .and .i64 (shr .i64 x14_4 (ji39)) 3) + 1)) then (if 0 ≤ (wrap64 (x17_5 * 7)) then (if (wrap64 (x17_5 * 7)) < (x6_1.length : Int) then (wringerlaw8_MergeTried.l3 k5 ji3 x6_1 t335 x11_3 x13_4 x14_4 (wrap64 (x15_5 + (shr .i64 16 (wrap64 ((Go.bits .and .i64 (shr .i64 x14_4 (ji39)) 3) + 1))))) (wrap64 (x16_5 + (wrap64 ((wrap64 ((Go.bits .and .i64 (shr .i64 x14_4 (ji39)) 3) + 1)) * (rd x6_1 (wrap64 (x17_5 * 7))))))) (wrap64 (x17_5 + 1))) else (none)) else (none)) else (none)) else (none)) = some r := by first | (rw [hji39] at H; exact H) | (simp only [hji39] at H ⊢; exact H)
                                    have hji39w : (IntKind.i64.wrap (2 * x17_5)) = ji39 := (i64_w _).trans hji39
                                    by_cases c40 : 0 ≤ (ji39)
                                    · rw [if_pos c40] at H
                                      have c40b0 := eq_true c40
                                      have c40b1 : decide (0 ≤ (ji39)) = true := decide_eq_true c40
                                      clear c40
                                      obtain ⟨ji41, hji41⟩ : ∃ j_ : Int, (shr .i64 x14_4 (ji39)) = j_ := ⟨_, rfl⟩
                                      replace H : (if 0 ≤ (wrap64 ((Go.bits .and .i64 (ji41) 3) + 1)) then (if 0 ≤ (wrap64 (x17_5 * 7)) then (if (wrap64 (x17_5 * 7)) < (x6_1.length : Int) then (wringerlaw8_MergeTried.l3 k5 ji3 x6_1 t335 x11_3 x13_4 x14_4 (wrap64 (x15_5 + (shr .i64 16 (wrap64 ((Go.bits .and .i64 (ji41) 3) + 1))))) (wrap64 (x16_5 + (wrap64 ((wrap64 ((Go.bits .and .i64 (ji41) 3) + 1)) * (rd x6_1 (wrap64 (x17_5 * 7))))))) (wrap64 (x17_5 + 1))) else (none)) else (none)) else (none)) = some r := by first | (rw [hji41] at H; exact H) | (simp only [hji41] at H ⊢; exact H)
                                      have hji41_ : (x14_4 / 2 ^ min (ji39).toNat 64) = ji41 := hji41
                                      have hji41z : (ji39) ≤ 64 → (x14_4 / 2 ^ (ji39).toNat) = ji41 := shr_small hji41
                                      obtain ⟨ji42, hji42⟩ : ∃ j_ : Int, (wrap64 ((Go.bits .and .i64 (ji41) 3) + 1)) = j_ := ⟨_, rfl⟩
                                      replace H : (if 0 ≤ (ji42) then (if 0 ≤ (wrap64 (x17_5 * 7)) then (if (wrap64 (x17_5 * 7)) < (x6_1.length : Int) then (wringerlaw8_MergeTried.l3 k5 ji3 x6_1 t335 x11_3 x13_4 x14_4 (wrap64 (x15_5 + (shr .i64 16 (ji42)))) (wrap64 (x16_5 + (wrap64 ((ji42) * (rd x6_1 (wrap64 (x17_5 * 7))))))) (wrap64 (x17_5 + 1))) else (none)) else (none)) else (none)) = some r := by first | (rw [hji42] at H; exact H) | (simp only [hji42] at H ⊢; exact H)
                                      have hji42w : (IntKind.i64.wrap ((Go.bits .and .i64 (ji41) 3) + 1)) = ji42 := (i64_w _).trans hji42
                                      by_cases c43 : 0 ≤ (ji42)
                                      · rw [if_pos c43] at H
                                        have c43b0 := eq_true c43
                                        have c43b1 : decide (0 ≤ (ji42)) = true := decide_eq_true c43
                                        clear c43
                                        obtain ⟨ji44, hji44⟩ : ∃ j_ : Int, (shr .i64 16 (ji42)) = j_ := ⟨_, rfl⟩
                                        replace H : (if 0 ≤ (wrap64 (x17_5 * 7)) then (if (wrap64 (x17_5 * 7)) < (x6_1.length : Int) then (wringerlaw8_MergeTried.l3 k5 ji3 x6_1 t335 x11_3 x13_4 x14_4 (wrap64 (x15_5 + (ji44))) (wrap64 (x16_5 + (wrap64 ((ji42) * (rd x6_1 (wrap64 (x17_5 * 7))))))) (wrap64 (x17_5 + 1))) else (none)) else (none)) = some r := by first | (rw [hji44] at H; exact H) | (simp only [hji44] at H ⊢; exact H)
                                        have hji44_ : (16 / 2 ^ min (ji42).toNat 64) = ji44 := hji44
                                        have hji44z : (ji42) ≤ 64 → (16 / 2 ^ (ji42).toNat) = ji44 := shr_small hji44
                                        obtain ⟨ji45, hji45⟩ : ∃ j_ : Int, (wrap64 (x17_5 * 7)) = j_ := ⟨_, rfl⟩
                                        replace H : (if 0 ≤ (ji45) then (if (ji45) < (x6_1.length : Int) then (wringerlaw8_MergeTried.l3 k5 ji3 x6_1 t335 x11_3 x13_4 x14_4 (wrap64 (x15_5 + (ji44))) (wrap64 (x16_5 + (wrap64 ((ji42) * (rd x6_1 (ji45)))))) (wrap64 (x17_5 + 1))) else (none)) else (none)) = some r := by first | (rw [hji45] at H; exact H) | (simp only [hji45] at H ⊢; exact H)
                                        have hji45w : (IntKind.i64.wrap (x17_5 * 7)) = ji45 := (i64_w _).trans hji45
                                        by_cases c46 : 0 ≤ (ji45)
                                        · rw [if_pos c46] at H
                                          have c46b0 : decide (0 ≤ (ji45)) = true := decide_eq_true c46
                                          clear c46
                                          by_cases c47 : (ji45) < (x6_1.length : Int)
                                          · rw [if_pos c47] at H
                                            have c47b0 : decide ((ji45) < (x6_1.length : Int)) = true := decide_eq_true c47
                                            clear c47
                                            have H' := Aside0.mk H
                                            clear H
                                            have p337 : 0 ≤ ((ji45) : Int) := of_decide_eq_true (by first | (with_reducible assumption) | assumption)
                                            have q337 : (ji45) < (x6_1.length : Int) := of_decide_eq_true (by first | (with_reducible assumption) | assumption)
                                            obtain ⟨ad337, e337, hx337_0⟩ := Kd.at_int (Kd.R_reads' HO_6.out).2.2 (ji45) p337 q337
                                            cases e337
                                            replace p337 := eq_true p337
                                            replace q337 := eq_true q337
                                            go_wp2
                                            go_roundg k5
                                            case measure => have := HK1.out; have := HJ16.out; have := HK3.out; have := HK4.out; have := HK5.out; omega
                                            case rel => exact ⟨(wrap64 (x15_5 + (ji44))), (wrap64 (x16_5 + (wrap64 ((ji42) * (rd x6_1 (ji45)))))), (wrap64 (x17_5 + 1)), (by first | rfl | (simp; done) | (simp only [← hji44] <;> (first | rfl | simp)) | (simp [*]; done)), (by first | rfl | (simp; done) | (simp only [← hji42, ← hji45] <;> (first | rfl | simp)) | (simp [*]; done)), (by first | rfl | (simp; done) | (simp [*]; done)), H', ⟨by have := HK1.out; have := HJ16.out; have := HK3.out; have := HK4.out; have := HK5.out; omega⟩, ⟨by (with_reducible repeat (first | apply Kd.R_alloc | apply Kd.R_drewN | apply Kd.R_drew)); exact HO_6.out⟩, ⟨by repeat (first | (with_reducible first | exact HB.out | apply below_alloc | apply pw_below_drewN | apply below_drew1) | exact HB.out)⟩⟩
                                          · rw [if_neg c47] at H
                                            exact absurd H (by simp)
                                        · rw [if_neg c46] at H
                                          exact absurd H (by simp)
                                      · rw [if_neg c43] at H
                                        exact absurd H (by simp)
                                    · rw [if_neg c40] at H
                                      exact absurd H (by simp)
                                  · rw [if_neg c38] at H
                                    have c38b0 : decide (x17_5 < ji3) = false := decide_eq_false c38
                                    clear c38
                                    by_cases c48 : x15_5 = 16
                                    · rw [if_pos c48] at H
                                      have c48b0 : (x15_5 == 16) = true := beq_iff_eq.mpr c48
                                      have c48b1 : (x15_5 != 16) = false := bne_eq_false_iff_eq.mpr c48
                                      clear c48
                                      obtain ⟨ji49, hji49⟩ : ∃ j_ : Int, (mn x13_4 x16_5) = j_ := ⟨_, rfl⟩
                                      replace H : (wringerlaw8_MergeTried.l2 k5 ji3 x6_1 t335 x11_3 ji49 (wrap64 (x14_4 + 1))) = some r := by first | (rw [hji49] at H; exact H) | (simp only [hji49] at H ⊢; exact H)
                                      have hji49_ : (if x16_5 < x13_4 then x16_5 else x13_4) = ji49 := hji49
                                      have H' := Aside0.mk H
                                      clear H
                                      go_wp2
                                      go_roundg k5
                                      case measure => have := HK1.out; have := HJ16.out; have := HK3.out; have := HK4.out; have := HK5.out; omega
                                      case rel => exact ⟨(ji49), (wrap64 (x14_4 + 1)), (by first | rfl | (simp; done) | (simp only [← hji49] <;> (first | rfl | simp)) | (simp [*]; done)), (by first | rfl | (simp; done) | (simp [*]; done)), H', ⟨by have := HK1.out; have := HJ16.out; have := HK3.out; have := HK4.out; have := HK5.out; omega⟩, ⟨by (with_reducible repeat (first | apply Kd.R_alloc | apply Kd.R_drewN | apply Kd.R_drew)); exact HO_6.out⟩, ⟨by repeat (first | (with_reducible first | exact HB.out | apply below_alloc | apply pw_below_drewN | apply below_drew1) | exact HB.out)⟩⟩
                                    · rw [if_neg c48] at H
                                      have c48b0 : (x15_5 == 16) = false := beq_eq_false_iff_ne.mpr c48
                                      have c48b1 : (x15_5 != 16) = true := bne_iff_ne.mpr c48
                                      have H' := Aside0.mk H
                                      clear H
                                      go_wp2
                                      go_roundg k5
                                      case measure => have := HK1.out; have := HJ16.out; have := HK3.out; have := HK4.out; have := HK5.out; omega
                                      case rel => exact ⟨(x13_4), (wrap64 (x14_4 + 1)), (by first | rfl | (simp; done) | (simp [*]; done)), (by first | rfl | (simp; done) | (simp [*]; done)), H', ⟨by have := HK1.out; have := HJ16.out; have := HK3.out; have := HK4.out; have := HK5.out; omega⟩, ⟨by (with_reducible repeat (first | apply Kd.R_alloc | apply Kd.R_drewN | apply Kd.R_drew)); exact HO_6.out⟩, ⟨by repeat (first | (with_reducible first | exact HB.out | apply below_alloc | apply pw_below_drewN | apply below_drew1) | exact HB.out)⟩⟩
                            · rw [if_neg c37] at H
                              have c37b0 : decide (x14_4 < x11_3) = false := decide_eq_false c37
                              clear c37
                              by_cases c50 : x13_4 = t335
                              · rw [if_pos c50] at H
                                have c50b0 : (x13_4 == t335) = true := beq_iff_eq.mpr c50
                                have c50b1 : (x13_4 != t335) = false := bne_eq_false_iff_eq.mpr c50
                                clear c50
                                replace H := Option.bind_eq_some_iff.mp H
                                obtain ⟨t336, A510, H⟩ := H
                                replace H : (some t336) = some r := H
                                have A51 := Aside0.mk A510
                                clear A510
                                obtain rfl := Option.some.inj H
                                go_wp2_with (first | (go_at_call 10; (with_reducible refine (wringerlaw8_awake.calls  t336 _ A51.out).mono ?_); rintro e w52 ⟨rfl, hb⟩; have n0_ := Aside0.mk (Kd.R_below (by (with_reducible repeat (first | apply Kd.R_alloc | apply Kd.R_drewN | apply Kd.R_drew)); exact HO_6.out) hb); have n1_ := Aside0.mk (below_step (by repeat (first | (with_reducible first | exact HB.out | apply below_alloc | apply pw_below_drewN | apply below_drew1) | exact HB.out)) hb); clear HO_6; clear HB; have HO_6 := n0_; have HB := n1_; clear n0_ n1_; (try clear hb); (try clear hb2); (try clear hk); (try clear hi)))
                                go_ret
                                exact ⟨by first | rfl | (simp [errW_none, errW_some] <;> rfl) | (simp only [← hji3]; first | rfl | (simp [errW_none, errW_some] <;> rfl)) | (simp [*, errW_none, errW_some] <;> rfl), by repeat (first | (with_reducible first | exact HB.out | apply below_alloc | apply pw_below_drewN | apply below_drew1) | exact HB.out)⟩
                              · rw [if_neg c50] at H
                                have c50b0 : (x13_4 == t335) = false := beq_eq_false_iff_ne.mpr c50
                                have c50b1 : (x13_4 != t335) = true := bne_iff_ne.mpr c50
                                obtain rfl := Option.some.inj H
                                go_wp2
                                go_ret
                                exact ⟨by first | rfl | (simp [errW_none, errW_some] <;> rfl) | (simp only [← hji3]; first | rfl | (simp [errW_none, errW_some] <;> rfl)) | (simp [*, errW_none, errW_some] <;> rfl), by repeat (first | (with_reducible first | exact HB.out | apply below_alloc | apply pw_below_drewN | apply below_drew1) | exact HB.out)⟩
  · rw [if_neg c4] at H
    exact absurd H (by simp)

/-- THE ONE PURE STATEMENT of wringerlaw8_MergeTried: yours. -/
def wringerlaw8_MergeTried.Pure : Prop := ∀ (l0 : List Int) (a1 : Int), l0.length ≤ maxLen → l0.length * 1 ≤ 140737488351232 → (∀ x ∈ l0, (Lit.int .u8 x).wf = true) → (Lit.int .u8 a1).wf = true → ∃ k, wringerlaw8_MergeTried.f k l0 a1 = some true
theorem wringerlaw8_MergeTried.walk (P : wringerlaw8_MergeTried.Pure) (a0 : Option Addr) (len0 cap0 : Nat) (z0 : List Int) (a1 : Int) (w : World) (w0 : (a0 = none ∧ len0 = 0 ∧ cap0 = 0 ∧ z0 = []) ∨ ∃ x, a0 = some x ∧ len0 ≤ cap0 ∧ cap0 ≤ maxLen ∧ z0.length = cap0 ∧ (∀ i, i < z0.length → w.cell? (x.add i) = some (.int .u8 (z0.getD i 0))) ∧ ∀ n ∈ z0, (Lit.int .u8 n).wf = true) (y0 : len0 * 1 ≤ 140737488351232) (w1 : (Lit.int .u8 a1).wf = true) :
    Calls Try.prog 6 #[.slice a0 len0 cap0, .int .u8 a1] w fun e w' => e = .returned (.bool true) ∧ Below w.heap.size w w' := by
  obtain ⟨l0, rfl, hr0, hm0, hw0, hc0⟩ := ReadsInt.ofRowC w0
  obtain ⟨k, h⟩ := P l0 a1 hm0 y0 hw0 w1
  refine (wringerlaw8_MergeTried.calls k _ _ l0 a1 true w (Kd.C_of_reads (d := (0 : Int)) (h1 := fun _ => rfl) hr0) hc0 h).mono ?_
  rintro e w' ⟨rfl, hd⟩
  exact ⟨rfl, hd⟩

end Go.Proofs.Ytejecpmfhgplmaa.PA

-- ---- PureMergeTried
/- Of few classes, no lengths cost less than the document's: the plain statement of MergeTried holds for every input. Conditions: none. -/
namespace Go.Proofs.Ytejecpmfhgplmaa.Pure
open Go.RowKit Go.Proofs.Ytejecpmfhgplmaa.PA Go.Proofs.YtejecpmfhgplmaaW.PrintWords Go.Proofs.YtejecpmfhgplmaaW.PrintLast Go.Proofs.YtejecpmfhgplmaaW.PrintMore Dp Ol
set_option linter.unusedVariables false
set_option linter.unusedSimpArgs false
set_option linter.unusedSectionVars false

attribute [local irreducible] Dp.lenL
theorem i64_and3 (n : Int) : Go.bits .and .i64 n 3 = n % 4 := by
  have h3 : (BitVec.ofInt 64 3).toNat = 2 ^ 2 - 1 := by decide
  have key : (BitVec.ofInt 64 n &&& BitVec.ofInt 64 3).toNat = (n % ((2 ^ 64 : Nat) : Int)).toNat % 2 ^ 2 := by
    rw [BitVec.toNat_and, BitVec.toNat_ofInt, h3, Nat.and_two_pow_sub_one_eq_mod]
  show IntKind.i64.wrap ((BitVec.ofInt 64 n &&& BitVec.ofInt 64 3).toNat : Nat) = n % 4
  rw [key, IntKind.wrap_i64]
  omega

/-- The frequencies. -/
def tf (fs : List Int) (i : Nat) : List Int := (List.range i).foldl (fun f j => f.set (j * 7) (1 + fs.getD j 0)) (List.replicate 65 0)
theorem tf_succ (fs : List Int) (i : Nat) : tf fs (i + 1) = (tf fs i).set (i * 7) (1 + fs.getD i 0) := by unfold tf; rw [List.range_succ, List.foldl_append]; rfl
theorem length_tf (fs : List Int) (i : Nat) : (tf fs i).length = 65 := by
  induction i with
  | zero => rfl
  | succ m ih => rw [tf_succ, List.length_set, ih]
theorem tf_at (fs : List Int) (i : Nat) (hi : i ≤ 5) (c : Nat) : (tf fs i).getD c 0 = if c % 7 = 0 ∧ c / 7 < i then 1 + fs.getD (c / 7) 0 else 0 := by
  induction i with
  | zero => rw [if_neg (by omega)]; exact getD_rep _ _
  | succ m ih =>
    have ih := ih (by omega)
    have hl := length_tf fs m
    rw [tf_succ]
    by_cases h : m * 7 = c
    · subst h
      rw [if_pos (by omega), show m * 7 / 7 = m by omega]
      simp only [List.getD_eq_getElem?_getD]
      rw [List.getElem?_set_self (by omega)]
      rfl
    · simp only [List.getD_eq_getElem?_getD] at ih ⊢
      rw [List.getElem?_set_ne h, ih]
      by_cases h2 : c % 7 = 0 ∧ c / 7 < m
      · rw [if_pos h2, if_pos (by omega)]
      · rw [if_neg h2, if_neg (by omega)]
theorem tf_zero (fs : List Int) : tf fs 0 = List.replicate 65 0 := rfl
attribute [local irreducible] tf
def cs7 (n : Nat) : List Nat := (List.range n).map (· * 7)

section
variable (fs : List Int) (n m : Nat) (hb : ∀ j, 0 ≤ fs.getD j 0 ∧ fs.getD j 0 ≤ 255) (hn : n ≤ 5) (h7 : 7 ≤ m) (h15 : m ≤ 15)
include hb hn h7 h15
theorem tf_bd (c : Nat) : 0 ≤ (tf fs n).getD c 0 ∧ (tf fs n).getD c 0 ≤ 256 := by
  rw [tf_at fs n hn c]
  have := hb (c / 7)
  split <;> omega
theorem tf_fq : Fq (tf fs n) m := by
  refine ⟨length_tf fs n, fun x hx => ?_, h7, h15⟩
  obtain ⟨i, hi, rfl⟩ := List.getElem_of_mem hx
  have h := tf_bd fs n m hb hn h7 h15 i
  have e : (tf fs n).getD i 0 = (tf fs n)[i] := by simp [List.getD_eq_getElem?_getD, hi]
  rw [e] at h; omega
theorem tf_perm : (ordL (tf fs n)).Perm (cs7 n) := by
  refine (List.perm_ext_iff_of_nodup (nodup_ordL _) ?_).2 fun c => ?_
  · exact List.pairwise_map.2 (List.nodup_range.imp (fun {a b} h => by omega))
  · rw [mem_ordL, length_tf, tf_at fs n hn c]
    unfold cs7
    rw [List.mem_map]
    constructor
    · intro h
      have h2 := h.2
      split at h2
      · exact ⟨c / 7, List.mem_range.2 (by omega), by omega⟩
      · omega
    · rintro ⟨j, hj, rfl⟩
      have hj := List.mem_range.1 hj
      have := hb (j * 7 / 7)
      rw [if_pos (by omega)]
      omega
theorem tf_len : (ordL (tf fs n)).length = n := by rw [(tf_perm fs n m hb hn h7 h15).length_eq]; simp [cs7]
theorem len_bd (c : Nat) : (lenL (tf fs n) m).getD c 0 = (lenN (tf fs n) m c : Int) ∧ lenN (tf fs n) m c ≤ 15 := by
  have h := ((tf_fq fs n m hb hn h7 h15).pos c).2
  unfold lenN
  omega
theorem prod_bd (c : Nat) : 0 ≤ (tf fs n).getD c 0 * (lenN (tf fs n) m c : Int) ∧ (tf fs n).getD c 0 * (lenN (tf fs n) m c : Int) ≤ 3840 := by
  have h1 := tf_bd fs n m hb hn h7 h15 c
  have h2 := (len_bd fs n m hb hn h7 h15 c).2
  refine ⟨Int.mul_nonneg h1.1 (by omega), ?_⟩
  have h3 := Int.mul_le_mul h1.2 (show (lenN (tf fs n) m c : Int) ≤ 15 by omega) (by omega) (by decide)
  omega
theorem costA_is : ∀ i : Nat, i ≤ 65 → costA (tf fs n) (lenL (tf fs n) m) i = sumC (tf fs n) (lenN (tf fs n) m) (List.range i) ∧ 0 ≤ sumC (tf fs n) (lenN (tf fs n) m) (List.range i) ∧ sumC (tf fs n) (lenN (tf fs n) m) (List.range i) ≤ 3840 * i := by
  intro i
  induction i with
  | zero => intro _; exact ⟨rfl, Int.le_refl _, Int.le_refl _⟩
  | succ i ih =>
    intro hi
    obtain ⟨h1, h2, h3⟩ := ih (by omega)
    have hp := prod_bd fs n m hb hn h7 h15 i
    have e : sumC (tf fs n) (lenN (tf fs n) m) (List.range (i + 1)) = sumC (tf fs n) (lenN (tf fs n) m) (List.range i) + (tf fs n).getD i 0 * (lenN (tf fs n) m i : Int) := by
      unfold sumC; rw [List.range_succ, List.map_append, List.sum_append]; simp
    rw [e]
    show wrap64 (costA (tf fs n) (lenL (tf fs n) m) i + wrap64 ((tf fs n).getD i 0 * (lenL (tf fs n) m).getD i 0)) = _ ∧ _
    rw [(len_bd fs n m hb hn h7 h15 i).1, h1]
    generalize (tf fs n).getD i 0 * (lenN (tf fs n) m i : Int) = p at *
    rw [w64 (x := p) (by omega) (by omega), w64 (by omega) (by omega)]
    omega
theorem costW_is : costW (tf fs n) (lenL (tf fs n) m) = sumC (tf fs n) (lenN (tf fs n) m) (cs7 n) := by
  unfold costW
  rw [length_tf, length_lenL, Nat.min_self, (costA_is fs n m hb hn h7 h15 65 (Nat.le_refl _)).1, ← sumC_posL _ _ (fun c => (tf_bd fs n m hb hn h7 h15 c).1)]
  have e := ordL_perm (tf fs n)
  rw [length_tf] at e
  rw [← sumC_perm _ _ e, sumC_perm _ _ (tf_perm fs n m hb hn h7 h15)]
theorem few_cost (h2 : n < 2) : costW (tf fs n) (lenL (tf fs n) m) = (tf fs n).getD 0 0 := by
  have hq := tf_fq fs n m hb hn h7 h15
  have hp := tf_perm fs n m hb hn h7 h15
  have hl := tf_len fs n m hb hn h7 h15
  rw [costW_is fs n m hb hn h7 h15]
  have h01 : n = 0 ∨ n = 1 := by omega
  rcases h01 with rfl | rfl
  · rw [tf_at fs 0 (by decide) 0, if_neg (by omega)]; rfl
  · have e1 : ordL (tf fs 1) = [0] := List.perm_singleton.1 hp
    have e2 := hq.lensOf_map
    rw [e1] at e2
    have e3 : lensOf (tf fs 1) m = [1] := by unfold lensOf; rw [if_pos hl]
    rw [e3] at e2
    have e4 : lenN (tf fs 1) m 0 = 1 := by simpa using e2.symm
    show (tf fs 1).getD 0 0 * (lenN (tf fs 1) m 0 : Int) + 0 = _
    rw [e4]; omega
end

/-- A code's digits. -/
def dg (c j : Nat) : Nat := c / 4 ^ j % 4 + 1
def Qc (c k : Nat) : Nat := dg c (k / 7)
theorem map_Qc (c n : Nat) : (cs7 n).map (Qc c) = (List.range n).map (dg c) := by
  unfold cs7
  rw [List.map_map]
  refine List.map_congr_left fun j hj => ?_
  show dg c (j * 7 / 7) = dg c j
  rw [show j * 7 / 7 = j by omega]
/-- The code of given digits. -/
def enc (q : Nat → Nat) : Nat → Nat
  | 0 => 0
  | n + 1 => enc q n + (q n - 1) * 4 ^ n
theorem enc_lt (q : Nat → Nat) (n : Nat) (h : ∀ j, j < n → 1 ≤ q j ∧ q j ≤ 4) : enc q n < 4 ^ n := by
  induction n with
  | zero => exact Nat.zero_lt_one
  | succ n ih =>
    have h1 := ih (fun j hj => h j (by omega))
    have h2 := h n (by omega)
    show enc q n + (q n - 1) * 4 ^ n < 4 ^ (n + 1)
    have h3 : (q n - 1) * 4 ^ n ≤ 3 * 4 ^ n := Nat.mul_le_mul_right _ (by omega)
    rw [Nat.pow_succ]
    omega
theorem enc_dg (q : Nat → Nat) (n : Nat) (h : ∀ j, j < n → 1 ≤ q j ∧ q j ≤ 4) : ∀ j, j < n → dg (enc q n) j = q j := by
  induction n with
  | zero => intro j hj; omega
  | succ n ih =>
    intro j hj
    have h1 := enc_lt q n (fun j hj => h j (by omega))
    have h2 := h n (by omega)
    have hpos : 0 < 4 ^ n := Nat.pow_pos (by decide)
    show (enc q n + (q n - 1) * 4 ^ n) / 4 ^ j % 4 + 1 = q j
    by_cases hjn : j = n
    · subst hjn
      rw [Nat.add_mul_div_right _ _ hpos, Nat.div_eq_of_lt h1]
      omega
    · have ih := ih (fun j hj => h j (by omega)) j (by omega)
      have hp2 : 0 < 4 ^ j := Nat.pow_pos (by decide)
      have e : (q n - 1) * 4 ^ n = ((q n - 1) * 4 ^ (n - j - 1) * 4) * 4 ^ j := by
        rw [Nat.mul_assoc, Nat.mul_assoc, ← Nat.pow_succ', ← Nat.pow_add]
        congr 2; omega
      rw [e, Nat.add_mul_div_right _ _ hp2, Nat.add_mul_mod_self_right]
      exact ih

section
variable (fs : List Int) (n m : Nat) (hb : ∀ j, 0 ≤ fs.getD j 0 ∧ fs.getD j 0 ≤ 255) (hn : n ≤ 5) (hn2 : 2 ≤ n) (h7 : 7 ≤ m) (h15 : m ≤ 15)
include hb hn hn2 h7 h15
theorem all_least (c : Nat) (hw : wsum 4 ((List.range n).map (dg c)) = 16) : sumC (tf fs n) (lenN (tf fs n) m) (cs7 n) ≤ sumC (tf fs n) (Qc c) (cs7 n) := by
  have hp := tf_perm fs n m hb hn h7 h15
  have h := (tf_fq fs n m hb hn h7 h15).tried_least (by rw [tf_len fs n m hb hn h7 h15]; exact hn2) (Qc c) (fun k _ => by unfold Qc dg; omega) (by rw [wsum_perm 4 (hp.map _), map_Qc, hw])
  rw [sumC_perm _ _ hp, sumC_perm _ _ hp] at h
  exact h
theorem one_least : ∃ c, c < 4 ^ n ∧ wsum 4 ((List.range n).map (dg c)) = 16 ∧ sumC (tf fs n) (Qc c) (cs7 n) = sumC (tf fs n) (lenN (tf fs n) m) (cs7 n) := by
  have hp := tf_perm fs n m hb hn h7 h15
  have hl := tf_len fs n m hb hn h7 h15
  obtain ⟨h1, h2⟩ := (tf_fq fs n m hb hn h7 h15).tried_is (by omega) (by omega)
  rw [wsum_perm 4 (hp.map _)] at h2
  have hq : ∀ j, j < n → 1 ≤ lenN (tf fs n) m (j * 7) ∧ lenN (tf fs n) m (j * 7) ≤ 4 := fun j hj => h1 _ (hp.mem_iff.2 (List.mem_map.2 ⟨j, List.mem_range.2 hj, rfl⟩))
  have he := enc_dg (fun j => lenN (tf fs n) m (j * 7)) n hq
  refine ⟨enc (fun j => lenN (tf fs n) m (j * 7)) n, enc_lt _ n hq, ?_, ?_⟩
  · rw [← h2]
    congr 1
    unfold cs7
    rw [List.map_map]
    exact List.map_congr_left fun j hj => he j (List.mem_range.1 hj)
  · unfold sumC cs7
    rw [List.map_map, List.map_map]
    congr 1
    refine List.map_congr_left fun j hj => ?_
    show (tf fs n).getD (j * 7) 0 * ((dg _ (j * 7 / 7) : Nat) : Int) = (tf fs n).getD (j * 7) 0 * ((lenN (tf fs n) m (j * 7) : Nat) : Int)
    rw [show j * 7 / 7 = j by omega, he j (List.mem_range.1 hj)]
end

theorem sixteen (k : Nat) (h1 : 1 ≤ k) (h4 : k ≤ 4) : shr .i64 16 (k : Int) = ((2 ^ (4 - k) : Nat) : Int) := by
  have : k = 1 ∨ k = 2 ∨ k = 3 ∨ k = 4 := by omega
  rcases this with rfl | rfl | rfl | rfl <;> rfl
theorem wsum_bd (c : Nat) : ∀ i : Nat, wsum 4 ((List.range i).map (dg c)) ≤ 8 * i := by
  intro i
  induction i with
  | zero => simp [wsum]
  | succ i ih =>
    rw [List.range_succ, List.map_append, wsum_append]
    have : 2 ^ (4 - dg c i) ≤ 2 ^ 3 := Nat.pow_le_pow_right (by decide) (by unfold dg; omega)
    simp only [List.map_cons, List.map_nil, wsum_cons]
    rw [show wsum 4 [] = 0 from rfl]
    have e : 2 ^ 3 = 8 := rfl
    omega

section
variable (fs : List Int) (n m : Nat) (hb : ∀ j, 0 ≤ fs.getD j 0 ∧ fs.getD j 0 ≤ 255) (hn : n ≤ 5) (hn2 : 2 ≤ n) (h7 : 7 ≤ m) (h15 : m ≤ 15)
include hb hn h7 h15
theorem sumQ_bd (c : Nat) : ∀ i : Nat, 0 ≤ sumC (tf fs n) (Qc c) (cs7 i) ∧ sumC (tf fs n) (Qc c) (cs7 i) ≤ 1024 * i := by
  intro i
  induction i with
  | zero => exact ⟨Int.le_refl _, Int.le_refl _⟩
  | succ i ih =>
    have e : sumC (tf fs n) (Qc c) (cs7 (i + 1)) = sumC (tf fs n) (Qc c) (cs7 i) + (tf fs n).getD (i * 7) 0 * (Qc c (i * 7) : Int) := by
      unfold sumC cs7; rw [List.range_succ, List.map_append, List.map_append, List.sum_append]; simp
    have h1 := tf_bd fs n m hb hn h7 h15 (i * 7)
    have h4 : Qc c (i * 7) ≤ 4 := by unfold Qc dg; omega
    have h2 : 0 ≤ (tf fs n).getD (i * 7) 0 * (Qc c (i * 7) : Int) := Int.mul_nonneg h1.1 (by omega)
    have h3 := Int.mul_le_mul h1.2 (show (Qc c (i * 7) : Int) ≤ 4 by omega) (by omega) (by decide)
    rw [e]
    omega
end
theorem sumC_0 (f : List Int) (q : Nat → Nat) : sumC f q (cs7 0) = 0 := rfl
theorem wsum_0 (c : Nat) : wsum 4 ((List.range 0).map (dg c)) = 0 := rfl
theorem wsum_nil4 : wsum 4 [] = 0 := rfl
attribute [local irreducible] Dp.sumC Dp.wsum dg Dp.lenN
theorem tried_k (c i : Nat) (hi : i < 5) : wrap64 (Go.bits .and .i64 (shr .i64 (c : Int) ((2 * i : Nat) : Int)) 3 + 1) = (dg c i : Int) := by
  rw [shr_nat c (2 * i) (by omega), i64_and3, Nat.pow_mul, show 2 ^ 2 = 4 from rfl]
  generalize hp : c / 4 ^ i = p
  have : dg c i = p % 4 + 1 := by unfold dg; rw [hp]
  rw [this, w64 (by omega) (by omega)]; omega
theorem tried_w (c i : Nat) (hi : i < 5) : wrap64 (((wsum 4 ((List.range i).map (dg c)) : Nat) : Int) + ((2 ^ (4 - dg c i) : Nat) : Int)) = ((wsum 4 ((List.range (i + 1)).map (dg c)) : Nat) : Int) := by
  have hwb := wsum_bd c i
  have hpw : 2 ^ (4 - dg c i) ≤ 8 := Nat.le_trans (Nat.pow_le_pow_right (by decide) (show 4 - dg c i ≤ 3 by unfold dg; omega)) (by decide)
  rw [List.range_succ, List.map_append, wsum_append]
  simp only [List.map_cons, List.map_nil, wsum_cons]
  rw [wsum_nil4]
  generalize 2 ^ (4 - dg c i) = p at *
  generalize wsum 4 ((List.range i).map (dg c)) = q at *
  rw [w64 (by omega) (by omega)]; omega
theorem tried_s (fs : List Int) (n m : Nat) (hb : ∀ j, 0 ≤ fs.getD j 0 ∧ fs.getD j 0 ≤ 255) (hn : n ≤ 5) (h7 : 7 ≤ m) (h15 : m ≤ 15) (c i : Nat) (hi : i < 5) : wrap64 (sumC (tf fs n) (Qc c) (cs7 i) + wrap64 ((dg c i : Int) * (tf fs n).getD (i * 7) 0)) = sumC (tf fs n) (Qc c) (cs7 (i + 1)) := by
  have hsb := sumQ_bd fs n m hb hn h7 h15 c i
  have h1 := tf_bd fs n m hb hn h7 h15 (i * 7)
  have hd1 : 1 ≤ dg c i ∧ dg c i ≤ 4 := by unfold dg; omega
  have h2 : 0 ≤ (tf fs n).getD (i * 7) 0 * (dg c i : Int) := Int.mul_nonneg h1.1 (by omega)
  have h3 := Int.mul_le_mul h1.2 (show (dg c i : Int) ≤ 4 by omega) (by omega) (by decide)
  have e : sumC (tf fs n) (Qc c) (cs7 (i + 1)) = sumC (tf fs n) (Qc c) (cs7 i) + (tf fs n).getD (i * 7) 0 * (Qc c (i * 7) : Int) := by
    unfold sumC cs7; rw [List.range_succ, List.map_append, List.map_append, List.sum_append]; simp
  rw [e, show Qc c (i * 7) = dg c i by unfold Qc; rw [show i * 7 / 7 = i by omega], Int.mul_comm (dg c i : Int)]
  generalize (tf fs n).getD (i * 7) 0 * (dg c i : Int) = p at *
  generalize sumC (tf fs n) (Qc c) (cs7 i) = q at *
  clear hd1 h1 e
  rw [w64 (x := p) (by omega) (by omega), w64 (by omega) (by omega)]
section
variable (fs : List Int) (n m : Nat) (hb : ∀ j, 0 ≤ fs.getD j 0 ∧ fs.getD j 0 ≤ 255) (hn : n ≤ 5) (hn2 : 2 ≤ n) (h7 : 7 ≤ m) (h15 : m ≤ 15)
include hb hn h7 h15
set_option maxHeartbeats 4000000 in
theorem tried_l3 (c : Nat) (hc : c ≤ 1024) (x10 x11 x13 : Int) (G : Int → Nat → Option Bool) (r : Bool) (hG : ∀ k, G (if wsum 4 ((List.range n).map (dg c)) = 16 then mn x13 (sumC (tf fs n) (Qc c) (cs7 n)) else x13) k = wringerlaw8_MergeTried.l2 k (n : Int) (tf fs n) x10 x11 (if wsum 4 ((List.range n).map (dg c)) = 16 then mn x13 (sumC (tf fs n) (Qc c) (cs7 n)) else x13) ((c + 1 : Nat) : Int)) (hE : Ev (G (if wsum 4 ((List.range n).map (dg c)) = 16 then mn x13 (sumC (tf fs n) (Qc c) (cs7 n)) else x13)) r) : ∀ (d i : Nat), i + d = n →
    Ev (fun k => wringerlaw8_MergeTried.l3 k (n : Int) (tf fs n) x10 x11 x13 (c : Int) ((wsum 4 ((List.range i).map (dg c)) : Nat) : Int) (sumC (tf fs n) (Qc c) (cs7 i)) (i : Int)) r := by
  intro d
  induction d with
  | zero =>
    intro i hi
    have hin : i = n := by omega
    subst hin
    have w1 : wrap64 ((c : Int) + 1) = ((c + 1 : Nat) : Int) := by rw [w64 (by omega) (by omega)]; rfl
    refine Ev.step (f := G _) (fun k => ?_) hE
    rw [hG k]
    simp only [wringerlaw8_MergeTried.l3]
    rw [if_neg (by omega), w1]
    by_cases h : wsum 4 ((List.range i).map (dg c)) = 16
    · rw [if_pos (by omega), if_pos h]
    · rw [if_neg (by omega), if_neg h]
  | succ d ih =>
    intro i hi
    clear hG hE
    have hl := length_tf fs n
    have f1 : (i : Int) < (n : Int) := by omega
    have f2 : (0 : Int) ≤ ((2 * i : Nat) : Int) := Int.natCast_nonneg _
    have f3 : (0 : Int) ≤ ((dg c i : Nat) : Int) := Int.natCast_nonneg _
    have f4 : (0 : Int) ≤ ((i * 7 : Nat) : Int) := Int.natCast_nonneg _
    have f5 : ((i * 7 : Nat) : Int) < ((tf fs n).length : Int) := by omega
    have w1 : wrap64 ((i : Int) + 1) = ((i + 1 : Nat) : Int) := by rw [w64 (by omega) (by omega)]; rfl
    have w2 : wrap64 ((i : Int) * 7) = ((i * 7 : Nat) : Int) := by rw [w64 (by omega) (by omega)]; rfl
    have w3 : wrap64 (2 * (i : Int)) = ((2 * i : Nat) : Int) := by rw [w64 (by omega) (by omega)]; rfl
    have e1 := tried_k c i (by omega)
    have hd1 : 1 ≤ dg c i ∧ dg c i ≤ 4 := by unfold dg; omega
    have e2 := sixteen (dg c i) hd1.1 hd1.2
    have e3 := tried_w c i (by omega)
    have e4 := tried_s fs n m hb hn h7 h15 c i (by omega)
    refine Ev.step (f := fun k => wringerlaw8_MergeTried.l3 k (n : Int) (tf fs n) x10 x11 x13 (c : Int) ((wsum 4 ((List.range (i + 1)).map (dg c)) : Nat) : Int) (sumC (tf fs n) (Qc c) (cs7 (i + 1))) ((i + 1 : Nat) : Int)) (fun k => ?_) (ih (i + 1) (by clear e1 e2 e3 e4 w1 w2 w3; omega))
    simp only [wringerlaw8_MergeTried.l3]
    rw [w3, e1, e2, w2, w1, rd_nat, e3, e4, if_pos f1, if_pos f2, if_pos f3, if_pos f4, if_pos f5]

include hn2 in
theorem tried_l2 (cb : Nat) (hcb : cb < 4 ^ n) (hw : wsum 4 ((List.range n).map (dg cb)) = 16) (hs : sumC (tf fs n) (Qc cb) (cs7 n) = sumC (tf fs n) (lenN (tf fs n) m) (cs7 n)) : ∀ (d c : Nat) (x13 : Int), c + d = 4 ^ n →
    sumC (tf fs n) (lenN (tf fs n) m) (cs7 n) ≤ x13 → (cb < c → x13 = sumC (tf fs n) (lenN (tf fs n) m) (cs7 n)) →
    Ev (fun k => wringerlaw8_MergeTried.l2 k (n : Int) (tf fs n) (sumC (tf fs n) (lenN (tf fs n) m) (cs7 n)) ((4 ^ n : Nat) : Int) x13 (c : Int)) true := by
  have h4 : 4 ^ n ≤ 4 ^ 5 := Nat.pow_le_pow_right (by decide) hn
  have e4 : 4 ^ 5 = 1024 := rfl
  intro d
  induction d with
  | zero =>
    intro c x13 hc h1 h2
    have h2 := h2 (by omega)
    exact Ev.step (f := fun _ => (wringerlaw8_awake.f).bind fun t => some t) (fun k => by simp only [wringerlaw8_MergeTried.l2]; rw [if_neg (by omega), if_pos h2]) (Ev.bind0 awake8 (Ev.now _))
  | succ d ih =>
    intro c x13 hc h1 h2
    have hL := all_least fs n m hb hn hn2 h7 h15 c
    refine Ev.step (f := fun k => wringerlaw8_MergeTried.l3 k (n : Int) (tf fs n) (sumC (tf fs n) (lenN (tf fs n) m) (cs7 n)) ((4 ^ n : Nat) : Int) x13 (c : Int) ((wsum 4 ((List.range 0).map (dg c)) : Nat) : Int) (sumC (tf fs n) (Qc c) (cs7 0)) ((0 : Nat) : Int)) (fun k => by
      simp only [wringerlaw8_MergeTried.l2]; rw [if_pos (by omega), wsum_0, sumC_0]; rfl) ?_
    refine tried_l3 fs n m hb hn h7 h15 c (by omega) _ _ x13 (fun y k => wringerlaw8_MergeTried.l2 k (n : Int) (tf fs n) (sumC (tf fs n) (lenN (tf fs n) m) (cs7 n)) ((4 ^ n : Nat) : Int) y ((c + 1 : Nat) : Int)) true (fun k => rfl) (ih (c + 1) _ (by omega) ?_ ?_) n 0 (by omega)
    · split
      · rename_i hy
        have := hL hy
        rw [mn_min]; omega
      · exact h1
    · intro hcc
      by_cases hy : c = cb
      · subst hy
        rw [if_pos hw, hs, mn_min]; omega
      · have hx := h2 (by omega)
        split
        · rename_i hz
          have := hL hz
          rw [mn_min]; omega
        · exact hx
theorem tried_l1 (want : Int) (hE : Ev (fun k => wringerlaw8_MergeTried.l2 k (n : Int) (tf fs n) want ((4 ^ n : Nat) : Int) 1099511627776 0) true) : ∀ (d i : Nat), i + d = n →
    Ev (fun k => wringerlaw8_MergeTried.l1 k (n : Int) (tf fs n) want ((4 ^ i : Nat) : Int) (i : Int)) true := by
  intro d
  induction d with
  | zero =>
    intro i hi
    have hin : i = n := by omega
    subst hin
    exact Ev.step (f := fun k => wringerlaw8_MergeTried.l2 k (i : Int) (tf fs i) want ((4 ^ i : Nat) : Int) 1099511627776 0) (fun k => by simp only [wringerlaw8_MergeTried.l1]; rw [if_neg (by omega)]) hE
  | succ d ih =>
    intro i hi
    have h4 : 4 ^ i ≤ 4 ^ 5 := Nat.pow_le_pow_right (by decide) (by omega)
    have e4 : 4 ^ 5 = 1024 := rfl
    have w1 : wrap64 ((i : Int) + 1) = ((i + 1 : Nat) : Int) := by rw [w64 (by omega) (by omega)]; rfl
    have w2 : wrap64 (((4 ^ i : Nat) : Int) * 4) = ((4 ^ (i + 1) : Nat) : Int) := by
      rw [Nat.pow_succ]
      generalize 4 ^ i = p at *
      rw [w64 (by omega) (by omega)]; omega
    refine Ev.step (f := fun k => wringerlaw8_MergeTried.l1 k (n : Int) (tf fs n) want ((4 ^ (i + 1) : Nat) : Int) ((i + 1 : Nat) : Int)) (fun k => by simp only [wringerlaw8_MergeTried.l1]; rw [if_pos (by omega), w1, w2]) (ih (i + 1) (by omega))

theorem tried_l0 (a1 : Int) (hfl : n ≤ fs.length) (hm : wrap64 (7 + Int.tmod (wrap64 a1) 9) = (m : Int)) : ∀ (d i : Nat), i + d = n → Ev (fun k => wringerlaw8_MergeTried.l0 k fs a1 (n : Int) (tf fs i) (i : Int)) true := by
  intro d
  induction d with
  | zero =>
    intro i hi
    have hin : i = n := by omega
    subst hin
    have hq := tf_fq fs i m hb hn h7 h15
    have hE := lenE_ok hq
    have hl := length_tf fs i
    refine Ev.step (f := fun k => (merge_Lengths.f (tf fs i) (m : Int)).bind fun bt327 => ((wringerlaw1_Err.f bt327.2).bind fun t331 => (if t331 = 0 then (wringerlaw8_MergeTried.j1 k (i : Int) (tf fs i) bt327.1 ((bt327.1.length : Int) != 65)) else (wringerlaw8_MergeTried.j1 k (i : Int) (tf fs i) bt327.1 true)))) (fun k => by
      simp only [wringerlaw8_MergeTried.l0]; rw [if_neg (by omega), hm]) ?_
    refine Ev.bind0 (a := (lenL (tf fs i) m, 0)) (by rw [mlen_f _ _ (by rw [hl]; decide), hE]) (Ev.bind0 (a := (0 : Int)) rfl (Ev.ite_pos rfl ?_))
    rw [show ((((lenL (tf fs i) m).length : Nat) : Int) != 65) = false by rw [length_lenL]; rfl]
    have hc := mcost_f (tf fs i) (lenL (tf fs i) m) (by rw [hl]; decide)
    by_cases h2 : i < 2
    · refine Ev.step (f := fun k => (merge_Cost.f (tf fs i) (lenL (tf fs i) m)).bind fun t332 => (if 0 < ((tf fs i).length : Int) then (if t332 = (rd (tf fs i) 0) then ((wringerlaw8_awake.f).bind fun t334 => (some t334)) else (some false)) else (none))) (fun k => by
        simp only [wringerlaw8_MergeTried.j1]; rw [if_neg (by simp), if_pos (by omega)]) ?_
      refine Ev.bind0 hc (Ev.ite_pos (by omega) (Ev.ite_pos ?_ (Ev.bind0 awake8 (Ev.now _))))
      rw [few_cost fs i m hb hn h7 h15 h2]; exact (rd_nat (tf fs i) 0).symm
    · refine Ev.step (f := fun k => (merge_Cost.f (tf fs i) (lenL (tf fs i) m)).bind fun t335 => (wringerlaw8_MergeTried.l1 k (i : Int) (tf fs i) t335 1 0)) (fun k => by
        simp only [wringerlaw8_MergeTried.j1]; rw [if_neg (by simp), if_neg (by omega)]) ?_
      refine Ev.bind0 hc ?_
      rw [costW_is fs i m hb hn h7 h15]
      obtain ⟨cb, h3, h4, h5⟩ := one_least fs i m hb hn (by omega) h7 h15
      have hbd := sumQ_bd fs i m hb hn h7 h15 cb i
      rw [h5] at hbd
      exact tried_l1 fs i m hb hn h7 h15 _ (tried_l2 fs i m hb hn (by omega) h7 h15 cb h3 h4 h5 (4 ^ i) 0 1099511627776 (by omega) (by omega) (fun h => by omega)) i 0 (by omega)
  | succ d ih =>
    intro i hi
    have hl := length_tf fs i
    have h1 := hb i
    have w1 : wrap64 ((i : Int) + 1) = ((i + 1 : Nat) : Int) := by rw [w64 (by omega) (by omega)]; rfl
    have w2 : wrap64 ((i : Int) * 7) = ((i * 7 : Nat) : Int) := by rw [w64 (by omega) (by omega)]; rfl
    have w3 : wrap64 (1 + wrap64 (fs.getD i 0)) = 1 + fs.getD i 0 := by rw [w64 (x := fs.getD i 0) (by omega) (by omega), w64 (by omega) (by omega)]
    refine Ev.step (f := fun k => wringerlaw8_MergeTried.l0 k fs a1 (n : Int) (tf fs (i + 1)) ((i + 1 : Nat) : Int)) (fun k => ?_) (ih (i + 1) (by omega))
    simp only [wringerlaw8_MergeTried.l0]
    rw [w2, w1, rd_nat, w3, if_pos (by omega), if_pos (by omega), if_pos (by omega), if_pos (by omega), if_pos (by omega), Int.toNat_natCast, ← tf_succ]
end

theorem MergeTried : wringerlaw8_MergeTried.Pure := by
  intro l0 a1 hm0 y0 h0 h1
  apply Ev.rounds
  unfold wringerlaw8_MergeTried.f
  obtain ⟨m, hm, h7, h15⟩ := limit_of a1 h1
  have b1 : IntKind.u8.min = 0 := rfl
  have b2 : IntKind.u8.max = 255 := rfl
  have hb : ∀ j, 0 ≤ l0.getD j 0 ∧ l0.getD j 0 ≤ 255 := fun j => by
    by_cases hj : j < l0.length
    · have e : l0.getD j 0 = l0[j] := by simp [List.getD_eq_getElem?_getD, hj]
      have h := h0 _ (List.getElem_mem hj)
      simp only [Lit.wf, Bool.and_eq_true, decide_eq_true_eq] at h
      rw [e]; omega
    · have e : l0.getD j 0 = 0 := by simp [List.getD_eq_getElem?_getD, Nat.le_of_not_lt hj]
      rw [e]; omega
  have hmn : mn (l0.length : Int) 5 = ((min l0.length 5 : Nat) : Int) := by rw [mn_min]; omega
  refine Ev.ite_pos (by decide) ?_
  rw [hmn]
  have hfin := tried_l0 l0 (min l0.length 5) m hb (by omega) h7 h15 a1 (by omega) hm (min l0.length 5) 0 (by omega)
  rw [tf_zero] at hfin
  exact hfin
end Go.Proofs.Ytejecpmfhgplmaa.Pure

-- ---- LawMergeTried

namespace Go.Proofs.Ytejecpmfhgplmaa.mergeTried
open Go.ChangeShapes Go.WideShapes Go.ChangeAt Go.RowKit
open Go.ChangeMaps (open_string shut_string)
set_option linter.unusedVariables false
theorem own : ownKnob Try.prog.godebug = none := by kernel_rfl
theorem laidOut : laidOutB Try.prog = true := by kernel_rfl
def IsRow (k : IntKind) (w : World) (a : Option Addr) (len cap : Nat) (zs : List Int) : Prop :=
  (a = none ∧ len = 0 ∧ cap = 0 ∧ zs = []) ∨
  ∃ x, a = some x ∧ len ≤ cap ∧ cap ≤ maxLen ∧ zs.length = cap ∧ (∀ i, i < zs.length → w.cell? (x.add i) = some (.int k (zs.getD i 0))) ∧ ∀ n ∈ zs, (Lit.int k n).wf = true
set_option maxRecDepth 100000 in
theorem lifted (os : Os) (started : os.Started) (H : Type) (enc : TypeId × Value → H) :
    ReturnsInHanded {} Try.checked os 6 .any (Rows.mergeTriedSpec.pre6 enc Try.prog Try.f6 Rows.mergeTriedRow.domain false) (Rows.mergeTriedSpec.post enc Try.prog Try.f6 false true false false) := by
  refine returnsInHanded_of_change_sized (C := Try.checked) own started (by kernel_rfl) Try.func6
    (ChangeSpec.witness6 (enc := enc) (C := Try.checked) false ⟨#[], #[.slice none 0 0, .int .u8 0], []⟩ 8 (by kernel_rfl) (by kernel_rfl) (by kernel_rfl) (by kernel_rfl)) ?_
  intro W base args ds gs before hval0 hW hcnd hsz0 _
  have hsz : (DataW.weightsEach Try.prog (Try.f6.params.toList ++ Rows.mergeTriedSpec.plain.varTypes Try.prog) (ds ++ gs)).all (· ≤ reachBytes) = true := hsz0
  have hval : ∀ (j : Nat) t v, Try.f6.params[j]? = some t → args[j]? = some v → Value.okWide Try.prog W .any base t v := hval0
  have hW' := hW
  obtain ⟨p, q, hA0, hV, rfl, hfz, hnd⟩ := hW
  have hA : DataW.TrodAll enc Try.prog W 0 (fun _ => true) true Try.f6.params.toList args.toList ds p := hA0
  rw [Try.params6] at hA hval hsz
  obtain ⟨v0, vs0, d0, ds0, p0, q0, hargs, rfl, rfl, h0, r0⟩ := trodAll_cons hA
  obtain ⟨v1, vs1, d1, ds1, p1, q1, rfl, rfl, rfl, h1, r1⟩ := trodAll_cons r0
  obtain ⟨rfl, rfl, rfl⟩ := trodAll_nil r1
  obtain rfl : args = #[v0, v1] := by cases args; simp_all
  obtain ⟨rfl, rfl⟩ := trodVars_none hV
  obtain ⟨a0, len0, cap0, rfl⟩ := okWide_slice Try.underlying39 (hval 0 39 v0 rfl rfl)
  have k0 := h0
  have lt0 : ∀ x ∈ p0, x.block < W.heap.size := by obtain ⟨m, hm⟩ := k0; exact DataW.trod_lt m _ _ _ hm
  obtain ⟨z0, w0⟩ : ∃ zs, IsRow .u8 W a0 len0 cap0 zs := by
    obtain ⟨fuel, hf⟩ := h0
    rcases open_ints Try.underlying39 Try.underlying5 (by kernel_rfl) hf with ⟨hcs, _⟩ | ⟨x, l, c, zs, hcs, _, hl, hm, hz, _, hcell, hwz⟩
    · simp [Value.cells] at hcs
      obtain ⟨rfl, rfl, rfl⟩ := hcs
      exact ⟨[], .inl ⟨rfl, rfl, rfl, rfl⟩⟩
    · simp [Value.cells] at hcs
      obtain ⟨rfl, rfl, rfl⟩ := hcs
      exact ⟨zs, .inr ⟨_, rfl, hl, hm, by simpa using hz, hcell, hwz⟩⟩
  have y0 : len0 * 1 ≤ 140737488351232 := Go.Proofs.YtejecpmfhgplmaaW.PrintWords.sized_ints hsz (j := 0) (t := 39) rfl rfl Try.underlying39 Try.underlying5 (by kernel_rfl) (by kernel_rfl) h0
  obtain ⟨a1, rfl, rfl, rfl, w1⟩ := open_int Try.underlying5 (hval 1 5 v1 rfl rfl) h1
  clear hA0 hval0 hsz0 hsz
  refine (PA.wringerlaw8_MergeTried.walk Pure.MergeTried a0 len0 cap0 z0 a1 W w0 y0 w1).mono fun e W' ⟨he, bel⟩ => ?_
  subst he
  exact ⟨_, rfl, _, _, _, [], _, [], hW', trodAll_mk1 (shut_bool Try.underlying4 _), (trodAll_cons_mk (Below.trod laidOut (by kernel_rfl) (of_decide_eq_true (by kernel_rfl)) k0 bel lt0) (trodAll_cons_mk (shut_int Try.underlying5 w1) trodAll_mk0)), rfl, bel.frame _, fun h => by cases h⟩
theorem over : Rows.mergeTriedRow.holds Try.pinned (OpenSpec.ofChange Rows.mergeTriedSpec) :=
  OpenClaim.holds_of_wide 6 Try.f6 rfl rfl rfl rfl rfl rfl rfl ⟨rfl, rfl, rfl, rfl, rfl⟩ rfl rfl rfl rfl rfl (by kernel_rfl) Try.func6 (by kernel_rfl)
    (of_decide_eq_true (by kernel_rfl)) (by unfold Func.isWrapper; first | (rw [if_pos (by decide +kernel)]; kernel_rfl) | (rw [if_neg (by decide +kernel)]; exact ⟨rfl, rfl⟩))
    (fun os started H enc _ => lifted os started H enc)
theorem proved : Rows.MergeTriedSaid := over
#print axioms proved
end Go.Proofs.Ytejecpmfhgplmaa.mergeTried
namespace Go.Proofs.Ytejecpmfhgplmaa
/-- The row, under a short name, for the claim. -/
theorem mergeTried_holds : Rows.MergeTriedSaid := mergeTried.proved
end Go.Proofs.Ytejecpmfhgplmaa
