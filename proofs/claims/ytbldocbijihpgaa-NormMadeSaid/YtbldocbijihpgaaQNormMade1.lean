/- Part NormMade1 of what the layer's laws stand on: PAx21, PAx38, Ue, PAx29, Um, PureNormMade, LawNormMade. Written by a program (merge.py) out of this session's own texts and of what the kit's print wrote over stand-ins (sp.py). Conditions: those that each theorem names. -/
import Derived.Test.YtbldocbijihpgaaQB2
import Derived.Test.YtbldocbijihpgaaRows
import Derived.WalkKit
import Derived.ProofKit
import Derived.OpenShut
import Derived.ShutString
import Derived.ChangeOld
import Derived.Below
import Derived.SizedLaws
import Derived.Test.YtbldocbijihpgaaWSized
-- ---- PAx21

namespace Go.Proofs.Ytbldocbijihpgaa.PA
open Go.RowKit Go.Proofs.YtbldocbijihpgaaW.PrintWords Go.Proofs.YtbldocbijihpgaaW.PrintLast Go.Proofs.YtbldocbijihpgaaW.PrintMore
attribute [local go_sem] max2_int min2_int max_two min_two max_three min_three max_four min_four   -- for this text's walks alone
set_option linter.unusedVariables false
set_option linter.unusedSimpArgs false

/-! ### wringerref7_SameInts: function 13 -/
def wringerref7_SameInts.l0 : Nat → List Int → List Int → Int → Option (Bool)
  | 0, _, _, _ => none
  | k + 1, x0, x1, x5 => if x5 < (x0.length : Int) then (if 0 ≤ x5 then (if x5 < (x1.length : Int) then (if (rd x0 x5) = (rd x1 x5) then (wringerref7_SameInts.l0 k x0 x1 (wrap64 (x5 + 1))) else (some false)) else (none)) else (none)) else (some true)
def wringerref7_SameInts.f (k : Nat) (l0 : List Int) (l1 : List Int) : Option (Bool) := if (l0.length : Int) = (l1.length : Int) then (wringerref7_SameInts.l0 k l0 l1 0) else (some false)
theorem wringerref7_SameInts.mono_l : ∀ k, (∀ y0 y1 y2, LeO (wringerref7_SameInts.l0 k y0 y1 y2) (wringerref7_SameInts.l0 (k + 1) y0 y1 y2))
  | 0 => fun _ _ _ r h => by simp [wringerref7_SameInts.l0] at h
  | k + 1 => by
    have ih0 := wringerref7_SameInts.mono_l k
    · intro y0 y1 y2
      unfold wringerref7_SameInts.l0
      repeat' first
      | (with_reducible exact ih0 _ _ _)
      | (with_reducible exact LeO.refl _)
      | (with_reducible exact LeO.none _)
      | (with_reducible refine LeO.ite ?_ ?_)
      | (with_reducible refine LeO.bind ?_ (fun _ => ?_))
      | exact ih0 _ _ _
      | exact LeO.none _
      | refine LeO.ite ?_ ?_
      | refine LeO.bind ?_ (fun _ => ?_)
theorem wringerref7_SameInts.mono : ∀ a0 a1 k, LeO (wringerref7_SameInts.f k a0 a1) (wringerref7_SameInts.f (k + 1) a0 a1) := by
  intro a0 a1 k
  have ih0 := wringerref7_SameInts.mono_l k
  unfold wringerref7_SameInts.f
  repeat' first
      | (with_reducible exact ih0 _ _ _)
      | (with_reducible exact LeO.refl _)
      | (with_reducible exact LeO.none _)
      | (with_reducible refine LeO.ite ?_ ?_)
      | (with_reducible refine LeO.bind ?_ (fun _ => ?_))
      | exact ih0 _ _ _
      | exact LeO.none _
      | refine LeO.ite ?_ ?_
      | refine LeO.bind ?_ (fun _ => ?_)
set_option maxHeartbeats 8000000 in
set_option maxRecDepth 100000 in
theorem wringerref7_SameInts.calls (k : Nat) (A0 : Option Addr) (c0 : Nat) (l0 : List Int) (A1 : Option Addr) (c1 : Nat) (l1 : List Int) (r : Bool) (w : World) (hr0 : Kd.C (Kd.int .i64) w A0 l0.length l0) (hc0 : l0.length ≤ c0) (hr1 : Kd.C (Kd.int .i64) w A1 l1.length l1) (hc1 : l1.length ≤ c1) (h : wringerref7_SameInts.f k l0 l1 = some r) :
    Calls Try.prog 13 #[.slice A0 l0.length c0, .slice A1 l1.length c1] w fun e w' => e = .returned (.bool r) ∧ Drawn0 w w' := by
  have HR0 := Aside0.mk hr0
  have HC0 := Aside0.mk hc0
  clear hr0 hc0
  have HR1 := Aside0.mk hr1
  have HC1 := Aside0.mk hc1
  clear hr1 hc1
  have H : (if (l0.length : Int) = (l1.length : Int) then (wringerref7_SameInts.l0 k l0 l1 0) else (some false)) = some r := h
  clear h
  by_cases c3 : (l0.length : Int) = (l1.length : Int)
  · rw [if_pos c3] at H
    have c3b0 : ((l0.length : Int) == (l1.length : Int)) = true := beq_iff_eq.mpr c3
    have c3b1 : ((l0.length : Int) != (l1.length : Int)) = false := bne_eq_false_iff_eq.mpr c3
    have c3b2 : (l0.length == l1.length) = true := by first | simpa using c3 | (simp at c3 ⊢; omega)
    clear c3
    have H' := Aside0.mk H
    clear H
    go_enter Try.func13, Try.ntmps13
    go_wp2
    repeat (go_quiet (fail); try go_wp2)
    go_loopg [5] k (fun kq v5 w' => ∃ (x5_1 : Int), v5 = .int .i64 x5_1 ∧ Aside0 (wringerref7_SameInts.l0 kq l0 l1 x5_1 = some r) ∧ Aside0 (kq ≤ k) ∧ Drawn0 w w')
    case atStart => exact ⟨(0), (by first | rfl | (simp; done) | (simp [*]; done)), H', ⟨Nat.le_refl _⟩, by repeat (first | exact Drawn0.refl _ | apply Drawn0.step)⟩
    case round =>
      clear H'
      try clear c1
      try clear p2
      try clear c3
      try clear c3b0
      try clear c3b1
      try clear c3b2
      obtain ⟨x5_1, rfl, HA, HK1, ⟨m1, rfl⟩⟩ := hrel
      cases gk with
      | zero => exact absurd HA.out (by simp [wringerref7_SameInts.l0])
      | succ k1 =>
        have H := HA.out
        clear HA
        simp only [wringerref7_SameInts.l0] at H
        by_cases c4 : x5_1 < (l0.length : Int)
        · rw [if_pos c4] at H
          have c4b0 : decide (x5_1 < (l0.length : Int)) = true := decide_eq_true c4
          clear c4
          by_cases c5 : 0 ≤ x5_1
          · rw [if_pos c5] at H
            have c5b0 : decide (0 ≤ x5_1) = true := decide_eq_true c5
            clear c5
            by_cases c6 : x5_1 < (l1.length : Int)
            · rw [if_pos c6] at H
              have c6b0 : decide (x5_1 < (l1.length : Int)) = true := decide_eq_true c6
              clear c6
              by_cases c7 : (rd l0 x5_1) = (rd l1 x5_1)
              · rw [if_pos c7] at H
                have c7b0 : ((rd l0 x5_1) == (rd l1 x5_1)) = true := beq_iff_eq.mpr c7
                have c7b1 : ((rd l0 x5_1) != (rd l1 x5_1)) = false := bne_eq_false_iff_eq.mpr c7
                clear c7
                have H' := Aside0.mk H
                clear H
                have p143 : 0 ≤ (x5_1 : Int) := of_decide_eq_true (by first | (with_reducible assumption) | assumption)
                have q143 : x5_1 < (l0.length : Int) := of_decide_eq_true (by first | (with_reducible assumption) | assumption)
                obtain ⟨ad143, e143, hx143_0⟩ := Kd.at_int HR0.out x5_1 p143 q143
                cases e143
                replace p143 := eq_true p143
                replace q143 := eq_true q143
                have p144 : 0 ≤ (x5_1 : Int) := of_decide_eq_true (by first | (with_reducible assumption) | assumption)
                have q144 : x5_1 < (l1.length : Int) := of_decide_eq_true (by first | (with_reducible assumption) | assumption)
                obtain ⟨ad144, e144, hx144_0⟩ := Kd.at_int HR1.out x5_1 p144 q144
                cases e144
                replace p144 := eq_true p144
                replace q144 := eq_true q144
                go_wp2
                repeat (go_quiet (fail); try go_wp2)
                go_roundg k1
                case measure => have := HK1.out; omega
                case rel => exact ⟨(wrap64 (x5_1 + 1)), (by first | rfl | (simp; done) | (simp [*]; done)), H', ⟨by have := HK1.out; omega⟩, by repeat (first | exact Drawn0.refl _ | apply Drawn0.step)⟩
              · rw [if_neg c7] at H
                have c7b0 : ((rd l0 x5_1) == (rd l1 x5_1)) = false := beq_eq_false_iff_ne.mpr c7
                have c7b1 : ((rd l0 x5_1) != (rd l1 x5_1)) = true := bne_iff_ne.mpr c7
                obtain rfl := Option.some.inj H
                have p143 : 0 ≤ (x5_1 : Int) := of_decide_eq_true (by first | (with_reducible assumption) | assumption)
                have q143 : x5_1 < (l0.length : Int) := of_decide_eq_true (by first | (with_reducible assumption) | assumption)
                obtain ⟨ad143, e143, hx143_0⟩ := Kd.at_int HR0.out x5_1 p143 q143
                cases e143
                replace p143 := eq_true p143
                replace q143 := eq_true q143
                have p144 : 0 ≤ (x5_1 : Int) := of_decide_eq_true (by first | (with_reducible assumption) | assumption)
                have q144 : x5_1 < (l1.length : Int) := of_decide_eq_true (by first | (with_reducible assumption) | assumption)
                obtain ⟨ad144, e144, hx144_0⟩ := Kd.at_int HR1.out x5_1 p144 q144
                cases e144
                replace p144 := eq_true p144
                replace q144 := eq_true q144
                go_wp2
                repeat (go_quiet (fail); try go_wp2)
                go_ret
                exact ⟨by first | rfl | (simp; done) | (simp [*]; done), by repeat (first | exact Drawn0.refl _ | apply Drawn0.step)⟩
            · rw [if_neg c6] at H
              exact absurd H (by simp)
          · rw [if_neg c5] at H
            exact absurd H (by simp)
        · rw [if_neg c4] at H
          have c4b0 : decide (x5_1 < (l0.length : Int)) = false := decide_eq_false c4
          clear c4
          obtain rfl := Option.some.inj H
          go_wp2
          repeat (go_quiet (fail); try go_wp2)
          go_ret
          exact ⟨by first | rfl | (simp; done) | (simp [*]; done), by repeat (first | exact Drawn0.refl _ | apply Drawn0.step)⟩
  · rw [if_neg c3] at H
    have c3b0 : ((l0.length : Int) == (l1.length : Int)) = false := beq_eq_false_iff_ne.mpr c3
    have c3b1 : ((l0.length : Int) != (l1.length : Int)) = true := bne_iff_ne.mpr c3
    have c3b2 : (l0.length == l1.length) = false := by first | simpa using c3 | (simp at c3 ⊢; omega)
    obtain rfl := Option.some.inj H
    go_enter Try.func13, Try.ntmps13
    go_wp2
    repeat (go_quiet (fail); try go_wp2)
    go_ret
    exact ⟨by first | rfl | (simp; done) | (simp [*]; done), by repeat (first | exact Drawn0.refl _ | apply Drawn0.step)⟩

end Go.Proofs.Ytbldocbijihpgaa.PA

-- ---- PAx38

namespace Go.Proofs.Ytbldocbijihpgaa.PA
open Go.RowKit Go.Proofs.YtbldocbijihpgaaW.PrintWords Go.Proofs.YtbldocbijihpgaaW.PrintLast Go.Proofs.YtbldocbijihpgaaW.PrintMore
attribute [local go_sem] max2_int min2_int max_two min_two max_three min_three max_four min_four   -- for this text's walks alone
set_option linter.unusedVariables false
set_option linter.unusedSimpArgs false

/-! ### wringerlaw12_NormMade: function 3 -/
mutual
def wringerlaw12_NormMade.j0 : Nat → List Int → Int → List Int → Bool → List Int → Int → Option (Bool)
  | 0, _, _, _, _, _, _ => none
  | k + 1, x5, x6, x7, x42, x279000, x279001 => if x42 = true then (some false) else (if x279001 = 0 then (wringerlaw12_NormMade.l0 k x5 x6 x7 0) else (if x279001 = 1 then ((wringerlaw12_awake.f k).bind fun t281 => (some t281)) else (some false)))
def wringerlaw12_NormMade.l0 : Nat → List Int → Int → List Int → Int → Option (Bool)
  | 0, _, _, _, _ => none
  | k + 1, x5, x6, x7, x10 => if x10 < 65 then (if 0 ≤ x10 then (if x10 < (x7.length : Int) then (if x10 < (x5.length : Int) then (if ((decide ((rd x7 x10) > 0)) != (decide ((rd x5 x10) > 0))) = true then (some false) else (wringerlaw12_NormMade.l1 k x5 x6 x7 x10 0)) else (none)) else (none)) else (none)) else ((norm_May.f k x7 x6).bind fun t282 => (if t282 = true then ((wringerlaw12_awake.f k).bind fun t283 => (some t283)) else (some false)))
def wringerlaw12_NormMade.l1 : Nat → List Int → Int → List Int → Int → Int → Option (Bool)
  | 0, _, _, _, _, _ => none
  | k + 1, x5, x6, x7, x10, x11 => if x11 < 65 then (if 0 ≤ x10 then (if x10 < (x5.length : Int) then (if 0 ≤ x11 then (if x11 < (x5.length : Int) then (if (rd x5 x10) > (rd x5 x11) then (if x10 < (x7.length : Int) then (if x11 < (x7.length : Int) then (if (wrap64 ((rd x7 x10) + 1)) < (rd x7 x11) then (some false) else (wringerlaw12_NormMade.l1 k x5 x6 x7 x10 (wrap64 (x11 + 1)))) else (none)) else (none)) else (wringerlaw12_NormMade.l1 k x5 x6 x7 x10 (wrap64 (x11 + 1)))) else (none)) else (none)) else (none)) else (none)) else (wringerlaw12_NormMade.l0 k x5 x6 x7 (wrap64 (x10 + 1)))
end
def wringerlaw12_NormMade.f (k : Nat) (l0 : List Int) (a1 : Int) : Option (Bool) := if (l0.length : Int) > 140 then ((wringerlaw12_awake.f k).bind fun t266 => (some t266)) else ((wringerlaw8_Freq.f k l0).bind fun t267 => ((norm_Of.f t267 (wrap64 (7 + (Int.tmod (wrap64 (a1)) 6)))).bind fun bt270 => ((wringerref7_Norm.f t267 (wrap64 (7 + (Int.tmod (wrap64 (a1)) 6)))).bind fun bt274 => ((wringerref7_SameInts.f k bt270.1 bt274.1).bind fun t279 => (if t279 = true then ((wringerlaw1_Err.f bt270.2).bind fun t280 => (wringerlaw12_NormMade.j0 k t267 (wrap64 (7 + (Int.tmod (wrap64 (a1)) 6))) bt270.1 (t280 != bt274.2) bt274.1 bt274.2)) else (wringerlaw12_NormMade.j0 k t267 (wrap64 (7 + (Int.tmod (wrap64 (a1)) 6))) bt270.1 true bt274.1 bt274.2))))))
theorem wringerlaw12_NormMade.mono_l : ∀ k, (∀ y0 y1 y2 y3 y4 y5, LeO (wringerlaw12_NormMade.j0 k y0 y1 y2 y3 y4 y5) (wringerlaw12_NormMade.j0 (k + 1) y0 y1 y2 y3 y4 y5)) ∧ (∀ y0 y1 y2 y3, LeO (wringerlaw12_NormMade.l0 k y0 y1 y2 y3) (wringerlaw12_NormMade.l0 (k + 1) y0 y1 y2 y3)) ∧ (∀ y0 y1 y2 y3 y4, LeO (wringerlaw12_NormMade.l1 k y0 y1 y2 y3 y4) (wringerlaw12_NormMade.l1 (k + 1) y0 y1 y2 y3 y4))
  | 0 => ⟨fun _ _ _ _ _ _ r h => by simp [wringerlaw12_NormMade.j0] at h, fun _ _ _ _ r h => by simp [wringerlaw12_NormMade.l0] at h, fun _ _ _ _ _ r h => by simp [wringerlaw12_NormMade.l1] at h⟩
  | k + 1 => by
    obtain ⟨ih0, ih1, ih2⟩ := wringerlaw12_NormMade.mono_l k
    refine ⟨?_, ?_, ?_⟩
    · intro y0 y1 y2 y3 y4 y5
      unfold wringerlaw12_NormMade.j0
      repeat' first
      | (with_reducible exact ih0 _ _ _ _ _ _)
      | (with_reducible exact ih1 _ _ _ _)
      | (with_reducible exact ih2 _ _ _ _ _)
      | (with_reducible exact norm_May.mono _ _ _)
      | (with_reducible exact wringerlaw12_awake.mono _)
      | (with_reducible exact wringerlaw8_Freq.mono _ _)
      | (with_reducible exact wringerref7_SameInts.mono _ _ _)
      | (with_reducible exact LeO.refl _)
      | (with_reducible exact LeO.none _)
      | (with_reducible refine LeO.ite ?_ ?_)
      | (with_reducible refine LeO.bind ?_ (fun _ => ?_))
      | exact ih0 _ _ _ _ _ _
      | exact ih1 _ _ _ _
      | exact ih2 _ _ _ _ _
      | exact norm_May.mono _ _ _
      | exact wringerlaw12_awake.mono _
      | exact wringerlaw8_Freq.mono _ _
      | exact wringerref7_SameInts.mono _ _ _
      | exact LeO.none _
      | refine LeO.ite ?_ ?_
      | refine LeO.bind ?_ (fun _ => ?_)
    · intro y0 y1 y2 y3
      unfold wringerlaw12_NormMade.l0
      repeat' first
      | (with_reducible exact ih0 _ _ _ _ _ _)
      | (with_reducible exact ih1 _ _ _ _)
      | (with_reducible exact ih2 _ _ _ _ _)
      | (with_reducible exact norm_May.mono _ _ _)
      | (with_reducible exact wringerlaw12_awake.mono _)
      | (with_reducible exact wringerlaw8_Freq.mono _ _)
      | (with_reducible exact wringerref7_SameInts.mono _ _ _)
      | (with_reducible exact LeO.refl _)
      | (with_reducible exact LeO.none _)
      | (with_reducible refine LeO.ite ?_ ?_)
      | (with_reducible refine LeO.bind ?_ (fun _ => ?_))
      | exact ih0 _ _ _ _ _ _
      | exact ih1 _ _ _ _
      | exact ih2 _ _ _ _ _
      | exact norm_May.mono _ _ _
      | exact wringerlaw12_awake.mono _
      | exact wringerlaw8_Freq.mono _ _
      | exact wringerref7_SameInts.mono _ _ _
      | exact LeO.none _
      | refine LeO.ite ?_ ?_
      | refine LeO.bind ?_ (fun _ => ?_)
    · intro y0 y1 y2 y3 y4
      unfold wringerlaw12_NormMade.l1
      repeat' first
      | (with_reducible exact ih0 _ _ _ _ _ _)
      | (with_reducible exact ih1 _ _ _ _)
      | (with_reducible exact ih2 _ _ _ _ _)
      | (with_reducible exact norm_May.mono _ _ _)
      | (with_reducible exact wringerlaw12_awake.mono _)
      | (with_reducible exact wringerlaw8_Freq.mono _ _)
      | (with_reducible exact wringerref7_SameInts.mono _ _ _)
      | (with_reducible exact LeO.refl _)
      | (with_reducible exact LeO.none _)
      | (with_reducible refine LeO.ite ?_ ?_)
      | (with_reducible refine LeO.bind ?_ (fun _ => ?_))
      | exact ih0 _ _ _ _ _ _
      | exact ih1 _ _ _ _
      | exact ih2 _ _ _ _ _
      | exact norm_May.mono _ _ _
      | exact wringerlaw12_awake.mono _
      | exact wringerlaw8_Freq.mono _ _
      | exact wringerref7_SameInts.mono _ _ _
      | exact LeO.none _
      | refine LeO.ite ?_ ?_
      | refine LeO.bind ?_ (fun _ => ?_)
theorem wringerlaw12_NormMade.mono : ∀ a0 a1 k, LeO (wringerlaw12_NormMade.f k a0 a1) (wringerlaw12_NormMade.f (k + 1) a0 a1) := by
  intro a0 a1 k
  obtain ⟨ih0, ih1, ih2⟩ := wringerlaw12_NormMade.mono_l k
  unfold wringerlaw12_NormMade.f
  repeat' first
      | (with_reducible exact ih0 _ _ _ _ _ _)
      | (with_reducible exact ih1 _ _ _ _)
      | (with_reducible exact ih2 _ _ _ _ _)
      | (with_reducible exact norm_May.mono _ _ _)
      | (with_reducible exact wringerlaw12_awake.mono _)
      | (with_reducible exact wringerlaw8_Freq.mono _ _)
      | (with_reducible exact wringerref7_SameInts.mono _ _ _)
      | (with_reducible exact LeO.refl _)
      | (with_reducible exact LeO.none _)
      | (with_reducible refine LeO.ite ?_ ?_)
      | (with_reducible refine LeO.bind ?_ (fun _ => ?_))
      | exact ih0 _ _ _ _ _ _
      | exact ih1 _ _ _ _
      | exact ih2 _ _ _ _ _
      | exact norm_May.mono _ _ _
      | exact wringerlaw12_awake.mono _
      | exact wringerlaw8_Freq.mono _ _
      | exact wringerref7_SameInts.mono _ _ _
      | exact LeO.none _
      | refine LeO.ite ?_ ?_
      | refine LeO.bind ?_ (fun _ => ?_)
set_option maxHeartbeats 8000000 in
set_option maxRecDepth 100000 in
theorem wringerlaw12_NormMade.calls (k : Nat) (A0 : Option Addr) (c0 : Nat) (l0 : List Int) (a1 : Int) (r : Bool) (w : World) (hr0 : Kd.C (Kd.int .u16) w A0 l0.length l0) (hc0 : l0.length ≤ c0) (h : wringerlaw12_NormMade.f k l0 a1 = some r) :
    Calls Try.prog 3 #[.slice A0 l0.length c0, .int .u8 a1] w fun e w' => e = .returned (.bool r) ∧ Below w.heap.size w w' := by
  have hu30 := Try.underlying30
  have HR0 := Aside0.mk hr0
  have HC0 := Aside0.mk hc0
  clear hr0 hc0
  have HB := Aside0.mk (Below.refl w.heap.size w)
  have H : (if (l0.length : Int) > 140 then ((wringerlaw12_awake.f k).bind fun t266 => (some t266)) else ((wringerlaw8_Freq.f k l0).bind fun t267 => ((norm_Of.f t267 (wrap64 (7 + (Int.tmod (wrap64 (a1)) 6)))).bind fun bt270 => ((wringerref7_Norm.f t267 (wrap64 (7 + (Int.tmod (wrap64 (a1)) 6)))).bind fun bt274 => ((wringerref7_SameInts.f k bt270.1 bt274.1).bind fun t279 => (if t279 = true then ((wringerlaw1_Err.f bt270.2).bind fun t280 => (wringerlaw12_NormMade.j0 k t267 (wrap64 (7 + (Int.tmod (wrap64 (a1)) 6))) bt270.1 (t280 != bt274.2) bt274.1 bt274.2)) else (wringerlaw12_NormMade.j0 k t267 (wrap64 (7 + (Int.tmod (wrap64 (a1)) 6))) bt270.1 true bt274.1 bt274.2))))))) = some r := h
  clear h
  by_cases c3 : (l0.length : Int) > 140
  · rw [if_pos c3] at H
    have c3b0 : decide (140 < (l0.length : Int)) = true := decide_eq_true c3
    have c3b1 : decide (140 < l0.length) = true := decide_eq_true (by omega)
    clear c3
    replace H := Option.bind_eq_some_iff.mp H
    obtain ⟨t266, A40, H⟩ := H
    replace H : (some t266) = some r := H
    have A4 := Aside0.mk A40
    clear A40
    obtain rfl := Option.some.inj H
    go_enter Try.func3, Try.ntmps3
    go_wp2_with (first | (go_at_call 9; (with_reducible refine (wringerlaw12_awake.calls k  t266 _ A4.out).mono ?_); rintro e w5 ⟨rfl, hb⟩; have n0_ := Aside0.mk (below_step (by repeat (first | (with_reducible first | exact HB.out | apply below_alloc | apply pw_below_drewN | apply below_drew1) | exact HB.out)) hb); clear HB; have HB := n0_; clear n0_; (try clear hb); (try clear hb2); (try clear hk); (try clear hi)))
    repeat (go_quiet (first | (go_at_call 9; (with_reducible refine (wringerlaw12_awake.calls k  t266 _ A4.out).mono ?_); rintro e w5 ⟨rfl, hb⟩; have n0_ := Aside0.mk (below_step (by repeat (first | (with_reducible first | exact HB.out | apply below_alloc | apply pw_below_drewN | apply below_drew1) | exact HB.out)) hb); clear HB; have HB := n0_; clear n0_; (try clear hb); (try clear hb2); (try clear hk); (try clear hi))); try go_wp2_with (first | (go_at_call 9; (with_reducible refine (wringerlaw12_awake.calls k  t266 _ A4.out).mono ?_); rintro e w5 ⟨rfl, hb⟩; have n0_ := Aside0.mk (below_step (by repeat (first | (with_reducible first | exact HB.out | apply below_alloc | apply pw_below_drewN | apply below_drew1) | exact HB.out)) hb); clear HB; have HB := n0_; clear n0_; (try clear hb); (try clear hb2); (try clear hk); (try clear hi))))
    go_ret
    exact ⟨by first | rfl | (simp [errW_none, errW_some] <;> rfl) | (simp [*, errW_none, errW_some] <;> rfl), by repeat (first | (with_reducible first | exact HB.out | apply below_alloc | apply pw_below_drewN | apply below_drew1) | exact HB.out)⟩
  · rw [if_neg c3] at H
    have c3b0 : decide (140 < (l0.length : Int)) = false := decide_eq_false c3
    have c3b1 : decide (140 < l0.length) = false := decide_eq_false (by omega)
    clear c3
    replace H := Option.bind_eq_some_iff.mp H
    obtain ⟨t267, A60, H⟩ := H
    replace H : ((norm_Of.f t267 (wrap64 (7 + (Int.tmod (wrap64 (a1)) 6)))).bind fun bt270 => ((wringerref7_Norm.f t267 (wrap64 (7 + (Int.tmod (wrap64 (a1)) 6)))).bind fun bt274 => ((wringerref7_SameInts.f k bt270.1 bt274.1).bind fun t279 => (if t279 = true then ((wringerlaw1_Err.f bt270.2).bind fun t280 => (wringerlaw12_NormMade.j0 k t267 (wrap64 (7 + (Int.tmod (wrap64 (a1)) 6))) bt270.1 (t280 != bt274.2) bt274.1 bt274.2)) else (wringerlaw12_NormMade.j0 k t267 (wrap64 (7 + (Int.tmod (wrap64 (a1)) 6))) bt270.1 true bt274.1 bt274.2))))) = some r := H
    have A6 := Aside0.mk A60
    clear A60
    replace H := Option.bind_eq_some_iff.mp H
    obtain ⟨⟨t270, t271⟩, A70, H⟩ := H
    replace H : ((wringerref7_Norm.f t267 (wrap64 (7 + (Int.tmod (wrap64 (a1)) 6)))).bind fun bt274 => ((wringerref7_SameInts.f k t270 bt274.1).bind fun t279 => (if t279 = true then ((wringerlaw1_Err.f t271).bind fun t280 => (wringerlaw12_NormMade.j0 k t267 (wrap64 (7 + (Int.tmod (wrap64 (a1)) 6))) t270 (t280 != bt274.2) bt274.1 bt274.2)) else (wringerlaw12_NormMade.j0 k t267 (wrap64 (7 + (Int.tmod (wrap64 (a1)) 6))) t270 true bt274.1 bt274.2)))) = some r := H
    have A7 := Aside0.mk A70
    clear A70
    replace H := Option.bind_eq_some_iff.mp H
    obtain ⟨⟨t274, t277⟩, A80, H⟩ := H
    replace H : ((wringerref7_SameInts.f k t270 t274).bind fun t279 => (if t279 = true then ((wringerlaw1_Err.f t271).bind fun t280 => (wringerlaw12_NormMade.j0 k t267 (wrap64 (7 + (Int.tmod (wrap64 (a1)) 6))) t270 (t280 != t277) t274 t277)) else (wringerlaw12_NormMade.j0 k t267 (wrap64 (7 + (Int.tmod (wrap64 (a1)) 6))) t270 true t274 t277))) = some r := H
    have A8 := Aside0.mk A80
    clear A80
    have HC9 := Aside0.mk H
    clear H
    go_enter Try.func3, Try.ntmps3
    go_upto_region 7 with (first | (go_at_call 10; (with_reducible refine (wringerlaw8_Freq.calls k _ _ l0 t267 _ ?side1 ?side2 A6.out).mono ?_); (case side1 => repeat (first | exact HR0.out | (with_reducible refine Kd.C_alloc ?_ _) | (with_reducible refine Kd.C_drewN ?_ _) | (with_reducible refine Kd.C_drew ?_))); (case side2 => exact HC0.out); rintro e w10 ⟨v268, rfl, ho0, hb⟩; have n0_ := Aside0.mk (Kd.R_lower ho0 (below_size (by repeat (first | (with_reducible first | exact HB.out | apply below_alloc | apply pw_below_drewN | apply below_drew1) | exact HB.out)))); have n1_ := Aside0.mk (below_step (by repeat (first | (with_reducible first | exact HB.out | apply below_alloc | apply pw_below_drewN | apply below_drew1) | exact HB.out)) hb); clear HB; have HO269 := n0_; have HB := n1_; clear n0_ n1_; (try clear hb); (try clear hb2); (try clear hk); (try clear hi); (try clear ho0); obtain ⟨Ao11, co11, eo11⟩ := Kd.R_slice HO269.out; subst eo11) | (go_at_call 11; (with_reducible refine (norm_Of.calls _ _ t267 (wrap64 (7 + (Int.tmod (wrap64 (a1)) 6))) t270 t271 _ ?side1 ?side2 A7.out).mono ?_); (case side1 => repeat (first | exact (Kd.R_reads' HO269.out).2.2 | (with_reducible refine Kd.C_alloc ?_ _) | (with_reducible refine Kd.C_drewN ?_ _) | (with_reducible refine Kd.C_drew ?_))); (case side2 => exact (Kd.R_reads' HO269.out).2.1); rintro e w12 ⟨v272, rfl, ho0, hb⟩; have n0_ := Aside0.mk (Kd.R_elder' (by (with_reducible repeat (first | apply Kd.R_alloc | apply Kd.R_drewN | apply Kd.R_drew)); exact HO269.out) (Kd.R_base ho0) hb); have n1_ := Aside0.mk (Kd.R_lower (Kd.R_new' ho0 (Kd.R_lt (by (with_reducible repeat (first | apply Kd.R_alloc | apply Kd.R_drewN | apply Kd.R_drew)); exact HO269.out))) (below_size (by repeat (first | (with_reducible first | exact HB.out | apply below_alloc | apply pw_below_drewN | apply below_drew1) | exact HB.out)))); have n2_ := Aside0.mk (below_step (by repeat (first | (with_reducible first | exact HB.out | apply below_alloc | apply pw_below_drewN | apply below_drew1) | exact HB.out)) hb); clear HO269; clear HB; have HO269 := n0_; have HO273 := n1_; have HB := n2_; clear n0_ n1_ n2_; (try clear hb); (try clear hb2); (try clear hk); (try clear hi); (try clear ho0)) | (go_at_call 12; (with_reducible refine (wringerref7_Norm.calls _ _ t267 (wrap64 (7 + (Int.tmod (wrap64 (a1)) 6))) t274 t277 _ ?side1 ?side2 A8.out).mono ?_); (case side1 => repeat (first | exact (Kd.R_reads' HO269.out).2.2 | (with_reducible refine Kd.C_alloc ?_ _) | (with_reducible refine Kd.C_drewN ?_ _) | (with_reducible refine Kd.C_drew ?_))); (case side2 => exact (Kd.R_reads' HO269.out).2.1); rintro e w13 ⟨v275, rfl, ho0, hb⟩; have n0_ := Aside0.mk (Kd.R_elder' (by (with_reducible repeat (first | apply Kd.R_alloc | apply Kd.R_drewN | apply Kd.R_drew)); exact HO269.out) (Kd.R_base ho0) hb); have n1_ := Aside0.mk (Kd.R_elder' (by (with_reducible repeat (first | apply Kd.R_alloc | apply Kd.R_drewN | apply Kd.R_drew)); exact HO273.out) (Kd.R_base ho0) hb); have n2_ := Aside0.mk (Kd.R_lower (Kd.R_new' (Kd.R_new' ho0 (Kd.R_lt (by (with_reducible repeat (first | apply Kd.R_alloc | apply Kd.R_drewN | apply Kd.R_drew)); exact HO269.out))) (Kd.R_lt (by (with_reducible repeat (first | apply Kd.R_alloc | apply Kd.R_drewN | apply Kd.R_drew)); exact HO273.out))) (below_size (by repeat (first | (with_reducible first | exact HB.out | apply below_alloc | apply pw_below_drewN | apply below_drew1) | exact HB.out)))); have n3_ := Aside0.mk (below_step (by repeat (first | (with_reducible first | exact HB.out | apply below_alloc | apply pw_below_drewN | apply below_drew1) | exact HB.out)) hb); clear HO269; clear HO273; clear HB; have HO269 := n0_; have HO273 := n1_; have HO276 := n2_; have HB := n3_; clear n0_ n1_ n2_ n3_; (try clear hb); (try clear hb2); (try clear hk); (try clear hi); (try clear ho0)) | ((with_reducible refine gate_dst (N := 9) rfl ?_); refine box_event ?hg (N := 9) ?hd (cs := #[.slice none 0 0, .int .i64 0]) (t := 30) ?hr ?_; (case hd => rfl); (case hg => rfl); (case hr => first | (go_simp; done) | (go_simp; rfl)); intro gb278 hg w14 hbox hb; have n0_ := Aside0.mk (Kd.R_below (by (with_reducible repeat (first | apply Kd.R_alloc | apply Kd.R_drewN | apply Kd.R_drew)); exact HO269.out) hb); have n1_ := Aside0.mk (Kd.R_below (by (with_reducible repeat (first | apply Kd.R_alloc | apply Kd.R_drewN | apply Kd.R_drew)); exact HO273.out) hb); have n2_ := Aside0.mk (Kd.R_below (by (with_reducible repeat (first | apply Kd.R_alloc | apply Kd.R_drewN | apply Kd.R_drew)); exact HO276.out) hb); have n3_ := Aside0.mk (below_step (by repeat (first | (with_reducible first | exact HB.out | apply below_alloc | apply pw_below_drewN | apply below_drew1) | exact HB.out)) hb); have n4_ := Aside0.mk (hbox); have n5_ := Aside0.mk ((by rw [hg]; exact (below_size (by repeat (first | (with_reducible first | exact HB.out | apply below_alloc | apply pw_below_drewN | apply below_drew1) | exact HB.out))) : w.heap.size ≤ gb278)); have n6_ := Aside0.mk ((by rw [hg]; exact (below_size (by repeat (first | (with_reducible first | exact HB.out | apply below_alloc | apply pw_below_drewN | apply below_drew1) | exact HB.out))) : w.heap.size ≤ gb278)); clear HO269; clear HO273; clear HO276; clear HB; have HO269 := n0_; have HO273 := n1_; have HO276 := n2_; have HB := n3_; have BK278 := n4_; have GW278 := n5_; have GE278 := n6_; clear n0_ n1_ n2_ n3_ n4_ n5_ n6_; clear hb hbox hg; obtain ⟨Ao15, co15, eo15⟩ := Kd.R_slice HO276.out; subst eo15; have hcz16_0 : w14.cell? ⟨gb278, 0, none⟩ = some (.slice none 0 0) := (blk_cell BK278.out 0).trans rfl; have hcz16_1 : w14.cell? ⟨gb278, 1, none⟩ = some (.int .i64 0) := (blk_cell BK278.out 1).trans rfl; have hfz16_0 := blk_frozen BK278.out 0; have hfz16_1 := blk_frozen BK278.out 1))
    repeat (go_quiet (first | (go_at_call 10; (with_reducible refine (wringerlaw8_Freq.calls k _ _ l0 t267 _ ?side1 ?side2 A6.out).mono ?_); (case side1 => repeat (first | exact HR0.out | (with_reducible refine Kd.C_alloc ?_ _) | (with_reducible refine Kd.C_drewN ?_ _) | (with_reducible refine Kd.C_drew ?_))); (case side2 => exact HC0.out); rintro e w10 ⟨v268, rfl, ho0, hb⟩; have n0_ := Aside0.mk (Kd.R_lower ho0 (below_size (by repeat (first | (with_reducible first | exact HB.out | apply below_alloc | apply pw_below_drewN | apply below_drew1) | exact HB.out)))); have n1_ := Aside0.mk (below_step (by repeat (first | (with_reducible first | exact HB.out | apply below_alloc | apply pw_below_drewN | apply below_drew1) | exact HB.out)) hb); clear HB; have HO269 := n0_; have HB := n1_; clear n0_ n1_; (try clear hb); (try clear hb2); (try clear hk); (try clear hi); (try clear ho0); obtain ⟨Ao11, co11, eo11⟩ := Kd.R_slice HO269.out; subst eo11) | (go_at_call 11; (with_reducible refine (norm_Of.calls _ _ t267 (wrap64 (7 + (Int.tmod (wrap64 (a1)) 6))) t270 t271 _ ?side1 ?side2 A7.out).mono ?_); (case side1 => repeat (first | exact (Kd.R_reads' HO269.out).2.2 | (with_reducible refine Kd.C_alloc ?_ _) | (with_reducible refine Kd.C_drewN ?_ _) | (with_reducible refine Kd.C_drew ?_))); (case side2 => exact (Kd.R_reads' HO269.out).2.1); rintro e w12 ⟨v272, rfl, ho0, hb⟩; have n0_ := Aside0.mk (Kd.R_elder' (by (with_reducible repeat (first | apply Kd.R_alloc | apply Kd.R_drewN | apply Kd.R_drew)); exact HO269.out) (Kd.R_base ho0) hb); have n1_ := Aside0.mk (Kd.R_lower (Kd.R_new' ho0 (Kd.R_lt (by (with_reducible repeat (first | apply Kd.R_alloc | apply Kd.R_drewN | apply Kd.R_drew)); exact HO269.out))) (below_size (by repeat (first | (with_reducible first | exact HB.out | apply below_alloc | apply pw_below_drewN | apply below_drew1) | exact HB.out)))); have n2_ := Aside0.mk (below_step (by repeat (first | (with_reducible first | exact HB.out | apply below_alloc | apply pw_below_drewN | apply below_drew1) | exact HB.out)) hb); clear HO269; clear HB; have HO269 := n0_; have HO273 := n1_; have HB := n2_; clear n0_ n1_ n2_; (try clear hb); (try clear hb2); (try clear hk); (try clear hi); (try clear ho0)) | (go_at_call 12; (with_reducible refine (wringerref7_Norm.calls _ _ t267 (wrap64 (7 + (Int.tmod (wrap64 (a1)) 6))) t274 t277 _ ?side1 ?side2 A8.out).mono ?_); (case side1 => repeat (first | exact (Kd.R_reads' HO269.out).2.2 | (with_reducible refine Kd.C_alloc ?_ _) | (with_reducible refine Kd.C_drewN ?_ _) | (with_reducible refine Kd.C_drew ?_))); (case side2 => exact (Kd.R_reads' HO269.out).2.1); rintro e w13 ⟨v275, rfl, ho0, hb⟩; have n0_ := Aside0.mk (Kd.R_elder' (by (with_reducible repeat (first | apply Kd.R_alloc | apply Kd.R_drewN | apply Kd.R_drew)); exact HO269.out) (Kd.R_base ho0) hb); have n1_ := Aside0.mk (Kd.R_elder' (by (with_reducible repeat (first | apply Kd.R_alloc | apply Kd.R_drewN | apply Kd.R_drew)); exact HO273.out) (Kd.R_base ho0) hb); have n2_ := Aside0.mk (Kd.R_lower (Kd.R_new' (Kd.R_new' ho0 (Kd.R_lt (by (with_reducible repeat (first | apply Kd.R_alloc | apply Kd.R_drewN | apply Kd.R_drew)); exact HO269.out))) (Kd.R_lt (by (with_reducible repeat (first | apply Kd.R_alloc | apply Kd.R_drewN | apply Kd.R_drew)); exact HO273.out))) (below_size (by repeat (first | (with_reducible first | exact HB.out | apply below_alloc | apply pw_below_drewN | apply below_drew1) | exact HB.out)))); have n3_ := Aside0.mk (below_step (by repeat (first | (with_reducible first | exact HB.out | apply below_alloc | apply pw_below_drewN | apply below_drew1) | exact HB.out)) hb); clear HO269; clear HO273; clear HB; have HO269 := n0_; have HO273 := n1_; have HO276 := n2_; have HB := n3_; clear n0_ n1_ n2_ n3_; (try clear hb); (try clear hb2); (try clear hk); (try clear hi); (try clear ho0)) | ((with_reducible refine gate_dst (N := 9) rfl ?_); refine box_event ?hg (N := 9) ?hd (cs := #[.slice none 0 0, .int .i64 0]) (t := 30) ?hr ?_; (case hd => rfl); (case hg => rfl); (case hr => first | (go_simp; done) | (go_simp; rfl)); intro gb278 hg w14 hbox hb; have n0_ := Aside0.mk (Kd.R_below (by (with_reducible repeat (first | apply Kd.R_alloc | apply Kd.R_drewN | apply Kd.R_drew)); exact HO269.out) hb); have n1_ := Aside0.mk (Kd.R_below (by (with_reducible repeat (first | apply Kd.R_alloc | apply Kd.R_drewN | apply Kd.R_drew)); exact HO273.out) hb); have n2_ := Aside0.mk (Kd.R_below (by (with_reducible repeat (first | apply Kd.R_alloc | apply Kd.R_drewN | apply Kd.R_drew)); exact HO276.out) hb); have n3_ := Aside0.mk (below_step (by repeat (first | (with_reducible first | exact HB.out | apply below_alloc | apply pw_below_drewN | apply below_drew1) | exact HB.out)) hb); have n4_ := Aside0.mk (hbox); have n5_ := Aside0.mk ((by rw [hg]; exact (below_size (by repeat (first | (with_reducible first | exact HB.out | apply below_alloc | apply pw_below_drewN | apply below_drew1) | exact HB.out))) : w.heap.size ≤ gb278)); have n6_ := Aside0.mk ((by rw [hg]; exact (below_size (by repeat (first | (with_reducible first | exact HB.out | apply below_alloc | apply pw_below_drewN | apply below_drew1) | exact HB.out))) : w.heap.size ≤ gb278)); clear HO269; clear HO273; clear HO276; clear HB; have HO269 := n0_; have HO273 := n1_; have HO276 := n2_; have HB := n3_; have BK278 := n4_; have GW278 := n5_; have GE278 := n6_; clear n0_ n1_ n2_ n3_ n4_ n5_ n6_; clear hb hbox hg; obtain ⟨Ao15, co15, eo15⟩ := Kd.R_slice HO276.out; subst eo15; have hcz16_0 : w14.cell? ⟨gb278, 0, none⟩ = some (.slice none 0 0) := (blk_cell BK278.out 0).trans rfl; have hcz16_1 : w14.cell? ⟨gb278, 1, none⟩ = some (.int .i64 0) := (blk_cell BK278.out 1).trans rfl; have hfz16_0 := blk_frozen BK278.out 0; have hfz16_1 := blk_frozen BK278.out 1)); go_upto_region 7 with (first | (go_at_call 10; (with_reducible refine (wringerlaw8_Freq.calls k _ _ l0 t267 _ ?side1 ?side2 A6.out).mono ?_); (case side1 => repeat (first | exact HR0.out | (with_reducible refine Kd.C_alloc ?_ _) | (with_reducible refine Kd.C_drewN ?_ _) | (with_reducible refine Kd.C_drew ?_))); (case side2 => exact HC0.out); rintro e w10 ⟨v268, rfl, ho0, hb⟩; have n0_ := Aside0.mk (Kd.R_lower ho0 (below_size (by repeat (first | (with_reducible first | exact HB.out | apply below_alloc | apply pw_below_drewN | apply below_drew1) | exact HB.out)))); have n1_ := Aside0.mk (below_step (by repeat (first | (with_reducible first | exact HB.out | apply below_alloc | apply pw_below_drewN | apply below_drew1) | exact HB.out)) hb); clear HB; have HO269 := n0_; have HB := n1_; clear n0_ n1_; (try clear hb); (try clear hb2); (try clear hk); (try clear hi); (try clear ho0); obtain ⟨Ao11, co11, eo11⟩ := Kd.R_slice HO269.out; subst eo11) | (go_at_call 11; (with_reducible refine (norm_Of.calls _ _ t267 (wrap64 (7 + (Int.tmod (wrap64 (a1)) 6))) t270 t271 _ ?side1 ?side2 A7.out).mono ?_); (case side1 => repeat (first | exact (Kd.R_reads' HO269.out).2.2 | (with_reducible refine Kd.C_alloc ?_ _) | (with_reducible refine Kd.C_drewN ?_ _) | (with_reducible refine Kd.C_drew ?_))); (case side2 => exact (Kd.R_reads' HO269.out).2.1); rintro e w12 ⟨v272, rfl, ho0, hb⟩; have n0_ := Aside0.mk (Kd.R_elder' (by (with_reducible repeat (first | apply Kd.R_alloc | apply Kd.R_drewN | apply Kd.R_drew)); exact HO269.out) (Kd.R_base ho0) hb); have n1_ := Aside0.mk (Kd.R_lower (Kd.R_new' ho0 (Kd.R_lt (by (with_reducible repeat (first | apply Kd.R_alloc | apply Kd.R_drewN | apply Kd.R_drew)); exact HO269.out))) (below_size (by repeat (first | (with_reducible first | exact HB.out | apply below_alloc | apply pw_below_drewN | apply below_drew1) | exact HB.out)))); have n2_ := Aside0.mk (below_step (by repeat (first | (with_reducible first | exact HB.out | apply below_alloc | apply pw_below_drewN | apply below_drew1) | exact HB.out)) hb); clear HO269; clear HB; have HO269 := n0_; have HO273 := n1_; have HB := n2_; clear n0_ n1_ n2_; (try clear hb); (try clear hb2); (try clear hk); (try clear hi); (try clear ho0)) | (go_at_call 12; (with_reducible refine (wringerref7_Norm.calls _ _ t267 (wrap64 (7 + (Int.tmod (wrap64 (a1)) 6))) t274 t277 _ ?side1 ?side2 A8.out).mono ?_); (case side1 => repeat (first | exact (Kd.R_reads' HO269.out).2.2 | (with_reducible refine Kd.C_alloc ?_ _) | (with_reducible refine Kd.C_drewN ?_ _) | (with_reducible refine Kd.C_drew ?_))); (case side2 => exact (Kd.R_reads' HO269.out).2.1); rintro e w13 ⟨v275, rfl, ho0, hb⟩; have n0_ := Aside0.mk (Kd.R_elder' (by (with_reducible repeat (first | apply Kd.R_alloc | apply Kd.R_drewN | apply Kd.R_drew)); exact HO269.out) (Kd.R_base ho0) hb); have n1_ := Aside0.mk (Kd.R_elder' (by (with_reducible repeat (first | apply Kd.R_alloc | apply Kd.R_drewN | apply Kd.R_drew)); exact HO273.out) (Kd.R_base ho0) hb); have n2_ := Aside0.mk (Kd.R_lower (Kd.R_new' (Kd.R_new' ho0 (Kd.R_lt (by (with_reducible repeat (first | apply Kd.R_alloc | apply Kd.R_drewN | apply Kd.R_drew)); exact HO269.out))) (Kd.R_lt (by (with_reducible repeat (first | apply Kd.R_alloc | apply Kd.R_drewN | apply Kd.R_drew)); exact HO273.out))) (below_size (by repeat (first | (with_reducible first | exact HB.out | apply below_alloc | apply pw_below_drewN | apply below_drew1) | exact HB.out)))); have n3_ := Aside0.mk (below_step (by repeat (first | (with_reducible first | exact HB.out | apply below_alloc | apply pw_below_drewN | apply below_drew1) | exact HB.out)) hb); clear HO269; clear HO273; clear HB; have HO269 := n0_; have HO273 := n1_; have HO276 := n2_; have HB := n3_; clear n0_ n1_ n2_ n3_; (try clear hb); (try clear hb2); (try clear hk); (try clear hi); (try clear ho0)) | ((with_reducible refine gate_dst (N := 9) rfl ?_); refine box_event ?hg (N := 9) ?hd (cs := #[.slice none 0 0, .int .i64 0]) (t := 30) ?hr ?_; (case hd => rfl); (case hg => rfl); (case hr => first | (go_simp; done) | (go_simp; rfl)); intro gb278 hg w14 hbox hb; have n0_ := Aside0.mk (Kd.R_below (by (with_reducible repeat (first | apply Kd.R_alloc | apply Kd.R_drewN | apply Kd.R_drew)); exact HO269.out) hb); have n1_ := Aside0.mk (Kd.R_below (by (with_reducible repeat (first | apply Kd.R_alloc | apply Kd.R_drewN | apply Kd.R_drew)); exact HO273.out) hb); have n2_ := Aside0.mk (Kd.R_below (by (with_reducible repeat (first | apply Kd.R_alloc | apply Kd.R_drewN | apply Kd.R_drew)); exact HO276.out) hb); have n3_ := Aside0.mk (below_step (by repeat (first | (with_reducible first | exact HB.out | apply below_alloc | apply pw_below_drewN | apply below_drew1) | exact HB.out)) hb); have n4_ := Aside0.mk (hbox); have n5_ := Aside0.mk ((by rw [hg]; exact (below_size (by repeat (first | (with_reducible first | exact HB.out | apply below_alloc | apply pw_below_drewN | apply below_drew1) | exact HB.out))) : w.heap.size ≤ gb278)); have n6_ := Aside0.mk ((by rw [hg]; exact (below_size (by repeat (first | (with_reducible first | exact HB.out | apply below_alloc | apply pw_below_drewN | apply below_drew1) | exact HB.out))) : w.heap.size ≤ gb278)); clear HO269; clear HO273; clear HO276; clear HB; have HO269 := n0_; have HO273 := n1_; have HO276 := n2_; have HB := n3_; have BK278 := n4_; have GW278 := n5_; have GE278 := n6_; clear n0_ n1_ n2_ n3_ n4_ n5_ n6_; clear hb hbox hg; obtain ⟨Ao15, co15, eo15⟩ := Kd.R_slice HO276.out; subst eo15; have hcz16_0 : w14.cell? ⟨gb278, 0, none⟩ = some (.slice none 0 0) := (blk_cell BK278.out 0).trans rfl; have hcz16_1 : w14.cell? ⟨gb278, 1, none⟩ = some (.int .i64 0) := (blk_cell BK278.out 1).trans rfl; have hfz16_0 := blk_frozen BK278.out 0; have hfz16_1 := blk_frozen BK278.out 1)))
    (try simp only [Act.put, List.setIfInBounds_toArray, List.set_cons_zero, List.set_cons_succ])
    go_cut [42] (fun v42 wc => ∃ (kq : Nat) (x42_8 : Bool), v42 = .bool x42_8 ∧ Aside0 (wringerlaw12_NormMade.j0 kq t267 (wrap64 (7 + (Int.tmod (wrap64 (a1)) 6))) t270 x42_8 t274 t277 = some r) ∧ Aside0 (kq ≤ k) ∧ Aside0 (Kd.R (Kd.int .i64) 3 wc w.heap.size (fun k_ => some k_ ≠ (v272 : Value).ownBlock ∧ some k_ ≠ ((.slice Ao15 t274.length co15) : Value).ownBlock) (.slice Ao11 t267.length co11) t267) ∧ Aside0 (Kd.R (Kd.int .i64) 3 wc w.heap.size (fun k_ => some k_ ≠ ((.slice Ao11 t267.length co11) : Value).ownBlock ∧ some k_ ≠ ((.slice Ao15 t274.length co15) : Value).ownBlock) v272 t270) ∧ Aside0 (Kd.R (Kd.int .i64) 3 wc w.heap.size (fun k_ => some k_ ≠ ((.slice Ao11 t267.length co11) : Value).ownBlock ∧ some k_ ≠ (v272 : Value).ownBlock) (.slice Ao15 t274.length co15) t274) ∧ Aside0 (wc.heap[gb278]? = some (.cells #[(.slice Ao15 t274.length co15), .int .i64 t277] 30 (0, 0))) ∧ Aside0 (Below w.heap.size w wc))
    case first =>
      have H := HC9.out
      clear HC9
      replace H := Option.bind_eq_some_iff.mp H
      obtain ⟨t279, A170, H⟩ := H
      replace H : (if t279 = true then ((wringerlaw1_Err.f t271).bind fun t280 => (wringerlaw12_NormMade.j0 k t267 (wrap64 (7 + (Int.tmod (wrap64 (a1)) 6))) t270 (t280 != t277) t274 t277)) else (wringerlaw12_NormMade.j0 k t267 (wrap64 (7 + (Int.tmod (wrap64 (a1)) 6))) t270 true t274 t277)) = some r := H
      have A17 := Aside0.mk A170
      clear A170
      by_cases c18 : t279 = true
      · subst c18
        have H1 : ((wringerlaw1_Err.f t271).bind fun t280 => (wringerlaw12_NormMade.j0 k t267 (wrap64 (7 + (Int.tmod (wrap64 (a1)) 6))) t270 (t280 != t277) t274 t277)) = some r := by rw [if_pos rfl] at H; exact H
        clear H
        have H := H1
        clear H1
        replace H := Option.bind_eq_some_iff.mp H
        obtain ⟨t280, A190, H⟩ := H
        replace H : (wringerlaw12_NormMade.j0 k t267 (wrap64 (7 + (Int.tmod (wrap64 (a1)) 6))) t270 (t280 != t277) t274 t277) = some r := H
        have A19 := Aside0.mk A190
        clear A190
        have H' := Aside0.mk H
        clear H
        have hcz20_0 : w14.cell? ⟨gb278, 0, none⟩ = some (.slice none 0 0) := (blk_cell BK278.out 0).trans rfl
        have hcz20_1 : w14.cell? ⟨gb278, 1, none⟩ = some (.int .i64 0) := (blk_cell BK278.out 1).trans rfl
        have hfz20_0 := blk_frozen BK278.out 0
        have hfz20_1 := blk_frozen BK278.out 1
        obtain ⟨Ao21, co21, eo21⟩ := Kd.R_slice HO273.out
        subst eo21
        go_wp2_with (first | (go_at_call 13; (with_reducible refine (wringerref7_SameInts.calls k _ _ t270 _ _ t274 true _ ?side1 ?side2 ?side3 ?side4 A17.out).mono ?_); (case side1 => refine (Kd.R_reads' (e := 3) (base := w.heap.size) (ok := fun k_ => ((True ∧ some k_ ≠ (.slice Ao11 t267.length co11 : Value).ownBlock) ∧ some k_ ≠ (.slice Ao15 t274.length co15 : Value).ownBlock)) (n := t270.length) (c := co21) ?_).2.2; exact (by (with_reducible repeat (first | apply Kd.R_alloc | apply Kd.R_drewN | apply Kd.R_drew)); exact (Kd.R_mono (Kd.R_far (p := ⟨gb278, 1, none⟩) (Kd.R_far (p := ⟨gb278, 0, none⟩) (Kd.R_types HO273.out BK278.out (by decide)) (fun _ hk => hk.2) (.slice Ao15 t274.length co15)) (fun _ hk => hk.2) (.int .i64 t277)) (fun _ h_ => h_.1)))); (case side2 => exact (Kd.R_reads' HO273.out).2.1); (case side3 => refine (Kd.R_reads' (e := 3) (base := w.heap.size) (ok := fun k_ => ((True ∧ some k_ ≠ (.slice Ao11 t267.length co11 : Value).ownBlock) ∧ some k_ ≠ (.slice Ao21 t270.length co21 : Value).ownBlock)) (n := t274.length) (c := co15) ?_).2.2; exact (by (with_reducible repeat (first | apply Kd.R_alloc | apply Kd.R_drewN | apply Kd.R_drew)); exact (Kd.R_mono (Kd.R_far (p := ⟨gb278, 1, none⟩) (Kd.R_far (p := ⟨gb278, 0, none⟩) (Kd.R_types HO276.out BK278.out (by decide)) (fun _ hk => hk.2) (.slice Ao15 t274.length co15)) (fun _ hk => hk.2) (.int .i64 t277)) (fun _ h_ => h_.1)))); (case side4 => exact (Kd.R_reads' HO276.out).2.1); rintro e w' ⟨rfl, ⟨nd, rfl⟩⟩; (try first | exact ⟨rfl, _, World.drewN_drewN _ _ _⟩ | exact ⟨rfl, _, Eq.trans (World.drewN_drewN _ _ _) (congrArg (World.drewN _) (Nat.add_assoc _ _ _))⟩)) | (go_at_call 14; (with_reducible refine (wringerlaw1_Err.calls t271 t280 _ A19.out).mono ?_); rintro e w' ⟨rfl, ⟨nd, rfl⟩⟩; (try first | exact ⟨rfl, _, World.drewN_drewN _ _ _⟩ | exact ⟨rfl, _, Eq.trans (World.drewN_drewN _ _ _) (congrArg (World.drewN _) (Nat.add_assoc _ _ _))⟩)))
        repeat (go_quiet (first | (go_at_call 13; (with_reducible refine (wringerref7_SameInts.calls k _ _ t270 _ _ t274 true _ ?side1 ?side2 ?side3 ?side4 A17.out).mono ?_); (case side1 => refine (Kd.R_reads' (e := 3) (base := w.heap.size) (ok := fun k_ => ((True ∧ some k_ ≠ (.slice Ao11 t267.length co11 : Value).ownBlock) ∧ some k_ ≠ (.slice Ao15 t274.length co15 : Value).ownBlock)) (n := t270.length) (c := co21) ?_).2.2; exact (by (with_reducible repeat (first | apply Kd.R_alloc | apply Kd.R_drewN | apply Kd.R_drew)); exact (Kd.R_mono (Kd.R_far (p := ⟨gb278, 1, none⟩) (Kd.R_far (p := ⟨gb278, 0, none⟩) (Kd.R_types HO273.out BK278.out (by decide)) (fun _ hk => hk.2) (.slice Ao15 t274.length co15)) (fun _ hk => hk.2) (.int .i64 t277)) (fun _ h_ => h_.1)))); (case side2 => exact (Kd.R_reads' HO273.out).2.1); (case side3 => refine (Kd.R_reads' (e := 3) (base := w.heap.size) (ok := fun k_ => ((True ∧ some k_ ≠ (.slice Ao11 t267.length co11 : Value).ownBlock) ∧ some k_ ≠ (.slice Ao21 t270.length co21 : Value).ownBlock)) (n := t274.length) (c := co15) ?_).2.2; exact (by (with_reducible repeat (first | apply Kd.R_alloc | apply Kd.R_drewN | apply Kd.R_drew)); exact (Kd.R_mono (Kd.R_far (p := ⟨gb278, 1, none⟩) (Kd.R_far (p := ⟨gb278, 0, none⟩) (Kd.R_types HO276.out BK278.out (by decide)) (fun _ hk => hk.2) (.slice Ao15 t274.length co15)) (fun _ hk => hk.2) (.int .i64 t277)) (fun _ h_ => h_.1)))); (case side4 => exact (Kd.R_reads' HO276.out).2.1); rintro e w' ⟨rfl, ⟨nd, rfl⟩⟩; (try first | exact ⟨rfl, _, World.drewN_drewN _ _ _⟩ | exact ⟨rfl, _, Eq.trans (World.drewN_drewN _ _ _) (congrArg (World.drewN _) (Nat.add_assoc _ _ _))⟩)) | (go_at_call 14; (with_reducible refine (wringerlaw1_Err.calls t271 t280 _ A19.out).mono ?_); rintro e w' ⟨rfl, ⟨nd, rfl⟩⟩; (try first | exact ⟨rfl, _, World.drewN_drewN _ _ _⟩ | exact ⟨rfl, _, Eq.trans (World.drewN_drewN _ _ _) (congrArg (World.drewN _) (Nat.add_assoc _ _ _))⟩))); try go_wp2_with (first | (go_at_call 13; (with_reducible refine (wringerref7_SameInts.calls k _ _ t270 _ _ t274 true _ ?side1 ?side2 ?side3 ?side4 A17.out).mono ?_); (case side1 => refine (Kd.R_reads' (e := 3) (base := w.heap.size) (ok := fun k_ => ((True ∧ some k_ ≠ (.slice Ao11 t267.length co11 : Value).ownBlock) ∧ some k_ ≠ (.slice Ao15 t274.length co15 : Value).ownBlock)) (n := t270.length) (c := co21) ?_).2.2; exact (by (with_reducible repeat (first | apply Kd.R_alloc | apply Kd.R_drewN | apply Kd.R_drew)); exact (Kd.R_mono (Kd.R_far (p := ⟨gb278, 1, none⟩) (Kd.R_far (p := ⟨gb278, 0, none⟩) (Kd.R_types HO273.out BK278.out (by decide)) (fun _ hk => hk.2) (.slice Ao15 t274.length co15)) (fun _ hk => hk.2) (.int .i64 t277)) (fun _ h_ => h_.1)))); (case side2 => exact (Kd.R_reads' HO273.out).2.1); (case side3 => refine (Kd.R_reads' (e := 3) (base := w.heap.size) (ok := fun k_ => ((True ∧ some k_ ≠ (.slice Ao11 t267.length co11 : Value).ownBlock) ∧ some k_ ≠ (.slice Ao21 t270.length co21 : Value).ownBlock)) (n := t274.length) (c := co15) ?_).2.2; exact (by (with_reducible repeat (first | apply Kd.R_alloc | apply Kd.R_drewN | apply Kd.R_drew)); exact (Kd.R_mono (Kd.R_far (p := ⟨gb278, 1, none⟩) (Kd.R_far (p := ⟨gb278, 0, none⟩) (Kd.R_types HO276.out BK278.out (by decide)) (fun _ hk => hk.2) (.slice Ao15 t274.length co15)) (fun _ hk => hk.2) (.int .i64 t277)) (fun _ h_ => h_.1)))); (case side4 => exact (Kd.R_reads' HO276.out).2.1); rintro e w' ⟨rfl, ⟨nd, rfl⟩⟩; (try first | exact ⟨rfl, _, World.drewN_drewN _ _ _⟩ | exact ⟨rfl, _, Eq.trans (World.drewN_drewN _ _ _) (congrArg (World.drewN _) (Nat.add_assoc _ _ _))⟩)) | (go_at_call 14; (with_reducible refine (wringerlaw1_Err.calls t271 t280 _ A19.out).mono ?_); rintro e w' ⟨rfl, ⟨nd, rfl⟩⟩; (try first | exact ⟨rfl, _, World.drewN_drewN _ _ _⟩ | exact ⟨rfl, _, Eq.trans (World.drewN_drewN _ _ _) (congrArg (World.drewN _) (Nat.add_assoc _ _ _))⟩))))
        go_meet
        case rel => exact ⟨_, ((t280 != t277)), (by first | rfl | (simp; done) | (simp [*]; done)), H', ⟨by first | omega | exact Nat.le_refl _⟩, ⟨by (with_reducible repeat (first | apply Kd.R_alloc | apply Kd.R_drewN | apply Kd.R_drew)); exact Kd.R_mono (Kd.R_far (p := ⟨gb278, 1, none⟩) (Kd.R_far (p := ⟨gb278, 0, none⟩) (Kd.R_types HO269.out BK278.out (by decide)) (fun _ hk => hk.2) (.slice Ao15 t274.length co15)) (fun _ hk => hk.2) (.int .i64 t277)) (fun _ hk => ⟨hk.1.1.2, hk.1.2⟩)⟩, ⟨by (with_reducible repeat (first | apply Kd.R_alloc | apply Kd.R_drewN | apply Kd.R_drew)); exact Kd.R_mono (Kd.R_far (p := ⟨gb278, 1, none⟩) (Kd.R_far (p := ⟨gb278, 0, none⟩) (Kd.R_types HO273.out BK278.out (by decide)) (fun _ hk => hk.2) (.slice Ao15 t274.length co15)) (fun _ hk => hk.2) (.int .i64 t277)) (fun _ hk => ⟨hk.1.1.2, hk.1.2⟩)⟩, ⟨by (with_reducible repeat (first | apply Kd.R_alloc | apply Kd.R_drewN | apply Kd.R_drew)); exact Kd.R_mono (Kd.R_far (p := ⟨gb278, 1, none⟩) (Kd.R_far (p := ⟨gb278, 0, none⟩) (Kd.R_types HO276.out BK278.out (by decide)) (fun _ hk => hk.2) (.slice Ao15 t274.length co15)) (fun _ hk => hk.2) (.int .i64 t277)) (fun _ hk => ⟨hk.1.1.2, hk.1.2⟩)⟩, ⟨by (with_reducible repeat (first | refine blk_drewN ?_ _ | refine blk_drew ?_ | refine blk_alloc ?_ _)); refine blk_put (cs := #[.slice Ao15 t274.length co15, .int .i64 0]) ?_ 1 _ rfl; (with_reducible repeat (first | refine blk_drewN ?_ _ | refine blk_drew ?_ | refine blk_alloc ?_ _)); refine blk_put (cs := #[.slice none 0 0, .int .i64 0]) ?_ 0 _ rfl; (with_reducible repeat (first | refine blk_drewN ?_ _ | refine blk_drew ?_ | refine blk_alloc ?_ _)); exact BK278.out⟩, ⟨by repeat (first | (with_reducible first | exact HB.out | apply below_alloc | apply pw_below_drewN | apply below_drew1 | refine below_set ?_ GE278.out) | exact HB.out)⟩⟩
      · replace c18 := Bool.eq_false_iff.mpr c18
        subst c18
        have H1 : (wringerlaw12_NormMade.j0 k t267 (wrap64 (7 + (Int.tmod (wrap64 (a1)) 6))) t270 true t274 t277) = some r := by rw [if_neg (show ¬ (false = true) by decide)] at H; exact H
        clear H
        have H := H1
        clear H1
        have H' := Aside0.mk H
        clear H
        have hcz22_0 : w14.cell? ⟨gb278, 0, none⟩ = some (.slice none 0 0) := (blk_cell BK278.out 0).trans rfl
        have hcz22_1 : w14.cell? ⟨gb278, 1, none⟩ = some (.int .i64 0) := (blk_cell BK278.out 1).trans rfl
        have hfz22_0 := blk_frozen BK278.out 0
        have hfz22_1 := blk_frozen BK278.out 1
        obtain ⟨Ao23, co23, eo23⟩ := Kd.R_slice HO273.out
        subst eo23
        go_wp2_with (first | (go_at_call 13; (with_reducible refine (wringerref7_SameInts.calls k _ _ t270 _ _ t274 false _ ?side1 ?side2 ?side3 ?side4 A17.out).mono ?_); (case side1 => refine (Kd.R_reads' (e := 3) (base := w.heap.size) (ok := fun k_ => ((True ∧ some k_ ≠ (.slice Ao11 t267.length co11 : Value).ownBlock) ∧ some k_ ≠ (.slice Ao15 t274.length co15 : Value).ownBlock)) (n := t270.length) (c := co23) ?_).2.2; exact (by (with_reducible repeat (first | apply Kd.R_alloc | apply Kd.R_drewN | apply Kd.R_drew)); exact (Kd.R_mono (Kd.R_far (p := ⟨gb278, 1, none⟩) (Kd.R_far (p := ⟨gb278, 0, none⟩) (Kd.R_types HO273.out BK278.out (by decide)) (fun _ hk => hk.2) (.slice Ao15 t274.length co15)) (fun _ hk => hk.2) (.int .i64 t277)) (fun _ h_ => h_.1)))); (case side2 => exact (Kd.R_reads' HO273.out).2.1); (case side3 => refine (Kd.R_reads' (e := 3) (base := w.heap.size) (ok := fun k_ => ((True ∧ some k_ ≠ (.slice Ao11 t267.length co11 : Value).ownBlock) ∧ some k_ ≠ (.slice Ao23 t270.length co23 : Value).ownBlock)) (n := t274.length) (c := co15) ?_).2.2; exact (by (with_reducible repeat (first | apply Kd.R_alloc | apply Kd.R_drewN | apply Kd.R_drew)); exact (Kd.R_mono (Kd.R_far (p := ⟨gb278, 1, none⟩) (Kd.R_far (p := ⟨gb278, 0, none⟩) (Kd.R_types HO276.out BK278.out (by decide)) (fun _ hk => hk.2) (.slice Ao15 t274.length co15)) (fun _ hk => hk.2) (.int .i64 t277)) (fun _ h_ => h_.1)))); (case side4 => exact (Kd.R_reads' HO276.out).2.1); rintro e w' ⟨rfl, ⟨nd, rfl⟩⟩; (try first | exact ⟨rfl, _, World.drewN_drewN _ _ _⟩ | exact ⟨rfl, _, Eq.trans (World.drewN_drewN _ _ _) (congrArg (World.drewN _) (Nat.add_assoc _ _ _))⟩)))
        repeat (go_quiet (first | (go_at_call 13; (with_reducible refine (wringerref7_SameInts.calls k _ _ t270 _ _ t274 false _ ?side1 ?side2 ?side3 ?side4 A17.out).mono ?_); (case side1 => refine (Kd.R_reads' (e := 3) (base := w.heap.size) (ok := fun k_ => ((True ∧ some k_ ≠ (.slice Ao11 t267.length co11 : Value).ownBlock) ∧ some k_ ≠ (.slice Ao15 t274.length co15 : Value).ownBlock)) (n := t270.length) (c := co23) ?_).2.2; exact (by (with_reducible repeat (first | apply Kd.R_alloc | apply Kd.R_drewN | apply Kd.R_drew)); exact (Kd.R_mono (Kd.R_far (p := ⟨gb278, 1, none⟩) (Kd.R_far (p := ⟨gb278, 0, none⟩) (Kd.R_types HO273.out BK278.out (by decide)) (fun _ hk => hk.2) (.slice Ao15 t274.length co15)) (fun _ hk => hk.2) (.int .i64 t277)) (fun _ h_ => h_.1)))); (case side2 => exact (Kd.R_reads' HO273.out).2.1); (case side3 => refine (Kd.R_reads' (e := 3) (base := w.heap.size) (ok := fun k_ => ((True ∧ some k_ ≠ (.slice Ao11 t267.length co11 : Value).ownBlock) ∧ some k_ ≠ (.slice Ao23 t270.length co23 : Value).ownBlock)) (n := t274.length) (c := co15) ?_).2.2; exact (by (with_reducible repeat (first | apply Kd.R_alloc | apply Kd.R_drewN | apply Kd.R_drew)); exact (Kd.R_mono (Kd.R_far (p := ⟨gb278, 1, none⟩) (Kd.R_far (p := ⟨gb278, 0, none⟩) (Kd.R_types HO276.out BK278.out (by decide)) (fun _ hk => hk.2) (.slice Ao15 t274.length co15)) (fun _ hk => hk.2) (.int .i64 t277)) (fun _ h_ => h_.1)))); (case side4 => exact (Kd.R_reads' HO276.out).2.1); rintro e w' ⟨rfl, ⟨nd, rfl⟩⟩; (try first | exact ⟨rfl, _, World.drewN_drewN _ _ _⟩ | exact ⟨rfl, _, Eq.trans (World.drewN_drewN _ _ _) (congrArg (World.drewN _) (Nat.add_assoc _ _ _))⟩))); try go_wp2_with (first | (go_at_call 13; (with_reducible refine (wringerref7_SameInts.calls k _ _ t270 _ _ t274 false _ ?side1 ?side2 ?side3 ?side4 A17.out).mono ?_); (case side1 => refine (Kd.R_reads' (e := 3) (base := w.heap.size) (ok := fun k_ => ((True ∧ some k_ ≠ (.slice Ao11 t267.length co11 : Value).ownBlock) ∧ some k_ ≠ (.slice Ao15 t274.length co15 : Value).ownBlock)) (n := t270.length) (c := co23) ?_).2.2; exact (by (with_reducible repeat (first | apply Kd.R_alloc | apply Kd.R_drewN | apply Kd.R_drew)); exact (Kd.R_mono (Kd.R_far (p := ⟨gb278, 1, none⟩) (Kd.R_far (p := ⟨gb278, 0, none⟩) (Kd.R_types HO273.out BK278.out (by decide)) (fun _ hk => hk.2) (.slice Ao15 t274.length co15)) (fun _ hk => hk.2) (.int .i64 t277)) (fun _ h_ => h_.1)))); (case side2 => exact (Kd.R_reads' HO273.out).2.1); (case side3 => refine (Kd.R_reads' (e := 3) (base := w.heap.size) (ok := fun k_ => ((True ∧ some k_ ≠ (.slice Ao11 t267.length co11 : Value).ownBlock) ∧ some k_ ≠ (.slice Ao23 t270.length co23 : Value).ownBlock)) (n := t274.length) (c := co15) ?_).2.2; exact (by (with_reducible repeat (first | apply Kd.R_alloc | apply Kd.R_drewN | apply Kd.R_drew)); exact (Kd.R_mono (Kd.R_far (p := ⟨gb278, 1, none⟩) (Kd.R_far (p := ⟨gb278, 0, none⟩) (Kd.R_types HO276.out BK278.out (by decide)) (fun _ hk => hk.2) (.slice Ao15 t274.length co15)) (fun _ hk => hk.2) (.int .i64 t277)) (fun _ h_ => h_.1)))); (case side4 => exact (Kd.R_reads' HO276.out).2.1); rintro e w' ⟨rfl, ⟨nd, rfl⟩⟩; (try first | exact ⟨rfl, _, World.drewN_drewN _ _ _⟩ | exact ⟨rfl, _, Eq.trans (World.drewN_drewN _ _ _) (congrArg (World.drewN _) (Nat.add_assoc _ _ _))⟩))))
        go_meet
        case rel => exact ⟨_, (true), (by first | rfl | (simp; done) | (simp [*]; done)), H', ⟨by first | omega | exact Nat.le_refl _⟩, ⟨by (with_reducible repeat (first | apply Kd.R_alloc | apply Kd.R_drewN | apply Kd.R_drew)); exact Kd.R_mono (Kd.R_far (p := ⟨gb278, 1, none⟩) (Kd.R_far (p := ⟨gb278, 0, none⟩) (Kd.R_types HO269.out BK278.out (by decide)) (fun _ hk => hk.2) (.slice Ao15 t274.length co15)) (fun _ hk => hk.2) (.int .i64 t277)) (fun _ hk => ⟨hk.1.1.2, hk.1.2⟩)⟩, ⟨by (with_reducible repeat (first | apply Kd.R_alloc | apply Kd.R_drewN | apply Kd.R_drew)); exact Kd.R_mono (Kd.R_far (p := ⟨gb278, 1, none⟩) (Kd.R_far (p := ⟨gb278, 0, none⟩) (Kd.R_types HO273.out BK278.out (by decide)) (fun _ hk => hk.2) (.slice Ao15 t274.length co15)) (fun _ hk => hk.2) (.int .i64 t277)) (fun _ hk => ⟨hk.1.1.2, hk.1.2⟩)⟩, ⟨by (with_reducible repeat (first | apply Kd.R_alloc | apply Kd.R_drewN | apply Kd.R_drew)); exact Kd.R_mono (Kd.R_far (p := ⟨gb278, 1, none⟩) (Kd.R_far (p := ⟨gb278, 0, none⟩) (Kd.R_types HO276.out BK278.out (by decide)) (fun _ hk => hk.2) (.slice Ao15 t274.length co15)) (fun _ hk => hk.2) (.int .i64 t277)) (fun _ hk => ⟨hk.1.1.2, hk.1.2⟩)⟩, ⟨by (with_reducible repeat (first | refine blk_drewN ?_ _ | refine blk_drew ?_ | refine blk_alloc ?_ _)); refine blk_put (cs := #[.slice Ao15 t274.length co15, .int .i64 0]) ?_ 1 _ rfl; (with_reducible repeat (first | refine blk_drewN ?_ _ | refine blk_drew ?_ | refine blk_alloc ?_ _)); refine blk_put (cs := #[.slice none 0 0, .int .i64 0]) ?_ 0 _ rfl; (with_reducible repeat (first | refine blk_drewN ?_ _ | refine blk_drew ?_ | refine blk_alloc ?_ _)); exact BK278.out⟩, ⟨by repeat (first | (with_reducible first | exact HB.out | apply below_alloc | apply pw_below_drewN | apply below_drew1 | refine below_set ?_ GE278.out) | exact HB.out)⟩⟩
    case rest =>
      clear HC9
      try clear c1
      try clear p2
      try clear c3
      try clear c3b0
      try clear c3b1
      try clear p6
      try clear c18
      try clear hcz16_0
      try clear hcz16_1
      try clear hcz20_0
      try clear hcz20_1
      try clear hcz22_0
      try clear hcz22_1
      try clear hfz16_0
      try clear hfz16_1
      try clear hfz20_0
      try clear hfz20_1
      try clear hfz22_0
      try clear hfz22_1
      obtain ⟨kq, x42_8, rfl, HA, HJ8, HO_5, HO_7, HO_279000, BK278, HB⟩ := hcut
      cases kq with
      | zero => exact absurd HA.out (by simp [wringerlaw12_NormMade.j0])
      | succ kj8 =>
        have H := HA.out
        clear HA
        simp only [wringerlaw12_NormMade.j0] at H
        by_cases c24 : x42_8 = true
        · subst c24
          have H1 : (some false) = some r := by rw [if_pos rfl] at H; exact H
          clear H
          have H := H1
          clear H1
          obtain rfl := Option.some.inj H
          go_wp2
          repeat (go_quiet (fail); try go_wp2)
          go_ret
          exact ⟨by first | rfl | (simp [errW_none, errW_some] <;> rfl) | (simp [*, errW_none, errW_some] <;> rfl), by repeat (first | (with_reducible first | exact HB.out | apply below_alloc | apply pw_below_drewN | apply below_drew1 | refine below_set ?_ GE278.out) | exact HB.out)⟩
        · replace c24 := Bool.eq_false_iff.mpr c24
          subst c24
          have H1 : (if t277 = 0 then (wringerlaw12_NormMade.l0 kj8 t267 (wrap64 (7 + (Int.tmod (wrap64 (a1)) 6))) t270 0) else (if t277 = 1 then ((wringerlaw12_awake.f kj8).bind fun t281 => (some t281)) else (some false))) = some r := by rw [if_neg (show ¬ (false = true) by decide)] at H; exact H
          clear H
          have H := H1
          clear H1
          by_cases c25 : t277 = 0
          · rw [if_pos c25] at H
            have c25b0 : (t277 == 0) = true := beq_iff_eq.mpr c25
            have c25b1 : (t277 != 0) = false := bne_eq_false_iff_eq.mpr c25
            clear c25
            have H' := Aside0.mk H
            clear H
            have hcz26_0 : wc.cell? ⟨gb278, 0, none⟩ = some (.slice Ao15 t274.length co15) := (blk_cell BK278.out 0).trans rfl
            have hcz26_1 : wc.cell? ⟨gb278, 1, none⟩ = some (.int .i64 t277) := (blk_cell BK278.out 1).trans rfl
            have hfz26_0 := blk_frozen BK278.out 0
            have hfz26_1 := blk_frozen BK278.out 1
            go_wp2
            repeat (go_quiet (fail); try go_wp2)
            go_loopg [10] kj8 (fun kq v10 w' => ∃ (x10_2 : Int), v10 = .int .i64 x10_2 ∧ Aside0 (wringerlaw12_NormMade.l0 kq t267 (wrap64 (7 + (Int.tmod (wrap64 (a1)) 6))) t270 x10_2 = some r) ∧ Aside0 (kq ≤ kj8) ∧ Aside0 (Kd.R (Kd.int .i64) 3 w' w.heap.size (fun k_ => some k_ ≠ (v272 : Value).ownBlock ∧ some k_ ≠ ((.slice Ao15 t274.length co15) : Value).ownBlock) (.slice Ao11 t267.length co11) t267) ∧ Aside0 (Kd.R (Kd.int .i64) 3 w' w.heap.size (fun k_ => some k_ ≠ ((.slice Ao11 t267.length co11) : Value).ownBlock ∧ some k_ ≠ ((.slice Ao15 t274.length co15) : Value).ownBlock) v272 t270) ∧ Aside0 (Kd.R (Kd.int .i64) 3 w' w.heap.size (fun k_ => some k_ ≠ ((.slice Ao11 t267.length co11) : Value).ownBlock ∧ some k_ ≠ (v272 : Value).ownBlock) (.slice Ao15 t274.length co15) t274) ∧ Aside0 (w'.heap[gb278]? = some (.cells #[(.slice Ao15 t274.length co15), .int .i64 t277] 30 (0, 0))) ∧ Aside0 (Below w.heap.size w w'))
            case atStart => exact ⟨(0), (by first | rfl | (simp; done) | (simp [*]; done)), H', ⟨Nat.le_refl _⟩, ⟨by (with_reducible repeat (first | apply Kd.R_alloc | apply Kd.R_drewN | apply Kd.R_drew)); exact HO_5.out⟩, ⟨by (with_reducible repeat (first | apply Kd.R_alloc | apply Kd.R_drewN | apply Kd.R_drew)); exact HO_7.out⟩, ⟨by (with_reducible repeat (first | apply Kd.R_alloc | apply Kd.R_drewN | apply Kd.R_drew)); exact HO_279000.out⟩, ⟨by (with_reducible repeat (first | refine blk_drewN ?_ _ | refine blk_drew ?_ | refine blk_alloc ?_ _)); exact BK278.out⟩, ⟨by repeat (first | (with_reducible first | exact HB.out | apply below_alloc | apply pw_below_drewN | apply below_drew1 | refine below_set ?_ GE278.out) | exact HB.out)⟩⟩
            case round =>
              clear H'
              try clear c1
              try clear c2
              try clear p2
              try clear c3
              try clear c3b0
              try clear c3b1
              try clear p6
              try clear c18
              try clear c24
              try clear c25
              try clear c25b0
              try clear c25b1
              try clear hcz16_0
              try clear hcz16_1
              try clear hcz20_0
              try clear hcz20_1
              try clear hcz22_0
              try clear hcz22_1
              try clear hcz26_0
              try clear hcz26_1
              try clear hfz16_0
              try clear hfz16_1
              try clear hfz20_0
              try clear hfz20_1
              try clear hfz22_0
              try clear hfz22_1
              try clear hfz26_0
              try clear hfz26_1
              try clear p2
              try clear p6
              obtain ⟨x10_2, rfl, HA, HK2, HO_5, HO_7, HO_279000, BK278, HB⟩ := hrel
              cases gk with
              | zero => exact absurd HA.out (by simp [wringerlaw12_NormMade.l0])
              | succ k2 =>
                have H := HA.out
                clear HA
                simp only [wringerlaw12_NormMade.l0] at H
                by_cases c27 : x10_2 < 65
                · rw [if_pos c27] at H
                  have c27b0 : decide (x10_2 < 65) = true := decide_eq_true c27
                  clear c27
                  by_cases c28 : 0 ≤ x10_2
                  · rw [if_pos c28] at H
                    have c28b0 : decide (0 ≤ x10_2) = true := decide_eq_true c28
                    clear c28
                    by_cases c29 : x10_2 < (t270.length : Int)
                    · rw [if_pos c29] at H
                      have c29b0 : decide (x10_2 < (t270.length : Int)) = true := decide_eq_true c29
                      clear c29
                      by_cases c30 : x10_2 < (t267.length : Int)
                      · rw [if_pos c30] at H
                        have c30b0 : decide (x10_2 < (t267.length : Int)) = true := decide_eq_true c30
                        clear c30
                        by_cases c31 : ((decide ((rd t270 x10_2) > 0)) != (decide ((rd t267 x10_2) > 0))) = true
                        · rw [if_pos c31] at H
                          have c31b0 : ((decide ((rd t270 x10_2) > 0)) != (decide ((rd t267 x10_2) > 0))) = true := c31
                          (try (have c31b1 : decide ((decide ((rd t270 x10_2) > 0)) = (decide ((rd t267 x10_2) > 0))) = false := by simpa using c31))
                          (try (have c31b2 : ((decide ((rd t270 x10_2) > 0)) == (decide ((rd t267 x10_2) > 0))) = false := by simpa using c31))
                          (try (have c31b3 : ¬ ((decide ((rd t270 x10_2) > 0)) = (decide ((rd t267 x10_2) > 0))) := by simpa using c31))
                          clear c31
                          obtain rfl := Option.some.inj H
                          obtain ⟨Ao32, co32, eo32⟩ := Kd.R_slice HO_7.out
                          subst eo32
                          have p284 : 0 ≤ (x10_2 : Int) := of_decide_eq_true (by first | (with_reducible assumption) | assumption)
                          have q284 : x10_2 < (t270.length : Int) := of_decide_eq_true (by first | (with_reducible assumption) | assumption)
                          obtain ⟨ad284, e284, hx284_0⟩ := Kd.at_int (Kd.R_reads' HO_7.out).2.2 x10_2 p284 q284
                          cases e284
                          replace p284 := eq_true p284
                          replace q284 := eq_true q284
                          have p285 : 0 ≤ (x10_2 : Int) := of_decide_eq_true (by first | (with_reducible assumption) | assumption)
                          have q285 : x10_2 < (t267.length : Int) := of_decide_eq_true (by first | (with_reducible assumption) | assumption)
                          obtain ⟨ad285, e285, hx285_0⟩ := Kd.at_int (Kd.R_reads' HO_5.out).2.2 x10_2 p285 q285
                          cases e285
                          replace p285 := eq_true p285
                          replace q285 := eq_true q285
                          go_wp2
                          repeat (go_quiet (fail); try go_wp2)
                          go_ret
                          exact ⟨by first | rfl | (simp [errW_none, errW_some] <;> rfl) | (simp [*, errW_none, errW_some] <;> rfl), by repeat (first | (with_reducible first | exact HB.out | apply below_alloc | apply pw_below_drewN | apply below_drew1 | refine below_set ?_ GE278.out) | exact HB.out)⟩
                        · rw [if_neg c31] at H
                          have c31b0 : ((decide ((rd t270 x10_2) > 0)) != (decide ((rd t267 x10_2) > 0))) = false := by simpa using c31
                          (try (have c31b1 : decide ((decide ((rd t270 x10_2) > 0)) = (decide ((rd t267 x10_2) > 0))) = true := by simpa using c31))
                          (try (have c31b2 : ((decide ((rd t270 x10_2) > 0)) == (decide ((rd t267 x10_2) > 0))) = true := by simpa using c31))
                          clear c31
                          have H' := Aside0.mk H
                          clear H
                          obtain ⟨Ao33, co33, eo33⟩ := Kd.R_slice HO_7.out
                          subst eo33
                          have p284 : 0 ≤ (x10_2 : Int) := of_decide_eq_true (by first | (with_reducible assumption) | assumption)
                          have q284 : x10_2 < (t270.length : Int) := of_decide_eq_true (by first | (with_reducible assumption) | assumption)
                          obtain ⟨ad284, e284, hx284_0⟩ := Kd.at_int (Kd.R_reads' HO_7.out).2.2 x10_2 p284 q284
                          cases e284
                          replace p284 := eq_true p284
                          replace q284 := eq_true q284
                          have p285 : 0 ≤ (x10_2 : Int) := of_decide_eq_true (by first | (with_reducible assumption) | assumption)
                          have q285 : x10_2 < (t267.length : Int) := of_decide_eq_true (by first | (with_reducible assumption) | assumption)
                          obtain ⟨ad285, e285, hx285_0⟩ := Kd.at_int (Kd.R_reads' HO_5.out).2.2 x10_2 p285 q285
                          cases e285
                          replace p285 := eq_true p285
                          replace q285 := eq_true q285
                          go_wp2
                          repeat (go_quiet (fail); try go_wp2)
                          go_loopg [11] k2 (fun kq v11 w' => ∃ (x11_3 : Int), v11 = .int .i64 x11_3 ∧ Aside0 (wringerlaw12_NormMade.l1 kq t267 (wrap64 (7 + (Int.tmod (wrap64 (a1)) 6))) t270 x10_2 x11_3 = some r) ∧ Aside0 (kq ≤ k2) ∧ Aside0 (Kd.R (Kd.int .i64) 3 w' w.heap.size (fun k_ => some k_ ≠ ((.slice (some ad284) t270.length co33) : Value).ownBlock ∧ some k_ ≠ ((.slice Ao15 t274.length co15) : Value).ownBlock) (.slice (some ad285) t267.length co11) t267) ∧ Aside0 (Kd.R (Kd.int .i64) 3 w' w.heap.size (fun k_ => some k_ ≠ ((.slice (some ad285) t267.length co11) : Value).ownBlock ∧ some k_ ≠ ((.slice Ao15 t274.length co15) : Value).ownBlock) (.slice (some ad284) t270.length co33) t270) ∧ Aside0 (Kd.R (Kd.int .i64) 3 w' w.heap.size (fun k_ => some k_ ≠ ((.slice (some ad285) t267.length co11) : Value).ownBlock ∧ some k_ ≠ ((.slice (some ad284) t270.length co33) : Value).ownBlock) (.slice Ao15 t274.length co15) t274) ∧ Aside0 (w'.heap[gb278]? = some (.cells #[(.slice Ao15 t274.length co15), .int .i64 t277] 30 (0, 0))) ∧ Aside0 (Below w.heap.size w w'))
                          case atStart => exact ⟨(0), (by first | rfl | (simp; done) | (simp [*]; done)), H', ⟨Nat.le_refl _⟩, ⟨by (with_reducible repeat (first | apply Kd.R_alloc | apply Kd.R_drewN | apply Kd.R_drew)); exact HO_5.out⟩, ⟨by (with_reducible repeat (first | apply Kd.R_alloc | apply Kd.R_drewN | apply Kd.R_drew)); exact HO_7.out⟩, ⟨by (with_reducible repeat (first | apply Kd.R_alloc | apply Kd.R_drewN | apply Kd.R_drew)); exact HO_279000.out⟩, ⟨by (with_reducible repeat (first | refine blk_drewN ?_ _ | refine blk_drew ?_ | refine blk_alloc ?_ _)); exact BK278.out⟩, ⟨by repeat (first | (with_reducible first | exact HB.out | apply below_alloc | apply pw_below_drewN | apply below_drew1 | refine below_set ?_ GE278.out) | exact HB.out)⟩⟩
                          case round =>
                            clear H'
                            try clear c1
                            try clear c2
                            try clear p2
                            try clear q2
                            try clear hx2
                            try clear c3
                            try clear c3b0
                            try clear c3b1
                            try clear p6
                            try clear c18
                            try clear c24
                            try clear c25
                            try clear c25b0
                            try clear c25b1
                            try clear c27
                            try clear c27b0
                            try clear c28
                            try clear c28b0
                            try clear p28
                            try clear q28
                            try clear hx28
                            try clear c29
                            try clear c29b0
                            try clear c30
                            try clear c30b0
                            try clear c31
                            try clear c31b0
                            try clear c31b1
                            try clear c31b2
                            try clear hcz16_0
                            try clear hcz16_1
                            try clear hcz20_0
                            try clear hcz20_1
                            try clear hcz22_0
                            try clear hcz22_1
                            try clear hcz26_0
                            try clear hcz26_1
                            try clear hfz16_0
                            try clear hfz16_1
                            try clear hfz20_0
                            try clear hfz20_1
                            try clear hfz22_0
                            try clear hfz22_1
                            try clear hfz26_0
                            try clear hfz26_1
                            try clear hx284_0
                            try clear hx285_0
                            try clear p2
                            try clear p284
                            try clear p285
                            try clear p6
                            try clear q284
                            try clear q285
                            obtain ⟨x11_3, rfl, HA, HK3, HO_5, HO_7, HO_279000, BK278, HB⟩ := hrel
                            cases gk with
                            | zero => exact absurd HA.out (by simp [wringerlaw12_NormMade.l1])
                            | succ k3 =>
                              have H := HA.out
                              clear HA
                              simp only [wringerlaw12_NormMade.l1] at H
                              by_cases c34 : x11_3 < 65
                              · rw [if_pos c34] at H
                                have c34b0 : decide (x11_3 < 65) = true := decide_eq_true c34
                                clear c34
                                by_cases c35 : 0 ≤ x10_2
                                · rw [if_pos c35] at H
                                  have c35b0 : decide (0 ≤ x10_2) = true := decide_eq_true c35
                                  clear c35
                                  by_cases c36 : x10_2 < (t267.length : Int)
                                  · rw [if_pos c36] at H
                                    have c36b0 : decide (x10_2 < (t267.length : Int)) = true := decide_eq_true c36
                                    clear c36
                                    by_cases c37 : 0 ≤ x11_3
                                    · rw [if_pos c37] at H
                                      have c37b0 : decide (0 ≤ x11_3) = true := decide_eq_true c37
                                      clear c37
                                      by_cases c38 : x11_3 < (t267.length : Int)
                                      · rw [if_pos c38] at H
                                        have c38b0 : decide (x11_3 < (t267.length : Int)) = true := decide_eq_true c38
                                        clear c38
                                        by_cases c39 : (rd t267 x10_2) > (rd t267 x11_3)
                                        · rw [if_pos c39] at H
                                          have c39b0 : decide ((rd t267 x11_3) < (rd t267 x10_2)) = true := decide_eq_true c39
                                          clear c39
                                          by_cases c40 : x10_2 < (t270.length : Int)
                                          · rw [if_pos c40] at H
                                            have c40b0 : decide (x10_2 < (t270.length : Int)) = true := decide_eq_true c40
                                            clear c40
                                            by_cases c41 : x11_3 < (t270.length : Int)
                                            · rw [if_pos c41] at H
                                              have c41b0 : decide (x11_3 < (t270.length : Int)) = true := decide_eq_true c41
                                              clear c41
                                              by_cases c42 : (wrap64 ((rd t270 x10_2) + 1)) < (rd t270 x11_3)
                                              · rw [if_pos c42] at H
                                                have c42b0 : decide ((wrap64 ((rd t270 x10_2) + 1)) < (rd t270 x11_3)) = true := decide_eq_true c42
                                                clear c42
                                                obtain rfl := Option.some.inj H
                                                have p286 : 0 ≤ (x10_2 : Int) := of_decide_eq_true (by first | (with_reducible assumption) | assumption)
                                                have q286 : x10_2 < (t267.length : Int) := of_decide_eq_true (by first | (with_reducible assumption) | assumption)
                                                obtain ⟨ad286, e286, hx286_0⟩ := Kd.at_int (Kd.R_reads' HO_5.out).2.2 x10_2 p286 q286
                                                obtain rfl : ad285 = ad286 := (by injection e286)
                                                replace p286 := eq_true p286
                                                replace q286 := eq_true q286
                                                have p287 : 0 ≤ (x11_3 : Int) := of_decide_eq_true (by first | (with_reducible assumption) | assumption)
                                                have q287 : x11_3 < (t267.length : Int) := of_decide_eq_true (by first | (with_reducible assumption) | assumption)
                                                obtain ⟨ad287, e287, hx287_0⟩ := Kd.at_int (Kd.R_reads' HO_5.out).2.2 x11_3 p287 q287
                                                obtain rfl : ad285 = ad287 := (by injection e287)
                                                replace p287 := eq_true p287
                                                replace q287 := eq_true q287
                                                have p288 : 0 ≤ (x10_2 : Int) := of_decide_eq_true (by first | (with_reducible assumption) | assumption)
                                                have q288 : x10_2 < (t270.length : Int) := of_decide_eq_true (by first | (with_reducible assumption) | assumption)
                                                obtain ⟨ad288, e288, hx288_0⟩ := Kd.at_int (Kd.R_reads' HO_7.out).2.2 x10_2 p288 q288
                                                obtain rfl : ad284 = ad288 := (by injection e288)
                                                replace p288 := eq_true p288
                                                replace q288 := eq_true q288
                                                have p289 : 0 ≤ (x11_3 : Int) := of_decide_eq_true (by first | (with_reducible assumption) | assumption)
                                                have q289 : x11_3 < (t270.length : Int) := of_decide_eq_true (by first | (with_reducible assumption) | assumption)
                                                obtain ⟨ad289, e289, hx289_0⟩ := Kd.at_int (Kd.R_reads' HO_7.out).2.2 x11_3 p289 q289
                                                obtain rfl : ad284 = ad289 := (by injection e289)
                                                replace p289 := eq_true p289
                                                replace q289 := eq_true q289
                                                go_wp2
                                                repeat (go_quiet (fail); try go_wp2)
                                                go_ret
                                                exact ⟨by first | rfl | (simp [errW_none, errW_some] <;> rfl) | (simp [*, errW_none, errW_some] <;> rfl), by repeat (first | (with_reducible first | exact HB.out | apply below_alloc | apply pw_below_drewN | apply below_drew1 | refine below_set ?_ GE278.out) | exact HB.out)⟩
                                              · rw [if_neg c42] at H
                                                have c42b0 : decide ((wrap64 ((rd t270 x10_2) + 1)) < (rd t270 x11_3)) = false := decide_eq_false c42
                                                clear c42
                                                have H' := Aside0.mk H
                                                clear H
                                                have p286 : 0 ≤ (x10_2 : Int) := of_decide_eq_true (by first | (with_reducible assumption) | assumption)
                                                have q286 : x10_2 < (t267.length : Int) := of_decide_eq_true (by first | (with_reducible assumption) | assumption)
                                                obtain ⟨ad286, e286, hx286_0⟩ := Kd.at_int (Kd.R_reads' HO_5.out).2.2 x10_2 p286 q286
                                                obtain rfl : ad285 = ad286 := (by injection e286)
                                                replace p286 := eq_true p286
                                                replace q286 := eq_true q286
                                                have p287 : 0 ≤ (x11_3 : Int) := of_decide_eq_true (by first | (with_reducible assumption) | assumption)
                                                have q287 : x11_3 < (t267.length : Int) := of_decide_eq_true (by first | (with_reducible assumption) | assumption)
                                                obtain ⟨ad287, e287, hx287_0⟩ := Kd.at_int (Kd.R_reads' HO_5.out).2.2 x11_3 p287 q287
                                                obtain rfl : ad285 = ad287 := (by injection e287)
                                                replace p287 := eq_true p287
                                                replace q287 := eq_true q287
                                                have p288 : 0 ≤ (x10_2 : Int) := of_decide_eq_true (by first | (with_reducible assumption) | assumption)
                                                have q288 : x10_2 < (t270.length : Int) := of_decide_eq_true (by first | (with_reducible assumption) | assumption)
                                                obtain ⟨ad288, e288, hx288_0⟩ := Kd.at_int (Kd.R_reads' HO_7.out).2.2 x10_2 p288 q288
                                                obtain rfl : ad284 = ad288 := (by injection e288)
                                                replace p288 := eq_true p288
                                                replace q288 := eq_true q288
                                                have p289 : 0 ≤ (x11_3 : Int) := of_decide_eq_true (by first | (with_reducible assumption) | assumption)
                                                have q289 : x11_3 < (t270.length : Int) := of_decide_eq_true (by first | (with_reducible assumption) | assumption)
                                                obtain ⟨ad289, e289, hx289_0⟩ := Kd.at_int (Kd.R_reads' HO_7.out).2.2 x11_3 p289 q289
                                                obtain rfl : ad284 = ad289 := (by injection e289)
                                                replace p289 := eq_true p289
                                                replace q289 := eq_true q289
                                                go_wp2
                                                repeat (go_quiet (fail); try go_wp2)
                                                go_roundg k3
                                                case measure => have := HJ8.out; have := HK2.out; have := HK3.out; omega
                                                case rel => exact ⟨(wrap64 (x11_3 + 1)), (by first | rfl | (simp; done) | (simp [*]; done)), H', ⟨by have := HJ8.out; have := HK2.out; have := HK3.out; omega⟩, ⟨by (with_reducible repeat (first | apply Kd.R_alloc | apply Kd.R_drewN | apply Kd.R_drew)); exact HO_5.out⟩, ⟨by (with_reducible repeat (first | apply Kd.R_alloc | apply Kd.R_drewN | apply Kd.R_drew)); exact HO_7.out⟩, ⟨by (with_reducible repeat (first | apply Kd.R_alloc | apply Kd.R_drewN | apply Kd.R_drew)); exact HO_279000.out⟩, ⟨by (with_reducible repeat (first | refine blk_drewN ?_ _ | refine blk_drew ?_ | refine blk_alloc ?_ _)); exact BK278.out⟩, ⟨by repeat (first | (with_reducible first | exact HB.out | apply below_alloc | apply pw_below_drewN | apply below_drew1 | refine below_set ?_ GE278.out) | exact HB.out)⟩⟩
                                            · rw [if_neg c41] at H
                                              exact absurd H (by simp)
                                          · rw [if_neg c40] at H
                                            exact absurd H (by simp)
                                        · rw [if_neg c39] at H
                                          have c39b0 : decide ((rd t267 x11_3) < (rd t267 x10_2)) = false := decide_eq_false c39
                                          clear c39
                                          have H' := Aside0.mk H
                                          clear H
                                          have p286 : 0 ≤ (x10_2 : Int) := of_decide_eq_true (by first | (with_reducible assumption) | assumption)
                                          have q286 : x10_2 < (t267.length : Int) := of_decide_eq_true (by first | (with_reducible assumption) | assumption)
                                          obtain ⟨ad286, e286, hx286_0⟩ := Kd.at_int (Kd.R_reads' HO_5.out).2.2 x10_2 p286 q286
                                          obtain rfl : ad285 = ad286 := (by injection e286)
                                          replace p286 := eq_true p286
                                          replace q286 := eq_true q286
                                          have p287 : 0 ≤ (x11_3 : Int) := of_decide_eq_true (by first | (with_reducible assumption) | assumption)
                                          have q287 : x11_3 < (t267.length : Int) := of_decide_eq_true (by first | (with_reducible assumption) | assumption)
                                          obtain ⟨ad287, e287, hx287_0⟩ := Kd.at_int (Kd.R_reads' HO_5.out).2.2 x11_3 p287 q287
                                          obtain rfl : ad285 = ad287 := (by injection e287)
                                          replace p287 := eq_true p287
                                          replace q287 := eq_true q287
                                          go_wp2
                                          repeat (go_quiet (fail); try go_wp2)
                                          go_roundg k3
                                          case measure => have := HJ8.out; have := HK2.out; have := HK3.out; omega
                                          case rel => exact ⟨(wrap64 (x11_3 + 1)), (by first | rfl | (simp; done) | (simp [*]; done)), H', ⟨by have := HJ8.out; have := HK2.out; have := HK3.out; omega⟩, ⟨by (with_reducible repeat (first | apply Kd.R_alloc | apply Kd.R_drewN | apply Kd.R_drew)); exact HO_5.out⟩, ⟨by (with_reducible repeat (first | apply Kd.R_alloc | apply Kd.R_drewN | apply Kd.R_drew)); exact HO_7.out⟩, ⟨by (with_reducible repeat (first | apply Kd.R_alloc | apply Kd.R_drewN | apply Kd.R_drew)); exact HO_279000.out⟩, ⟨by (with_reducible repeat (first | refine blk_drewN ?_ _ | refine blk_drew ?_ | refine blk_alloc ?_ _)); exact BK278.out⟩, ⟨by repeat (first | (with_reducible first | exact HB.out | apply below_alloc | apply pw_below_drewN | apply below_drew1 | refine below_set ?_ GE278.out) | exact HB.out)⟩⟩
                                      · rw [if_neg c38] at H
                                        exact absurd H (by simp)
                                    · rw [if_neg c37] at H
                                      exact absurd H (by simp)
                                  · rw [if_neg c36] at H
                                    exact absurd H (by simp)
                                · rw [if_neg c35] at H
                                  exact absurd H (by simp)
                              · rw [if_neg c34] at H
                                have c34b0 : decide (x11_3 < 65) = false := decide_eq_false c34
                                clear c34
                                have H' := Aside0.mk H
                                clear H
                                go_wp2
                                repeat (go_quiet (fail); try go_wp2)
                                go_roundg k3
                                case measure => have := HJ8.out; have := HK2.out; have := HK3.out; omega
                                case rel => exact ⟨(wrap64 (x10_2 + 1)), (by first | rfl | (simp; done) | (simp [*]; done)), H', ⟨by have := HJ8.out; have := HK2.out; have := HK3.out; omega⟩, ⟨by (with_reducible repeat (first | apply Kd.R_alloc | apply Kd.R_drewN | apply Kd.R_drew)); exact HO_5.out⟩, ⟨by (with_reducible repeat (first | apply Kd.R_alloc | apply Kd.R_drewN | apply Kd.R_drew)); exact HO_7.out⟩, ⟨by (with_reducible repeat (first | apply Kd.R_alloc | apply Kd.R_drewN | apply Kd.R_drew)); exact HO_279000.out⟩, ⟨by (with_reducible repeat (first | refine blk_drewN ?_ _ | refine blk_drew ?_ | refine blk_alloc ?_ _)); exact BK278.out⟩, ⟨by repeat (first | (with_reducible first | exact HB.out | apply below_alloc | apply pw_below_drewN | apply below_drew1 | refine below_set ?_ GE278.out) | exact HB.out)⟩⟩
                      · rw [if_neg c30] at H
                        exact absurd H (by simp)
                    · rw [if_neg c29] at H
                      exact absurd H (by simp)
                  · rw [if_neg c28] at H
                    exact absurd H (by simp)
                · rw [if_neg c27] at H
                  have c27b0 : decide (x10_2 < 65) = false := decide_eq_false c27
                  clear c27
                  replace H := Option.bind_eq_some_iff.mp H
                  obtain ⟨t282, A430, H⟩ := H
                  replace H : (if t282 = true then ((wringerlaw12_awake.f k2).bind fun t283 => (some t283)) else (some false)) = some r := H
                  have A43 := Aside0.mk A430
                  clear A430
                  by_cases c44 : t282 = true
                  · subst c44
                    have H1 : ((wringerlaw12_awake.f k2).bind fun t283 => (some t283)) = some r := by rw [if_pos rfl] at H; exact H
                    clear H
                    have H := H1
                    clear H1
                    replace H := Option.bind_eq_some_iff.mp H
                    obtain ⟨t283, A450, H⟩ := H
                    replace H : (some t283) = some r := H
                    have A45 := Aside0.mk A450
                    clear A450
                    obtain rfl := Option.some.inj H
                    obtain ⟨Ao46, co46, eo46⟩ := Kd.R_slice HO_7.out
                    subst eo46
                    go_wp2_with (first | (go_at_call 15; (with_reducible refine (norm_May.calls k2 _ _ t270 (wrap64 (7 + (Int.tmod (wrap64 (a1)) 6))) true _ ?side1 ?side2 A43.out).mono ?_); (case side1 => repeat (first | exact (Kd.R_reads' HO_7.out).2.2 | (with_reducible refine Kd.C_alloc ?_ _) | (with_reducible refine Kd.C_drewN ?_ _) | (with_reducible refine Kd.C_drew ?_))); (case side2 => exact (Kd.R_reads' HO_7.out).2.1); rintro e w' ⟨rfl, ⟨nd, rfl⟩⟩; (try first | exact ⟨rfl, _, World.drewN_drewN _ _ _⟩ | exact ⟨rfl, _, Eq.trans (World.drewN_drewN _ _ _) (congrArg (World.drewN _) (Nat.add_assoc _ _ _))⟩)) | (go_at_call 9; (with_reducible refine (wringerlaw12_awake.calls k2  t283 _ A45.out).mono ?_); rintro e w47 ⟨rfl, hb⟩; have n0_ := Aside0.mk (Kd.R_below (by (with_reducible repeat (first | apply Kd.R_alloc | apply Kd.R_drewN | apply Kd.R_drew)); exact HO_5.out) hb); have n1_ := Aside0.mk (Kd.R_below (by (with_reducible repeat (first | apply Kd.R_alloc | apply Kd.R_drewN | apply Kd.R_drew)); exact HO_7.out) hb); have n2_ := Aside0.mk (Kd.R_below (by (with_reducible repeat (first | apply Kd.R_alloc | apply Kd.R_drewN | apply Kd.R_drew)); exact HO_279000.out) hb); have n3_ := Aside0.mk (blk_below (g := gb278) (o := .cells #[.slice Ao15 t274.length co15, .int .i64 t277] 30 (0, 0)) (by (with_reducible repeat (first | refine blk_drewN ?_ _ | refine blk_drew ?_ | refine blk_alloc ?_ _)); exact BK278.out) hb); have n4_ := Aside0.mk (below_step (by repeat (first | (with_reducible first | exact HB.out | apply below_alloc | apply pw_below_drewN | apply below_drew1 | refine below_set ?_ GE278.out) | exact HB.out)) hb); clear HO_5; clear HO_7; clear HO_279000; clear BK278; clear HB; have HO_5 := n0_; have HO_7 := n1_; have HO_279000 := n2_; have BK278 := n3_; have HB := n4_; clear n0_ n1_ n2_ n3_ n4_; (try clear hb); (try clear hb2); (try clear hk); (try clear hi)))
                    repeat (go_quiet (first | (go_at_call 15; (with_reducible refine (norm_May.calls k2 _ _ t270 (wrap64 (7 + (Int.tmod (wrap64 (a1)) 6))) true _ ?side1 ?side2 A43.out).mono ?_); (case side1 => repeat (first | exact (Kd.R_reads' HO_7.out).2.2 | (with_reducible refine Kd.C_alloc ?_ _) | (with_reducible refine Kd.C_drewN ?_ _) | (with_reducible refine Kd.C_drew ?_))); (case side2 => exact (Kd.R_reads' HO_7.out).2.1); rintro e w' ⟨rfl, ⟨nd, rfl⟩⟩; (try first | exact ⟨rfl, _, World.drewN_drewN _ _ _⟩ | exact ⟨rfl, _, Eq.trans (World.drewN_drewN _ _ _) (congrArg (World.drewN _) (Nat.add_assoc _ _ _))⟩)) | (go_at_call 9; (with_reducible refine (wringerlaw12_awake.calls k2  t283 _ A45.out).mono ?_); rintro e w47 ⟨rfl, hb⟩; have n0_ := Aside0.mk (Kd.R_below (by (with_reducible repeat (first | apply Kd.R_alloc | apply Kd.R_drewN | apply Kd.R_drew)); exact HO_5.out) hb); have n1_ := Aside0.mk (Kd.R_below (by (with_reducible repeat (first | apply Kd.R_alloc | apply Kd.R_drewN | apply Kd.R_drew)); exact HO_7.out) hb); have n2_ := Aside0.mk (Kd.R_below (by (with_reducible repeat (first | apply Kd.R_alloc | apply Kd.R_drewN | apply Kd.R_drew)); exact HO_279000.out) hb); have n3_ := Aside0.mk (blk_below (g := gb278) (o := .cells #[.slice Ao15 t274.length co15, .int .i64 t277] 30 (0, 0)) (by (with_reducible repeat (first | refine blk_drewN ?_ _ | refine blk_drew ?_ | refine blk_alloc ?_ _)); exact BK278.out) hb); have n4_ := Aside0.mk (below_step (by repeat (first | (with_reducible first | exact HB.out | apply below_alloc | apply pw_below_drewN | apply below_drew1 | refine below_set ?_ GE278.out) | exact HB.out)) hb); clear HO_5; clear HO_7; clear HO_279000; clear BK278; clear HB; have HO_5 := n0_; have HO_7 := n1_; have HO_279000 := n2_; have BK278 := n3_; have HB := n4_; clear n0_ n1_ n2_ n3_ n4_; (try clear hb); (try clear hb2); (try clear hk); (try clear hi))); try go_wp2_with (first | (go_at_call 15; (with_reducible refine (norm_May.calls k2 _ _ t270 (wrap64 (7 + (Int.tmod (wrap64 (a1)) 6))) true _ ?side1 ?side2 A43.out).mono ?_); (case side1 => repeat (first | exact (Kd.R_reads' HO_7.out).2.2 | (with_reducible refine Kd.C_alloc ?_ _) | (with_reducible refine Kd.C_drewN ?_ _) | (with_reducible refine Kd.C_drew ?_))); (case side2 => exact (Kd.R_reads' HO_7.out).2.1); rintro e w' ⟨rfl, ⟨nd, rfl⟩⟩; (try first | exact ⟨rfl, _, World.drewN_drewN _ _ _⟩ | exact ⟨rfl, _, Eq.trans (World.drewN_drewN _ _ _) (congrArg (World.drewN _) (Nat.add_assoc _ _ _))⟩)) | (go_at_call 9; (with_reducible refine (wringerlaw12_awake.calls k2  t283 _ A45.out).mono ?_); rintro e w47 ⟨rfl, hb⟩; have n0_ := Aside0.mk (Kd.R_below (by (with_reducible repeat (first | apply Kd.R_alloc | apply Kd.R_drewN | apply Kd.R_drew)); exact HO_5.out) hb); have n1_ := Aside0.mk (Kd.R_below (by (with_reducible repeat (first | apply Kd.R_alloc | apply Kd.R_drewN | apply Kd.R_drew)); exact HO_7.out) hb); have n2_ := Aside0.mk (Kd.R_below (by (with_reducible repeat (first | apply Kd.R_alloc | apply Kd.R_drewN | apply Kd.R_drew)); exact HO_279000.out) hb); have n3_ := Aside0.mk (blk_below (g := gb278) (o := .cells #[.slice Ao15 t274.length co15, .int .i64 t277] 30 (0, 0)) (by (with_reducible repeat (first | refine blk_drewN ?_ _ | refine blk_drew ?_ | refine blk_alloc ?_ _)); exact BK278.out) hb); have n4_ := Aside0.mk (below_step (by repeat (first | (with_reducible first | exact HB.out | apply below_alloc | apply pw_below_drewN | apply below_drew1 | refine below_set ?_ GE278.out) | exact HB.out)) hb); clear HO_5; clear HO_7; clear HO_279000; clear BK278; clear HB; have HO_5 := n0_; have HO_7 := n1_; have HO_279000 := n2_; have BK278 := n3_; have HB := n4_; clear n0_ n1_ n2_ n3_ n4_; (try clear hb); (try clear hb2); (try clear hk); (try clear hi))))
                    go_ret
                    exact ⟨by first | rfl | (simp [errW_none, errW_some] <;> rfl) | (simp [*, errW_none, errW_some] <;> rfl), by repeat (first | (with_reducible first | exact HB.out | apply below_alloc | apply pw_below_drewN | apply below_drew1 | refine below_set ?_ GE278.out) | exact HB.out)⟩
                  · replace c44 := Bool.eq_false_iff.mpr c44
                    subst c44
                    have H1 : (some false) = some r := by rw [if_neg (show ¬ (false = true) by decide)] at H; exact H
                    clear H
                    have H := H1
                    clear H1
                    obtain rfl := Option.some.inj H
                    obtain ⟨Ao48, co48, eo48⟩ := Kd.R_slice HO_7.out
                    subst eo48
                    go_wp2_with (first | (go_at_call 15; (with_reducible refine (norm_May.calls k2 _ _ t270 (wrap64 (7 + (Int.tmod (wrap64 (a1)) 6))) false _ ?side1 ?side2 A43.out).mono ?_); (case side1 => repeat (first | exact (Kd.R_reads' HO_7.out).2.2 | (with_reducible refine Kd.C_alloc ?_ _) | (with_reducible refine Kd.C_drewN ?_ _) | (with_reducible refine Kd.C_drew ?_))); (case side2 => exact (Kd.R_reads' HO_7.out).2.1); rintro e w' ⟨rfl, ⟨nd, rfl⟩⟩; (try first | exact ⟨rfl, _, World.drewN_drewN _ _ _⟩ | exact ⟨rfl, _, Eq.trans (World.drewN_drewN _ _ _) (congrArg (World.drewN _) (Nat.add_assoc _ _ _))⟩)))
                    repeat (go_quiet (first | (go_at_call 15; (with_reducible refine (norm_May.calls k2 _ _ t270 (wrap64 (7 + (Int.tmod (wrap64 (a1)) 6))) false _ ?side1 ?side2 A43.out).mono ?_); (case side1 => repeat (first | exact (Kd.R_reads' HO_7.out).2.2 | (with_reducible refine Kd.C_alloc ?_ _) | (with_reducible refine Kd.C_drewN ?_ _) | (with_reducible refine Kd.C_drew ?_))); (case side2 => exact (Kd.R_reads' HO_7.out).2.1); rintro e w' ⟨rfl, ⟨nd, rfl⟩⟩; (try first | exact ⟨rfl, _, World.drewN_drewN _ _ _⟩ | exact ⟨rfl, _, Eq.trans (World.drewN_drewN _ _ _) (congrArg (World.drewN _) (Nat.add_assoc _ _ _))⟩))); try go_wp2_with (first | (go_at_call 15; (with_reducible refine (norm_May.calls k2 _ _ t270 (wrap64 (7 + (Int.tmod (wrap64 (a1)) 6))) false _ ?side1 ?side2 A43.out).mono ?_); (case side1 => repeat (first | exact (Kd.R_reads' HO_7.out).2.2 | (with_reducible refine Kd.C_alloc ?_ _) | (with_reducible refine Kd.C_drewN ?_ _) | (with_reducible refine Kd.C_drew ?_))); (case side2 => exact (Kd.R_reads' HO_7.out).2.1); rintro e w' ⟨rfl, ⟨nd, rfl⟩⟩; (try first | exact ⟨rfl, _, World.drewN_drewN _ _ _⟩ | exact ⟨rfl, _, Eq.trans (World.drewN_drewN _ _ _) (congrArg (World.drewN _) (Nat.add_assoc _ _ _))⟩))))
                    go_ret
                    exact ⟨by first | rfl | (simp [errW_none, errW_some] <;> rfl) | (simp [*, errW_none, errW_some] <;> rfl), by repeat (first | (with_reducible first | exact HB.out | apply below_alloc | apply pw_below_drewN | apply below_drew1 | refine below_set ?_ GE278.out) | exact HB.out)⟩
          · rw [if_neg c25] at H
            have c25b0 : (t277 == 0) = false := beq_eq_false_iff_ne.mpr c25
            have c25b1 : (t277 != 0) = true := bne_iff_ne.mpr c25
            by_cases c49 : t277 = 1
            · rw [if_pos c49] at H
              have c49b0 : (t277 == 1) = true := beq_iff_eq.mpr c49
              have c49b1 : (t277 != 1) = false := bne_eq_false_iff_eq.mpr c49
              clear c49
              replace H := Option.bind_eq_some_iff.mp H
              obtain ⟨t281, A500, H⟩ := H
              replace H : (some t281) = some r := H
              have A50 := Aside0.mk A500
              clear A500
              obtain rfl := Option.some.inj H
              have hcz51_0 : wc.cell? ⟨gb278, 0, none⟩ = some (.slice Ao15 t274.length co15) := (blk_cell BK278.out 0).trans rfl
              have hcz51_1 : wc.cell? ⟨gb278, 1, none⟩ = some (.int .i64 t277) := (blk_cell BK278.out 1).trans rfl
              have hfz51_0 := blk_frozen BK278.out 0
              have hfz51_1 := blk_frozen BK278.out 1
              go_wp2_with (first | (go_at_call 9; (with_reducible refine (wringerlaw12_awake.calls kj8  t281 _ A50.out).mono ?_); rintro e w52 ⟨rfl, hb⟩; have n0_ := Aside0.mk (Kd.R_below (by (with_reducible repeat (first | apply Kd.R_alloc | apply Kd.R_drewN | apply Kd.R_drew)); exact HO_5.out) hb); have n1_ := Aside0.mk (Kd.R_below (by (with_reducible repeat (first | apply Kd.R_alloc | apply Kd.R_drewN | apply Kd.R_drew)); exact HO_7.out) hb); have n2_ := Aside0.mk (Kd.R_below (by (with_reducible repeat (first | apply Kd.R_alloc | apply Kd.R_drewN | apply Kd.R_drew)); exact HO_279000.out) hb); have n3_ := Aside0.mk (blk_below (g := gb278) (o := .cells #[.slice Ao15 t274.length co15, .int .i64 t277] 30 (0, 0)) (by (with_reducible repeat (first | refine blk_drewN ?_ _ | refine blk_drew ?_ | refine blk_alloc ?_ _)); exact BK278.out) hb); have n4_ := Aside0.mk (below_step (by repeat (first | (with_reducible first | exact HB.out | apply below_alloc | apply pw_below_drewN | apply below_drew1 | refine below_set ?_ GE278.out) | exact HB.out)) hb); clear HO_5; clear HO_7; clear HO_279000; clear BK278; clear HB; have HO_5 := n0_; have HO_7 := n1_; have HO_279000 := n2_; have BK278 := n3_; have HB := n4_; clear n0_ n1_ n2_ n3_ n4_; (try clear hb); (try clear hb2); (try clear hk); (try clear hi)))
              repeat (go_quiet (first | (go_at_call 9; (with_reducible refine (wringerlaw12_awake.calls kj8  t281 _ A50.out).mono ?_); rintro e w52 ⟨rfl, hb⟩; have n0_ := Aside0.mk (Kd.R_below (by (with_reducible repeat (first | apply Kd.R_alloc | apply Kd.R_drewN | apply Kd.R_drew)); exact HO_5.out) hb); have n1_ := Aside0.mk (Kd.R_below (by (with_reducible repeat (first | apply Kd.R_alloc | apply Kd.R_drewN | apply Kd.R_drew)); exact HO_7.out) hb); have n2_ := Aside0.mk (Kd.R_below (by (with_reducible repeat (first | apply Kd.R_alloc | apply Kd.R_drewN | apply Kd.R_drew)); exact HO_279000.out) hb); have n3_ := Aside0.mk (blk_below (g := gb278) (o := .cells #[.slice Ao15 t274.length co15, .int .i64 t277] 30 (0, 0)) (by (with_reducible repeat (first | refine blk_drewN ?_ _ | refine blk_drew ?_ | refine blk_alloc ?_ _)); exact BK278.out) hb); have n4_ := Aside0.mk (below_step (by repeat (first | (with_reducible first | exact HB.out | apply below_alloc | apply pw_below_drewN | apply below_drew1 | refine below_set ?_ GE278.out) | exact HB.out)) hb); clear HO_5; clear HO_7; clear HO_279000; clear BK278; clear HB; have HO_5 := n0_; have HO_7 := n1_; have HO_279000 := n2_; have BK278 := n3_; have HB := n4_; clear n0_ n1_ n2_ n3_ n4_; (try clear hb); (try clear hb2); (try clear hk); (try clear hi))); try go_wp2_with (first | (go_at_call 9; (with_reducible refine (wringerlaw12_awake.calls kj8  t281 _ A50.out).mono ?_); rintro e w52 ⟨rfl, hb⟩; have n0_ := Aside0.mk (Kd.R_below (by (with_reducible repeat (first | apply Kd.R_alloc | apply Kd.R_drewN | apply Kd.R_drew)); exact HO_5.out) hb); have n1_ := Aside0.mk (Kd.R_below (by (with_reducible repeat (first | apply Kd.R_alloc | apply Kd.R_drewN | apply Kd.R_drew)); exact HO_7.out) hb); have n2_ := Aside0.mk (Kd.R_below (by (with_reducible repeat (first | apply Kd.R_alloc | apply Kd.R_drewN | apply Kd.R_drew)); exact HO_279000.out) hb); have n3_ := Aside0.mk (blk_below (g := gb278) (o := .cells #[.slice Ao15 t274.length co15, .int .i64 t277] 30 (0, 0)) (by (with_reducible repeat (first | refine blk_drewN ?_ _ | refine blk_drew ?_ | refine blk_alloc ?_ _)); exact BK278.out) hb); have n4_ := Aside0.mk (below_step (by repeat (first | (with_reducible first | exact HB.out | apply below_alloc | apply pw_below_drewN | apply below_drew1 | refine below_set ?_ GE278.out) | exact HB.out)) hb); clear HO_5; clear HO_7; clear HO_279000; clear BK278; clear HB; have HO_5 := n0_; have HO_7 := n1_; have HO_279000 := n2_; have BK278 := n3_; have HB := n4_; clear n0_ n1_ n2_ n3_ n4_; (try clear hb); (try clear hb2); (try clear hk); (try clear hi))))
              go_ret
              exact ⟨by first | rfl | (simp [errW_none, errW_some] <;> rfl) | (simp [*, errW_none, errW_some] <;> rfl), by repeat (first | (with_reducible first | exact HB.out | apply below_alloc | apply pw_below_drewN | apply below_drew1 | refine below_set ?_ GE278.out) | exact HB.out)⟩
            · rw [if_neg c49] at H
              have c49b0 : (t277 == 1) = false := beq_eq_false_iff_ne.mpr c49
              have c49b1 : (t277 != 1) = true := bne_iff_ne.mpr c49
              obtain rfl := Option.some.inj H
              have hcz53_0 : wc.cell? ⟨gb278, 0, none⟩ = some (.slice Ao15 t274.length co15) := (blk_cell BK278.out 0).trans rfl
              have hcz53_1 : wc.cell? ⟨gb278, 1, none⟩ = some (.int .i64 t277) := (blk_cell BK278.out 1).trans rfl
              have hfz53_0 := blk_frozen BK278.out 0
              have hfz53_1 := blk_frozen BK278.out 1
              go_wp2
              repeat (go_quiet (fail); try go_wp2)
              go_ret
              exact ⟨by first | rfl | (simp [errW_none, errW_some] <;> rfl) | (simp [*, errW_none, errW_some] <;> rfl), by repeat (first | (with_reducible first | exact HB.out | apply below_alloc | apply pw_below_drewN | apply below_drew1 | refine below_set ?_ GE278.out) | exact HB.out)⟩

/-- THE ONE PURE STATEMENT of wringerlaw12_NormMade: yours. -/
def wringerlaw12_NormMade.Pure : Prop := ∀ (l0 : List Int) (a1 : Int), l0.length ≤ maxLen → l0.length * 2 ≤ 140737488351232 → (∀ x ∈ l0, (Lit.int .u16 x).wf = true) → (Lit.int .u8 a1).wf = true → ∃ k, wringerlaw12_NormMade.f k l0 a1 = some true
theorem wringerlaw12_NormMade.walk (P : wringerlaw12_NormMade.Pure) (a0 : Option Addr) (len0 cap0 : Nat) (z0 : List Int) (a1 : Int) (w : World) (w0 : (a0 = none ∧ len0 = 0 ∧ cap0 = 0 ∧ z0 = []) ∨ ∃ x, a0 = some x ∧ len0 ≤ cap0 ∧ cap0 ≤ maxLen ∧ z0.length = cap0 ∧ (∀ i, i < z0.length → w.cell? (x.add i) = some (.int .u16 (z0.getD i 0))) ∧ ∀ n ∈ z0, (Lit.int .u16 n).wf = true) (y0 : len0 * 2 ≤ 140737488351232) (w1 : (Lit.int .u8 a1).wf = true) :
    Calls Try.prog 3 #[.slice a0 len0 cap0, .int .u8 a1] w fun e w' => e = .returned (.bool true) ∧ Below w.heap.size w w' := by
  obtain ⟨l0, rfl, hr0, hm0, hw0, hc0⟩ := ReadsInt.ofRowC w0
  obtain ⟨k, h⟩ := P l0 a1 hm0 y0 hw0 w1
  refine (wringerlaw12_NormMade.calls k _ _ l0 a1 true w (Kd.C_of_reads (d := (0 : Int)) (h1 := fun _ => rfl) hr0) hc0 h).mono ?_
  rintro e w' ⟨rfl, hd⟩
  exact ⟨rfl, hd⟩

end Go.Proofs.Ytbldocbijihpgaa.PA

-- ---- Ue
/- Lists of whole numbers that are one, or not. -/
namespace Go.Proofs.Ytbldocbijihpgaa.PA
set_option linter.unusedVariables false
set_option linter.unusedSimpArgs false
open Go.RowKit Go.Proofs.YtbldocbijihpgaaW.PrintWords Go.Proofs.YtbldocbijihpgaaW.PrintLast Go.Proofs.YtbldocbijihpgaaW.PrintMore

theorem drop_cons0 (l : List Int) (i : Nat) (h : i < l.length) : l.drop i = l.getD i 0 :: l.drop (i + 1) := by
  rw [List.drop_eq_getElem_cons h]; simp [List.getD_eq_getElem?_getD, h]
theorem same_l0 (a b : List Int) (hl : a.length = b.length) (hb : a.length < 4611686018427387904) : ∀ (d i : Nat), i + d = a.length →
    Ev (fun k => wringerref7_SameInts.l0 k a b (i : Int)) (decide (a.drop i = b.drop i)) := by
  intro d
  induction d with
  | zero =>
    intro i hi
    refine Ev.step (f := fun _ => some true) (fun k => by simp only [wringerref7_SameInts.l0]; rw [if_neg (by omega)]) (Ev.ofSome ?_)
    rw [List.drop_eq_nil_of_le (by omega), List.drop_eq_nil_of_le (by omega)]; simp
  | succ d ih =>
    intro i hi
    rw [drop_cons0 a i (by omega), drop_cons0 b i (by omega)]
    by_cases h : a.getD i 0 = b.getD i 0
    · refine evq ?_ (Ev.step (f := fun k => wringerref7_SameInts.l0 k a b ((i + 1 : Nat) : Int)) (fun k => by simp only [wringerref7_SameInts.l0]; rw [if_pos (by omega), if_pos (by omega), if_pos (by omega), rd_nat, rd_nat, if_pos h, w64 (by omega) (by omega)]; rfl) (ih (i + 1) (by omega)))
      rw [h]; congr 1; simp
    · refine Ev.step (f := fun _ => some false) (fun k => by simp only [wringerref7_SameInts.l0]; rw [if_pos (by omega), if_pos (by omega), if_pos (by omega), rd_nat, rd_nat, if_neg h]) (Ev.ofSome ?_)
      symm; rw [decide_eq_false_iff_not]; intro e; exact h (List.cons.inj e).1
theorem same_is (a b : List Int) (hb : a.length < 4611686018427387904) : Ev (fun k => wringerref7_SameInts.f k a b) (decide (a = b)) := by
  unfold wringerref7_SameInts.f
  by_cases hl : a.length = b.length
  · refine Ev.ite_pos (by omega) ?_
    have := same_l0 a b hl hb a.length 0 (by omega)
    rw [List.drop_zero, List.drop_zero] at this
    exact this
  · refine Ev.ite_neg (by omega) (Ev.ofSome ?_)
    symm; rw [decide_eq_false_iff_not]; intro e; exact hl (by rw [e])
theorem same_self (a : List Int) (hb : a.length < 4611686018427387904) : Ev (fun k => wringerref7_SameInts.f k a a) true := by
  have := same_is a a hb
  simpa using this
end Go.Proofs.Ytbldocbijihpgaa.PA

-- ---- PAx29

namespace Go.Proofs.Ytbldocbijihpgaa.PA
open Go.RowKit Go.Proofs.YtbldocbijihpgaaW.PrintWords Go.Proofs.YtbldocbijihpgaaW.PrintLast Go.Proofs.YtbldocbijihpgaaW.PrintMore
attribute [local go_sem] max2_int min2_int max_two min_two max_three min_three max_four min_four   -- for this text's walks alone
set_option linter.unusedVariables false
set_option linter.unusedSimpArgs false

/-! ### wringerref7_MayNorm: function 18 -/
mutual
def wringerref7_MayNorm.j0 : Nat → List Int → Int → Bool → Option (Bool)
  | 0, _, _, _ => none
  | k + 1, x0, x1, x14 => if x14 = true then (some false) else (wringerref7_MayNorm.l0 k x0 x1 0 0)
def wringerref7_MayNorm.l0 : Nat → List Int → Int → Int → Int → Option (Bool)
  | 0, _, _, _, _ => none
  | k + 1, x0, x1, x5, x6 => if x6 < (x0.length : Int) then (if 0 ≤ x6 then (if (rd x0 x6) < 0 then (some false) else (if 0 ≤ x1 then (if (rd x0 x6) > (shl .i64 1 x1) then (some false) else (wringerref7_MayNorm.l0 k x0 x1 (wrap64 (x5 + (rd x0 x6))) (wrap64 (x6 + 1)))) else (none))) else (none)) else (if 0 ≤ x1 then (some (x5 == (shl .i64 1 x1))) else (none))
end
def wringerref7_MayNorm.f (k : Nat) (l0 : List Int) (a1 : Int) : Option (Bool) := (wringerref7_isLog.f a1).bind fun t160 => (if t160 = true then (wringerref7_MayNorm.j0 k l0 a1 ((l0.length : Int) != 65)) else (wringerref7_MayNorm.j0 k l0 a1 true))
theorem wringerref7_MayNorm.mono_l : ∀ k, (∀ y0 y1 y2, LeO (wringerref7_MayNorm.j0 k y0 y1 y2) (wringerref7_MayNorm.j0 (k + 1) y0 y1 y2)) ∧ (∀ y0 y1 y2 y3, LeO (wringerref7_MayNorm.l0 k y0 y1 y2 y3) (wringerref7_MayNorm.l0 (k + 1) y0 y1 y2 y3))
  | 0 => ⟨fun _ _ _ r h => by simp [wringerref7_MayNorm.j0] at h, fun _ _ _ _ r h => by simp [wringerref7_MayNorm.l0] at h⟩
  | k + 1 => by
    obtain ⟨ih0, ih1⟩ := wringerref7_MayNorm.mono_l k
    refine ⟨?_, ?_⟩
    · intro y0 y1 y2
      unfold wringerref7_MayNorm.j0
      repeat' first
      | (with_reducible exact ih0 _ _ _)
      | (with_reducible exact ih1 _ _ _ _)
      | (with_reducible exact LeO.refl _)
      | (with_reducible exact LeO.none _)
      | (with_reducible refine LeO.ite ?_ ?_)
      | (with_reducible refine LeO.bind ?_ (fun _ => ?_))
      | exact ih0 _ _ _
      | exact ih1 _ _ _ _
      | exact LeO.none _
      | refine LeO.ite ?_ ?_
      | refine LeO.bind ?_ (fun _ => ?_)
    · intro y0 y1 y2 y3
      unfold wringerref7_MayNorm.l0
      repeat' first
      | (with_reducible exact ih0 _ _ _)
      | (with_reducible exact ih1 _ _ _ _)
      | (with_reducible exact LeO.refl _)
      | (with_reducible exact LeO.none _)
      | (with_reducible refine LeO.ite ?_ ?_)
      | (with_reducible refine LeO.bind ?_ (fun _ => ?_))
      | exact ih0 _ _ _
      | exact ih1 _ _ _ _
      | exact LeO.none _
      | refine LeO.ite ?_ ?_
      | refine LeO.bind ?_ (fun _ => ?_)
theorem wringerref7_MayNorm.mono : ∀ a0 a1 k, LeO (wringerref7_MayNorm.f k a0 a1) (wringerref7_MayNorm.f (k + 1) a0 a1) := by
  intro a0 a1 k
  obtain ⟨ih0, ih1⟩ := wringerref7_MayNorm.mono_l k
  unfold wringerref7_MayNorm.f
  repeat' first
      | (with_reducible exact ih0 _ _ _)
      | (with_reducible exact ih1 _ _ _ _)
      | (with_reducible exact LeO.refl _)
      | (with_reducible exact LeO.none _)
      | (with_reducible refine LeO.ite ?_ ?_)
      | (with_reducible refine LeO.bind ?_ (fun _ => ?_))
      | exact ih0 _ _ _
      | exact ih1 _ _ _ _
      | exact LeO.none _
      | refine LeO.ite ?_ ?_
      | refine LeO.bind ?_ (fun _ => ?_)
set_option maxHeartbeats 8000000 in
set_option maxRecDepth 100000 in
theorem wringerref7_MayNorm.calls (k : Nat) (A0 : Option Addr) (c0 : Nat) (l0 : List Int) (a1 : Int) (r : Bool) (w : World) (hr0 : Kd.C (Kd.int .i64) w A0 l0.length l0) (hc0 : l0.length ≤ c0) (h : wringerref7_MayNorm.f k l0 a1 = some r) :
    Calls Try.prog 18 #[.slice A0 l0.length c0, .int .i64 a1] w fun e w' => e = .returned (.bool r) ∧ Drawn0 w w' := by
  have HR0 := Aside0.mk hr0
  have HC0 := Aside0.mk hc0
  clear hr0 hc0
  have H : ((wringerref7_isLog.f a1).bind fun t160 => (if t160 = true then (wringerref7_MayNorm.j0 k l0 a1 ((l0.length : Int) != 65)) else (wringerref7_MayNorm.j0 k l0 a1 true))) = some r := h
  clear h
  have HC3 := Aside0.mk H
  clear H
  go_enter Try.func18, Try.ntmps18
  go_upto_region 1 with (fail)
  repeat (go_quiet (fail); go_upto_region 1 with (fail))
  go_cut [14] (fun v14 wc => ∃ (kq : Nat) (x14_2 : Bool), v14 = .bool x14_2 ∧ Aside0 (wringerref7_MayNorm.j0 kq l0 a1 x14_2 = some r) ∧ Aside0 (kq ≤ k) ∧ Drawn0 w wc)
  case first =>
    have H := HC3.out
    clear HC3
    replace H := Option.bind_eq_some_iff.mp H
    obtain ⟨t160, A40, H⟩ := H
    replace H : (if t160 = true then (wringerref7_MayNorm.j0 k l0 a1 ((l0.length : Int) != 65)) else (wringerref7_MayNorm.j0 k l0 a1 true)) = some r := H
    have A4 := Aside0.mk A40
    clear A40
    by_cases c5 : t160 = true
    · subst c5
      have H1 : (wringerref7_MayNorm.j0 k l0 a1 ((l0.length : Int) != 65)) = some r := by rw [if_pos rfl] at H; exact H
      clear H
      have H := H1
      clear H1
      have H' := Aside0.mk H
      clear H
      go_wp2_with (first | (go_at_call 28; (with_reducible refine (wringerref7_isLog.calls a1 true _ A4.out).mono ?_); rintro e w' ⟨rfl, ⟨nd, rfl⟩⟩; (try first | exact ⟨rfl, _, World.drewN_drewN _ _ _⟩ | exact ⟨rfl, _, Eq.trans (World.drewN_drewN _ _ _) (congrArg (World.drewN _) (Nat.add_assoc _ _ _))⟩)))
      repeat (go_quiet (first | (go_at_call 28; (with_reducible refine (wringerref7_isLog.calls a1 true _ A4.out).mono ?_); rintro e w' ⟨rfl, ⟨nd, rfl⟩⟩; (try first | exact ⟨rfl, _, World.drewN_drewN _ _ _⟩ | exact ⟨rfl, _, Eq.trans (World.drewN_drewN _ _ _) (congrArg (World.drewN _) (Nat.add_assoc _ _ _))⟩))); try go_wp2_with (first | (go_at_call 28; (with_reducible refine (wringerref7_isLog.calls a1 true _ A4.out).mono ?_); rintro e w' ⟨rfl, ⟨nd, rfl⟩⟩; (try first | exact ⟨rfl, _, World.drewN_drewN _ _ _⟩ | exact ⟨rfl, _, Eq.trans (World.drewN_drewN _ _ _) (congrArg (World.drewN _) (Nat.add_assoc _ _ _))⟩))))
      go_meet
      case rel => exact ⟨_, (((l0.length : Int) != 65)), (by first | rfl | (simp; done) | (simp [*]; done)), H', ⟨by first | omega | exact Nat.le_refl _⟩, by repeat (first | exact Drawn0.refl _ | apply Drawn0.step)⟩
    · replace c5 := Bool.eq_false_iff.mpr c5
      subst c5
      have H1 : (wringerref7_MayNorm.j0 k l0 a1 true) = some r := by rw [if_neg (show ¬ (false = true) by decide)] at H; exact H
      clear H
      have H := H1
      clear H1
      have H' := Aside0.mk H
      clear H
      go_wp2_with (first | (go_at_call 28; (with_reducible refine (wringerref7_isLog.calls a1 false _ A4.out).mono ?_); rintro e w' ⟨rfl, ⟨nd, rfl⟩⟩; (try first | exact ⟨rfl, _, World.drewN_drewN _ _ _⟩ | exact ⟨rfl, _, Eq.trans (World.drewN_drewN _ _ _) (congrArg (World.drewN _) (Nat.add_assoc _ _ _))⟩)))
      repeat (go_quiet (first | (go_at_call 28; (with_reducible refine (wringerref7_isLog.calls a1 false _ A4.out).mono ?_); rintro e w' ⟨rfl, ⟨nd, rfl⟩⟩; (try first | exact ⟨rfl, _, World.drewN_drewN _ _ _⟩ | exact ⟨rfl, _, Eq.trans (World.drewN_drewN _ _ _) (congrArg (World.drewN _) (Nat.add_assoc _ _ _))⟩))); try go_wp2_with (first | (go_at_call 28; (with_reducible refine (wringerref7_isLog.calls a1 false _ A4.out).mono ?_); rintro e w' ⟨rfl, ⟨nd, rfl⟩⟩; (try first | exact ⟨rfl, _, World.drewN_drewN _ _ _⟩ | exact ⟨rfl, _, Eq.trans (World.drewN_drewN _ _ _) (congrArg (World.drewN _) (Nat.add_assoc _ _ _))⟩))))
      go_meet
      case rel => exact ⟨_, (true), (by first | rfl | (simp; done) | (simp [*]; done)), H', ⟨by first | omega | exact Nat.le_refl _⟩, by repeat (first | exact Drawn0.refl _ | apply Drawn0.step)⟩
  case rest =>
    clear HC3
    try clear c1
    try clear p2
    try clear c5
    obtain ⟨kq, x14_2, rfl, HA, HJ2, ⟨mc2, rfl⟩⟩ := hcut
    cases kq with
    | zero => exact absurd HA.out (by simp [wringerref7_MayNorm.j0])
    | succ kj2 =>
      have H := HA.out
      clear HA
      simp only [wringerref7_MayNorm.j0] at H
      by_cases c6 : x14_2 = true
      · subst c6
        have H1 : (some false) = some r := by rw [if_pos rfl] at H; exact H
        clear H
        have H := H1
        clear H1
        obtain rfl := Option.some.inj H
        go_wp2
        repeat (go_quiet (fail); try go_wp2)
        go_ret
        exact ⟨by first | rfl | (simp; done) | (simp [*]; done), by repeat (first | exact Drawn0.refl _ | apply Drawn0.step)⟩
      · replace c6 := Bool.eq_false_iff.mpr c6
        subst c6
        have H1 : (wringerref7_MayNorm.l0 kj2 l0 a1 0 0) = some r := by rw [if_neg (show ¬ (false = true) by decide)] at H; exact H
        clear H
        have H := H1
        clear H1
        have H' := Aside0.mk H
        clear H
        go_wp2
        repeat (go_quiet (fail); try go_wp2)
        go_loopg [5, 6] kj2 (fun kq v5 v6 w' => ∃ (x5_2 : Int) (x6_2 : Int), v5 = .int .i64 x5_2 ∧ v6 = .int .i64 x6_2 ∧ Aside0 (wringerref7_MayNorm.l0 kq l0 a1 x5_2 x6_2 = some r) ∧ Aside0 (kq ≤ kj2) ∧ Drawn0 w w')
        case atStart => exact ⟨(0), (0), (by first | rfl | (simp; done) | (simp [*]; done)), (by first | rfl | (simp; done) | (simp [*]; done)), H', ⟨Nat.le_refl _⟩, by repeat (first | exact Drawn0.refl _ | apply Drawn0.step)⟩
        case round =>
          clear H'
          try clear c1
          try clear c2
          try clear p2
          try clear c5
          try clear c6
          try clear p2
          obtain ⟨x5_2, x6_2, rfl, rfl, HA, HK2, ⟨m2, rfl⟩⟩ := hrel
          cases gk with
          | zero => exact absurd HA.out (by simp [wringerref7_MayNorm.l0])
          | succ k2 =>
            have H := HA.out
            clear HA
            simp only [wringerref7_MayNorm.l0] at H
            by_cases c7 : x6_2 < (l0.length : Int)
            · rw [if_pos c7] at H
              have c7b0 : decide (x6_2 < (l0.length : Int)) = true := decide_eq_true c7
              clear c7
              by_cases c8 : 0 ≤ x6_2
              · rw [if_pos c8] at H
                have c8b0 : decide (0 ≤ x6_2) = true := decide_eq_true c8
                clear c8
                by_cases c9 : (rd l0 x6_2) < 0
                · rw [if_pos c9] at H
                  have c9b0 : decide ((rd l0 x6_2) < 0) = true := decide_eq_true c9
                  clear c9
                  obtain rfl := Option.some.inj H
                  have p161 : 0 ≤ (x6_2 : Int) := of_decide_eq_true (by first | (with_reducible assumption) | assumption)
                  have q161 : x6_2 < (l0.length : Int) := of_decide_eq_true (by first | (with_reducible assumption) | assumption)
                  obtain ⟨ad161, e161, hx161_0⟩ := Kd.at_int HR0.out x6_2 p161 q161
                  cases e161
                  replace p161 := eq_true p161
                  replace q161 := eq_true q161
                  go_wp2
                  repeat (go_quiet (fail); try go_wp2)
                  go_ret
                  exact ⟨by first | rfl | (simp; done) | (simp [*]; done), by repeat (first | exact Drawn0.refl _ | apply Drawn0.step)⟩
                · rw [if_neg c9] at H
                  have c9b0 : decide ((rd l0 x6_2) < 0) = false := decide_eq_false c9
                  clear c9
                  by_cases c10 : 0 ≤ a1
                  · rw [if_pos c10] at H
                    have c10b0 := eq_true c10
                    have c10b1 : decide (0 ≤ a1) = true := decide_eq_true c10
                    clear c10
                    obtain ⟨ji11, hji11⟩ : ∃ j_ : Int, (shl .i64 1 a1) = j_ := ⟨_, rfl⟩
                    replace H : (if (rd l0 x6_2) > (ji11) then (some false) else (wringerref7_MayNorm.l0 k2 l0 a1 (wrap64 (x5_2 + (rd l0 x6_2))) (wrap64 (x6_2 + 1)))) = some r := by first | (rw [hji11] at H; exact H) | (simp only [hji11] at H ⊢; exact H)
                    have hji11_ : (IntKind.i64.wrap (1 * 2 ^ min a1.toNat 64)) = ji11 := hji11
                    have hji11z : a1 ≤ 64 → (IntKind.i64.wrap (1 * 2 ^ a1.toNat)) = ji11 := shl_small hji11
                    have hji11u : (IntKind.i64.wrap (2 ^ min a1.toNat 64)) = ji11 := by have h_ := hji11_; rw [Int.one_mul] at h_; exact h_
                    have hji11v : a1 ≤ 64 → (IntKind.i64.wrap (2 ^ a1.toNat)) = ji11 := fun hle_ => by have h_ := hji11z hle_; rw [Int.one_mul] at h_; exact h_
                    have hji11y : (wrap64 (1 * 2 ^ min a1.toNat 64)) = ji11 := (i64_w _).symm.trans hji11_
                    have hji11x : a1 ≤ 64 → (wrap64 (1 * 2 ^ a1.toNat)) = ji11 := fun h_ => (i64_w _).symm.trans (hji11z h_)
                    by_cases c12 : (rd l0 x6_2) > (ji11)
                    · rw [if_pos c12] at H
                      have c12b0 : decide ((ji11) < (rd l0 x6_2)) = true := decide_eq_true c12
                      clear c12
                      obtain rfl := Option.some.inj H
                      have p161 : 0 ≤ (x6_2 : Int) := of_decide_eq_true (by first | (with_reducible assumption) | assumption)
                      have q161 : x6_2 < (l0.length : Int) := of_decide_eq_true (by first | (with_reducible assumption) | assumption)
                      obtain ⟨ad161, e161, hx161_0⟩ := Kd.at_int HR0.out x6_2 p161 q161
                      cases e161
                      replace p161 := eq_true p161
                      replace q161 := eq_true q161
                      have p162 : 0 ≤ (x6_2 : Int) := of_decide_eq_true (by first | (with_reducible assumption) | assumption)
                      have q162 : x6_2 < (l0.length : Int) := of_decide_eq_true (by first | (with_reducible assumption) | assumption)
                      obtain ⟨ad162, e162, hx162_0⟩ := Kd.at_int HR0.out x6_2 p162 q162
                      obtain rfl : ad161 = ad162 := (by injection e162)
                      replace p162 := eq_true p162
                      replace q162 := eq_true q162
                      go_wp2
                      repeat (go_quiet (fail); try go_wp2)
                      go_ret
                      exact ⟨by first | rfl | (simp; done) | (simp only [← hji11] <;> (first | rfl | simp)) | (simp [*]; done), by repeat (first | exact Drawn0.refl _ | apply Drawn0.step)⟩
                    · rw [if_neg c12] at H
                      have c12b0 : decide ((ji11) < (rd l0 x6_2)) = false := decide_eq_false c12
                      clear c12
                      have H' := Aside0.mk H
                      clear H
                      have p161 : 0 ≤ (x6_2 : Int) := of_decide_eq_true (by first | (with_reducible assumption) | assumption)
                      have q161 : x6_2 < (l0.length : Int) := of_decide_eq_true (by first | (with_reducible assumption) | assumption)
                      obtain ⟨ad161, e161, hx161_0⟩ := Kd.at_int HR0.out x6_2 p161 q161
                      cases e161
                      replace p161 := eq_true p161
                      replace q161 := eq_true q161
                      have p162 : 0 ≤ (x6_2 : Int) := of_decide_eq_true (by first | (with_reducible assumption) | assumption)
                      have q162 : x6_2 < (l0.length : Int) := of_decide_eq_true (by first | (with_reducible assumption) | assumption)
                      obtain ⟨ad162, e162, hx162_0⟩ := Kd.at_int HR0.out x6_2 p162 q162
                      obtain rfl : ad161 = ad162 := (by injection e162)
                      replace p162 := eq_true p162
                      replace q162 := eq_true q162
                      have p163 : 0 ≤ (x6_2 : Int) := of_decide_eq_true (by first | (with_reducible assumption) | assumption)
                      have q163 : x6_2 < (l0.length : Int) := of_decide_eq_true (by first | (with_reducible assumption) | assumption)
                      obtain ⟨ad163, e163, hx163_0⟩ := Kd.at_int HR0.out x6_2 p163 q163
                      obtain rfl : ad161 = ad163 := (by injection e163)
                      replace p163 := eq_true p163
                      replace q163 := eq_true q163
                      go_wp2
                      repeat (go_quiet (fail); try go_wp2)
                      go_roundg k2
                      case measure => have := HJ2.out; have := HK2.out; omega
                      case rel => exact ⟨(wrap64 (x5_2 + (rd l0 x6_2))), (wrap64 (x6_2 + 1)), (by first | rfl | (simp; done) | (simp [*]; done)), (by first | rfl | (simp; done) | (simp [*]; done)), H', ⟨by have := HJ2.out; have := HK2.out; omega⟩, by repeat (first | exact Drawn0.refl _ | apply Drawn0.step)⟩
                  · rw [if_neg c10] at H
                    exact absurd H (by simp)
              · rw [if_neg c8] at H
                exact absurd H (by simp)
            · rw [if_neg c7] at H
              have c7b0 : decide (x6_2 < (l0.length : Int)) = false := decide_eq_false c7
              clear c7
              by_cases c13 : 0 ≤ a1
              · rw [if_pos c13] at H
                have c13b0 := eq_true c13
                have c13b1 : decide (0 ≤ a1) = true := decide_eq_true c13
                clear c13
                obtain ⟨ji14, hji14⟩ : ∃ j_ : Int, (shl .i64 1 a1) = j_ := ⟨_, rfl⟩
                replace H : (some (x5_2 == (ji14))) = some r := by first | (rw [hji14] at H; exact H) | (simp only [hji14] at H ⊢; exact H)
                have hji14_ : (IntKind.i64.wrap (1 * 2 ^ min a1.toNat 64)) = ji14 := hji14
                have hji14z : a1 ≤ 64 → (IntKind.i64.wrap (1 * 2 ^ a1.toNat)) = ji14 := shl_small hji14
                have hji14u : (IntKind.i64.wrap (2 ^ min a1.toNat 64)) = ji14 := by have h_ := hji14_; rw [Int.one_mul] at h_; exact h_
                have hji14v : a1 ≤ 64 → (IntKind.i64.wrap (2 ^ a1.toNat)) = ji14 := fun hle_ => by have h_ := hji14z hle_; rw [Int.one_mul] at h_; exact h_
                have hji14y : (wrap64 (1 * 2 ^ min a1.toNat 64)) = ji14 := (i64_w _).symm.trans hji14_
                have hji14x : a1 ≤ 64 → (wrap64 (1 * 2 ^ a1.toNat)) = ji14 := fun h_ => (i64_w _).symm.trans (hji14z h_)
                obtain rfl := Option.some.inj H
                go_wp2
                repeat (go_quiet (fail); try go_wp2)
                go_ret
                exact ⟨by first | rfl | (simp; done) | (simp only [← hji14] <;> (first | rfl | simp)) | (simp [*]; done), by repeat (first | exact Drawn0.refl _ | apply Drawn0.step)⟩
              · rw [if_neg c13] at H
                exact absurd H (by simp)

end Go.Proofs.Ytbldocbijihpgaa.PA

-- ---- Um
/- Which numbers may be: what both functions come to. -/
namespace Go.Proofs.Ytbldocbijihpgaa.PA
set_option linter.unusedVariables false
set_option linter.unusedSimpArgs false
open Go.RowKit Go.Proofs.YtbldocbijihpgaaW.PrintWords Go.Proofs.YtbldocbijihpgaaW.PrintLast Go.Proofs.YtbldocbijihpgaaW.PrintMore Nl Sp

theorem mayLog_is (a : Int) : norm_mayLog.f a = some (decide (7 ≤ a ∧ a ≤ 12)) := by
  unfold norm_mayLog.f
  by_cases h : a ≥ 7
  · rw [if_pos h]; congr 1; simp; omega
  · rw [if_neg h]; congr 1; simp; omega
theorem isLog_is (a : Int) : wringerref7_isLog.f a = some (decide (7 ≤ a ∧ a ≤ 12)) := by
  unfold wringerref7_isLog.f
  by_cases h : a ≥ 7
  · rw [if_pos h]; congr 1; simp; omega
  · rw [if_neg h]; congr 1; simp; omega

theorem drop_getD (l : List Int) (i : Nat) (h : i < l.length) : l.drop i = l.getD i 0 :: l.drop (i + 1) := by
  rw [List.drop_eq_getElem_cons h]; simp [List.getD_eq_getElem?_getD, h]

theorem may_l0 (P : Nat) (hP : P ≤ 4096) (l : List Int) (hl : l.length ≤ 100) : ∀ (d i : Nat) (t : Int), i + d = l.length → 0 ≤ t → t ≤ 4096 * (i : Int) →
    Ev (fun k => norm_May.l0 k (P : Int) t l (l.length : Int) (i : Int)) (decide ((∀ x ∈ l.drop i, 0 ≤ x ∧ x ≤ (P : Int)) ∧ t + (l.drop i).sum = (P : Int))) := by
  intro d
  induction d with
  | zero =>
    intro i t hi h0 h1
    refine Ev.step (f := fun _ => some (t == (P : Int))) (fun k => by simp only [norm_May.l0]; rw [if_neg (by omega)]) (Ev.ofSome ?_)
    rw [List.drop_eq_nil_of_le (by omega), Bool.eq_iff_iff]; simp
  | succ d ih =>
    intro i t hi h0 h1
    have hil : i < l.length := by omega
    rw [drop_getD l i hil]
    generalize hy : l.getD i 0 = y
    by_cases hy0 : y < 0
    · refine Ev.step (f := fun _ => some false) (fun k => by simp only [norm_May.l0]; rw [if_pos (by omega), if_pos (by omega), if_pos (by omega), rd_nat, hy, if_pos hy0]) (Ev.ofSome ?_)
      symm; rw [decide_eq_false_iff_not]; intro h; have := h.1 y (by simp); omega
    · by_cases hyP : y > (P : Int)
      · refine Ev.step (f := fun _ => some false) (fun k => by simp only [norm_May.l0]; rw [if_pos (by omega), if_pos (by omega), if_pos (by omega), rd_nat, hy, if_neg hy0, if_pos hyP]) (Ev.ofSome ?_)
        symm; rw [decide_eq_false_iff_not]; intro h; have := h.1 y (by simp); omega
      · refine evq ?_ (Ev.step (f := fun k => norm_May.l0 k (P : Int) (t + y) l (l.length : Int) ((i + 1 : Nat) : Int)) (fun k => by simp only [norm_May.l0]; rw [if_pos (by omega), if_pos (by omega), if_pos (by omega), rd_nat, hy, if_neg hy0, if_neg hyP, w64 (by omega) (by omega), w64 (by omega) (by omega)]; rfl) (ih (i + 1) (t + y) (by omega) (by omega) (by omega)))
        congr 1
        simp only [List.mem_cons, forall_eq_or_imp, List.sum_cons, eq_iff_iff]
        constructor
        · rintro ⟨a, b⟩; exact ⟨⟨⟨by omega, by omega⟩, a⟩, by omega⟩
        · rintro ⟨⟨_, a⟩, b⟩; exact ⟨a, by omega⟩

theorem may_is (l : List Int) (a : Int) : Ev (fun k => norm_May.f k l a) (mayN l a) := by
  unfold norm_May.f
  refine Ev.bind0 (mayLog_is a) ?_
  by_cases hlog : 7 ≤ a ∧ a ≤ 12
  · obtain ⟨m, rfl⟩ := Int.eq_ofNat_of_zero_le (show 0 ≤ a by omega)
    have hp : 2 ^ m ≤ 4096 := by have := pow2_le m 12 (by omega); omega
    refine Ev.ite_pos (by simpa using hlog) ?_
    by_cases h65 : l.length = 65
    · refine evq ?_ (Ev.step (f := fun k => norm_May.l0 k ((2 ^ m : Nat) : Int) 0 l (l.length : Int) ((0 : Nat) : Int)) (fun k => by simp only [norm_May.j0]; rw [if_neg (by simp; omega), if_pos (by omega), shl_1 m (by omega)]; rfl) (may_l0 (2 ^ m) hp l (by omega) l.length 0 0 (by omega) (by omega) (by omega)))
      unfold mayN
      rw [Int.toNat_natCast, List.drop_zero]
      congr 1
      rw [eq_iff_iff]
      constructor
      · rintro ⟨x, y⟩; exact ⟨by omega, by omega, h65, x, by omega⟩
      · rintro ⟨_, _, _, x, y⟩; exact ⟨x, by omega⟩
    · refine Ev.step (f := fun _ => some false) (fun k => by simp only [norm_May.j0]; rw [if_pos (by simp; omega)]) (Ev.ofSome ?_)
      symm; unfold mayN; rw [decide_eq_false_iff_not]; rintro ⟨_, _, h, _⟩; exact h65 h
  · refine Ev.ite_neg (by simpa using hlog) ?_
    refine Ev.step (f := fun _ => some false) (fun k => by simp only [norm_May.j0]; rfl) (Ev.ofSome ?_)
    symm; unfold mayN; rw [decide_eq_false_iff_not]; rintro ⟨h1, h2, _⟩; exact hlog ⟨h1, h2⟩

theorem rmay_l0 (m : Nat) (hm : m ≤ 12) (l : List Int) (hl : l.length ≤ 100) : ∀ (d i : Nat) (t : Int), i + d = l.length → 0 ≤ t → t ≤ 4096 * (i : Int) →
    Ev (fun k => wringerref7_MayNorm.l0 k l (m : Int) t (i : Int)) (decide ((∀ x ∈ l.drop i, 0 ≤ x ∧ x ≤ ((2 ^ m : Nat) : Int)) ∧ t + (l.drop i).sum = ((2 ^ m : Nat) : Int))) := by
  have hP : 2 ^ m ≤ 4096 := by have := pow2_le m 12 hm; omega
  have hs := shl_1 m (by omega)
  generalize 2 ^ m = P at hP hs
  intro d
  induction d with
  | zero =>
    intro i t hi h0 h1
    refine Ev.step (f := fun _ => some (t == (P : Int))) (fun k => by simp only [wringerref7_MayNorm.l0]; rw [if_neg (by omega), if_pos (by omega), hs]) (Ev.ofSome ?_)
    rw [List.drop_eq_nil_of_le (by omega), Bool.eq_iff_iff]; simp
  | succ d ih =>
    intro i t hi h0 h1
    have hil : i < l.length := by omega
    rw [drop_getD l i hil]
    generalize hy : l.getD i 0 = y
    by_cases hy0 : y < 0
    · refine Ev.step (f := fun _ => some false) (fun k => by simp only [wringerref7_MayNorm.l0]; rw [if_pos (by omega), if_pos (by omega), rd_nat, hy, if_pos hy0]) (Ev.ofSome ?_)
      symm; rw [decide_eq_false_iff_not]; intro h; have := h.1 y (by simp); omega
    · by_cases hyP : y > (P : Int)
      · refine Ev.step (f := fun _ => some false) (fun k => by simp only [wringerref7_MayNorm.l0]; rw [if_pos (by omega), if_pos (by omega), rd_nat, hy, if_neg hy0, if_pos (by omega), hs, if_pos hyP]) (Ev.ofSome ?_)
        symm; rw [decide_eq_false_iff_not]; intro h; have := h.1 y (by simp); omega
      · refine evq ?_ (Ev.step (f := fun k => wringerref7_MayNorm.l0 k l (m : Int) (t + y) ((i + 1 : Nat) : Int)) (fun k => by simp only [wringerref7_MayNorm.l0]; rw [if_pos (by omega), if_pos (by omega), rd_nat, hy, if_neg hy0, if_pos (by omega), hs, if_neg hyP, w64 (by omega) (by omega), w64 (by omega) (by omega)]; rfl) (ih (i + 1) (t + y) (by omega) (by omega) (by omega)))
        congr 1
        simp only [List.mem_cons, forall_eq_or_imp, List.sum_cons, eq_iff_iff]
        constructor
        · rintro ⟨a, b⟩; exact ⟨⟨⟨by omega, by omega⟩, a⟩, by omega⟩
        · rintro ⟨⟨_, a⟩, b⟩; exact ⟨a, by omega⟩

theorem rmay_is (l : List Int) (a : Int) : Ev (fun k => wringerref7_MayNorm.f k l a) (mayN l a) := by
  unfold wringerref7_MayNorm.f
  refine Ev.bind0 (isLog_is a) ?_
  by_cases hlog : 7 ≤ a ∧ a ≤ 12
  · obtain ⟨m, rfl⟩ := Int.eq_ofNat_of_zero_le (show 0 ≤ a by omega)
    refine Ev.ite_pos (by simpa using hlog) ?_
    by_cases h65 : l.length = 65
    · refine evq ?_ (Ev.step (f := fun k => wringerref7_MayNorm.l0 k l (m : Int) 0 ((0 : Nat) : Int)) (fun k => by simp only [wringerref7_MayNorm.j0]; rw [if_neg (by simp; omega)]; rfl) (rmay_l0 m (by omega) l (by omega) l.length 0 0 (by omega) (by omega) (by omega)))
      unfold mayN
      rw [Int.toNat_natCast, List.drop_zero]
      congr 1
      rw [eq_iff_iff]
      constructor
      · rintro ⟨x, y⟩; exact ⟨by omega, by omega, h65, x, by omega⟩
      · rintro ⟨_, _, _, x, y⟩; exact ⟨x, by omega⟩
    · refine Ev.step (f := fun _ => some false) (fun k => by simp only [wringerref7_MayNorm.j0]; rw [if_pos (by simp; omega)]) (Ev.ofSome ?_)
      symm; unfold mayN; rw [decide_eq_false_iff_not]; rintro ⟨_, _, h, _⟩; exact h65 h
  · refine Ev.ite_neg (by simpa using hlog) ?_
    refine Ev.step (f := fun _ => some false) (fun k => by simp only [wringerref7_MayNorm.j0]; rfl) (Ev.ofSome ?_)
    symm; unfold mayN; rw [decide_eq_false_iff_not]; rintro ⟨h1, h2, _⟩; exact hlog ⟨h1, h2⟩

/-- What those that may be are. -/
structure May (l : List Int) (m : Nat) : Prop where
  lo : 7 ≤ m
  hi : m ≤ 12
  len : l.length = 65
  each : ∀ x ∈ l, 0 ≤ x ∧ x ≤ ((2 ^ m : Nat) : Int)
  sum : l.sum = ((2 ^ m : Nat) : Int)
theorem may_iff (l : List Int) (a : Int) : mayN l a = true ↔ ∃ m : Nat, a = (m : Int) ∧ May l m := by
  unfold mayN
  rw [decide_eq_true_eq]
  constructor
  · rintro ⟨h1, h2, h3, h4, h5⟩
    exact ⟨a.toNat, by omega, by omega, by omega, h3, h4, h5⟩
  · rintro ⟨m, rfl, h⟩
    exact ⟨by have := h.lo; omega, by have := h.hi; omega, h.len, by rw [Int.toNat_natCast]; exact h.each, by rw [Int.toNat_natCast]; exact h.sum⟩
end Go.Proofs.Ytbldocbijihpgaa.PA

-- ---- PureNormMade
/- So of frequencies by numbers; what is normed may be; a class that comes has one at least, others none; more frequent ones have no fewer: the plain statement of NormMade holds for every input. Conditions: none. -/
namespace Go.Proofs.Ytbldocbijihpgaa.Pure
open Go.RowKit Go.Proofs.Ytbldocbijihpgaa.PA Go.Proofs.YtbldocbijihpgaaW.PrintWords Go.Proofs.YtbldocbijihpgaaW.PrintLast Go.Proofs.YtbldocbijihpgaaW.PrintMore Nl Sp
set_option linter.unusedVariables false
set_option linter.unusedSimpArgs false

theorem made_l1 (f l : List Int) (m i : Nat) (hf : f.length = 65) (hl : l.length = 65) (hi : i < 65) (hb : ∀ x ∈ l, 0 ≤ x ∧ x ≤ 4096) (ho : Ok f l) (hn : Ev (fun k => wringerlaw12_NormMade.l0 k f (m : Int) l ((i + 1 : Nat) : Int)) true) :
    ∀ (d j : Nat), j + d = 65 → Ev (fun k => wringerlaw12_NormMade.l1 k f (m : Int) l (i : Int) (j : Int)) true := by
  intro d
  induction d with
  | zero =>
    intro j hj
    refine Ev.step (f := fun k => wringerlaw12_NormMade.l0 k f (m : Int) l ((i + 1 : Nat) : Int)) (fun k => ?_) hn
    simp only [wringerlaw12_NormMade.l1]
    rw [if_neg (by omega), w64 (by omega) (by omega)]; rfl
  | succ d ih =>
    intro j hj
    have hli := hb _ (getD_mem (show i < l.length by omega))
    refine Ev.step (f := fun k => wringerlaw12_NormMade.l1 k f (m : Int) l (i : Int) ((j + 1 : Nat) : Int)) (fun k => ?_) (ih (j + 1) (by omega))
    simp only [wringerlaw12_NormMade.l1, rd_nat]
    rw [if_pos (by omega), if_pos (by omega), if_pos (by omega), if_pos (by omega), if_pos (by omega), w64 (x := l.getD i 0 + 1) (by omega) (by omega), w64 (x := (j : Int) + 1) (by omega) (by omega)]
    by_cases h : f.getD i 0 > f.getD j 0
    · have := ho.mono i j (by omega) (by omega) h
      rw [if_pos h, if_pos (by omega), if_pos (by omega), if_neg (by omega)]; rfl
    · rw [if_neg h]; rfl
theorem made_l0 (f l : List Int) (m : Nat) (hf : f.length = 65) (hl : l.length = 65) (hb : ∀ x ∈ l, 0 ≤ x ∧ x ≤ 4096) (ho : Ok f l) (hm : mayN l (m : Int) = true) :
    ∀ (d i : Nat), i + d = 65 → Ev (fun k => wringerlaw12_NormMade.l0 k f (m : Int) l (i : Int)) true := by
  intro d
  induction d with
  | zero =>
    intro i hi
    refine Ev.step (f := fun k => (norm_May.f k l (m : Int)).bind fun t282 => (if t282 = true then ((wringerlaw12_awake.f k).bind fun t283 => (some t283)) else (some false))) (fun k => ?_) (Ev.bind (may_is l (m : Int)) ?_)
    · simp only [wringerlaw12_NormMade.l0]
      rw [if_neg (by omega)]
    · exact Ev.ite_pos hm (Ev.bind awake12 (Ev.now _))
  | succ d ih =>
    intro i hi
    refine Ev.step (f := fun k => wringerlaw12_NormMade.l1 k f (m : Int) l (i : Int) 0) (fun k => ?_) (made_l1 f l m i hf hl (by omega) hb ho (ih (i + 1) (by omega)) 65 0 (by omega))
    simp only [wringerlaw12_NormMade.l0, rd_nat]
    have := ho.pos i (by omega)
    have e : (decide (l.getD i 0 > 0) != decide (f.getD i 0 > 0)) = false := by
      rw [bne_eq_false_iff_eq, decide_eq_decide]; exact this
    rw [if_pos (by omega), if_pos (by omega), if_pos (by omega), if_pos (by omega), e, if_neg (by decide)]

theorem NormMade : wringerlaw12_NormMade.Pure := by
  intro l0 a1 _ _ hw ha
  apply Ev.rounds
  unfold wringerlaw12_NormMade.f
  by_cases h0 : (l0.length : Int) > 140
  · exact Ev.ite_pos h0 (Ev.bind awake12 (Ev.now _))
  · refine Ev.ite_neg h0 ?_
    obtain ⟨v, rfl, hv⟩ := u8_at ha
    obtain ⟨f, hf, hok⟩ := freq_is l0 hw (by omega)
    have hlen := hok.len
    rw [log_of v hv]
    have h7 : 7 ≤ 7 + v % 6 := by omega
    have h12 : 7 + v % 6 ≤ 12 := by omega
    generalize 7 + v % 6 = m at h7 h12
    refine Ev.bind hf ?_
    by_cases hfr : frB f = true
    · have hF := (frB_iff f).1 hfr
      have hp := Nat.pow_le_pow_right (show 0 < 2 by decide) h7
      have hp2 := Nat.pow_le_pow_right (show 0 < 2 by decide) h12
      have hO : norm_Of.f f (m : Int) = some (normL f ((2 ^ m : Nat) : Int), 0) := of_ok hF h7 h12
      have hmay := norm_mayN hF h7 h12
      have hl := hF.norm_len (size := ((2 ^ m : Nat) : Int)) (by omega)
      have hat := hF.norm_at (size := ((2 ^ m : Nat) : Int)) (by omega)
      have hok2 := (hF.norm (size := ((2 ^ m : Nat) : Int)) (by omega)).1
      refine Ev.bind0 hO (Ev.bind0 (norm_f hF h7 h12) ?_)
      generalize hL : normL f ((2 ^ m : Nat) : Int) = l at *
      refine Ev.bind (same_self l (by omega)) (Ev.ite_pos rfl (Ev.bind0 (rfl : wringerlaw1_Err.f _ = some _) ?_))
      refine Ev.step (f := fun k => wringerlaw12_NormMade.l0 k f (m : Int) l ((0 : Nat) : Int)) (fun k => ?_) (made_l0 f l m hlen hl (fun x hx => by have := hat x hx; omega) hok2 hmay 65 0 (by omega))
      simp only [wringerlaw12_NormMade.j0]
      rfl
    · have hO : norm_Of.f f (m : Int) = some ([], 1) := of_bad (by omega) (fun h => hfr h.1)
      have hN : wringerref7_Norm.f f (m : Int) = some ([], 1) := rnorm_bad' (by omega) (fun h => hfr h.1)
      refine Ev.bind0 hO (Ev.bind0 hN (Ev.bind (same_self [] (by decide)) (Ev.ite_pos rfl (Ev.bind0 (rfl : wringerlaw1_Err.f _ = some _) ?_))))
      refine Ev.step (f := fun k => (wringerlaw12_awake.f k).bind fun t281 => some t281) (fun k => ?_) (Ev.bind awake12 (Ev.now _))
      simp only [wringerlaw12_NormMade.j0]
      rfl
end Go.Proofs.Ytbldocbijihpgaa.Pure

-- ---- LawNormMade

namespace Go.Proofs.Ytbldocbijihpgaa.normMade
open Go.ChangeShapes Go.WideShapes Go.ChangeAt Go.RowKit
open Go.ChangeMaps (open_string shut_string)
set_option linter.unusedVariables false
theorem own : ownKnob Try.prog.godebug = none := by kernel_rfl
theorem laidOut : laidOutB Try.prog = true := by kernel_rfl
def IsRow (k : IntKind) (w : World) (a : Option Addr) (len cap : Nat) (zs : List Int) : Prop :=
  (a = none ∧ len = 0 ∧ cap = 0 ∧ zs = []) ∨
  ∃ x, a = some x ∧ len ≤ cap ∧ cap ≤ maxLen ∧ zs.length = cap ∧ (∀ i, i < zs.length → w.cell? (x.add i) = some (.int k (zs.getD i 0))) ∧ ∀ n ∈ zs, (Lit.int k n).wf = true
set_option maxRecDepth 100000 in
theorem lifted (os : Os) (started : os.Started) (H : Type) (enc : TypeId × Value → H) :
    ReturnsInHanded {} Try.checked os 3 .any (Rows.normMadeSpec.pre6 enc Try.prog Try.f3 Rows.normMadeRow.domain false) (Rows.normMadeSpec.post enc Try.prog Try.f3 false true false false) := by
  refine returnsInHanded_of_change_sized (C := Try.checked) own started (by kernel_rfl) Try.func3
    (ChangeSpec.witness6 (enc := enc) (C := Try.checked) false ⟨#[], #[.slice none 0 0, .int .u8 0], []⟩ 8 (by kernel_rfl) (by kernel_rfl) (by kernel_rfl) (by kernel_rfl)) ?_
  intro W base args ds gs before hval0 hW hcnd hsz0 _
  have hsz : (DataW.weightsEach Try.prog (Try.f3.params.toList ++ Rows.normMadeSpec.plain.varTypes Try.prog) (ds ++ gs)).all (· ≤ reachBytes) = true := hsz0
  have hval : ∀ (j : Nat) t v, Try.f3.params[j]? = some t → args[j]? = some v → Value.okWide Try.prog W .any base t v := hval0
  have hW' := hW
  obtain ⟨p, q, hA0, hV, rfl, hfz, hnd⟩ := hW
  have hA : DataW.TrodAll enc Try.prog W 0 (fun _ => true) true Try.f3.params.toList args.toList ds p := hA0
  rw [Try.params3] at hA hval hsz
  obtain ⟨v0, vs0, d0, ds0, p0, q0, hargs, rfl, rfl, h0, r0⟩ := trodAll_cons hA
  obtain ⟨v1, vs1, d1, ds1, p1, q1, rfl, rfl, rfl, h1, r1⟩ := trodAll_cons r0
  obtain ⟨rfl, rfl, rfl⟩ := trodAll_nil r1
  obtain rfl : args = #[v0, v1] := by cases args; simp_all
  obtain ⟨rfl, rfl⟩ := trodVars_none hV
  obtain ⟨a0, len0, cap0, rfl⟩ := okWide_slice Try.underlying22 (hval 0 22 v0 rfl rfl)
  have k0 := h0
  have lt0 : ∀ x ∈ p0, x.block < W.heap.size := by obtain ⟨m, hm⟩ := k0; exact DataW.trod_lt m _ _ _ hm
  obtain ⟨z0, w0⟩ : ∃ zs, IsRow .u16 W a0 len0 cap0 zs := by
    obtain ⟨fuel, hf⟩ := h0
    rcases open_ints Try.underlying22 Try.underlying36 (by kernel_rfl) hf with ⟨hcs, _⟩ | ⟨x, l, c, zs, hcs, _, hl, hm, hz, _, hcell, hwz⟩
    · simp [Value.cells] at hcs
      obtain ⟨rfl, rfl, rfl⟩ := hcs
      exact ⟨[], .inl ⟨rfl, rfl, rfl, rfl⟩⟩
    · simp [Value.cells] at hcs
      obtain ⟨rfl, rfl, rfl⟩ := hcs
      exact ⟨zs, .inr ⟨_, rfl, hl, hm, by simpa using hz, hcell, hwz⟩⟩
  have y0 : len0 * 2 ≤ 140737488351232 := Go.Proofs.YtbldocbijihpgaaW.PrintWords.sized_ints hsz (j := 0) (t := 22) rfl rfl Try.underlying22 Try.underlying36 (by kernel_rfl) (by kernel_rfl) h0
  obtain ⟨a1, rfl, rfl, rfl, w1⟩ := open_int Try.underlying5 (hval 1 5 v1 rfl rfl) h1
  clear hA0 hval0 hsz0 hsz
  refine (PA.wringerlaw12_NormMade.walk Pure.NormMade a0 len0 cap0 z0 a1 W w0 y0 w1).mono fun e W' ⟨he, bel⟩ => ?_
  subst he
  exact ⟨_, rfl, _, _, _, [], _, [], hW', trodAll_mk1 (shut_bool Try.underlying4 _), (trodAll_cons_mk (Below.trod laidOut (by kernel_rfl) (of_decide_eq_true (by kernel_rfl)) k0 bel lt0) (trodAll_cons_mk (shut_int Try.underlying5 w1) trodAll_mk0)), rfl, bel.frame _, fun h => by cases h⟩
theorem over : Rows.normMadeRow.holds Try.pinned (OpenSpec.ofChange Rows.normMadeSpec) :=
  OpenClaim.holds_of_wide 3 Try.f3 rfl rfl rfl rfl rfl rfl rfl ⟨rfl, rfl, rfl, rfl, rfl⟩ rfl rfl rfl rfl rfl (by kernel_rfl) Try.func3 (by kernel_rfl)
    (of_decide_eq_true (by kernel_rfl)) (by unfold Func.isWrapper; first | (rw [if_pos (by decide +kernel)]; kernel_rfl) | (rw [if_neg (by decide +kernel)]; exact ⟨rfl, rfl⟩))
    (fun os started H enc _ => lifted os started H enc)
theorem proved : Rows.NormMadeSaid := over
#print axioms proved
end Go.Proofs.Ytbldocbijihpgaa.normMade
namespace Go.Proofs.Ytbldocbijihpgaa
/-- The row, under a short name, for the claim. -/
theorem normMade_holds : Rows.NormMadeSaid := normMade.proved
end Go.Proofs.Ytbldocbijihpgaa
