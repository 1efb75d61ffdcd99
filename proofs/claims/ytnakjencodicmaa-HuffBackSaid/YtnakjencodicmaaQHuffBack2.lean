/- Part HuffBack2 of what the layer's laws stand on: PAx24, Ul, Ce, Cp, PAx8, PAx25, Cq, Ja, Jb, Jc, Mt, Jd, Je, Jf, Zm, Jg. Written by a program (merge.py) out of this session's own texts and of what the kit's print wrote over stand-ins (sp.py). Conditions: those that each theorem names. -/
import Derived.Test.YtnakjencodicmaaQHuffBack1
import Derived.OwnWalk
import Derived.Test.YtnakjencodicmaaProg
import Derived.Maps.OwnSet
import Derived.DeepKeys4
import Derived.Deep.LoopGhost
import Derived.WalkKit
import Derived.Lib.BitFns
-- ---- PAx24

namespace Go.Proofs.Ytnakjencodicmaa.PA
open Go.RowKit Go.Proofs.YtnakjencodicmaaW.PrintWords Go.Proofs.YtnakjencodicmaaW.PrintLast Go.Proofs.YtnakjencodicmaaW.PrintMore
attribute [local go_sem] max2_int min2_int max_two min_two max_three min_three max_four min_four   -- for this text's walks alone
set_option linter.unusedVariables false
set_option linter.unusedSimpArgs false

/-! ### wringerref7_MayLens: function 50 -/
mutual
def wringerref7_MayLens.l0 : Nat → List Int → Int → Int → Int → Option (Bool)
  | 0, _, _, _, _ => none
  | k + 1, x0, x3, x4, x5 => if x5 < (x0.length : Int) then (if 0 ≤ x5 then (if (rd x0 x5) < 0 then (wringerref7_MayLens.j1 k x0 x3 x4 x5 true) else (wringerref7_MayLens.j1 k x0 x3 x4 x5 (decide ((rd x0 x5) > 15)))) else (none)) else (if x4 = 0 then (some true) else (if x3 = 32768 then (some true) else (if x4 = 1 then (some (x3 == 16384)) else (some false))))
def wringerref7_MayLens.j1 : Nat → List Int → Int → Int → Int → Bool → Option (Bool)
  | 0, _, _, _, _, _ => none
  | k + 1, x0, x3, x4, x5, x26 => if x26 = true then (some false) else (if 0 ≤ x5 then (if x5 < (x0.length : Int) then (if (rd x0 x5) > 0 then (if 0 ≤ (wrap64 (15 - (rd x0 x5))) then (wringerref7_MayLens.l0 k x0 (wrap64 (x3 + (shl .i64 1 (wrap64 (15 - (rd x0 x5)))))) (wrap64 (x4 + 1)) (wrap64 (x5 + 1))) else (none)) else (wringerref7_MayLens.l0 k x0 x3 x4 (wrap64 (x5 + 1)))) else (none)) else (none))
end
def wringerref7_MayLens.f (k : Nat) (l0 : List Int) : Option (Bool) := if (l0.length : Int) = 65 then (wringerref7_MayLens.l0 k l0 0 0 0) else (some false)
theorem wringerref7_MayLens.mono_l : ∀ k, (∀ y0 y1 y2 y3, LeO (wringerref7_MayLens.l0 k y0 y1 y2 y3) (wringerref7_MayLens.l0 (k + 1) y0 y1 y2 y3)) ∧ (∀ y0 y1 y2 y3 y4, LeO (wringerref7_MayLens.j1 k y0 y1 y2 y3 y4) (wringerref7_MayLens.j1 (k + 1) y0 y1 y2 y3 y4))
  | 0 => ⟨fun _ _ _ _ r h => by simp [wringerref7_MayLens.l0] at h, fun _ _ _ _ _ r h => by simp [wringerref7_MayLens.j1] at h⟩
  | k + 1 => by
    obtain ⟨ih0, ih1⟩ := wringerref7_MayLens.mono_l k
    refine ⟨?_, ?_⟩
    · intro y0 y1 y2 y3
      unfold wringerref7_MayLens.l0
      repeat' first
      | (with_reducible exact ih0 _ _ _ _)
      | (with_reducible exact ih1 _ _ _ _ _)
      | (with_reducible exact LeO.refl _)
      | (with_reducible exact LeO.none _)
      | (with_reducible refine LeO.ite ?_ ?_)
      | (with_reducible refine LeO.bind ?_ (fun _ => ?_))
      | exact ih0 _ _ _ _
      | exact ih1 _ _ _ _ _
      | exact LeO.none _
      | refine LeO.ite ?_ ?_
      | refine LeO.bind ?_ (fun _ => ?_)
    · intro y0 y1 y2 y3 y4
      unfold wringerref7_MayLens.j1
      repeat' first
      | (with_reducible exact ih0 _ _ _ _)
      | (with_reducible exact ih1 _ _ _ _ _)
      | (with_reducible exact LeO.refl _)
      | (with_reducible exact LeO.none _)
      | (with_reducible refine LeO.ite ?_ ?_)
      | (with_reducible refine LeO.bind ?_ (fun _ => ?_))
      | exact ih0 _ _ _ _
      | exact ih1 _ _ _ _ _
      | exact LeO.none _
      | refine LeO.ite ?_ ?_
      | refine LeO.bind ?_ (fun _ => ?_)
theorem wringerref7_MayLens.mono : ∀ a0 k, LeO (wringerref7_MayLens.f k a0) (wringerref7_MayLens.f (k + 1) a0) := by
  intro a0 k
  obtain ⟨ih0, ih1⟩ := wringerref7_MayLens.mono_l k
  unfold wringerref7_MayLens.f
  repeat' first
      | (with_reducible exact ih0 _ _ _ _)
      | (with_reducible exact ih1 _ _ _ _ _)
      | (with_reducible exact LeO.refl _)
      | (with_reducible exact LeO.none _)
      | (with_reducible refine LeO.ite ?_ ?_)
      | (with_reducible refine LeO.bind ?_ (fun _ => ?_))
      | exact ih0 _ _ _ _
      | exact ih1 _ _ _ _ _
      | exact LeO.none _
      | refine LeO.ite ?_ ?_
      | refine LeO.bind ?_ (fun _ => ?_)
set_option maxHeartbeats 8000000 in
set_option maxRecDepth 100000 in
theorem wringerref7_MayLens.calls (k : Nat) (A0 : Option Addr) (c0 : Nat) (l0 : List Int) (r : Bool) (w : World) (hr0 : Kd.C (Kd.int .i64) w A0 l0.length l0) (hc0 : l0.length ≤ c0) (h : wringerref7_MayLens.f k l0 = some r) :
    Calls Try.prog 50 #[.slice A0 l0.length c0] w fun e w' => e = .returned (.bool r) ∧ Drawn0 w w' := by
  have HR0 := Aside0.mk hr0
  have HC0 := Aside0.mk hc0
  clear hr0 hc0
  have H : (if (l0.length : Int) = 65 then (wringerref7_MayLens.l0 k l0 0 0 0) else (some false)) = some r := h
  clear h
  by_cases c2 : (l0.length : Int) = 65
  · rw [if_pos c2] at H
    have c2b0 : ((l0.length : Int) == 65) = true := beq_iff_eq.mpr c2
    have c2b1 : ((l0.length : Int) != 65) = false := bne_eq_false_iff_eq.mpr c2
    clear c2
    have H' := Aside0.mk H
    clear H
    go_enter Try.func50, Try.ntmps50
    go_wp2
    go_loopg [3, 4, 5] k (fun kq v3 v4 v5 w' => ∃ (x3_1 : Int) (x4_1 : Int) (x5_1 : Int), v3 = .int .i64 x3_1 ∧ v4 = .int .i64 x4_1 ∧ v5 = .int .i64 x5_1 ∧ Aside0 (wringerref7_MayLens.l0 kq l0 x3_1 x4_1 x5_1 = some r) ∧ Aside0 (kq ≤ k) ∧ Drawn0 w w')
    case atStart => exact ⟨(0), (0), (0), (by first | rfl | (simp; done) | (simp [*]; done)), (by first | rfl | (simp; done) | (simp [*]; done)), (by first | rfl | (simp; done) | (simp [*]; done)), H', ⟨Nat.le_refl _⟩, by repeat (first | exact Drawn0.refl _ | apply Drawn0.step)⟩
    case round =>
      clear H'
      try clear c2
      try clear c2b0
      try clear c2b1
      try clear p2
      obtain ⟨x3_1, x4_1, x5_1, rfl, rfl, rfl, HA, HK1, ⟨m1, rfl⟩⟩ := hrel
      cases gk with
      | zero => exact absurd HA.out (by simp [wringerref7_MayLens.l0])
      | succ k1 =>
        have H := HA.out
        clear HA
        simp only [wringerref7_MayLens.l0] at H
        by_cases c3 : x5_1 < (l0.length : Int)
        · rw [if_pos c3] at H
          have c3b0 : decide (x5_1 < (l0.length : Int)) = true := decide_eq_true c3
          clear c3
          have HC4 := Aside0.mk H
          clear H
          go_upto_region 7 with (fail)
          go_cut [26] (fun v26 wc => ∃ (kq : Nat) (x26_3 : Bool), v26 = .bool x26_3 ∧ Aside0 (wringerref7_MayLens.j1 kq l0 x3_1 x4_1 x5_1 x26_3 = some r) ∧ Aside0 (kq ≤ k1) ∧ Drawn0 w wc)
          case first =>
            have H := HC4.out
            clear HC4
            by_cases c5 : 0 ≤ x5_1
            · rw [if_pos c5] at H
              have c5b0 : decide (0 ≤ x5_1) = true := decide_eq_true c5
              clear c5
              (first | rw [c5b0] | (simp only [i64_w, i32_w]; rw [c5b0]) | skip)
              by_cases c6 : (rd l0 x5_1) < 0
              · rw [if_pos c6] at H
                have c6b0 : decide ((rd l0 x5_1) < 0) = true := decide_eq_true c6
                clear c6
                have H' := Aside0.mk H
                clear H
                have p146 : 0 ≤ (x5_1 : Int) := of_decide_eq_true (by first | (with_reducible assumption) | assumption)
                have q146 : x5_1 < (l0.length : Int) := of_decide_eq_true (by first | (with_reducible assumption) | assumption)
                obtain ⟨ad146, e146, hx146_0⟩ := Kd.at_int HR0.out x5_1 p146 q146
                cases e146
                replace p146 := eq_true p146
                replace q146 := eq_true q146
                go_wp2
                go_meet
                case rel => exact ⟨_, (true), (by first | rfl | (simp; done) | (simp [*]; done)), H', ⟨by have := HK1.out; first | omega | exact Nat.le_refl _⟩, by repeat (first | exact Drawn0.refl _ | apply Drawn0.step)⟩
              · rw [if_neg c6] at H
                have c6b0 : decide ((rd l0 x5_1) < 0) = false := decide_eq_false c6
                clear c6
                have H' := Aside0.mk H
                clear H
                have p146 : 0 ≤ (x5_1 : Int) := of_decide_eq_true (by first | (with_reducible assumption) | assumption)
                have q146 : x5_1 < (l0.length : Int) := of_decide_eq_true (by first | (with_reducible assumption) | assumption)
                obtain ⟨ad146, e146, hx146_0⟩ := Kd.at_int HR0.out x5_1 p146 q146
                cases e146
                replace p146 := eq_true p146
                replace q146 := eq_true q146
                have p147 : 0 ≤ (x5_1 : Int) := of_decide_eq_true (by first | (with_reducible assumption) | assumption)
                have q147 : x5_1 < (l0.length : Int) := of_decide_eq_true (by first | (with_reducible assumption) | assumption)
                obtain ⟨ad147, e147, hx147_0⟩ := Kd.at_int HR0.out x5_1 p147 q147
                obtain rfl : ad146 = ad147 := (by injection e147)
                replace p147 := eq_true p147
                replace q147 := eq_true q147
                go_wp2
                go_meet
                case rel => exact ⟨_, (decide ((rd l0 x5_1) > 15)), (by first | rfl | (simp; done) | (simp [*]; done)), H', ⟨by have := HK1.out; first | omega | exact Nat.le_refl _⟩, by repeat (first | exact Drawn0.refl _ | apply Drawn0.step)⟩
            · rw [if_neg c5] at H
              exact absurd H (by simp)
          case rest =>
            clear HC4
            try clear p1
            try clear q1
            try clear hx1
            try clear c2
            try clear c2b0
            try clear c2b1
            try clear p2
            try clear c3
            try clear c3b0
            try clear c5
            try clear c5b0
            try clear c6
            try clear c6b0
            try clear hx146_0
            try clear hx147_0
            try clear p146
            try clear p147
            try clear p2
            try clear q146
            try clear q147
            obtain ⟨kq, x26_3, rfl, HA, HJ3, ⟨mc3, rfl⟩⟩ := hcut
            cases kq with
            | zero => exact absurd HA.out (by simp [wringerref7_MayLens.j1])
            | succ kj3 =>
              have H := HA.out
              clear HA
              simp only [wringerref7_MayLens.j1] at H
              by_cases c7 : x26_3 = true
              · subst c7
                have H1 : (some false) = some r := by rw [if_pos rfl] at H; exact H
                clear H
                have H := H1
                clear H1
                obtain rfl := Option.some.inj H
                go_wp2
                go_ret
                exact ⟨by first | rfl | (simp; done) | (simp [*]; done), by repeat (first | exact Drawn0.refl _ | apply Drawn0.step)⟩
              · replace c7 := Bool.eq_false_iff.mpr c7
                subst c7
                have H1 : (if 0 ≤ x5_1 then (if x5_1 < (l0.length : Int) then (if (rd l0 x5_1) > 0 then (if 0 ≤ (wrap64 (15 - (rd l0 x5_1))) then (wringerref7_MayLens.l0 kj3 l0 (wrap64 (x3_1 + (shl .i64 1 (wrap64 (15 - (rd l0 x5_1)))))) (wrap64 (x4_1 + 1)) (wrap64 (x5_1 + 1))) else (none)) else (wringerref7_MayLens.l0 kj3 l0 x3_1 x4_1 (wrap64 (x5_1 + 1)))) else (none)) else (none)) = some r := by rw [if_neg (show ¬ (false = true) by decide)] at H; exact H
                clear H
                have H := H1
                clear H1
                by_cases c8 : 0 ≤ x5_1
                · rw [if_pos c8] at H
                  have c8b0 : decide (0 ≤ x5_1) = true := decide_eq_true c8
                  clear c8
                  by_cases c9 : x5_1 < (l0.length : Int)
                  · rw [if_pos c9] at H
                    have c9b0 : decide (x5_1 < (l0.length : Int)) = true := decide_eq_true c9
                    clear c9
                    by_cases c10 : (rd l0 x5_1) > 0
                    · rw [if_pos c10] at H
                      have c10b0 : decide (0 < (rd l0 x5_1)) = true := decide_eq_true c10
                      clear c10
                      obtain ⟨ji11, hji11⟩ : ∃ j_ : Int, (wrap64 (15 - (rd l0 x5_1))) = j_ := ⟨_, rfl⟩
                      replace H : (if 0 ≤ (ji11) then (wringerref7_MayLens.l0 kj3 l0 (wrap64 (x3_1 + (shl .i64 1 (ji11)))) (wrap64 (x4_1 + 1)) (wrap64 (x5_1 + 1))) else (none)) = some r := by first | (rw [hji11] at H; exact H) | (simp only [hji11] at H ⊢; exact H)
                      have hji11w : (IntKind.i64.wrap (15 - (rd l0 x5_1))) = ji11 := (i64_w _).trans hji11
                      by_cases c12 : 0 ≤ (ji11)
                      · rw [if_pos c12] at H
                        have c12b0 := eq_true c12
                        have c12b1 : decide (0 ≤ (ji11)) = true := decide_eq_true c12
                        clear c12
                        obtain ⟨ji13, hji13⟩ : ∃ j_ : Int, (shl .i64 1 (ji11)) = j_ := ⟨_, rfl⟩
                        replace H : (wringerref7_MayLens.l0 kj3 l0 (wrap64 (x3_1 + (ji13))) (wrap64 (x4_1 + 1)) (wrap64 (x5_1 + 1))) = some r := by first | (rw [hji13] at H; exact H) | (simp only [hji13] at H ⊢; exact H)
                        have hji13_ : (IntKind.i64.wrap (1 * 2 ^ min (ji11).toNat 64)) = ji13 := hji13
                        have hji13z : (ji11) ≤ 64 → (IntKind.i64.wrap (1 * 2 ^ (ji11).toNat)) = ji13 := shl_small hji13
                        have hji13u : (IntKind.i64.wrap (2 ^ min (ji11).toNat 64)) = ji13 := by have h_ := hji13_; rw [Int.one_mul] at h_; exact h_
                        have hji13v : (ji11) ≤ 64 → (IntKind.i64.wrap (2 ^ (ji11).toNat)) = ji13 := fun hle_ => by have h_ := hji13z hle_; rw [Int.one_mul] at h_; exact h_
                        have hji13y : (wrap64 (1 * 2 ^ min (ji11).toNat 64)) = ji13 := (i64_w _).symm.trans hji13_
                        have hji13x : (ji11) ≤ 64 → (wrap64 (1 * 2 ^ (ji11).toNat)) = ji13 := fun h_ => (i64_w _).symm.trans (hji13z h_)
                        have H' := Aside0.mk H
                        clear H
                        have p148 : 0 ≤ (x5_1 : Int) := of_decide_eq_true (by first | (with_reducible assumption) | assumption)
                        have q148 : x5_1 < (l0.length : Int) := of_decide_eq_true (by first | (with_reducible assumption) | assumption)
                        obtain ⟨ad148, e148, hx148_0⟩ := Kd.at_int HR0.out x5_1 p148 q148
                        cases e148
                        replace p148 := eq_true p148
                        replace q148 := eq_true q148
                        have p149 : 0 ≤ (x5_1 : Int) := of_decide_eq_true (by first | (with_reducible assumption) | assumption)
                        have q149 : x5_1 < (l0.length : Int) := of_decide_eq_true (by first | (with_reducible assumption) | assumption)
                        obtain ⟨ad149, e149, hx149_0⟩ := Kd.at_int HR0.out x5_1 p149 q149
                        obtain rfl : ad148 = ad149 := (by injection e149)
                        replace p149 := eq_true p149
                        replace q149 := eq_true q149
                        go_wp2
                        go_roundg kj3
                        case measure => have := HK1.out; have := HJ3.out; omega
                        case rel => exact ⟨(wrap64 (x3_1 + (ji13))), (wrap64 (x4_1 + 1)), (wrap64 (x5_1 + 1)), (by first | rfl | (simp; done) | (simp only [← hji13] <;> (first | rfl | simp)) | (simp [*]; done)), (by first | rfl | (simp; done) | (simp [*]; done)), (by first | rfl | (simp; done) | (simp [*]; done)), H', ⟨by have := HK1.out; have := HJ3.out; omega⟩, by repeat (first | exact Drawn0.refl _ | apply Drawn0.step)⟩
                      · rw [if_neg c12] at H
                        exact absurd H (by simp)
                    · rw [if_neg c10] at H
                      have c10b0 : decide (0 < (rd l0 x5_1)) = false := decide_eq_false c10
                      clear c10
                      have H' := Aside0.mk H
                      clear H
                      have p148 : 0 ≤ (x5_1 : Int) := of_decide_eq_true (by first | (with_reducible assumption) | assumption)
                      have q148 : x5_1 < (l0.length : Int) := of_decide_eq_true (by first | (with_reducible assumption) | assumption)
                      obtain ⟨ad148, e148, hx148_0⟩ := Kd.at_int HR0.out x5_1 p148 q148
                      cases e148
                      replace p148 := eq_true p148
                      replace q148 := eq_true q148
                      go_wp2
                      go_roundg kj3
                      case measure => have := HK1.out; have := HJ3.out; omega
                      case rel => exact ⟨(x3_1), (x4_1), (wrap64 (x5_1 + 1)), (by first | rfl | (simp; done) | (simp [*]; done)), (by first | rfl | (simp; done) | (simp [*]; done)), (by first | rfl | (simp; done) | (simp [*]; done)), H', ⟨by have := HK1.out; have := HJ3.out; omega⟩, by repeat (first | exact Drawn0.refl _ | apply Drawn0.step)⟩
                  · rw [if_neg c9] at H
                    exact absurd H (by simp)
                · rw [if_neg c8] at H
                  exact absurd H (by simp)
        · rw [if_neg c3] at H
          have c3b0 : decide (x5_1 < (l0.length : Int)) = false := decide_eq_false c3
          clear c3
          by_cases c14 : x4_1 = 0
          · rw [if_pos c14] at H
            have c14b0 : (x4_1 == 0) = true := beq_iff_eq.mpr c14
            have c14b1 : (x4_1 != 0) = false := bne_eq_false_iff_eq.mpr c14
            clear c14
            obtain rfl := Option.some.inj H
            go_wp2
            go_ret
            exact ⟨by first | rfl | (simp; done) | (simp [*]; done), by repeat (first | exact Drawn0.refl _ | apply Drawn0.step)⟩
          · rw [if_neg c14] at H
            have c14b0 : (x4_1 == 0) = false := beq_eq_false_iff_ne.mpr c14
            have c14b1 : (x4_1 != 0) = true := bne_iff_ne.mpr c14
            by_cases c15 : x3_1 = 32768
            · rw [if_pos c15] at H
              have c15b0 : (x3_1 == 32768) = true := beq_iff_eq.mpr c15
              have c15b1 : (x3_1 != 32768) = false := bne_eq_false_iff_eq.mpr c15
              clear c15
              obtain rfl := Option.some.inj H
              go_wp2
              go_ret
              exact ⟨by first | rfl | (simp; done) | (simp [*]; done), by repeat (first | exact Drawn0.refl _ | apply Drawn0.step)⟩
            · rw [if_neg c15] at H
              have c15b0 : (x3_1 == 32768) = false := beq_eq_false_iff_ne.mpr c15
              have c15b1 : (x3_1 != 32768) = true := bne_iff_ne.mpr c15
              by_cases c16 : x4_1 = 1
              · rw [if_pos c16] at H
                have c16b0 : (x4_1 == 1) = true := beq_iff_eq.mpr c16
                have c16b1 : (x4_1 != 1) = false := bne_eq_false_iff_eq.mpr c16
                clear c16
                obtain rfl := Option.some.inj H
                go_wp2
                go_ret
                exact ⟨by first | rfl | (simp; done) | (simp [*]; done), by repeat (first | exact Drawn0.refl _ | apply Drawn0.step)⟩
              · rw [if_neg c16] at H
                have c16b0 : (x4_1 == 1) = false := beq_eq_false_iff_ne.mpr c16
                have c16b1 : (x4_1 != 1) = true := bne_iff_ne.mpr c16
                obtain rfl := Option.some.inj H
                go_wp2
                go_ret
                exact ⟨by first | rfl | (simp; done) | (simp [*]; done), by repeat (first | exact Drawn0.refl _ | apply Drawn0.step)⟩
  · rw [if_neg c2] at H
    have c2b0 : ((l0.length : Int) == 65) = false := beq_eq_false_iff_ne.mpr c2
    have c2b1 : ((l0.length : Int) != 65) = true := bne_iff_ne.mpr c2
    obtain rfl := Option.some.inj H
    go_enter Try.func50, Try.ntmps50
    go_wp2
    go_ret
    exact ⟨by first | rfl | (simp; done) | (simp [*]; done), by repeat (first | exact Drawn0.refl _ | apply Drawn0.step)⟩

end Go.Proofs.Ytnakjencodicmaa.PA

-- ---- Ul
/- Which lengths may be: what both functions come to. -/
namespace Go.Proofs.Ytnakjencodicmaa.PA
set_option maxRecDepth 100000
set_option linter.unusedVariables false
set_option linter.unusedSimpArgs false
open Go.RowKit Go.Proofs.YtnakjencodicmaaW.PrintWords Go.Proofs.YtnakjencodicmaaW.PrintLast Go.Proofs.YtnakjencodicmaaW.PrintMore Dp

theorem dropG (l : List Int) (i : Nat) (h : i < l.length) : l.drop i = l.getD i 0 :: l.drop (i + 1) := by
  rw [List.drop_eq_getElem_cons h]; simp [List.getD_eq_getElem?_getD, h]
def finL (s m : Nat) : Prop := m = 0 ∨ s = 32768 ∨ (m = 1 ∧ s = 16384)
instance (s m : Nat) : Decidable (finL s m) := by unfold finL; infer_instance
def restL (l : List Int) (s m : Nat) : Bool := decide ((∀ n ∈ l, 0 ≤ n ∧ n ≤ 15) ∧ finL (s + ks l) (m + sm l))
theorem restL_nil (s m : Nat) : restL [] s m = decide (finL s m) := by unfold restL; simp [ks, sm]
theorem restL_bad (x : Int) (l : List Int) (s m : Nat) (h : x < 0 ∨ 15 < x) : restL (x :: l) s m = false := by
  unfold restL; rw [decide_eq_false_iff_not]; intro h2; have := h2.1 x (by simp); omega
theorem restL_zero (l : List Int) (s m : Nat) : restL (0 :: l) s m = restL l s m := by
  unfold restL ks sm
  congr 1
  simp
theorem restL_pos (x : Nat) (l : List Int) (s m : Nat) (h1 : 1 ≤ x) (h2 : x ≤ 15) : restL ((x : Int) :: l) s m = restL l (s + 2 ^ (15 - x)) (m + 1) := by
  unfold restL ks sm
  congr 1
  rw [List.map_cons, List.map_cons, List.sum_cons, List.sum_cons, if_pos (by omega), if_pos (by omega), Int.toNat_natCast, ← Nat.add_assoc, ← Nat.add_assoc]
  simp only [List.mem_cons, forall_eq_or_imp, eq_iff_iff]
  constructor
  · rintro ⟨⟨_, a⟩, b⟩; exact ⟨a, b⟩
  · rintro ⟨a, b⟩; exact ⟨⟨⟨by omega, by omega⟩, a⟩, b⟩
theorem mayL_eq (l : List Int) (h : l.length = 65) : mayL l = restL l 0 0 := by
  unfold mayL restL finL
  congr 1
  rw [Nat.zero_add, Nat.zero_add]
  simp [h]
theorem mayL_len (l : List Int) (h : l.length ≠ 65) : mayL l = false := by
  unfold mayL; rw [decide_eq_false_iff_not]; exact fun h2 => h h2.1
theorem pow15 (x : Nat) : 2 ^ (15 - x) ≤ 32768 := by
  have : 2 ^ (15 - x) ≤ 2 ^ 15 := Nat.pow_le_pow_right (by decide) (by omega)
  omega
theorem finI (s m : Nat) : (if (m : Int) = 0 then some true else (if (s : Int) = 32768 then some true else (if (m : Int) = 1 then some ((s : Int) == 16384) else some false))) = some (decide (finL s m)) := by
  by_cases h0 : m = 0
  · rw [if_pos (by omega), decide_eq_true (.inl h0)]
  · rw [if_neg (by omega)]
    by_cases h1 : s = 32768
    · rw [if_pos (by omega), decide_eq_true (.inr (.inl h1))]
    · rw [if_neg (by omega)]
      by_cases h2 : m = 1
      · rw [if_pos (by omega)]
        congr 1
        rw [Bool.eq_iff_iff, beq_iff_eq, decide_eq_true_eq]
        unfold finL
        omega
      · rw [if_neg (by omega), decide_eq_false (by unfold finL; omega)]

theorem may_l0 (l : List Int) (hl : l.length ≤ 65) : ∀ (d i s m : Nat), i + d = l.length → s ≤ 32768 * i → m ≤ i →
    Ev (fun k => canon_May.l0 k (s : Int) (m : Int) l (l.length : Int) (i : Int)) (restL (l.drop i) s m) := by
  intro d
  induction d with
  | zero =>
    intro i s m hi hs hm
    refine Ev.step (f := fun _ => some (decide (finL s m))) (fun k => by simp only [canon_May.l0]; rw [if_neg (by omega), finI]) (Ev.ofSome ?_)
    rw [List.drop_eq_nil_of_le (by omega), restL_nil]
  | succ d ih =>
    intro i s m hi hs hm
    have hil : i < l.length := by omega
    rw [dropG l i hil]
    generalize hy : l.getD i 0 = y
    have step : Ev (fun k => canon_May.l0 k (s : Int) (m : Int) l (l.length : Int) (i : Int)) (restL (y :: l.drop (i + 1)) s m) ↔ True := by
      refine iff_true_intro ?_
      by_cases hb : y < 0 ∨ 15 < y
      · refine Ev.step (f := fun k => canon_May.j1 k (s : Int) (m : Int) y l (l.length : Int) (i : Int) true) (fun k => ?_) (Ev.step (f := fun _ => some false) (fun k => by simp only [canon_May.j1]; rfl) (Ev.ofSome ?_))
        · simp only [canon_May.l0]
          rw [if_pos (by omega), if_pos (by omega), if_pos (by omega), rd_nat, hy]
          by_cases h0 : y < 0
          · rw [if_pos h0]
          · rw [if_neg h0, decide_eq_true (by omega)]
        · rw [restL_bad _ _ _ _ hb]
      · refine Ev.step (f := fun k => canon_May.j1 k (s : Int) (m : Int) y l (l.length : Int) (i : Int) false) (fun k => ?_) ?_
        · simp only [canon_May.l0]
          rw [if_pos (by omega), if_pos (by omega), if_pos (by omega), rd_nat, hy, if_neg (by omega), decide_eq_false (by omega)]
        · obtain ⟨x, rfl⟩ := Int.eq_ofNat_of_zero_le (show 0 ≤ y by omega)
          by_cases hx : x = 0
          · subst hx
            refine evq (restL_zero _ _ _).symm (Ev.step (f := fun k => canon_May.l0 k (s : Int) (m : Int) l (l.length : Int) ((i + 1 : Nat) : Int)) (fun k => ?_) (ih (i + 1) s m (by omega) (by omega) (by omega)))
            simp only [canon_May.j1]
            rw [if_neg (by simp), if_neg (by simp), w64 (by omega) (by omega)]; rfl
          · have hp := pow15 x
            refine evq (restL_pos x _ s m (by omega) (by omega)).symm (Ev.step (f := fun k => canon_May.l0 k ((s + 2 ^ (15 - x) : Nat) : Int) ((m + 1 : Nat) : Int) l (l.length : Int) ((i + 1 : Nat) : Int)) (fun k => ?_) (ih (i + 1) (s + 2 ^ (15 - x)) (m + 1) (by omega) (by omega) (by omega)))
            simp only [canon_May.j1]
            rw [if_neg (by simp), if_pos (by omega), w64 (x := 15 - (x : Int)) (by omega) (by omega), if_pos (by omega), show (15 - (x : Int)) = ((15 - x : Nat) : Int) by omega, shl_1 (15 - x) (by omega)]
            generalize 2 ^ (15 - x) = P at hp
            rw [w64 (by omega) (by omega), w64 (by omega) (by omega), w64 (by omega) (by omega)]; rfl
    exact step.2 trivial

theorem may_is (l : List Int) : Ev (fun k => canon_May.f k l) (mayL l) := by
  unfold canon_May.f
  by_cases h : l.length = 65
  · refine Ev.ite_pos (by omega) ?_
    have := may_l0 l (by omega) l.length 0 0 0 (by omega) (by omega) (by omega)
    rw [List.drop_zero] at this
    rw [mayL_eq l h]
    exact this
  · refine Ev.ite_neg (by omega) (Ev.ofSome (mayL_len l h).symm)

theorem rmay_l0 (l : List Int) (hl : l.length ≤ 65) : ∀ (d i s m : Nat), i + d = l.length → s ≤ 32768 * i → m ≤ i →
    Ev (fun k => wringerref7_MayLens.l0 k l (s : Int) (m : Int) (i : Int)) (restL (l.drop i) s m) := by
  intro d
  induction d with
  | zero =>
    intro i s m hi hs hm
    refine Ev.step (f := fun _ => some (decide (finL s m))) (fun k => by simp only [wringerref7_MayLens.l0]; rw [if_neg (by omega), finI]) (Ev.ofSome ?_)
    rw [List.drop_eq_nil_of_le (by omega), restL_nil]
  | succ d ih =>
    intro i s m hi hs hm
    have hil : i < l.length := by omega
    rw [dropG l i hil]
    generalize hy : l.getD i 0 = y
    by_cases hb : y < 0 ∨ 15 < y
    · refine Ev.step (f := fun k => wringerref7_MayLens.j1 k l (s : Int) (m : Int) (i : Int) true) (fun k => ?_) (Ev.step (f := fun _ => some false) (fun k => by simp only [wringerref7_MayLens.j1]; rfl) (Ev.ofSome ?_))
      · simp only [wringerref7_MayLens.l0]
        rw [if_pos (by omega), if_pos (by omega), rd_nat, hy]
        by_cases h0 : y < 0
        · rw [if_pos h0]
        · rw [if_neg h0, decide_eq_true (by omega)]
      · rw [restL_bad _ _ _ _ hb]
    · refine Ev.step (f := fun k => wringerref7_MayLens.j1 k l (s : Int) (m : Int) (i : Int) false) (fun k => ?_) ?_
      · simp only [wringerref7_MayLens.l0]
        rw [if_pos (by omega), if_pos (by omega), rd_nat, hy, if_neg (by omega), decide_eq_false (by omega)]
      · obtain ⟨x, rfl⟩ := Int.eq_ofNat_of_zero_le (show 0 ≤ y by omega)
        by_cases hx : x = 0
        · subst hx
          refine evq (restL_zero _ _ _).symm (Ev.step (f := fun k => wringerref7_MayLens.l0 k l (s : Int) (m : Int) ((i + 1 : Nat) : Int)) (fun k => ?_) (ih (i + 1) s m (by omega) (by omega) (by omega)))
          simp only [wringerref7_MayLens.j1]
          rw [if_neg (by simp), if_pos (by omega), if_pos (by omega), rd_nat, hy, if_neg (by simp), w64 (by omega) (by omega)]; rfl
        · have hp := pow15 x
          refine evq (restL_pos x _ s m (by omega) (by omega)).symm (Ev.step (f := fun k => wringerref7_MayLens.l0 k l ((s + 2 ^ (15 - x) : Nat) : Int) ((m + 1 : Nat) : Int) ((i + 1 : Nat) : Int)) (fun k => ?_) (ih (i + 1) (s + 2 ^ (15 - x)) (m + 1) (by omega) (by omega) (by omega)))
          simp only [wringerref7_MayLens.j1]
          rw [if_neg (by simp), if_pos (by omega), if_pos (by omega), rd_nat, hy, if_pos (by omega), w64 (x := 15 - (x : Int)) (by omega) (by omega), if_pos (by omega), show (15 - (x : Int)) = ((15 - x : Nat) : Int) by omega, shl_1 (15 - x) (by omega)]
          generalize 2 ^ (15 - x) = P at hp
          rw [w64 (by omega) (by omega), w64 (by omega) (by omega), w64 (by omega) (by omega)]; rfl
theorem rmay_is (l : List Int) : Ev (fun k => wringerref7_MayLens.f k l) (mayL l) := by
  unfold wringerref7_MayLens.f
  by_cases h : l.length = 65
  · refine Ev.ite_pos (by omega) ?_
    have := rmay_l0 l (by omega) l.length 0 0 0 (by omega) (by omega) (by omega)
    rw [List.drop_zero] at this
    rw [mayL_eq l h]
    exact this
  · refine Ev.ite_neg (by omega) (Ev.ofSome (mayL_len l h).symm)
end Go.Proofs.Ytnakjencodicmaa.PA

-- ---- Ce
/- canon.Codes: what the call answers. Conditions: the list reads as the argument does. -/
namespace Go.Proofs.Ytnakjencodicmaa.CanonH
set_option maxRecDepth 100000
open Go.RowKit Go.Proofs.YtnakjencodicmaaW.PrintWords Go.Proofs.YtnakjencodicmaaW.PrintLast Go.Proofs.YtnakjencodicmaaW.PrintMore
open Mix _root_.Go.Proofs.Ytnakjencodicmaa.Own Ol Hp Cd Dp
set_option linter.unusedVariables false
set_option linter.unusedSimpArgs false
attribute [local go_sem] Own.max_int Own.min_int

theorem infoC : (Try.prog.info? 69).map (fun i => (i.zero, i.size, i.bytes)) = some (some (.agg #[.int .i64 0, .int .i64 0]), 2, 16) := by kernel_rfl
theorem made65 : (madeCells #[Value.int .i64 0, .int .i64 0] 130).toList = fl (List.replicate 65 (0, 0)) := by kernel_rfl

/-- The heap's own memory lies behind B. -/
structure HpC (B : Nat) (wr : World) (p : Nat) (v : Value) (lh : List (Int × Int)) : Prop where
  hp : IsHp wr p v lh
  heap : Heap ltL lh lh.length
  newp : B ≤ p
  new : ∀ g, v.ownBlock = some g → B ≤ g
/-- What is told so far: the codes at g, the last one at q. -/
structure OutC (B : Nat) (wr : World) (g q : Nat) (out : List (Int × Int)) (lb ll : Int) : Prop where
  out : OwnK wr 69 2 (.slice (some ⟨g, 0, none⟩) 65 65) 65 (fl out)
  last : Blk wr q #[.int .i64 lb, .int .i64 ll] 69
  gB : B ≤ g
  qB : B ≤ q
  ne : g ≠ q
theorem putC {B : Nat} {w wd : World} {g q p : Nat} {v : Value} {l2 ou : List (Int × Int)} {lb ll : Int} (h : OutC B wd g q ou lb ll) (hs : HpC B wd p v l2) (hb : Below B w wd) (hz : B ≤ wd.heap.size) (k : Nat) (x y : Int) (hk : k < 65) (hl : ou.length = 65) :
    OutC B ((((wd.setCell ⟨q, 0, none⟩ (.int .i64 x)).setCell ⟨q, 1, none⟩ (.int .i64 y)).setCell ⟨g, k * 2, none⟩ (.int .i64 x)).setCell ⟨g, k * 2 + 1, none⟩ (.int .i64 y)) g q (ou.set k (x, y)) x y ∧
    HpC B ((((wd.setCell ⟨q, 0, none⟩ (.int .i64 x)).setCell ⟨q, 1, none⟩ (.int .i64 y)).setCell ⟨g, k * 2, none⟩ (.int .i64 x)).setCell ⟨g, k * 2 + 1, none⟩ (.int .i64 y)) p v l2 ∧
    Below B w ((((wd.setCell ⟨q, 0, none⟩ (.int .i64 x)).setCell ⟨q, 1, none⟩ (.int .i64 y)).setCell ⟨g, k * 2, none⟩ (.int .i64 x)).setCell ⟨g, k * 2 + 1, none⟩ (.int .i64 y)) ∧
    B ≤ ((((wd.setCell ⟨q, 0, none⟩ (.int .i64 x)).setCell ⟨q, 1, none⟩ (.int .i64 y)).setCell ⟨g, k * 2, none⟩ (.int .i64 x)).setCell ⟨g, k * 2 + 1, none⟩ (.int .i64 y)).heap.size := by
  have hc : Chg (fun b => b = q ∨ b = g) wd ((((wd.setCell ⟨q, 0, none⟩ (.int .i64 x)).setCell ⟨q, 1, none⟩ (.int .i64 y)).setCell ⟨g, k * 2, none⟩ (.int .i64 x)).setCell ⟨g, k * 2 + 1, none⟩ (.int .i64 y)) :=
    ((((Chg.setCell wd ⟨q, 0, none⟩ (.int .i64 x)).mono (fun b _ h => .inl h)).trans (Chg.setCell _ ⟨q, 1, none⟩ (.int .i64 y)) (fun b _ h => .inl h)).trans (Chg.setCell _ ⟨g, k * 2, none⟩ (.int .i64 x)) (fun b _ h => .inr h)).trans (Chg.setCell _ ⟨g, k * 2 + 1, none⟩ (.int .i64 y)) (fun b _ h => .inr h)
  have hgq : (Value.slice (some ⟨g, 0, none⟩) 65 65).ownBlock ≠ some q := by simp [Value.ownBlock]; exact h.ne
  have hbb := hc.below hz (fun b hb e => by have h1 := h.qB; have h2 := h.gB; rcases e with e | e <;> omega)
  refine ⟨⟨?_, ?_, h.gB, h.qB, h.ne⟩, ⟨hs.hp.keep hc (fun e => ?_) (fun b hb e => ?_), hs.heap, hs.newp, hs.new⟩, hb.trans hbb, Nat.le_trans hz hbb.size⟩
  · rw [fl_set ou k (x, y) (by rw [hl]; exact hk)]
    exact (((h.out.setOther (a := ⟨q, 0, none⟩) hgq _).setOther (a := ⟨q, 1, none⟩) hgq _).store _ _).store _ _
  · have h1 := ((h.last.set 0 (.int .i64 x)).set 1 (.int .i64 y))
    exact (h1.setOther (a := ⟨g, k * 2, none⟩) (fun e => h.ne e.symm) _).setOther (a := ⟨g, k * 2 + 1, none⟩) (fun e => h.ne e.symm) _
  · rcases e with e | e
    · exact h.last.ne hs.hp.blk (by decide) e.symm
    · exact h.out.ne hs.hp.blk (by decide) (by rw [e]; rfl)
  · obtain ⟨cur, hgb⟩ := hs.hp.row.blk b hb
    rcases e with e | e
    · exact h.last.ne hgb (by decide) e.symm
    · exact h.out.ne hgb (by decide) (by rw [e]; rfl)

theorem setLast {B : Nat} {w wd : World} {g q p cc : Nat} {v : Value} {l2 ou : List (Int × Int)} {lb ll : Int} {cs : Array Value} (h : OutC B wd g q ou lb ll) (hs : HpC B wd p v l2) (hb : Below B w wd) (hz : B ≤ wd.heap.size) (y : Int) (hcl : Blk wd cc cs 106) :
    OutC B (wd.setCell ⟨q, 1, none⟩ (.int .i64 y)) g q ou lb y ∧ HpC B (wd.setCell ⟨q, 1, none⟩ (.int .i64 y)) p v l2 ∧ Below B w (wd.setCell ⟨q, 1, none⟩ (.int .i64 y)) ∧ B ≤ (wd.setCell ⟨q, 1, none⟩ (.int .i64 y)).heap.size ∧ Blk (wd.setCell ⟨q, 1, none⟩ (.int .i64 y)) cc cs 106 := by
  have hc := Chg.setCell wd ⟨q, 1, none⟩ (.int .i64 y)
  have hgq : (Value.slice (some ⟨g, 0, none⟩) 65 65).ownBlock ≠ some q := by simp [Value.ownBlock]; exact h.ne
  have hbb := hc.below hz (fun b hb e => by have h1 := h.qB; have h2 : b = q := e; omega)
  refine ⟨⟨h.out.setOther (a := ⟨q, 1, none⟩) hgq _, h.last.set 1 _, h.gB, h.qB, h.ne⟩, ⟨hs.hp.keep hc (fun e => ?_) (fun b hb e => ?_), hs.heap, hs.newp, hs.new⟩, hb.trans hbb, Nat.le_trans hz hbb.size, hc.keep hcl (fun e => hcl.ne h.last (by decide) e)⟩
  · exact h.last.ne hs.hp.blk (by decide) (Eq.symm e)
  · obtain ⟨cur, hgb⟩ := hs.hp.row.blk b hb
    exact h.last.ne hgb (by decide) (Eq.symm e)

def lenOf : Value → Nat
  | .slice _ n _ => n
  | _ => 0

set_option maxHeartbeats 4000000 in
theorem codes_bad (A0 : Option Addr) (c0 : Nat) (l : List Int) (w : World) (hr0 : Kd.C (Kd.int .i64) w A0 l.length l) (hc0 : l.length ≤ c0) (hm : mayL l = false) :
    Calls Try.prog 22 #[.slice A0 l.length c0] w fun e w' => e = .returned (.tuple #[.slice none 0 0, .int .i64 3]) ∧ Below w.heap.size w w' := by
  obtain ⟨k, hk⟩ := (PA.may_is l).rounds
  have hcm := PA.canon_May.calls k A0 c0 l _ w hr0 hc0 hk
  rw [hm] at hcm
  obtain ⟨n0, hn0⟩ : ∃ n0, n0 = l.length := ⟨_, rfl⟩
  rw [← hn0] at hcm ⊢
  have HM := kept hcm
  clear hr0 hc0 hk hcm hm hn0
  go_enter Try.func22, Try.ntmps22
  go_wp2_with (first | (go_at_call 43; refine HM.out.mono ?_; rintro e w1 ⟨rfl, ⟨⟨nd, rfl⟩⟩⟩))
  go_ret2
  exact ⟨rfl, pw_below_drewN (Below.refl _ _) _⟩

set_option maxHeartbeats 4000000 in
theorem codes_ok (A0 : Option Addr) (c0 : Nat) (l : List Int) (w : World) (hr0 : Kd.C (Kd.int .i64) w A0 l.length l) (hc0 : l.length ≤ c0) (hm : mayL l = true) :
    Calls Try.prog 22 #[.slice A0 l.length c0] w fun e w' => ∃ v, e = .returned (.tuple #[v, .int .i64 0]) ∧ OwnK w' 69 2 v 65 (fl (codeL l)) ∧ (∀ g, v.ownBlock = some g → w.heap.size ≤ g) ∧ Below w.heap.size w w' := by
  obtain ⟨i0, hi, hz0, hz1, hz2⟩ := info_partsE infoC
  obtain ⟨k, hk⟩ := (PA.may_is l).rounds
  have hcm := PA.canon_May.calls k A0 c0 l _ w hr0 hc0 hk
  have hks := ks_le hm
  rw [hm] at hcm
  have hm2 := hm
  unfold mayL at hm2
  rw [decide_eq_true_eq] at hm2
  obtain ⟨h65, hrg, _⟩ := hm2
  have hR := Own.rd_of_C hr0
  have hta := assertE
  obtain ⟨B, hB⟩ : ∃ B, B = w.heap.size := ⟨_, rfl⟩
  rw [h65] at hcm hR ⊢
  rw [← hB]
  have HB := kept hB
  have HM := kept hcm
  have HR := kept hR
  have HL := kept h65
  have HRg := kept hrg
  have HKs := kept hks
  clear hB hcm hR h65 hrg hks hm hk hr0 hc0
  go_enter Try.func22, Try.ntmps22
  go_wp2_with (first | (go_at_call 43; refine HM.out.mono ?_; rintro e w1 ⟨rfl, ⟨⟨nd, rfl⟩⟩⟩))
  generalize hwx : w.drewN nd = wx
  have hBx : Below w.heap.size w wx := by rw [← hwx]; exact pw_below_drewN (Below.refl _ _) _
  have hsx : wx.heap.size = w.heap.size := by rw [← hwx]; simp
  clear hwx
  obtain ⟨p, hp⟩ : ∃ p, p = w.heap.size + 1 := ⟨_, rfl⟩
  rw [← hp]
  obtain ⟨g0, hg0⟩ : ∃ g0, g0 = w.heap.size := ⟨_, rfl⟩
  rw [← hg0]
  generalize hw0 : World.alloc (World.alloc wx _) _ = w0
  have e1 : (wx.alloc (.cells #[] 106)).heap.size = p := by rw [hp, ← hsx]; simp
  have hb0 : Below B w w0 := by
    rw [← hw0, HB.out]
    exact (hBx.alloc (by rw [hsx]; exact Nat.le_refl _) _).alloc (by rw [e1, hp]; omega) _
  have hS0 : HpC B w0 p (.slice (some ⟨g0, 0, none⟩) 0 0) [] := by
    refine ⟨⟨by rw [← hw0]; exact Blk.fresh_at _ p e1.symm _ _, rfl, .inr ⟨g0, 0, #[], rfl, Nat.zero_le _, ?_, Nat.le_refl _, by simp [maxLen], rfl, rfl⟩⟩, fun i _ h => absurd h (by simp), by rw [HB.out, hp]; omega, fun g hg => ?_⟩
    · rw [← hw0, hg0, ← hsx]; exact (Blk.fresh wx _ _).alloc _
    · simp [Value.ownBlock] at hg; rw [HB.out, ← hg, hg0]; exact Nat.le_refl _
  have HS0 := kept hS0
  have HB0 := kept hb0
  have HP := kept hp
  clear hS0 hp hw0 e1 hg0 hBx hsx hb0
  have hrange : ∀ i, i < 65 → 0 ≤ l.getD i 0 ∧ l.getD i 0 ≤ 15 := fun i hi => by
    have h2 : i < l.length := by rw [HL.out]; exact hi
    exact HRg.out _ (by simp [List.getD_eq_getElem?_getD, h2])
  have HRn := kept hrange
  clear hrange
  go_loopw [18] (fun s18 wr => ∃ (i : Nat) (v : Value) (lh : List (Int × Int)), i ≤ 65 ∧ s18 = .int .i64 (i : Int) ∧ HpC B wr p v lh ∧ Below B w wr ∧ B ≤ wr.heap.size ∧ lh.Perm ((posL l i).map (pr l))) (fun s18 _ => 65 - (intOf s18).toNat)
  case atStart => exact ⟨0, _, [], Nat.zero_le _, rfl, HS0.out, HB0.out, by have := HB0.out.size; rw [HB.out]; exact this, List.Perm.refl _⟩
  case round =>
    obtain ⟨i, v, lh, hi2, rfl, hs, hlow, hsz, hpm⟩ := hrel
    obtain ⟨wo, rfl⟩ : ∃ wo, wo = wr := ⟨wr, rfl⟩
    have hRd := HR.out.below hlow (by rw [HB.out]; exact HR.out.lt)
    by_cases hlt : i < 65
    · have hil : i < l.length := by rw [HL.out]; exact hlt
      obtain ⟨x, rfl, hc⟩ := hRd.at (Own.ints_at .i64 l i hil)
      have hy15 := HRn.out i hlt
      obtain ⟨y, hy⟩ : ∃ y, y = l.getD i 0 := ⟨_, rfl⟩
      rw [← hy] at hc hy15
      obtain ⟨hy0, hy1⟩ := hy15
      have hlen : lh.length ≤ i := by have := hpm.length_eq; rw [List.length_map] at this; have := length_posL l i; omega
      have HS := kept hs
      have HLow := kept hlow
      have HSz := kept hsz
      have HPm := kept hpm
      have HY := kept hy
      clear hRd hs hpm hy hlow hsz
      by_cases hpos : 0 < y
      · have p0 : ¬ y ≤ 0 := by omega
        have HPush := kept (hpush_calls p v lh (i : Int) y wo HS.out.hp (by omega) HS.out.heap)
        go_wp2_with fail
        refine HPush.out.mono ?_
        rintro e w1 ⟨rfl, v1, l1, h1, hh1, hp1, hc1, hf1⟩
        have hb1 : Below B wo w1 := hc1.below HSz.out (fun k hk h => by
          rcases h with h | h
          · have := HS.out.newp; omega
          · have := HS.out.new k h.symm; omega)
        have HS1 : Kept (HpC B w1 p v1 l1 ∧ Below B w w1 ∧ B ≤ w1.heap.size) := kept ⟨⟨h1, hh1, HS.out.newp, fun g hg => (hf1 g hg).elim (fun h => HS.out.new g h.symm) (fun h => Nat.le_trans HSz.out h)⟩, HLow.out.trans hb1, Nat.le_trans HSz.out hb1.size⟩
        have HPm1 : Kept (l1.Perm ((posL l (i + 1)).map (pr l))) := kept (by
          rw [posL_succ, if_pos (by rw [← HY.out]; exact hpos), List.map_append]
          refine hp1.trans (HPm.out.append ?_)
          simp only [List.map_cons, List.map_nil, pr]; rw [← HY.out])
        clear h1 hh1 hp1 hc1 hf1 hb1
        go_wp2_with fail
        go_roundw
        case rel => exact ⟨i + 1, v1, l1, by omega, by go_num, HS1.out.1, HS1.out.2.1, HS1.out.2.2, HPm1.out⟩
        case measure => simp [intOf]; omega
      · have p0 : y ≤ 0 := by omega
        have HPm1 : Kept (lh.Perm ((posL l (i + 1)).map (pr l))) := kept (by
          rw [posL_succ, if_neg (by rw [← HY.out]; exact hpos), List.append_nil]; exact HPm.out)
        go_wp2_with fail
        go_roundw
        case rel => exact ⟨i + 1, v, lh, by omega, by go_num, HS.out, HLow.out, HSz.out, HPm1.out⟩
        case measure => simp [intOf]; omega
    · have hin : i = 65 := by omega
      subst hin
      have hx15 : ∀ x ∈ l, x ≤ 15 := fun x hx => (HRg.out x hx).2
      have HS := kept hs
      have HLow := kept hlow
      have HSz := kept hsz
      have HX := kept hx15
      have HPm : Kept (lh.Perm ((ordS l).map (pr l))) := kept (hpm.trans (by rw [← HL.out]; exact ((perm_ordS l hx15).map _).symm))
      clear hs hpm hRd hlow hsz hx15 hlt
      go_wp2_with (first | (refine wpList_make_full _ rfl _ _ 61 rfl 0 69 i0 (.agg #[.int .i64 0, .int .i64 0]) 2 Try.underlying61 hi hz0 hz1 .i64 .i64 _ _ 65 rfl rfl rfl rfl (by rw [hz2]; decide) (by decide) (Nat.zero_le _) ?_))
      intro w2 hown hgr
      rw [made65] at hown
      obtain ⟨g, hg⟩ : ∃ g, g = wo.heap.size := ⟨_, rfl⟩
      rw [← hg] at hown ⊢
      have hb2 : Below wo.heap.size wo w2 := ⟨hgr.os, hgr.tape, hgr.output, hgr.size, fun k hk => hgr.block k hk (by simp)⟩
      have hgl : g < w2.heap.size := OwnK.lt hown g rfl
      have hout : OwnK w2 69 2 (.slice (some ⟨g, 0, none⟩) 65 65) 65 (fl (List.replicate 65 (0, 0))) := hown
      have HS2 : Kept (HpC B w2 p v lh ∧ Below B w w2 ∧ B ≤ w2.heap.size) := kept ⟨⟨HS.out.hp.later hb2, HS.out.heap, HS.out.newp, HS.out.new⟩, HLow.out.trans (hb2.mono HSz.out), Nat.le_trans HSz.out hb2.size⟩
      have hgB : B ≤ g := by rw [hg]; exact HSz.out
      have HO2 := kept hout
      have HGl := kept hgl
      have HGB := kept hgB
      clear hown hgr hb2 hg hout hgl hgB HS HLow HSz HS0 HB0
      obtain ⟨q, hq⟩ : ∃ q, q = w2.heap.size := ⟨_, rfl⟩
      obtain ⟨w3, hw3⟩ : ∃ w3, w3 = w2.alloc (.cells #[.int .i64 (-1), .int .i64 0] 69) := ⟨_, rfl⟩
      have hb3 : Below w2.heap.size w2 w3 := by rw [hw3]; exact (Below.refl _ _).alloc (Nat.le_refl _) _
      have HS3 : Kept (HpC B w3 p v lh ∧ Below B w w3 ∧ B ≤ w3.heap.size) := kept ⟨⟨HS2.out.1.hp.later hb3, HS2.out.1.heap, HS2.out.1.newp, HS2.out.1.new⟩, HS2.out.2.1.trans (hb3.mono HS2.out.2.2), Nat.le_trans HS2.out.2.2 hb3.size⟩
      have HO3 : Kept (OutC B w3 g q (List.replicate 65 (0, 0)) (-1) 0) := kept ⟨HO2.out.later hb3, by rw [hw3, hq]; exact Blk.fresh _ _ _, HGB.out, by rw [hq]; exact HS2.out.2.2, by have := HGl.out; omega⟩
      clear hb3 HS2 HO2
      go_wp2_with fail
      rw [← hq, ← hw3]
      clear hw3 hq
      go_loopw [10] (fun s10 wq => ∃ (done rest : List Nat) (v1 : Value) (l1 : List (Int × Int)) (lb : Int), ordS l = done ++ rest ∧ HpC B wq p v1 l1 ∧ Below B w wq ∧ B ≤ wq.heap.size ∧ (rest.map (pr l)).Perm l1 ∧ OutC B wq g q (cst l done).1 lb ((cst l done).2.2 : Int) ∧ ((cst l done).2.2 = 0 ∧ lb = -1 ∨ 1 ≤ (cst l done).2.2 ∧ lb = ((cst l done).2.1 : Int)) ∧ l1.length = rest.length)
        (fun s10 wq => match wq.cell? ⟨p, 0, none⟩ with | some v => lenOf v | none => 0)
      case atStart => exact ⟨[], ordS l, v, lh, -1, rfl, HS3.out.1, HS3.out.2.1, HS3.out.2.2, HPm.out.symm, HO3.out, .inl ⟨rfl, rfl⟩, by have := HPm.out.length_eq; rwa [List.length_map] at this⟩
      case round =>
        obtain ⟨done, rest, v1, l1, lb, ho, hs, hlow, hsz, hpm, hout, hlb, hlen⟩ := hrel
        obtain ⟨wq, rfl⟩ : ∃ wq, wq = wr := ⟨wr, rfl⟩
        have hlen2 : done.length + rest.length ≤ 65 := by
          have := length_ordS l HX.out
          rw [ho, List.length_append, HL.out] at this; exact this
        cases rest with
        | nil =>
          have hnil : l1 = [] := List.length_eq_zero_iff.1 (by simpa using hlen)
          subst hnil
          obtain ⟨av, cv, rfl, _⟩ := hs.hp.row.slice
          simp only [List.length_nil] at hs ⊢
          have c0 : wq.cell? ⟨p, 0, none⟩ = some (.slice av 0 cv) := hs.hp.blk.cell rfl
          have hfin : (cst l done).1 = codeL l := by unfold codeL; rw [ho, List.append_nil]
          rw [hfin] at hout
          have HF := kept hout
          have HLow := kept hlow
          have HSz := kept hsz
          clear hs hpm ho hlen hlen2 hout hlb hfin hlow hsz HS3 HO3
          go_wp2_with (first | (go_at_call 45; refine (hlen_calls _ _ _ _).mono ?_; rintro e w1 ⟨rfl, hbl⟩; have HF1 := kept (HF.out.out.later hbl); have HL1 := kept (HLow.out.trans (hbl.mono HSz.out)); clear hbl))
          go_ret2
          exact ⟨_, rfl, HF1.out, fun b hb => by simp [Value.ownBlock] at hb; rw [← hb]; exact HF.out.gB, HL1.out⟩
        | cons k rest =>
          simp only [List.length_cons] at hlen hlen2
          obtain ⟨gh, cap, rfl, hnc, hcm, hgp, hgl⟩ := hs.hp.row0 (by omega)
          simp only [hlen] at hs hnc ⊢
          have c0 : wq.cell? ⟨p, 0, none⟩ = some (.slice (some ⟨gh, 0, none⟩) (rest.length + 1) cap) := hs.hp.blk.cell rfl
          have HC0 := kept c0
          have hx : ∃ rest' : List (Int × Int), ((k :: rest).map (pr l)) = at_ l1 0 :: rest' ∧ ∀ l', l1.Perm (at_ l1 0 :: l') → (∀ y ∈ l', ltL y (at_ l1 0) = false) → rest'.Perm l' := by
            have hs1 : ((k :: rest).map (pr l)).Pairwise fun a b => ltL b a = false := by
              have := pairs_ordS l
              rw [ho, List.map_append] at this
              exact (List.pairwise_append.1 this).2.1
            have hat : ∀ y ∈ l1, ltL y (at_ l1 0) = false := by
              intro y hy
              obtain ⟨j, hj, rfl⟩ := List.mem_iff_getElem.1 hy
              rw [← at_lt l1 j hj]
              exact heap_min oL hs.heap j hj
            have hmem : at_ l1 0 ∈ l1 := by rw [at_lt l1 0 (by omega)]; exact List.getElem_mem _
            obtain ⟨l1', hl1'⟩ : ∃ l', l1.Perm (at_ l1 0 :: l') := ⟨l1.erase (at_ l1 0), List.perm_cons_erase hmem⟩
            obtain ⟨r', hr1, hr2⟩ := pop_head oL hs1 (hpm.trans hl1') (fun y hy => hat y (hl1'.mem_iff.2 (List.mem_cons_of_mem _ hy)))
            exact ⟨r', hr1, fun l' hp _ => hr2.trans ((List.perm_cons _).1 (hl1'.symm.trans hp))⟩
          obtain ⟨rest', hx1, hx2⟩ := hx
          simp only [List.map_cons, List.cons.injEq] at hx1
          obtain ⟨hk, rfl⟩ := hx1
          have hpos : (0 : Int) < ((rest.length + 1 : Nat) : Int) := by omega
          have HPop := kept (fun (w1 : World) (hb : Below wq.heap.size wq w1) => hpop_calls p gh rest.length cap l1 w1 (hs.hp.later hb) hlen (by omega) (by rw [← hlen]; exact hs.heap))
          -- the code that comes
          have hkm : k ∈ ordS l := by rw [ho]; simp
          obtain ⟨hkl, hk1, hk15⟩ := mem_ordS.1 hkm
          obtain ⟨n, hn⟩ : ∃ n : Nat, l.getD k 0 = (n : Int) := ⟨(l.getD k 0).toNat, by omega⟩
          have hso := sorted_ordS l
          rw [ho] at hso
          have hso2 := List.pairwise_append.1 hso
          have hdn : ∀ a ∈ done, l.getD a 0 ≤ (n : Int) := fun a ha => by have := hso2.2.2 a ha k (by simp); omega
          have hdm : ∀ a ∈ done, 1 ≤ l.getD a 0 ∧ l.getD a 0 ≤ 15 := fun a ha => (mem_ordS.1 (by rw [ho]; exact List.mem_append_left _ ha)).2
          have hinv := cst_inv l done (hso2.1.imp fun {a b} h => by omega) hdm
          have hle := hinv.2 (n : Int) hdn
          have hinv2 := inv_nx (n := n) hinv.1 (by omega) (by omega) (by omega)
          have hkd : kd l done + 2 ^ (15 - n) ≤ 32768 := by
            have h := kd_all l HX.out
            have h2 := HKs.out
            rw [← h, ho, kd_append] at h2
            have h3 : kd l (k :: rest) = 2 ^ (15 - n) + kd l rest := by unfold kd; rw [List.map_cons, List.sum_cons, hn, Int.toNat_natCast]
            omega
          have hnx : cst l (done ++ [k]) = ((cst l done).1.set k (((nx (cst l done).2 n).1 : Int), ((nx (cst l done).2 n).2 : Int)), nx (cst l done).2 n) := by
            rw [cst_snoc]; unfold cstep; rw [hn, Int.toNat_natCast]
          obtain ⟨st, hst⟩ : ∃ st, st = (cst l done).2 := ⟨_, rfl⟩
          obtain ⟨ou, hou⟩ : ∃ ou, ou = (cst l done).1 := ⟨_, rfl⟩
          have houl : ou.length = 65 := by rw [hou]; exact length_cst l done
          rw [← hst, ← hou] at hout hnx
          rw [← hst] at hlb hle hinv2
          have hn2 : (nx st n).2 = n := by unfold nx; split <;> rfl
          have hb15 : (nx st n).1 + 1 ≤ 32768 := by
            rcases hinv2 with ⟨h0, _⟩ | ⟨_, _, h2⟩
            · omega
            · have h3 : 1 ≤ 2 ^ (15 - (nx st n).2) := Nat.pow_pos (by decide)
              have h4 : ((nx st n).1 + 1) * 1 ≤ ((nx st n).1 + 1) * 2 ^ (15 - (nx st n).2) := Nat.mul_le_mul_left _ h3
              omega
          have hk65 : k < 65 := by rw [← HL.out]; exact hkl
          have HX2 := kept hx2
          have HS := kept hs
          have HOut := kept hout
          have HO := kept ho
          have HK := kept hk
          have HLow := kept hlow
          have HSz := kept hsz
          have HNx := kept hnx
          have HN2 := kept hn2
          have HOl := kept houl
          have hax : ∃ ax ay, at_ l1 0 = (ax, ay) ∧ ax = (k : Int) ∧ ay = (n : Int) := ⟨(k : Int), l.getD k 0, HK.out.symm, rfl, hn⟩
          obtain ⟨ax, ay, hax, haxk, hayn⟩ := hax
          rw [hax] at HPop HX2
          simp only at HPop
          subst haxk hayn
          have hn1 : 1 ≤ n := by omega
          have hn15 : n ≤ 15 := by omega
          have hlen3 := hlen
          clear hs hpm hout ho hlen hx2 hk HPm hlow hsz hkm hkl hk1 hk15 hso hso2 hdn hdm hinv hinv2 hkd hnx hst hou houl hn2 hax hn HS3 HO3 hlen3
          go_wp2_with fail
          refine (hlen_calls _ _ _ _).mono ?_; rintro e w1 ⟨rfl, hbl⟩
          have HPop1 := kept (HPop.out w1 hbl)
          have HO1 : Kept (OutC B w1 g q ou lb (st.2 : Int)) := kept ⟨HOut.out.out.later hbl, (hbl.block q HOut.out.last.lt).trans HOut.out.last, HOut.out.gB, HOut.out.qB, HOut.out.ne⟩
          have HB1 := kept (HLow.out.trans (hbl.mono HSz.out))
          have HZ1 := kept (Nat.le_trans HSz.out hbl.size)
          clear hbl
          go_wp2_with fail
          refine HPop1.out.mono ?_
          rintro e w2 ⟨rfl, l2, h2, hl2, hh2, hp2, hm2, hc2⟩
          obtain ⟨curh, hgb⟩ := HS.out.hp.row.blk gh rfl
          have hgp1 : g ≠ p := fun e => HOut.out.out.ne HS.out.hp.blk (by decide) (by rw [← e]; rfl)
          have hgg1 : g ≠ gh := fun e => HOut.out.out.ne hgb (by decide) (by rw [← e]; rfl)
          have hqp1 : q ≠ p := HOut.out.last.ne HS.out.hp.blk (by decide)
          have hqg1 : q ≠ gh := HOut.out.last.ne hgb (by decide)
          have hb2 : Below B w1 w2 := hc2.below HZ1.out (fun b hb h => by
            rcases h with rfl | rfl
            · have := HS.out.newp; omega
            · have := HS.out.new b rfl; omega)
          have HO2 : Kept (OutC B w2 g q ou lb (st.2 : Int)) := kept ⟨HO1.out.out.chg hc2 (fun b hb h => by
              simp [Value.ownBlock] at hb; subst hb
              rcases h with h | h
              · exact hgp1 h
              · exact hgg1 h), hc2.keep HO1.out.last (fun h => by
              rcases h with h | h
              · exact hqp1 h
              · exact hqg1 h), HOut.out.gB, HOut.out.qB, HOut.out.ne⟩
          have HS2 : Kept (HpC B w2 p (.slice (some ⟨gh, 0, none⟩) rest.length cap) l2 ∧ Below B w w2 ∧ B ≤ w2.heap.size) := kept ⟨⟨h2, by rw [hl2]; exact hh2, HS.out.newp, fun b hb => HS.out.new b hb⟩, HB1.out.trans hb2, Nat.le_trans HZ1.out hb2.size⟩
          have HPm2 := kept (HX2.out l2 hp2 hm2)
          have HL2 := kept hl2
          clear h2 hl2 hh2 hp2 hm2 hc2 hb2 hgb hgp1 hgg1 hqp1 hqg1
          obtain ⟨cc, hcc⟩ : ∃ cc, cc = w2.heap.size := ⟨_, rfl⟩
          obtain ⟨w3, hw3⟩ : ∃ w3, w3 = w2.alloc (.cells #[.int .i64 (k : Int), .int .i64 (n : Int)] 106) := ⟨_, rfl⟩
          have hb3 : Below w2.heap.size w2 w3 := by rw [hw3]; exact (Below.refl _ _).alloc (Nat.le_refl _) _
          have HS3 : Kept (HpC B w3 p (.slice (some ⟨gh, 0, none⟩) rest.length cap) l2 ∧ Below B w w3 ∧ B ≤ w3.heap.size) := kept ⟨⟨HS2.out.1.hp.later hb3, HS2.out.1.heap, HS2.out.1.newp, HS2.out.1.new⟩, HS2.out.2.1.trans (hb3.mono HS2.out.2.2), Nat.le_trans HS2.out.2.2 hb3.size⟩
          have HO3 : Kept (OutC B w3 g q ou lb (st.2 : Int)) := kept ⟨HO2.out.out.later hb3, (hb3.block q HO2.out.last.lt).trans HO2.out.last, HOut.out.gB, HOut.out.qB, HOut.out.ne⟩
          have hcl : Blk w3 cc #[.int .i64 (k : Int), .int .i64 (n : Int)] 106 := by rw [hw3, hcc]; exact Blk.fresh _ _ _
          have hccq : cc ≠ q := fun e => (hcl.ne HO3.out.last (by decide)) e
          have k0 := hcl.cell (i := 0) rfl
          have k1 := hcl.cell (i := 1) rfl
          have q0 := HO3.out.last.cell (i := 0) rfl
          have q1 := HO3.out.last.cell (i := 1) rfl
          have fq0 := HO3.out.last.free 0
          have fq1 := HO3.out.last.free 1
          have HCl := kept hcl
          clear hb3 hcl HO1 HO2 HS2 HPop HPop1 HOut HS c0
          go_upto_if 48 with fail
          rw [← hcc, ← hw3]
          clear hw3 hcc hta
          rcases hlb with ⟨hst0, rfl⟩ | ⟨hst1, rfl⟩
          · have HX3 : Kept ((nx st n).1 = 0) := kept (by unfold nx; rw [if_pos hst0])
            rw [hst0] at q1 HO3
            rw [show (((0 : Nat)) : Int) = 0 from rfl] at q1 HO3
            obtain ⟨w4, hw4⟩ : ∃ w4, w4 = w3.setCell ⟨q, 1, none⟩ (.int .i64 (n : Int)) := ⟨_, rfl⟩
            have h4 := setLast HO3.out HS3.out.1 HS3.out.2.1 HS3.out.2.2 (n : Int) HCl.out
            rw [← hw4] at h4
            have HS4 : Kept (HpC B w4 p (.slice (some ⟨gh, 0, none⟩) rest.length cap) l2 ∧ Below B w w4 ∧ B ≤ w4.heap.size) := kept ⟨h4.2.1, h4.2.2.1, h4.2.2.2.1⟩
            have HO4 : Kept (OutC B w4 g q ou (-1) (n : Int)) := kept h4.1
            have HCl4 : Kept (Blk w4 cc #[.int .i64 (k : Int), .int .i64 (n : Int)] 106) := kept h4.2.2.2.2
            go_upto_region 17 with fail
            rw [← hw4]
            clear h4 hw4 hb15 HS3 HO3 HCl k0 k1 q0 q1 fq0 fq1
            have k0 := HCl4.out.cell (i := 0) rfl
            have k1 := HCl4.out.cell (i := 1) rfl
            have q0 := HO4.out.last.cell (i := 0) rfl
            have q1 := HO4.out.last.cell (i := 1) rfl
            have fq0 := HO4.out.last.free 0
            have fq1 := HO4.out.last.free 1
            have m0 := lat_cell k0
            have m1 := lat_cell k1
            have m2 := lat_cell q0
            have m3 := lat_cell q1
            refine wp_region_mixL [] [0,1,2,3,4,5,6,7,8,9,10] [11,12] (by kernel_rfl) (by kernel_rfl) ?_
            intro K hK
            simp only [pick, List.filterMap_cons, List.filterMap_nil, List.getElem?_cons_zero, List.getElem?_cons_succ]
            refine wpQuiet_nil ?_
            repeat (show wpQuiet _ _ _ _ (_ :: _) _; go_big_quiet_step (fail))
            refine wpQuiet_nil ?_
            show wpList _ _ _ [_, _] _ _
            generalize hwd : World.drew w4 = wd
            have hlat : Below w4.heap.size w4 wd := by rw [← hwd]; exact (Below.refl _ _).drew
            have HSd : Kept (HpC B wd p (.slice (some ⟨gh, 0, none⟩) rest.length cap) l2 ∧ Below B w wd ∧ B ≤ wd.heap.size) := kept ⟨⟨HS4.out.1.hp.later hlat, HS4.out.1.heap, HS4.out.1.newp, HS4.out.1.new⟩, HS4.out.2.1.trans (hlat.mono HS4.out.2.2), Nat.le_trans HS4.out.2.2 hlat.size⟩
            have HOd : Kept (OutC B wd g q ou (-1) (n : Int)) := kept ⟨HO4.out.out.later hlat, (hlat.block q HO4.out.last.lt).trans HO4.out.last, HO4.out.gB, HO4.out.qB, HO4.out.ne⟩
            have HCd : Kept (Blk wd cc #[.int .i64 (k : Int), .int .i64 (n : Int)] 106) := kept ((hlat.block cc HCl4.out.lt).trans HCl4.out)
            clear hwd hlat m0 m1 m2 m3 k0 k1 q0 q1 fq0 fq1 HS4 HO4 HCl4
            have q0 := HOd.out.last.cell (i := 0) rfl
            have q1 := HOd.out.last.cell (i := 1) rfl
            have fq0 := HOd.out.last.free 0
            have fq1 := HOd.out.last.free 1
            have k0 := HCd.out.cell (i := 0) rfl
            have k1 := HCd.out.cell (i := 1) rfl
            have co0 := HOd.out.out.cell (fl_at ou k (by rw [HOl.out]; exact hk65)).1
            have co1 := HOd.out.out.cell (fl_at ou k (by rw [HOl.out]; exact hk65)).2
            have fo0 := HOd.out.out.free (k * 2)
            have fo1 := HOd.out.out.free (k * 2 + 1)
            obtain ⟨oa, hoa⟩ : ∃ oa, oa = at_ ou k := ⟨_, rfl⟩
            rw [← hoa] at co0 co1
            have HFin := kept (putC HOd.out HSd.out.1 HSd.out.2.1 HSd.out.2.2 k 0 (n : Int) hk65 HOl.out)
            have hgq := HOd.out.ne
            have hqg : q ≠ g := fun e => hgq e.symm
            clear hoa
            go_wp2_with fail
            refine hK _ _ ?_
            go_wp2_with fail
            go_roundw
            case rel =>
              refine ⟨done ++ [k], rest, _, l2, 0, by rw [HO.out]; simp, HFin.out.2.1, HFin.out.2.2.1, HFin.out.2.2.2, HPm2.out, ?_, ?_, HL2.out⟩
              · rw [HNx.out]
                show OutC B _ g q (ou.set k (((nx st n).1 : Int), ((nx st n).2 : Int))) _ ((nx st n).2 : Int)
                rw [HN2.out, HX3.out]
                exact HFin.out.1
              · right
                rw [HNx.out]
                show 1 ≤ (nx st n).2 ∧ (0 : Int) = ((nx st n).1 : Int)
                rw [HN2.out, HX3.out]
                exact ⟨hn1, rfl⟩
            case measure =>
              have d0 := HFin.out.2.1.hp.blk.cell (i := 0) rfl
              rw [d0, HC0.out]
              simp [lenOf]
          · have ts : ((st.2 : Int) == 0) = false := by rw [beq_eq_false_iff_ne]; omega
            obtain ⟨d, hd⟩ : ∃ d : Nat, (n : Int) - (st.2 : Int) = (d : Int) := ⟨n - st.2, by omega⟩
            have hd2 : d = n - st.2 := by omega
            have hval : (nx st n).1 = (st.1 + 1) * 2 ^ d := by unfold nx; rw [if_neg (by omega), hd2]
            obtain ⟨X, hX⟩ : ∃ X, X = (nx st n).1 := ⟨_, rfl⟩
            have hXb : X + 1 ≤ 32768 := by rw [hX]; exact hb15
            have hv : ((st.1 : Int) + 1) * 2 ^ d = (X : Int) := by rw [hX, hval]; simp
            have hsb : st.1 + 1 ≤ 32768 := by
              have h1 : 1 ≤ 2 ^ d := Nat.pow_pos (by decide)
              have h2 : (st.1 + 1) * 1 ≤ (st.1 + 1) * 2 ^ d := Nat.mul_le_mul_left _ h1
              omega
            have HX3 := kept hX
            have m0 := lat_cell k0
            have m1 := lat_cell k1
            have m2 := lat_cell q0
            have m3 := lat_cell q1
            clear hval hd2 hX hb15
            go_wp2_with fail
            refine wp_region_mixL [] [0,1,2,3,4,5,6,7,8,9,10] [11,12] (by kernel_rfl) (by kernel_rfl) ?_
            intro K hK
            simp only [pick, List.filterMap_cons, List.filterMap_nil, List.getElem?_cons_zero, List.getElem?_cons_succ]
            refine wpQuiet_nil ?_
            repeat (show wpQuiet _ _ _ _ (_ :: _) _; go_big_quiet_step (fail))
            refine wpQuiet_nil ?_
            show wpList _ _ _ [_, _] _ _
            generalize hwd : World.drew w3 = wd
            have hlat : Below w3.heap.size w3 wd := by rw [← hwd]; exact (Below.refl _ _).drew
            have HSd : Kept (HpC B wd p (.slice (some ⟨gh, 0, none⟩) rest.length cap) l2 ∧ Below B w wd ∧ B ≤ wd.heap.size) := kept ⟨⟨HS3.out.1.hp.later hlat, HS3.out.1.heap, HS3.out.1.newp, HS3.out.1.new⟩, HS3.out.2.1.trans (hlat.mono HS3.out.2.2), Nat.le_trans HS3.out.2.2 hlat.size⟩
            have HOd : Kept (OutC B wd g q ou (st.1 : Int) (st.2 : Int)) := kept ⟨HO3.out.out.later hlat, (hlat.block q HO3.out.last.lt).trans HO3.out.last, HO3.out.gB, HO3.out.qB, HO3.out.ne⟩
            have HCd : Kept (Blk wd cc #[.int .i64 (k : Int), .int .i64 (n : Int)] 106) := kept ((hlat.block cc HCl.out.lt).trans HCl.out)
            clear hwd hlat m0 m1 m2 m3 k0 k1 q0 q1 fq0 fq1 HS3 HO3 HCl
            have q0 := HOd.out.last.cell (i := 0) rfl
            have q1 := HOd.out.last.cell (i := 1) rfl
            have fq0 := HOd.out.last.free 0
            have fq1 := HOd.out.last.free 1
            have k0 := HCd.out.cell (i := 0) rfl
            have k1 := HCd.out.cell (i := 1) rfl
            have co0 := HOd.out.out.cell (fl_at ou k (by rw [HOl.out]; exact hk65)).1
            have co1 := HOd.out.out.cell (fl_at ou k (by rw [HOl.out]; exact hk65)).2
            have fo0 := HOd.out.out.free (k * 2)
            have fo1 := HOd.out.out.free (k * 2 + 1)
            obtain ⟨oa, hoa⟩ : ∃ oa, oa = at_ ou k := ⟨_, rfl⟩
            rw [← hoa] at co0 co1
            have HFin := kept (putC HOd.out HSd.out.1 HSd.out.2.1 HSd.out.2.2 k (X : Int) (n : Int) hk65 HOl.out)
            have hgq := HOd.out.ne
            have hqg : q ≠ g := fun e => hgq e.symm
            clear hoa
            go_wp2_with fail
            refine hK _ _ ?_
            go_wp2_with fail
            go_roundw
            case rel =>
              refine ⟨done ++ [k], rest, _, l2, (X : Int), by rw [HO.out]; simp, HFin.out.2.1, HFin.out.2.2.1, HFin.out.2.2.2, HPm2.out, ?_, ?_, HL2.out⟩
              · rw [HNx.out]
                show OutC B _ g q (ou.set k (((nx st n).1 : Int), ((nx st n).2 : Int))) _ ((nx st n).2 : Int)
                rw [HN2.out, ← HX3.out]
                exact HFin.out.1
              · right
                rw [HNx.out]
                show 1 ≤ (nx st n).2 ∧ (X : Int) = ((nx st n).1 : Int)
                rw [HN2.out, ← HX3.out]
                exact ⟨hn1, rfl⟩
            case measure =>
              have d0 := HFin.out.2.1.hp.blk.cell (i := 0) rfl
              rw [d0, HC0.out]
              simp [lenOf]
end Go.Proofs.Ytnakjencodicmaa.CanonH

-- ---- Cp
/- The codes of lengths, place by place: no code begins another one. Plain facts; no program in sight. -/
namespace Go.Proofs.Ytnakjencodicmaa.Cd
set_option maxRecDepth 100000
set_option linter.unusedSimpArgs false
set_option linter.unusedVariables false
open Ol Dp

/-- Those that are told by now: all shorter ones, and of this length those ahead of place i. -/
def dn (l : List Int) (n i : Nat) : List Nat := ((List.range' 1 (n - 1)).flatMap fun m : Nat => (List.range l.length).filter fun j => l.getD j 0 == (m : Int)) ++ (List.range i).filter fun j => l.getD j 0 == (n : Int)
theorem dn_first (l : List Int) : dn l 1 0 = [] := by simp [dn]
theorem dn_step (l : List Int) (n i : Nat) : dn l n (i + 1) = dn l n i ++ (if l.getD i 0 = (n : Int) then [i] else []) := by
  unfold dn
  rw [List.range_succ, List.filter_append, ← List.append_assoc]
  congr 1
  by_cases h : l.getD i 0 = (n : Int)
  · rw [if_pos h]; simp only [List.filter_cons, List.filter_nil, h]; simp
  · rw [if_neg h]; simp only [List.filter_cons, List.filter_nil]; rw [if_neg (by rw [beq_iff_eq]; exact h)]
theorem dn_next (l : List Int) (n : Nat) (h : 1 ≤ n) : dn l (n + 1) 0 = dn l n l.length := by
  unfold dn
  rw [show n + 1 - 1 = (n - 1) + 1 by omega, List.range'_1_concat, List.flatMap_append]
  simp [show 1 + (n - 1) = n by omega]
theorem dn_last (l : List Int) : dn l 16 0 = ordS l := by unfold dn ordS; simp
theorem dn_sub (l : List Int) (n i : Nat) (h1 : 1 ≤ n) (h2 : n ≤ 15) (hi : i ≤ l.length) : (dn l n i).Sublist (ordS l) := by
  have e : List.range' 1 15 = List.range' 1 (n - 1) ++ (n :: List.range' (n + 1) (15 - n)) := by
    have h3 := List.range'_append_1 (s := 1) (m := n - 1) (n := 15 - (n - 1))
    rw [show n - 1 + (15 - (n - 1)) = 15 by omega] at h3
    rw [← h3, show 15 - (n - 1) = (15 - n) + 1 by omega, List.range'_succ, show 1 + (n - 1) = n by omega]
  unfold dn ordS
  rw [e, List.flatMap_append, List.flatMap_cons]
  refine List.Sublist.append_left ?_ _
  refine List.Sublist.trans ?_ (List.sublist_append_left _ _)
  exact (List.range_sublist.2 hi).filter _
theorem kd_sub (l : List Int) {a b : List Nat} (h : a.Sublist b) : kd l a ≤ kd l b := by
  unfold kd
  induction h with
  | slnil => exact Nat.le_refl _
  | cons x _ ih => rw [List.map_cons, List.sum_cons]; exact Nat.le_trans ih (Nat.le_add_left _ _)
  | cons_cons x _ ih => rw [List.map_cons, List.map_cons, List.sum_cons, List.sum_cons]; omega
theorem cst_zero (l : List Int) (done : List Nat) (hm : ∀ c ∈ done, 1 ≤ l.getD c 0) : (cst l done).2.2 = 0 → (cst l done).2.1 = 0 := by
  have key : ∀ (d : List Nat) (s : List (Int × Int) × (Nat × Nat)), (∀ c ∈ d, 1 ≤ l.getD c 0) → (s.2.2 = 0 → s.2.1 = 0) → (d.foldl (cstep l) s).2.2 = 0 → (d.foldl (cstep l) s).2.1 = 0 := by
    intro d
    induction d with
    | nil => intro s _ h; exact h
    | cons a t ih =>
      intro s hm h
      refine ih _ (fun c hc => hm c (List.mem_cons_of_mem _ hc)) fun h0 => ?_
      have h1 : (nx s.2 (l.getD a 0).toNat).2 = (l.getD a 0).toNat := by unfold nx; split <;> rfl
      have h2 : (nx s.2 (l.getD a 0).toNat).2 = 0 := h0
      have := hm a (by simp)
      omega
  exact key done _ hm (fun _ => rfl)

theorem may_range {l : List Int} (h : mayL l = true) : l.length = 65 ∧ ∀ x ∈ l, 0 ≤ x ∧ x ≤ 15 := by
  unfold mayL at h; rw [decide_eq_true_eq] at h; exact ⟨h.1, h.2.1⟩
/-- A place's code is what it was when it came. -/
theorem code_keep (l : List Int) (c : Nat) : ∀ (rest done : List Nat), c ∉ rest → ((cst l (done ++ rest)).1).getD c (0, 0) = ((cst l done).1).getD c (0, 0) := by
  intro rest
  induction rest with
  | nil => intro done _; rw [List.append_nil]
  | cons a t ih =>
    intro done hc
    have e : done ++ a :: t = (done ++ [a]) ++ t := by simp
    rw [e, ih (done ++ [a]) (fun h => hc (List.mem_cons_of_mem _ h)), cst_snoc]
    have : a ≠ c := fun e => hc (by rw [e]; simp)
    simp only [cstep, List.getD_eq_getElem?_getD, List.getElem?_set_ne this]
theorem code_at (l : List Int) {done rest : List Nat} {c : Nat} (h : ordS l = done ++ c :: rest) (hc : c < 65) : (codeL l).getD c (0, 0) = (((nx (cst l done).2 (l.getD c 0).toNat).1 : Int), ((nx (cst l done).2 (l.getD c 0).toNat).2 : Int)) := by
  have hnd := nodup_ordS l
  rw [h] at hnd
  have hcr : c ∉ rest := (List.nodup_cons.1 (List.nodup_append.1 hnd).2.1).1
  unfold codeL
  rw [h, show done ++ c :: rest = (done ++ [c]) ++ rest by simp, code_keep l c rest _ hcr, cst_snoc]
  have hl : c < (cst l done).1.length := by rw [length_cst]; exact hc
  simp [cstep, List.getD_eq_getElem?_getD, List.getElem?_set_self hl]
theorem dn_prefix (l : List Int) (n i : Nat) (h1 : 1 ≤ n) (h2 : n ≤ 15) (hi : i < l.length) (hn : l.getD i 0 = (n : Int)) : ∃ rest, ordS l = dn l n i ++ i :: rest := by
  have e : List.range' 1 15 = List.range' 1 (n - 1) ++ (n :: List.range' (n + 1) (15 - n)) := by
    have h3 := List.range'_append_1 (s := 1) (m := n - 1) (n := 15 - (n - 1))
    rw [show n - 1 + (15 - (n - 1)) = 15 by omega] at h3
    rw [← h3, show 15 - (n - 1) = (15 - n) + 1 by omega, List.range'_succ, show 1 + (n - 1) = n by omega]
  have e2 : List.range l.length = List.range i ++ i :: List.range' (i + 1) (l.length - i - 1) := by
    rw [List.range_eq_range', List.range_eq_range']
    have h3 := List.range'_append_1 (s := 0) (m := i) (n := l.length - i)
    rw [show i + (l.length - i) = l.length by omega, Nat.zero_add] at h3
    rw [← h3, show l.length - i = (l.length - i - 1) + 1 by omega, List.range'_succ]
    simp
  refine ⟨(List.range' (i + 1) (l.length - i - 1)).filter (fun j => l.getD j 0 == (n : Int)) ++ (List.range' (n + 1) (15 - n)).flatMap fun m : Nat => (List.range l.length).filter fun j => l.getD j 0 == (m : Int), ?_⟩
  unfold ordS dn
  rw [e, List.flatMap_append, List.flatMap_cons]
  have e3 : (List.range l.length).filter (fun j => l.getD j 0 == (n : Int)) = (List.range i).filter (fun j => l.getD j 0 == (n : Int)) ++ i :: (List.range' (i + 1) (l.length - i - 1)).filter (fun j => l.getD j 0 == (n : Int)) := by
    conv => lhs; rw [e2]
    rw [List.filter_append, List.filter_cons, if_pos (by rw [beq_iff_eq]; exact hn)]
  rw [e3]
  simp [List.append_assoc]

/-- What is known where a place's turn comes. -/
theorem turn_at {l : List Int} (hm : mayL l = true) {n i : Nat} (h1 : 1 ≤ n) (h15 : n ≤ 15) (hi : i < 65) (hn : l.getD i 0 = (n : Int)) :
    ∃ b : Nat, (codeL l).getD i (0, 0) = ((b : Int), (n : Int)) ∧ b * 2 ^ (15 - n) = kd l (dn l n i) ∧ kd l (dn l n i) + 2 ^ (15 - n) ≤ ks l := by
  obtain ⟨h65, hr⟩ := may_range hm
  have hx15 : ∀ x ∈ l, x ≤ 15 := fun x hx => (hr x hx).2
  obtain ⟨rest, ho⟩ := dn_prefix l n i h1 h15 (by omega) hn
  have hso := sorted_ordS l
  rw [ho] at hso
  have hso2 := List.pairwise_append.1 hso
  have hmem : ∀ a ∈ dn l n i, 1 ≤ l.getD a 0 ∧ l.getD a 0 ≤ 15 := fun a ha => (mem_ordS.1 (by rw [ho]; exact List.mem_append_left _ ha)).2
  have hinv := cst_inv l (dn l n i) (hso2.1.imp fun {a b} h => by omega) hmem
  have hle := hinv.2 (n : Int) (fun a ha => by have := hso2.2.2 a ha i (by simp); omega)
  have hinv2 := inv_nx (n := n) hinv.1 h1 h15 (by omega)
  have hn2 : (nx (cst l (dn l n i)).2 n).2 = n := by unfold nx; split <;> rfl
  have hc := code_at l ho hi
  rw [hn, Int.toNat_natCast, hn2] at hc
  refine ⟨_, hc, ?_, ?_⟩
  · rcases hinv2 with ⟨h0, _⟩ | ⟨_, _, h2⟩
    · omega
    · rw [hn2, Nat.add_mul, Nat.one_mul] at h2
      omega
  · have h := kd_all l hx15
    rw [← h, ho, kd_append]
    have h3 : kd l (i :: rest) = 2 ^ (15 - n) + kd l rest := by unfold kd; rw [List.map_cons, List.sum_cons, hn, Int.toNat_natCast]
    omega

theorem dn_mono (l : List Int) (n : Nat) {i j : Nat} (h : i ≤ j) : (dn l n i).Sublist (dn l n j) := by
  unfold dn
  refine List.Sublist.append_left ?_ _
  exact (List.range_sublist.2 h).filter _
theorem dn_up (l : List Int) (n : Nat) (h1 : 1 ≤ n) : ∀ (d : Nat), (dn l n l.length).Sublist (dn l (n + 1 + d) 0) := by
  intro d
  induction d with
  | zero => rw [← dn_next l n h1]; exact List.Sublist.refl _
  | succ d ih =>
    have e : dn l (n + 1 + (d + 1)) 0 = dn l (n + 1 + d) l.length := by rw [show n + 1 + (d + 1) = (n + 1 + d) + 1 by omega]; exact dn_next l _ (by omega)
    rw [e]
    exact ih.trans (dn_mono l _ (Nat.zero_le _))
/-- Who comes first fills up to where the other begins. -/
theorem turn_lt (l : List Int) {n m i j : Nat} (h1 : 1 ≤ n) (hi : i < l.length) (hn : l.getD i 0 = (n : Int)) (h : n < m ∨ (n = m ∧ i < j)) : kd l (dn l n i) + 2 ^ (15 - n) ≤ kd l (dn l m j) := by
  have e : kd l (dn l n (i + 1)) = kd l (dn l n i) + 2 ^ (15 - n) := by
    rw [dn_step, if_pos hn, kd_append]
    congr 1
    unfold kd; rw [List.map_cons, List.map_nil, List.sum_cons, List.sum_nil, hn, Int.toNat_natCast, Nat.add_zero]
  rw [← e]
  refine kd_sub l ?_
  rcases h with h | ⟨rfl, h⟩
  · obtain ⟨d, rfl⟩ : ∃ d, m = n + 1 + d := ⟨m - (n + 1), by omega⟩
    exact ((dn_mono l n (show i + 1 ≤ l.length by omega)).trans (dn_up l n h1 d)).trans (dn_mono l _ (Nat.zero_le _))
  · exact dn_mono l n (by omega)
/-- A class without a length has no code. -/
theorem code_none (l : List Int) {c : Nat} (h : c ∉ ordS l) : (codeL l).getD c (0, 0) = (0, 0) := by
  unfold codeL
  have := code_keep l c (ordS l) [] h
  rw [List.nil_append] at this
  rw [this]
  show (List.replicate 65 ((0 : Int), (0 : Int))).getD c (0, 0) = (0, 0)
  simp only [List.getD_eq_getElem?_getD, List.getElem?_replicate]; split <;> rfl
/-- Each class' code. -/
theorem code_all {l : List Int} (hm : mayL l = true) (i : Nat) (hi : i < 65) : ∃ (n b : Nat), l.getD i 0 = (n : Int) ∧ n ≤ 15 ∧ (codeL l).getD i (0, 0) = ((b : Int), (n : Int)) ∧ b < 2 ^ n ∧ (1 ≤ n → b * 2 ^ (15 - n) = kd l (dn l n i)) := by
  obtain ⟨h65, hr⟩ := may_range hm
  have hmem := hr (l.getD i 0) (by simp [List.getD_eq_getElem?_getD, show i < l.length by omega])
  obtain ⟨n, hn⟩ : ∃ n : Nat, l.getD i 0 = (n : Int) := ⟨(l.getD i 0).toNat, by omega⟩
  by_cases h1 : 1 ≤ n
  · obtain ⟨b, hb1, hb2, hb3⟩ := turn_at hm h1 (by omega) hi hn
    have hks := ks_le hm
    refine ⟨n, b, hn, by omega, hb1, ?_, fun _ => hb2⟩
    have e : 2 ^ n * 2 ^ (15 - n) = 32768 := by rw [← Nat.pow_add, show n + (15 - n) = 15 by omega]
    have hp : 0 < 2 ^ (15 - n) := Nat.pow_pos (by decide)
    refine Nat.lt_of_mul_lt_mul_right (a := 2 ^ (15 - n)) ?_
    rw [e, hb2]; omega
  · have hz : n = 0 := by omega
    subst hz
    refine ⟨0, 0, hn, by omega, code_none l (fun h => ?_), by decide, fun h => absurd h h1⟩
    have := (mem_ordS.1 h).2.1
    rw [hn] at this; omega
/-- No code begins another. -/
theorem code_apart {l : List Int} (hm : mayL l = true) {i j n m b c : Nat} (hi : i < 65) (hj : j < 65) (hij : i ≠ j) (hn : l.getD i 0 = (n : Int)) (hm2 : l.getD j 0 = (m : Int)) (h1 : 1 ≤ n) (hnm : n ≤ m) (h15 : m ≤ 15)
    (hb : b * 2 ^ (15 - n) = kd l (dn l n i)) (hc : c * 2 ^ (15 - m) = kd l (dn l m j)) : c / 2 ^ (m - n) ≠ b := by
  intro he
  have h65 := (may_range hm).1
  have hp : 0 < 2 ^ (15 - m) := Nat.pow_pos (by decide)
  have e : 2 ^ (15 - n) = 2 ^ (m - n) * 2 ^ (15 - m) := by rw [← Nat.pow_add]; congr 1; omega
  have hq : 0 < 2 ^ (m - n) := Nat.pow_pos (by decide)
  have hdm := Nat.div_add_mod c (2 ^ (m - n))
  have hml := Nat.mod_lt c hq
  rw [he] at hdm
  by_cases hlt : n < m ∨ (n = m ∧ i < j)
  · have h2 := turn_lt l h1 (by omega) hn hlt
    rw [← hb, ← hc, e] at h2
    have h3 : c < (b + 1) * 2 ^ (m - n) := by rw [Nat.add_mul, Nat.one_mul, Nat.mul_comm b]; omega
    have h4 : c * 2 ^ (15 - m) < (b + 1) * 2 ^ (m - n) * 2 ^ (15 - m) := Nat.mul_lt_mul_of_pos_right h3 hp
    rw [Nat.add_mul, Nat.one_mul, Nat.add_mul, Nat.mul_assoc] at h4
    omega
  · have hnm2 : n = m := by omega
    subst hnm2
    have h2 := turn_lt l h1 (by omega) hm2 (.inr ⟨rfl, show j < i by omega⟩)
    rw [← hb, ← hc] at h2
    rw [Nat.sub_self, Nat.pow_zero, Nat.div_one] at he
    rw [he] at h2
    omega
end Go.Proofs.Ytnakjencodicmaa.Cd

-- ---- PAx8
/- canon.Codes: what the call answers, for every list. Conditions: none but a slice's. -/
namespace Go.Proofs.Ytnakjencodicmaa.PA
open Go.RowKit Go.Proofs.YtnakjencodicmaaW.PrintWords Go.Proofs.YtnakjencodicmaaW.PrintLast Go.Proofs.YtnakjencodicmaaW.PrintMore
set_option linter.unusedVariables false
set_option linter.unusedSimpArgs false

def codeS (c : Int × Int) : S69 := ⟨c.1, c.2⟩
/-- The answer of both. -/
def codesE (l : List Int) : List (S69) × Int := if Dp.mayL l = true then ((Cd.codeL l).map codeS, 0) else ([], 3)
def canon_Codes.f (l0 : List Int) : Option ((List (S69)) × Int) := some (codesE l0)
theorem canon_Codes.calls (A0 : Option Addr) (c0 : Nat) (l0 : List Int) (r1 : List (S69)) (r2 : Int) (w : World) (hr0 : Kd.C (Kd.int .i64) w A0 l0.length l0) (hc0 : l0.length ≤ c0) (h : canon_Codes.f l0 = some (r1, r2)) :
    Calls Try.prog 22 #[.slice A0 l0.length c0] w fun e w' => ∃ v0_ : Value, e = .returned (.tuple #[v0_, .int .i64 r2]) ∧ Kd.R k69 69 w' w.heap.size (fun _ => True) v0_ r1 ∧ Below w.heap.size w w' := by
  have h := Option.some.inj h
  unfold codesE at h
  split at h
  · rename_i hg
    obtain ⟨rfl, rfl⟩ := Prod.mk.inj h
    refine (CanonH.codes_ok A0 c0 l0 w hr0 hc0 hg).mono ?_
    rintro e w' ⟨v, rfl, ho, hnew, hb⟩
    refine ⟨v, rfl, ?_, hb⟩
    refine Own.R_of_flat k69 (fun x => [.int .i64 x.f0, .int .i64 x.f1]) (fun ok x => k69_mkM w' w.heap.size ok x) (fun _ => rfl) ?_ hnew
    have hl : (Cd.codeL l0).length = 65 := Cd.length_cst l0 _
    rw [List.length_map, hl]
    have e : ((Cd.codeL l0).map codeS).flatMap (fun x => [Value.int .i64 x.f0, .int .i64 x.f1]) = CanonH.fl (Cd.codeL l0) := by
      generalize Cd.codeL l0 = cs
      unfold CanonH.fl
      induction cs with
      | nil => rfl
      | cons a t ih => simp only [List.map_cons, List.flatMap_cons, ih]; rfl
    rw [e]; exact ho
  · rename_i hg
    obtain ⟨rfl, rfl⟩ := Prod.mk.inj h
    refine (CanonH.codes_bad A0 c0 l0 w hr0 hc0 (by simpa using hg)).mono ?_
    rintro e w' ⟨rfl, hb⟩
    exact ⟨_, rfl, Kd.R_nil _ _ _ _ _, hb⟩
end Go.Proofs.Ytnakjencodicmaa.PA

-- ---- PAx25

namespace Go.Proofs.Ytnakjencodicmaa.PA
open Go.RowKit Go.Proofs.YtnakjencodicmaaW.PrintWords Go.Proofs.YtnakjencodicmaaW.PrintLast Go.Proofs.YtnakjencodicmaaW.PrintMore
attribute [local go_sem] max2_int min2_int max_two min_two max_three min_three max_four min_four   -- for this text's walks alone
set_option linter.unusedVariables false
set_option linter.unusedSimpArgs false

/-! ### wringerref7_Canon: function 27 -/
mutual
def wringerref7_Canon.l0 : Nat → List Int → List (S69) → Int → Int → Int → Option ((List (S69)) × Int)
  | 0, _, _, _, _, _ => none
  | k + 1, x0, x3, x4, x5, x6 => if x6 ≤ 15 then (wringerref7_Canon.l1 k x0 x3 x4 x5 x6 0) else (some (x3, 0))
def wringerref7_Canon.l1 : Nat → List Int → List (S69) → Int → Int → Int → Int → Option ((List (S69)) × Int)
  | 0, _, _, _, _, _, _ => none
  | k + 1, x0, x3, x4, x5, x6, x7 => if x7 < (x0.length : Int) then (if 0 ≤ x7 then (if (rd x0 x7) = x6 then (if x5 > 0 then (if 0 ≤ (wrap64 (x6 - x5)) then (if x7 < (x3.length : Int) then (wringerref7_Canon.l1 k x0 (x3.set (x7 : Int).toNat (⟨shl .i64 (wrap64 (x4 + 1)) (wrap64 (x6 - x5)), x6⟩ : S69)) (shl .i64 (wrap64 (x4 + 1)) (wrap64 (x6 - x5))) x6 x6 (wrap64 (x7 + 1))) else (none)) else (none)) else (if x7 < (x3.length : Int) then (wringerref7_Canon.l1 k x0 (x3.set (x7 : Int).toNat (⟨x4, x6⟩ : S69)) x4 x6 x6 (wrap64 (x7 + 1))) else (none))) else (wringerref7_Canon.l1 k x0 x3 x4 x5 x6 (wrap64 (x7 + 1)))) else (none)) else (wringerref7_Canon.l0 k x0 x3 x4 x5 (wrap64 (x6 + 1)))
end
def wringerref7_Canon.f (k : Nat) (l0 : List Int) : Option ((List (S69)) × Int) := (wringerref7_MayLens.f k l0).bind fun t151 => (if t151 = true then (if 65 ≤ 17592186044416 then (wringerref7_Canon.l0 k l0 (List.replicate 65 z69) 0 0 1) else (none)) else (some (([] : List (S69)), 3)))
theorem wringerref7_Canon.mono_l : ∀ k, (∀ y0 y1 y2 y3 y4, LeO (wringerref7_Canon.l0 k y0 y1 y2 y3 y4) (wringerref7_Canon.l0 (k + 1) y0 y1 y2 y3 y4)) ∧ (∀ y0 y1 y2 y3 y4 y5, LeO (wringerref7_Canon.l1 k y0 y1 y2 y3 y4 y5) (wringerref7_Canon.l1 (k + 1) y0 y1 y2 y3 y4 y5))
  | 0 => ⟨fun _ _ _ _ _ r h => by simp [wringerref7_Canon.l0] at h, fun _ _ _ _ _ _ r h => by simp [wringerref7_Canon.l1] at h⟩
  | k + 1 => by
    obtain ⟨ih0, ih1⟩ := wringerref7_Canon.mono_l k
    refine ⟨?_, ?_⟩
    · intro y0 y1 y2 y3 y4
      unfold wringerref7_Canon.l0
      repeat' first
      | (with_reducible exact ih0 _ _ _ _ _)
      | (with_reducible exact ih1 _ _ _ _ _ _)
      | (with_reducible exact wringerref7_MayLens.mono _ _)
      | (with_reducible exact LeO.refl _)
      | (with_reducible exact LeO.none _)
      | (with_reducible refine LeO.ite ?_ ?_)
      | (with_reducible refine LeO.bind ?_ (fun _ => ?_))
      | exact ih0 _ _ _ _ _
      | exact ih1 _ _ _ _ _ _
      | exact wringerref7_MayLens.mono _ _
      | exact LeO.none _
      | refine LeO.ite ?_ ?_
      | refine LeO.bind ?_ (fun _ => ?_)
    · intro y0 y1 y2 y3 y4 y5
      unfold wringerref7_Canon.l1
      repeat' first
      | (with_reducible exact ih0 _ _ _ _ _)
      | (with_reducible exact ih1 _ _ _ _ _ _)
      | (with_reducible exact wringerref7_MayLens.mono _ _)
      | (with_reducible exact LeO.refl _)
      | (with_reducible exact LeO.none _)
      | (with_reducible refine LeO.ite ?_ ?_)
      | (with_reducible refine LeO.bind ?_ (fun _ => ?_))
      | exact ih0 _ _ _ _ _
      | exact ih1 _ _ _ _ _ _
      | exact wringerref7_MayLens.mono _ _
      | exact LeO.none _
      | refine LeO.ite ?_ ?_
      | refine LeO.bind ?_ (fun _ => ?_)
theorem wringerref7_Canon.mono : ∀ a0 k, LeO (wringerref7_Canon.f k a0) (wringerref7_Canon.f (k + 1) a0) := by
  intro a0 k
  obtain ⟨ih0, ih1⟩ := wringerref7_Canon.mono_l k
  unfold wringerref7_Canon.f
  repeat' first
      | (with_reducible exact ih0 _ _ _ _ _)
      | (with_reducible exact ih1 _ _ _ _ _ _)
      | (with_reducible exact wringerref7_MayLens.mono _ _)
      | (with_reducible exact LeO.refl _)
      | (with_reducible exact LeO.none _)
      | (with_reducible refine LeO.ite ?_ ?_)
      | (with_reducible refine LeO.bind ?_ (fun _ => ?_))
      | exact ih0 _ _ _ _ _
      | exact ih1 _ _ _ _ _ _
      | exact wringerref7_MayLens.mono _ _
      | exact LeO.none _
      | refine LeO.ite ?_ ?_
      | refine LeO.bind ?_ (fun _ => ?_)
set_option maxHeartbeats 8000000 in
set_option maxRecDepth 100000 in
theorem wringerref7_Canon.calls (k : Nat) (A0 : Option Addr) (c0 : Nat) (l0 : List Int) (r1 : List (S69)) (r2 : Int) (w : World) (hr0 : Kd.C (Kd.int .i64) w A0 l0.length l0) (hc0 : l0.length ≤ c0) (h : wringerref7_Canon.f k l0 = some (r1, r2)) :
    Calls Try.prog 27 #[.slice A0 l0.length c0] w fun e w' => ∃ v0_ : Value, e = .returned (.agg #[v0_, .int .i64 r2]) ∧ Kd.R k69 69 w' w.heap.size (fun _ => True) v0_ r1 ∧ Below w.heap.size w w' := by
  have hu73 := Try.underlying73
  have hu69 := Try.underlying69
  have HR0 := Aside0.mk hr0
  have HC0 := Aside0.mk hc0
  clear hr0 hc0
  have HB := Aside0.mk (Below.refl w.heap.size w)
  have H : ((wringerref7_MayLens.f k l0).bind fun t151 => (if t151 = true then (if 65 ≤ 17592186044416 then (wringerref7_Canon.l0 k l0 (List.replicate 65 z69) 0 0 1) else (none)) else (some (([] : List (S69)), 3)))) = some (r1, r2) := h
  clear h
  replace H := Option.bind_eq_some_iff.mp H
  obtain ⟨t151, A20, H⟩ := H
  replace H : (if t151 = true then (if 65 ≤ 17592186044416 then (wringerref7_Canon.l0 k l0 (List.replicate 65 z69) 0 0 1) else (none)) else (some (([] : List (S69)), 3))) = some (r1, r2) := H
  have A2 := Aside0.mk A20
  clear A20
  by_cases c3 : t151 = true
  · subst c3
    have H1 : (if 65 ≤ 17592186044416 then (wringerref7_Canon.l0 k l0 (List.replicate 65 z69) 0 0 1) else (none)) = some (r1, r2) := by rw [if_pos rfl] at H; exact H
    clear H
    have H := H1
    clear H1
    by_cases c4 : 65 ≤ 17592186044416
    · rw [if_pos c4] at H
      have c4b0 := eq_true c4
      have c4b1 : decide (65 ≤ 17592186044416) = true := decide_eq_true c4
      clear c4
      obtain ⟨y152, hy152⟩ : ∃ y_ : List (S69), y_ = (List.replicate 65 z69) := ⟨_, rfl⟩
      replace H : (wringerref7_Canon.l0 k l0 y152 0 0 1) = some (r1, r2) := by first | (rw [hy152]; with_reducible exact H) | (have H2_ := (Option.bind_some _ _).symm.trans H; rw [hy152]; with_reducible exact H2_) | (have H2_ := (Option.bind_some _ _).symm.trans H; with_reducible exact H2_) | with_reducible exact H | (rw [hy152]; exact H) | exact H
      have Ny152 := Aside0.mk hy152
      clear hy152
      have H' := Aside0.mk H
      clear H
      go_enter Try.func27, Try.ntmps27
      go_wp2_with (first | ((with_reducible refine gate_dst (N := 2) rfl ?_); refine box_event ?hg (N := 2) ?hd (cs := #[.slice none 0 0, .int .i64 0]) (t := 73) ?hr ?_; (case hd => rfl); (case hg => rfl); (case hr => first | (go_simp; done) | (go_simp; rfl)); intro gb150 hg w5 hbox hb; have n0_ := Aside0.mk (below_step (by repeat (first | (with_reducible first | exact HB.out | apply below_alloc | apply pw_below_drewN | apply below_drew1) | exact HB.out)) hb); have n1_ := Aside0.mk (hbox); have n2_ := Aside0.mk ((by rw [hg]; exact (below_size (by repeat (first | (with_reducible first | exact HB.out | apply below_alloc | apply pw_below_drewN | apply below_drew1) | exact HB.out))) : w.heap.size ≤ gb150)); have n3_ := Aside0.mk ((by rw [hg]; exact (below_size (by repeat (first | (with_reducible first | exact HB.out | apply below_alloc | apply pw_below_drewN | apply below_drew1) | exact HB.out))) : w.heap.size ≤ gb150)); clear HB; have HB := n0_; have BK150 := n1_; have GW150 := n2_; have GE150 := n3_; clear n0_ n1_ n2_ n3_; clear hb hbox hg) | ((with_reducible refine gate_callee (f := 50) rfl ?_); refine goesL_ (some 9) rfl rfl Try.func50 (by kernel_rfl) rfl #[.slice A0 l0.length c0] rfl (by (try simp only [List.map_toArray, List.map_cons, List.map_nil]); first | done | rfl | (simp only [List.length_drop, List.length_take]; rfl)) ?_; (with_reducible refine (wringerref7_MayLens.calls k _ _ l0 true _ ?side1 ?side2 A2.out).mono ?_); (case side1 => repeat (first | exact (Kd.C_below HR0.out HB.out) | (with_reducible refine Kd.C_alloc ?_ _) | (with_reducible refine Kd.C_drewN ?_ _) | (with_reducible refine Kd.C_drew ?_))); (case side2 => exact HC0.out); rintro e w' ⟨rfl, ⟨nd, rfl⟩⟩; refine ⟨_, rfl, ?_⟩) | ((with_reducible refine gate_dst (N := 12) rfl ?_); refine Kd.R_make k69 _ 69 rfl (N := 12) rfl 61 _ _ rfl 65 rfl rfl Try.underlying61 (.agg #[(.int .i64 0), (.int .i64 0)]) 16 info69 rfl (by decide) (by omega) z69 (ok := fun _ => True) (okp := fun _ => True) (k69_mkM _ _ _ z69 ) (fun _ hk => hk) trivial (by omega) (by omega) (Below.refl _ _) (Nat.le_refl _) ?_; intro v153 w6 ho7 hb hg_ hnew_; clear hg_ hnew_; (first | rw [← Ny152.out] at ho7 | (simp only [Int.reduceToNat] at ho7; rw [← Ny152.out] at ho7)); have n0_ := Aside0.mk (Kd.R_lower ho7 (below_size (by repeat (first | (with_reducible first | exact HB.out | apply below_alloc | apply pw_below_drewN | apply below_drew1 | refine below_set ?_ GE150.out) | exact HB.out)))); have n1_ := Aside0.mk (blk_below (g := gb150) (o := .cells #[.slice none 0 0, .int .i64 0] 73 (0, 0)) (by (with_reducible repeat (first | refine blk_drewN ?_ _ | refine blk_drew ?_ | refine blk_alloc ?_ _)); exact BK150.out) hb); have n2_ := Aside0.mk (below_step (by repeat (first | (with_reducible first | exact HB.out | apply below_alloc | apply pw_below_drewN | apply below_drew1 | refine below_set ?_ GE150.out) | exact HB.out)) hb); clear BK150; clear HB; have HO154 := n0_; have BK150 := n1_; have HB := n2_; clear n0_ n1_ n2_; clear hb ho7))
      go_loopg [4, 5, 6] k (fun kq v4 v5 v6 w' => ∃ (x3_1 : List (S69)) (x4_1 : Int) (x5_1 : Int) (x6_1 : Int), v4 = .int .i64 x4_1 ∧ v5 = .int .i64 x5_1 ∧ v6 = .int .i64 x6_1 ∧ Aside0 (wringerref7_Canon.l0 kq l0 x3_1 x4_1 x5_1 x6_1 = some (r1, r2)) ∧ Aside0 (kq ≤ k) ∧ Aside0 (Kd.R k69 69 w' w.heap.size (fun _ => True) v153 x3_1) ∧ Aside0 (w'.heap[gb150]? = some (.cells #[(.slice none 0 0), .int .i64 0] 73 (0, 0))) ∧ Aside0 (Below w.heap.size w w'))
      case atStart => exact ⟨(y152), (0), (0), (1), (by first | rfl | (simp; done) | (simp [*]; done)), (by first | rfl | (simp; done) | (simp [*]; done)), (by first | rfl | (simp; done) | (simp [*]; done)), H', ⟨Nat.le_refl _⟩, ⟨by (with_reducible repeat (first | apply Kd.R_alloc | apply Kd.R_drewN | apply Kd.R_drew)); exact HO154.out⟩, ⟨by (with_reducible repeat (first | refine blk_drewN ?_ _ | refine blk_drew ?_ | refine blk_alloc ?_ _)); exact BK150.out⟩, ⟨by repeat (first | (with_reducible first | exact HB.out | apply below_alloc | apply pw_below_drewN | apply below_drew1 | refine below_set ?_ GE150.out) | exact HB.out)⟩⟩
      case round =>
        clear H'
        try clear c2
        try clear p2
        try clear c3
        try clear c4
        try clear c4b0
        try clear c4b1
        try clear c5
        obtain ⟨x3_1, x4_1, x5_1, x6_1, rfl, rfl, rfl, HA, HK1, HO_3, BK150, HB⟩ := hrel
        cases gk with
        | zero => exact absurd HA.out (by simp [wringerref7_Canon.l0])
        | succ k1 =>
          have H := HA.out
          clear HA
          simp only [wringerref7_Canon.l0] at H
          by_cases c8 : x6_1 ≤ 15
          · rw [if_pos c8] at H
            have c8b0 : decide (x6_1 ≤ 15) = true := decide_eq_true c8
            clear c8
            have H' := Aside0.mk H
            clear H
            go_wp2
            go_loopg [4, 5, 7] k1 (fun kq v4 v5 v7 w' => ∃ (x3_2 : List (S69)) (x4_2 : Int) (x5_2 : Int) (x7_2 : Int), v4 = .int .i64 x4_2 ∧ v5 = .int .i64 x5_2 ∧ v7 = .int .i64 x7_2 ∧ Aside0 (wringerref7_Canon.l1 kq l0 x3_2 x4_2 x5_2 x6_1 x7_2 = some (r1, r2)) ∧ Aside0 (kq ≤ k1) ∧ Aside0 (Kd.R k69 69 w' w.heap.size (fun _ => True) v153 x3_2) ∧ Aside0 (w'.heap[gb150]? = some (.cells #[(.slice none 0 0), .int .i64 0] 73 (0, 0))) ∧ Aside0 (Below w.heap.size w w'))
            case atStart => exact ⟨(x3_1), (x4_1), (x5_1), (0), (by first | rfl | (simp; done) | (simp [*]; done)), (by first | rfl | (simp; done) | (simp [*]; done)), (by first | rfl | (simp; done) | (simp [*]; done)), H', ⟨Nat.le_refl _⟩, ⟨by (with_reducible repeat (first | apply Kd.R_alloc | apply Kd.R_drewN | apply Kd.R_drew)); exact HO_3.out⟩, ⟨by (with_reducible repeat (first | refine blk_drewN ?_ _ | refine blk_drew ?_ | refine blk_alloc ?_ _)); exact BK150.out⟩, ⟨by repeat (first | (with_reducible first | exact HB.out | apply below_alloc | apply pw_below_drewN | apply below_drew1 | refine below_set ?_ GE150.out) | exact HB.out)⟩⟩
            case round =>
              clear H'
              try clear c2
              try clear p2
              try clear c3
              try clear c4
              try clear c4b0
              try clear c4b1
              try clear c5
              try clear c8
              try clear c8b0
              try clear p2
              obtain ⟨x3_2, x4_2, x5_2, x7_2, rfl, rfl, rfl, HA, HK2, HO_3, BK150, HB⟩ := hrel
              cases gk with
              | zero => exact absurd HA.out (by simp [wringerref7_Canon.l1])
              | succ k2 =>
                have H := HA.out
                clear HA
                simp only [wringerref7_Canon.l1] at H
                by_cases c9 : x7_2 < (l0.length : Int)
                · rw [if_pos c9] at H
                  have c9b0 : decide (x7_2 < (l0.length : Int)) = true := decide_eq_true c9
                  clear c9
                  by_cases c10 : 0 ≤ x7_2
                  · rw [if_pos c10] at H
                    have c10b0 : decide (0 ≤ x7_2) = true := decide_eq_true c10
                    clear c10
                    by_cases c11 : (rd l0 x7_2) = x6_1
                    · rw [if_pos c11] at H
                      have c11b0 : ((rd l0 x7_2) == x6_1) = true := beq_iff_eq.mpr c11
                      have c11b1 : ((rd l0 x7_2) != x6_1) = false := bne_eq_false_iff_eq.mpr c11
                      clear c11
                      by_cases c12 : x5_2 > 0
                      · rw [if_pos c12] at H
                        have c12b0 : decide (0 < x5_2) = true := decide_eq_true c12
                        clear c12
                        obtain ⟨ji13, hji13⟩ : ∃ j_ : Int, (wrap64 (x6_1 - x5_2)) = j_ := ⟨_, rfl⟩
                        replace H : (if 0 ≤ (ji13) then (if x7_2 < (x3_2.length : Int) then (wringerref7_Canon.l1 k2 l0 (x3_2.set (x7_2 : Int).toNat (⟨shl .i64 (wrap64 (x4_2 + 1)) (ji13), x6_1⟩ : S69)) (shl .i64 (wrap64 (x4_2 + 1)) (ji13)) x6_1 x6_1 (wrap64 (x7_2 + 1))) else (none)) else (none)) = some (r1, r2) := by first | (rw [hji13] at H; exact H) | (simp only [hji13] at H ⊢; exact H)
                        have hji13w : (IntKind.i64.wrap (x6_1 - x5_2)) = ji13 := (i64_w _).trans hji13
                        by_cases c14 : 0 ≤ (ji13)
                        · rw [if_pos c14] at H
                          have c14b0 := eq_true c14
                          have c14b1 : decide (0 ≤ (ji13)) = true := decide_eq_true c14
                          clear c14
                          obtain ⟨ji15, hji15⟩ : ∃ j_ : Int, (shl .i64 (wrap64 (x4_2 + 1)) (ji13)) = j_ := ⟨_, rfl⟩
                          replace H : (if x7_2 < (x3_2.length : Int) then (wringerref7_Canon.l1 k2 l0 (x3_2.set (x7_2 : Int).toNat (⟨ji15, x6_1⟩ : S69)) ji15 x6_1 x6_1 (wrap64 (x7_2 + 1))) else (none)) = some (r1, r2) := by first | (rw [hji15] at H; exact H) | (simp only [hji15] at H ⊢; exact H)
                          have hji15_ : (IntKind.i64.wrap ((wrap64 (x4_2 + 1)) * 2 ^ min (ji13).toNat 64)) = ji15 := hji15
                          have hji15z : (ji13) ≤ 64 → (IntKind.i64.wrap ((wrap64 (x4_2 + 1)) * 2 ^ (ji13).toNat)) = ji15 := shl_small hji15
                          have hji15y : (wrap64 ((wrap64 (x4_2 + 1)) * 2 ^ min (ji13).toNat 64)) = ji15 := (i64_w _).symm.trans hji15_
                          have hji15x : (ji13) ≤ 64 → (wrap64 ((wrap64 (x4_2 + 1)) * 2 ^ (ji13).toNat)) = ji15 := fun h_ => (i64_w _).symm.trans (hji15z h_)
                          by_cases c16 : x7_2 < (x3_2.length : Int)
                          · rw [if_pos c16] at H
                            have c16b0 : decide (x7_2 < (x3_2.length : Int)) = true := decide_eq_true c16
                            clear c16
                            obtain ⟨y156, hy156⟩ : ∃ y_ : List (S69), y_ = (x3_2.set (x7_2 : Int).toNat (⟨ji15, x6_1⟩ : S69)) := ⟨_, rfl⟩
                            replace H : (wringerref7_Canon.l1 k2 l0 y156 ji15 x6_1 x6_1 (wrap64 (x7_2 + 1))) = some (r1, r2) := by first | (rw [hy156]; with_reducible exact H) | (have H2_ := (Option.bind_some _ _).symm.trans H; rw [hy156]; with_reducible exact H2_) | (have H2_ := (Option.bind_some _ _).symm.trans H; with_reducible exact H2_) | with_reducible exact H | (rw [hy156]; exact H) | exact H
                            have Ny156 := Aside0.mk hy156
                            clear hy156
                            have H' := Aside0.mk H
                            clear H
                            have p155 : 0 ≤ (x7_2 : Int) := of_decide_eq_true (by first | (with_reducible assumption) | assumption)
                            have q155 : x7_2 < (l0.length : Int) := of_decide_eq_true (by first | (with_reducible assumption) | assumption)
                            obtain ⟨ad155, e155, hx155_0⟩ := Kd.at_int HR0.out x7_2 p155 q155
                            cases e155
                            replace hx155_0 := (HB.out.cell (World.block_lt_of_cell? w _ hx155_0)).trans hx155_0
                            replace p155 := eq_true p155
                            replace q155 := eq_true q155
                            have p17 : 0 ≤ (x7_2 : Int) := of_decide_eq_true (by first | (with_reducible assumption) | assumption)
                            have q17 : (x7_2 : Int) < ((x3_2.length : Int) : Int) := of_decide_eq_true (by first | (with_reducible assumption) | assumption)
                            obtain ⟨go17, co17, eo17, gb17, gl17, cl17, HG17⟩ := Kd.R_form HO_3.out (by omega)
                            (first | cases eo17 | (injection eo17 with ea_ en_ ec_; (first | subst ea_ | (injection ea_ with ea_; subst ea_)); subst ec_; clear en_))
                            have GB17 := Aside0.mk gb17
                            have GG17 := Aside0.mk HG17
                            clear gb17 gl17 HG17
                            obtain ⟨ce17, hcl17, hM17, hcc17, hfr17⟩ := Kd.R_elem HO_3.out z69 (x7_2 : Int) p17 q17
                            obtain rfl := k69_openM hM17
                            have hx17_0 : wr.cell? ⟨go17, (x7_2 : Int).toNat * 2, none⟩ = some (.int .i64 ((rd_T69 x3_2 x7_2).f0)) := hcc17 0 _ rfl
                            have hx17_1 : wr.cell? ⟨go17, (x7_2 : Int).toNat * 2 + 1, none⟩ = some (.int .i64 ((rd_T69 x3_2 x7_2).f1)) := hcc17 1 _ rfl
                            have hf17_0 : wr.frozen? ⟨go17, (x7_2 : Int).toNat * 2, none⟩ = false := hfr17 0
                            have hf17_1 : wr.frozen? ⟨go17, (x7_2 : Int).toNat * 2 + 1, none⟩ = false := hfr17 1
                            clear hcl17 hcc17 hfr17 hM17
                            replace p17 := eq_true p17
                            replace q17 := eq_true q17
                            have HX18 := Aside0.mk (show Kd.R k69 69 wr w.heap.size (fun _ => True) (.slice (some ⟨go17, 0, none⟩) x3_2.length co17) x3_2 from (by (with_reducible repeat (first | apply Kd.R_alloc | apply Kd.R_drewN | apply Kd.R_drew)); exact HO_3.out))
                            obtain ⟨ce18, hcl18, hM18, hcc18, hfr18⟩ := Kd.R_elem HX18.out z69 (x7_2 : Int) (of_decide_eq_true (by first | (with_reducible assumption) | assumption)) (by have h_ : (x7_2 : Int) < ((x3_2.length : Int) : Int) := of_decide_eq_true (by first | (with_reducible assumption) | assumption); first | exact h_ | (have e_ := (Kd.R_reads' HO_3.out).1; omega) | simpa using h_)
                            obtain rfl := k69_openM hM18
                            have HP18 := Kd.R_seg HX18.out (x7_2 : Int) (of_decide_eq_true (by first | (with_reducible assumption) | assumption)) (by have h_ : (x7_2 : Int) < ((x3_2.length : Int) : Int) := of_decide_eq_true (by first | (with_reducible assumption) | assumption); first | exact h_ | (have e_ := (Kd.R_reads' HO_3.out).1; omega) | simpa using h_) (seg := [.int .i64 ji15, .int .i64 x6_1]) (j := 0) hcl18 hcc18 (show 2 ≤ 2 from by decide) (x' := (⟨ji15, x6_1⟩ : S69)) (k69_mkM _ _ _ (⟨ji15, x6_1⟩ : S69) ) (fun _ hk => hk)
                            have hx18_0 := hcc18 0 _ rfl
                            (try simp only [show (k69).sz = 2 from rfl, Nat.mul_one, Nat.add_zero] at hx18_0)
                            have hf18_0 := hfr18 0
                            (try simp only [show (k69).sz = 2 from rfl, Nat.mul_one, Nat.add_zero] at hf18_0)
                            have hx18_1 := hcc18 1 _ rfl
                            (try simp only [show (k69).sz = 2 from rfl, Nat.mul_one, Nat.add_zero] at hx18_1)
                            have hf18_1 := hfr18 1
                            (try simp only [show (k69).sz = 2 from rfl, Nat.mul_one, Nat.add_zero] at hf18_1)
                            clear hcl18 hcc18 hfr18 hM18
                            go_wp2_with (first | ((with_reducible refine gate_store (t := 69) (p := 43) rfl ?_); refine store_event (t := 69) (p := 43) (v := ?vo_w19) (w1 := ((wr.setCell ⟨go17, (x7_2 : Int).toNat * 2, none⟩ (.int .i64 ji15)).setCell ⟨go17, (x7_2 : Int).toNat * 2 + 1, none⟩ (.int .i64 x6_1))) ?hg ?ho ?hn ?hr ?_; (case ho => rfl); (case hg => rfl); (case hn => rfl); (case hr => first | (go_simp; done) | (go_simp; rfl)); intro w19 hw; have hg : wr.grownBy w19 (some go17) := (by rw [hw]; exact HP18.2); have hp_ : Kd.R k69 69 w19 w.heap.size (fun _ => True) (.slice (some ⟨go17, 0, none⟩) x3_2.length co17) y156 := (by rw [hw, Ny156.out]; exact HP18.1); clear HP18; have n0_ := Aside0.mk (hp_); have n1_ := Aside0.mk (blk_grown (g := gb150) (o := .cells #[.slice none 0 0, .int .i64 0] 73 (0, 0)) (by (with_reducible repeat (first | refine blk_drewN ?_ _ | refine blk_drew ?_ | refine blk_alloc ?_ _)); exact BK150.out) hg (Kd.R_ne HO_3.out BK150.out (by decide))); have n2_ := Aside0.mk ((by rw [hw]; exact below_set (below_set (HB.out) GB17.out) GB17.out : Below w.heap.size w w19)); clear HO_3; clear BK150; clear HB; have HO_3 := n0_; have BK150 := n1_; have HB := n2_; clear n0_ n1_ n2_; clear hg hw hp_))
                            go_roundg k2
                            case measure => have := HK1.out; have := HK2.out; omega
                            case rel => exact ⟨(y156), (ji15), (x6_1), (wrap64 (x7_2 + 1)), (by first | rfl | (simp; done) | (simp only [← hji15] <;> (first | rfl | simp)) | (simp [*]; done)), (by first | rfl | (simp; done) | (simp [*]; done)), (by first | rfl | (simp; done) | (simp [*]; done)), H', ⟨by have := HK1.out; have := HK2.out; omega⟩, ⟨by (with_reducible repeat (first | apply Kd.R_alloc | apply Kd.R_drewN | apply Kd.R_drew)); exact HO_3.out⟩, ⟨by (with_reducible repeat (first | refine blk_drewN ?_ _ | refine blk_drew ?_ | refine blk_alloc ?_ _)); exact BK150.out⟩, ⟨by repeat (first | (with_reducible first | exact HB.out | apply below_alloc | apply pw_below_drewN | apply below_drew1 | refine below_set ?_ GE150.out) | exact HB.out)⟩⟩
                          · rw [if_neg c16] at H
                            exact absurd H (by simp)
                        · rw [if_neg c14] at H
                          exact absurd H (by simp)
                      · rw [if_neg c12] at H
                        have c12b0 : decide (0 < x5_2) = false := decide_eq_false c12
                        clear c12
                        by_cases c20 : x7_2 < (x3_2.length : Int)
                        · rw [if_pos c20] at H
                          have c20b0 : decide (x7_2 < (x3_2.length : Int)) = true := decide_eq_true c20
                          clear c20
                          obtain ⟨y157, hy157⟩ : ∃ y_ : List (S69), y_ = (x3_2.set (x7_2 : Int).toNat (⟨x4_2, x6_1⟩ : S69)) := ⟨_, rfl⟩
                          replace H : (wringerref7_Canon.l1 k2 l0 y157 x4_2 x6_1 x6_1 (wrap64 (x7_2 + 1))) = some (r1, r2) := by first | (rw [hy157]; with_reducible exact H) | (have H2_ := (Option.bind_some _ _).symm.trans H; rw [hy157]; with_reducible exact H2_) | (have H2_ := (Option.bind_some _ _).symm.trans H; with_reducible exact H2_) | with_reducible exact H | (rw [hy157]; exact H) | exact H
                          have Ny157 := Aside0.mk hy157
                          clear hy157
                          have H' := Aside0.mk H
                          clear H
                          have p155 : 0 ≤ (x7_2 : Int) := of_decide_eq_true (by first | (with_reducible assumption) | assumption)
                          have q155 : x7_2 < (l0.length : Int) := of_decide_eq_true (by first | (with_reducible assumption) | assumption)
                          obtain ⟨ad155, e155, hx155_0⟩ := Kd.at_int HR0.out x7_2 p155 q155
                          cases e155
                          replace hx155_0 := (HB.out.cell (World.block_lt_of_cell? w _ hx155_0)).trans hx155_0
                          replace p155 := eq_true p155
                          replace q155 := eq_true q155
                          have p21 : 0 ≤ (x7_2 : Int) := of_decide_eq_true (by first | (with_reducible assumption) | assumption)
                          have q21 : (x7_2 : Int) < ((x3_2.length : Int) : Int) := of_decide_eq_true (by first | (with_reducible assumption) | assumption)
                          obtain ⟨go21, co21, eo21, gb21, gl21, cl21, HG21⟩ := Kd.R_form HO_3.out (by omega)
                          (first | cases eo21 | (injection eo21 with ea_ en_ ec_; (first | subst ea_ | (injection ea_ with ea_; subst ea_)); subst ec_; clear en_))
                          have GB21 := Aside0.mk gb21
                          have GG21 := Aside0.mk HG21
                          clear gb21 gl21 HG21
                          obtain ⟨ce21, hcl21, hM21, hcc21, hfr21⟩ := Kd.R_elem HO_3.out z69 (x7_2 : Int) p21 q21
                          obtain rfl := k69_openM hM21
                          have hx21_0 : wr.cell? ⟨go21, (x7_2 : Int).toNat * 2, none⟩ = some (.int .i64 ((rd_T69 x3_2 x7_2).f0)) := hcc21 0 _ rfl
                          have hx21_1 : wr.cell? ⟨go21, (x7_2 : Int).toNat * 2 + 1, none⟩ = some (.int .i64 ((rd_T69 x3_2 x7_2).f1)) := hcc21 1 _ rfl
                          have hf21_0 : wr.frozen? ⟨go21, (x7_2 : Int).toNat * 2, none⟩ = false := hfr21 0
                          have hf21_1 : wr.frozen? ⟨go21, (x7_2 : Int).toNat * 2 + 1, none⟩ = false := hfr21 1
                          clear hcl21 hcc21 hfr21 hM21
                          replace p21 := eq_true p21
                          replace q21 := eq_true q21
                          have HX22 := Aside0.mk (show Kd.R k69 69 wr w.heap.size (fun _ => True) (.slice (some ⟨go21, 0, none⟩) x3_2.length co21) x3_2 from (by (with_reducible repeat (first | apply Kd.R_alloc | apply Kd.R_drewN | apply Kd.R_drew)); exact HO_3.out))
                          obtain ⟨ce22, hcl22, hM22, hcc22, hfr22⟩ := Kd.R_elem HX22.out z69 (x7_2 : Int) (of_decide_eq_true (by first | (with_reducible assumption) | assumption)) (by have h_ : (x7_2 : Int) < ((x3_2.length : Int) : Int) := of_decide_eq_true (by first | (with_reducible assumption) | assumption); first | exact h_ | (have e_ := (Kd.R_reads' HO_3.out).1; omega) | simpa using h_)
                          obtain rfl := k69_openM hM22
                          have HP22 := Kd.R_seg HX22.out (x7_2 : Int) (of_decide_eq_true (by first | (with_reducible assumption) | assumption)) (by have h_ : (x7_2 : Int) < ((x3_2.length : Int) : Int) := of_decide_eq_true (by first | (with_reducible assumption) | assumption); first | exact h_ | (have e_ := (Kd.R_reads' HO_3.out).1; omega) | simpa using h_) (seg := [.int .i64 x4_2, .int .i64 x6_1]) (j := 0) hcl22 hcc22 (show 2 ≤ 2 from by decide) (x' := (⟨x4_2, x6_1⟩ : S69)) (k69_mkM _ _ _ (⟨x4_2, x6_1⟩ : S69) ) (fun _ hk => hk)
                          have hx22_0 := hcc22 0 _ rfl
                          (try simp only [show (k69).sz = 2 from rfl, Nat.mul_one, Nat.add_zero] at hx22_0)
                          have hf22_0 := hfr22 0
                          (try simp only [show (k69).sz = 2 from rfl, Nat.mul_one, Nat.add_zero] at hf22_0)
                          have hx22_1 := hcc22 1 _ rfl
                          (try simp only [show (k69).sz = 2 from rfl, Nat.mul_one, Nat.add_zero] at hx22_1)
                          have hf22_1 := hfr22 1
                          (try simp only [show (k69).sz = 2 from rfl, Nat.mul_one, Nat.add_zero] at hf22_1)
                          clear hcl22 hcc22 hfr22 hM22
                          go_wp2_with (first | ((with_reducible refine gate_store (t := 69) (p := 43) rfl ?_); refine store_event (t := 69) (p := 43) (v := ?vo_w23) (w1 := ((wr.setCell ⟨go21, (x7_2 : Int).toNat * 2, none⟩ (.int .i64 x4_2)).setCell ⟨go21, (x7_2 : Int).toNat * 2 + 1, none⟩ (.int .i64 x6_1))) ?hg ?ho ?hn ?hr ?_; (case ho => rfl); (case hg => rfl); (case hn => rfl); (case hr => first | (go_simp; done) | (go_simp; rfl)); intro w23 hw; have hg : wr.grownBy w23 (some go21) := (by rw [hw]; exact HP22.2); have hp_ : Kd.R k69 69 w23 w.heap.size (fun _ => True) (.slice (some ⟨go21, 0, none⟩) x3_2.length co21) y157 := (by rw [hw, Ny157.out]; exact HP22.1); clear HP22; have n0_ := Aside0.mk (hp_); have n1_ := Aside0.mk (blk_grown (g := gb150) (o := .cells #[.slice none 0 0, .int .i64 0] 73 (0, 0)) (by (with_reducible repeat (first | refine blk_drewN ?_ _ | refine blk_drew ?_ | refine blk_alloc ?_ _)); exact BK150.out) hg (Kd.R_ne HO_3.out BK150.out (by decide))); have n2_ := Aside0.mk ((by rw [hw]; exact below_set (below_set (HB.out) GB21.out) GB21.out : Below w.heap.size w w23)); clear HO_3; clear BK150; clear HB; have HO_3 := n0_; have BK150 := n1_; have HB := n2_; clear n0_ n1_ n2_; clear hg hw hp_))
                          go_roundg k2
                          case measure => have := HK1.out; have := HK2.out; omega
                          case rel => exact ⟨(y157), (x4_2), (x6_1), (wrap64 (x7_2 + 1)), (by first | rfl | (simp; done) | (simp [*]; done)), (by first | rfl | (simp; done) | (simp [*]; done)), (by first | rfl | (simp; done) | (simp [*]; done)), H', ⟨by have := HK1.out; have := HK2.out; omega⟩, ⟨by (with_reducible repeat (first | apply Kd.R_alloc | apply Kd.R_drewN | apply Kd.R_drew)); exact HO_3.out⟩, ⟨by (with_reducible repeat (first | refine blk_drewN ?_ _ | refine blk_drew ?_ | refine blk_alloc ?_ _)); exact BK150.out⟩, ⟨by repeat (first | (with_reducible first | exact HB.out | apply below_alloc | apply pw_below_drewN | apply below_drew1 | refine below_set ?_ GE150.out) | exact HB.out)⟩⟩
                        · rw [if_neg c20] at H
                          exact absurd H (by simp)
                    · rw [if_neg c11] at H
                      have c11b0 : ((rd l0 x7_2) == x6_1) = false := beq_eq_false_iff_ne.mpr c11
                      have c11b1 : ((rd l0 x7_2) != x6_1) = true := bne_iff_ne.mpr c11
                      have H' := Aside0.mk H
                      clear H
                      have p155 : 0 ≤ (x7_2 : Int) := of_decide_eq_true (by first | (with_reducible assumption) | assumption)
                      have q155 : x7_2 < (l0.length : Int) := of_decide_eq_true (by first | (with_reducible assumption) | assumption)
                      obtain ⟨ad155, e155, hx155_0⟩ := Kd.at_int HR0.out x7_2 p155 q155
                      cases e155
                      replace hx155_0 := (HB.out.cell (World.block_lt_of_cell? w _ hx155_0)).trans hx155_0
                      replace p155 := eq_true p155
                      replace q155 := eq_true q155
                      go_wp2
                      go_roundg k2
                      case measure => have := HK1.out; have := HK2.out; omega
                      case rel => exact ⟨(x3_2), (x4_2), (x5_2), (wrap64 (x7_2 + 1)), (by first | rfl | (simp; done) | (simp [*]; done)), (by first | rfl | (simp; done) | (simp [*]; done)), (by first | rfl | (simp; done) | (simp [*]; done)), H', ⟨by have := HK1.out; have := HK2.out; omega⟩, ⟨by (with_reducible repeat (first | apply Kd.R_alloc | apply Kd.R_drewN | apply Kd.R_drew)); exact HO_3.out⟩, ⟨by (with_reducible repeat (first | refine blk_drewN ?_ _ | refine blk_drew ?_ | refine blk_alloc ?_ _)); exact BK150.out⟩, ⟨by repeat (first | (with_reducible first | exact HB.out | apply below_alloc | apply pw_below_drewN | apply below_drew1 | refine below_set ?_ GE150.out) | exact HB.out)⟩⟩
                  · rw [if_neg c10] at H
                    exact absurd H (by simp)
                · rw [if_neg c9] at H
                  have c9b0 : decide (x7_2 < (l0.length : Int)) = false := decide_eq_false c9
                  clear c9
                  have H' := Aside0.mk H
                  clear H
                  go_wp2
                  go_roundg k2
                  case measure => have := HK1.out; have := HK2.out; omega
                  case rel => exact ⟨(x3_2), (x4_2), (x5_2), (wrap64 (x6_1 + 1)), (by first | rfl | (simp; done) | (simp [*]; done)), (by first | rfl | (simp; done) | (simp [*]; done)), (by first | rfl | (simp; done) | (simp [*]; done)), H', ⟨by have := HK1.out; have := HK2.out; omega⟩, ⟨by (with_reducible repeat (first | apply Kd.R_alloc | apply Kd.R_drewN | apply Kd.R_drew)); exact HO_3.out⟩, ⟨by (with_reducible repeat (first | refine blk_drewN ?_ _ | refine blk_drew ?_ | refine blk_alloc ?_ _)); exact BK150.out⟩, ⟨by repeat (first | (with_reducible first | exact HB.out | apply below_alloc | apply pw_below_drewN | apply below_drew1 | refine below_set ?_ GE150.out) | exact HB.out)⟩⟩
          · rw [if_neg c8] at H
            have c8b0 : decide (x6_1 ≤ 15) = false := decide_eq_false c8
            clear c8
            simp only [Option.some.injEq, Prod.mk.injEq] at H
            obtain ⟨rfl, rfl⟩ := H
            obtain ⟨Ao24, co24, eo24⟩ := Kd.R_slice HO_3.out
            subst eo24
            have hcz25_0 : wr.cell? ⟨gb150, 0, none⟩ = some (.slice none 0 0) := (blk_cell BK150.out 0).trans rfl
            have hcz25_1 : wr.cell? ⟨gb150, 1, none⟩ = some (.int .i64 0) := (blk_cell BK150.out 1).trans rfl
            have hfz25_0 := blk_frozen BK150.out 0
            have hfz25_1 := blk_frozen BK150.out 1
            go_wp2
            refine bodyPost_ret (results_cell_row rfl _ _ gb150 73 #[.slice Ao24 x3_1.length co24, .int .i64 0] (0, 0) _ rfl (by (with_reducible repeat (first | refine blk_drewN ?_ _ | refine blk_drew ?_ | refine blk_alloc ?_ _)); refine blk_put (cs := #[.slice Ao24 x3_1.length co24, .int .i64 0]) ?_ 1 _ rfl; (with_reducible repeat (first | refine blk_drewN ?_ _ | refine blk_drew ?_ | refine blk_alloc ?_ _)); refine blk_put (cs := #[.slice none 0 0, .int .i64 0]) ?_ 0 _ rfl; (with_reducible repeat (first | refine blk_drewN ?_ _ | refine blk_drew ?_ | refine blk_alloc ?_ _)); exact BK150.out) Try.underlying73 rfl (by kernel_rfl)) rfl ?_
            exact ⟨_, by first | rfl | (simp [errW_none, errW_some] <;> rfl) | (simp [*, errW_none, errW_some] <;> rfl), by (with_reducible repeat (first | apply Kd.R_alloc | apply Kd.R_drewN | apply Kd.R_drew)); exact Kd.R_mono (Kd.R_far (p := ⟨gb150, 1, none⟩) (Kd.R_far (p := ⟨gb150, 0, none⟩) (Kd.R_types HO_3.out BK150.out (by decide)) (fun _ hk => hk.2) (.slice Ao24 x3_1.length co24)) (fun _ hk => hk.2) (.int .i64 0)) (fun _ hk => trivial), by repeat (first | (with_reducible first | exact HB.out | apply below_alloc | apply pw_below_drewN | apply below_drew1 | refine below_set ?_ GE150.out) | exact HB.out)⟩
    · rw [if_neg c4] at H
      exact absurd H (by simp)
  · replace c3 := Bool.eq_false_iff.mpr c3
    subst c3
    have H1 : (some (([] : List (S69)), 3)) = some (r1, r2) := by rw [if_neg (show ¬ (false = true) by decide)] at H; exact H
    clear H
    have H := H1
    clear H1
    simp only [Option.some.injEq, Prod.mk.injEq] at H
    obtain ⟨rfl, rfl⟩ := H
    go_enter Try.func27, Try.ntmps27
    go_wp2_with (first | ((with_reducible refine gate_dst (N := 2) rfl ?_); refine box_event ?hg (N := 2) ?hd (cs := #[.slice none 0 0, .int .i64 0]) (t := 73) ?hr ?_; (case hd => rfl); (case hg => rfl); (case hr => first | (go_simp; done) | (go_simp; rfl)); intro gb150 hg w26 hbox hb; have n0_ := Aside0.mk (below_step (by repeat (first | (with_reducible first | exact HB.out | apply below_alloc | apply pw_below_drewN | apply below_drew1) | exact HB.out)) hb); have n1_ := Aside0.mk (hbox); have n2_ := Aside0.mk ((by rw [hg]; exact (below_size (by repeat (first | (with_reducible first | exact HB.out | apply below_alloc | apply pw_below_drewN | apply below_drew1) | exact HB.out))) : w.heap.size ≤ gb150)); have n3_ := Aside0.mk ((by rw [hg]; exact (below_size (by repeat (first | (with_reducible first | exact HB.out | apply below_alloc | apply pw_below_drewN | apply below_drew1) | exact HB.out))) : w.heap.size ≤ gb150)); clear HB; have HB := n0_; have BK150 := n1_; have GW150 := n2_; have GE150 := n3_; clear n0_ n1_ n2_ n3_; clear hb hbox hg) | ((with_reducible refine gate_callee (f := 50) rfl ?_); refine goesL_ (some 9) rfl rfl Try.func50 (by kernel_rfl) rfl #[.slice A0 l0.length c0] rfl (by (try simp only [List.map_toArray, List.map_cons, List.map_nil]); first | done | rfl | (simp only [List.length_drop, List.length_take]; rfl)) ?_; (with_reducible refine (wringerref7_MayLens.calls k _ _ l0 false _ ?side1 ?side2 A2.out).mono ?_); (case side1 => repeat (first | exact (Kd.C_below HR0.out HB.out) | (with_reducible refine Kd.C_alloc ?_ _) | (with_reducible refine Kd.C_drewN ?_ _) | (with_reducible refine Kd.C_drew ?_))); (case side2 => exact HC0.out); rintro e w' ⟨rfl, ⟨nd, rfl⟩⟩; refine ⟨_, rfl, ?_⟩; (try (rw [drewN_self w26]; generalize hq_ : World.drewN w26 _ = w26; have n0_ : Aside0 (w26.heap[gb150]? = some (.cells #[.slice none 0 0, .int .i64 0] 73 (0, 0))) := ⟨by rw [← hq_]; exact (by (with_reducible repeat (first | refine blk_drewN ?_ _ | refine blk_drew ?_ | refine blk_alloc ?_ _)); exact BK150.out)⟩; have n1_ : Aside0 (Below w.heap.size w w26) := ⟨by rw [← hq_]; exact (by repeat (first | (with_reducible first | exact HB.out | apply below_alloc | apply pw_below_drewN | apply below_drew1 | refine below_set ?_ GE150.out) | exact HB.out))⟩; clear BK150 HB hq_; have BK150 := n0_; have HB := n1_; clear n0_ n1_)); have hcz27_0 : w26.cell? ⟨gb150, 0, none⟩ = some (.slice none 0 0) := (blk_cell BK150.out 0).trans rfl; have hcz27_1 : w26.cell? ⟨gb150, 1, none⟩ = some (.int .i64 0) := (blk_cell BK150.out 1).trans rfl; have hfz27_0 := blk_frozen BK150.out 0; have hfz27_1 := blk_frozen BK150.out 1))
    refine bodyPost_ret (results_cell_row rfl _ _ gb150 73 #[.slice none 0 0, .int .i64 3] (0, 0) _ rfl (by (with_reducible repeat (first | refine blk_drewN ?_ _ | refine blk_drew ?_ | refine blk_alloc ?_ _)); refine blk_put (cs := #[.slice none 0 0, .int .i64 0]) ?_ 1 _ rfl; (with_reducible repeat (first | refine blk_drewN ?_ _ | refine blk_drew ?_ | refine blk_alloc ?_ _)); refine blk_put (cs := #[.slice none 0 0, .int .i64 0]) ?_ 0 _ rfl; (with_reducible repeat (first | refine blk_drewN ?_ _ | refine blk_drew ?_ | refine blk_alloc ?_ _)); exact BK150.out) Try.underlying73 rfl (by kernel_rfl)) rfl ?_
    exact ⟨_, by first | rfl | (simp [errW_none, errW_some] <;> rfl) | (simp [*, errW_none, errW_some] <;> rfl), by first | exact Kd.R_nil _ _ _ _ _ | exact Kd.N_nil _ _ _ _ _ | exact Kd.V_nil _ _ _ _ _ | exact Kd.Q_nil _ _ _ _ _ | exact Kd.S_nil _ _ _ _ _, by repeat (first | (with_reducible first | exact HB.out | apply below_alloc | apply pw_below_drewN | apply below_drew1 | refine below_set ?_ GE150.out) | exact HB.out)⟩

end Go.Proofs.Ytnakjencodicmaa.PA

-- ---- Cq
/- The document's codes: what the print's function comes to. No program in sight. -/
namespace Go.Proofs.Ytnakjencodicmaa.PA
set_option maxRecDepth 100000
set_option linter.unusedVariables false
set_option linter.unusedSimpArgs false
open Go.RowKit Go.Proofs.YtnakjencodicmaaW.PrintWords Go.Proofs.YtnakjencodicmaaW.PrintLast Go.Proofs.YtnakjencodicmaaW.PrintMore Dp Cd

abbrev CodeS := S69
theorem shl_pow (x d : Nat) (h : (x + 1) * 2 ^ d ≤ 32768) (hd : d ≤ 15) : shl .i64 (wrap64 ((x : Int) + 1)) (d : Int) = (((x + 1) * 2 ^ d : Nat) : Int) := by
  have h1 : 1 ≤ 2 ^ d := Nat.pow_pos (by decide)
  have h2 : (x + 1) * 1 ≤ (x + 1) * 2 ^ d := Nat.mul_le_mul_left _ h1
  rw [w64 (by omega) (by omega), show ((x : Int) + 1) = ((x + 1 : Nat) : Int) by omega, shl_nat (x + 1) d (by omega) (by omega)]
theorem map_set {α β : Type} (f : α → β) (l : List α) (i : Nat) (a : α) : (l.map f).set i (f a) = (l.set i a).map f := by rw [List.map_set]

/-- One length's round, from a place on. -/
theorem canon_l1 (l : List Int) (h65 : l.length = 65) (hm : mayL l = true) (n : Nat) (h1 : 1 ≤ n) (h15 : n ≤ 15) (R : List CodeS × Int)
    (hnext : Ev (fun k => wringerref7_Canon.l0 k l ((cst l (dn l (n + 1) 0)).1.map codeS) ((cst l (dn l (n + 1) 0)).2.1 : Int) ((cst l (dn l (n + 1) 0)).2.2 : Int) ((n + 1 : Nat) : Int)) R) :
    ∀ (d i : Nat), i + d = 65 → Ev (fun k => wringerref7_Canon.l1 k l ((cst l (dn l n i)).1.map codeS) ((cst l (dn l n i)).2.1 : Int) ((cst l (dn l n i)).2.2 : Int) (n : Int) (i : Int)) R := by
  intro d
  induction d with
  | zero =>
    intro i hi
    have e : i = 65 := by omega
    subst e
    rw [← h65, ← dn_next l n h1]
    refine Ev.step (f := fun k => wringerref7_Canon.l0 k l ((cst l (dn l (n + 1) 0)).1.map codeS) ((cst l (dn l (n + 1) 0)).2.1 : Int) ((cst l (dn l (n + 1) 0)).2.2 : Int) ((n + 1 : Nat) : Int)) (fun k => ?_) hnext
    simp only [wringerref7_Canon.l1]
    rw [if_neg (by omega), w64 (by omega) (by omega)]; rfl
  | succ d ih =>
    intro i hi
    have ih2 := ih (i + 1) (by omega)
    rw [dn_step] at ih2
    by_cases hn : l.getD i 0 = (n : Int)
    · rw [if_pos hn, cst_snoc] at ih2
      have hsub : (dn l n (i + 1)).Sublist (ordS l) := dn_sub l n (i + 1) h1 h15 (by omega)
      rw [dn_step, if_pos hn] at hsub
      have hso := (sorted_ordS l).sublist hsub
      have hmem : ∀ a ∈ dn l n i ++ [i], 1 ≤ l.getD a 0 ∧ l.getD a 0 ≤ 15 := fun a ha => (mem_ordS.1 (hsub.subset ha)).2
      have hso2 := List.pairwise_append.1 hso
      have hinv := cst_inv l (dn l n i) (hso2.1.imp fun {a b} h => by omega) (fun a ha => hmem a (List.mem_append_left _ ha))
      have hle := hinv.2 (n : Int) (fun a ha => by have := hso2.2.2 a ha i (by simp); omega)
      have hkd := kd_sub l hsub
      have hx15 : ∀ x ∈ l, x ≤ 15 := fun x hx => ((may_range hm).2 x hx).2
      rw [kd_all l hx15, kd_append] at hkd
      have hks := ks_le hm
      have hk1 : kd l [i] = 2 ^ (15 - n) := by unfold kd; rw [List.map_cons, List.map_nil, List.sum_cons, List.sum_nil, hn, Int.toNat_natCast, Nat.add_zero]
      have hinv2 := inv_nx (n := n) hinv.1 h1 h15 (by omega)
      have hz := cst_zero l (dn l n i) (fun c hc => (hmem c (List.mem_append_left _ hc)).1)
      obtain ⟨out, hout⟩ : ∃ out, out = (cst l (dn l n i)).1 := ⟨_, rfl⟩
      obtain ⟨st, hst⟩ : ∃ st, st = (cst l (dn l n i)).2 := ⟨_, rfl⟩
      have hol : out.length = 65 := by rw [hout]; exact length_cst l _
      have hcs : cstep l (cst l (dn l n i)) i = (out.set i (((nx st n).1 : Int), (n : Int)), nx st n) := by
        unfold cstep; rw [hn, Int.toNat_natCast, ← hst, ← hout]
        have : (nx st n).2 = n := by unfold nx; split <;> rfl
        rw [this]
      rw [hcs] at ih2
      rw [← hst, ← hout]
      rw [← hst] at hz hle hinv2
      simp only at ih2
      have hn2 : (nx st n).2 = n := by unfold nx; split <;> rfl
      refine Ev.step (f := fun k => wringerref7_Canon.l1 k l ((out.set i (((nx st n).1 : Int), (n : Int))).map codeS) ((nx st n).1 : Int) ((nx st n).2 : Int) (n : Int) ((i + 1 : Nat) : Int)) (fun k => ?_) ih2
      rw [hn2, ← map_set]
      have ew : wrap64 ((i : Int) + 1) = ((i + 1 : Nat) : Int) := by rw [w64 (by omega) (by omega)]; rfl
      simp only [wringerref7_Canon.l1, rd_nat, ew, Int.toNat_natCast, List.length_map]
      clear ih ih2 hsub hso hso2 hinv hmem hx15 ew hcs hnext
      rw [if_pos (by omega), if_pos (by omega), if_pos hn]
      by_cases hs0 : st.2 = 0
      · have hx : (nx st n).1 = 0 := by unfold nx; rw [if_pos hs0]
        rw [if_neg (by omega), if_pos (by omega), hz hs0, hx]; rfl
      · have hx : (nx st n).1 = (st.1 + 1) * 2 ^ (n - st.2) := by unfold nx; rw [if_neg hs0]
        have hb : (nx st n).1 + 1 ≤ 32768 := by
          rcases hinv2 with ⟨h0, _⟩ | ⟨_, _, h2⟩
          · omega
          · have h3 : 1 ≤ 2 ^ (15 - (nx st n).2) := Nat.pow_pos (by decide)
            have h4 : ((nx st n).1 + 1) * 1 ≤ ((nx st n).1 + 1) * 2 ^ (15 - (nx st n).2) := Nat.mul_le_mul_left _ h3
            omega
        have ed : wrap64 ((n : Int) - (st.2 : Int)) = ((n - st.2 : Nat) : Int) := by rw [w64 (by omega) (by omega)]; omega
        have es := shl_pow st.1 (n - st.2) (by rw [← hx]; omega) (by omega)
        rw [if_pos (by omega), ed, es, ← hx]
        rw [if_pos (by omega), if_pos (by omega)]; rfl
    · rw [if_neg hn, List.append_nil] at ih2
      refine Ev.step (f := fun k => wringerref7_Canon.l1 k l ((cst l (dn l n i)).1.map codeS) ((cst l (dn l n i)).2.1 : Int) ((cst l (dn l n i)).2.2 : Int) (n : Int) ((i + 1 : Nat) : Int)) (fun k => ?_) ih2
      simp only [wringerref7_Canon.l1, rd_nat]
      rw [if_pos (by omega), if_pos (by omega), if_neg hn, w64 (by omega) (by omega)]; rfl
theorem canon_l0 (l : List Int) (h65 : l.length = 65) (hm : mayL l = true) : ∀ (d n : Nat), n + d = 16 → 1 ≤ n →
    Ev (fun k => wringerref7_Canon.l0 k l ((cst l (dn l n 0)).1.map codeS) ((cst l (dn l n 0)).2.1 : Int) ((cst l (dn l n 0)).2.2 : Int) (n : Int)) ((codeL l).map codeS, 0) := by
  intro d
  induction d with
  | zero =>
    intro n hn _
    have e : n = 16 := by omega
    subst e
    refine Ev.step (f := fun _ => some ((codeL l).map codeS, 0)) (fun k => ?_) (Ev.now _)
    simp only [wringerref7_Canon.l0]
    rw [if_neg (by omega), dn_last]; rfl
  | succ d ih =>
    intro n hn h1
    refine Ev.step (f := fun k => wringerref7_Canon.l1 k l ((cst l (dn l n 0)).1.map codeS) ((cst l (dn l n 0)).2.1 : Int) ((cst l (dn l n 0)).2.2 : Int) (n : Int) ((0 : Nat) : Int)) (fun k => ?_)
      (canon_l1 l h65 hm n h1 (by omega) _ (ih (n + 1) (by omega) (by omega)) 65 0 (by omega))
    simp only [wringerref7_Canon.l0]
    rw [if_pos (by omega)]; rfl
theorem rcanon_is (l : List Int) : Ev (fun k => wringerref7_Canon.f k l) (codesE l) := by
  unfold wringerref7_Canon.f
  refine Ev.bind (rmay_is l) ?_
  unfold codesE
  cases hm : mayL l with
  | false => exact Ev.ite_neg (by simp) (Ev.ofSome (by rw [if_neg (by simp)]))
  | true =>
    refine Ev.ite_pos rfl (Ev.ite_pos (by decide) ?_)
    rw [if_pos rfl]
    have h65 := (may_range hm).1
    have := canon_l0 l h65 hm 15 1 (by omega) (by omega)
    rw [dn_first] at this
    exact this
end Go.Proofs.Ytnakjencodicmaa.PA

-- ---- Ja
/- Parts by codes: what is put, and what is got of bits. Plain facts; no program in sight. -/
namespace Go.Proofs.Ytnakjencodicmaa.Hu
set_option maxRecDepth 100000
set_option linter.unusedSimpArgs false
set_option linter.unusedVariables false
open Ol Dp Cd Bits

/-- A class' code: its bits, how many. -/
def cdB (L : List Int) (c : Nat) : Nat := ((codeL L).getD c (0, 0)).1.toNat
def cdN (L : List Int) (c : Nat) : Nat := (L.getD c 0).toNat
theorem cd_all {L : List Int} (hm : mayL L = true) (c : Nat) (hc : c < 65) : cdN L c ≤ 15 ∧ cdB L c < 2 ^ cdN L c ∧ L.getD c 0 = (cdN L c : Int) ∧ (codeL L).getD c (0, 0) = ((cdB L c : Int), (cdN L c : Int)) ∧
    (1 ≤ cdN L c → cdB L c * 2 ^ (15 - cdN L c) = kd L (dn L (cdN L c) c)) := by
  obtain ⟨n, b, h1, h2, h3, h4, h5⟩ := code_all hm c hc
  have e1 : cdN L c = n := by unfold cdN; rw [h1]; exact Int.toNat_natCast n
  have e2 : cdB L c = b := by unfold cdB; rw [h3]; exact Int.toNat_natCast b
  rw [e1, e2]
  exact ⟨h2, h4, h1, h3, h5⟩
theorem cd_apart {L : List Int} (hm : mayL L = true) {i j : Nat} (hi : i < 65) (hj : j < 65) (hij : i ≠ j) (h1 : 1 ≤ cdN L i) (hnm : cdN L i ≤ cdN L j) : cdB L j / 2 ^ (cdN L j - cdN L i) ≠ cdB L i := by
  obtain ⟨a1, a2, a3, a4, a5⟩ := cd_all hm i hi
  obtain ⟨b1, b2, b3, b4, b5⟩ := cd_all hm j hj
  exact code_apart hm hi hj hij a3 b3 h1 hnm b1 (a5 h1) (b5 (by omega))

/-- The class of a code, if there is one. -/
def findC (L : List Int) (v n : Nat) : Option Nat := (List.range 65).find? fun c => decide (1 ≤ n ∧ cdN L c = n ∧ cdB L c = v)
/-- Does a code begin so? -/
def begC (L : List Int) (v n : Nat) : Bool := (List.range 65).any fun c => decide (n ≤ cdN L c ∧ cdB L c / 2 ^ (cdN L c - n) = v)
theorem findC_some {L : List Int} {v n c : Nat} (h : findC L v n = some c) : c < 65 ∧ 1 ≤ n ∧ cdN L c = n ∧ cdB L c = v := by
  have h1 := List.mem_of_find?_eq_some h
  have h2 := List.find?_some h
  rw [decide_eq_true_eq] at h2
  exact ⟨List.mem_range.1 h1, h2⟩
theorem findC_none {L : List Int} {v n : Nat} (h : findC L v n = none) (c : Nat) (hc : c < 65) (h1 : 1 ≤ n) (hn : cdN L c = n) : cdB L c ≠ v := by
  intro hv
  have h2 := List.find?_eq_none.1 h c (List.mem_range.2 hc)
  exact h2 (by rw [decide_eq_true_eq]; exact ⟨h1, hn, hv⟩)
theorem findC_at {L : List Int} (hm : mayL L = true) {c : Nat} (hc : c < 65) (h1 : 1 ≤ cdN L c) : findC L (cdB L c) (cdN L c) = some c := by
  cases h : findC L (cdB L c) (cdN L c) with
  | none => exact absurd rfl (findC_none h c hc h1 rfl)
  | some d =>
    obtain ⟨a1, a2, a3, a4⟩ := findC_some h
    by_cases e : d = c
    · rw [e]
    · have := cd_apart hm a1 hc e (by omega) (by omega)
      rw [a3, Nat.sub_self, Nat.pow_zero, Nat.div_one] at this
      exact absurd a4.symm this
theorem begC_iff {L : List Int} {v n : Nat} : begC L v n = true ↔ ∃ c, c < 65 ∧ n ≤ cdN L c ∧ cdB L c / 2 ^ (cdN L c - n) = v := by
  unfold begC
  rw [List.any_eq_true]
  constructor
  · rintro ⟨c, h1, h2⟩
    rw [decide_eq_true_eq] at h2
    exact ⟨c, List.mem_range.1 h1, h2⟩
  · rintro ⟨c, h1, h2⟩
    exact ⟨c, List.mem_range.2 h1, by rw [decide_eq_true_eq]; exact h2⟩

/-- No code is told by these bits yet. -/
def NoPre (L : List Int) (v n : Nat) : Prop := ∀ c, c < 65 → 1 ≤ cdN L c → cdN L c ≤ n → cdB L c ≠ v / 2 ^ (n - cdN L c)
theorem noPre_zero (L : List Int) : NoPre L 0 0 := fun c _ h1 h2 => by omega
theorem half_pow (v b k : Nat) (hb : b < 2) : (2 * v + b) / 2 ^ (k + 1) = v / 2 ^ k := by
  rw [Nat.pow_succ, Nat.mul_comm (2 ^ k) 2, ← Nat.div_div_eq_div_mul]
  congr 1; omega
theorem noPre_next {L : List Int} {v n b : Nat} (h : NoPre L v n) (hb : b < 2) (hf : findC L (2 * v + b) (n + 1) = none) : NoPre L (2 * v + b) (n + 1) := by
  intro c hc h1 h2
  by_cases e : cdN L c = n + 1
  · rw [e, Nat.sub_self, Nat.pow_zero, Nat.div_one]
    exact findC_none hf c hc (by omega) e
  · rw [show n + 1 - cdN L c = (n - cdN L c) + 1 by omega, half_pow v b _ hb]
    exact h c hc h1 (by omega)

theorem tile_in (L : List Int) (x n : Nat) (hlo : ¬ x < kd L (dn L n 0)) : ∀ i, x < kd L (dn L n i) → ∃ c, c < i ∧ L.getD c 0 = (n : Int) ∧ kd L (dn L n c) ≤ x ∧ x < kd L (dn L n c) + 2 ^ (15 - n) := by
  intro i
  induction i with
  | zero => intro h; exact absurd h hlo
  | succ i ih =>
    intro h
    by_cases hlt : x < kd L (dn L n i)
    · obtain ⟨c, h1, h2⟩ := ih hlt
      exact ⟨c, by omega, h2⟩
    · rw [dn_step] at h
      by_cases hn : L.getD i 0 = (n : Int)
      · rw [if_pos hn, kd_append] at h
        have e : kd L [i] = 2 ^ (15 - n) := by unfold kd; rw [List.map_cons, List.map_nil, List.sum_cons, List.sum_nil, hn, Int.toNat_natCast, Nat.add_zero]
        rw [e] at h
        exact ⟨i, by omega, hn, by omega, h⟩
      · rw [if_neg hn, List.append_nil] at h
        exact absurd h hlt
theorem tile (L : List Int) (x : Nat) : ∀ n, x < kd L (dn L (n + 1) 0) → ∃ m c, 1 ≤ m ∧ m ≤ n ∧ c < L.length ∧ L.getD c 0 = (m : Int) ∧ kd L (dn L m c) ≤ x ∧ x < kd L (dn L m c) + 2 ^ (15 - m) := by
  intro n
  induction n with
  | zero => intro h; rw [dn_first] at h; simp [kd] at h
  | succ n ih =>
    intro h
    by_cases hlt : x < kd L (dn L (n + 1) 0)
    · obtain ⟨m, c, h1, h2, h3⟩ := ih hlt
      exact ⟨m, c, h1, by omega, h3⟩
    · rw [dn_next L (n + 1) (by omega)] at h
      obtain ⟨c, h1, h2⟩ := tile_in L x (n + 1) hlt _ h
      exact ⟨n + 1, c, by omega, by omega, h1, h2⟩
/-- Where all is filled, whatever bits tell no code begin one. -/
theorem full {L : List Int} (hm : mayL L = true) (hk : ks L = 32768) {v n : Nat} (hn : n ≤ 15) (hv : v < 2 ^ n) (hp : NoPre L v n) : begC L v n = true := by
  obtain ⟨h65, hr⟩ := may_range hm
  have hx15 : ∀ x ∈ L, x ≤ 15 := fun x hx => (hr x hx).2
  have hall : kd L (dn L (15 + 1) 0) = 32768 := by rw [dn_last, kd_all L hx15, hk]
  have hp0 : 0 < 2 ^ (15 - n) := Nat.pow_pos (by decide)
  have hx : v * 2 ^ (15 - n) < 32768 := by
    have e : 2 ^ n * 2 ^ (15 - n) = 32768 := by rw [← Nat.pow_add, show n + (15 - n) = 15 by omega]
    rw [← e]; exact Nat.mul_lt_mul_of_pos_right hv hp0
  obtain ⟨m, c, h1, h2, h3, h4, h5, h6⟩ := tile L (v * 2 ^ (15 - n)) 15 (by rw [hall]; exact hx)
  obtain ⟨a1, a2, a3, a4, a5⟩ := cd_all hm c (by omega)
  have em : cdN L c = m := by rw [h4] at a3; omega
  rw [em] at a5
  rw [← a5 h1] at h5 h6
  by_cases hmn : m ≤ n
  · exfalso
    refine hp c (by omega) (by omega) (by omega) ?_
    rw [em]
    have e : 2 ^ (15 - m) = 2 ^ (n - m) * 2 ^ (15 - n) := by rw [← Nat.pow_add]; congr 1; omega
    rw [e, ← Nat.mul_assoc] at h5
    have h7 : cdB L c * 2 ^ (15 - m) + 2 ^ (15 - m) = ((cdB L c + 1) * 2 ^ (n - m)) * 2 ^ (15 - n) := by rw [e, Nat.mul_assoc, Nat.add_mul, Nat.one_mul]
    rw [h7] at h6
    have h8 : cdB L c * 2 ^ (n - m) ≤ v := Nat.le_of_mul_le_mul_right h5 hp0
    have h9 : v < (cdB L c + 1) * 2 ^ (n - m) := Nat.lt_of_mul_lt_mul_right h6
    symm
    refine Nat.div_eq_of_lt_le h8 ?_
    exact h9
  · rw [begC_iff]
    refine ⟨c, by omega, by omega, ?_⟩
    rw [em]
    have hq : 0 < 2 ^ (15 - m) := Nat.pow_pos (by decide)
    have e : 2 ^ (15 - n) = 2 ^ (m - n) * 2 ^ (15 - m) := by rw [← Nat.pow_add]; congr 1; omega
    rw [e, ← Nat.mul_assoc] at h5 h6
    have h7 : cdB L c * 2 ^ (15 - m) + 2 ^ (15 - m) = (cdB L c + 1) * 2 ^ (15 - m) := by rw [Nat.add_mul, Nat.one_mul]
    rw [h7] at h6
    have h8 : cdB L c ≤ v * 2 ^ (m - n) := Nat.le_of_mul_le_mul_right h5 hq
    have h9 : v * 2 ^ (m - n) < cdB L c + 1 := Nat.lt_of_mul_lt_mul_right h6
    rw [show cdB L c = v * 2 ^ (m - n) by omega]
    exact Nat.mul_div_cancel _ (Nat.pow_pos (by decide))
/-- .. so that fifteen bits tell one. -/
theorem full15 {L : List Int} (hm : mayL L = true) (hk : ks L = 32768) {v : Nat} (hv : v < 2 ^ 15) : ¬ NoPre L v 15 := by
  intro hp
  obtain ⟨c, h1, h2, h3⟩ := begC_iff.1 (full hm hk (Nat.le_refl 15) hv hp)
  have := (cd_all hm c h1).1
  have e : cdN L c = 15 := by omega
  refine hp c h1 (by omega) (by omega) ?_
  rw [e] at h3 ⊢
  simpa using h3

/-- The class that bits begin with: the error, the class, how many bits. -/
def dec (L : List Int) : List Bool → Nat → Nat → Nat × Nat × Nat
  | [], _, n => (2, 0, n)
  | b :: t, v, n =>
    match findC L (2 * v + b.toNat) (n + 1) with
    | some c => (0, c, n + 1)
    | none => if begC L (2 * v + b.toNat) (n + 1) = true then dec L t (2 * v + b.toNat) (n + 1) else (3, 0, n + 1)
theorem dec_used (L : List Int) : ∀ (bs : List Bool) (v n : Nat), (dec L bs v n).1 = 0 → n ≤ (dec L bs v n).2.2 ∧ (dec L bs v n).2.2 ≤ n + bs.length ∧ (dec L bs v n).2.1 < 65 := by
  intro bs
  induction bs with
  | nil => intro v n h; simp [dec] at h
  | cons b t ih =>
    intro v n
    simp only [dec]
    cases hf : findC L (2 * v + b.toNat) (n + 1) with
    | some c => intro _; have := (findC_some hf).1; simp; omega
    | none =>
      simp only
      split
      · intro h; have := ih _ _ h; simp only [List.length_cons]; omega
      · intro h; simp at h
theorem dec_find {L : List Int} {b : Bool} {t : List Bool} {v n c : Nat} (h : findC L (2 * v + b.toNat) (n + 1) = some c) : dec L (b :: t) v n = (0, c, n + 1) := by simp only [dec, h]
theorem dec_next {L : List Int} {b : Bool} {t : List Bool} {v n : Nat} (h : findC L (2 * v + b.toNat) (n + 1) = none) (hb : begC L (2 * v + b.toNat) (n + 1) = true) : dec L (b :: t) v n = dec L t (2 * v + b.toNat) (n + 1) := by simp only [dec, h]; rw [if_pos hb]
theorem dec_bad {L : List Int} {b : Bool} {t : List Bool} {v n : Nat} (h : findC L (2 * v + b.toNat) (n + 1) = none) (hb : begC L (2 * v + b.toNat) (n + 1) = false) : dec L (b :: t) v n = (3, 0, n + 1) := by simp only [dec, h]; rw [if_neg (by rw [hb]; decide)]

/-! ### One class, or none -/
theorem ones {L : List Int} (hm : mayL L = true) (hs : sm L < 2) (c : Nat) (hc : c < 65) : cdN L c ≤ 1 := by
  obtain ⟨h65, hr⟩ := may_range hm
  have h0 := (cd_all hm c hc).2.2.1
  by_cases hz : cdN L c ≤ 1
  · exact hz
  · exfalso
    unfold mayL at hm
    rw [decide_eq_true_eq] at hm
    have hc65 : c < L.length := by omega
    have hmem : L.getD c 0 ∈ L := by simp [List.getD_eq_getElem?_getD, hc65]
    have h1 := sm_pos L _ hmem (by omega)
    have h2 : sm L = 1 := by omega
    -- all others are nought
    have key : ∀ (l : List Int) (x : Int), x ∈ l → 0 < x → sm l = 1 → ks l = 2 ^ (15 - x.toNat) := by
      intro l
      induction l with
      | nil => intro x h; cases h
      | cons a t ih =>
        intro x h hp hs1
        have es : sm (a :: t) = (if 0 < a then 1 else 0) + sm t := by unfold sm; rw [List.map_cons, List.sum_cons]
        have ek : ks (a :: t) = (if 0 < a then 2 ^ (15 - a.toNat) else 0) + ks t := by unfold ks; rw [List.map_cons, List.sum_cons]
        rcases List.mem_cons.1 h with rfl | h
        · rw [if_pos hp] at es ek
          have h0 : ∀ y ∈ t, ¬ 0 < y := fun y hy hyp => by have := sm_pos t y hy hyp; omega
          have e0 : ks t = 0 := by
            unfold ks
            have e : t.map (fun n : Int => if 0 < n then 2 ^ (15 - n.toNat) else 0) = t.map fun _ => 0 := List.map_congr_left fun y hy => by rw [if_neg (h0 y hy)]
            rw [e, List.map_const', List.sum_replicate_nat, Nat.mul_zero]
          rw [ek, e0, Nat.add_zero]
        · have := sm_pos t x h hp
          have hna : ¬ 0 < a := fun hap => by rw [if_pos hap] at es; omega
          rw [if_neg hna, Nat.zero_add] at es ek
          rw [ek]
          exact ih x h hp (by omega)
    have hk := key L _ hmem (by omega) h2
    rw [h0, Int.toNat_natCast] at hk
    have h15 := (hr _ hmem).2
    rw [h0] at h15
    have hlt : 2 ^ (15 - cdN L c) ≤ 2 ^ 13 := Nat.pow_le_pow_right (by decide) (by omega)
    rcases hm.2.2 with h | h | h
    · omega
    · omega
    · omega
theorem full_of {L : List Int} (hm : mayL L = true) (hs : ¬ sm L < 2) : ks L = 32768 := by
  unfold mayL at hm
  rw [decide_eq_true_eq] at hm
  rcases hm.2.2 with h | h | h
  · omega
  · exact h
  · omega
theorem dec_one {L : List Int} (hm : mayL L = true) (hs : sm L < 2) (b : Bool) (t : List Bool) (h : findC L b.toNat 1 = none) : dec L (b :: t) 0 0 = (3, 0, 1) := by
  have e : 2 * 0 + b.toNat = b.toNat := by omega
  refine dec_bad (by rw [e]; exact h) ?_
  rw [e]
  cases hb : begC L b.toNat (0 + 1) with
  | false => rfl
  | true =>
    obtain ⟨c, h1, h2, h3⟩ := begC_iff.1 hb
    have h4 := ones hm hs c h1
    have e4 : cdN L c = 1 := by omega
    rw [e4] at h3
    exact absurd (by simpa using h3) (findC_none h c h1 (by omega) e4)

/-! ### What is put is got -/
/-- A code's bits, the first one the highest. -/
def hi (b n : Nat) : List Bool := (List.range n).map fun i => b.testBit (n - 1 - i)
@[simp] theorem length_hi (b n : Nat) : (hi b n).length = n := by simp [hi]
theorem hi_drop (b n j : Nat) (h : j < n) : (hi b n).drop j = b.testBit (n - 1 - j) :: (hi b n).drop (j + 1) := by
  rw [List.drop_eq_getElem_cons (by simpa using h)]
  simp [hi]
theorem div_bit (b n j : Nat) (h : j < n) : 2 * (b / 2 ^ (n - j)) + (b.testBit (n - 1 - j)).toNat = b / 2 ^ (n - (j + 1)) := by
  have e : n - j = (n - (j + 1)) + 1 := by omega
  rw [e, Nat.pow_succ, ← Nat.div_div_eq_div_mul, show n - 1 - j = n - (j + 1) by omega]
  generalize n - (j + 1) = k
  rw [Nat.testBit_eq_decide_div_mod_eq]
  generalize b / 2 ^ k = q
  by_cases hq : q % 2 = 1
  · simp [hq]; omega
  · simp [hq]; omega
theorem code_step {L : List Int} (hm : mayL L = true) {c : Nat} (hc : c < 65) {j : Nat} (h : j + 1 < cdN L c) : findC L (cdB L c / 2 ^ (cdN L c - (j + 1))) (j + 1) = none ∧ begC L (cdB L c / 2 ^ (cdN L c - (j + 1))) (j + 1) = true := by
  constructor
  · cases hf : findC L (cdB L c / 2 ^ (cdN L c - (j + 1))) (j + 1) with
    | none => rfl
    | some d =>
      obtain ⟨a1, a2, a3, a4⟩ := findC_some hf
      have hne : d ≠ c := fun e => by rw [e] at a3; omega
      have := cd_apart hm a1 hc hne (by omega) (by omega)
      rw [a3] at this
      exact absurd a4.symm this
  · exact begC_iff.2 ⟨c, hc, by omega, rfl⟩
theorem dec_code {L : List Int} (hm : mayL L = true) {c : Nat} (hc : c < 65) (t : List Bool) : ∀ (d j : Nat), j + d + 1 = cdN L c → dec L ((hi (cdB L c) (cdN L c)).drop j ++ t) (cdB L c / 2 ^ (cdN L c - j)) j = (0, c, cdN L c) := by
  intro d
  induction d with
  | zero =>
    intro j hj
    rw [hi_drop _ _ _ (by omega), List.cons_append]
    have e := div_bit (cdB L c) (cdN L c) j (by omega)
    rw [show cdN L c - (j + 1) = 0 by omega, Nat.pow_zero, Nat.div_one] at e
    have hf := findC_at hm hc (by omega)
    rw [dec_find (c := c) (by rw [e, show j + 1 = cdN L c by omega]; exact hf), show j + 1 = cdN L c by omega]
  | succ d ih =>
    intro j hj
    rw [hi_drop _ _ _ (by omega), List.cons_append]
    have e := div_bit (cdB L c) (cdN L c) j (by omega)
    obtain ⟨h1, h2⟩ := code_step hm hc (j := j) (by omega)
    rw [dec_next (by rw [e]; exact h1) (by rw [e]; exact h2), e]
    exact ih (j + 1) (by omega)
theorem zero_div_code {L : List Int} (hm : mayL L = true) {c : Nat} (hc : c < 65) : cdB L c / 2 ^ (cdN L c - 0) = 0 := Nat.div_eq_of_lt (by rw [Nat.sub_zero]; exact (cd_all hm c hc).2.1)
theorem dec_whole {L : List Int} (hm : mayL L = true) {c : Nat} (hc : c < 65) (h1 : 1 ≤ cdN L c) (t : List Bool) : dec L (hi (cdB L c) (cdN L c) ++ t) 0 0 = (0, c, cdN L c) := by
  have h := dec_code hm hc t (cdN L c - 1) 0 (by omega)
  rw [zero_div_code hm hc, List.drop_zero] at h
  exact h
/-- One part's bits; those of parts. -/
def encOne (L : List Int) (p : Nat × Nat) : List Bool := hi (cdB L p.1) (cdN L p.1) ++ bitsOf p.2 (p.1 - 1)
def enc (L : List Int) (ps : List (Nat × Nat)) : List Bool := ps.flatMap (encOne L)
theorem enc_append (L : List Int) (a b : List (Nat × Nat)) : enc L (a ++ b) = enc L a ++ enc L b := by simp [enc, List.flatMap_append]
theorem enc_cons (L : List Int) (p : Nat × Nat) (b : List (Nat × Nat)) : enc L (p :: b) = encOne L p ++ enc L b := by simp [enc]
@[simp] theorem length_encOne (L : List Int) (p : Nat × Nat) : (encOne L p).length = cdN L p.1 + (p.1 - 1) := by simp [encOne]
/-- One part of bits: the error, the part, what is left. -/
def getOne (L : List Int) (bs : List Bool) : Nat × (Nat × Nat) × List Bool :=
  if (dec L bs 0 0).1 ≠ 0 then ((dec L bs 0 0).1, (0, 0), bs) else if bs.length < (dec L bs 0 0).2.2 + ((dec L bs 0 0).2.1 - 1) then (2, (0, 0), bs)
  else (0, ((dec L bs 0 0).2.1, ofBits ((bs.drop (dec L bs 0 0).2.2).take ((dec L bs 0 0).2.1 - 1))), bs.drop ((dec L bs 0 0).2.2 + ((dec L bs 0 0).2.1 - 1)))
/-- Parts of bits. -/
def getPs (L : List Int) : Nat → List Bool → Nat × List (Nat × Nat) × List Bool
  | 0, bs => (0, [], bs)
  | n + 1, bs => if (getOne L bs).1 ≠ 0 then ((getOne L bs).1, [], bs) else ((getPs L n (getOne L bs).2.2).1, (getOne L bs).2.1 :: (getPs L n (getOne L bs).2.2).2.1, (getPs L n (getOne L bs).2.2).2.2)
/-- A part that can be put. -/
def Able (L : List Int) (p : Nat × Nat) : Prop := p.1 < 65 ∧ 1 ≤ cdN L p.1 ∧ p.2 < 2 ^ (p.1 - 1)
theorem getOne_enc {L : List Int} (hm : mayL L = true) {p : Nat × Nat} (hp : Able L p) (t : List Bool) : getOne L (encOne L p ++ t) = (0, p, t) := by
  obtain ⟨h1, h2, h3⟩ := hp
  have e : encOne L p ++ t = hi (cdB L p.1) (cdN L p.1) ++ (bitsOf p.2 (p.1 - 1) ++ t) := by unfold encOne; rw [List.append_assoc]
  have hd : dec L (encOne L p ++ t) 0 0 = (0, p.1, cdN L p.1) := by rw [e]; exact dec_whole hm h1 h2 _
  unfold getOne
  rw [hd]
  have hl : ¬ (encOne L p ++ t).length < cdN L p.1 + (p.1 - 1) := by rw [List.length_append, length_encOne]; omega
  simp only [ne_eq, not_true_eq_false, if_false]
  rw [if_neg hl]
  have e2 : (encOne L p ++ t).drop (cdN L p.1 + (p.1 - 1)) = t := List.drop_left' (by simp)
  have e3 : ((encOne L p ++ t).drop (cdN L p.1)).take (p.1 - 1) = bitsOf p.2 (p.1 - 1) := by rw [e, List.drop_left' (by simp), List.take_left' (by simp)]
  rw [e2, e3, ofBits_bitsOf, Nat.mod_eq_of_lt h3]
theorem getPs_enc {L : List Int} (hm : mayL L = true) : ∀ (ps : List (Nat × Nat)), (∀ p ∈ ps, Able L p) → ∀ (t : List Bool), getPs L ps.length (enc L ps ++ t) = (0, ps, t) := by
  intro ps
  induction ps with
  | nil => intro _ t; rfl
  | cons p ps ih =>
    intro h t
    have h1 := getOne_enc hm (h p (by simp)) (enc L ps ++ t)
    have h2 := ih (fun q hq => h q (List.mem_cons_of_mem _ hq)) t
    rw [enc_cons, List.append_assoc, List.length_cons]
    unfold getPs
    rw [h1]
    simp only [ne_eq, not_true_eq_false, if_false]
    rw [h2]
/-- On the way: so many parts are got. -/
theorem getPs_ok (L : List Int) (n : Nat) (bs : List Bool) (p : Nat × Nat) (r : List Bool) (h : getOne L bs = (0, p, r)) : getPs L (n + 1) bs = ((getPs L n r).1, p :: (getPs L n r).2.1, (getPs L n r).2.2) := by
  conv => lhs; unfold getPs
  rw [h]; simp
theorem getPs_err (L : List Int) (n : Nat) (bs : List Bool) (e : Nat) (he : e ≠ 0) (h : (getOne L bs).1 = e) : (getPs L (n + 1) bs).1 = e := by
  conv => lhs; unfold getPs
  rw [if_pos (by rw [h]; exact he)]; exact h
end Go.Proofs.Ytnakjencodicmaa.Hu

-- ---- Jb
/- A map from codes to classes: what lies in memory, a look, a store. Conditions: those that each theorem names. -/
namespace Go.Proofs.Ytnakjencodicmaa
set_option maxRecDepth 100000
set_option linter.unusedSimpArgs false
set_option linter.unusedVariables false
open Go.RowKit Mix _root_.Go.Proofs.Ytnakjencodicmaa.Own

theorem code_laid : laidOutB Try.prog = true := by kernel_rfl
theorem code_row : (69 : TypeId) < Try.prog.types.size := of_decide_eq_true (by kernel_rfl)
theorem code_size : ∃ m, Try.prog.types.size = m + 1 := by
  have h := code_row
  generalize Try.prog.types.size = n at h
  cases n with
  | zero => exact absurd h (by decide)
  | succ m => exact ⟨m, rfl⟩
theorem code_cells : Try.prog.cellsOf 69 = 2 := by kernel_rfl
theorem int_cells : Try.prog.cellsOf 3 = 1 := by kernel_rfl
theorem code_type : Try.prog.keyType 69 = true := by kernel_rfl
theorem code_at2 : Try.prog.keyTypeAt 2 69 = true := by kernel_rfl
theorem code_wide : (match Try.prog.underlying 69 with | some (.array _ _) | some (.struct _) => true | _ => false) = true := by kernel_rfl
set_option maxRecDepth 100000 in
theorem code_keyed : Maps.Keyed Try.prog 69 := Maps.Keyed.of_law (deep_law_laid code_laid (m := 2) (by omega) code_row code_at2 code_wide)

/-- A code as a value. -/
def cdV (v n : Nat) : Value := .agg #[.int .i64 (v : Int), .int .i64 (n : Int)]
theorem cdV_inj {v n v' n' : Nat} (h : cdV v n = cdV v' n') : v = v' ∧ n = n' := by
  unfold cdV at h
  simp only [Value.agg.injEq, Array.mk.injEq, List.cons.injEq, Value.int.injEq, true_and, and_true] at h
  omega
theorem wf_nat (v : Nat) (h : v < 9223372036854775808) : (Lit.int .i64 (v : Int)).wf = true := by
  have h1 : IntKind.i64.min = -9223372036854775808 := rfl
  have h2 : IntKind.i64.max = 9223372036854775807 := rfl
  simp only [Lit.wf, h1, h2, Bool.and_eq_true, decide_eq_true_eq]
  omega
theorem code_key (v n : Nat) (hv : v < 9223372036854775808) (hn : n < 9223372036854775808) : ∃ l, keyOf Try.prog 69 (cdV v n) = some l := by
  obtain ⟨m, hm⟩ := code_size
  have w1 : (Lit.int .i64 (v : Int)).wf = true := wf_nat v hv
  have w2 : (Lit.int .i64 (n : Int)).wf = true := wf_nat n hn
  unfold cdV
  unfold keyOf
  simp only [Try.underlying69]
  rw [if_pos (by simp [code_type, Value.formed, Try.underlying69, code_cells]), hm]
  unfold Program.keyLits
  simp only [Try.underlying69, Value.cells]
  simp [Program.keyLits, Try.underlying3, int_cells, code_cells, w1, w2]

/-- What a map holds, one behind the other as they came: the code's bits, how many, the class. -/
def entV (p : Nat × Nat × Nat) : Value × Value := (cdV p.1 p.2.1, .int .i64 (p.2.2 : Int))
def IsMp (w : World) (b : Nat) (F : List (Nat × Nat × Nat)) : Prop := ∃ es clock, w.heap[b]? = some (.map es clock) ∧ es.toList.map (fun e => (e.key, e.val)) = F.map entV
/-- Codes small enough, each once. -/
structure Fit (F : List (Nat × Nat × Nat)) : Prop where
  small : ∀ p ∈ F, p.1 < 1000000 ∧ p.2.1 < 1000000
  once : ∀ p ∈ F, ∀ q ∈ F, p.1 = q.1 → p.2.1 = q.2.1 → p = q
theorem IsMp.lt {w : World} {b : Nat} {F : List (Nat × Nat × Nat)} (h : IsMp w b F) : b < w.heap.size := by
  obtain ⟨es, clock, hb, _⟩ := h
  exact lt_of_some hb
theorem IsMp.later {w w' : World} {b : Nat} {F : List (Nat × Nat × Nat)} (h : IsMp w b F) (hc : Below w.heap.size w w') : IsMp w' b F := by
  have hlt := h.lt
  obtain ⟨es, clock, hb, he⟩ := h
  exact ⟨es, clock, (hc.block b hlt).trans hb, he⟩
theorem IsMp.keep {w w' : World} {S : Nat → Prop} {b : Nat} {F : List (Nat × Nat × Nat)} (h : IsMp w b F) (hc : Chg S w w') (hn : ¬ S b) : IsMp w' b F := by
  obtain ⟨es, clock, hb, he⟩ := h
  exact ⟨es, clock, hc.keep hb hn, he⟩
theorem IsMp.fresh (w : World) : IsMp (w.alloc (.map #[] 0)) w.heap.size [] := ⟨#[], 0, (MapKept.heap_alloc w _).1, rfl⟩
theorem keys_of {es : List MapEntry} {F : List (Nat × Nat × Nat)} (he : es.map (fun e => (e.key, e.val)) = F.map entV) (hF : Fit F) : ∀ e ∈ es, ∃ l, keyOf Try.prog 69 e.key = some l := by
  intro e h
  have h1 : (e.key, e.val) ∈ es.map (fun e => (e.key, e.val)) := List.mem_map.2 ⟨e, h, rfl⟩
  rw [he] at h1
  obtain ⟨p, hp, h2⟩ := List.mem_map.1 h1
  have h3 := hF.small p hp
  have h4 : e.key = cdV p.1 p.2.1 := (Prod.mk.inj h2).1.symm
  rw [h4]
  exact code_key _ _ (by omega) (by omega)
/-- What is found. -/
def lookL (F : List (Nat × Nat × Nat)) (v n : Nat) : Option Nat := (F.find? fun p => decide (p.1 = v ∧ p.2.1 = n)).map fun p => p.2.2
theorem lookL_none {F : List (Nat × Nat × Nat)} {v n : Nat} (h : ∀ p ∈ F, ¬ (p.1 = v ∧ p.2.1 = n)) : lookL F v n = none := by
  unfold lookL
  rw [List.find?_eq_none.2 (fun p hp => by rw [decide_eq_true_eq]; exact h p hp)]; rfl
theorem lookL_some {F : List (Nat × Nat × Nat)} {p : Nat × Nat × Nat} (hF : Fit F) (h : p ∈ F) : lookL F p.1 p.2.1 = some p.2.2 := by
  unfold lookL
  cases hf : F.find? fun q => decide (q.1 = p.1 ∧ q.2.1 = p.2.1) with
  | none => exact absurd (by simp) (List.find?_eq_none.1 hf p h)
  | some q =>
    have h1 := List.mem_of_find?_eq_some hf
    have h2 := List.find?_some hf
    rw [decide_eq_true_eq] at h2
    rw [hF.once q h1 p h h2.1 h2.2]; rfl
/-- Whether a key is there. -/
theorem find_key (w : World) {es : List MapEntry} {F : List (Nat × Nat × Nat)} (he : es.map (fun e => (e.key, e.val)) = F.map entV) (hF : Fit F) (v n : Nat) (hv : v < 9223372036854775808) (hn : n < 9223372036854775808) :
    ((Instr.findKey 69 (cdV v n) es).run Try.prog w = .ok none w ∧ ∀ p ∈ F, ¬ (p.1 = v ∧ p.2.1 = n)) ∨
    ∃ j p, (Instr.findKey 69 (cdV v n) es).run Try.prog w = .ok (some (j, .int .i64 (p.2.2 : Int))) w ∧ p ∈ F ∧ p.1 = v ∧ p.2.1 = n := by
  obtain ⟨l, hl⟩ := code_key v n hv hn
  rcases code_keyed.find w hl es (keys_of he hF) with ⟨h1, h2⟩ | ⟨j, e, h1, h2, h3⟩
  · refine .inl ⟨h1, fun p hp hh => ?_⟩
    have h4 : entV p ∈ es.map (fun e => (e.key, e.val)) := by rw [he]; exact List.mem_map.2 ⟨p, hp, rfl⟩
    obtain ⟨e, he1, he2⟩ := List.mem_map.1 h4
    refine h2 e he1 ?_
    have : e.key = cdV p.1 p.2.1 := (Prod.mk.inj he2).1
    rw [this, hh.1, hh.2]
  · have hm : e ∈ es := List.mem_of_getElem? h2
    have h4 : (e.key, e.val) ∈ F.map entV := by rw [← he]; exact List.mem_map.2 ⟨e, hm, rfl⟩
    obtain ⟨p, hp, hpe⟩ := List.mem_map.1 h4
    have e1 : cdV p.1 p.2.1 = e.key := (Prod.mk.inj hpe).1
    have e2 : Value.int .i64 (p.2.2 : Int) = e.val := (Prod.mk.inj hpe).2
    rw [h3] at e1
    obtain ⟨a1, a2⟩ := cdV_inj e1
    refine .inr ⟨j, p, by rw [h1, e2], hp, a1, a2⟩
theorem zero_int (w : World) : (zeroValue 3).run Try.prog w = .ok (.int .i64 0) w := by kernel_rfl

/-- What a look answers. -/
def lookV (r : Option Nat) : Value := .tuple #[.int .i64 ((r.getD 0 : Nat) : Int), .bool r.isSome]
theorem IsMp.look {w : World} {b : Nat} {F : List (Nat × Nat × Nat)} (h : IsMp w b F) (hF : Fit F) (v n : Nat) (hv : v < 9223372036854775808) (hn : n < 9223372036854775808) :
    (Instr.lookup 83 (.map (some b)) (cdV v n) true).run Try.prog w = .ok (lookV (lookL F v n)) w := by
  obtain ⟨es, clock, hb, he⟩ := h
  obtain ⟨l, hl⟩ := code_key v n hv hn
  rcases find_key w he hF v n hv hn with ⟨h1, h2⟩ | ⟨j, p, h1, hp, rfl, rfl⟩
  · rw [lookL_none h2]
    simp [Instr.lookup, run_underlying Try.underlying83, MapKept.run_getObj_map hb, code_keyed.check w _ hl, h1, zero_int, Result.andThen, lookV]
  · rw [lookL_some hF hp]
    simp [Instr.lookup, run_underlying Try.underlying83, MapKept.run_getObj_map hb, code_keyed.check w _ hl, h1, Result.andThen, lookV]
theorem IsMp.len {w : World} {b : Nat} {F : List (Nat × Nat × Nat)} (h : IsMp w b F) (ty : TypeId) : (Builtin.len_ #[83] ty #[.map (some b)]).run Try.prog w = .ok (.int .i64 (F.length : Int)) w := by
  obtain ⟨es, clock, hb, he⟩ := h
  have e : es.size = F.length := by
    have := congrArg List.length he
    simpa using this
  rw [← e]
  simp [Builtin.len_, run_underlying Try.underlying83, MapKept.run_getObj_map hb, goInt, Result.andThen]
theorem IsMp.put {w : World} {b : Nat} {F : List (Nat × Nat × Nat)} (h : IsMp w b F) (hF : Fit F) (v n c : Nat) (hv : v < 9223372036854775808) (hn : n < 9223372036854775808) (hnew : ∀ p ∈ F, ¬ (p.1 = v ∧ p.2.1 = n)) :
    ∃ w', (Instr.mapUpdate 83 (.map (some b)) (cdV v n) (.int .i64 (c : Int))).run Try.prog w = .ok () w' ∧ IsMp w' b (F ++ [(v, n, c)]) ∧ Chg (fun k => k = b) w w' := by
  obtain ⟨es, clock, hb, he⟩ := h
  obtain ⟨l, hl⟩ := code_key v n hv hn
  rcases find_key w he hF v n hv hn with ⟨h1, h2⟩ | ⟨j, p, h1, hp, e1, e2⟩
  · refine ⟨ChangeMaps.setBlock w b (.map (es.push { key := cdV v n, val := .int .i64 (c : Int), born := clock }) (clock + 1)), ?_, ⟨_, _, ChangeMaps.heap_setBlock_same hb _, ?_⟩, ?_⟩
    · simp [Instr.mapUpdate, run_underlying Try.underlying83, MapKept.run_getObj_map hb, code_keyed.check w _ hl, h1, MapKept.run_setObj_map _ hb, Result.andThen, ChangeMaps.setBlock]
    · rw [Array.toList_push, List.map_append, he, List.map_append]; rfl
    · exact ⟨rfl, rfl, rfl, by simp [ChangeMaps.setBlock], fun k _ hk => ChangeMaps.heap_setBlock_other hb _ hk⟩
  · exact absurd ⟨e1, e2⟩ (hnew p hp)
end Go.Proofs.Ytnakjencodicmaa

-- ---- Jc
/- huff's reader: the class that bits begin with. Conditions: those that each theorem names. -/
namespace Go.Proofs.Ytnakjencodicmaa
set_option maxRecDepth 100000
set_option linter.unusedSimpArgs false
set_option linter.unusedVariables false
open Go.RowKit Mix _root_.Go.Proofs.Ytnakjencodicmaa.Own Bits Hu Dp
attribute [local go_sem] max_int min_int

theorem i64_or_nat (a b : Nat) (ha : a < 9223372036854775808) (hb : b < 9223372036854775808) : bits .or .i64 (a : Int) (b : Int) = ((a ||| b : Nat) : Int) := by
  show IntKind.i64.wrap ((BitVec.ofInt 64 (a : Int) ||| BitVec.ofInt 64 (b : Int)).toNat : Int) = _
  have h1 : (BitVec.ofInt 64 (a : Int)).toNat = a := by rw [BitVec.ofInt_natCast, BitVec.toNat_ofNat]; exact Nat.mod_eq_of_lt (by omega)
  have h2 : (BitVec.ofInt 64 (b : Int)).toNat = b := by rw [BitVec.ofInt_natCast, BitVec.toNat_ofNat]; exact Nat.mod_eq_of_lt (by omega)
  rw [BitVec.toNat_or, h1, h2, IntKind.wrap_i64]
  have h3 : a ||| b < 2 ^ 63 := Nat.or_lt_two_pow (by omega) (by omega)
  omega
theorem two_or (v b : Nat) (hb : b < 2) : 2 * v ||| b = 2 * v + b := by
  have h := Nat.shiftLeft_add_eq_or_of_lt (i := 1) (b := b) (by omega) v
  rw [Nat.shiftLeft_eq] at h
  rw [Nat.mul_comm 2 v]
  exact h.symm
theorem shl_or (v b : Nat) (hv : v < 1000000) (hb : b < 2) : bits .or .i64 ((v : Int) * 2) (b : Int) = ((2 * v + b : Nat) : Int) := by
  have e : (v : Int) * 2 = ((2 * v : Nat) : Int) := by omega
  rw [e, i64_or_nat _ _ (by omega) (by omega), two_or v b hb]

theorem drop_cons (s : ByteArray) (k : Nat) (h : k < 8 * s.size) : (bitsS s).drop k = bitS s k :: (bitsS s).drop (k + 1) := by
  rw [List.drop_eq_getElem_cons (by simpa using h)]
  congr 1
  have h2 := getD_bitsS s k
  rw [List.getD_eq_getElem?_getD, List.getElem?_eq_getElem (by simpa using h)] at h2
  simpa [h] using h2
theorem one_bit (s : ByteArray) (k : Nat) (h : k < 8 * s.size) : ofBits (((bitsS s).drop k).take 1) = (bitS s k).toNat := by
  rw [drop_cons s k h]
  simp [ofBits]
/-- One bit is got. -/
theorem get1_ok (q : Nat) (s : ByteArray) (k : Nat) (w : World) (h : IsRd w q s k) (hs : s.size ≤ 1000000000000) (hk : k < 8 * s.size) :
    Calls Try.prog 51 #[.pointer (some ⟨q, 0, none⟩), .int .i64 1] w fun e w' => e = .returned (.tuple #[.int .u64 (((bitS s k).toNat : Nat) : Int), .int .i64 0]) ∧ IsRd w' q s (k + 1) ∧ Chg (fun b => b = q) w w' := by
  have h1 := get_ok q s k 1 w h hs (by omega) (by decide) (by omega)
  rw [one_bit s k hk] at h1
  exact h1

/-- The reader of parts at block p: a reader of bits at q, a map at b. -/
structure IsHr (w : World) (p q b : Nat) (s : ByteArray) (k : Nat) (F : List (Nat × Nat × Nat)) : Prop where
  self : Blk w p #[.pointer (some ⟨q, 0, none⟩), .map (some b)] 85
  rd : IsRd w q s k
  mp : IsMp w b F
theorem IsHr.pq {w : World} {p q b : Nat} {s : ByteArray} {k : Nat} {F : List (Nat × Nat × Nat)} (h : IsHr w p q b s k F) : p ≠ q := Blk.ne h.self h.rd (by decide)
theorem IsHr.bq {w : World} {p q b : Nat} {s : ByteArray} {k : Nat} {F : List (Nat × Nat × Nat)} (h : IsHr w p q b s k F) : b ≠ q := by
  obtain ⟨es, clock, hb, _⟩ := h.mp
  have h2 := h.rd
  unfold IsRd Blk at h2
  intro e
  rw [e, h2] at hb
  cases hb
theorem IsHr.chg {w w' : World} {p q b : Nat} {s : ByteArray} {k k' : Nat} {F : List (Nat × Nat × Nat)} (h : IsHr w p q b s k F) (hc : Chg (fun x => x = q) w w') (hr : IsRd w' q s k') : IsHr w' p q b s k' F :=
  ⟨hc.keep h.self h.pq, hr, h.mp.keep hc h.bq⟩
/-- The map tells the classes. -/
def Tells (L : List Int) (F : List (Nat × Nat × Nat)) : Prop := ∀ v n, 1 ≤ n → lookL F v n = findC L v n
/-- What a step answers: the class and the error; the place behind. -/
def StepPost (L : List Int) (q : Nat) (s : ByteArray) (k : Nat) (w : World) (e : Ending) (w' : World) : Prop :=
  e = .returned (.tuple #[.int .i64 ((dec L ((bitsS s).drop k) 0 0).2.1 : Int), .int .i64 ((dec L ((bitsS s).drop k) 0 0).1 : Int)]) ∧
  ((dec L ((bitsS s).drop k) 0 0).1 = 0 → IsRd w' q s (k + (dec L ((bitsS s).drop k) 0 0).2.2)) ∧ Chg (fun b => b = q) w w'

set_option maxHeartbeats 4000000 in
theorem code_calls (L : List Int) (F : List (Nat × Nat × Nat)) (p q b : Nat) (s : ByteArray) (k : Nat) (w : World) (hm : mayL L = true) (hk : ks L = 32768) (hF : Fit F) (ht : Tells L F) (h : IsHr w p q b s k F) (hs : s.size ≤ 1000000000000) (hk2 : k ≤ 8 * s.size) :
    Calls Try.prog 33 #[.pointer (some ⟨p, 0, none⟩)] w (StepPost L q s k w) := by
  have H := kept h
  have HM := kept hm
  have HK := kept hk
  have HF := kept hF
  have HT := kept ht
  have HPQ := kept h.pq
  have HBQ := kept h.bq
  clear h hm hk hF ht
  go_enter Try.func33, Try.ntmps33
  go_wp2_with fail
  obtain ⟨pc, hpc⟩ : ∃ pc, pc = w.heap.size := ⟨_, rfl⟩
  generalize hw0 : World.alloc w _ = w0
  have HC0 : Kept (Blk w0 pc #[.int .i64 ((0 : Nat) : Int), .int .i64 ((0 : Nat) : Int)] 69 ∧ Below w.heap.size w w0) := kept (by
    rw [hpc, ← hw0]; exact ⟨Blk.fresh _ _ _, (Below.refl _ _).alloc (Nat.le_refl _) _⟩)
  have HPn : Kept (w.heap.size ≤ pc) := kept (Nat.le_of_eq hpc.symm)
  rw [← hpc]
  clear hw0 hpc
  go_loopg [] 15 (fun gk wr => ∃ v n : Nat, gk + n = 15 ∧ v < 2 ^ n ∧ Blk wr pc #[.int .i64 (v : Int), .int .i64 (n : Int)] 69 ∧ IsRd wr q s (k + n) ∧ Chg (fun x => x = q) w wr ∧ k + n ≤ 8 * s.size ∧ NoPre L v n ∧ dec L ((bitsS s).drop k) 0 0 = dec L ((bitsS s).drop (k + n)) v n)
  case atStart => exact ⟨0, 0, rfl, by decide, HC0.out.1, H.out.rd.later HC0.out.2, Chg.of_below HC0.out.2, hk2, noPre_zero L, rfl⟩
  case round =>
    obtain ⟨v, n, hg, hv, hB, hR, hC, hkn, hN, hD⟩ := hrel
    have hn15 : n < 15 := by
      rcases Nat.lt_or_ge n 15 with h | h
      · exact h
      · exfalso
        have e : n = 15 := by omega
        subst e
        exact full15 HM.out HK.out hv hN
    have hv14 : v < 16384 := Nat.lt_of_lt_of_le hv ((Nat.pow_le_pow_right (by decide) (by omega) : 2 ^ n ≤ 2 ^ 14))
    have HV := kept hv
    have HB := kept hB
    have HR := kept hR
    have HC := kept hC
    have HN := kept hN
    have HD := kept hD
    have HG := kept hg
    have hself := HC.out.keep H.out.self HPQ.out
    have c0 : wr.cell? ⟨pc, 0, none⟩ = some (.int .i64 (v : Int)) := Blk.cell hB rfl
    have c1 : wr.cell? ⟨pc, 1, none⟩ = some (.int .i64 (n : Int)) := Blk.cell hB rfl
    have s0 : wr.cell? ⟨p, 0, none⟩ = some (.pointer (some ⟨q, 0, none⟩)) := Blk.cell hself rfl
    have s1 : wr.cell? ⟨p, 1, none⟩ = some (.map (some b)) := Blk.cell hself rfl
    have t15 : decide ((n : Int) < 15) = true := decide_eq_true (by omega)
    clear hv hB hR hC hN hD hself hg
    by_cases hmore : k + n < 8 * s.size
    · have HGet := kept (get1_ok q s (k + n) wr HR.out hs hmore)
      have hpq := HPQ.out
      have HLt := kept hmore
      obtain ⟨bt, hbt⟩ : ∃ bt, bt = (bitS s (k + n)).toNat := ⟨_, rfl⟩
      have hb2 : bt < 2 := by rw [hbt]; cases bitS s (k + n) <;> decide
      have hpn := HPn.out
      have hne : pc ≠ q := fun e => by have := Blk.lt H.out.rd; omega
      rw [← hbt] at HGet
      have HBt := kept hbt
      clear hbt
      go_wp2_with fail
      refine HGet.out.mono ?_
      rintro e w2 ⟨rfl, hR2, hC2⟩
      have hB2 : Blk w2 pc #[.int .i64 (v : Int), .int .i64 (n : Int)] 69 := hC2.keep HB.out hne
      have d0 : w2.cell? ⟨pc, 0, none⟩ = some (.int .i64 (v : Int)) := Blk.cell hB2 rfl
      have d1 : w2.cell? ⟨pc, 1, none⟩ = some (.int .i64 (n : Int)) := Blk.cell hB2 rfl
      have f0 : w2.frozen? ⟨pc, 0, none⟩ = false := Blk.free hB2 0
      have f1 : w2.frozen? ⟨pc, 1, none⟩ = false := Blk.free hB2 1
      have hor := shl_or v bt (by omega) hb2
      have HR2 := kept hR2
      have HC2 := kept (HC.out.trans hC2 (fun _ _ h => h))
      have HB2 := kept hB2
      clear hR2 hC2 hB2 c0 c1 s0 s1 hne
      go_upto_region 7 with fail
      generalize hw3 : World.setCell _ _ _ = w3
      have hblt : b < w.heap.size := H.out.mp.lt
      have hqlt : q < w.heap.size := Blk.lt H.out.rd
      have hplt : p < w.heap.size := Blk.lt H.out.self
      have h23 : Chg (fun x => x = pc) w2 w3 := by rw [← hw3]; exact (Chg.setCell w2 ⟨pc, 0, none⟩ _).trans (Chg.setCell _ ⟨pc, 1, none⟩ _) (fun _ _ h => h)
      have hB3 : Blk w3 pc #[.int .i64 (2 * (v : Int) + (bt : Int)), .int .i64 ((n : Int) + 1)] 69 := by
        rw [← hw3]
        have h := (HB2.out.set 0 (.int .i64 (2 * (v : Int) + (bt : Int)))).set 1 (.int .i64 ((n : Int) + 1))
        simpa using h
      have hR3 : IsRd w3 q s (k + n + 1) := h23.keep HR2.out (by omega)
      have hM3 : IsMp w3 b F := (H.out.mp.keep HC2.out HBQ.out).keep h23 (by omega)
      have hS3 := h23.keep (HC2.out.keep H.out.self HPQ.out) (show ¬ p = pc by omega)
      have hC3 : Chg (fun x => x = q) w w3 := HC2.out.trans h23 (fun x hx h => by omega)
      have e0 := lat_cell (Blk.cell hB3 (i := 0) rfl)
      have e1 := lat_cell (Blk.cell hB3 (i := 1) rfl)
      have e2 := lat_cell (Blk.cell hS3 (i := 1) rfl)
      have hlk : ∀ m : Lat w3, (Instr.lookup 83 (.map (some b)) (.agg #[.int .i64 (2 * (v : Int) + (bt : Int)), .int .i64 ((n : Int) + 1)]) true).run Try.prog m.w = .ok (lookV (findC L (2 * v + bt) (n + 1))) m.w := fun m => by
        rw [← HT.out (2 * v + bt) (n + 1) (by omega)]
        exact (hM3.later m.below).look HF.out (2 * v + bt) (n + 1) (by omega) (by omega)
      have HR3 := kept hR3
      have HM3 := kept hM3
      have HB3 := kept hB3
      have HC3 := kept hC3
      have hdc := drop_cons s (k + n) HLt.out
      have HDc := kept hdc
      have hd2 := HD.out
      rw [hdc] at hd2
      have HD2 := kept hd2
      clear hw3 h23 hB3 hR3 hM3 hS3 hC3 d0 d1 f0 f1 hor hdc hd2
      cases hf : findC L (2 * v + bt) (n + 1) with
      | some c =>
        rw [hf] at hlk
        simp only [lookV, Option.getD_some, Option.isSome_some] at hlk
        have hdd : dec L ((bitsS s).drop k) 0 0 = (0, c, n + 1) := by rw [HD2.out]; exact dec_find (by rw [← HBt.out]; exact hf)
        have HDd := kept hdd
        clear hf hdd
        refine wp_region_quietL (by kernel_rfl) (by kernel_rfl) ?_
        repeat (go_big_quiet_step (fail))
        refine wpQuiet_nil ?_
        intro nq
        go_wp2_with fail
        go_ret2
        unfold StepPost
        rw [HDd.out]
        exact ⟨rfl, fun _ => HR3.out.later nq.below, HC3.out.trans (Chg.of_below nq.below) (fun _ _ h => h)⟩
      | none =>
        rw [hf] at hlk
        simp only [lookV, Option.getD_none, Option.isSome_none] at hlk
        have hnp := noPre_next HN.out hb2 hf
        have hv2 : 2 * v + bt < 2 ^ (n + 1) := by have := HV.out; rw [Nat.pow_succ]; omega
        have hbg := full HM.out HK.out (by omega) hv2 hnp
        have hdd : dec L ((bitsS s).drop k) 0 0 = dec L ((bitsS s).drop (k + n + 1)) (2 * v + bt) (n + 1) := by
          rw [HD2.out, HBt.out]; exact dec_next (by rw [← HBt.out]; exact hf) (by rw [← HBt.out]; exact hbg)
        have HDd := kept hdd
        have HNp := kept hnp
        have HV2 := kept hv2
        clear hf hdd hnp hv2 hbg
        refine wp_region_quietL (by kernel_rfl) (by kernel_rfl) ?_
        repeat (go_big_quiet_step (fail))
        refine wpQuiet_nil ?_
        intro nq
        go_wp2_with fail
        go_roundg (gk - 1)
        case measure => have := HG.out; omega
        case rel => exact ⟨2 * v + bt, n + 1, by have := HG.out; omega, HV2.out, by simpa using lat_block HB3.out nq, HR3.out.later nq.below, HC3.out.trans (Chg.of_below nq.below) (fun _ _ h => h), by have := HLt.out; omega, HNp.out, HDd.out⟩
    · have hkn2 : k + n = 8 * s.size := by omega
      have HGet := kept (get_more q s (k + n) 1 wr HR.out hs hkn (by decide) (by omega))
      have he : (bitsS s).drop (k + n) = [] := List.drop_eq_nil_of_le (by simp; omega)
      have hd2 : dec L ((bitsS s).drop k) 0 0 = (2, 0, n) := by rw [HD.out, he]; rfl
      have HD2 := kept hd2
      clear hkn2 he hd2 hmore
      go_wp2_with (first | (go_at_call 51; refine HGet.out.mono ?_; rintro e w2 ⟨rfl, hb2⟩; have HB2 := kept hb2; clear hb2))
      go_ret2
      unfold StepPost
      rw [HD2.out]
      exact ⟨rfl, fun h => by simp at h, HC.out.trans (Chg.of_below HB2.out) (fun _ _ h => h)⟩

set_option maxHeartbeats 4000000 in
theorem only_calls (L : List Int) (F : List (Nat × Nat × Nat)) (p q b : Nat) (s : ByteArray) (k : Nat) (w : World) (hm : mayL L = true) (hk : sm L < 2) (hF : Fit F) (ht : Tells L F) (h : IsHr w p q b s k F) (hs : s.size ≤ 1000000000000) (hk2 : k ≤ 8 * s.size) :
    Calls Try.prog 34 #[.pointer (some ⟨p, 0, none⟩)] w (StepPost L q s k w) := by
  have H := kept h
  have HM := kept hm
  have HK := kept hk
  have HF := kept hF
  have HT := kept ht
  have HPQ := kept h.pq
  have HBQ := kept h.bq
  have s0 : w.cell? ⟨p, 0, none⟩ = some (.pointer (some ⟨q, 0, none⟩)) := Blk.cell h.self rfl
  have hpq := h.pq
  clear h hm hk hF ht
  by_cases hmore : k < 8 * s.size
  · have HGet := kept (get1_ok q s k w H.out.rd hs hmore)
    have hdc := drop_cons s k hmore
    have HDc := kept hdc
    obtain ⟨bt, hbt⟩ : ∃ bt, bt = (bitS s k).toNat := ⟨_, rfl⟩
    have hb2 : bt < 2 := by rw [hbt]; cases bitS s k <;> decide
    rw [← hbt] at HGet
    have HBt := kept hbt
    clear hbt hdc hmore
    go_enter Try.func34, Try.ntmps34
    go_wp2_with fail
    refine HGet.out.mono ?_
    rintro e w2 ⟨rfl, hR2, hC2⟩
    have hS2 := hC2.keep H.out.self HPQ.out
    have s1 : w2.cell? ⟨p, 1, none⟩ = some (.map (some b)) := Blk.cell hS2 rfl
    have hM2 := H.out.mp.keep hC2 HBQ.out
    have hlk : (Instr.lookup 83 (.map (some b)) (.agg #[.int .i64 (bt : Int), .int .i64 1]) true).run Try.prog w2 = .ok (lookV (findC L bt 1)) w2 := by
      rw [← HT.out bt 1 (by omega)]
      exact hM2.look HF.out bt 1 (by omega) (by omega)
    have HR2 := kept hR2
    have HC2 := kept hC2
    have HM2 := kept hM2
    clear s0 hR2 hC2 hS2 hM2
    cases hf : findC L bt 1 with
    | some c =>
      rw [hf] at hlk
      simp only [lookV, Option.getD_some, Option.isSome_some] at hlk
      have hdd : dec L ((bitsS s).drop k) 0 0 = (0, c, 1) := by rw [HDc.out]; exact dec_find (by rw [← HBt.out]; simpa using hf)
      have HDd := kept hdd
      clear hf hdd
      go_wp2_with fail
      go_ret2
      unfold StepPost
      rw [HDd.out]
      exact ⟨rfl, fun _ => HR2.out, HC2.out⟩
    | none =>
      rw [hf] at hlk
      simp only [lookV, Option.getD_none, Option.isSome_none] at hlk
      have hdd : dec L ((bitsS s).drop k) 0 0 = (3, 0, 1) := by rw [HDc.out]; exact dec_one HM.out HK.out _ _ (by rw [← HBt.out]; exact hf)
      have HDd := kept hdd
      clear hf hdd
      go_wp2_with fail
      go_ret2
      unfold StepPost
      rw [HDd.out]
      exact ⟨rfl, fun h => by simp at h, HC2.out⟩
  · have hkn2 : k = 8 * s.size := by omega
    have HGet := kept (get_more q s k 1 w H.out.rd hs hk2 (by decide) (by omega))
    have he : (bitsS s).drop k = [] := List.drop_eq_nil_of_le (by simp; omega)
    have hd2 : dec L ((bitsS s).drop k) 0 0 = (2, 0, 0) := by rw [he]; rfl
    have HD2 := kept hd2
    clear hkn2 he hd2 hmore
    go_enter Try.func34, Try.ntmps34
    go_wp2_with (first | (go_at_call 51; refine HGet.out.mono ?_; rintro e w2 ⟨rfl, hb2⟩; have HB2 := kept hb2; clear hb2))
    go_ret2
    unfold StepPost
    rw [HD2.out]
    exact ⟨rfl, fun h => by simp at h, Chg.of_below HB2.out⟩
end Go.Proofs.Ytnakjencodicmaa

-- ---- Mt
/- A region that draws its order: some operations first, then a tree of orders. Conditions: the Bools over the region's own text. -/
namespace Go.Proofs.Ytnakjencodicmaa.Mix
set_option maxRecDepth 100000
set_option linter.unusedSimpArgs false
set_option linter.unusedVariables false
open Go.RowKit
section
variable {P : Program} {md : Region.Mode} {ops : Array Oper} {Q : Exit → Act → World → Prop} {C : World → Prop}

/-- Orders: a chain, or one of two first. -/
inductive Ord
  | chain (ts : List Nat)
  | pre (ts : List Nat) (t : Ord)
  | fork (i : Nat) (t : Ord) (j : Nat) (u : Ord)
  | fork3 (i : Nat) (t : Ord) (j : Nat) (u : Ord) (k : Nat) (v : Ord)
def Ord.nodes : Ord → List Nat
  | .chain ts => ts
  | .pre ts t => ts ++ t.nodes
  | .fork i t j u => i :: j :: (t.nodes ++ u.nodes)
  | .fork3 i t j u k v => i :: j :: k :: (t.nodes ++ (u.nodes ++ v.nodes))
/-- A chain that is forced, what follows left open. -/
def ordP (md : Region.Mode) (ops : Array Oper) : List Nat → Array Bool → Bool
  | [], listed => true
  | i :: l, listed => decide (Region.ready md ops listed = [i]) && ordP md ops l (listed.setIfInBounds i true)
def Ord.okB (md : Region.Mode) (ops : Array Oper) : Ord → Nat → Array Bool → Bool
  | .chain ts, n, listed => decide (ts.length = n) && seqL md ops ts listed
  | .pre ts t, n, listed => decide (ts.length ≤ n) && ordP md ops ts listed && t.okB md ops (n - ts.length) (marked listed ts)
  | .fork _ _ _ _, 0, _ => false
  | .fork3 _ _ _ _ _ _, 0, _ => false
  | .fork3 i t j u k v, n + 1, listed => decide (Region.ready md ops listed = [i, j, k]) && t.okB md ops n (listed.setIfInBounds i true) && u.okB md ops n (listed.setIfInBounds j true) && v.okB md ops n (listed.setIfInBounds k true)
  | .fork i t j u, n + 1, listed => decide (Region.ready md ops listed = [i, j]) && t.okB md ops n (listed.setIfInBounds i true) && u.okB md ops n (listed.setIfInBounds j true)
def wpOrd (P : Program) (ops : Array Oper) (l : List Oper) (K : Act → World → Prop) : Ord → Act → World → Prop
  | .chain ts, a, w => wpList P ops (Only K) (pick l ts) a w
  | .fork i t j u, a, w => wpList P ops (Only (wpOrd P ops l K t)) (pick l [i]) a w ∧ wpList P ops (Only (wpOrd P ops l K u)) (pick l [j]) a w
  | .pre ts t, a, w => wpList P ops (Only (wpOrd P ops l K t)) (pick l ts) a w
  | .fork3 i t j u k v, a, w => wpList P ops (Only (wpOrd P ops l K t)) (pick l [i]) a w ∧ wpList P ops (Only (wpOrd P ops l K u)) (pick l [j]) a w ∧ wpList P ops (Only (wpOrd P ops l K v)) (pick l [k]) a w
theorem ord_outgrown (K : Act → World → Prop) : ¬ LetsOut (Only K) := fun ⟨_, _, h⟩ => h
theorem ord_only {o : Oper} {a : Act} {w : World} {K K1 K2 : Act → World → Prop} (hh : o.wp P a w K (Only K1)) : o.wp P a w K (Only K2) := by
  unfold Oper.wp at *
  generalize (execOp a.eval o).run P w = r at *
  cases r with
  | ok n w' =>
    cases n with
    | enter f args =>
      rw [Oper.upon_enter] at hh ⊢
      refine Calls.mono hh ?_
      intro e w'' h
      cases e with
      | returned v => exact h
      | panicked c => exact (h : False).elim
      | outgrown => exact (ord_outgrown _ h).elim
    | _ => exact hh
  | halt x w' =>
    cases x with
    | panic v => rw [Oper.upon_panic] at hh; exact (hh : False).elim
    | _ => exact hh
theorem ord_one {l : List Oper} {i : Nat} {K K' : Act → World → Prop} {a : Act} {w : World} (hl : i < l.length) (h : wpList P l.toArray (Only K') (pick l [i]) a w) : wpOp P l.toArray (Only K) i K' a w := by
  have e : l[i]? = some l[i] := List.getElem?_eq_getElem hl
  have e2 : pick l [i] = [l[i]] := by simp [pick, e]
  rw [e2] at h
  have e3 : l.toArray[i]? = some l[i] := by simp [e]
  unfold wpOp
  rw [e3]
  have hK : (wpList P l.toArray (Only K') [] : Act → World → Prop) = K' := by funext a w; rfl
  unfold wpList at h
  simp only
  split at h
  · rename_i hw
    rw [if_pos hw]
    rcases h with h | h
    · rw [hK] at h; exact .inl (ord_only h)
    · exact (ord_outgrown _ h.2).elim
  · rename_i hw
    rw [if_neg hw]
    rw [hK] at h; exact h
theorem wpM_ordpre {l : List Oper} {K K' : Act → World → Prop} {h1 h2 : List Nat} {n : Nat} : ∀ (ts : List Nat) (listed : Array Bool) (a : Act) (w : World), (∀ i ∈ ts, (i ∉ h1 ∧ i ∉ h2) ∧ i < l.length) → ordP md l.toArray ts listed = true →
    (∀ a' w', K' a' w' → wpM P md l.toArray (Only K) C h1 h2 n (marked listed ts) a' w') → wpList P l.toArray (Only K') (pick l ts) a w → wpM P md l.toArray (Only K) C h1 h2 (n + ts.length) listed a w := by
  intro ts
  induction ts with
  | nil => intro listed a w _ _ hk h; exact hk a w h
  | cons i ts ih =>
    intro listed a w hn hB hk h
    simp only [ordP, Bool.and_eq_true, decide_eq_true_eq] at hB
    obtain ⟨hr, hB⟩ := hB
    have hni := hn i (by simp)
    have e : l[i]? = some l[i] := List.getElem?_eq_getElem hni.2
    have e2 : pick l (i :: ts) = l[i] :: pick l ts := by simp [pick, e]
    have e3 : l.toArray[i]? = some l[i] := by simp [e]
    rw [e2] at h
    have hop : wpOp P l.toArray (Only K) i (wpList P l.toArray (Only K') (pick l ts)) a w := by
      unfold wpOp
      rw [e3]
      unfold wpList at h
      simp only
      split at h
      · rename_i hw
        rw [if_pos hw]
        rcases h with h | h
        · exact .inl (ord_only h)
        · exact (ord_outgrown _ h.2).elim
      · rename_i hw
        rw [if_neg hw]; exact h
    rw [List.length_cons, show n + (ts.length + 1) = (n + ts.length) + 1 by omega]
    refine ⟨fun h1 => (by rw [hr] at h1; cases h1), fun k hk2 => ?_⟩
    rw [hr] at hk2
    obtain rfl : k = i := by simpa using hk2
    rw [if_neg hni.1.1, if_neg hni.1.2]
    exact wpOp_mono (fun a' w' h' => ih _ a' w' (fun x hx => hn x (List.mem_cons_of_mem _ hx)) hB hk h') hop
theorem wpM_ord {l : List Oper} {K : Act → World → Prop} {h1 h2 : List Nat} : ∀ (T : Ord) (n : Nat) (listed : Array Bool) (a : Act) (w : World), (∀ i ∈ T.nodes, (i ∉ h1 ∧ i ∉ h2) ∧ i < l.length) → T.okB md l.toArray n listed = true →
    wpOrd P l.toArray l K T a w → wpM P md l.toArray (Only K) C h1 h2 n listed a w := by
  intro T
  induction T with
  | chain ts =>
    intro n listed a w hn hB h
    simp only [Ord.okB, Bool.and_eq_true, decide_eq_true_eq] at hB
    rw [← hB.1]
    exact wpM_seq ts (pick l ts) _ a w (fun i hi => (hn i hi).1) (pick_map ts fun i hi => (hn i hi).2) hB.2 h
  | pre ts t iht =>
    intro n listed a w hn hB h
    simp only [Ord.okB, Bool.and_eq_true, decide_eq_true_eq] at hB
    obtain ⟨⟨hlen, hB1⟩, hB2⟩ := hB
    have hr := wpM_ordpre (md := md) (C := C) (h1 := h1) (h2 := h2) (K := K) (n := n - ts.length) ts listed a w (fun i hi => hn i (by simp [Ord.nodes, hi])) hB1 (fun a' w' h' => iht _ _ a' w' (fun x hx => hn x (by simp [Ord.nodes, hx])) hB2 h') h
    rwa [show n - ts.length + ts.length = n by omega] at hr
  | fork3 i t j u k v iht ihu ihv =>
    intro n listed a w hn hB h
    cases n with
    | zero => simp [Ord.okB] at hB
    | succ n =>
      simp only [Ord.okB, Bool.and_eq_true, decide_eq_true_eq] at hB
      obtain ⟨⟨⟨hr, hBt⟩, hBu⟩, hBv⟩ := hB
      refine ⟨fun h1 => (by rw [hr] at h1; cases h1), fun q hq => ?_⟩
      rw [hr] at hq
      have hni := hn i (by simp [Ord.nodes])
      have hnj := hn j (by simp [Ord.nodes])
      have hnk := hn k (by simp [Ord.nodes])
      have hq2 : q = i ∨ q = j ∨ q = k := by simpa using hq
      rcases hq2 with rfl | rfl | rfl
      · rw [if_neg hni.1.1, if_neg hni.1.2]
        exact wpOp_mono (fun a' w' h' => iht n _ a' w' (fun x hx => hn x (by simp [Ord.nodes, hx])) hBt h') (ord_one hni.2 h.1)
      · rw [if_neg hnj.1.1, if_neg hnj.1.2]
        exact wpOp_mono (fun a' w' h' => ihu n _ a' w' (fun x hx => hn x (by simp [Ord.nodes, hx])) hBu h') (ord_one hnj.2 h.2.1)
      · rw [if_neg hnk.1.1, if_neg hnk.1.2]
        exact wpOp_mono (fun a' w' h' => ihv n _ a' w' (fun x hx => hn x (by simp [Ord.nodes, hx])) hBv h') (ord_one hnk.2 h.2.2)
  | fork i t j u iht ihu =>
    intro n listed a w hn hB h
    cases n with
    | zero => simp [Ord.okB] at hB
    | succ n =>
      simp only [Ord.okB, Bool.and_eq_true, decide_eq_true_eq] at hB
      obtain ⟨⟨hr, hBt⟩, hBu⟩ := hB
      refine ⟨fun h1 => (by rw [hr] at h1; cases h1), fun k hk => ?_⟩
      rw [hr] at hk
      have hni := hn i (by simp [Ord.nodes])
      have hnj := hn j (by simp [Ord.nodes])
      have hk2 : k = i ∨ k = j := by simpa using hk
      rcases hk2 with rfl | rfl
      · rw [if_neg hni.1.1, if_neg hni.1.2]
        exact wpOp_mono (fun a' w' h' => iht n _ a' w' (fun x hx => hn x (by simp [Ord.nodes, hx])) hBt h') (ord_one hni.2 h.1)
      · rw [if_neg hnj.1.1, if_neg hnj.1.2]
        exact wpOp_mono (fun a' w' h' => ihu n _ a' w' (fun x hx => hn x (by simp [Ord.nodes, hx])) hBu h') (ord_one hnj.2 h.2)

def ordB (md : Region.Mode) (ops : Array Oper) (h1 h2 : List Nat) (T : Ord) : Bool :=
  Region.noSelect ops && h2.all (fun i => !h1.contains i) && T.nodes.all (fun i => !h1.contains i && !h2.contains i && decide (i < ops.size)) &&
  (List.range ops.size).all (fun t => h1.contains t || h2.contains t || (match ops[t]? with | some o => newOp o.op | none => false) || h2.all fun i => anc md ops ops.size t i) &&
  hoistB md ops (h1 ++ h2) (Array.replicate ops.size false) && T.okB md ops (ops.size - h1.length - h2.length) (marked (Array.replicate ops.size false) (h1 ++ h2)) && decide (h1.length + h2.length ≤ ops.size)

theorem any_ord {a : Act} {w : World} {l : List Oper} (h1 h2 : List Nat) (T : Ord) (C : World → Prop) (hB : ordB .any l.toArray h1 h2 T = true)
    (hC : ∀ w w', C w → Below w.heap.size w w' → C w') (hw : C { w with drawn := w.drawn + 1 })
    (h : ∀ K : Act → World → Prop, (∀ a w, Q .normal a w → K a w) → wpQuiet P l.toArray (fun _ => True) (fun a1 => wpQuiet P l.toArray C (fun a2 => wpOrd P l.toArray l K T a2 { w with drawn := w.drawn + 1 }) (pick l h2) a1) (pick l h1) a) :
    wpAny P .any l.toArray (Only fun a w => Q .normal a w) l.toArray.size (Array.replicate l.toArray.size false) a { w with drawn := w.drawn + 1 } := by
  have H := h (fun a w => Q .normal a w) fun _ _ h => h
  simp only [ordB, Bool.and_eq_true, decide_eq_true_eq] at hB
  obtain ⟨⟨⟨⟨⟨⟨hsel, h12⟩, hts⟩, htail⟩, hh⟩, hseq⟩, hlen⟩ := hB
  have h12' : ∀ i ∈ h2, i ∉ h1 := fun i hi => by simpa using List.all_eq_true.1 h12 i hi
  have hts' : ∀ i ∈ T.nodes, (i ∉ h1 ∧ i ∉ h2) ∧ i < l.length := fun i hi => by simpa using List.all_eq_true.1 hts i hi
  have htail' : ∀ j oj, l.toArray[j]? = some oj → j ∉ h1 → j ∉ h2 → newOp oj.op = true ∨ ∀ i ∈ h2, anc .any l.toArray l.toArray.size j i = true := fun j oj hj n1 n2 => by
    have h3 := List.all_eq_true.1 htail j (List.mem_range.2 (Array.getElem?_eq_some_iff.1 hj).1)
    simp only [hj, Bool.or_eq_true, List.contains_iff_mem, n1, n2, false_or] at h3
    rcases h3 with h3 | h3
    · exact .inl h3
    · exact .inr fun i hi => List.all_eq_true.1 h3 i hi
  rw [hoistB_append, Bool.and_eq_true] at hh
  rw [marked_append] at hseq
  have lt1 := hoistB_lt _ _ hh.1
  have lt2 := hoistB_lt _ _ hh.2
  have hQ' : ∀ c a w d v, Only (fun a w => Q .normal a w) (.panic c) (a.put d v) w → Only (fun a w => Q .normal a w) (.panic c) a w := fun _ _ _ _ _ h => h
  have cl0 : Closed .any l.toArray (Array.replicate l.toArray.size false) := fun j oj _ hl => by rw [getD_replicate_false] at hl; cases hl
  have cl1 := closed_marked _ _ hh.1 cl0
  refine wpAny_of_M (C := C) (h1 := h1) (h2 := h2) _ _ _ _ ?_
  obtain ⟨N, hN⟩ : ∃ N, N = l.toArray.size - h1.length - h2.length := ⟨_, rfl⟩
  rw [← hN] at hseq
  have key : wpM P .any l.toArray (Only fun a w => Q .normal a w) C h1 h2 (N + h2.length + h1.length) (Array.replicate l.toArray.size false) a { w with drawn := w.drawn + 1 } := ?_
  · have e : l.toArray.size = N + h2.length + h1.length := by omega
    have e2 : ∀ n, n = N + h2.length + h1.length → wpM P .any l.toArray (Only fun a w => Q .normal a w) C h1 h2 n (Array.replicate l.toArray.size false) a { w with drawn := w.drawn + 1 } := fun n hn => hn ▸ key
    exact e2 _ e
  refine hoist1 hsel hQ' h1 (pick l h1) _ a (fun i hi => hi) (pick_map h1 (by simpa using lt1)) hh.1 (fun a1 H1 => ?_) H
  refine hoist2 hsel hQ' hC h12' htail' hw h2 (pick l h2) _ a1 (fun i hi => hi) (pick_map h2 (by simpa using lt2)) hh.2 cl1 (fun a2 H2 => ?_) H1
  exact wpM_ord T N _ a2 _ hts' hseq H2

/-- Some operations first (those of h1 look at no memory), then a tree of orders. -/
theorem wp_region_ordL {id : Nat} {a : Act} {w : World} {l : List Oper} (h1 h2 : List Nat) (T : Ord) (hm : P.follows .mixedOrders = true) (hB : ordB .any l.toArray h1 h2 T = true)
    (h : ∀ K : Act → World → Prop, (∀ a w, Q .normal a w → K a w) → wpQuiet P l.toArray (fun _ => True) (fun a1 => wpQuiet P l.toArray (fun w' => ∃ n : Lat w, w' = n.w) (fun a2 => wpOrd P l.toArray l K T a2 w.drew) (pick l h2) a1) (pick l h1) a) :
    (Code.region id l.toArray true).wp P Q a w := by
  refine Code.wp_mono (Q := Only fun a w => Q .normal a w) (fun e a w h => by cases e <;> first | exact h | exact h.elim) ?_
  exact wp_region_any hm (any_ord h1 h2 T (fun w' => ∃ n : Lat w, w' = n.w) hB (fun _ w2 ⟨n, e⟩ hb => by subst e; exact ⟨⟨w2, n.below.trans (hb.mono n.below.size)⟩, rfl⟩) ⟨Lat.drew w, rfl⟩ h)
end
end Go.Proofs.Ytnakjencodicmaa.Mix

-- ---- Jd
/- huff's reader: one part. Conditions: those that each theorem names. -/
namespace Go.Proofs.Ytnakjencodicmaa
set_option maxRecDepth 100000
set_option linter.unusedSimpArgs false
set_option linter.unusedVariables false
open Go.RowKit Mix _root_.Go.Proofs.Ytnakjencodicmaa.Own Bits Hu Dp
attribute [local go_sem] max_int min_int

/-- What reading a part answers: the part, the error; what is left. -/
def PartPost (L : List Int) (q : Nat) (s : ByteArray) (k : Nat) (w : World) (e : Ending) (w' : World) : Prop :=
  e = .returned (.tuple #[.agg #[.int .i64 ((getOne L ((bitsS s).drop k)).2.1.1 : Int), .int .u64 ((getOne L ((bitsS s).drop k)).2.1.2 : Int)], .int .i64 ((getOne L ((bitsS s).drop k)).1 : Int)]) ∧
  ((getOne L ((bitsS s).drop k)).1 = 0 → ∃ k', k' ≤ 8 * s.size ∧ IsRd w' q s k' ∧ (bitsS s).drop k' = (getOne L ((bitsS s).drop k)).2.2) ∧ Chg (fun b => b = q) w w'
theorem getOne_err {L : List Int} {bs : List Bool} (h : (dec L bs 0 0).1 ≠ 0) : getOne L bs = ((dec L bs 0 0).1, (0, 0), bs) := by unfold getOne; rw [if_pos h]
theorem getOne_more {L : List Int} {bs : List Bool} {c n : Nat} (h : dec L bs 0 0 = (0, c, n)) (hl : bs.length < n + (c - 1)) : getOne L bs = (2, (0, 0), bs) := by unfold getOne; rw [h]; simp [hl]
theorem getOne_ok {L : List Int} {bs : List Bool} {c n : Nat} (h : dec L bs 0 0 = (0, c, n)) (hl : ¬ bs.length < n + (c - 1)) : getOne L bs = (0, (c, ofBits ((bs.drop n).take (c - 1))), bs.drop (n + (c - 1))) := by unfold getOne; rw [h]; simp [hl]

set_option maxHeartbeats 8000000 in
theorem read_code (L : List Int) (F : List (Nat × Nat × Nat)) (p q b : Nat) (s : ByteArray) (k : Nat) (w : World) (h : IsHr w p q b s k F) (hs : s.size ≤ 1000000000000) (hk2 : k ≤ 8 * s.size)
    (how : ∀ w1, IsHr w1 p q b s k F → Calls Try.prog 33 #[.pointer (some ⟨p, 0, none⟩)] w1 (StepPost L q s k w1)) :
    Calls Try.prog 35 #[.pointer (some ⟨p, 0, none⟩), .func (.func 33) #[.pointer (some ⟨p, 0, none⟩)] #[]] w (PartPost L q s k w) := by
  have H := kept h
  have HPQ := kept h.pq
  have HHow := kept how
  clear h how
  obtain ⟨er, c, n, hd⟩ : ∃ er c n, dec L ((bitsS s).drop k) 0 0 = (er, c, n) := ⟨_, _, _, rfl⟩
  have HD := kept hd
  have hus := dec_used L ((bitsS s).drop k) 0 0
  rw [hd] at hus
  have HUs := kept hus
  clear hd hus
  go_enter Try.func35, Try.ntmps35
  go_wp2_with fail
  obtain ⟨pp, hpp⟩ : ∃ pp, pp = w.heap.size := ⟨_, rfl⟩
  generalize hw1 : World.alloc w _ = w1
  have HP1 : Kept (Blk w1 pp #[.int .i64 0, .int .u64 0] 54) := kept (by rw [hpp, ← hw1]; exact Blk.fresh _ _ _)
  have HB1 : Kept (Below w.heap.size w w1) := kept (by rw [← hw1]; exact (Below.refl _ _).alloc (Nat.le_refl _) _)
  have HPn : Kept (w.heap.size ≤ pp) := kept (Nat.le_of_eq hpp.symm)
  rw [← hpp]
  clear hw1 hpp
  have HH1 : Kept (IsHr w1 p q b s k F) := kept ⟨(HB1.out.block p (Blk.lt H.out.self)).trans H.out.self, H.out.rd.later HB1.out, H.out.mp.later HB1.out⟩
  refine (HHow.out w1 HH1.out).mono ?_
  rintro e w2 ⟨rfl, hR2, hC2⟩
  rw [HD.out] at hR2 ⊢
  have hqlt : q < w.heap.size := Blk.lt H.out.rd
  have hplt : p < w.heap.size := Blk.lt H.out.self
  have hpn := HPn.out
  have hB2 : Blk w2 pp #[.int .i64 0, .int .u64 0] 54 := hC2.keep HP1.out (by omega)
  have hS2 : Blk w2 p #[.pointer (some ⟨q, 0, none⟩), .map (some b)] 85 := hC2.keep HH1.out.self HPQ.out
  have hC12 : Chg (fun x => x = q) w w2 := (Chg.of_below HB1.out).trans hC2 (fun _ _ h => h)
  have d0 : w2.cell? ⟨pp, 0, none⟩ = some (.int .i64 0) := Blk.cell hB2 rfl
  have d1 : w2.cell? ⟨pp, 1, none⟩ = some (.int .u64 0) := Blk.cell hB2 rfl
  have f0 : w2.frozen? ⟨pp, 0, none⟩ = false := Blk.free hB2 0
  have f1 : w2.frozen? ⟨pp, 1, none⟩ = false := Blk.free hB2 1
  have hb3 : Blk (w2.setCell ⟨pp, 0, none⟩ (.int .i64 (c : Int))) pp #[.int .i64 (c : Int), .int .u64 0] 54 := by
    have h := Blk.set hB2 0 (.int .i64 (c : Int))
    simpa using h
  have HB2 := kept hB2
  have HS2 := kept hS2
  have HC2 := kept hC12
  have HR2 := kept hR2
  have HB3 := kept hb3
  clear hR2 hC2 hB2 hS2 hC12 hb3
  by_cases her : er = 0
  · subst her
    have hR3 := HR2.out rfl
    obtain ⟨_, hlen, h65⟩ := HUs.out rfl
    rw [Nat.zero_add, List.length_drop, length_bitsS] at hlen
    simp only at hlen h65 hR3
    have hC3 : Chg (fun x => x = q) w (w2.setCell ⟨pp, 0, none⟩ (.int .i64 (c : Int))) := HC2.out.trans (Chg.setCell w2 ⟨pp, 0, none⟩ _) (fun x hx h => by simp at h; omega)
    have hR4 : IsRd (w2.setCell ⟨pp, 0, none⟩ (.int .i64 (c : Int))) q s (k + n) := (Chg.setCell w2 ⟨pp, 0, none⟩ (.int .i64 (c : Int))).keep hR3 (fun h => by simp at h; omega)
    have hS4 : Blk (w2.setCell ⟨pp, 0, none⟩ (.int .i64 (c : Int))) p #[.pointer (some ⟨q, 0, none⟩), .map (some b)] 85 := Blk.setOther HS2.out (show p ≠ pp by omega) _
    have HC3 := kept hC3
    have HR4 := kept hR4
    have HS4 := kept hS4
    clear hR3 hC3 hR4 hS4
    go_upto_region 4 with fail
    generalize World.setCell w2 _ _ = w3 at HB3 HC3 HR4 HS4 ⊢
    clear d0 d1 f0 f1
    have e0 := lat_cell (Blk.cell HS4.out (i := 0) rfl)
    have e1 := lat_cell (Blk.cell HB3.out (i := 0) rfl)
    have emx : mx 0 ((c : Int) - 1) = ((c - 1 : Nat) : Int) := by rw [mx_eq]; omega
    have hbn : ((bitsS s).drop k).drop n = (bitsS s).drop (k + n) := by rw [List.drop_drop]
    refine wp_region_ordL [0,1,2,4] [3,5,6,7] (.pre [8,9] (.fork 10 (.fork 11 (.chain [12,13,14]) 12 (.fork 11 (.chain [13,14]) 13 (.chain [11,14]))) 11 (.chain [10,12,13,14]))) (by kernel_rfl) (by kernel_rfl) ?_
    intro K hK
    simp only [pick, List.filterMap_cons, List.filterMap_nil, List.getElem?_cons_zero, List.getElem?_cons_succ]
    iterate 8 (show wpQuiet _ _ _ _ (_ :: _) _; go_big_quiet_step (fail))
    refine wpQuiet_nil ?_
    clear e0 e1 emx
    have hwd : Below w3.heap.size w3 w3.drew := (Below.refl _ _).drew
    generalize w3.drew = w4 at hwd ⊢
    have HB4 : Kept (Blk w4 pp #[.int .i64 (c : Int), .int .u64 0] 54) := kept ((hwd.block pp (Blk.lt HB3.out)).trans HB3.out)
    have HR5 := kept (HR4.out.later hwd)
    have HC4 := kept (HC3.out.trans (Chg.of_below hwd) (fun _ _ h => h))
    clear hwd
    unfold wpOrd
    simp only [pick, List.filterMap_cons, List.filterMap_nil, List.getElem?_cons_zero, List.getElem?_cons_succ]
    generalize hT : wpOrd _ _ _ K (Ord.fork _ _ _ _) = T
    have HT := kept hT
    clear hT
    show wpList _ _ _ [_, _] _ _
    by_cases hmore : k + n + (c - 1) ≤ 8 * s.size
    · have HGet := kept (get_ok q s (k + n) (c - 1) w4 HR5.out hs (by omega) (by omega) hmore)
      obtain ⟨r, hr⟩ : ∃ r, r = ofBits (((bitsS s).drop (k + n)).take (c - 1)) := ⟨_, rfl⟩
      have hg : getOne L ((bitsS s).drop k) = (0, (c, r), (bitsS s).drop (k + n + (c - 1))) := by
        rw [getOne_ok HD.out (by rw [List.length_drop, length_bitsS]; omega), hbn, ← hr, List.drop_drop, show k + (n + (c - 1)) = k + n + (c - 1) by omega]
      rw [← hr] at HGet
      have HGo := kept hg
      clear hr hg hbn
      go_wp2_with fail
      refine HGet.out.mono ?_
      rintro e w5 ⟨rfl, hR5, hC5⟩
      have hB5 : Blk w5 pp #[.int .i64 (c : Int), .int .u64 0] 54 := hC5.keep HB4.out (by omega)
      have d0 : w5.cell? ⟨pp, 0, none⟩ = some (.int .i64 (c : Int)) := Blk.cell hB5 rfl
      have d1 : w5.cell? ⟨pp, 1, none⟩ = some (.int .u64 0) := Blk.cell hB5 rfl
      have f0 : w5.frozen? ⟨pp, 0, none⟩ = false := Blk.free hB5 0
      have f1 : w5.frozen? ⟨pp, 1, none⟩ = false := Blk.free hB5 1
      have HC5 := kept (HC4.out.trans hC5 (fun _ _ h => h))
      have HR6 := kept hR5
      have HB5 := kept hB5
      clear hR5 hC5 hB5
      go_wp2_with fail
      show T _ _
      rw [← HT.out]
      clear HT T
      unfold wpOrd
      simp only [pick, List.filterMap_cons, List.filterMap_nil, List.getElem?_cons_zero, List.getElem?_cons_succ]
      refine ⟨?_, ?_⟩
      · generalize hT : wpOrd _ _ _ K _ = T
        have HT := kept hT
        clear hT
        go_wp2_with fail
        show T _ _
        rw [← HT.out]
        clear HT T
        unfold wpOrd
        simp only [pick, List.filterMap_cons, List.filterMap_nil, List.getElem?_cons_zero, List.getElem?_cons_succ]
        refine ⟨?_, ?_⟩
        · generalize hT : wpOrd _ _ _ K _ = T
          have HT := kept hT
          clear hT
          go_wp2_with fail
          show T _ _
          rw [← HT.out]
          clear HT T
          unfold wpOrd
          simp only [pick, List.filterMap_cons, List.filterMap_nil, List.getElem?_cons_zero, List.getElem?_cons_succ]
          show wpList _ _ _ [_, _, _] _ _
          go_wp2_with fail
          refine hK _ _ ?_
          go_wp2_with fail
          generalize hwz : World.setCell _ _ _ = wz
          have hBz : Blk wz pp #[.int .i64 (c : Int), .int .u64 (r : Int)] 54 := by rw [← hwz]; have h := ((HB5.out.set 1 (.int .u64 (r : Int))).set 0 (.int .i64 (c : Int))).set 1 (.int .u64 (r : Int)); simpa using h
          have hCz : Chg (fun x => x = pp) w5 wz := by rw [← hwz]; exact ((Chg.setCell w5 ⟨pp, 1, none⟩ _).trans (Chg.setCell _ ⟨pp, 0, none⟩ _) (fun _ _ h => h)).trans (Chg.setCell _ ⟨pp, 1, none⟩ _) (fun _ _ h => h)
          have z0 : wz.cell? ⟨pp, 0, none⟩ = some (.int .i64 (c : Int)) := Blk.cell hBz rfl
          have z1 : wz.cell? ⟨pp, 1, none⟩ = some (.int .u64 (r : Int)) := Blk.cell hBz rfl
          refine bodyPost_ret (v := .tuple #[.agg #[.int .i64 (c : Int), .int .u64 (r : Int)], .int .i64 0]) (by simp [results, Try.results35, go_sem, z0, z1]) rfl ?_
          exact ⟨by rw [HGo.out]; rfl, fun _ => ⟨k + n + (c - 1), hmore, hCz.keep HR6.out (by omega), by rw [HGo.out]⟩, HC5.out.trans hCz (fun x hx h => by omega)⟩
        · generalize hT : wpOrd _ _ _ K _ = T
          have HT := kept hT
          clear hT
          go_wp2_with fail
          show T _ _
          rw [← HT.out]
          clear HT T
          unfold wpOrd
          simp only [pick, List.filterMap_cons, List.filterMap_nil, List.getElem?_cons_zero, List.getElem?_cons_succ]
          refine ⟨?_, ?_⟩
          · generalize hT : wpOrd _ _ _ K _ = T
            have HT := kept hT
            clear hT
            go_wp2_with fail
            show T _ _
            rw [← HT.out]
            clear HT T
            unfold wpOrd
            simp only [pick, List.filterMap_cons, List.filterMap_nil, List.getElem?_cons_zero, List.getElem?_cons_succ]
            show wpList _ _ _ [_, _] _ _
            go_wp2_with fail
            refine hK _ _ ?_
            go_wp2_with fail
            generalize hwz : World.setCell _ _ _ = wz
            have hBz : Blk wz pp #[.int .i64 (c : Int), .int .u64 (r : Int)] 54 := by rw [← hwz]; have h := ((HB5.out.set 1 (.int .u64 (r : Int))).set 0 (.int .i64 (c : Int))).set 1 (.int .u64 (r : Int)); simpa using h
            have hCz : Chg (fun x => x = pp) w5 wz := by rw [← hwz]; exact ((Chg.setCell w5 ⟨pp, 1, none⟩ _).trans (Chg.setCell _ ⟨pp, 0, none⟩ _) (fun _ _ h => h)).trans (Chg.setCell _ ⟨pp, 1, none⟩ _) (fun _ _ h => h)
            have z0 : wz.cell? ⟨pp, 0, none⟩ = some (.int .i64 (c : Int)) := Blk.cell hBz rfl
            have z1 : wz.cell? ⟨pp, 1, none⟩ = some (.int .u64 (r : Int)) := Blk.cell hBz rfl
            refine bodyPost_ret (v := .tuple #[.agg #[.int .i64 (c : Int), .int .u64 (r : Int)], .int .i64 0]) (by simp [results, Try.results35, go_sem, z0, z1]) rfl ?_
            exact ⟨by rw [HGo.out]; rfl, fun _ => ⟨k + n + (c - 1), hmore, hCz.keep HR6.out (by omega), by rw [HGo.out]⟩, HC5.out.trans hCz (fun x hx h => by omega)⟩
          · generalize hT : wpOrd _ _ _ K _ = T
            have HT := kept hT
            clear hT
            go_wp2_with fail
            show T _ _
            rw [← HT.out]
            clear HT T
            unfold wpOrd
            simp only [pick, List.filterMap_cons, List.filterMap_nil, List.getElem?_cons_zero, List.getElem?_cons_succ]
            show wpList _ _ _ [_, _] _ _
            go_wp2_with fail
            refine hK _ _ ?_
            go_wp2_with fail
            generalize hwz : World.setCell _ _ _ = wz
            have hBz : Blk wz pp #[.int .i64 (c : Int), .int .u64 (r : Int)] 54 := by rw [← hwz]; have h := ((HB5.out.set 1 (.int .u64 (r : Int))).set 0 (.int .i64 (c : Int))).set 1 (.int .u64 (r : Int)); simpa using h
            have hCz : Chg (fun x => x = pp) w5 wz := by rw [← hwz]; exact ((Chg.setCell w5 ⟨pp, 1, none⟩ _).trans (Chg.setCell _ ⟨pp, 0, none⟩ _) (fun _ _ h => h)).trans (Chg.setCell _ ⟨pp, 1, none⟩ _) (fun _ _ h => h)
            have z0 : wz.cell? ⟨pp, 0, none⟩ = some (.int .i64 (c : Int)) := Blk.cell hBz rfl
            have z1 : wz.cell? ⟨pp, 1, none⟩ = some (.int .u64 (r : Int)) := Blk.cell hBz rfl
            refine bodyPost_ret (v := .tuple #[.agg #[.int .i64 (c : Int), .int .u64 (r : Int)], .int .i64 0]) (by simp [results, Try.results35, go_sem, z0, z1]) rfl ?_
            exact ⟨by rw [HGo.out]; rfl, fun _ => ⟨k + n + (c - 1), hmore, hCz.keep HR6.out (by omega), by rw [HGo.out]⟩, HC5.out.trans hCz (fun x hx h => by omega)⟩
      · generalize hT : wpOrd _ _ _ K _ = T
        have HT := kept hT
        clear hT
        go_wp2_with fail
        show T _ _
        rw [← HT.out]
        clear HT T
        unfold wpOrd
        simp only [pick, List.filterMap_cons, List.filterMap_nil, List.getElem?_cons_zero, List.getElem?_cons_succ]
        show wpList _ _ _ [_, _, _, _] _ _
        go_wp2_with fail
        refine hK _ _ ?_
        go_wp2_with fail
        generalize hwz : World.setCell _ _ _ = wz
        have hBz : Blk wz pp #[.int .i64 (c : Int), .int .u64 (r : Int)] 54 := by rw [← hwz]; have h := ((HB5.out.set 1 (.int .u64 (r : Int))).set 0 (.int .i64 (c : Int))).set 1 (.int .u64 (r : Int)); simpa using h
        have hCz : Chg (fun x => x = pp) w5 wz := by rw [← hwz]; exact ((Chg.setCell w5 ⟨pp, 1, none⟩ _).trans (Chg.setCell _ ⟨pp, 0, none⟩ _) (fun _ _ h => h)).trans (Chg.setCell _ ⟨pp, 1, none⟩ _) (fun _ _ h => h)
        have z0 : wz.cell? ⟨pp, 0, none⟩ = some (.int .i64 (c : Int)) := Blk.cell hBz rfl
        have z1 : wz.cell? ⟨pp, 1, none⟩ = some (.int .u64 (r : Int)) := Blk.cell hBz rfl
        refine bodyPost_ret (v := .tuple #[.agg #[.int .i64 (c : Int), .int .u64 (r : Int)], .int .i64 0]) (by simp [results, Try.results35, go_sem, z0, z1]) rfl ?_
        exact ⟨by rw [HGo.out]; rfl, fun _ => ⟨k + n + (c - 1), hmore, hCz.keep HR6.out (by omega), by rw [HGo.out]⟩, HC5.out.trans hCz (fun x hx h => by omega)⟩
    · have HGet := kept (get_more q s (k + n) (c - 1) w4 HR5.out hs (by omega) (by omega) (by omega))
      have hg : getOne L ((bitsS s).drop k) = (2, (0, 0), (bitsS s).drop k) := getOne_more HD.out (by rw [List.length_drop, length_bitsS]; omega)
      have HGo := kept hg
      clear hg hbn
      go_wp2_with fail
      refine HGet.out.mono ?_
      rintro e w5 ⟨rfl, hb5⟩
      have hB5 : Blk w5 pp #[.int .i64 (c : Int), .int .u64 0] 54 := (hb5.block pp (Blk.lt HB4.out)).trans HB4.out
      have d0 : w5.cell? ⟨pp, 0, none⟩ = some (.int .i64 (c : Int)) := Blk.cell hB5 rfl
      have d1 : w5.cell? ⟨pp, 1, none⟩ = some (.int .u64 0) := Blk.cell hB5 rfl
      have f0 : w5.frozen? ⟨pp, 0, none⟩ = false := Blk.free hB5 0
      have f1 : w5.frozen? ⟨pp, 1, none⟩ = false := Blk.free hB5 1
      have HC5 := kept (HC4.out.trans (Chg.of_below hb5) (fun _ _ h => h))
      have HB5 := kept hB5
      clear hb5 hB5
      go_wp2_with fail
      show T _ _
      rw [← HT.out]
      clear HT T
      unfold wpOrd
      simp only [pick, List.filterMap_cons, List.filterMap_nil, List.getElem?_cons_zero, List.getElem?_cons_succ]
      refine ⟨?_, ?_⟩
      · generalize hT : wpOrd _ _ _ K _ = T
        have HT := kept hT
        clear hT
        go_wp2_with fail
        show T _ _
        rw [← HT.out]
        clear HT T
        unfold wpOrd
        simp only [pick, List.filterMap_cons, List.filterMap_nil, List.getElem?_cons_zero, List.getElem?_cons_succ]
        refine ⟨?_, ?_⟩
        · generalize hT : wpOrd _ _ _ K _ = T
          have HT := kept hT
          clear hT
          go_wp2_with fail
          show T _ _
          rw [← HT.out]
          clear HT T
          unfold wpOrd
          simp only [pick, List.filterMap_cons, List.filterMap_nil, List.getElem?_cons_zero, List.getElem?_cons_succ]
          show wpList _ _ _ [_, _, _] _ _
          go_wp2_with fail
          refine hK _ _ ?_
          go_wp2_with fail
          generalize hwz : World.setCell _ _ _ = wz
          have hBz : Blk wz pp #[.int .i64 0, .int .u64 0] 54 := by rw [← hwz]; have h := ((HB5.out.set 1 (.int .u64 0)).set 0 (.int .i64 0)).set 1 (.int .u64 0); simpa using h
          have hCz : Chg (fun x => x = pp) w5 wz := by rw [← hwz]; exact ((Chg.setCell w5 ⟨pp, 1, none⟩ _).trans (Chg.setCell _ ⟨pp, 0, none⟩ _) (fun _ _ h => h)).trans (Chg.setCell _ ⟨pp, 1, none⟩ _) (fun _ _ h => h)
          have z0 : wz.cell? ⟨pp, 0, none⟩ = some (.int .i64 0) := Blk.cell hBz rfl
          have z1 : wz.cell? ⟨pp, 1, none⟩ = some (.int .u64 0) := Blk.cell hBz rfl
          refine bodyPost_ret (v := .tuple #[.agg #[.int .i64 0, .int .u64 0], .int .i64 2]) (by simp [results, Try.results35, go_sem, z0, z1]) rfl ?_
          exact ⟨by rw [HGo.out]; rfl, fun h => absurd h (by rw [HGo.out]; exact (by decide : ¬ (2 : Nat) = 0)), HC5.out.trans hCz (fun x hx h => by omega)⟩
        · generalize hT : wpOrd _ _ _ K _ = T
          have HT := kept hT
          clear hT
          go_wp2_with fail
          show T _ _
          rw [← HT.out]
          clear HT T
          unfold wpOrd
          simp only [pick, List.filterMap_cons, List.filterMap_nil, List.getElem?_cons_zero, List.getElem?_cons_succ]
          refine ⟨?_, ?_⟩
          · generalize hT : wpOrd _ _ _ K _ = T
            have HT := kept hT
            clear hT
            go_wp2_with fail
            show T _ _
            rw [← HT.out]
            clear HT T
            unfold wpOrd
            simp only [pick, List.filterMap_cons, List.filterMap_nil, List.getElem?_cons_zero, List.getElem?_cons_succ]
            show wpList _ _ _ [_, _] _ _
            go_wp2_with fail
            refine hK _ _ ?_
            go_wp2_with fail
            generalize hwz : World.setCell _ _ _ = wz
            have hBz : Blk wz pp #[.int .i64 0, .int .u64 0] 54 := by rw [← hwz]; have h := ((HB5.out.set 1 (.int .u64 0)).set 0 (.int .i64 0)).set 1 (.int .u64 0); simpa using h
            have hCz : Chg (fun x => x = pp) w5 wz := by rw [← hwz]; exact ((Chg.setCell w5 ⟨pp, 1, none⟩ _).trans (Chg.setCell _ ⟨pp, 0, none⟩ _) (fun _ _ h => h)).trans (Chg.setCell _ ⟨pp, 1, none⟩ _) (fun _ _ h => h)
            have z0 : wz.cell? ⟨pp, 0, none⟩ = some (.int .i64 0) := Blk.cell hBz rfl
            have z1 : wz.cell? ⟨pp, 1, none⟩ = some (.int .u64 0) := Blk.cell hBz rfl
            refine bodyPost_ret (v := .tuple #[.agg #[.int .i64 0, .int .u64 0], .int .i64 2]) (by simp [results, Try.results35, go_sem, z0, z1]) rfl ?_
            exact ⟨by rw [HGo.out]; rfl, fun h => absurd h (by rw [HGo.out]; exact (by decide : ¬ (2 : Nat) = 0)), HC5.out.trans hCz (fun x hx h => by omega)⟩
          · generalize hT : wpOrd _ _ _ K _ = T
            have HT := kept hT
            clear hT
            go_wp2_with fail
            show T _ _
            rw [← HT.out]
            clear HT T
            unfold wpOrd
            simp only [pick, List.filterMap_cons, List.filterMap_nil, List.getElem?_cons_zero, List.getElem?_cons_succ]
            show wpList _ _ _ [_, _] _ _
            go_wp2_with fail
            refine hK _ _ ?_
            go_wp2_with fail
            generalize hwz : World.setCell _ _ _ = wz
            have hBz : Blk wz pp #[.int .i64 0, .int .u64 0] 54 := by rw [← hwz]; have h := ((HB5.out.set 1 (.int .u64 0)).set 0 (.int .i64 0)).set 1 (.int .u64 0); simpa using h
            have hCz : Chg (fun x => x = pp) w5 wz := by rw [← hwz]; exact ((Chg.setCell w5 ⟨pp, 1, none⟩ _).trans (Chg.setCell _ ⟨pp, 0, none⟩ _) (fun _ _ h => h)).trans (Chg.setCell _ ⟨pp, 1, none⟩ _) (fun _ _ h => h)
            have z0 : wz.cell? ⟨pp, 0, none⟩ = some (.int .i64 0) := Blk.cell hBz rfl
            have z1 : wz.cell? ⟨pp, 1, none⟩ = some (.int .u64 0) := Blk.cell hBz rfl
            refine bodyPost_ret (v := .tuple #[.agg #[.int .i64 0, .int .u64 0], .int .i64 2]) (by simp [results, Try.results35, go_sem, z0, z1]) rfl ?_
            exact ⟨by rw [HGo.out]; rfl, fun h => absurd h (by rw [HGo.out]; exact (by decide : ¬ (2 : Nat) = 0)), HC5.out.trans hCz (fun x hx h => by omega)⟩
      · generalize hT : wpOrd _ _ _ K _ = T
        have HT := kept hT
        clear hT
        go_wp2_with fail
        show T _ _
        rw [← HT.out]
        clear HT T
        unfold wpOrd
        simp only [pick, List.filterMap_cons, List.filterMap_nil, List.getElem?_cons_zero, List.getElem?_cons_succ]
        show wpList _ _ _ [_, _, _, _] _ _
        go_wp2_with fail
        refine hK _ _ ?_
        go_wp2_with fail
        generalize hwz : World.setCell _ _ _ = wz
        have hBz : Blk wz pp #[.int .i64 0, .int .u64 0] 54 := by rw [← hwz]; have h := ((HB5.out.set 1 (.int .u64 0)).set 0 (.int .i64 0)).set 1 (.int .u64 0); simpa using h
        have hCz : Chg (fun x => x = pp) w5 wz := by rw [← hwz]; exact ((Chg.setCell w5 ⟨pp, 1, none⟩ _).trans (Chg.setCell _ ⟨pp, 0, none⟩ _) (fun _ _ h => h)).trans (Chg.setCell _ ⟨pp, 1, none⟩ _) (fun _ _ h => h)
        have z0 : wz.cell? ⟨pp, 0, none⟩ = some (.int .i64 0) := Blk.cell hBz rfl
        have z1 : wz.cell? ⟨pp, 1, none⟩ = some (.int .u64 0) := Blk.cell hBz rfl
        refine bodyPost_ret (v := .tuple #[.agg #[.int .i64 0, .int .u64 0], .int .i64 2]) (by simp [results, Try.results35, go_sem, z0, z1]) rfl ?_
        exact ⟨by rw [HGo.out]; rfl, fun h => absurd h (by rw [HGo.out]; exact (by decide : ¬ (2 : Nat) = 0)), HC5.out.trans hCz (fun x hx h => by omega)⟩
  · have hg := getOne_err (L := L) (bs := (bitsS s).drop k) (by rw [HD.out]; exact her)
    rw [HD.out] at hg
    have HGo := kept hg
    have ter : ((er : Int) != 0) = true := by rw [bne_iff_ne]; omega
    clear hg
    go_wp2_with fail
    generalize hwz : World.setCell _ _ _ = wz
    have hBz : Blk wz pp #[.int .i64 0, .int .u64 0] 54 := by
      rw [← hwz]
      have h := (HB3.out.set 0 (.int .i64 0)).set 1 (.int .u64 0)
      simpa using h
    have hCz : Chg (fun x => x = q) w wz := by
      rw [← hwz]
      exact HC2.out.trans (((Chg.setCell w2 ⟨pp, 0, none⟩ _).trans (Chg.setCell _ ⟨pp, 0, none⟩ _) (fun _ _ h => h)).trans (Chg.setCell _ ⟨pp, 1, none⟩ _) (fun _ _ h => h)) (fun x hx h => by simp at h; omega)
    have z0 : wz.cell? ⟨pp, 0, none⟩ = some (.int .i64 0) := Blk.cell hBz rfl
    have z1 : wz.cell? ⟨pp, 1, none⟩ = some (.int .u64 0) := Blk.cell hBz rfl
    refine bodyPost_ret (v := .tuple #[.agg #[.int .i64 0, .int .u64 0], .int .i64 (er : Int)]) (by simp [results, Try.results35, go_sem, z0, z1]) rfl ?_
    exact ⟨by rw [HGo.out]; rfl, fun h => absurd h (by rw [HGo.out]; exact her), hCz⟩
set_option maxHeartbeats 8000000 in
theorem read_only (L : List Int) (F : List (Nat × Nat × Nat)) (p q b : Nat) (s : ByteArray) (k : Nat) (w : World) (h : IsHr w p q b s k F) (hs : s.size ≤ 1000000000000) (hk2 : k ≤ 8 * s.size)
    (how : ∀ w1, IsHr w1 p q b s k F → Calls Try.prog 34 #[.pointer (some ⟨p, 0, none⟩)] w1 (StepPost L q s k w1)) :
    Calls Try.prog 35 #[.pointer (some ⟨p, 0, none⟩), .func (.func 34) #[.pointer (some ⟨p, 0, none⟩)] #[]] w (PartPost L q s k w) := by
  have H := kept h
  have HPQ := kept h.pq
  have HHow := kept how
  clear h how
  obtain ⟨er, c, n, hd⟩ : ∃ er c n, dec L ((bitsS s).drop k) 0 0 = (er, c, n) := ⟨_, _, _, rfl⟩
  have HD := kept hd
  have hus := dec_used L ((bitsS s).drop k) 0 0
  rw [hd] at hus
  have HUs := kept hus
  clear hd hus
  go_enter Try.func35, Try.ntmps35
  go_wp2_with fail
  obtain ⟨pp, hpp⟩ : ∃ pp, pp = w.heap.size := ⟨_, rfl⟩
  generalize hw1 : World.alloc w _ = w1
  have HP1 : Kept (Blk w1 pp #[.int .i64 0, .int .u64 0] 54) := kept (by rw [hpp, ← hw1]; exact Blk.fresh _ _ _)
  have HB1 : Kept (Below w.heap.size w w1) := kept (by rw [← hw1]; exact (Below.refl _ _).alloc (Nat.le_refl _) _)
  have HPn : Kept (w.heap.size ≤ pp) := kept (Nat.le_of_eq hpp.symm)
  rw [← hpp]
  clear hw1 hpp
  have HH1 : Kept (IsHr w1 p q b s k F) := kept ⟨(HB1.out.block p (Blk.lt H.out.self)).trans H.out.self, H.out.rd.later HB1.out, H.out.mp.later HB1.out⟩
  refine (HHow.out w1 HH1.out).mono ?_
  rintro e w2 ⟨rfl, hR2, hC2⟩
  rw [HD.out] at hR2 ⊢
  have hqlt : q < w.heap.size := Blk.lt H.out.rd
  have hplt : p < w.heap.size := Blk.lt H.out.self
  have hpn := HPn.out
  have hB2 : Blk w2 pp #[.int .i64 0, .int .u64 0] 54 := hC2.keep HP1.out (by omega)
  have hS2 : Blk w2 p #[.pointer (some ⟨q, 0, none⟩), .map (some b)] 85 := hC2.keep HH1.out.self HPQ.out
  have hC12 : Chg (fun x => x = q) w w2 := (Chg.of_below HB1.out).trans hC2 (fun _ _ h => h)
  have d0 : w2.cell? ⟨pp, 0, none⟩ = some (.int .i64 0) := Blk.cell hB2 rfl
  have d1 : w2.cell? ⟨pp, 1, none⟩ = some (.int .u64 0) := Blk.cell hB2 rfl
  have f0 : w2.frozen? ⟨pp, 0, none⟩ = false := Blk.free hB2 0
  have f1 : w2.frozen? ⟨pp, 1, none⟩ = false := Blk.free hB2 1
  have hb3 : Blk (w2.setCell ⟨pp, 0, none⟩ (.int .i64 (c : Int))) pp #[.int .i64 (c : Int), .int .u64 0] 54 := by
    have h := Blk.set hB2 0 (.int .i64 (c : Int))
    simpa using h
  have HB2 := kept hB2
  have HS2 := kept hS2
  have HC2 := kept hC12
  have HR2 := kept hR2
  have HB3 := kept hb3
  clear hR2 hC2 hB2 hS2 hC12 hb3
  by_cases her : er = 0
  · subst her
    have hR3 := HR2.out rfl
    obtain ⟨_, hlen, h65⟩ := HUs.out rfl
    rw [Nat.zero_add, List.length_drop, length_bitsS] at hlen
    simp only at hlen h65 hR3
    have hC3 : Chg (fun x => x = q) w (w2.setCell ⟨pp, 0, none⟩ (.int .i64 (c : Int))) := HC2.out.trans (Chg.setCell w2 ⟨pp, 0, none⟩ _) (fun x hx h => by simp at h; omega)
    have hR4 : IsRd (w2.setCell ⟨pp, 0, none⟩ (.int .i64 (c : Int))) q s (k + n) := (Chg.setCell w2 ⟨pp, 0, none⟩ (.int .i64 (c : Int))).keep hR3 (fun h => by simp at h; omega)
    have hS4 : Blk (w2.setCell ⟨pp, 0, none⟩ (.int .i64 (c : Int))) p #[.pointer (some ⟨q, 0, none⟩), .map (some b)] 85 := Blk.setOther HS2.out (show p ≠ pp by omega) _
    have HC3 := kept hC3
    have HR4 := kept hR4
    have HS4 := kept hS4
    clear hR3 hC3 hR4 hS4
    go_upto_region 4 with fail
    generalize World.setCell w2 _ _ = w3 at HB3 HC3 HR4 HS4 ⊢
    clear d0 d1 f0 f1
    have e0 := lat_cell (Blk.cell HS4.out (i := 0) rfl)
    have e1 := lat_cell (Blk.cell HB3.out (i := 0) rfl)
    have emx : mx 0 ((c : Int) - 1) = ((c - 1 : Nat) : Int) := by rw [mx_eq]; omega
    have hbn : ((bitsS s).drop k).drop n = (bitsS s).drop (k + n) := by rw [List.drop_drop]
    refine wp_region_ordL [0,1,2,4] [3,5,6,7] (.pre [8,9] (.fork 10 (.fork 11 (.chain [12,13,14]) 12 (.fork 11 (.chain [13,14]) 13 (.chain [11,14]))) 11 (.chain [10,12,13,14]))) (by kernel_rfl) (by kernel_rfl) ?_
    intro K hK
    simp only [pick, List.filterMap_cons, List.filterMap_nil, List.getElem?_cons_zero, List.getElem?_cons_succ]
    iterate 8 (show wpQuiet _ _ _ _ (_ :: _) _; go_big_quiet_step (fail))
    refine wpQuiet_nil ?_
    clear e0 e1 emx
    have hwd : Below w3.heap.size w3 w3.drew := (Below.refl _ _).drew
    generalize w3.drew = w4 at hwd ⊢
    have HB4 : Kept (Blk w4 pp #[.int .i64 (c : Int), .int .u64 0] 54) := kept ((hwd.block pp (Blk.lt HB3.out)).trans HB3.out)
    have HR5 := kept (HR4.out.later hwd)
    have HC4 := kept (HC3.out.trans (Chg.of_below hwd) (fun _ _ h => h))
    clear hwd
    unfold wpOrd
    simp only [pick, List.filterMap_cons, List.filterMap_nil, List.getElem?_cons_zero, List.getElem?_cons_succ]
    generalize hT : wpOrd _ _ _ K (Ord.fork _ _ _ _) = T
    have HT := kept hT
    clear hT
    show wpList _ _ _ [_, _] _ _
    by_cases hmore : k + n + (c - 1) ≤ 8 * s.size
    · have HGet := kept (get_ok q s (k + n) (c - 1) w4 HR5.out hs (by omega) (by omega) hmore)
      obtain ⟨r, hr⟩ : ∃ r, r = ofBits (((bitsS s).drop (k + n)).take (c - 1)) := ⟨_, rfl⟩
      have hg : getOne L ((bitsS s).drop k) = (0, (c, r), (bitsS s).drop (k + n + (c - 1))) := by
        rw [getOne_ok HD.out (by rw [List.length_drop, length_bitsS]; omega), hbn, ← hr, List.drop_drop, show k + (n + (c - 1)) = k + n + (c - 1) by omega]
      rw [← hr] at HGet
      have HGo := kept hg
      clear hr hg hbn
      go_wp2_with fail
      refine HGet.out.mono ?_
      rintro e w5 ⟨rfl, hR5, hC5⟩
      have hB5 : Blk w5 pp #[.int .i64 (c : Int), .int .u64 0] 54 := hC5.keep HB4.out (by omega)
      have d0 : w5.cell? ⟨pp, 0, none⟩ = some (.int .i64 (c : Int)) := Blk.cell hB5 rfl
      have d1 : w5.cell? ⟨pp, 1, none⟩ = some (.int .u64 0) := Blk.cell hB5 rfl
      have f0 : w5.frozen? ⟨pp, 0, none⟩ = false := Blk.free hB5 0
      have f1 : w5.frozen? ⟨pp, 1, none⟩ = false := Blk.free hB5 1
      have HC5 := kept (HC4.out.trans hC5 (fun _ _ h => h))
      have HR6 := kept hR5
      have HB5 := kept hB5
      clear hR5 hC5 hB5
      go_wp2_with fail
      show T _ _
      rw [← HT.out]
      clear HT T
      unfold wpOrd
      simp only [pick, List.filterMap_cons, List.filterMap_nil, List.getElem?_cons_zero, List.getElem?_cons_succ]
      refine ⟨?_, ?_⟩
      · generalize hT : wpOrd _ _ _ K _ = T
        have HT := kept hT
        clear hT
        go_wp2_with fail
        show T _ _
        rw [← HT.out]
        clear HT T
        unfold wpOrd
        simp only [pick, List.filterMap_cons, List.filterMap_nil, List.getElem?_cons_zero, List.getElem?_cons_succ]
        refine ⟨?_, ?_⟩
        · generalize hT : wpOrd _ _ _ K _ = T
          have HT := kept hT
          clear hT
          go_wp2_with fail
          show T _ _
          rw [← HT.out]
          clear HT T
          unfold wpOrd
          simp only [pick, List.filterMap_cons, List.filterMap_nil, List.getElem?_cons_zero, List.getElem?_cons_succ]
          show wpList _ _ _ [_, _, _] _ _
          go_wp2_with fail
          refine hK _ _ ?_
          go_wp2_with fail
          generalize hwz : World.setCell _ _ _ = wz
          have hBz : Blk wz pp #[.int .i64 (c : Int), .int .u64 (r : Int)] 54 := by rw [← hwz]; have h := ((HB5.out.set 1 (.int .u64 (r : Int))).set 0 (.int .i64 (c : Int))).set 1 (.int .u64 (r : Int)); simpa using h
          have hCz : Chg (fun x => x = pp) w5 wz := by rw [← hwz]; exact ((Chg.setCell w5 ⟨pp, 1, none⟩ _).trans (Chg.setCell _ ⟨pp, 0, none⟩ _) (fun _ _ h => h)).trans (Chg.setCell _ ⟨pp, 1, none⟩ _) (fun _ _ h => h)
          have z0 : wz.cell? ⟨pp, 0, none⟩ = some (.int .i64 (c : Int)) := Blk.cell hBz rfl
          have z1 : wz.cell? ⟨pp, 1, none⟩ = some (.int .u64 (r : Int)) := Blk.cell hBz rfl
          refine bodyPost_ret (v := .tuple #[.agg #[.int .i64 (c : Int), .int .u64 (r : Int)], .int .i64 0]) (by simp [results, Try.results35, go_sem, z0, z1]) rfl ?_
          exact ⟨by rw [HGo.out]; rfl, fun _ => ⟨k + n + (c - 1), hmore, hCz.keep HR6.out (by omega), by rw [HGo.out]⟩, HC5.out.trans hCz (fun x hx h => by omega)⟩
        · generalize hT : wpOrd _ _ _ K _ = T
          have HT := kept hT
          clear hT
          go_wp2_with fail
          show T _ _
          rw [← HT.out]
          clear HT T
          unfold wpOrd
          simp only [pick, List.filterMap_cons, List.filterMap_nil, List.getElem?_cons_zero, List.getElem?_cons_succ]
          refine ⟨?_, ?_⟩
          · generalize hT : wpOrd _ _ _ K _ = T
            have HT := kept hT
            clear hT
            go_wp2_with fail
            show T _ _
            rw [← HT.out]
            clear HT T
            unfold wpOrd
            simp only [pick, List.filterMap_cons, List.filterMap_nil, List.getElem?_cons_zero, List.getElem?_cons_succ]
            show wpList _ _ _ [_, _] _ _
            go_wp2_with fail
            refine hK _ _ ?_
            go_wp2_with fail
            generalize hwz : World.setCell _ _ _ = wz
            have hBz : Blk wz pp #[.int .i64 (c : Int), .int .u64 (r : Int)] 54 := by rw [← hwz]; have h := ((HB5.out.set 1 (.int .u64 (r : Int))).set 0 (.int .i64 (c : Int))).set 1 (.int .u64 (r : Int)); simpa using h
            have hCz : Chg (fun x => x = pp) w5 wz := by rw [← hwz]; exact ((Chg.setCell w5 ⟨pp, 1, none⟩ _).trans (Chg.setCell _ ⟨pp, 0, none⟩ _) (fun _ _ h => h)).trans (Chg.setCell _ ⟨pp, 1, none⟩ _) (fun _ _ h => h)
            have z0 : wz.cell? ⟨pp, 0, none⟩ = some (.int .i64 (c : Int)) := Blk.cell hBz rfl
            have z1 : wz.cell? ⟨pp, 1, none⟩ = some (.int .u64 (r : Int)) := Blk.cell hBz rfl
            refine bodyPost_ret (v := .tuple #[.agg #[.int .i64 (c : Int), .int .u64 (r : Int)], .int .i64 0]) (by simp [results, Try.results35, go_sem, z0, z1]) rfl ?_
            exact ⟨by rw [HGo.out]; rfl, fun _ => ⟨k + n + (c - 1), hmore, hCz.keep HR6.out (by omega), by rw [HGo.out]⟩, HC5.out.trans hCz (fun x hx h => by omega)⟩
          · generalize hT : wpOrd _ _ _ K _ = T
            have HT := kept hT
            clear hT
            go_wp2_with fail
            show T _ _
            rw [← HT.out]
            clear HT T
            unfold wpOrd
            simp only [pick, List.filterMap_cons, List.filterMap_nil, List.getElem?_cons_zero, List.getElem?_cons_succ]
            show wpList _ _ _ [_, _] _ _
            go_wp2_with fail
            refine hK _ _ ?_
            go_wp2_with fail
            generalize hwz : World.setCell _ _ _ = wz
            have hBz : Blk wz pp #[.int .i64 (c : Int), .int .u64 (r : Int)] 54 := by rw [← hwz]; have h := ((HB5.out.set 1 (.int .u64 (r : Int))).set 0 (.int .i64 (c : Int))).set 1 (.int .u64 (r : Int)); simpa using h
            have hCz : Chg (fun x => x = pp) w5 wz := by rw [← hwz]; exact ((Chg.setCell w5 ⟨pp, 1, none⟩ _).trans (Chg.setCell _ ⟨pp, 0, none⟩ _) (fun _ _ h => h)).trans (Chg.setCell _ ⟨pp, 1, none⟩ _) (fun _ _ h => h)
            have z0 : wz.cell? ⟨pp, 0, none⟩ = some (.int .i64 (c : Int)) := Blk.cell hBz rfl
            have z1 : wz.cell? ⟨pp, 1, none⟩ = some (.int .u64 (r : Int)) := Blk.cell hBz rfl
            refine bodyPost_ret (v := .tuple #[.agg #[.int .i64 (c : Int), .int .u64 (r : Int)], .int .i64 0]) (by simp [results, Try.results35, go_sem, z0, z1]) rfl ?_
            exact ⟨by rw [HGo.out]; rfl, fun _ => ⟨k + n + (c - 1), hmore, hCz.keep HR6.out (by omega), by rw [HGo.out]⟩, HC5.out.trans hCz (fun x hx h => by omega)⟩
      · generalize hT : wpOrd _ _ _ K _ = T
        have HT := kept hT
        clear hT
        go_wp2_with fail
        show T _ _
        rw [← HT.out]
        clear HT T
        unfold wpOrd
        simp only [pick, List.filterMap_cons, List.filterMap_nil, List.getElem?_cons_zero, List.getElem?_cons_succ]
        show wpList _ _ _ [_, _, _, _] _ _
        go_wp2_with fail
        refine hK _ _ ?_
        go_wp2_with fail
        generalize hwz : World.setCell _ _ _ = wz
        have hBz : Blk wz pp #[.int .i64 (c : Int), .int .u64 (r : Int)] 54 := by rw [← hwz]; have h := ((HB5.out.set 1 (.int .u64 (r : Int))).set 0 (.int .i64 (c : Int))).set 1 (.int .u64 (r : Int)); simpa using h
        have hCz : Chg (fun x => x = pp) w5 wz := by rw [← hwz]; exact ((Chg.setCell w5 ⟨pp, 1, none⟩ _).trans (Chg.setCell _ ⟨pp, 0, none⟩ _) (fun _ _ h => h)).trans (Chg.setCell _ ⟨pp, 1, none⟩ _) (fun _ _ h => h)
        have z0 : wz.cell? ⟨pp, 0, none⟩ = some (.int .i64 (c : Int)) := Blk.cell hBz rfl
        have z1 : wz.cell? ⟨pp, 1, none⟩ = some (.int .u64 (r : Int)) := Blk.cell hBz rfl
        refine bodyPost_ret (v := .tuple #[.agg #[.int .i64 (c : Int), .int .u64 (r : Int)], .int .i64 0]) (by simp [results, Try.results35, go_sem, z0, z1]) rfl ?_
        exact ⟨by rw [HGo.out]; rfl, fun _ => ⟨k + n + (c - 1), hmore, hCz.keep HR6.out (by omega), by rw [HGo.out]⟩, HC5.out.trans hCz (fun x hx h => by omega)⟩
    · have HGet := kept (get_more q s (k + n) (c - 1) w4 HR5.out hs (by omega) (by omega) (by omega))
      have hg : getOne L ((bitsS s).drop k) = (2, (0, 0), (bitsS s).drop k) := getOne_more HD.out (by rw [List.length_drop, length_bitsS]; omega)
      have HGo := kept hg
      clear hg hbn
      go_wp2_with fail
      refine HGet.out.mono ?_
      rintro e w5 ⟨rfl, hb5⟩
      have hB5 : Blk w5 pp #[.int .i64 (c : Int), .int .u64 0] 54 := (hb5.block pp (Blk.lt HB4.out)).trans HB4.out
      have d0 : w5.cell? ⟨pp, 0, none⟩ = some (.int .i64 (c : Int)) := Blk.cell hB5 rfl
      have d1 : w5.cell? ⟨pp, 1, none⟩ = some (.int .u64 0) := Blk.cell hB5 rfl
      have f0 : w5.frozen? ⟨pp, 0, none⟩ = false := Blk.free hB5 0
      have f1 : w5.frozen? ⟨pp, 1, none⟩ = false := Blk.free hB5 1
      have HC5 := kept (HC4.out.trans (Chg.of_below hb5) (fun _ _ h => h))
      have HB5 := kept hB5
      clear hb5 hB5
      go_wp2_with fail
      show T _ _
      rw [← HT.out]
      clear HT T
      unfold wpOrd
      simp only [pick, List.filterMap_cons, List.filterMap_nil, List.getElem?_cons_zero, List.getElem?_cons_succ]
      refine ⟨?_, ?_⟩
      · generalize hT : wpOrd _ _ _ K _ = T
        have HT := kept hT
        clear hT
        go_wp2_with fail
        show T _ _
        rw [← HT.out]
        clear HT T
        unfold wpOrd
        simp only [pick, List.filterMap_cons, List.filterMap_nil, List.getElem?_cons_zero, List.getElem?_cons_succ]
        refine ⟨?_, ?_⟩
        · generalize hT : wpOrd _ _ _ K _ = T
          have HT := kept hT
          clear hT
          go_wp2_with fail
          show T _ _
          rw [← HT.out]
          clear HT T
          unfold wpOrd
          simp only [pick, List.filterMap_cons, List.filterMap_nil, List.getElem?_cons_zero, List.getElem?_cons_succ]
          show wpList _ _ _ [_, _, _] _ _
          go_wp2_with fail
          refine hK _ _ ?_
          go_wp2_with fail
          generalize hwz : World.setCell _ _ _ = wz
          have hBz : Blk wz pp #[.int .i64 0, .int .u64 0] 54 := by rw [← hwz]; have h := ((HB5.out.set 1 (.int .u64 0)).set 0 (.int .i64 0)).set 1 (.int .u64 0); simpa using h
          have hCz : Chg (fun x => x = pp) w5 wz := by rw [← hwz]; exact ((Chg.setCell w5 ⟨pp, 1, none⟩ _).trans (Chg.setCell _ ⟨pp, 0, none⟩ _) (fun _ _ h => h)).trans (Chg.setCell _ ⟨pp, 1, none⟩ _) (fun _ _ h => h)
          have z0 : wz.cell? ⟨pp, 0, none⟩ = some (.int .i64 0) := Blk.cell hBz rfl
          have z1 : wz.cell? ⟨pp, 1, none⟩ = some (.int .u64 0) := Blk.cell hBz rfl
          refine bodyPost_ret (v := .tuple #[.agg #[.int .i64 0, .int .u64 0], .int .i64 2]) (by simp [results, Try.results35, go_sem, z0, z1]) rfl ?_
          exact ⟨by rw [HGo.out]; rfl, fun h => absurd h (by rw [HGo.out]; exact (by decide : ¬ (2 : Nat) = 0)), HC5.out.trans hCz (fun x hx h => by omega)⟩
        · generalize hT : wpOrd _ _ _ K _ = T
          have HT := kept hT
          clear hT
          go_wp2_with fail
          show T _ _
          rw [← HT.out]
          clear HT T
          unfold wpOrd
          simp only [pick, List.filterMap_cons, List.filterMap_nil, List.getElem?_cons_zero, List.getElem?_cons_succ]
          refine ⟨?_, ?_⟩
          · generalize hT : wpOrd _ _ _ K _ = T
            have HT := kept hT
            clear hT
            go_wp2_with fail
            show T _ _
            rw [← HT.out]
            clear HT T
            unfold wpOrd
            simp only [pick, List.filterMap_cons, List.filterMap_nil, List.getElem?_cons_zero, List.getElem?_cons_succ]
            show wpList _ _ _ [_, _] _ _
            go_wp2_with fail
            refine hK _ _ ?_
            go_wp2_with fail
            generalize hwz : World.setCell _ _ _ = wz
            have hBz : Blk wz pp #[.int .i64 0, .int .u64 0] 54 := by rw [← hwz]; have h := ((HB5.out.set 1 (.int .u64 0)).set 0 (.int .i64 0)).set 1 (.int .u64 0); simpa using h
            have hCz : Chg (fun x => x = pp) w5 wz := by rw [← hwz]; exact ((Chg.setCell w5 ⟨pp, 1, none⟩ _).trans (Chg.setCell _ ⟨pp, 0, none⟩ _) (fun _ _ h => h)).trans (Chg.setCell _ ⟨pp, 1, none⟩ _) (fun _ _ h => h)
            have z0 : wz.cell? ⟨pp, 0, none⟩ = some (.int .i64 0) := Blk.cell hBz rfl
            have z1 : wz.cell? ⟨pp, 1, none⟩ = some (.int .u64 0) := Blk.cell hBz rfl
            refine bodyPost_ret (v := .tuple #[.agg #[.int .i64 0, .int .u64 0], .int .i64 2]) (by simp [results, Try.results35, go_sem, z0, z1]) rfl ?_
            exact ⟨by rw [HGo.out]; rfl, fun h => absurd h (by rw [HGo.out]; exact (by decide : ¬ (2 : Nat) = 0)), HC5.out.trans hCz (fun x hx h => by omega)⟩
          · generalize hT : wpOrd _ _ _ K _ = T
            have HT := kept hT
            clear hT
            go_wp2_with fail
            show T _ _
            rw [← HT.out]
            clear HT T
            unfold wpOrd
            simp only [pick, List.filterMap_cons, List.filterMap_nil, List.getElem?_cons_zero, List.getElem?_cons_succ]
            show wpList _ _ _ [_, _] _ _
            go_wp2_with fail
            refine hK _ _ ?_
            go_wp2_with fail
            generalize hwz : World.setCell _ _ _ = wz
            have hBz : Blk wz pp #[.int .i64 0, .int .u64 0] 54 := by rw [← hwz]; have h := ((HB5.out.set 1 (.int .u64 0)).set 0 (.int .i64 0)).set 1 (.int .u64 0); simpa using h
            have hCz : Chg (fun x => x = pp) w5 wz := by rw [← hwz]; exact ((Chg.setCell w5 ⟨pp, 1, none⟩ _).trans (Chg.setCell _ ⟨pp, 0, none⟩ _) (fun _ _ h => h)).trans (Chg.setCell _ ⟨pp, 1, none⟩ _) (fun _ _ h => h)
            have z0 : wz.cell? ⟨pp, 0, none⟩ = some (.int .i64 0) := Blk.cell hBz rfl
            have z1 : wz.cell? ⟨pp, 1, none⟩ = some (.int .u64 0) := Blk.cell hBz rfl
            refine bodyPost_ret (v := .tuple #[.agg #[.int .i64 0, .int .u64 0], .int .i64 2]) (by simp [results, Try.results35, go_sem, z0, z1]) rfl ?_
            exact ⟨by rw [HGo.out]; rfl, fun h => absurd h (by rw [HGo.out]; exact (by decide : ¬ (2 : Nat) = 0)), HC5.out.trans hCz (fun x hx h => by omega)⟩
      · generalize hT : wpOrd _ _ _ K _ = T
        have HT := kept hT
        clear hT
        go_wp2_with fail
        show T _ _
        rw [← HT.out]
        clear HT T
        unfold wpOrd
        simp only [pick, List.filterMap_cons, List.filterMap_nil, List.getElem?_cons_zero, List.getElem?_cons_succ]
        show wpList _ _ _ [_, _, _, _] _ _
        go_wp2_with fail
        refine hK _ _ ?_
        go_wp2_with fail
        generalize hwz : World.setCell _ _ _ = wz
        have hBz : Blk wz pp #[.int .i64 0, .int .u64 0] 54 := by rw [← hwz]; have h := ((HB5.out.set 1 (.int .u64 0)).set 0 (.int .i64 0)).set 1 (.int .u64 0); simpa using h
        have hCz : Chg (fun x => x = pp) w5 wz := by rw [← hwz]; exact ((Chg.setCell w5 ⟨pp, 1, none⟩ _).trans (Chg.setCell _ ⟨pp, 0, none⟩ _) (fun _ _ h => h)).trans (Chg.setCell _ ⟨pp, 1, none⟩ _) (fun _ _ h => h)
        have z0 : wz.cell? ⟨pp, 0, none⟩ = some (.int .i64 0) := Blk.cell hBz rfl
        have z1 : wz.cell? ⟨pp, 1, none⟩ = some (.int .u64 0) := Blk.cell hBz rfl
        refine bodyPost_ret (v := .tuple #[.agg #[.int .i64 0, .int .u64 0], .int .i64 2]) (by simp [results, Try.results35, go_sem, z0, z1]) rfl ?_
        exact ⟨by rw [HGo.out]; rfl, fun h => absurd h (by rw [HGo.out]; exact (by decide : ¬ (2 : Nat) = 0)), HC5.out.trans hCz (fun x hx h => by omega)⟩
  · have hg := getOne_err (L := L) (bs := (bitsS s).drop k) (by rw [HD.out]; exact her)
    rw [HD.out] at hg
    have HGo := kept hg
    have ter : ((er : Int) != 0) = true := by rw [bne_iff_ne]; omega
    clear hg
    go_wp2_with fail
    generalize hwz : World.setCell _ _ _ = wz
    have hBz : Blk wz pp #[.int .i64 0, .int .u64 0] 54 := by
      rw [← hwz]
      have h := (HB3.out.set 0 (.int .i64 0)).set 1 (.int .u64 0)
      simpa using h
    have hCz : Chg (fun x => x = q) w wz := by
      rw [← hwz]
      exact HC2.out.trans (((Chg.setCell w2 ⟨pp, 0, none⟩ _).trans (Chg.setCell _ ⟨pp, 0, none⟩ _) (fun _ _ h => h)).trans (Chg.setCell _ ⟨pp, 1, none⟩ _) (fun _ _ h => h)) (fun x hx h => by simp at h; omega)
    have z0 : wz.cell? ⟨pp, 0, none⟩ = some (.int .i64 0) := Blk.cell hBz rfl
    have z1 : wz.cell? ⟨pp, 1, none⟩ = some (.int .u64 0) := Blk.cell hBz rfl
    refine bodyPost_ret (v := .tuple #[.agg #[.int .i64 0, .int .u64 0], .int .i64 (er : Int)]) (by simp [results, Try.results35, go_sem, z0, z1]) rfl ?_
    exact ⟨by rw [HGo.out]; rfl, fun h => absurd h (by rw [HGo.out]; exact her), hCz⟩
end Go.Proofs.Ytnakjencodicmaa

-- ---- Je
/- Codes as what a map holds; the answer of getting parts. Plain facts; no program in sight. -/
namespace Go.Proofs.Ytnakjencodicmaa
set_option maxRecDepth 100000
set_option linter.unusedSimpArgs false
set_option linter.unusedVariables false
open Go.RowKit Mix _root_.Go.Proofs.Ytnakjencodicmaa.Own Bits Hu Dp

/-- The classes with a code, one behind the other. -/
def entF (L : List Int) (n : Nat) : List (Nat × Nat × Nat) := (List.range n).flatMap fun c => if 0 < cdN L c then [(cdB L c, cdN L c, c)] else []
theorem entF_zero (L : List Int) : entF L 0 = [] := rfl
theorem entF_succ (L : List Int) (n : Nat) : entF L (n + 1) = entF L n ++ (if 0 < cdN L n then [(cdB L n, cdN L n, n)] else []) := by simp [entF, List.range_succ]
theorem mem_entF {L : List Int} {n : Nat} {p : Nat × Nat × Nat} : p ∈ entF L n ↔ ∃ c, c < n ∧ 0 < cdN L c ∧ p = (cdB L c, cdN L c, c) := by
  unfold entF
  rw [List.mem_flatMap]
  constructor
  · rintro ⟨c, h1, h2⟩
    split at h2
    · rename_i h; exact ⟨c, List.mem_range.1 h1, h, by simpa using h2⟩
    · cases h2
  · rintro ⟨c, h1, h2, h3⟩
    exact ⟨c, List.mem_range.2 h1, by rw [if_pos h2]; simp [h3]⟩
theorem fit_entF {L : List Int} (hm : mayL L = true) {n : Nat} (hn : n ≤ 65) : Fit (entF L n) := by
  refine ⟨fun p hp => ?_, fun p hp q hq h1 h2 => ?_⟩
  · obtain ⟨c, hc, _, rfl⟩ := mem_entF.1 hp
    obtain ⟨a1, a2, _⟩ := cd_all hm c (by omega)
    have h3 : 2 ^ cdN L c ≤ 2 ^ 15 := Nat.pow_le_pow_right (by decide) a1
    simp only; omega
  · obtain ⟨c, hc, hc0, rfl⟩ := mem_entF.1 hp
    obtain ⟨d, hd, hd0, rfl⟩ := mem_entF.1 hq
    simp only at h1 h2
    by_cases e : c = d
    · rw [e]
    · have := cd_apart hm (show c < 65 by omega) (show d < 65 by omega) e (by omega) (by omega)
      rw [h2, Nat.sub_self, Nat.pow_zero, Nat.div_one] at this
      exact absurd h1.symm this
theorem new_entF {L : List Int} (hm : mayL L = true) {n : Nat} (hn : n < 65) (h0 : 0 < cdN L n) : ∀ p ∈ entF L n, ¬ (p.1 = cdB L n ∧ p.2.1 = cdN L n) := by
  rintro p hp ⟨h1, h2⟩
  obtain ⟨c, hc, hc0, rfl⟩ := mem_entF.1 hp
  simp only at h1 h2
  have := cd_apart hm (show c < 65 by omega) hn (show c ≠ n by omega) (by omega) (by omega)
  rw [h2, Nat.sub_self, Nat.pow_zero, Nat.div_one] at this
  exact this h1.symm
theorem tells_entF {L : List Int} (hm : mayL L = true) : Tells L (entF L 65) := by
  intro v n hn
  cases hf : findC L v n with
  | none =>
    refine lookL_none fun p hp hh => ?_
    obtain ⟨c, hc, hc0, rfl⟩ := mem_entF.1 hp
    exact findC_none hf c hc hn hh.2 hh.1
  | some c =>
    obtain ⟨h1, _, h3, h4⟩ := findC_some hf
    have h := lookL_some (fit_entF hm (Nat.le_refl 65)) (mem_entF.2 ⟨c, h1, by omega, rfl⟩)
    simp only at h
    rw [h3, h4] at h
    exact h
theorem length_entF {L : List Int} (hl : L.length = 65) : (entF L 65).length = sm L := by
  have key : ∀ n, n ≤ 65 → (entF L n).length = ((L.take n).map fun x : Int => if 0 < x then 1 else 0).sum := by
    intro n
    induction n with
    | zero => intro _; rfl
    | succ n ih =>
      intro hn
      have e : L.take (n + 1) = L.take n ++ [L.getD n 0] := by rw [List.take_succ_eq_append_getElem (by omega)]; simp [List.getD_eq_getElem?_getD, show n < L.length by omega]
      rw [entF_succ, List.length_append, ih (by omega), e, List.map_append, List.sum_append]
      congr 1
      have e2 : cdN L n = (L.getD n 0).toNat := rfl
      by_cases h : 0 < L.getD n 0
      · rw [if_pos (by omega)]; simp only [List.map_cons, List.map_nil, List.sum_cons, List.sum_nil]; rw [if_pos h]; rfl
      · rw [if_neg (by omega)]; simp only [List.map_cons, List.map_nil, List.sum_cons, List.sum_nil]; rw [if_neg h]; rfl
  have h := key 65 (Nat.le_refl _)
  rw [h, List.take_of_length_le (by omega)]; rfl

/-- Whether nothing but noughts is left, and these fewer than eight. -/
def restL (bs : List Bool) : Bool := decide (bs.length < 8) && bs.all fun b => !b
theorem restS_drop (s : ByteArray) (k : Nat) (hk : k ≤ 8 * s.size) : restS s k = restL ((bitsS s).drop k) := by
  unfold restS restL
  congr 1
  rw [List.length_drop, length_bitsS]
  apply decide_eq_decide.2
  omega
/-- What is got: parts and an error. -/
def getE (L : List Int) (s : ByteArray) (n : Int) : List (Nat × Nat) × Int :=
  if mayL L = true then
    if n < 0 ∨ 4096 < n then ([], 1)
    else if (getPs L n.toNat (bitsS s)).1 ≠ 0 then ([], ((getPs L n.toNat (bitsS s)).1 : Int))
    else if restL (getPs L n.toNat (bitsS s)).2.2 = true then ((getPs L n.toNat (bitsS s)).2.1, 0) else ([], 3)
  else ([], 3)
end Go.Proofs.Ytnakjencodicmaa

-- ---- Jf
/- huff.Get: the parts of bytes: what the call answers. Conditions: those that each theorem names. -/
namespace Go.Proofs.Ytnakjencodicmaa
set_option maxRecDepth 100000
set_option linter.unusedSimpArgs false
set_option linter.unusedVariables false
open Go.RowKit Go.Proofs.YtnakjencodicmaaW.PrintWords Go.Proofs.YtnakjencodicmaaW.PrintLast Go.Proofs.YtnakjencodicmaaW.PrintMore Mix _root_.Go.Proofs.Ytnakjencodicmaa.Own Bits Hu Dp
attribute [local go_sem] max_int min_int

def flN (ps : List (Nat × Nat)) : List Value := ps.flatMap fun p => [.int .i64 (p.1 : Int), .int .u64 (p.2 : Int)]
theorem flN_snoc (ps : List (Nat × Nat)) (p : Nat × Nat) : flN (ps ++ [p]) = flN ps ++ [.int .i64 (p.1 : Int), .int .u64 (p.2 : Int)] := by simp [flN]
theorem infoPart : (Try.prog.info? 54).map (fun i => (i.zero, i.size, i.bytes)) = some (some (.agg #[.int .i64 0, .int .u64 0]), 2, 16) := by kernel_rfl
/-- What getting parts answers. -/
def GetPost (L : List Int) (s : ByteArray) (n : Int) (w : World) (e : Ending) (w' : World) : Prop :=
  ∃ v, e = .returned (.tuple #[v, .int .i64 (getE L s n).2]) ∧ OwnK w' 54 2 v (getE L s n).1.length (flN (getE L s n).1) ∧ (∀ g, v.ownBlock = some g → w.heap.size ≤ g) ∧ Below w.heap.size w w'
theorem IsMp.ne {w : World} {b : Nat} {F : List (Nat × Nat × Nat)} (h : IsMp w b F) {e : TypeId} {sz n : Nat} {v : Value} {cs : List Value} (k : OwnK w e sz v n cs) : v.ownBlock ≠ some b := by
  intro hv
  obtain ⟨cur, hc⟩ := k.blk b hv
  obtain ⟨es, clock, hb, _⟩ := h
  unfold Blk at hc
  rw [hc] at hb
  cases hb
theorem IsHr.later {w w' : World} {p q b : Nat} {s : ByteArray} {k : Nat} {F : List (Nat × Nat × Nat)} (h : IsHr w p q b s k F) (hb : Below w.heap.size w w') : IsHr w' p q b s k F :=
  ⟨(hb.block p (Blk.lt h.self)).trans h.self, h.rd.later hb, h.mp.later hb⟩

set_option maxHeartbeats 2000000 in
theorem hget_form (A0 : Option Addr) (c0 : Nat) (L : List Int) (s : ByteArray) (n : Int) (w : World) (hr0 : Kd.C (Kd.int .i64) w A0 L.length L) (hc0 : L.length ≤ c0) (hm : mayL L = false) :
    Calls Try.prog 12 #[.string s, .int .i64 n, .slice A0 L.length c0] w (GetPost L s n w) := by
  have HC := kept (CanonH.codes_bad A0 c0 L w hr0 hc0 hm)
  have hg : getE L s n = ([], 3) := by unfold getE; rw [hm]; rfl
  have HG := kept hg
  obtain ⟨l, hl⟩ : ∃ l, l = L.length := ⟨_, rfl⟩
  rw [← hl] at HC ⊢
  clear hr0 hc0 hm hg hl
  go_enter Try.func12, Try.ntmps12
  go_wp2_with fail
  refine HC.out.mono ?_
  rintro e w1 ⟨rfl, hb⟩
  have HB := kept hb
  clear hb
  go_wp2_with fail
  go_ret2
  unfold GetPost
  rw [HG.out]
  exact ⟨_, rfl, OwnK.nil _ _ _, fun g hg => by simp [Value.ownBlock] at hg, HB.out⟩
set_option maxHeartbeats 2000000 in
theorem hget_arg (A0 : Option Addr) (c0 : Nat) (L : List Int) (s : ByteArray) (n : Int) (w : World) (hr0 : Kd.C (Kd.int .i64) w A0 L.length L) (hc0 : L.length ≤ c0) (hm : mayL L = true) (hn : n < 0 ∨ 4096 < n) :
    Calls Try.prog 12 #[.string s, .int .i64 n, .slice A0 L.length c0] w (GetPost L s n w) := by
  have HC := kept (CanonH.codes_ok A0 c0 L w hr0 hc0 hm)
  have hg : getE L s n = ([], 1) := by unfold getE; rw [hm, if_pos rfl, if_pos hn]
  have HG := kept hg
  obtain ⟨l, hl⟩ : ∃ l, l = L.length := ⟨_, rfl⟩
  rw [← hl] at HC ⊢
  clear hr0 hc0 hm hg hl
  by_cases h0 : n < 0
  · have t1 : decide (n < 0) = true := decide_eq_true h0
    clear hn
    go_enter Try.func12, Try.ntmps12
    go_wp2_with fail
    refine HC.out.mono ?_
    rintro e w1 ⟨v, rfl, _, _, hb⟩
    have HB := kept hb
    clear hb
    go_wp2_with fail
    go_ret2
    unfold GetPost
    rw [HG.out]
    exact ⟨_, rfl, OwnK.nil _ _ _, fun g hg => by simp [Value.ownBlock] at hg, HB.out⟩
  · have t1 : decide (n < 0) = false := decide_eq_false h0
    have t2 : decide ((4096 : Int) < n) = true := decide_eq_true (by omega)
    clear hn
    go_enter Try.func12, Try.ntmps12
    go_wp2_with fail
    refine HC.out.mono ?_
    rintro e w1 ⟨v, rfl, _, _, hb⟩
    have HB := kept hb
    clear hb
    go_wp2_with fail
    go_ret2
    unfold GetPost
    rw [HG.out]
    exact ⟨_, rfl, OwnK.nil _ _ _, fun g hg => by simp [Value.ownBlock] at hg, HB.out⟩

set_option maxHeartbeats 16000000 in
theorem hget_code (A0 : Option Addr) (c0 : Nat) (L : List Int) (s : ByteArray) (N : Nat) (w : World) (hr0 : Kd.C (Kd.int .i64) w A0 L.length L) (hc0 : L.length ≤ c0) (hm : mayL L = true) (hN : N ≤ 4096) (hs : s.size ≤ 1000000000000) (hsm : ¬ sm L < 2) :
    Calls Try.prog 12 #[.string s, .int .i64 (N : Int), .slice A0 L.length c0] w (GetPost L s (N : Int) w) := by
  obtain ⟨i0, hi, hz0, hz1, hz2⟩ := CanonH.info_partsE infoPart
  have HC := kept (CanonH.codes_ok A0 c0 L w hr0 hc0 hm)
  have h65 := (Cd.may_range hm).1
  have HM := kept hm
  have HSm := kept hsm
  have t1 : decide ((N : Int) < 0) = false := decide_eq_false (by omega)
  have t2 : decide ((4096 : Int) < (N : Int)) = false := decide_eq_false (by omega)
  have hcl : (Cd.codeL L).length = 65 := Cd.length_cst L _
  have HCl := kept hcl
  have HLen := kept (length_entF h65)
  rw [h65] at HC ⊢
  have hmm := @run_makeMap Try.prog
  clear hr0 hc0 hm h65 hsm hcl
  go_enter Try.func12, Try.ntmps12
  go_wp2_with fail
  refine HC.out.mono ?_
  rintro e w1 ⟨vc, rfl, ho1, hnew1, hb1⟩
  obtain ⟨ac, cc, rfl, hac1, hac2, hac3⟩ := ho1.slice
  obtain ⟨gc, rfl⟩ := hac3 (by decide)
  have HO1 := kept ho1
  have HB1 := kept hb1
  clear ho1 hnew1 hb1 hac1 hac2 hac3
  go_wp2_with fail
  refine (from_calls s w1).mono ?_
  rintro e w2 ⟨q, rfl, hR2, hb2, hq2⟩
  have HO2 := kept (HO1.out.later hb2)
  have HB2 := kept (HB1.out.trans (hb2.mono HB1.out.size))
  have HR2 := kept hR2
  have HQ : Kept (w.heap.size ≤ q) := kept (Nat.le_trans HB1.out.size hq2)
  clear hR2 hb2 hq2
  go_upto_region 7 with fail
  obtain ⟨b, hbe⟩ : ∃ b, b = w2.heap.size := ⟨_, rfl⟩
  obtain ⟨p, hpe⟩ : ∃ p, p = w2.heap.size + 1 := ⟨_, rfl⟩
  generalize hw3 : World.alloc (World.alloc w2 _) _ = w3
  have hB3 : Below w2.heap.size w2 w3 := by rw [← hw3]; exact ((Below.refl _ _).alloc (Nat.le_refl _) _).alloc (by simp) _
  have HH3 : Kept (IsHr w3 p q b s 0 (entF L 0)) := kept (by
    refine ⟨?_, HR2.out.later hB3, ?_⟩
    · rw [← hw3, hpe, hbe]; exact Blk.fresh_at _ _ (by simp) _ _
    · rw [← hw3, hbe, entF_zero]; exact (IsMp.fresh w2).later ((Below.refl _ _).alloc (Nat.le_refl _) _))
  have HO3 := kept (HO2.out.later hB3)
  have HB3 := kept (HB2.out.trans (hB3.mono HB2.out.size))
  have HBp : Kept (w.heap.size ≤ p ∧ w.heap.size ≤ b) := kept (by have := HB2.out.size; omega)
  rw [← hpe, ← hbe]
  clear hbe hpe hw3 hB3 hmm
  go_wp2_with fail
  go_loopw [40] (fun s40 wr => ∃ c : Nat, c ≤ 65 ∧ s40 = .int .i64 (c : Int) ∧ IsHr wr p q b s 0 (entF L c) ∧ OwnK wr 69 2 (.slice (some ⟨gc, 0, none⟩) 65 cc) 65 (CanonH.fl (Cd.codeL L)) ∧ Below w.heap.size w wr) (fun s40 _ => 65 - (intOf s40).toNat)
  case atStart => exact ⟨0, by omega, rfl, HH3.out, HO3.out, HB3.out⟩
  case round =>
    obtain ⟨c, hc, rfl, hH, hO, hB⟩ := hrel
    obtain ⟨wq, rfl⟩ : ∃ wq, wq = wr := ⟨wr, rfl⟩
    have HH := kept hH
    have HO := kept hO
    have HB := kept hB
    clear hH hO hB
    by_cases hlt : c < 65
    · obtain ⟨cb, cn, hcode, hcb, hcn, hee⟩ : ∃ cb cn : Nat, (Cd.codeL L).getD c (0, 0) = ((cb : Int), (cn : Int)) ∧ cb < 32768 ∧ cn ≤ 15 ∧ (cb = cdB L c ∧ cn = cdN L c) := by
        obtain ⟨a1, a2, a3, a4, _⟩ := cd_all HM.out c hlt
        exact ⟨cdB L c, cdN L c, a4, Nat.lt_of_lt_of_le a2 (Nat.pow_le_pow_right (by decide) a1), a1, rfl, rfl⟩
      obtain ⟨f1, f2⟩ := CanonH.fl_at (Cd.codeL L) c (by rw [HCl.out]; exact hlt)
      have eat : Hp.at_ (Cd.codeL L) c = ((cb : Int), (cn : Int)) := hcode
      rw [eat] at f1 f2
      have k0 := HO.out.cell f1
      have k1 := HO.out.cell f2
      have HEe := kept hee
      clear f1 f2 eat hcode hee
      by_cases hpos : 0 < cn
      · have tpos : decide ((0 : Int) < (cn : Int)) = true := decide_eq_true (by omega)
        go_upto_region 11 with fail
        generalize hw4 : World.alloc wq _ = w4
        obtain ⟨gn, hgn⟩ : ∃ gn, gn = wq.heap.size := ⟨_, rfl⟩
        have hal : Below wq.heap.size wq w4 := by rw [← hw4]; exact (Below.refl _ _).alloc (Nat.le_refl _) _
        have hN4 : Blk w4 gn #[.int .i64 (cb : Int), .int .i64 (cn : Int)] 69 := by rw [hgn, ← hw4]; exact Blk.fresh _ _ _
        have HH4 := kept (HH.out.later hal)
        have HO4 := kept (HO.out.later hal)
        have HB4 := kept (HB.out.trans (hal.mono HB.out.size))
        rw [← hgn]
        have e0 := lat_cell (Blk.cell HH4.out.self (i := 1) rfl)
        have e1 := lat_cell (Blk.cell hN4 (i := 0) rfl)
        have e2 := lat_cell (Blk.cell hN4 (i := 1) rfl)
        have hM4 : IsMp w4.drew b (entF L c) := HH4.out.mp
        obtain ⟨w5, hput, hM5, hC5⟩ := hM4.put (fit_entF HM.out (by omega)) cb cn c (by omega) (by omega) (by rw [HEe.out.1, HEe.out.2]; exact new_entF HM.out hlt (by have := HEe.out; omega))
        have hput2 : (Instr.mapUpdate 83 (.map (some b)) (.agg #[.int .i64 (cb : Int), .int .i64 (cn : Int)]) (.int .i64 (c : Int))).run Try.prog w4.drew = .ok () w5 := hput
        have hC45 : Chg (fun x => x = b) w4 w5 := (Chg.drew (fun x => x = b) w4).trans hC5 (fun _ _ h => h)
        have HH5 : Kept (IsHr w5 p q b s 0 (entF L (c + 1))) := kept (by
          refine ⟨hC45.keep HH4.out.self ?_, hC45.keep HH4.out.rd (fun h => HH4.out.bq h.symm), ?_⟩
          · intro h
            obtain ⟨es, clock, hb, _⟩ := HH4.out.mp
            have h2 := HH4.out.self
            unfold Blk at h2
            rw [h, hb] at h2
            cases h2
          · rw [entF_succ, if_pos (by have := HEe.out; omega), ← HEe.out.1, ← HEe.out.2]; exact hM5)
        have HO5 := kept (HO4.out.chg hC45 (fun g hg h => IsMp.ne HH4.out.mp HO4.out (by rw [hg, h])))
        have HB5 := kept (HB4.out.trans (hC45.below HB4.out.size (fun x hx h => by have := HBp.out.2; omega)))
        clear hw4 hgn hal hN4 hM4 hput hM5 hC5 hC45 k0 k1
        refine wp_region_mixL [] [0,1,2,3,4,5] [6] (by kernel_rfl) (by kernel_rfl) ?_
        intro K hK
        simp only [pick, List.filterMap_cons, List.filterMap_nil, List.getElem?_cons_zero, List.getElem?_cons_succ]
        iterate 6 (show wpQuiet _ _ _ _ (_ :: _) _; go_big_quiet_step (fail))
        refine wpQuiet_nil ?_
        show wpList _ _ _ [_] _ _
        clear e0 e1 e2
        go_wp2_with fail
        refine hK _ _ ?_
        go_wp2_with fail
        go_roundw
        case rel => exact ⟨c + 1, by omega, by go_num, HH5.out, HO5.out, HB5.out⟩
        case measure => simp [intOf]; omega
      · have tpos : decide ((0 : Int) < (cn : Int)) = false := decide_eq_false (by omega)
        go_wp2_with fail
        go_roundw
        case rel =>
          have hal : Below wq.heap.size wq (wq.alloc (.cells #[.int .i64 (cb : Int), .int .i64 (cn : Int)] 69)) := (Below.refl _ _).alloc (Nat.le_refl _) _
          refine ⟨c + 1, by omega, by go_num, ?_, ?_, ?_⟩
          · rw [entF_succ, if_neg (by have := HEe.out; omega), List.append_nil]; exact HH.out.later hal
          · exact HO.out.later hal
          · exact HB.out.trans (hal.mono HB.out.size)
        case measure => simp [intOf]; omega
    · have hce : c = 65 := by omega
      subst hce
      rw [show ((65 : Nat) : Int) = 65 from rfl]
      have s1 : wq.cell? ⟨p, 1, none⟩ = some (.map (some b)) := Blk.cell HH.out.self rfl
      have hlen : ∀ ty, (Builtin.len_ #[83] ty #[.map (some b)]).run Try.prog wq = .ok (.int .i64 (sm L : Int)) wq := fun ty => by rw [← HLen.out]; exact HH.out.mp.len ty
      have tsm : decide ((sm L : Int) < 2) = false := decide_eq_false (by have := HSm.out; omega)
      go_wp2_with fail
      go_loopw [66, 14] (fun s66 s14 wr => ∃ (i k : Nat) (v : Value) (ps : List (Nat × Nat)), i ≤ N ∧ s66 = .int .i64 (i : Int) ∧ v = s14 ∧ ps.length = i ∧ OwnK wr 54 2 v i (flN ps) ∧ (∀ g, v.ownBlock = some g → w.heap.size ≤ g) ∧ IsHr wr p q b s k (entF L 65) ∧ k ≤ 8 * s.size ∧
        (getPs L N (bitsS s) = ((getPs L (N - i) ((bitsS s).drop k)).1, ps ++ (getPs L (N - i) ((bitsS s).drop k)).2.1, (getPs L (N - i) ((bitsS s).drop k)).2.2)) ∧ Below w.heap.size w wr) (fun s66 _ _ => N - (intOf s66).toNat)
      case atStart => exact ⟨0, 0, _, [], Nat.zero_le _, rfl, rfl, rfl, OwnK.nil _ _ _, fun g hg => by simp [Value.ownBlock] at hg, HH.out, Nat.zero_le _, by simp, HB.out⟩
      case round =>
        obtain ⟨i, k, v, ps, hiN, rfl, rfl, hpl, hO, hnew, hH, hk, hg, hB⟩ := hrel
        obtain ⟨wp, rfl⟩ : ∃ wp, wp = wr := ⟨wr, rfl⟩
        have HHr := kept hH
        have HOw := kept hO
        have HNw := kept hnew
        have HBl := kept hB
        have HGp := kept hg
        have HPl := kept hpl
        have HFit := kept (fit_entF HM.out (Nat.le_refl 65))
        have HTel := kept (tells_entF HM.out)
        clear hH hO hnew hB hg hpl s1 hlen tsm
        by_cases hlt : i < N
        · have HRead := kept (read_code L (entF L 65) p q b s k wp HHr.out hs hk (fun w1 h1 => code_calls L (entF L 65) p q b s k w1 HM.out (full_of HM.out HSm.out) HFit.out HTel.out h1 hs hk))
          obtain ⟨er, pc, pr, rst, hone⟩ : ∃ er pc pr rst, getOne L ((bitsS s).drop k) = (er, (pc, pr), rst) := ⟨_, _, _, _, rfl⟩
          obtain ⟨m, hme⟩ : ∃ m, N - i = m + 1 := ⟨N - i - 1, by omega⟩
          have HRead2 : Own.Kept (Calls Try.prog 35 #[.pointer (some ⟨p, 0, none⟩), .func (.func 33) #[.pointer (some ⟨p, 0, none⟩)] #[]] wp fun e w' => e = .returned (.tuple #[.agg #[.int .i64 (pc : Int), .int .u64 (pr : Int)], .int .i64 (er : Int)]) ∧ (er = 0 → ∃ k', k' ≤ 8 * s.size ∧ IsRd w' q s k' ∧ (bitsS s).drop k' = rst) ∧ Chg (fun x => x = q) wp w') :=
            kept (HRead.out.mono fun e w' h => by unfold PartPost at h; rw [hone] at h; exact h)
          have HOne := kept hone
          have HMe := kept hme
          clear hone hme
          go_wp2_with fail
          refine HRead2.out.mono ?_
          rintro e w2 ⟨rfl, hR2, hC2⟩
          have HC2 := kept hC2
          have hO2 : OwnK w2 54 2 v i (flN ps) := HOw.out.chg hC2 (fun g hg h => HOw.out.ne HHr.out.rd (by decide) (by rw [hg, h]))
          have HO2 := kept hO2
          have HB2 := kept (HBl.out.trans (hC2.below HBl.out.size (fun x hx h => by have := HQ.out; omega)))
          have HR2 := kept hR2
          clear hO2 hC2 hR2
          by_cases her : er = 0
          · subst her
            obtain ⟨k', hk', hRk, hdr⟩ := HR2.out rfl
            have hgp := getPs_ok L m ((bitsS s).drop k) (pc, pr) rst HOne.out
            have hg2 := HGp.out
            rw [HMe.out, hgp, ← hdr] at hg2
            have HG2 := kept hg2
            have HH2 := kept (HHr.out.chg HC2.out hRk)
            clear hdr hgp hg2 hRk
            go_upto_region 22 with fail
            generalize hw3 : World.alloc w2 _ = w3
            obtain ⟨gp, hgpe⟩ : ∃ gp, gp = w2.heap.size := ⟨_, rfl⟩
            have hal : Below w2.heap.size w2 w3 := by rw [← hw3]; exact (Below.refl _ _).alloc (Nat.le_refl _) _
            have hP3 : Blk w3 gp #[.int .i64 (pc : Int), .int .u64 (pr : Int)] 54 := by rw [hgpe, ← hw3]; exact Blk.fresh _ _ _
            have c0 : w3.cell? ⟨gp, 0, none⟩ = some (.int .i64 (pc : Int)) := Blk.cell hP3 rfl
            have c1 : w3.cell? ⟨gp, 1, none⟩ = some (.int .u64 (pr : Int)) := Blk.cell hP3 rfl
            have HO3 := kept (HO2.out.later hal)
            have HB3 := kept (HB2.out.trans (hal.mono HB2.out.size))
            have HH3 := kept (HH2.out.later hal)
            rw [← hgpe]
            clear hw3 hgpe hal hP3
            go_wp2_with (first | (at_builtin; refine wpList_appK1 (us := [.int .i64 (pc : Int), .int .u64 (pr : Int)]) rfl _ _ 22 rfl 54 i0 (.agg #[.int .i64 0, .int .u64 0]) 2 16 Try.underlying22 hi hz0 hz1 hz2 rfl (by decide) v i _ rfl HO3.out rfl ?_ rfl ?_ ?_ ?_) | fail)
            · intro u hu; simp at hu; rcases hu with rfl | rfl <;> rfl
            · simp [maxLen]; omega
            · omega
            intro v5 w5 O5 C5 F5
            rw [← flN_snoc ps (pc, pr)] at O5
            have HO5 := kept O5
            have HN5 : Own.Kept (∀ g, v5.ownBlock = some g → w.heap.size ≤ g) := kept (fun g hg => by
              rcases F5 g hg with h | h
              · exact HNw.out g h.symm
              · exact Nat.le_trans HB3.out.size h)
            have HB5 := kept (HB3.out.trans (C5.below HB3.out.size (fun x hx h => by have := HNw.out x h.symm; omega)))
            have HH5 : Own.Kept (IsHr w5 p q b s k' (entF L 65)) := kept ⟨C5.keep HH3.out.self (fun h => HO3.out.ne HH3.out.self (by decide) h.symm), C5.keep HH3.out.rd (fun h => HO3.out.ne HH3.out.rd (by decide) h.symm), HH3.out.mp.keep C5 (fun h => IsMp.ne HH3.out.mp HO3.out h.symm)⟩
            clear O5 C5 F5 c0 c1
            go_wp2_with fail
            go_roundw
            case rel => exact ⟨i + 1, k', v5, ps ++ [(pc, pr)], by omega, by go_num, rfl, by rw [List.length_append, HPl.out]; rfl, HO5.out, HN5.out, HH5.out, hk', by rw [HG2.out, show N - (i + 1) = m by have := HMe.out; omega, List.append_assoc]; rfl, HB5.out⟩
            case measure => simp [intOf]; omega
          · have ter : ((er : Int) != 0) = true := by rw [bne_iff_ne]; omega
            have hge : getE L s (N : Int) = ([], (er : Int)) := by
              have h1 : (getPs L N (bitsS s)).1 = er := by rw [HGp.out, HMe.out]; exact getPs_err L m _ er her (by rw [HOne.out])
              unfold getE
              rw [if_pos HM.out, if_neg (by omega), Int.toNat_natCast, h1, if_pos her]
            have HGe := kept hge
            clear hge
            go_wp2_with fail
            go_ret2
            unfold GetPost
            rw [HGe.out]
            exact ⟨_, rfl, OwnK.nil _ _ _, fun g hg => by simp [Value.ownBlock] at hg, HB2.out.trans (((Below.refl _ _).alloc (Nat.le_refl _) _).mono HB2.out.size)⟩
        · have hie : i = N := by omega
          subst hie
          have s0 : wp.cell? ⟨p, 0, none⟩ = some (.pointer (some ⟨q, 0, none⟩)) := Blk.cell HHr.out.self rfl
          have HRest := kept (rest_calls q s k wp HHr.out.rd hs hk)
          rw [restS_drop s k hk] at HRest
          have hg2 := HGp.out
          rw [Nat.sub_self] at hg2
          simp only [getPs, List.append_nil] at hg2
          obtain ⟨rb, hrb⟩ : ∃ rb, rb = restL ((bitsS s).drop k) := ⟨_, rfl⟩
          rw [← hrb] at HRest
          have hge : getE L s (i : Int) = if rb = true then (ps, 0) else ([], 3) := by
            unfold getE
            rw [if_pos HM.out, if_neg (by omega), Int.toNat_natCast, hg2, if_neg (by simp), ← hrb]
          clear hg2 hrb
          cases rb with
          | true =>
            have HGe : Own.Kept (getE L s (i : Int) = (ps, 0)) := kept (by rw [hge]; rfl)
            clear hge
            go_wp2_with (first | (go_at_call 36; refine HRest.out.mono ?_; rintro e w2 ⟨rfl, hb2⟩; have HB2 := kept hb2; clear hb2))
            go_ret2
            unfold GetPost
            rw [HGe.out]
            exact ⟨_, rfl, by rw [HPl.out]; exact HOw.out.later HB2.out, HNw.out, HBl.out.trans (HB2.out.mono HBl.out.size)⟩
          | false =>
            have HGe : Own.Kept (getE L s (i : Int) = ([], 3)) := kept (by rw [hge]; rfl)
            clear hge
            go_wp2_with (first | (go_at_call 36; refine HRest.out.mono ?_; rintro e w2 ⟨rfl, hb2⟩; have HB2 := kept hb2; clear hb2))
            go_ret2
            unfold GetPost
            rw [HGe.out]
            exact ⟨_, rfl, OwnK.nil _ _ _, fun g hg => by simp [Value.ownBlock] at hg, HBl.out.trans (HB2.out.mono HBl.out.size)⟩
set_option maxHeartbeats 16000000 in
theorem hget_only (A0 : Option Addr) (c0 : Nat) (L : List Int) (s : ByteArray) (N : Nat) (w : World) (hr0 : Kd.C (Kd.int .i64) w A0 L.length L) (hc0 : L.length ≤ c0) (hm : mayL L = true) (hN : N ≤ 4096) (hs : s.size ≤ 1000000000000) (hsm : sm L < 2) :
    Calls Try.prog 12 #[.string s, .int .i64 (N : Int), .slice A0 L.length c0] w (GetPost L s (N : Int) w) := by
  obtain ⟨i0, hi, hz0, hz1, hz2⟩ := CanonH.info_partsE infoPart
  have HC := kept (CanonH.codes_ok A0 c0 L w hr0 hc0 hm)
  have h65 := (Cd.may_range hm).1
  have HM := kept hm
  have HSm := kept hsm
  have t1 : decide ((N : Int) < 0) = false := decide_eq_false (by omega)
  have t2 : decide ((4096 : Int) < (N : Int)) = false := decide_eq_false (by omega)
  have hcl : (Cd.codeL L).length = 65 := Cd.length_cst L _
  have HCl := kept hcl
  have HLen := kept (length_entF h65)
  rw [h65] at HC ⊢
  have hmm := @run_makeMap Try.prog
  clear hr0 hc0 hm h65 hsm hcl
  go_enter Try.func12, Try.ntmps12
  go_wp2_with fail
  refine HC.out.mono ?_
  rintro e w1 ⟨vc, rfl, ho1, hnew1, hb1⟩
  obtain ⟨ac, cc, rfl, hac1, hac2, hac3⟩ := ho1.slice
  obtain ⟨gc, rfl⟩ := hac3 (by decide)
  have HO1 := kept ho1
  have HB1 := kept hb1
  clear ho1 hnew1 hb1 hac1 hac2 hac3
  go_wp2_with fail
  refine (from_calls s w1).mono ?_
  rintro e w2 ⟨q, rfl, hR2, hb2, hq2⟩
  have HO2 := kept (HO1.out.later hb2)
  have HB2 := kept (HB1.out.trans (hb2.mono HB1.out.size))
  have HR2 := kept hR2
  have HQ : Kept (w.heap.size ≤ q) := kept (Nat.le_trans HB1.out.size hq2)
  clear hR2 hb2 hq2
  go_upto_region 7 with fail
  obtain ⟨b, hbe⟩ : ∃ b, b = w2.heap.size := ⟨_, rfl⟩
  obtain ⟨p, hpe⟩ : ∃ p, p = w2.heap.size + 1 := ⟨_, rfl⟩
  generalize hw3 : World.alloc (World.alloc w2 _) _ = w3
  have hB3 : Below w2.heap.size w2 w3 := by rw [← hw3]; exact ((Below.refl _ _).alloc (Nat.le_refl _) _).alloc (by simp) _
  have HH3 : Kept (IsHr w3 p q b s 0 (entF L 0)) := kept (by
    refine ⟨?_, HR2.out.later hB3, ?_⟩
    · rw [← hw3, hpe, hbe]; exact Blk.fresh_at _ _ (by simp) _ _
    · rw [← hw3, hbe, entF_zero]; exact (IsMp.fresh w2).later ((Below.refl _ _).alloc (Nat.le_refl _) _))
  have HO3 := kept (HO2.out.later hB3)
  have HB3 := kept (HB2.out.trans (hB3.mono HB2.out.size))
  have HBp : Kept (w.heap.size ≤ p ∧ w.heap.size ≤ b) := kept (by have := HB2.out.size; omega)
  rw [← hpe, ← hbe]
  clear hbe hpe hw3 hB3 hmm
  go_wp2_with fail
  go_loopw [40] (fun s40 wr => ∃ c : Nat, c ≤ 65 ∧ s40 = .int .i64 (c : Int) ∧ IsHr wr p q b s 0 (entF L c) ∧ OwnK wr 69 2 (.slice (some ⟨gc, 0, none⟩) 65 cc) 65 (CanonH.fl (Cd.codeL L)) ∧ Below w.heap.size w wr) (fun s40 _ => 65 - (intOf s40).toNat)
  case atStart => exact ⟨0, by omega, rfl, HH3.out, HO3.out, HB3.out⟩
  case round =>
    obtain ⟨c, hc, rfl, hH, hO, hB⟩ := hrel
    obtain ⟨wq, rfl⟩ : ∃ wq, wq = wr := ⟨wr, rfl⟩
    have HH := kept hH
    have HO := kept hO
    have HB := kept hB
    clear hH hO hB
    by_cases hlt : c < 65
    · obtain ⟨cb, cn, hcode, hcb, hcn, hee⟩ : ∃ cb cn : Nat, (Cd.codeL L).getD c (0, 0) = ((cb : Int), (cn : Int)) ∧ cb < 32768 ∧ cn ≤ 15 ∧ (cb = cdB L c ∧ cn = cdN L c) := by
        obtain ⟨a1, a2, a3, a4, _⟩ := cd_all HM.out c hlt
        exact ⟨cdB L c, cdN L c, a4, Nat.lt_of_lt_of_le a2 (Nat.pow_le_pow_right (by decide) a1), a1, rfl, rfl⟩
      obtain ⟨f1, f2⟩ := CanonH.fl_at (Cd.codeL L) c (by rw [HCl.out]; exact hlt)
      have eat : Hp.at_ (Cd.codeL L) c = ((cb : Int), (cn : Int)) := hcode
      rw [eat] at f1 f2
      have k0 := HO.out.cell f1
      have k1 := HO.out.cell f2
      have HEe := kept hee
      clear f1 f2 eat hcode hee
      by_cases hpos : 0 < cn
      · have tpos : decide ((0 : Int) < (cn : Int)) = true := decide_eq_true (by omega)
        go_upto_region 11 with fail
        generalize hw4 : World.alloc wq _ = w4
        obtain ⟨gn, hgn⟩ : ∃ gn, gn = wq.heap.size := ⟨_, rfl⟩
        have hal : Below wq.heap.size wq w4 := by rw [← hw4]; exact (Below.refl _ _).alloc (Nat.le_refl _) _
        have hN4 : Blk w4 gn #[.int .i64 (cb : Int), .int .i64 (cn : Int)] 69 := by rw [hgn, ← hw4]; exact Blk.fresh _ _ _
        have HH4 := kept (HH.out.later hal)
        have HO4 := kept (HO.out.later hal)
        have HB4 := kept (HB.out.trans (hal.mono HB.out.size))
        rw [← hgn]
        have e0 := lat_cell (Blk.cell HH4.out.self (i := 1) rfl)
        have e1 := lat_cell (Blk.cell hN4 (i := 0) rfl)
        have e2 := lat_cell (Blk.cell hN4 (i := 1) rfl)
        have hM4 : IsMp w4.drew b (entF L c) := HH4.out.mp
        obtain ⟨w5, hput, hM5, hC5⟩ := hM4.put (fit_entF HM.out (by omega)) cb cn c (by omega) (by omega) (by rw [HEe.out.1, HEe.out.2]; exact new_entF HM.out hlt (by have := HEe.out; omega))
        have hput2 : (Instr.mapUpdate 83 (.map (some b)) (.agg #[.int .i64 (cb : Int), .int .i64 (cn : Int)]) (.int .i64 (c : Int))).run Try.prog w4.drew = .ok () w5 := hput
        have hC45 : Chg (fun x => x = b) w4 w5 := (Chg.drew (fun x => x = b) w4).trans hC5 (fun _ _ h => h)
        have HH5 : Kept (IsHr w5 p q b s 0 (entF L (c + 1))) := kept (by
          refine ⟨hC45.keep HH4.out.self ?_, hC45.keep HH4.out.rd (fun h => HH4.out.bq h.symm), ?_⟩
          · intro h
            obtain ⟨es, clock, hb, _⟩ := HH4.out.mp
            have h2 := HH4.out.self
            unfold Blk at h2
            rw [h, hb] at h2
            cases h2
          · rw [entF_succ, if_pos (by have := HEe.out; omega), ← HEe.out.1, ← HEe.out.2]; exact hM5)
        have HO5 := kept (HO4.out.chg hC45 (fun g hg h => IsMp.ne HH4.out.mp HO4.out (by rw [hg, h])))
        have HB5 := kept (HB4.out.trans (hC45.below HB4.out.size (fun x hx h => by have := HBp.out.2; omega)))
        clear hw4 hgn hal hN4 hM4 hput hM5 hC5 hC45 k0 k1
        refine wp_region_mixL [] [0,1,2,3,4,5] [6] (by kernel_rfl) (by kernel_rfl) ?_
        intro K hK
        simp only [pick, List.filterMap_cons, List.filterMap_nil, List.getElem?_cons_zero, List.getElem?_cons_succ]
        iterate 6 (show wpQuiet _ _ _ _ (_ :: _) _; go_big_quiet_step (fail))
        refine wpQuiet_nil ?_
        show wpList _ _ _ [_] _ _
        clear e0 e1 e2
        go_wp2_with fail
        refine hK _ _ ?_
        go_wp2_with fail
        go_roundw
        case rel => exact ⟨c + 1, by omega, by go_num, HH5.out, HO5.out, HB5.out⟩
        case measure => simp [intOf]; omega
      · have tpos : decide ((0 : Int) < (cn : Int)) = false := decide_eq_false (by omega)
        go_wp2_with fail
        go_roundw
        case rel =>
          have hal : Below wq.heap.size wq (wq.alloc (.cells #[.int .i64 (cb : Int), .int .i64 (cn : Int)] 69)) := (Below.refl _ _).alloc (Nat.le_refl _) _
          refine ⟨c + 1, by omega, by go_num, ?_, ?_, ?_⟩
          · rw [entF_succ, if_neg (by have := HEe.out; omega), List.append_nil]; exact HH.out.later hal
          · exact HO.out.later hal
          · exact HB.out.trans (hal.mono HB.out.size)
        case measure => simp [intOf]; omega
    · have hce : c = 65 := by omega
      subst hce
      rw [show ((65 : Nat) : Int) = 65 from rfl]
      have s1 : wq.cell? ⟨p, 1, none⟩ = some (.map (some b)) := Blk.cell HH.out.self rfl
      have hlen : ∀ ty, (Builtin.len_ #[83] ty #[.map (some b)]).run Try.prog wq = .ok (.int .i64 (sm L : Int)) wq := fun ty => by rw [← HLen.out]; exact HH.out.mp.len ty
      have tsm : decide ((sm L : Int) < 2) = true := decide_eq_true (by have := HSm.out; omega)
      go_wp2_with fail
      go_loopw [66, 14] (fun s66 s14 wr => ∃ (i k : Nat) (v : Value) (ps : List (Nat × Nat)), i ≤ N ∧ s66 = .int .i64 (i : Int) ∧ v = s14 ∧ ps.length = i ∧ OwnK wr 54 2 v i (flN ps) ∧ (∀ g, v.ownBlock = some g → w.heap.size ≤ g) ∧ IsHr wr p q b s k (entF L 65) ∧ k ≤ 8 * s.size ∧
        (getPs L N (bitsS s) = ((getPs L (N - i) ((bitsS s).drop k)).1, ps ++ (getPs L (N - i) ((bitsS s).drop k)).2.1, (getPs L (N - i) ((bitsS s).drop k)).2.2)) ∧ Below w.heap.size w wr) (fun s66 _ _ => N - (intOf s66).toNat)
      case atStart => exact ⟨0, 0, _, [], Nat.zero_le _, rfl, rfl, rfl, OwnK.nil _ _ _, fun g hg => by simp [Value.ownBlock] at hg, HH.out, Nat.zero_le _, by simp, HB.out⟩
      case round =>
        obtain ⟨i, k, v, ps, hiN, rfl, rfl, hpl, hO, hnew, hH, hk, hg, hB⟩ := hrel
        obtain ⟨wp, rfl⟩ : ∃ wp, wp = wr := ⟨wr, rfl⟩
        have HHr := kept hH
        have HOw := kept hO
        have HNw := kept hnew
        have HBl := kept hB
        have HGp := kept hg
        have HPl := kept hpl
        have HFit := kept (fit_entF HM.out (Nat.le_refl 65))
        have HTel := kept (tells_entF HM.out)
        clear hH hO hnew hB hg hpl s1 hlen tsm
        by_cases hlt : i < N
        · have HRead := kept (read_only L (entF L 65) p q b s k wp HHr.out hs hk (fun w1 h1 => only_calls L (entF L 65) p q b s k w1 HM.out HSm.out HFit.out HTel.out h1 hs hk))
          obtain ⟨er, pc, pr, rst, hone⟩ : ∃ er pc pr rst, getOne L ((bitsS s).drop k) = (er, (pc, pr), rst) := ⟨_, _, _, _, rfl⟩
          obtain ⟨m, hme⟩ : ∃ m, N - i = m + 1 := ⟨N - i - 1, by omega⟩
          have HRead2 : Own.Kept (Calls Try.prog 35 #[.pointer (some ⟨p, 0, none⟩), .func (.func 34) #[.pointer (some ⟨p, 0, none⟩)] #[]] wp fun e w' => e = .returned (.tuple #[.agg #[.int .i64 (pc : Int), .int .u64 (pr : Int)], .int .i64 (er : Int)]) ∧ (er = 0 → ∃ k', k' ≤ 8 * s.size ∧ IsRd w' q s k' ∧ (bitsS s).drop k' = rst) ∧ Chg (fun x => x = q) wp w') :=
            kept (HRead.out.mono fun e w' h => by unfold PartPost at h; rw [hone] at h; exact h)
          have HOne := kept hone
          have HMe := kept hme
          clear hone hme
          go_wp2_with fail
          refine HRead2.out.mono ?_
          rintro e w2 ⟨rfl, hR2, hC2⟩
          have HC2 := kept hC2
          have hO2 : OwnK w2 54 2 v i (flN ps) := HOw.out.chg hC2 (fun g hg h => HOw.out.ne HHr.out.rd (by decide) (by rw [hg, h]))
          have HO2 := kept hO2
          have HB2 := kept (HBl.out.trans (hC2.below HBl.out.size (fun x hx h => by have := HQ.out; omega)))
          have HR2 := kept hR2
          clear hO2 hC2 hR2
          by_cases her : er = 0
          · subst her
            obtain ⟨k', hk', hRk, hdr⟩ := HR2.out rfl
            have hgp := getPs_ok L m ((bitsS s).drop k) (pc, pr) rst HOne.out
            have hg2 := HGp.out
            rw [HMe.out, hgp, ← hdr] at hg2
            have HG2 := kept hg2
            have HH2 := kept (HHr.out.chg HC2.out hRk)
            clear hdr hgp hg2 hRk
            go_upto_region 22 with fail
            generalize hw3 : World.alloc w2 _ = w3
            obtain ⟨gp, hgpe⟩ : ∃ gp, gp = w2.heap.size := ⟨_, rfl⟩
            have hal : Below w2.heap.size w2 w3 := by rw [← hw3]; exact (Below.refl _ _).alloc (Nat.le_refl _) _
            have hP3 : Blk w3 gp #[.int .i64 (pc : Int), .int .u64 (pr : Int)] 54 := by rw [hgpe, ← hw3]; exact Blk.fresh _ _ _
            have c0 : w3.cell? ⟨gp, 0, none⟩ = some (.int .i64 (pc : Int)) := Blk.cell hP3 rfl
            have c1 : w3.cell? ⟨gp, 1, none⟩ = some (.int .u64 (pr : Int)) := Blk.cell hP3 rfl
            have HO3 := kept (HO2.out.later hal)
            have HB3 := kept (HB2.out.trans (hal.mono HB2.out.size))
            have HH3 := kept (HH2.out.later hal)
            rw [← hgpe]
            clear hw3 hgpe hal hP3
            go_wp2_with (first | (at_builtin; refine wpList_appK1 (us := [.int .i64 (pc : Int), .int .u64 (pr : Int)]) rfl _ _ 22 rfl 54 i0 (.agg #[.int .i64 0, .int .u64 0]) 2 16 Try.underlying22 hi hz0 hz1 hz2 rfl (by decide) v i _ rfl HO3.out rfl ?_ rfl ?_ ?_ ?_) | fail)
            · intro u hu; simp at hu; rcases hu with rfl | rfl <;> rfl
            · simp [maxLen]; omega
            · omega
            intro v5 w5 O5 C5 F5
            rw [← flN_snoc ps (pc, pr)] at O5
            have HO5 := kept O5
            have HN5 : Own.Kept (∀ g, v5.ownBlock = some g → w.heap.size ≤ g) := kept (fun g hg => by
              rcases F5 g hg with h | h
              · exact HNw.out g h.symm
              · exact Nat.le_trans HB3.out.size h)
            have HB5 := kept (HB3.out.trans (C5.below HB3.out.size (fun x hx h => by have := HNw.out x h.symm; omega)))
            have HH5 : Own.Kept (IsHr w5 p q b s k' (entF L 65)) := kept ⟨C5.keep HH3.out.self (fun h => HO3.out.ne HH3.out.self (by decide) h.symm), C5.keep HH3.out.rd (fun h => HO3.out.ne HH3.out.rd (by decide) h.symm), HH3.out.mp.keep C5 (fun h => IsMp.ne HH3.out.mp HO3.out h.symm)⟩
            clear O5 C5 F5 c0 c1
            go_wp2_with fail
            go_roundw
            case rel => exact ⟨i + 1, k', v5, ps ++ [(pc, pr)], by omega, by go_num, rfl, by rw [List.length_append, HPl.out]; rfl, HO5.out, HN5.out, HH5.out, hk', by rw [HG2.out, show N - (i + 1) = m by have := HMe.out; omega, List.append_assoc]; rfl, HB5.out⟩
            case measure => simp [intOf]; omega
          · have ter : ((er : Int) != 0) = true := by rw [bne_iff_ne]; omega
            have hge : getE L s (N : Int) = ([], (er : Int)) := by
              have h1 : (getPs L N (bitsS s)).1 = er := by rw [HGp.out, HMe.out]; exact getPs_err L m _ er her (by rw [HOne.out])
              unfold getE
              rw [if_pos HM.out, if_neg (by omega), Int.toNat_natCast, h1, if_pos her]
            have HGe := kept hge
            clear hge
            go_wp2_with fail
            go_ret2
            unfold GetPost
            rw [HGe.out]
            exact ⟨_, rfl, OwnK.nil _ _ _, fun g hg => by simp [Value.ownBlock] at hg, HB2.out.trans (((Below.refl _ _).alloc (Nat.le_refl _) _).mono HB2.out.size)⟩
        · have hie : i = N := by omega
          subst hie
          have s0 : wp.cell? ⟨p, 0, none⟩ = some (.pointer (some ⟨q, 0, none⟩)) := Blk.cell HHr.out.self rfl
          have HRest := kept (rest_calls q s k wp HHr.out.rd hs hk)
          rw [restS_drop s k hk] at HRest
          have hg2 := HGp.out
          rw [Nat.sub_self] at hg2
          simp only [getPs, List.append_nil] at hg2
          obtain ⟨rb, hrb⟩ : ∃ rb, rb = restL ((bitsS s).drop k) := ⟨_, rfl⟩
          rw [← hrb] at HRest
          have hge : getE L s (i : Int) = if rb = true then (ps, 0) else ([], 3) := by
            unfold getE
            rw [if_pos HM.out, if_neg (by omega), Int.toNat_natCast, hg2, if_neg (by simp), ← hrb]
          clear hg2 hrb
          cases rb with
          | true =>
            have HGe : Own.Kept (getE L s (i : Int) = (ps, 0)) := kept (by rw [hge]; rfl)
            clear hge
            go_wp2_with (first | (go_at_call 36; refine HRest.out.mono ?_; rintro e w2 ⟨rfl, hb2⟩; have HB2 := kept hb2; clear hb2))
            go_ret2
            unfold GetPost
            rw [HGe.out]
            exact ⟨_, rfl, by rw [HPl.out]; exact HOw.out.later HB2.out, HNw.out, HBl.out.trans (HB2.out.mono HBl.out.size)⟩
          | false =>
            have HGe : Own.Kept (getE L s (i : Int) = ([], 3)) := kept (by rw [hge]; rfl)
            clear hge
            go_wp2_with (first | (go_at_call 36; refine HRest.out.mono ?_; rintro e w2 ⟨rfl, hb2⟩; have HB2 := kept hb2; clear hb2))
            go_ret2
            unfold GetPost
            rw [HGe.out]
            exact ⟨_, rfl, OwnK.nil _ _ _, fun g hg => by simp [Value.ownBlock] at hg, HBl.out.trans (HB2.out.mono HBl.out.size)⟩
end Go.Proofs.Ytnakjencodicmaa

-- ---- Zm
/- Numbers by their size: plain facts; no program in sight. -/
namespace Go.Proofs.Ytnakjencodicmaa.Zig
set_option maxRecDepth 100000
set_option linter.unusedSimpArgs false
set_option linter.unusedVariables false

abbrev bl (u : Nat) : Nat := Go.Lib.bitLen u

theorem bl_zero : bl 0 = 0 := by decide

theorem bl_pos (u : Nat) (h0 : u ≠ 0) (h : u < 2 ^ 64) : 1 ≤ bl u := by
  have := Go.Lib.bitLen_half u h0 h
  unfold bl; omega

theorem bl_spec : ∀ (n u : Nat), u < n → u ≠ 0 → u < 2 ^ 64 → 2 ^ (bl u - 1) ≤ u ∧ u < 2 ^ bl u := by
  intro n
  induction n with
  | zero => intro u h; omega
  | succ n ih =>
    intro u hn h0 h
    have hb := Go.Lib.bitLen_half u h0 h
    by_cases h1 : u / 2 = 0
    · have hu : u = 1 := by omega
      subst hu
      decide
    · have ih2 := ih (u / 2) (by omega) h1 (by omega)
      have hp := bl_pos (u / 2) h1 (by omega)
      unfold bl at *
      rw [hb]
      have e : 1 + Go.Lib.bitLen (u / 2) - 1 = (Go.Lib.bitLen (u / 2) - 1) + 1 := by omega
      rw [e, Nat.add_comm 1, Nat.pow_succ, Nat.pow_succ]
      omega

theorem bl_le (u : Nat) (h : u < 2 ^ 64) : bl u ≤ 64 := Go.Lib.bitLen_le u 64 (by decide) h

theorem bl_eq (u k : Nat) (h1 : 2 ^ k ≤ u) (h2 : u < 2 ^ (k + 1)) (h : u < 2 ^ 64) : bl u = k + 1 := by
  have h0 : u ≠ 0 := by have := Nat.pow_pos (n := k) (show 0 < 2 by decide); omega
  have hs := bl_spec (u + 1) u (by omega) h0 h
  have hp := bl_pos u h0 h
  rcases Nat.lt_trichotomy (bl u) (k + 1) with hl | hl | hl
  · have : 2 ^ bl u ≤ 2 ^ k := Nat.pow_le_pow_right (by decide) (by omega)
    omega
  · exact hl
  · have : 2 ^ (k + 1) ≤ 2 ^ (bl u - 1) := Nat.pow_le_pow_right (by decide) (by omega)
    omega

/-- A number by its size. -/
def zmap (v : Int) : Nat := if v < 0 then (-2 * v - 1).toNat else (2 * v).toNat
def zback (u : Nat) : Int := if u % 2 = 1 then -((u / 2 : Nat) : Int) - 1 else ((u / 2 : Nat) : Int)

theorem zmap_lt (v : Int) (h0 : -9223372036854775808 ≤ v) (h1 : v ≤ 9223372036854775807) : zmap v < 18446744073709551616 := by unfold zmap; split <;> omega
def rstU (u : Nat) : Nat := if bl u = 0 then 0 else u - 2 ^ (bl u - 1)

theorem rstU_lt (u : Nat) (h : u < 18446744073709551616) : rstU u < 18446744073709551616 := by
  unfold rstU
  split
  · decide
  · exact Nat.lt_of_le_of_lt (Nat.sub_le _ _) h
/-- Has a part a number? -/
def may (c : Int) (r : Nat) : Bool := decide (0 ≤ c ∧ c ≤ 64) && (if c < 1 then decide (r = 0) else decide (r < 2 ^ (c.toNat - 1)))
def sizeOf (c : Int) (r : Nat) : Nat := if c < 1 then 0 else 2 ^ (c.toNat - 1) + r
def join (c : Int) (r : Nat) : Int := if may c r then zback (sizeOf c r) else 0

theorem pow_le63 (k : Nat) (h : k ≤ 63) : 2 ^ k ≤ 9223372036854775808 := by
  have : 2 ^ k ≤ 2 ^ 63 := Nat.pow_le_pow_right (by decide) h
  omega

/-- What is split of a number has it. -/
theorem may_split (u : Nat) (h : u < 18446744073709551616) : may (bl u : Int) (rstU u) = true := by
  unfold may rstU
  by_cases h0 : u = 0
  · subst h0; rw [bl_zero]; decide
  · have hs := bl_spec (u + 1) u (by omega) h0 h
    have hp := bl_pos u h0 h
    have hl := bl_le u h
    simp only [Bool.and_eq_true, decide_eq_true_eq]
    refine ⟨by omega, ?_⟩
    rw [if_neg (by omega), if_neg (by omega), decide_eq_true_eq, Int.toNat_natCast]
    have e : 2 ^ bl u = 2 ^ (bl u - 1) * 2 := by rw [← Nat.pow_succ]; congr 1; omega
    omega
end Go.Proofs.Ytnakjencodicmaa.Zig

-- ---- Jg
/- Parts that are put: the answer, and how they are read. Plain facts; no program in sight. -/
namespace Go.Proofs.Ytnakjencodicmaa
set_option maxRecDepth 100000
set_option linter.unusedSimpArgs false
set_option linter.unusedVariables false
open Go.RowKit Mix _root_.Go.Proofs.Ytnakjencodicmaa.Own Bits Hu Dp

/-- May a part be put? -/
def okP (L : List Int) (p : Int × Nat) : Bool := Zig.may p.1 p.2 && decide (L.getD p.1.toNat 0 ≠ 0)
def natP (p : Int × Nat) : Nat × Nat := (p.1.toNat, p.2)
/-- What is put: the bytes and an error. -/
def putE (L : List Int) (ps : List (Int × Nat)) : ByteArray × Int :=
  if mayL L = true then if ps.all (okP L) = true then (textOf (pack (enc L (ps.map natP))), 0) else (⟨#[]⟩, 1) else (⟨#[]⟩, 3)
theorem okP_able {L : List Int} (hm : mayL L = true) {p : Int × Nat} (h : okP L p = true) : 0 ≤ p.1 ∧ p.1 ≤ 64 ∧ Able L (natP p) := by
  unfold okP at h
  rw [Bool.and_eq_true, decide_eq_true_eq] at h
  obtain ⟨h1, h2⟩ := h
  unfold Zig.may at h1
  rw [Bool.and_eq_true, decide_eq_true_eq] at h1
  obtain ⟨⟨h3, h4⟩, h5⟩ := h1
  refine ⟨h3, h4, ?_⟩
  obtain ⟨a1, a2, a3, _⟩ := cd_all hm p.1.toNat (by omega)
  refine ⟨by show p.1.toNat < 65; omega, ?_, ?_⟩
  · show 1 ≤ cdN L p.1.toNat; omega
  · show p.2 < 2 ^ (p.1.toNat - 1)
    by_cases hc : p.1 < 1
    · rw [if_pos hc, decide_eq_true_eq] at h5
      have : 0 < 2 ^ (p.1.toNat - 1) := Nat.pow_pos (by decide)
      omega
    · rw [if_neg hc, decide_eq_true_eq] at h5; exact h5
theorem hi_take (b n k : Nat) (hk : k < n) : (hi b n).take (n - k) = (hi b n).take (n - (k + 1)) ++ [b.testBit k] := by
  rw [show n - k = (n - (k + 1)) + 1 by omega, List.take_succ_eq_append_getElem (by simp; omega)]
  congr 1
  simp only [hi, List.getElem_map, List.getElem_range]
  rw [show n - 1 - (n - (k + 1)) = k by omega]
theorem bitsOf_one (b k : Nat) : bitsOf (b / 2 ^ k) 1 = [b.testBit k] := by
  unfold bitsOf
  simp [Nat.testBit_eq_decide_div_mod_eq]
theorem enc_len (L : List Int) (hm : mayL L = true) : ∀ (ps : List (Nat × Nat)), (∀ p ∈ ps, Able L p) → (enc L ps).length ≤ 100 * ps.length := by
  intro ps
  induction ps with
  | nil => intro _; simp [enc]
  | cons p t ih =>
    intro h
    obtain ⟨h1, h2, h3⟩ := h p (by simp)
    have := ih fun q hq => h q (List.mem_cons_of_mem _ hq)
    have := (cd_all hm p.1 h1).1
    rw [enc_cons, List.length_append, length_encOne, List.length_cons]
    omega
theorem clamp1 : clamp 1 = 1 := by decide
theorem clamp_cls (c : Nat) (hc : c ≤ 64) : clamp ((c : Int) - 1) = c - 1 := by unfold clamp; omega

/-- A slice of parts that can be read. -/
structure RdQ (w : World) (A : Option Addr) (n : Nat) (ps : List (Int × Nat)) : Prop where
  len : ps.length = n
  at_ : 0 < n → ∃ x, A = some x ∧ ∀ i p, ps[i]? = some p → w.cell? (x.add (i * 2)) = some (.int .i64 p.1) ∧ w.cell? (x.add (i * 2 + 1)) = some (.int .u64 (p.2 : Int))
  wf : ∀ p ∈ ps, -9223372036854775808 ≤ p.1 ∧ p.1 ≤ 9223372036854775807 ∧ p.2 < 18446744073709551616
theorem RdQ.later {w w' : World} {A : Option Addr} {n : Nat} {ps : List (Int × Nat)} (h : RdQ w A n ps) (hb : Below w.heap.size w w') : RdQ w' A n ps :=
  ⟨h.len, fun h0 => by
    obtain ⟨x, hx, hc⟩ := h.at_ h0
    refine ⟨x, hx, fun i p hp => ?_⟩
    obtain ⟨c0, c1⟩ := hc i p hp
    exact ⟨(hb.cell (World.block_lt_of_cell? w _ c0)).trans c0, (hb.cell (World.block_lt_of_cell? w _ c1)).trans c1⟩, h.wf⟩
theorem cellN_add {w : World} {x : Addr} {n : Nat} {v : Value} (h : w.cell? (x.add n) = some v) (hn : n ≠ 0) : w.cell? ⟨x.block, x.off + n, none⟩ = some v := by
  unfold Addr.add at h
  rw [if_neg hn] at h
  exact h
theorem cellN_next {w : World} {x : Addr} {n : Nat} {v : Value} (h : w.cell? (x.add (n + 1)) = some v) : w.cell? ⟨(x.add n).block, (x.add n).off + 1, none⟩ = some v := by
  have h1 := cellN_add h (by omega)
  unfold Addr.add
  split
  · rename_i h0; subst h0; exact h1
  · exact h1
end Go.Proofs.Ytnakjencodicmaa
