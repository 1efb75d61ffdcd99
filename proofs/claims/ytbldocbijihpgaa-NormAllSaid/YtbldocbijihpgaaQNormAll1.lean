/- Part NormAll1 of what the layer's laws stand on: PAx31, PAx33, Ui, PAx27, NormAll, LawNormAll. Written by a program (merge.py) out of this session's own texts and of what the kit's print wrote over stand-ins (sp.py). Conditions: those that each theorem names. -/
import Derived.Test.YtbldocbijihpgaaQB2
import Derived.Test.YtbldocbijihpgaaQB3
import Derived.Test.YtbldocbijihpgaaQB1
import Derived.Test.YtbldocbijihpgaaRows
import Derived.WalkKit
import Derived.ProofKit
import Derived.OpenShut
import Derived.ShutString
import Derived.ChangeOld
import Derived.Below
import Derived.SizedLaws
-- ---- PAx31

namespace Go.Proofs.Ytbldocbijihpgaa.PA
open Go.RowKit Go.Proofs.YtbldocbijihpgaaW.PrintWords Go.Proofs.YtbldocbijihpgaaW.PrintLast Go.Proofs.YtbldocbijihpgaaW.PrintMore
attribute [local go_sem] max2_int min2_int max_two min_two max_three min_three max_four min_four   -- for this text's walks alone
set_option linter.unusedVariables false
set_option linter.unusedSimpArgs false

/-! ### wringerref7_PutNorm: function 20 -/
mutual
def wringerref7_PutNorm.l0 : Nat → List Int → ByteArray → Int → Option (ByteArray)
  | 0, _, _, _ => none
  | k + 1, x0, x3, x4 => if x4 < (x0.length : Int) then (if 0 ≤ x4 then ((wringerref1_PutVint.f k (IntKind.u64.wrap (rd x0 x4))).bind fun t171 => (if x3.size + t171.size ≤ 9223372036854775807 then (if (rd x0 x4) = 0 then (wringerref7_PutNorm.l1 k x0 (x3 ++ t171) x4 0) else (wringerref7_PutNorm.l0 k x0 (x3 ++ t171) (wrap64 (x4 + 1)))) else (none))) else (none)) else (some x3)
def wringerref7_PutNorm.l1 : Nat → List Int → ByteArray → Int → Int → Option (ByteArray)
  | 0, _, _, _, _ => none
  | k + 1, x0, x3, x4, x5 => if x4 < (x0.length : Int) then (if 0 ≤ x4 then (if (rd x0 x4) = 0 then (wringerref7_PutNorm.l1 k x0 x3 (wrap64 (x4 + 1)) (wrap64 (x5 + 1))) else ((wringerref1_PutVint.f k (IntKind.u64.wrap (wrap64 (x5 - 1)))).bind fun t174 => (if x3.size + t174.size ≤ 9223372036854775807 then (wringerref7_PutNorm.l0 k x0 (x3 ++ t174) x4) else (none)))) else (none)) else ((wringerref1_PutVint.f k (IntKind.u64.wrap (wrap64 (x5 - 1)))).bind fun t175 => (if x3.size + t175.size ≤ 9223372036854775807 then (wringerref7_PutNorm.l0 k x0 (x3 ++ t175) x4) else (none)))
end
def wringerref7_PutNorm.f (k : Nat) (l0 : List Int) : Option (ByteArray) := wringerref7_PutNorm.l0 k l0 (⟨#[]⟩ : ByteArray) 0
theorem wringerref7_PutNorm.mono_l : ∀ k, (∀ y0 y1 y2, LeO (wringerref7_PutNorm.l0 k y0 y1 y2) (wringerref7_PutNorm.l0 (k + 1) y0 y1 y2)) ∧ (∀ y0 y1 y2 y3, LeO (wringerref7_PutNorm.l1 k y0 y1 y2 y3) (wringerref7_PutNorm.l1 (k + 1) y0 y1 y2 y3))
  | 0 => ⟨fun _ _ _ r h => by simp [wringerref7_PutNorm.l0] at h, fun _ _ _ _ r h => by simp [wringerref7_PutNorm.l1] at h⟩
  | k + 1 => by
    obtain ⟨ih0, ih1⟩ := wringerref7_PutNorm.mono_l k
    refine ⟨?_, ?_⟩
    · intro y0 y1 y2
      unfold wringerref7_PutNorm.l0
      repeat' first
      | (with_reducible exact ih0 _ _ _)
      | (with_reducible exact ih1 _ _ _ _)
      | (with_reducible exact wringerref1_PutVint.mono _ _)
      | (with_reducible exact LeO.refl _)
      | (with_reducible exact LeO.none _)
      | (with_reducible refine LeO.ite ?_ ?_)
      | (with_reducible refine LeO.bind ?_ (fun _ => ?_))
      | exact ih0 _ _ _
      | exact ih1 _ _ _ _
      | exact wringerref1_PutVint.mono _ _
      | exact LeO.none _
      | refine LeO.ite ?_ ?_
      | refine LeO.bind ?_ (fun _ => ?_)
    · intro y0 y1 y2 y3
      unfold wringerref7_PutNorm.l1
      repeat' first
      | (with_reducible exact ih0 _ _ _)
      | (with_reducible exact ih1 _ _ _ _)
      | (with_reducible exact wringerref1_PutVint.mono _ _)
      | (with_reducible exact LeO.refl _)
      | (with_reducible exact LeO.none _)
      | (with_reducible refine LeO.ite ?_ ?_)
      | (with_reducible refine LeO.bind ?_ (fun _ => ?_))
      | exact ih0 _ _ _
      | exact ih1 _ _ _ _
      | exact wringerref1_PutVint.mono _ _
      | exact LeO.none _
      | refine LeO.ite ?_ ?_
      | refine LeO.bind ?_ (fun _ => ?_)
theorem wringerref7_PutNorm.mono : ∀ a0 k, LeO (wringerref7_PutNorm.f k a0) (wringerref7_PutNorm.f (k + 1) a0) := by
  intro a0 k
  obtain ⟨ih0, ih1⟩ := wringerref7_PutNorm.mono_l k
  unfold wringerref7_PutNorm.f
  repeat' first
      | (with_reducible exact ih0 _ _ _)
      | (with_reducible exact ih1 _ _ _ _)
      | (with_reducible exact wringerref1_PutVint.mono _ _)
      | (with_reducible exact LeO.refl _)
      | (with_reducible exact LeO.none _)
      | (with_reducible refine LeO.ite ?_ ?_)
      | (with_reducible refine LeO.bind ?_ (fun _ => ?_))
      | exact ih0 _ _ _
      | exact ih1 _ _ _ _
      | exact wringerref1_PutVint.mono _ _
      | exact LeO.none _
      | refine LeO.ite ?_ ?_
      | refine LeO.bind ?_ (fun _ => ?_)
set_option maxHeartbeats 8000000 in
set_option maxRecDepth 100000 in
theorem wringerref7_PutNorm.calls (k : Nat) (A0 : Option Addr) (c0 : Nat) (l0 : List Int) (r : ByteArray) (w : World) (hr0 : Kd.C (Kd.int .i64) w A0 l0.length l0) (hc0 : l0.length ≤ c0) (h : wringerref7_PutNorm.f k l0 = some r) :
    Calls Try.prog 20 #[.slice A0 l0.length c0] w fun e w' => e = .returned (.string r) ∧ Below w.heap.size w w' := by
  have HR0 := Aside0.mk hr0
  have HC0 := Aside0.mk hc0
  clear hr0 hc0
  have HB := Aside0.mk (Below.refl w.heap.size w)
  have H : (wringerref7_PutNorm.l0 k l0 (⟨#[]⟩ : ByteArray) 0) = some r := h
  clear h
  have H' := Aside0.mk H
  clear H
  go_enter Try.func20, Try.ntmps20
  go_wp2
  go_loopg [3, 4] k (fun kq v3 v4 w' => ∃ (x3_1 : ByteArray) (x4_1 : Int), v3 = .string x3_1 ∧ v4 = .int .i64 x4_1 ∧ Aside0 (wringerref7_PutNorm.l0 kq l0 x3_1 x4_1 = some r) ∧ Aside0 (kq ≤ k) ∧ Aside0 (Below w.heap.size w w'))
  case atStart => exact ⟨((⟨#[]⟩ : ByteArray)), (0), (by first | rfl | (simp; done) | (simp [*]; done)), (by first | rfl | (simp; done) | (simp [*]; done)), H', ⟨Nat.le_refl _⟩, ⟨by repeat (first | (with_reducible first | exact HB.out | apply below_alloc | apply pw_below_drewN | apply below_drew1) | exact HB.out)⟩⟩
  case round =>
    clear H'
    obtain ⟨x3_1, x4_1, rfl, rfl, HA, HK1, HB⟩ := hrel
    cases gk with
    | zero => exact absurd HA.out (by simp [wringerref7_PutNorm.l0])
    | succ k1 =>
      have H := HA.out
      clear HA
      simp only [wringerref7_PutNorm.l0] at H
      by_cases c2 : x4_1 < (l0.length : Int)
      · rw [if_pos c2] at H
        have c2b0 : decide (x4_1 < (l0.length : Int)) = true := decide_eq_true c2
        clear c2
        by_cases c3 : 0 ≤ x4_1
        · rw [if_pos c3] at H
          have c3b0 : decide (0 ≤ x4_1) = true := decide_eq_true c3
          clear c3
          replace H := Option.bind_eq_some_iff.mp H
          obtain ⟨t171, A40, H⟩ := H
          replace H : (if x3_1.size + t171.size ≤ 9223372036854775807 then (if (rd l0 x4_1) = 0 then (wringerref7_PutNorm.l1 k1 l0 (x3_1 ++ t171) x4_1 0) else (wringerref7_PutNorm.l0 k1 l0 (x3_1 ++ t171) (wrap64 (x4_1 + 1)))) else (none)) = some r := H
          have A4 := Aside0.mk A40
          clear A40
          by_cases c5 : x3_1.size + t171.size ≤ 9223372036854775807
          · rw [if_pos c5] at H
            have c5b0 := eq_true c5
            have c5b1 : decide (x3_1.size + t171.size ≤ 9223372036854775807) = true := decide_eq_true c5
            try have c5b2 : (9223372036854775807 < x3_1.size + t171.size) = False := eq_false (Nat.not_lt.2 c5)
            have c5z1 := c5b1
            have c5z2 := c5b2
            try simp only [ByteArray.size_append] at c5z1
            try simp only [ByteArray.size_append] at c5z2
            by_cases c6 : (rd l0 x4_1) = 0
            · rw [if_pos c6] at H
              have c6b0 : ((rd l0 x4_1) == 0) = true := beq_iff_eq.mpr c6
              have c6b1 : ((rd l0 x4_1) != 0) = false := bne_eq_false_iff_eq.mpr c6
              clear c6
              have H' := Aside0.mk H
              clear H
              have p170 : 0 ≤ (x4_1 : Int) := of_decide_eq_true (by first | (with_reducible assumption) | assumption)
              have q170 : x4_1 < (l0.length : Int) := of_decide_eq_true (by first | (with_reducible assumption) | assumption)
              obtain ⟨ad170, e170, hx170_0⟩ := Kd.at_int HR0.out x4_1 p170 q170
              cases e170
              replace hx170_0 := (HB.out.cell (World.block_lt_of_cell? w _ hx170_0)).trans hx170_0
              replace p170 := eq_true p170
              replace q170 := eq_true q170
              go_wp2_with (first | ((with_reducible refine gate_callee (f := 36) rfl ?_); refine goesL_ (some 16) rfl rfl Try.func36 (by kernel_rfl) rfl #[.int .u64 (IntKind.u64.wrap (rd l0 x4_1))] rfl (by (try simp only [List.map_toArray, List.map_cons, List.map_nil]); first | done | rfl | (simp only [List.length_drop, List.length_take]; rfl)) ?_; (with_reducible refine (wringerref1_PutVint.calls k1 (IntKind.u64.wrap (rd l0 x4_1)) t171 _ A4.out).mono ?_); rintro e w7 ⟨rfl, hb⟩; refine ⟨_, rfl, ?_⟩; have n0_ := Aside0.mk (below_step (by repeat (first | (with_reducible first | exact HB.out | apply below_alloc | apply pw_below_drewN | apply below_drew1) | exact HB.out)) hb); clear HB; have HB := n0_; clear n0_; (try clear hb); (try clear hb2); (try clear hk); (try clear hi); have p172 : 0 ≤ (x4_1 : Int) := of_decide_eq_true (by first | (with_reducible assumption) | assumption); have q172 : x4_1 < (l0.length : Int) := of_decide_eq_true (by first | (with_reducible assumption) | assumption); obtain ⟨ad172, e172, hx172_0⟩ := Kd.at_int HR0.out x4_1 p172 q172; obtain rfl : ad170 = ad172 := (by injection e172); replace hx172_0 := (HB.out.cell (World.block_lt_of_cell? w _ hx172_0)).trans hx172_0; replace p172 := eq_true p172; replace q172 := eq_true q172))
              go_loopg [4, 5] k1 (fun kq v4 v5 w' => ∃ (x4_2 : Int) (x5_2 : Int), v4 = .int .i64 x4_2 ∧ v5 = .int .i64 x5_2 ∧ Aside0 (wringerref7_PutNorm.l1 kq l0 (x3_1 ++ t171) x4_2 x5_2 = some r) ∧ Aside0 (kq ≤ k1) ∧ Aside0 (Below w.heap.size w w'))
              case atStart => exact ⟨(x4_1), (0), (by first | rfl | (simp; done) | (simp [*]; done)), (by first | rfl | (simp; done) | (simp [*]; done)), H', ⟨Nat.le_refl _⟩, ⟨by repeat (first | (with_reducible first | exact HB.out | apply below_alloc | apply pw_below_drewN | apply below_drew1) | exact HB.out)⟩⟩
              case round =>
                clear H'
                try clear p1
                try clear q1
                try clear hx1
                try clear c2
                try clear c2b0
                try clear p2
                try clear c3
                try clear c3b0
                try clear c5
                try clear c5b0
                try clear c5b1
                try clear c5b2
                try clear c6
                try clear c6b0
                try clear c6b1
                try clear p6
                try clear hx170_0
                try clear hx172_0
                try clear p170
                try clear p172
                try clear q170
                try clear q172
                obtain ⟨x4_2, x5_2, rfl, rfl, HA, HK2, HB⟩ := hrel
                cases gk with
                | zero => exact absurd HA.out (by simp [wringerref7_PutNorm.l1])
                | succ k2 =>
                  have H := HA.out
                  clear HA
                  simp only [wringerref7_PutNorm.l1] at H
                  by_cases c8 : x4_2 < (l0.length : Int)
                  · rw [if_pos c8] at H
                    have c8b0 : decide (x4_2 < (l0.length : Int)) = true := decide_eq_true c8
                    clear c8
                    by_cases c9 : 0 ≤ x4_2
                    · rw [if_pos c9] at H
                      have c9b0 : decide (0 ≤ x4_2) = true := decide_eq_true c9
                      clear c9
                      by_cases c10 : (rd l0 x4_2) = 0
                      · rw [if_pos c10] at H
                        have c10b0 : ((rd l0 x4_2) == 0) = true := beq_iff_eq.mpr c10
                        have c10b1 : ((rd l0 x4_2) != 0) = false := bne_eq_false_iff_eq.mpr c10
                        clear c10
                        have H' := Aside0.mk H
                        clear H
                        have p173 : 0 ≤ (x4_2 : Int) := of_decide_eq_true (by first | (with_reducible assumption) | assumption)
                        have q173 : x4_2 < (l0.length : Int) := of_decide_eq_true (by first | (with_reducible assumption) | assumption)
                        obtain ⟨ad173, e173, hx173_0⟩ := Kd.at_int HR0.out x4_2 p173 q173
                        obtain rfl : ad170 = ad173 := (by injection e173)
                        replace hx173_0 := (HB.out.cell (World.block_lt_of_cell? w _ hx173_0)).trans hx173_0
                        replace p173 := eq_true p173
                        replace q173 := eq_true q173
                        go_wp2
                        go_roundg k2
                        case measure => have := HK1.out; have := HK2.out; omega
                        case rel => exact ⟨(wrap64 (x4_2 + 1)), (wrap64 (x5_2 + 1)), (by first | rfl | (simp; done) | (simp [*]; done)), (by first | rfl | (simp; done) | (simp [*]; done)), H', ⟨by have := HK1.out; have := HK2.out; omega⟩, ⟨by repeat (first | (with_reducible first | exact HB.out | apply below_alloc | apply pw_below_drewN | apply below_drew1) | exact HB.out)⟩⟩
                      · rw [if_neg c10] at H
                        have c10b0 : ((rd l0 x4_2) == 0) = false := beq_eq_false_iff_ne.mpr c10
                        have c10b1 : ((rd l0 x4_2) != 0) = true := bne_iff_ne.mpr c10
                        replace H := Option.bind_eq_some_iff.mp H
                        obtain ⟨t174, A110, H⟩ := H
                        replace H : (if (x3_1 ++ t171).size + t174.size ≤ 9223372036854775807 then (wringerref7_PutNorm.l0 k2 l0 ((x3_1 ++ t171) ++ t174) x4_2) else (none)) = some r := H
                        have A11 := Aside0.mk A110
                        clear A110
                        by_cases c12 : (x3_1 ++ t171).size + t174.size ≤ 9223372036854775807
                        · rw [if_pos c12] at H
                          have c12b0 := eq_true c12
                          have c12b1 : decide ((x3_1 ++ t171).size + t174.size ≤ 9223372036854775807) = true := decide_eq_true c12
                          try have c12b2 : (9223372036854775807 < (x3_1 ++ t171).size + t174.size) = False := eq_false (Nat.not_lt.2 c12)
                          have c12z1 := c12b1
                          have c12z2 := c12b2
                          try simp only [ByteArray.size_append] at c12z1
                          try simp only [ByteArray.size_append] at c12z2
                          have H' := Aside0.mk H
                          clear H
                          have p173 : 0 ≤ (x4_2 : Int) := of_decide_eq_true (by first | (with_reducible assumption) | assumption)
                          have q173 : x4_2 < (l0.length : Int) := of_decide_eq_true (by first | (with_reducible assumption) | assumption)
                          obtain ⟨ad173, e173, hx173_0⟩ := Kd.at_int HR0.out x4_2 p173 q173
                          obtain rfl : ad170 = ad173 := (by injection e173)
                          replace hx173_0 := (HB.out.cell (World.block_lt_of_cell? w _ hx173_0)).trans hx173_0
                          replace p173 := eq_true p173
                          replace q173 := eq_true q173
                          go_wp2_with (first | ((with_reducible refine gate_callee (f := 36) rfl ?_); refine goesL_ (some 44) rfl rfl Try.func36 (by kernel_rfl) rfl #[.int .u64 (IntKind.u64.wrap (wrap64 (x5_2 - 1)))] rfl (by (try simp only [List.map_toArray, List.map_cons, List.map_nil]); first | done | rfl | (simp only [List.length_drop, List.length_take]; rfl)) ?_; (with_reducible refine (wringerref1_PutVint.calls k2 (IntKind.u64.wrap (wrap64 (x5_2 - 1))) t174 _ A11.out).mono ?_); rintro e w13 ⟨rfl, hb⟩; refine ⟨_, rfl, ?_⟩; have n0_ := Aside0.mk (below_step (by repeat (first | (with_reducible first | exact HB.out | apply below_alloc | apply pw_below_drewN | apply below_drew1) | exact HB.out)) hb); clear HB; have HB := n0_; clear n0_; (try clear hb); (try clear hb2); (try clear hk); (try clear hi)))
                          go_roundg k2
                          case measure => have := HK1.out; have := HK2.out; omega
                          case rel => exact ⟨((x3_1 ++ t171) ++ t174), (x4_2), (by first | rfl | (simp; done) | (simp [*]; done)), (by first | rfl | (simp; done) | (simp [*]; done)), H', ⟨by have := HK1.out; have := HK2.out; omega⟩, ⟨by repeat (first | (with_reducible first | exact HB.out | apply below_alloc | apply pw_below_drewN | apply below_drew1) | exact HB.out)⟩⟩
                        · rw [if_neg c12] at H
                          exact absurd H (by simp)
                    · rw [if_neg c9] at H
                      exact absurd H (by simp)
                  · rw [if_neg c8] at H
                    have c8b0 : decide (x4_2 < (l0.length : Int)) = false := decide_eq_false c8
                    clear c8
                    replace H := Option.bind_eq_some_iff.mp H
                    obtain ⟨t175, A140, H⟩ := H
                    replace H : (if (x3_1 ++ t171).size + t175.size ≤ 9223372036854775807 then (wringerref7_PutNorm.l0 k2 l0 ((x3_1 ++ t171) ++ t175) x4_2) else (none)) = some r := H
                    have A14 := Aside0.mk A140
                    clear A140
                    by_cases c15 : (x3_1 ++ t171).size + t175.size ≤ 9223372036854775807
                    · rw [if_pos c15] at H
                      have c15b0 := eq_true c15
                      have c15b1 : decide ((x3_1 ++ t171).size + t175.size ≤ 9223372036854775807) = true := decide_eq_true c15
                      try have c15b2 : (9223372036854775807 < (x3_1 ++ t171).size + t175.size) = False := eq_false (Nat.not_lt.2 c15)
                      have c15z1 := c15b1
                      have c15z2 := c15b2
                      try simp only [ByteArray.size_append] at c15z1
                      try simp only [ByteArray.size_append] at c15z2
                      have H' := Aside0.mk H
                      clear H
                      go_wp2_with (first | ((with_reducible refine gate_callee (f := 36) rfl ?_); refine goesL_ (some 44) rfl rfl Try.func36 (by kernel_rfl) rfl #[.int .u64 (IntKind.u64.wrap (wrap64 (x5_2 - 1)))] rfl (by (try simp only [List.map_toArray, List.map_cons, List.map_nil]); first | done | rfl | (simp only [List.length_drop, List.length_take]; rfl)) ?_; (with_reducible refine (wringerref1_PutVint.calls k2 (IntKind.u64.wrap (wrap64 (x5_2 - 1))) t175 _ A14.out).mono ?_); rintro e w16 ⟨rfl, hb⟩; refine ⟨_, rfl, ?_⟩; have n0_ := Aside0.mk (below_step (by repeat (first | (with_reducible first | exact HB.out | apply below_alloc | apply pw_below_drewN | apply below_drew1) | exact HB.out)) hb); clear HB; have HB := n0_; clear n0_; (try clear hb); (try clear hb2); (try clear hk); (try clear hi)))
                      go_roundg k2
                      case measure => have := HK1.out; have := HK2.out; omega
                      case rel => exact ⟨((x3_1 ++ t171) ++ t175), (x4_2), (by first | rfl | (simp; done) | (simp [*]; done)), (by first | rfl | (simp; done) | (simp [*]; done)), H', ⟨by have := HK1.out; have := HK2.out; omega⟩, ⟨by repeat (first | (with_reducible first | exact HB.out | apply below_alloc | apply pw_below_drewN | apply below_drew1) | exact HB.out)⟩⟩
                    · rw [if_neg c15] at H
                      exact absurd H (by simp)
            · rw [if_neg c6] at H
              have c6b0 : ((rd l0 x4_1) == 0) = false := beq_eq_false_iff_ne.mpr c6
              have c6b1 : ((rd l0 x4_1) != 0) = true := bne_iff_ne.mpr c6
              have H' := Aside0.mk H
              clear H
              have p170 : 0 ≤ (x4_1 : Int) := of_decide_eq_true (by first | (with_reducible assumption) | assumption)
              have q170 : x4_1 < (l0.length : Int) := of_decide_eq_true (by first | (with_reducible assumption) | assumption)
              obtain ⟨ad170, e170, hx170_0⟩ := Kd.at_int HR0.out x4_1 p170 q170
              cases e170
              replace hx170_0 := (HB.out.cell (World.block_lt_of_cell? w _ hx170_0)).trans hx170_0
              replace p170 := eq_true p170
              replace q170 := eq_true q170
              go_wp2_with (first | ((with_reducible refine gate_callee (f := 36) rfl ?_); refine goesL_ (some 16) rfl rfl Try.func36 (by kernel_rfl) rfl #[.int .u64 (IntKind.u64.wrap (rd l0 x4_1))] rfl (by (try simp only [List.map_toArray, List.map_cons, List.map_nil]); first | done | rfl | (simp only [List.length_drop, List.length_take]; rfl)) ?_; (with_reducible refine (wringerref1_PutVint.calls k1 (IntKind.u64.wrap (rd l0 x4_1)) t171 _ A4.out).mono ?_); rintro e w17 ⟨rfl, hb⟩; refine ⟨_, rfl, ?_⟩; have n0_ := Aside0.mk (below_step (by repeat (first | (with_reducible first | exact HB.out | apply below_alloc | apply pw_below_drewN | apply below_drew1) | exact HB.out)) hb); clear HB; have HB := n0_; clear n0_; (try clear hb); (try clear hb2); (try clear hk); (try clear hi); have p172 : 0 ≤ (x4_1 : Int) := of_decide_eq_true (by first | (with_reducible assumption) | assumption); have q172 : x4_1 < (l0.length : Int) := of_decide_eq_true (by first | (with_reducible assumption) | assumption); obtain ⟨ad172, e172, hx172_0⟩ := Kd.at_int HR0.out x4_1 p172 q172; obtain rfl : ad170 = ad172 := (by injection e172); replace hx172_0 := (HB.out.cell (World.block_lt_of_cell? w _ hx172_0)).trans hx172_0; replace p172 := eq_true p172; replace q172 := eq_true q172))
              go_roundg k1
              case measure => have := HK1.out; omega
              case rel => exact ⟨(x3_1 ++ t171), (wrap64 (x4_1 + 1)), (by first | rfl | (simp; done) | (simp [*]; done)), (by first | rfl | (simp; done) | (simp [*]; done)), H', ⟨by have := HK1.out; omega⟩, ⟨by repeat (first | (with_reducible first | exact HB.out | apply below_alloc | apply pw_below_drewN | apply below_drew1) | exact HB.out)⟩⟩
          · rw [if_neg c5] at H
            exact absurd H (by simp)
        · rw [if_neg c3] at H
          exact absurd H (by simp)
      · rw [if_neg c2] at H
        have c2b0 : decide (x4_1 < (l0.length : Int)) = false := decide_eq_false c2
        clear c2
        obtain rfl := Option.some.inj H
        go_wp2
        go_ret
        exact ⟨by first | rfl | (simp [errW_none, errW_some] <;> rfl) | (simp [*, errW_none, errW_some] <;> rfl), by repeat (first | (with_reducible first | exact HB.out | apply below_alloc | apply pw_below_drewN | apply below_drew1) | exact HB.out)⟩

end Go.Proofs.Ytbldocbijihpgaa.PA

-- ---- PAx33

namespace Go.Proofs.Ytbldocbijihpgaa.PA
open Go.RowKit Go.Proofs.YtbldocbijihpgaaW.PrintWords Go.Proofs.YtbldocbijihpgaaW.PrintLast Go.Proofs.YtbldocbijihpgaaW.PrintMore
attribute [local go_sem] max2_int min2_int max_two min_two max_three min_three max_four min_four   -- for this text's walks alone
set_option linter.unusedVariables false
set_option linter.unusedSimpArgs false

/-! ### wringerref7_GetNorm: function 17 -/
mutual
def wringerref7_GetNorm.j0 : Nat → ByteArray → Int → Int → Bool → Option (List Int × Int × Int)
  | 0, _, _, _, _ => none
  | k + 1, x0, x1, x2, x23 => if x23 = true then (some (([] : List Int), 0, 1)) else (wringerref7_GetNorm.l0 k x0 x1 x2 ([] : List Int) x1)
def wringerref7_GetNorm.l0 : Nat → ByteArray → Int → Int → List Int → Int → Option (List Int × Int × Int)
  | 0, _, _, _, _, _ => none
  | k + 1, x0, x1, x2, x7, x8 => if (x7.length : Int) < 65 then ((wringerref1_GetVint.f k x0 x8).bind fun bt180 => (if bt180.2.2 = 0 then (if bt180.1 > 0 then (if x7.length < 17592186044416 then (wringerref7_GetNorm.l0 k x0 x1 x2 (x7 ++ [wrap64 (mn bt180.1 1048576)]) bt180.2.1) else (none)) else ((wringerref1_GetVint.f k x0 bt180.2.1).bind fun bt187 => (if bt187.2.2 = 0 then (if bt187.1 ≥ 65 then (some (([] : List Int), 0, 3)) else (if 0 ≤ (IntKind.u64.wrap (bt187.1 + 1)) then (if x7.length + (IntKind.u64.wrap (bt187.1 + 1) : Int).toNat < 17592186044416 then (wringerref7_GetNorm.l0 k x0 x1 x2 (x7 ++ List.replicate (IntKind.u64.wrap (bt187.1 + 1) : Int).toNat 0) bt187.2.1) else (none)) else (none))) else (some (([] : List Int), 0, bt187.2.2))))) else (some (([] : List Int), 0, bt180.2.2)))) else ((wringerref7_MayNorm.f k x7 x2).bind fun t194 => (if t194 = true then ((wringerref7_PutNorm.f k x7).bind fun t195 => (if 0 ≤ x1 then (if x1 ≤ x8 then (if x8 ≤ (x0.size : Int) then (if t195.toList = (x0.extract (x1 : Int).toNat (x8 : Int).toNat).toList then (some (x7, x8, 0)) else (some (([] : List Int), 0, 3))) else (none)) else (none)) else (none))) else (some (([] : List Int), 0, 3))))
end
def wringerref7_GetNorm.f (k : Nat) (a0 : ByteArray) (a1 : Int) (a2 : Int) : Option (List Int × Int × Int) := if a1 < 0 then (wringerref7_GetNorm.j0 k a0 a1 a2 true) else (if a1 > (a0.size : Int) then (wringerref7_GetNorm.j0 k a0 a1 a2 true) else ((wringerref7_isLog.f a2).bind fun t179 => (wringerref7_GetNorm.j0 k a0 a1 a2 (!t179))))
theorem wringerref7_GetNorm.mono_l : ∀ k, (∀ y0 y1 y2 y3, LeO (wringerref7_GetNorm.j0 k y0 y1 y2 y3) (wringerref7_GetNorm.j0 (k + 1) y0 y1 y2 y3)) ∧ (∀ y0 y1 y2 y3 y4, LeO (wringerref7_GetNorm.l0 k y0 y1 y2 y3 y4) (wringerref7_GetNorm.l0 (k + 1) y0 y1 y2 y3 y4))
  | 0 => ⟨fun _ _ _ _ r h => by simp [wringerref7_GetNorm.j0] at h, fun _ _ _ _ _ r h => by simp [wringerref7_GetNorm.l0] at h⟩
  | k + 1 => by
    obtain ⟨ih0, ih1⟩ := wringerref7_GetNorm.mono_l k
    refine ⟨?_, ?_⟩
    · intro y0 y1 y2 y3
      unfold wringerref7_GetNorm.j0
      repeat' first
      | (with_reducible exact ih0 _ _ _ _)
      | (with_reducible exact ih1 _ _ _ _ _)
      | (with_reducible exact wringerref1_GetVint.mono _ _ _)
      | (with_reducible exact wringerref7_MayNorm.mono _ _ _)
      | (with_reducible exact wringerref7_PutNorm.mono _ _)
      | (with_reducible exact LeO.refl _)
      | (with_reducible exact LeO.none _)
      | (with_reducible refine LeO.ite ?_ ?_)
      | (with_reducible refine LeO.bind ?_ (fun _ => ?_))
      | exact ih0 _ _ _ _
      | exact ih1 _ _ _ _ _
      | exact wringerref1_GetVint.mono _ _ _
      | exact wringerref7_MayNorm.mono _ _ _
      | exact wringerref7_PutNorm.mono _ _
      | exact LeO.none _
      | refine LeO.ite ?_ ?_
      | refine LeO.bind ?_ (fun _ => ?_)
    · intro y0 y1 y2 y3 y4
      unfold wringerref7_GetNorm.l0
      repeat' first
      | (with_reducible exact ih0 _ _ _ _)
      | (with_reducible exact ih1 _ _ _ _ _)
      | (with_reducible exact wringerref1_GetVint.mono _ _ _)
      | (with_reducible exact wringerref7_MayNorm.mono _ _ _)
      | (with_reducible exact wringerref7_PutNorm.mono _ _)
      | (with_reducible exact LeO.refl _)
      | (with_reducible exact LeO.none _)
      | (with_reducible refine LeO.ite ?_ ?_)
      | (with_reducible refine LeO.bind ?_ (fun _ => ?_))
      | exact ih0 _ _ _ _
      | exact ih1 _ _ _ _ _
      | exact wringerref1_GetVint.mono _ _ _
      | exact wringerref7_MayNorm.mono _ _ _
      | exact wringerref7_PutNorm.mono _ _
      | exact LeO.none _
      | refine LeO.ite ?_ ?_
      | refine LeO.bind ?_ (fun _ => ?_)
theorem wringerref7_GetNorm.mono : ∀ a0 a1 a2 k, LeO (wringerref7_GetNorm.f k a0 a1 a2) (wringerref7_GetNorm.f (k + 1) a0 a1 a2) := by
  intro a0 a1 a2 k
  obtain ⟨ih0, ih1⟩ := wringerref7_GetNorm.mono_l k
  unfold wringerref7_GetNorm.f
  repeat' first
      | (with_reducible exact ih0 _ _ _ _)
      | (with_reducible exact ih1 _ _ _ _ _)
      | (with_reducible exact wringerref1_GetVint.mono _ _ _)
      | (with_reducible exact wringerref7_MayNorm.mono _ _ _)
      | (with_reducible exact wringerref7_PutNorm.mono _ _)
      | (with_reducible exact LeO.refl _)
      | (with_reducible exact LeO.none _)
      | (with_reducible refine LeO.ite ?_ ?_)
      | (with_reducible refine LeO.bind ?_ (fun _ => ?_))
      | exact ih0 _ _ _ _
      | exact ih1 _ _ _ _ _
      | exact wringerref1_GetVint.mono _ _ _
      | exact wringerref7_MayNorm.mono _ _ _
      | exact wringerref7_PutNorm.mono _ _
      | exact LeO.none _
      | refine LeO.ite ?_ ?_
      | refine LeO.bind ?_ (fun _ => ?_)
def wringerref7_GetNorm.T19 : Bool × List (List Nat × List Nat) := (true, [([], []), ([], []), ([0, 1], [0, 1]), ([2], [2]), ([3, 2], [3]), ([4], [4]), ([5, 4, 4], [4, 5]), ([4], [4]), ([4], [4]), ([4], [4]), ([7, 8, 9, 4], [4, 7, 8, 9]), ([6, 10, 4], [4, 6, 10]), ([4, 11], [4, 11])])
def wringerref7_GetNorm.B19 : List Nat := [0, 0, 3, 7, 15, 31, 63, 31, 31, 31, 927, 2047, 4095]
theorem wringerref7_GetNorm.tab19 : rtab .any (opsOf Try.f17 19) = wringerref7_GetNorm.T19 := by kernel_rfl
theorem wringerref7_GetNorm.bits19 : waitsOk wringerref7_GetNorm.T19.2 wringerref7_GetNorm.B19 = true := by kernel_rfl
set_option maxHeartbeats 8000000 in
set_option maxRecDepth 100000 in
theorem wringerref7_GetNorm.calls (k : Nat) (a0 : ByteArray) (a1 : Int) (a2 : Int) (r1 : List Int) (r2 : Int) (r3 : Int) (w : World) (h : wringerref7_GetNorm.f k a0 a1 a2 = some (r1, r2, r3)) :
    Calls Try.prog 17 #[.string a0, .int .i64 a1, .int .i64 a2] w fun e w' => ∃ v0_ : Value, e = .returned (.agg #[v0_, .int .i64 r2, .int .i64 r3]) ∧ Kd.R (Kd.int .i64) 3 w' w.heap.size (fun _ => True) v0_ r1 ∧ Below w.heap.size w w' := by
  have hu41 := Try.underlying41
  have hu61 := Try.underlying61
  have HB := Aside0.mk (Below.refl w.heap.size w)
  have H : (if a1 < 0 then (wringerref7_GetNorm.j0 k a0 a1 a2 true) else (if a1 > (a0.size : Int) then (wringerref7_GetNorm.j0 k a0 a1 a2 true) else ((wringerref7_isLog.f a2).bind fun t179 => (wringerref7_GetNorm.j0 k a0 a1 a2 (!t179))))) = some (r1, r2, r3) := h
  clear h
  have HC4 := Aside0.mk H
  clear H
  go_enter Try.func17, Try.ntmps17
  go_upto_region 1 with (first | ((with_reducible refine gate_dst (N := 6) rfl ?_); (try (refine gate_guard (by rfl) ?_; dsimp only)); refine box_event ?hg (N := 6) ?hd (cs := #[.slice none 0 0, .int .i64 0, .int .i64 0]) (t := 41) ?hr ?_; (case hd => rfl); (case hg => rfl); (case hr => first | (go_simp; done) | (go_simp; rfl)); intro gb178 hg w5 hbox hb; have n0_ := Aside0.mk (below_step (by repeat (first | (with_reducible first | exact HB.out | apply below_alloc | apply pw_below_drewN | apply below_drew1) | exact HB.out)) hb); have n1_ := Aside0.mk (hbox); have n2_ := Aside0.mk ((by rw [hg]; exact (below_size (by repeat (first | (with_reducible first | exact HB.out | apply below_alloc | apply pw_below_drewN | apply below_drew1) | exact HB.out))) : w.heap.size ≤ gb178)); have n3_ := Aside0.mk ((by rw [hg]; exact (below_size (by repeat (first | (with_reducible first | exact HB.out | apply below_alloc | apply pw_below_drewN | apply below_drew1) | exact HB.out))) : w.heap.size ≤ gb178)); clear HB; have HB := n0_; have BK178 := n1_; have GW178 := n2_; have GE178 := n3_; clear n0_ n1_ n2_ n3_; clear hb hbox hg))
  (try simp only [Act.put, List.setIfInBounds_toArray, List.set_cons_zero, List.set_cons_succ])
  go_cut [23] (fun v23 wc => ∃ (kq : Nat) (x23_3 : Bool), v23 = .bool x23_3 ∧ Aside0 (wringerref7_GetNorm.j0 kq a0 a1 a2 x23_3 = some (r1, r2, r3)) ∧ Aside0 (kq ≤ k) ∧ Aside0 (wc.heap[gb178]? = some (.cells #[(.slice none 0 0), .int .i64 0, .int .i64 0] 41 (0, 0))) ∧ Aside0 (Below w.heap.size w wc))
  case first =>
    have H := HC4.out
    clear HC4
    by_cases c6 : a1 < 0
    · rw [if_pos c6] at H
      have c6b0 : decide (a1 < 0) = true := decide_eq_true c6
      clear c6
      (first | rw [c6b0] | (simp only [i64_w, i32_w]; rw [c6b0]) | skip)
      have H' := Aside0.mk H
      clear H
      go_wp2
      go_meet
      case rel => exact ⟨_, (true), (by first | rfl | (simp; done) | (simp [*]; done)), H', ⟨by first | omega | exact Nat.le_refl _⟩, ⟨by (with_reducible repeat (first | refine blk_drewN ?_ _ | refine blk_drew ?_ | refine blk_alloc ?_ _)); exact BK178.out⟩, ⟨by repeat (first | (with_reducible first | exact HB.out | apply below_alloc | apply pw_below_drewN | apply below_drew1 | refine below_set ?_ GE178.out) | exact HB.out)⟩⟩
    · rw [if_neg c6] at H
      have c6b0 : decide (a1 < 0) = false := decide_eq_false c6
      clear c6
      (first | rw [c6b0] | (simp only [i64_w, i32_w]; rw [c6b0]) | skip)
      by_cases c7 : a1 > (a0.size : Int)
      · rw [if_pos c7] at H
        have c7b0 : decide ((a0.size : Int) < a1) = true := decide_eq_true c7
        clear c7
        have H' := Aside0.mk H
        clear H
        go_wp2
        go_meet
        case rel => exact ⟨_, (true), (by first | rfl | (simp; done) | (simp [*]; done)), H', ⟨by first | omega | exact Nat.le_refl _⟩, ⟨by (with_reducible repeat (first | refine blk_drewN ?_ _ | refine blk_drew ?_ | refine blk_alloc ?_ _)); exact BK178.out⟩, ⟨by repeat (first | (with_reducible first | exact HB.out | apply below_alloc | apply pw_below_drewN | apply below_drew1 | refine below_set ?_ GE178.out) | exact HB.out)⟩⟩
      · rw [if_neg c7] at H
        have c7b0 : decide ((a0.size : Int) < a1) = false := decide_eq_false c7
        clear c7
        replace H := Option.bind_eq_some_iff.mp H
        obtain ⟨t179, A80, H⟩ := H
        replace H : (wringerref7_GetNorm.j0 k a0 a1 a2 (!t179)) = some (r1, r2, r3) := H
        have A8 := Aside0.mk A80
        clear A80
        have H' := Aside0.mk H
        clear H
        go_wp2_with (first | (go_at_call 28; (with_reducible refine (wringerref7_isLog.calls a2 t179 _ A8.out).mono ?_); rintro e w' ⟨rfl, ⟨nd, rfl⟩⟩))
        go_meet
        case rel => exact ⟨_, (!t179), (by first | rfl | (simp; done) | (simp [*]; done)), H', ⟨by first | omega | exact Nat.le_refl _⟩, ⟨by (with_reducible repeat (first | refine blk_drewN ?_ _ | refine blk_drew ?_ | refine blk_alloc ?_ _)); exact BK178.out⟩, ⟨by repeat (first | (with_reducible first | exact HB.out | apply below_alloc | apply pw_below_drewN | apply below_drew1 | refine below_set ?_ GE178.out) | exact HB.out)⟩⟩
  case rest =>
    clear HC4
    try clear c1
    try clear p2
    try clear c6
    try clear c6b0
    try clear c7
    try clear c7b0
    obtain ⟨kq, x23_3, rfl, HA, HJ3, BK178, HB⟩ := hcut
    cases kq with
    | zero => exact absurd HA.out (by simp [wringerref7_GetNorm.j0])
    | succ kj3 =>
      have H := HA.out
      clear HA
      simp only [wringerref7_GetNorm.j0] at H
      by_cases c9 : x23_3 = true
      · subst c9
        have H1 : (some (([] : List Int), 0, 1)) = some (r1, r2, r3) := by rw [if_pos rfl] at H; exact H
        clear H
        have H := H1
        clear H1
        simp only [Option.some.injEq, Prod.mk.injEq] at H
        obtain ⟨rfl, rfl, rfl⟩ := H
        have hcz10_0 : wc.cell? ⟨gb178, 0, none⟩ = some (.slice none 0 0) := (blk_cell BK178.out 0).trans rfl
        have hcz10_1 : wc.cell? ⟨gb178, 1, none⟩ = some (.int .i64 0) := (blk_cell BK178.out 1).trans rfl
        have hcz10_2 : wc.cell? ⟨gb178, 2, none⟩ = some (.int .i64 0) := (blk_cell BK178.out 2).trans rfl
        have hfz10_0 := blk_frozen BK178.out 0
        have hfz10_1 := blk_frozen BK178.out 1
        have hfz10_2 := blk_frozen BK178.out 2
        go_wp2
        refine bodyPost_ret (results_cell_row rfl _ _ gb178 41 #[.slice none 0 0, .int .i64 0, .int .i64 1] (0, 0) _ rfl (by (with_reducible repeat (first | refine blk_drewN ?_ _ | refine blk_drew ?_ | refine blk_alloc ?_ _)); refine blk_put (cs := #[.slice none 0 0, .int .i64 0, .int .i64 0]) ?_ 2 _ rfl; (with_reducible repeat (first | refine blk_drewN ?_ _ | refine blk_drew ?_ | refine blk_alloc ?_ _)); refine blk_put (cs := #[.slice none 0 0, .int .i64 0, .int .i64 0]) ?_ 1 _ rfl; (with_reducible repeat (first | refine blk_drewN ?_ _ | refine blk_drew ?_ | refine blk_alloc ?_ _)); refine blk_put (cs := #[.slice none 0 0, .int .i64 0, .int .i64 0]) ?_ 0 _ rfl; (with_reducible repeat (first | refine blk_drewN ?_ _ | refine blk_drew ?_ | refine blk_alloc ?_ _)); exact BK178.out) Try.underlying41 rfl (by kernel_rfl)) rfl ?_
        exact ⟨_, by first | rfl | (simp [errW_none, errW_some] <;> rfl) | (simp [*, errW_none, errW_some] <;> rfl), by first | exact Kd.R_nil _ _ _ _ _ | exact Kd.N_nil _ _ _ _ _ | exact Kd.V_nil _ _ _ _ _ | exact Kd.Q_nil _ _ _ _ _ | exact Kd.S_nil _ _ _ _ _, by repeat (first | (with_reducible first | exact HB.out | apply below_alloc | apply pw_below_drewN | apply below_drew1 | refine below_set ?_ GE178.out) | exact HB.out)⟩
      · replace c9 := Bool.eq_false_iff.mpr c9
        subst c9
        have H1 : (wringerref7_GetNorm.l0 kj3 a0 a1 a2 ([] : List Int) a1) = some (r1, r2, r3) := by rw [if_neg (show ¬ (false = true) by decide)] at H; exact H
        clear H
        have H := H1
        clear H1
        have H' := Aside0.mk H
        clear H
        go_wp2
        go_loopg [7, 8] kj3 (fun kq v7 v8 w' => ∃ (x7_2 : List Int) (x8_2 : Int) (x179001_2 : Int) (x179002_2 : Int), v8 = .int .i64 x8_2 ∧ Aside0 (wringerref7_GetNorm.l0 kq a0 a1 a2 x7_2 x8_2 = some (r1, r2, r3)) ∧ Aside0 (kq ≤ kj3) ∧ Aside0 (Kd.R (Kd.int .i64) 3 w' w.heap.size (fun _ => True) v7 x7_2) ∧ Aside0 (w'.heap[gb178]? = some (.cells #[(.slice none 0 0), .int .i64 x179001_2, .int .i64 x179002_2] 41 (0, 0))) ∧ Aside0 (Below w.heap.size w w'))
        case atStart => exact ⟨(([] : List Int)), (a1), (0), (0), (by first | rfl | (simp; done) | (simp [*]; done)), H', ⟨Nat.le_refl _⟩, ⟨by first | exact Kd.R_nil _ _ _ _ _ | exact Kd.N_nil _ _ _ _ _ | exact Kd.V_nil _ _ _ _ _ | exact Kd.Q_nil _ _ _ _ _ | exact Kd.S_nil _ _ _ _ _⟩, ⟨by (with_reducible repeat (first | refine blk_drewN ?_ _ | refine blk_drew ?_ | refine blk_alloc ?_ _)); exact BK178.out⟩, ⟨by repeat (first | (with_reducible first | exact HB.out | apply below_alloc | apply pw_below_drewN | apply below_drew1 | refine below_set ?_ GE178.out) | exact HB.out)⟩⟩
        case round =>
          clear H'
          try clear c1
          try clear p2
          try clear c6
          try clear c6b0
          try clear c7
          try clear c7b0
          try clear c9
          try clear hcz10_0
          try clear hcz10_1
          try clear hcz10_2
          try clear hfz10_0
          try clear hfz10_1
          try clear hfz10_2
          try clear p2
          obtain ⟨x7_2, x8_2, x179001_2, x179002_2, rfl, HA, HK2, HO_7, BK178, HB⟩ := hrel
          cases gk with
          | zero => exact absurd HA.out (by simp [wringerref7_GetNorm.l0])
          | succ k2 =>
            have H := HA.out
            clear HA
            simp only [wringerref7_GetNorm.l0] at H
            by_cases c11 : (x7_2.length : Int) < 65
            · rw [if_pos c11] at H
              have c11b0 : decide ((x7_2.length : Int) < 65) = true := decide_eq_true c11
              have c11b1 : decide (x7_2.length < 65) = true := decide_eq_true (by omega)
              clear c11
              replace H := Option.bind_eq_some_iff.mp H
              obtain ⟨⟨t180, t181, t182⟩, A120, H⟩ := H
              replace H : (if t182 = 0 then (if t180 > 0 then (if x7_2.length < 17592186044416 then (wringerref7_GetNorm.l0 k2 a0 a1 a2 (x7_2 ++ [wrap64 (mn t180 1048576)]) t181) else (none)) else ((wringerref1_GetVint.f k2 a0 t181).bind fun bt187 => (if bt187.2.2 = 0 then (if bt187.1 ≥ 65 then (some (([] : List Int), 0, 3)) else (if 0 ≤ (IntKind.u64.wrap (bt187.1 + 1)) then (if x7_2.length + (IntKind.u64.wrap (bt187.1 + 1) : Int).toNat < 17592186044416 then (wringerref7_GetNorm.l0 k2 a0 a1 a2 (x7_2 ++ List.replicate (IntKind.u64.wrap (bt187.1 + 1) : Int).toNat 0) bt187.2.1) else (none)) else (none))) else (some (([] : List Int), 0, bt187.2.2))))) else (some (([] : List Int), 0, t182))) = some (r1, r2, r3) := H
              have A12 := Aside0.mk A120
              clear A120
              by_cases c13 : t182 = 0
              · rw [if_pos c13] at H
                have c13b0 : (t182 == 0) = true := beq_iff_eq.mpr c13
                have c13b1 : (t182 != 0) = false := bne_eq_false_iff_eq.mpr c13
                clear c13
                by_cases c14 : t180 > 0
                · rw [if_pos c14] at H
                  have c14b0 : decide (0 < t180) = true := decide_eq_true c14
                  clear c14
                  obtain ⟨ji15, hji15⟩ : ∃ j_ : Int, (mn t180 1048576) = j_ := ⟨_, rfl⟩
                  replace H : (if x7_2.length < 17592186044416 then (wringerref7_GetNorm.l0 k2 a0 a1 a2 (x7_2 ++ [wrap64 (ji15)]) t181) else (none)) = some (r1, r2, r3) := by first | (rw [hji15] at H; exact H) | (simp only [hji15] at H ⊢; exact H)
                  (try rw [hji15] at A12)
                  (try (have hji15h : ji15 ≤ 1048576 := by (rw [← hji15]; unfold mn; (repeat' split) <;> omega)))
                  (try (have hji15g : ji15 ≤ 64 := by omega))
                  have hji15_ : (if 1048576 < t180 then 1048576 else t180) = ji15 := hji15
                  by_cases c16 : x7_2.length < 17592186044416
                  · rw [if_pos c16] at H
                    have LMc16 := Aside0.mk c16
                    clear c16
                    obtain ⟨y184, hy184⟩ : ∃ y_ : List Int, y_ = (x7_2 ++ [wrap64 (ji15)]) := ⟨_, rfl⟩
                    replace H : (wringerref7_GetNorm.l0 k2 a0 a1 a2 y184 t181) = some (r1, r2, r3) := by first | (rw [hy184]; with_reducible exact H) | (have H2_ := (Option.bind_some _ _).symm.trans H; rw [hy184]; with_reducible exact H2_) | (have H2_ := (Option.bind_some _ _).symm.trans H; with_reducible exact H2_) | with_reducible exact H | (rw [hy184]; exact H) | exact H
                    have Ny184 := Aside0.mk hy184
                    clear hy184
                    have H' := Aside0.mk H
                    clear H
                    obtain ⟨Ao17, co17, eo17⟩ := Kd.R_slice HO_7.out
                    subst eo17
                    go_wp2_with (first | ((with_reducible refine gate_callee (f := 32) rfl ?_); refine goesL_ (some 31) rfl rfl Try.func32 (by kernel_rfl) rfl #[.string a0, .int .i64 x8_2] rfl (by (try simp only [List.map_toArray, List.map_cons, List.map_nil]); first | done | rfl | (simp only [List.length_drop, List.length_take]; rfl)) ?_; (with_reducible refine (wringerref1_GetVint.calls k2 a0 x8_2 t180 t181 t182 _ A12.out).mono ?_); rintro e w18 ⟨rfl, hb⟩; refine ⟨_, rfl, ?_⟩; have n0_ := Aside0.mk (Kd.R_below (by (with_reducible repeat (first | apply Kd.R_alloc | apply Kd.R_drewN | apply Kd.R_drew)); exact HO_7.out) hb); have n1_ := Aside0.mk (blk_below (g := gb178) (o := .cells #[.slice none 0 0, .int .i64 x179001_2, .int .i64 x179002_2] 41 (0, 0)) (by (with_reducible repeat (first | refine blk_drewN ?_ _ | refine blk_drew ?_ | refine blk_alloc ?_ _)); exact BK178.out) hb); have n2_ := Aside0.mk (below_step (by repeat (first | (with_reducible first | exact HB.out | apply below_alloc | apply pw_below_drewN | apply below_drew1 | refine below_set ?_ GE178.out) | exact HB.out)) hb); clear HO_7; clear BK178; clear HB; have HO_7 := n0_; have BK178 := n1_; have HB := n2_; clear n0_ n1_ n2_; (try clear hb); (try clear hb2); (try clear hk); (try clear hi)) | ((with_reducible refine gate_dst (N := 9) rfl ?_); (try (refine gate_guard (by rfl) ?_; dsimp only)); refine box_event ?hg (N := 9) ?hd (cs := #[.int .u64 0, .int .i64 0, .int .i64 0]) (t := 61) ?hr ?_; (case hd => rfl); (case hg => rfl); (case hr => first | (go_simp; done) | (go_simp; rfl)); intro gb183 hg w19 hbox hb; have n0_ := Aside0.mk (Kd.R_below (by (with_reducible repeat (first | apply Kd.R_alloc | apply Kd.R_drewN | apply Kd.R_drew)); exact HO_7.out) hb); have n1_ := Aside0.mk (blk_below (g := gb178) (o := .cells #[.slice none 0 0, .int .i64 x179001_2, .int .i64 x179002_2] 41 (0, 0)) (by (with_reducible repeat (first | refine blk_drewN ?_ _ | refine blk_drew ?_ | refine blk_alloc ?_ _)); exact BK178.out) hb); have n2_ := Aside0.mk (below_step (by repeat (first | (with_reducible first | exact HB.out | apply below_alloc | apply pw_below_drewN | apply below_drew1 | refine below_set ?_ GE178.out) | exact HB.out)) hb); have n3_ := Aside0.mk (hbox); have n4_ := Aside0.mk ((by rw [hg]; exact (below_size (by repeat (first | (with_reducible first | exact HB.out | apply below_alloc | apply pw_below_drewN | apply below_drew1 | refine below_set ?_ GE178.out) | exact HB.out))) : w.heap.size ≤ gb183)); have n5_ := Aside0.mk ((by rw [hg]; exact (below_size (by repeat (first | (with_reducible first | exact HB.out | apply below_alloc | apply pw_below_drewN | apply below_drew1 | refine below_set ?_ GE178.out) | exact HB.out))) : w.heap.size ≤ gb183)); have n6_ := Aside0.mk ((by rw [hg]; exact Nat.ne_of_lt (blk_lt (g := gb178) (o := .cells #[.slice none 0 0, .int .i64 x179001_2, .int .i64 x179002_2] 41 (0, 0)) (by (with_reducible repeat (first | refine blk_drewN ?_ _ | refine blk_drew ?_ | refine blk_alloc ?_ _)); exact BK178.out)) : gb178 ≠ gb183)); have n7_ := Aside0.mk ((by rw [hg]; exact Nat.ne_of_gt (blk_lt (g := gb178) (o := .cells #[.slice none 0 0, .int .i64 x179001_2, .int .i64 x179002_2] 41 (0, 0)) (by (with_reducible repeat (first | refine blk_drewN ?_ _ | refine blk_drew ?_ | refine blk_alloc ?_ _)); exact BK178.out)) : gb183 ≠ gb178)); clear HO_7; clear BK178; clear HB; have HO_7 := n0_; have BK178 := n1_; have HB := n2_; have BK183 := n3_; have GW183 := n4_; have GE183 := n5_; have NB178_183 := n6_; have NB183_178 := n7_; clear n0_ n1_ n2_ n3_ n4_ n5_ n6_ n7_; clear hb hbox hg; have hnb20 := NB183_178.out; have hnc20 := NB178_183.out; have hcz21_0 : w19.cell? ⟨gb183, 0, none⟩ = some (.int .u64 0) := (blk_cell BK183.out 0).trans rfl; have hcz21_1 : w19.cell? ⟨gb183, 1, none⟩ = some (.int .i64 0) := (blk_cell BK183.out 1).trans rfl; have hcz21_2 : w19.cell? ⟨gb183, 2, none⟩ = some (.int .i64 0) := (blk_cell BK183.out 2).trans rfl; have hfz21_0 := blk_frozen BK183.out 0; have hfz21_1 := blk_frozen BK183.out 1; have hfz21_2 := blk_frozen BK183.out 2) | ((with_reducible refine gate_builtin (b := .append) (xs := #[.tmp 43, .tmp 48]) rfl ?_); (try (refine gate_guard (by rfl) ?_; dsimp only)); at_builtin; refine Kd.R_append (Kd.int .i64) (w0 := w) w.heap.size rfl (.tmp 43) (.tmp 48) 24 3 (.int .i64 0) 8 rfl Try.underlying24 info3 rfl (by decide) (by omega) (.slice Ao17 x7_2.length co17) x7_2 (wrap64 (ji15)) [.int .i64 (wrap64 (ji15))] (fun _ => True) (fun _ => False) rfl (by first | (go_simp; done) | (go_simp; rfl)) ?aP (fun _ hk => hk.elim) ?aF ?aO ?aB ?aS ?aL ?_; (case aP => exact rfl); (case aB => exact (by repeat (first | (with_reducible first | exact HB.out | apply below_alloc | apply pw_below_drewN | apply below_drew1 | refine below_set ?_ GE178.out | refine below_set ?_ GE183.out) | exact HB.out))); (case aF => exact (fun _ _ => trivial)); (case aO => exact (by (with_reducible repeat (first | apply Kd.R_alloc | apply Kd.R_drewN | apply Kd.R_drew)); exact Kd.R_mono (Kd.R_far (p := ⟨gb183, 2, none⟩) (Kd.R_far (p := ⟨gb183, 1, none⟩) (Kd.R_far (p := ⟨gb183, 0, none⟩) (Kd.R_types HO_7.out BK183.out (by decide)) (fun _ hk => hk.2) (.int .u64 t180)) (fun _ hk => hk.2) (.int .i64 t181)) (fun _ hk => hk.2) (.int .i64 t182)) (fun _ hk => trivial))); (case aS => exact (below_size (by repeat (first | (with_reducible first | exact HB.out | apply below_alloc | apply pw_below_drewN | apply below_drew1 | refine below_set ?_ GE178.out | refine below_set ?_ GE183.out) | exact HB.out)))); (case aL => have := LMc16.out; omega); intro v185 w22 ho hb hg hat; rw [← Ny184.out] at ho; have n0_ := Aside0.mk (blk_grown (g := gb178) (o := .cells #[.slice none 0 0, .int .i64 x179001_2, .int .i64 x179002_2] 41 (0, 0)) (by (with_reducible repeat (first | refine blk_drewN ?_ _ | refine blk_drew ?_ | refine blk_alloc ?_ _)); refine blk_far ?_ NB178_183.out _; (with_reducible repeat (first | refine blk_drewN ?_ _ | refine blk_drew ?_ | refine blk_alloc ?_ _)); refine blk_far ?_ NB178_183.out _; (with_reducible repeat (first | refine blk_drewN ?_ _ | refine blk_drew ?_ | refine blk_alloc ?_ _)); refine blk_far ?_ NB178_183.out _; (with_reducible repeat (first | refine blk_drewN ?_ _ | refine blk_drew ?_ | refine blk_alloc ?_ _)); exact BK178.out) hg (Kd.R_ne HO_7.out BK178.out (by decide))); have n1_ := Aside0.mk (blk_grown (g := gb183) (o := .cells #[.int .u64 t180, .int .i64 t181, .int .i64 t182] 61 (0, 0)) (by (with_reducible repeat (first | refine blk_drewN ?_ _ | refine blk_drew ?_ | refine blk_alloc ?_ _)); refine blk_put (cs := #[.int .u64 t180, .int .i64 t181, .int .i64 0]) ?_ 2 _ rfl; (with_reducible repeat (first | refine blk_drewN ?_ _ | refine blk_drew ?_ | refine blk_alloc ?_ _)); refine blk_put (cs := #[.int .u64 t180, .int .i64 0, .int .i64 0]) ?_ 1 _ rfl; (with_reducible repeat (first | refine blk_drewN ?_ _ | refine blk_drew ?_ | refine blk_alloc ?_ _)); refine blk_put (cs := #[.int .u64 0, .int .i64 0, .int .i64 0]) ?_ 0 _ rfl; (with_reducible repeat (first | refine blk_drewN ?_ _ | refine blk_drew ?_ | refine blk_alloc ?_ _)); exact BK183.out) hg (Kd.R_ne HO_7.out BK183.out (by decide))); have n2_ := Aside0.mk (hb); have n3_ := Aside0.mk (ho); clear BK178; clear BK183; clear HB; clear HO_7; have BK178 := n0_; have BK183 := n1_; have HB := n2_; have HO186 := n3_; clear n0_ n1_ n2_ n3_; clear ho hb hg hat))
                    go_roundg k2
                    case measure => have := HJ3.out; have := HK2.out; omega
                    case rel => exact ⟨(y184), (t181), (x179001_2), (x179002_2), (by first | rfl | (simp; done) | (simp [*]; done)), H', ⟨by have := HJ3.out; have := HK2.out; omega⟩, ⟨by (with_reducible repeat (first | apply Kd.R_alloc | apply Kd.R_drewN | apply Kd.R_drew)); exact HO186.out⟩, ⟨by (with_reducible repeat (first | refine blk_drewN ?_ _ | refine blk_drew ?_ | refine blk_alloc ?_ _)); exact BK178.out⟩, ⟨by repeat (first | (with_reducible first | exact HB.out | apply below_alloc | apply pw_below_drewN | apply below_drew1 | refine below_set ?_ GE178.out | refine below_set ?_ GE183.out) | exact HB.out)⟩⟩
                  · rw [if_neg c16] at H
                    exact absurd H (by simp)
                · rw [if_neg c14] at H
                  have c14b0 : decide (0 < t180) = false := decide_eq_false c14
                  clear c14
                  replace H := Option.bind_eq_some_iff.mp H
                  obtain ⟨⟨t187, t188, t189⟩, A230, H⟩ := H
                  replace H : (if t189 = 0 then (if t187 ≥ 65 then (some (([] : List Int), 0, 3)) else (if 0 ≤ (IntKind.u64.wrap (t187 + 1)) then (if x7_2.length + (IntKind.u64.wrap (t187 + 1) : Int).toNat < 17592186044416 then (wringerref7_GetNorm.l0 k2 a0 a1 a2 (x7_2 ++ List.replicate (IntKind.u64.wrap (t187 + 1) : Int).toNat 0) t188) else (none)) else (none))) else (some (([] : List Int), 0, t189))) = some (r1, r2, r3) := H
                  have A23 := Aside0.mk A230
                  clear A230
                  by_cases c24 : t189 = 0
                  · rw [if_pos c24] at H
                    have c24b0 : (t189 == 0) = true := beq_iff_eq.mpr c24
                    have c24b1 : (t189 != 0) = false := bne_eq_false_iff_eq.mpr c24
                    clear c24
                    by_cases c25 : t187 ≥ 65
                    · rw [if_pos c25] at H
                      have c25b0 : decide (65 ≤ t187) = true := decide_eq_true c25
                      clear c25
                      simp only [Option.some.injEq, Prod.mk.injEq] at H
                      obtain ⟨rfl, rfl, rfl⟩ := H
                      obtain ⟨Ao26, co26, eo26⟩ := Kd.R_slice HO_7.out
                      subst eo26
                      go_wp2_with (first | ((with_reducible refine gate_callee (f := 32) rfl ?_); refine goesL_ (some 31) rfl rfl Try.func32 (by kernel_rfl) rfl #[.string a0, .int .i64 x8_2] rfl (by (try simp only [List.map_toArray, List.map_cons, List.map_nil]); first | done | rfl | (simp only [List.length_drop, List.length_take]; rfl)) ?_; (with_reducible refine (wringerref1_GetVint.calls k2 a0 x8_2 t180 t181 t182 _ A12.out).mono ?_); rintro e w27 ⟨rfl, hb⟩; refine ⟨_, rfl, ?_⟩; have n0_ := Aside0.mk (Kd.R_below (by (with_reducible repeat (first | apply Kd.R_alloc | apply Kd.R_drewN | apply Kd.R_drew)); exact HO_7.out) hb); have n1_ := Aside0.mk (blk_below (g := gb178) (o := .cells #[.slice none 0 0, .int .i64 x179001_2, .int .i64 x179002_2] 41 (0, 0)) (by (with_reducible repeat (first | refine blk_drewN ?_ _ | refine blk_drew ?_ | refine blk_alloc ?_ _)); exact BK178.out) hb); have n2_ := Aside0.mk (below_step (by repeat (first | (with_reducible first | exact HB.out | apply below_alloc | apply pw_below_drewN | apply below_drew1 | refine below_set ?_ GE178.out) | exact HB.out)) hb); clear HO_7; clear BK178; clear HB; have HO_7 := n0_; have BK178 := n1_; have HB := n2_; clear n0_ n1_ n2_; (try clear hb); (try clear hb2); (try clear hk); (try clear hi)) | ((with_reducible refine gate_dst (N := 9) rfl ?_); (try (refine gate_guard (by rfl) ?_; dsimp only)); refine box_event ?hg (N := 9) ?hd (cs := #[.int .u64 0, .int .i64 0, .int .i64 0]) (t := 61) ?hr ?_; (case hd => rfl); (case hg => rfl); (case hr => first | (go_simp; done) | (go_simp; rfl)); intro gb183 hg w28 hbox hb; have n0_ := Aside0.mk (Kd.R_below (by (with_reducible repeat (first | apply Kd.R_alloc | apply Kd.R_drewN | apply Kd.R_drew)); exact HO_7.out) hb); have n1_ := Aside0.mk (blk_below (g := gb178) (o := .cells #[.slice none 0 0, .int .i64 x179001_2, .int .i64 x179002_2] 41 (0, 0)) (by (with_reducible repeat (first | refine blk_drewN ?_ _ | refine blk_drew ?_ | refine blk_alloc ?_ _)); exact BK178.out) hb); have n2_ := Aside0.mk (below_step (by repeat (first | (with_reducible first | exact HB.out | apply below_alloc | apply pw_below_drewN | apply below_drew1 | refine below_set ?_ GE178.out) | exact HB.out)) hb); have n3_ := Aside0.mk (hbox); have n4_ := Aside0.mk ((by rw [hg]; exact (below_size (by repeat (first | (with_reducible first | exact HB.out | apply below_alloc | apply pw_below_drewN | apply below_drew1 | refine below_set ?_ GE178.out) | exact HB.out))) : w.heap.size ≤ gb183)); have n5_ := Aside0.mk ((by rw [hg]; exact (below_size (by repeat (first | (with_reducible first | exact HB.out | apply below_alloc | apply pw_below_drewN | apply below_drew1 | refine below_set ?_ GE178.out) | exact HB.out))) : w.heap.size ≤ gb183)); have n6_ := Aside0.mk ((by rw [hg]; exact Nat.ne_of_lt (blk_lt (g := gb178) (o := .cells #[.slice none 0 0, .int .i64 x179001_2, .int .i64 x179002_2] 41 (0, 0)) (by (with_reducible repeat (first | refine blk_drewN ?_ _ | refine blk_drew ?_ | refine blk_alloc ?_ _)); exact BK178.out)) : gb178 ≠ gb183)); have n7_ := Aside0.mk ((by rw [hg]; exact Nat.ne_of_gt (blk_lt (g := gb178) (o := .cells #[.slice none 0 0, .int .i64 x179001_2, .int .i64 x179002_2] 41 (0, 0)) (by (with_reducible repeat (first | refine blk_drewN ?_ _ | refine blk_drew ?_ | refine blk_alloc ?_ _)); exact BK178.out)) : gb183 ≠ gb178)); clear HO_7; clear BK178; clear HB; have HO_7 := n0_; have BK178 := n1_; have HB := n2_; have BK183 := n3_; have GW183 := n4_; have GE183 := n5_; have NB178_183 := n6_; have NB183_178 := n7_; clear n0_ n1_ n2_ n3_ n4_ n5_ n6_ n7_; clear hb hbox hg; have hnb29 := NB183_178.out; have hnc29 := NB178_183.out; have hcz30_0 : w28.cell? ⟨gb183, 0, none⟩ = some (.int .u64 0) := (blk_cell BK183.out 0).trans rfl; have hcz30_1 : w28.cell? ⟨gb183, 1, none⟩ = some (.int .i64 0) := (blk_cell BK183.out 1).trans rfl; have hcz30_2 : w28.cell? ⟨gb183, 2, none⟩ = some (.int .i64 0) := (blk_cell BK183.out 2).trans rfl; have hfz30_0 := blk_frozen BK183.out 0; have hfz30_1 := blk_frozen BK183.out 1; have hfz30_2 := blk_frozen BK183.out 2) | ((with_reducible refine gate_callee (f := 32) rfl ?_); refine goesL_ (some 52) rfl rfl Try.func32 (by kernel_rfl) rfl #[.string a0, .int .i64 t181] rfl (by (try simp only [List.map_toArray, List.map_cons, List.map_nil]); first | done | rfl | (simp only [List.length_drop, List.length_take]; rfl)) ?_; (with_reducible refine (wringerref1_GetVint.calls k2 a0 t181 t187 t188 t189 _ A23.out).mono ?_); rintro e w31 ⟨rfl, hb⟩; refine ⟨_, rfl, ?_⟩; have n0_ := Aside0.mk (Kd.R_below (by (with_reducible repeat (first | apply Kd.R_alloc | apply Kd.R_drewN | apply Kd.R_drew)); exact (Kd.R_mono (Kd.R_far (p := ⟨gb183, 2, none⟩) (Kd.R_far (p := ⟨gb183, 1, none⟩) (Kd.R_far (p := ⟨gb183, 0, none⟩) (Kd.R_types HO_7.out BK183.out (by decide)) (fun _ hk => hk.2) (.int .u64 t180)) (fun _ hk => hk.2) (.int .i64 t181)) (fun _ hk => hk.2) (.int .i64 t182)) (fun _ h_ => h_.1))) hb); have n1_ := Aside0.mk (blk_below (g := gb178) (o := .cells #[.slice none 0 0, .int .i64 x179001_2, .int .i64 x179002_2] 41 (0, 0)) (by (with_reducible repeat (first | refine blk_drewN ?_ _ | refine blk_drew ?_ | refine blk_alloc ?_ _)); refine blk_far ?_ NB178_183.out _; (with_reducible repeat (first | refine blk_drewN ?_ _ | refine blk_drew ?_ | refine blk_alloc ?_ _)); refine blk_far ?_ NB178_183.out _; (with_reducible repeat (first | refine blk_drewN ?_ _ | refine blk_drew ?_ | refine blk_alloc ?_ _)); refine blk_far ?_ NB178_183.out _; (with_reducible repeat (first | refine blk_drewN ?_ _ | refine blk_drew ?_ | refine blk_alloc ?_ _)); exact BK178.out) hb); have n2_ := Aside0.mk (blk_below (g := gb183) (o := .cells #[.int .u64 t180, .int .i64 t181, .int .i64 t182] 61 (0, 0)) (by (with_reducible repeat (first | refine blk_drewN ?_ _ | refine blk_drew ?_ | refine blk_alloc ?_ _)); refine blk_put (cs := #[.int .u64 t180, .int .i64 t181, .int .i64 0]) ?_ 2 _ rfl; (with_reducible repeat (first | refine blk_drewN ?_ _ | refine blk_drew ?_ | refine blk_alloc ?_ _)); refine blk_put (cs := #[.int .u64 t180, .int .i64 0, .int .i64 0]) ?_ 1 _ rfl; (with_reducible repeat (first | refine blk_drewN ?_ _ | refine blk_drew ?_ | refine blk_alloc ?_ _)); refine blk_put (cs := #[.int .u64 0, .int .i64 0, .int .i64 0]) ?_ 0 _ rfl; (with_reducible repeat (first | refine blk_drewN ?_ _ | refine blk_drew ?_ | refine blk_alloc ?_ _)); exact BK183.out) hb); have n3_ := Aside0.mk (below_step (by repeat (first | (with_reducible first | exact HB.out | apply below_alloc | apply pw_below_drewN | apply below_drew1 | refine below_set ?_ GE178.out | refine below_set ?_ GE183.out) | exact HB.out)) hb); clear HO_7; clear BK178; clear BK183; clear HB; have HO_7 := n0_; have BK178 := n1_; have BK183 := n2_; have HB := n3_; clear n0_ n1_ n2_ n3_; (try clear hb); (try clear hb2); (try clear hk); (try clear hi)) | ((with_reducible refine gate_dst (N := 10) rfl ?_); (try (refine gate_guard (by rfl) ?_; dsimp only)); refine box_event ?hg (N := 10) ?hd (cs := #[.int .u64 0, .int .i64 0, .int .i64 0]) (t := 61) ?hr ?_; (case hd => rfl); (case hg => rfl); (case hr => first | (go_simp; done) | (go_simp; rfl)); intro gb190 hg w32 hbox hb; have n0_ := Aside0.mk (Kd.R_below (by (with_reducible repeat (first | apply Kd.R_alloc | apply Kd.R_drewN | apply Kd.R_drew)); exact HO_7.out) hb); have n1_ := Aside0.mk (blk_below (g := gb178) (o := .cells #[.slice none 0 0, .int .i64 x179001_2, .int .i64 x179002_2] 41 (0, 0)) (by (with_reducible repeat (first | refine blk_drewN ?_ _ | refine blk_drew ?_ | refine blk_alloc ?_ _)); exact BK178.out) hb); have n2_ := Aside0.mk (blk_below (g := gb183) (o := .cells #[.int .u64 t180, .int .i64 t181, .int .i64 t182] 61 (0, 0)) (by (with_reducible repeat (first | refine blk_drewN ?_ _ | refine blk_drew ?_ | refine blk_alloc ?_ _)); exact BK183.out) hb); have n3_ := Aside0.mk (below_step (by repeat (first | (with_reducible first | exact HB.out | apply below_alloc | apply pw_below_drewN | apply below_drew1 | refine below_set ?_ GE178.out | refine below_set ?_ GE183.out) | exact HB.out)) hb); have n4_ := Aside0.mk (hbox); have n5_ := Aside0.mk ((by rw [hg]; exact (below_size (by repeat (first | (with_reducible first | exact HB.out | apply below_alloc | apply pw_below_drewN | apply below_drew1 | refine below_set ?_ GE178.out | refine below_set ?_ GE183.out) | exact HB.out))) : w.heap.size ≤ gb190)); have n6_ := Aside0.mk ((by rw [hg]; exact (below_size (by repeat (first | (with_reducible first | exact HB.out | apply below_alloc | apply pw_below_drewN | apply below_drew1 | refine below_set ?_ GE178.out | refine below_set ?_ GE183.out) | exact HB.out))) : w.heap.size ≤ gb190)); have n7_ := Aside0.mk ((by rw [hg]; exact Nat.ne_of_lt (blk_lt (g := gb178) (o := .cells #[.slice none 0 0, .int .i64 x179001_2, .int .i64 x179002_2] 41 (0, 0)) (by (with_reducible repeat (first | refine blk_drewN ?_ _ | refine blk_drew ?_ | refine blk_alloc ?_ _)); exact BK178.out)) : gb178 ≠ gb190)); have n8_ := Aside0.mk ((by rw [hg]; exact Nat.ne_of_gt (blk_lt (g := gb178) (o := .cells #[.slice none 0 0, .int .i64 x179001_2, .int .i64 x179002_2] 41 (0, 0)) (by (with_reducible repeat (first | refine blk_drewN ?_ _ | refine blk_drew ?_ | refine blk_alloc ?_ _)); exact BK178.out)) : gb190 ≠ gb178)); have n9_ := Aside0.mk ((by rw [hg]; exact Nat.ne_of_lt (blk_lt (g := gb183) (o := .cells #[.int .u64 t180, .int .i64 t181, .int .i64 t182] 61 (0, 0)) (by (with_reducible repeat (first | refine blk_drewN ?_ _ | refine blk_drew ?_ | refine blk_alloc ?_ _)); exact BK183.out)) : gb183 ≠ gb190)); have n10_ := Aside0.mk ((by rw [hg]; exact Nat.ne_of_gt (blk_lt (g := gb183) (o := .cells #[.int .u64 t180, .int .i64 t181, .int .i64 t182] 61 (0, 0)) (by (with_reducible repeat (first | refine blk_drewN ?_ _ | refine blk_drew ?_ | refine blk_alloc ?_ _)); exact BK183.out)) : gb190 ≠ gb183)); clear HO_7; clear BK178; clear BK183; clear HB; have HO_7 := n0_; have BK178 := n1_; have BK183 := n2_; have HB := n3_; have BK190 := n4_; have GW190 := n5_; have GE190 := n6_; have NB178_190 := n7_; have NB190_178 := n8_; have NB183_190 := n9_; have NB190_183 := n10_; clear n0_ n1_ n2_ n3_ n4_ n5_ n6_ n7_ n8_ n9_ n10_; clear hb hbox hg; have hnb33 := NB190_178.out; have hnc33 := NB178_190.out; have hnb34 := NB190_183.out; have hnc34 := NB183_190.out; have hcz35_0 : w32.cell? ⟨gb190, 0, none⟩ = some (.int .u64 0) := (blk_cell BK190.out 0).trans rfl; have hcz35_1 : w32.cell? ⟨gb190, 1, none⟩ = some (.int .i64 0) := (blk_cell BK190.out 1).trans rfl; have hcz35_2 : w32.cell? ⟨gb190, 2, none⟩ = some (.int .i64 0) := (blk_cell BK190.out 2).trans rfl; have hfz35_0 := blk_frozen BK190.out 0; have hfz35_1 := blk_frozen BK190.out 1; have hfz35_2 := blk_frozen BK190.out 2; have hcz36_0 : w32.cell? ⟨gb178, 0, none⟩ = some (.slice none 0 0) := (blk_cell BK178.out 0).trans rfl; have hcz36_1 : w32.cell? ⟨gb178, 1, none⟩ = some (.int .i64 x179001_2) := (blk_cell BK178.out 1).trans rfl; have hcz36_2 : w32.cell? ⟨gb178, 2, none⟩ = some (.int .i64 x179002_2) := (blk_cell BK178.out 2).trans rfl; have hfz36_0 := blk_frozen BK178.out 0; have hfz36_1 := blk_frozen BK178.out 1; have hfz36_2 := blk_frozen BK178.out 2))
                      refine bodyPost_ret (results_cell_row rfl _ _ gb178 41 #[.slice none 0 0, .int .i64 0, .int .i64 3] (0, 0) _ rfl (by (with_reducible repeat (first | refine blk_drewN ?_ _ | refine blk_drew ?_ | refine blk_alloc ?_ _)); refine blk_put (cs := #[.slice none 0 0, .int .i64 0, .int .i64 x179002_2]) ?_ 2 _ rfl; (with_reducible repeat (first | refine blk_drewN ?_ _ | refine blk_drew ?_ | refine blk_alloc ?_ _)); refine blk_put (cs := #[.slice none 0 0, .int .i64 x179001_2, .int .i64 x179002_2]) ?_ 1 _ rfl; (with_reducible repeat (first | refine blk_drewN ?_ _ | refine blk_drew ?_ | refine blk_alloc ?_ _)); refine blk_put (cs := #[.slice none 0 0, .int .i64 x179001_2, .int .i64 x179002_2]) ?_ 0 _ rfl; (with_reducible repeat (first | refine blk_drewN ?_ _ | refine blk_drew ?_ | refine blk_alloc ?_ _)); refine blk_far ?_ NB178_190.out _; (with_reducible repeat (first | refine blk_drewN ?_ _ | refine blk_drew ?_ | refine blk_alloc ?_ _)); refine blk_far ?_ NB178_190.out _; (with_reducible repeat (first | refine blk_drewN ?_ _ | refine blk_drew ?_ | refine blk_alloc ?_ _)); refine blk_far ?_ NB178_190.out _; (with_reducible repeat (first | refine blk_drewN ?_ _ | refine blk_drew ?_ | refine blk_alloc ?_ _)); exact BK178.out) Try.underlying41 rfl (by kernel_rfl)) rfl ?_
                      exact ⟨_, by first | rfl | (simp [errW_none, errW_some] <;> rfl) | (simp [*, errW_none, errW_some] <;> rfl), by first | exact Kd.R_nil _ _ _ _ _ | exact Kd.N_nil _ _ _ _ _ | exact Kd.V_nil _ _ _ _ _ | exact Kd.Q_nil _ _ _ _ _ | exact Kd.S_nil _ _ _ _ _, by repeat (first | (with_reducible first | exact HB.out | apply below_alloc | apply pw_below_drewN | apply below_drew1 | refine below_set ?_ GE178.out | refine below_set ?_ GE183.out | refine below_set ?_ GE190.out) | exact HB.out)⟩
                    · rw [if_neg c25] at H
                      have c25b0 : decide (65 ≤ t187) = false := decide_eq_false c25
                      clear c25
                      obtain ⟨ji37, hji37⟩ : ∃ j_ : Int, (IntKind.u64.wrap (t187 + 1)) = j_ := ⟨_, rfl⟩
                      replace H : (if 0 ≤ (ji37) then (if x7_2.length + (ji37 : Int).toNat < 17592186044416 then (wringerref7_GetNorm.l0 k2 a0 a1 a2 (x7_2 ++ List.replicate (ji37 : Int).toNat 0) t188) else (none)) else (none)) = some (r1, r2, r3) := by first | (rw [hji37] at H; exact H) | (simp only [hji37] at H ⊢; exact H)
                      (try rw [hji37] at A12)
                      (try rw [hji37] at A23)
                      by_cases c38 : 0 ≤ (ji37)
                      · rw [if_pos c38] at H
                        have c38b0 := eq_true c38
                        have c38b1 : decide (0 ≤ (ji37)) = true := decide_eq_true c38
                        clear c38
                        by_cases c39 : x7_2.length + (ji37 : Int).toNat < 17592186044416
                        · rw [if_pos c39] at H
                          have LMc39 := Aside0.mk c39
                          clear c39
                          obtain ⟨y191, hy191⟩ : ∃ y_ : List Int, y_ = (x7_2 ++ List.replicate (ji37 : Int).toNat 0) := ⟨_, rfl⟩
                          replace H : (wringerref7_GetNorm.l0 k2 a0 a1 a2 y191 t188) = some (r1, r2, r3) := by first | (rw [hy191]; with_reducible exact H) | (have H2_ := (Option.bind_some _ _).symm.trans H; rw [hy191]; with_reducible exact H2_) | (have H2_ := (Option.bind_some _ _).symm.trans H; with_reducible exact H2_) | with_reducible exact H | (rw [hy191]; exact H) | exact H
                          have Ny191 := Aside0.mk hy191
                          clear hy191
                          have H' := Aside0.mk H
                          clear H
                          obtain ⟨Ao40, co40, eo40⟩ := Kd.R_slice HO_7.out
                          subst eo40
                          go_wp2_with (first | ((with_reducible refine gate_callee (f := 32) rfl ?_); refine goesL_ (some 31) rfl rfl Try.func32 (by kernel_rfl) rfl #[.string a0, .int .i64 x8_2] rfl (by (try simp only [List.map_toArray, List.map_cons, List.map_nil]); first | done | rfl | (simp only [List.length_drop, List.length_take]; rfl)) ?_; (with_reducible refine (wringerref1_GetVint.calls k2 a0 x8_2 t180 t181 t182 _ A12.out).mono ?_); rintro e w41 ⟨rfl, hb⟩; refine ⟨_, rfl, ?_⟩; have n0_ := Aside0.mk (Kd.R_below (by (with_reducible repeat (first | apply Kd.R_alloc | apply Kd.R_drewN | apply Kd.R_drew)); exact HO_7.out) hb); have n1_ := Aside0.mk (blk_below (g := gb178) (o := .cells #[.slice none 0 0, .int .i64 x179001_2, .int .i64 x179002_2] 41 (0, 0)) (by (with_reducible repeat (first | refine blk_drewN ?_ _ | refine blk_drew ?_ | refine blk_alloc ?_ _)); exact BK178.out) hb); have n2_ := Aside0.mk (below_step (by repeat (first | (with_reducible first | exact HB.out | apply below_alloc | apply pw_below_drewN | apply below_drew1 | refine below_set ?_ GE178.out) | exact HB.out)) hb); clear HO_7; clear BK178; clear HB; have HO_7 := n0_; have BK178 := n1_; have HB := n2_; clear n0_ n1_ n2_; (try clear hb); (try clear hb2); (try clear hk); (try clear hi)) | ((with_reducible refine gate_dst (N := 9) rfl ?_); (try (refine gate_guard (by rfl) ?_; dsimp only)); refine box_event ?hg (N := 9) ?hd (cs := #[.int .u64 0, .int .i64 0, .int .i64 0]) (t := 61) ?hr ?_; (case hd => rfl); (case hg => rfl); (case hr => first | (go_simp; done) | (go_simp; rfl)); intro gb183 hg w42 hbox hb; have n0_ := Aside0.mk (Kd.R_below (by (with_reducible repeat (first | apply Kd.R_alloc | apply Kd.R_drewN | apply Kd.R_drew)); exact HO_7.out) hb); have n1_ := Aside0.mk (blk_below (g := gb178) (o := .cells #[.slice none 0 0, .int .i64 x179001_2, .int .i64 x179002_2] 41 (0, 0)) (by (with_reducible repeat (first | refine blk_drewN ?_ _ | refine blk_drew ?_ | refine blk_alloc ?_ _)); exact BK178.out) hb); have n2_ := Aside0.mk (below_step (by repeat (first | (with_reducible first | exact HB.out | apply below_alloc | apply pw_below_drewN | apply below_drew1 | refine below_set ?_ GE178.out) | exact HB.out)) hb); have n3_ := Aside0.mk (hbox); have n4_ := Aside0.mk ((by rw [hg]; exact (below_size (by repeat (first | (with_reducible first | exact HB.out | apply below_alloc | apply pw_below_drewN | apply below_drew1 | refine below_set ?_ GE178.out) | exact HB.out))) : w.heap.size ≤ gb183)); have n5_ := Aside0.mk ((by rw [hg]; exact (below_size (by repeat (first | (with_reducible first | exact HB.out | apply below_alloc | apply pw_below_drewN | apply below_drew1 | refine below_set ?_ GE178.out) | exact HB.out))) : w.heap.size ≤ gb183)); have n6_ := Aside0.mk ((by rw [hg]; exact Nat.ne_of_lt (blk_lt (g := gb178) (o := .cells #[.slice none 0 0, .int .i64 x179001_2, .int .i64 x179002_2] 41 (0, 0)) (by (with_reducible repeat (first | refine blk_drewN ?_ _ | refine blk_drew ?_ | refine blk_alloc ?_ _)); exact BK178.out)) : gb178 ≠ gb183)); have n7_ := Aside0.mk ((by rw [hg]; exact Nat.ne_of_gt (blk_lt (g := gb178) (o := .cells #[.slice none 0 0, .int .i64 x179001_2, .int .i64 x179002_2] 41 (0, 0)) (by (with_reducible repeat (first | refine blk_drewN ?_ _ | refine blk_drew ?_ | refine blk_alloc ?_ _)); exact BK178.out)) : gb183 ≠ gb178)); clear HO_7; clear BK178; clear HB; have HO_7 := n0_; have BK178 := n1_; have HB := n2_; have BK183 := n3_; have GW183 := n4_; have GE183 := n5_; have NB178_183 := n6_; have NB183_178 := n7_; clear n0_ n1_ n2_ n3_ n4_ n5_ n6_ n7_; clear hb hbox hg; have hnb43 := NB183_178.out; have hnc43 := NB178_183.out; have hcz44_0 : w42.cell? ⟨gb183, 0, none⟩ = some (.int .u64 0) := (blk_cell BK183.out 0).trans rfl; have hcz44_1 : w42.cell? ⟨gb183, 1, none⟩ = some (.int .i64 0) := (blk_cell BK183.out 1).trans rfl; have hcz44_2 : w42.cell? ⟨gb183, 2, none⟩ = some (.int .i64 0) := (blk_cell BK183.out 2).trans rfl; have hfz44_0 := blk_frozen BK183.out 0; have hfz44_1 := blk_frozen BK183.out 1; have hfz44_2 := blk_frozen BK183.out 2) | ((with_reducible refine gate_callee (f := 32) rfl ?_); refine goesL_ (some 52) rfl rfl Try.func32 (by kernel_rfl) rfl #[.string a0, .int .i64 t181] rfl (by (try simp only [List.map_toArray, List.map_cons, List.map_nil]); first | done | rfl | (simp only [List.length_drop, List.length_take]; rfl)) ?_; (with_reducible refine (wringerref1_GetVint.calls k2 a0 t181 t187 t188 t189 _ A23.out).mono ?_); rintro e w45 ⟨rfl, hb⟩; refine ⟨_, rfl, ?_⟩; have n0_ := Aside0.mk (Kd.R_below (by (with_reducible repeat (first | apply Kd.R_alloc | apply Kd.R_drewN | apply Kd.R_drew)); exact (Kd.R_mono (Kd.R_far (p := ⟨gb183, 2, none⟩) (Kd.R_far (p := ⟨gb183, 1, none⟩) (Kd.R_far (p := ⟨gb183, 0, none⟩) (Kd.R_types HO_7.out BK183.out (by decide)) (fun _ hk => hk.2) (.int .u64 t180)) (fun _ hk => hk.2) (.int .i64 t181)) (fun _ hk => hk.2) (.int .i64 t182)) (fun _ h_ => h_.1))) hb); have n1_ := Aside0.mk (blk_below (g := gb178) (o := .cells #[.slice none 0 0, .int .i64 x179001_2, .int .i64 x179002_2] 41 (0, 0)) (by (with_reducible repeat (first | refine blk_drewN ?_ _ | refine blk_drew ?_ | refine blk_alloc ?_ _)); refine blk_far ?_ NB178_183.out _; (with_reducible repeat (first | refine blk_drewN ?_ _ | refine blk_drew ?_ | refine blk_alloc ?_ _)); refine blk_far ?_ NB178_183.out _; (with_reducible repeat (first | refine blk_drewN ?_ _ | refine blk_drew ?_ | refine blk_alloc ?_ _)); refine blk_far ?_ NB178_183.out _; (with_reducible repeat (first | refine blk_drewN ?_ _ | refine blk_drew ?_ | refine blk_alloc ?_ _)); exact BK178.out) hb); have n2_ := Aside0.mk (blk_below (g := gb183) (o := .cells #[.int .u64 t180, .int .i64 t181, .int .i64 t182] 61 (0, 0)) (by (with_reducible repeat (first | refine blk_drewN ?_ _ | refine blk_drew ?_ | refine blk_alloc ?_ _)); refine blk_put (cs := #[.int .u64 t180, .int .i64 t181, .int .i64 0]) ?_ 2 _ rfl; (with_reducible repeat (first | refine blk_drewN ?_ _ | refine blk_drew ?_ | refine blk_alloc ?_ _)); refine blk_put (cs := #[.int .u64 t180, .int .i64 0, .int .i64 0]) ?_ 1 _ rfl; (with_reducible repeat (first | refine blk_drewN ?_ _ | refine blk_drew ?_ | refine blk_alloc ?_ _)); refine blk_put (cs := #[.int .u64 0, .int .i64 0, .int .i64 0]) ?_ 0 _ rfl; (with_reducible repeat (first | refine blk_drewN ?_ _ | refine blk_drew ?_ | refine blk_alloc ?_ _)); exact BK183.out) hb); have n3_ := Aside0.mk (below_step (by repeat (first | (with_reducible first | exact HB.out | apply below_alloc | apply pw_below_drewN | apply below_drew1 | refine below_set ?_ GE178.out | refine below_set ?_ GE183.out) | exact HB.out)) hb); clear HO_7; clear BK178; clear BK183; clear HB; have HO_7 := n0_; have BK178 := n1_; have BK183 := n2_; have HB := n3_; clear n0_ n1_ n2_ n3_; (try clear hb); (try clear hb2); (try clear hk); (try clear hi)) | ((with_reducible refine gate_dst (N := 10) rfl ?_); (try (refine gate_guard (by rfl) ?_; dsimp only)); refine box_event ?hg (N := 10) ?hd (cs := #[.int .u64 0, .int .i64 0, .int .i64 0]) (t := 61) ?hr ?_; (case hd => rfl); (case hg => rfl); (case hr => first | (go_simp; done) | (go_simp; rfl)); intro gb190 hg w46 hbox hb; have n0_ := Aside0.mk (Kd.R_below (by (with_reducible repeat (first | apply Kd.R_alloc | apply Kd.R_drewN | apply Kd.R_drew)); exact HO_7.out) hb); have n1_ := Aside0.mk (blk_below (g := gb178) (o := .cells #[.slice none 0 0, .int .i64 x179001_2, .int .i64 x179002_2] 41 (0, 0)) (by (with_reducible repeat (first | refine blk_drewN ?_ _ | refine blk_drew ?_ | refine blk_alloc ?_ _)); exact BK178.out) hb); have n2_ := Aside0.mk (blk_below (g := gb183) (o := .cells #[.int .u64 t180, .int .i64 t181, .int .i64 t182] 61 (0, 0)) (by (with_reducible repeat (first | refine blk_drewN ?_ _ | refine blk_drew ?_ | refine blk_alloc ?_ _)); exact BK183.out) hb); have n3_ := Aside0.mk (below_step (by repeat (first | (with_reducible first | exact HB.out | apply below_alloc | apply pw_below_drewN | apply below_drew1 | refine below_set ?_ GE178.out | refine below_set ?_ GE183.out) | exact HB.out)) hb); have n4_ := Aside0.mk (hbox); have n5_ := Aside0.mk ((by rw [hg]; exact (below_size (by repeat (first | (with_reducible first | exact HB.out | apply below_alloc | apply pw_below_drewN | apply below_drew1 | refine below_set ?_ GE178.out | refine below_set ?_ GE183.out) | exact HB.out))) : w.heap.size ≤ gb190)); have n6_ := Aside0.mk ((by rw [hg]; exact (below_size (by repeat (first | (with_reducible first | exact HB.out | apply below_alloc | apply pw_below_drewN | apply below_drew1 | refine below_set ?_ GE178.out | refine below_set ?_ GE183.out) | exact HB.out))) : w.heap.size ≤ gb190)); have n7_ := Aside0.mk ((by rw [hg]; exact Nat.ne_of_lt (blk_lt (g := gb178) (o := .cells #[.slice none 0 0, .int .i64 x179001_2, .int .i64 x179002_2] 41 (0, 0)) (by (with_reducible repeat (first | refine blk_drewN ?_ _ | refine blk_drew ?_ | refine blk_alloc ?_ _)); exact BK178.out)) : gb178 ≠ gb190)); have n8_ := Aside0.mk ((by rw [hg]; exact Nat.ne_of_gt (blk_lt (g := gb178) (o := .cells #[.slice none 0 0, .int .i64 x179001_2, .int .i64 x179002_2] 41 (0, 0)) (by (with_reducible repeat (first | refine blk_drewN ?_ _ | refine blk_drew ?_ | refine blk_alloc ?_ _)); exact BK178.out)) : gb190 ≠ gb178)); have n9_ := Aside0.mk ((by rw [hg]; exact Nat.ne_of_lt (blk_lt (g := gb183) (o := .cells #[.int .u64 t180, .int .i64 t181, .int .i64 t182] 61 (0, 0)) (by (with_reducible repeat (first | refine blk_drewN ?_ _ | refine blk_drew ?_ | refine blk_alloc ?_ _)); exact BK183.out)) : gb183 ≠ gb190)); have n10_ := Aside0.mk ((by rw [hg]; exact Nat.ne_of_gt (blk_lt (g := gb183) (o := .cells #[.int .u64 t180, .int .i64 t181, .int .i64 t182] 61 (0, 0)) (by (with_reducible repeat (first | refine blk_drewN ?_ _ | refine blk_drew ?_ | refine blk_alloc ?_ _)); exact BK183.out)) : gb190 ≠ gb183)); clear HO_7; clear BK178; clear BK183; clear HB; have HO_7 := n0_; have BK178 := n1_; have BK183 := n2_; have HB := n3_; have BK190 := n4_; have GW190 := n5_; have GE190 := n6_; have NB178_190 := n7_; have NB190_178 := n8_; have NB183_190 := n9_; have NB190_183 := n10_; clear n0_ n1_ n2_ n3_ n4_ n5_ n6_ n7_ n8_ n9_ n10_; clear hb hbox hg; have hnb47 := NB190_178.out; have hnc47 := NB178_190.out; have hnb48 := NB190_183.out; have hnc48 := NB183_190.out; have hcz49_0 : w46.cell? ⟨gb190, 0, none⟩ = some (.int .u64 0) := (blk_cell BK190.out 0).trans rfl; have hcz49_1 : w46.cell? ⟨gb190, 1, none⟩ = some (.int .i64 0) := (blk_cell BK190.out 1).trans rfl; have hcz49_2 : w46.cell? ⟨gb190, 2, none⟩ = some (.int .i64 0) := (blk_cell BK190.out 2).trans rfl; have hfz49_0 := blk_frozen BK190.out 0; have hfz49_1 := blk_frozen BK190.out 1; have hfz49_2 := blk_frozen BK190.out 2) | (at_builtin; refine Kd.R_append_zeros (Kd.int .i64) (w0 := w) w.heap.size rfl (.tmp 65) (.tmp 68) 24 55 3 (.int .i64 0) 8 rfl Try.underlying24 Try.underlying55 info3 rfl (by decide) (by omega) (.slice Ao40 x7_2.length co40) x7_2 0 (ji37 : Int) (fun _ => True) rfl rfl rfl ?aF ?aO (of_decide_eq_true (by first | (with_reducible assumption) | assumption)) ?aB ?aS ?aL ?_; (case aB => exact (by repeat (first | (with_reducible first | exact HB.out | apply below_alloc | apply pw_below_drewN | apply below_drew1 | refine below_set ?_ GE178.out | refine below_set ?_ GE183.out | refine below_set ?_ GE190.out) | exact HB.out))); (case aF => exact (fun _ _ => trivial)); (case aO => exact (by (with_reducible repeat (first | apply Kd.R_alloc | apply Kd.R_drewN | apply Kd.R_drew)); exact Kd.R_mono (Kd.R_far (p := ⟨gb190, 2, none⟩) (Kd.R_far (p := ⟨gb190, 1, none⟩) (Kd.R_far (p := ⟨gb190, 0, none⟩) (Kd.R_types HO_7.out BK190.out (by decide)) (fun _ hk => hk.2) (.int .u64 t187)) (fun _ hk => hk.2) (.int .i64 t188)) (fun _ hk => hk.2) (.int .i64 t189)) (fun _ hk => trivial))); (case aS => exact (below_size (by repeat (first | (with_reducible first | exact HB.out | apply below_alloc | apply pw_below_drewN | apply below_drew1 | refine below_set ?_ GE178.out | refine below_set ?_ GE183.out | refine below_set ?_ GE190.out) | exact HB.out)))); (case aL => have := LMc39.out; omega); intro v192 w50 ho hb hg hat; rw [← Ny191.out] at ho; have n0_ := Aside0.mk (blk_grown (g := gb178) (o := .cells #[.slice none 0 0, .int .i64 x179001_2, .int .i64 x179002_2] 41 (0, 0)) (by (with_reducible repeat (first | refine blk_drewN ?_ _ | refine blk_drew ?_ | refine blk_alloc ?_ _)); refine blk_far ?_ NB178_190.out _; (with_reducible repeat (first | refine blk_drewN ?_ _ | refine blk_drew ?_ | refine blk_alloc ?_ _)); refine blk_far ?_ NB178_190.out _; (with_reducible repeat (first | refine blk_drewN ?_ _ | refine blk_drew ?_ | refine blk_alloc ?_ _)); refine blk_far ?_ NB178_190.out _; (with_reducible repeat (first | refine blk_drewN ?_ _ | refine blk_drew ?_ | refine blk_alloc ?_ _)); exact BK178.out) hg (Kd.R_ne HO_7.out BK178.out (by decide))); have n1_ := Aside0.mk (blk_grown (g := gb183) (o := .cells #[.int .u64 t180, .int .i64 t181, .int .i64 t182] 61 (0, 0)) (by (with_reducible repeat (first | refine blk_drewN ?_ _ | refine blk_drew ?_ | refine blk_alloc ?_ _)); refine blk_far ?_ NB183_190.out _; (with_reducible repeat (first | refine blk_drewN ?_ _ | refine blk_drew ?_ | refine blk_alloc ?_ _)); refine blk_far ?_ NB183_190.out _; (with_reducible repeat (first | refine blk_drewN ?_ _ | refine blk_drew ?_ | refine blk_alloc ?_ _)); refine blk_far ?_ NB183_190.out _; (with_reducible repeat (first | refine blk_drewN ?_ _ | refine blk_drew ?_ | refine blk_alloc ?_ _)); exact BK183.out) hg (Kd.R_ne HO_7.out BK183.out (by decide))); have n2_ := Aside0.mk (blk_grown (g := gb190) (o := .cells #[.int .u64 t187, .int .i64 t188, .int .i64 t189] 61 (0, 0)) (by (with_reducible repeat (first | refine blk_drewN ?_ _ | refine blk_drew ?_ | refine blk_alloc ?_ _)); refine blk_put (cs := #[.int .u64 t187, .int .i64 t188, .int .i64 0]) ?_ 2 _ rfl; (with_reducible repeat (first | refine blk_drewN ?_ _ | refine blk_drew ?_ | refine blk_alloc ?_ _)); refine blk_put (cs := #[.int .u64 t187, .int .i64 0, .int .i64 0]) ?_ 1 _ rfl; (with_reducible repeat (first | refine blk_drewN ?_ _ | refine blk_drew ?_ | refine blk_alloc ?_ _)); refine blk_put (cs := #[.int .u64 0, .int .i64 0, .int .i64 0]) ?_ 0 _ rfl; (with_reducible repeat (first | refine blk_drewN ?_ _ | refine blk_drew ?_ | refine blk_alloc ?_ _)); exact BK190.out) hg (Kd.R_ne HO_7.out BK190.out (by decide))); have n3_ := Aside0.mk (hb); have n4_ := Aside0.mk (ho); clear BK178; clear BK183; clear BK190; clear HB; clear HO_7; have BK178 := n0_; have BK183 := n1_; have BK190 := n2_; have HB := n3_; have HO193 := n4_; clear n0_ n1_ n2_ n3_ n4_; clear ho hb hg hat))
                          go_roundg k2
                          case measure => have := HJ3.out; have := HK2.out; omega
                          case rel => exact ⟨(y191), (t188), (x179001_2), (x179002_2), (by first | rfl | (simp; done) | (simp [*]; done)), H', ⟨by have := HJ3.out; have := HK2.out; omega⟩, ⟨by (with_reducible repeat (first | apply Kd.R_alloc | apply Kd.R_drewN | apply Kd.R_drew)); exact HO193.out⟩, ⟨by (with_reducible repeat (first | refine blk_drewN ?_ _ | refine blk_drew ?_ | refine blk_alloc ?_ _)); exact BK178.out⟩, ⟨by repeat (first | (with_reducible first | exact HB.out | apply below_alloc | apply pw_below_drewN | apply below_drew1 | refine below_set ?_ GE178.out | refine below_set ?_ GE183.out | refine below_set ?_ GE190.out) | exact HB.out)⟩⟩
                        · rw [if_neg c39] at H
                          exact absurd H (by simp)
                      · rw [if_neg c38] at H
                        exact absurd H (by simp)
                  · rw [if_neg c24] at H
                    have c24b0 : (t189 == 0) = false := beq_eq_false_iff_ne.mpr c24
                    have c24b1 : (t189 != 0) = true := bne_iff_ne.mpr c24
                    simp only [Option.some.injEq, Prod.mk.injEq] at H
                    obtain ⟨rfl, rfl, rfl⟩ := H
                    obtain ⟨Ao51, co51, eo51⟩ := Kd.R_slice HO_7.out
                    subst eo51
                    go_wp2_with (first | ((with_reducible refine gate_callee (f := 32) rfl ?_); refine goesL_ (some 31) rfl rfl Try.func32 (by kernel_rfl) rfl #[.string a0, .int .i64 x8_2] rfl (by (try simp only [List.map_toArray, List.map_cons, List.map_nil]); first | done | rfl | (simp only [List.length_drop, List.length_take]; rfl)) ?_; (with_reducible refine (wringerref1_GetVint.calls k2 a0 x8_2 t180 t181 t182 _ A12.out).mono ?_); rintro e w52 ⟨rfl, hb⟩; refine ⟨_, rfl, ?_⟩; have n0_ := Aside0.mk (Kd.R_below (by (with_reducible repeat (first | apply Kd.R_alloc | apply Kd.R_drewN | apply Kd.R_drew)); exact HO_7.out) hb); have n1_ := Aside0.mk (blk_below (g := gb178) (o := .cells #[.slice none 0 0, .int .i64 x179001_2, .int .i64 x179002_2] 41 (0, 0)) (by (with_reducible repeat (first | refine blk_drewN ?_ _ | refine blk_drew ?_ | refine blk_alloc ?_ _)); exact BK178.out) hb); have n2_ := Aside0.mk (below_step (by repeat (first | (with_reducible first | exact HB.out | apply below_alloc | apply pw_below_drewN | apply below_drew1 | refine below_set ?_ GE178.out) | exact HB.out)) hb); clear HO_7; clear BK178; clear HB; have HO_7 := n0_; have BK178 := n1_; have HB := n2_; clear n0_ n1_ n2_; (try clear hb); (try clear hb2); (try clear hk); (try clear hi)) | ((with_reducible refine gate_dst (N := 9) rfl ?_); (try (refine gate_guard (by rfl) ?_; dsimp only)); refine box_event ?hg (N := 9) ?hd (cs := #[.int .u64 0, .int .i64 0, .int .i64 0]) (t := 61) ?hr ?_; (case hd => rfl); (case hg => rfl); (case hr => first | (go_simp; done) | (go_simp; rfl)); intro gb183 hg w53 hbox hb; have n0_ := Aside0.mk (Kd.R_below (by (with_reducible repeat (first | apply Kd.R_alloc | apply Kd.R_drewN | apply Kd.R_drew)); exact HO_7.out) hb); have n1_ := Aside0.mk (blk_below (g := gb178) (o := .cells #[.slice none 0 0, .int .i64 x179001_2, .int .i64 x179002_2] 41 (0, 0)) (by (with_reducible repeat (first | refine blk_drewN ?_ _ | refine blk_drew ?_ | refine blk_alloc ?_ _)); exact BK178.out) hb); have n2_ := Aside0.mk (below_step (by repeat (first | (with_reducible first | exact HB.out | apply below_alloc | apply pw_below_drewN | apply below_drew1 | refine below_set ?_ GE178.out) | exact HB.out)) hb); have n3_ := Aside0.mk (hbox); have n4_ := Aside0.mk ((by rw [hg]; exact (below_size (by repeat (first | (with_reducible first | exact HB.out | apply below_alloc | apply pw_below_drewN | apply below_drew1 | refine below_set ?_ GE178.out) | exact HB.out))) : w.heap.size ≤ gb183)); have n5_ := Aside0.mk ((by rw [hg]; exact (below_size (by repeat (first | (with_reducible first | exact HB.out | apply below_alloc | apply pw_below_drewN | apply below_drew1 | refine below_set ?_ GE178.out) | exact HB.out))) : w.heap.size ≤ gb183)); have n6_ := Aside0.mk ((by rw [hg]; exact Nat.ne_of_lt (blk_lt (g := gb178) (o := .cells #[.slice none 0 0, .int .i64 x179001_2, .int .i64 x179002_2] 41 (0, 0)) (by (with_reducible repeat (first | refine blk_drewN ?_ _ | refine blk_drew ?_ | refine blk_alloc ?_ _)); exact BK178.out)) : gb178 ≠ gb183)); have n7_ := Aside0.mk ((by rw [hg]; exact Nat.ne_of_gt (blk_lt (g := gb178) (o := .cells #[.slice none 0 0, .int .i64 x179001_2, .int .i64 x179002_2] 41 (0, 0)) (by (with_reducible repeat (first | refine blk_drewN ?_ _ | refine blk_drew ?_ | refine blk_alloc ?_ _)); exact BK178.out)) : gb183 ≠ gb178)); clear HO_7; clear BK178; clear HB; have HO_7 := n0_; have BK178 := n1_; have HB := n2_; have BK183 := n3_; have GW183 := n4_; have GE183 := n5_; have NB178_183 := n6_; have NB183_178 := n7_; clear n0_ n1_ n2_ n3_ n4_ n5_ n6_ n7_; clear hb hbox hg; have hnb54 := NB183_178.out; have hnc54 := NB178_183.out; have hcz55_0 : w53.cell? ⟨gb183, 0, none⟩ = some (.int .u64 0) := (blk_cell BK183.out 0).trans rfl; have hcz55_1 : w53.cell? ⟨gb183, 1, none⟩ = some (.int .i64 0) := (blk_cell BK183.out 1).trans rfl; have hcz55_2 : w53.cell? ⟨gb183, 2, none⟩ = some (.int .i64 0) := (blk_cell BK183.out 2).trans rfl; have hfz55_0 := blk_frozen BK183.out 0; have hfz55_1 := blk_frozen BK183.out 1; have hfz55_2 := blk_frozen BK183.out 2) | ((with_reducible refine gate_callee (f := 32) rfl ?_); refine goesL_ (some 52) rfl rfl Try.func32 (by kernel_rfl) rfl #[.string a0, .int .i64 t181] rfl (by (try simp only [List.map_toArray, List.map_cons, List.map_nil]); first | done | rfl | (simp only [List.length_drop, List.length_take]; rfl)) ?_; (with_reducible refine (wringerref1_GetVint.calls k2 a0 t181 t187 t188 t189 _ A23.out).mono ?_); rintro e w56 ⟨rfl, hb⟩; refine ⟨_, rfl, ?_⟩; have n0_ := Aside0.mk (Kd.R_below (by (with_reducible repeat (first | apply Kd.R_alloc | apply Kd.R_drewN | apply Kd.R_drew)); exact (Kd.R_mono (Kd.R_far (p := ⟨gb183, 2, none⟩) (Kd.R_far (p := ⟨gb183, 1, none⟩) (Kd.R_far (p := ⟨gb183, 0, none⟩) (Kd.R_types HO_7.out BK183.out (by decide)) (fun _ hk => hk.2) (.int .u64 t180)) (fun _ hk => hk.2) (.int .i64 t181)) (fun _ hk => hk.2) (.int .i64 t182)) (fun _ h_ => h_.1))) hb); have n1_ := Aside0.mk (blk_below (g := gb178) (o := .cells #[.slice none 0 0, .int .i64 x179001_2, .int .i64 x179002_2] 41 (0, 0)) (by (with_reducible repeat (first | refine blk_drewN ?_ _ | refine blk_drew ?_ | refine blk_alloc ?_ _)); refine blk_far ?_ NB178_183.out _; (with_reducible repeat (first | refine blk_drewN ?_ _ | refine blk_drew ?_ | refine blk_alloc ?_ _)); refine blk_far ?_ NB178_183.out _; (with_reducible repeat (first | refine blk_drewN ?_ _ | refine blk_drew ?_ | refine blk_alloc ?_ _)); refine blk_far ?_ NB178_183.out _; (with_reducible repeat (first | refine blk_drewN ?_ _ | refine blk_drew ?_ | refine blk_alloc ?_ _)); exact BK178.out) hb); have n2_ := Aside0.mk (blk_below (g := gb183) (o := .cells #[.int .u64 t180, .int .i64 t181, .int .i64 t182] 61 (0, 0)) (by (with_reducible repeat (first | refine blk_drewN ?_ _ | refine blk_drew ?_ | refine blk_alloc ?_ _)); refine blk_put (cs := #[.int .u64 t180, .int .i64 t181, .int .i64 0]) ?_ 2 _ rfl; (with_reducible repeat (first | refine blk_drewN ?_ _ | refine blk_drew ?_ | refine blk_alloc ?_ _)); refine blk_put (cs := #[.int .u64 t180, .int .i64 0, .int .i64 0]) ?_ 1 _ rfl; (with_reducible repeat (first | refine blk_drewN ?_ _ | refine blk_drew ?_ | refine blk_alloc ?_ _)); refine blk_put (cs := #[.int .u64 0, .int .i64 0, .int .i64 0]) ?_ 0 _ rfl; (with_reducible repeat (first | refine blk_drewN ?_ _ | refine blk_drew ?_ | refine blk_alloc ?_ _)); exact BK183.out) hb); have n3_ := Aside0.mk (below_step (by repeat (first | (with_reducible first | exact HB.out | apply below_alloc | apply pw_below_drewN | apply below_drew1 | refine below_set ?_ GE178.out | refine below_set ?_ GE183.out) | exact HB.out)) hb); clear HO_7; clear BK178; clear BK183; clear HB; have HO_7 := n0_; have BK178 := n1_; have BK183 := n2_; have HB := n3_; clear n0_ n1_ n2_ n3_; (try clear hb); (try clear hb2); (try clear hk); (try clear hi)) | ((with_reducible refine gate_dst (N := 10) rfl ?_); (try (refine gate_guard (by rfl) ?_; dsimp only)); refine box_event ?hg (N := 10) ?hd (cs := #[.int .u64 0, .int .i64 0, .int .i64 0]) (t := 61) ?hr ?_; (case hd => rfl); (case hg => rfl); (case hr => first | (go_simp; done) | (go_simp; rfl)); intro gb190 hg w57 hbox hb; have n0_ := Aside0.mk (Kd.R_below (by (with_reducible repeat (first | apply Kd.R_alloc | apply Kd.R_drewN | apply Kd.R_drew)); exact HO_7.out) hb); have n1_ := Aside0.mk (blk_below (g := gb178) (o := .cells #[.slice none 0 0, .int .i64 x179001_2, .int .i64 x179002_2] 41 (0, 0)) (by (with_reducible repeat (first | refine blk_drewN ?_ _ | refine blk_drew ?_ | refine blk_alloc ?_ _)); exact BK178.out) hb); have n2_ := Aside0.mk (blk_below (g := gb183) (o := .cells #[.int .u64 t180, .int .i64 t181, .int .i64 t182] 61 (0, 0)) (by (with_reducible repeat (first | refine blk_drewN ?_ _ | refine blk_drew ?_ | refine blk_alloc ?_ _)); exact BK183.out) hb); have n3_ := Aside0.mk (below_step (by repeat (first | (with_reducible first | exact HB.out | apply below_alloc | apply pw_below_drewN | apply below_drew1 | refine below_set ?_ GE178.out | refine below_set ?_ GE183.out) | exact HB.out)) hb); have n4_ := Aside0.mk (hbox); have n5_ := Aside0.mk ((by rw [hg]; exact (below_size (by repeat (first | (with_reducible first | exact HB.out | apply below_alloc | apply pw_below_drewN | apply below_drew1 | refine below_set ?_ GE178.out | refine below_set ?_ GE183.out) | exact HB.out))) : w.heap.size ≤ gb190)); have n6_ := Aside0.mk ((by rw [hg]; exact (below_size (by repeat (first | (with_reducible first | exact HB.out | apply below_alloc | apply pw_below_drewN | apply below_drew1 | refine below_set ?_ GE178.out | refine below_set ?_ GE183.out) | exact HB.out))) : w.heap.size ≤ gb190)); have n7_ := Aside0.mk ((by rw [hg]; exact Nat.ne_of_lt (blk_lt (g := gb178) (o := .cells #[.slice none 0 0, .int .i64 x179001_2, .int .i64 x179002_2] 41 (0, 0)) (by (with_reducible repeat (first | refine blk_drewN ?_ _ | refine blk_drew ?_ | refine blk_alloc ?_ _)); exact BK178.out)) : gb178 ≠ gb190)); have n8_ := Aside0.mk ((by rw [hg]; exact Nat.ne_of_gt (blk_lt (g := gb178) (o := .cells #[.slice none 0 0, .int .i64 x179001_2, .int .i64 x179002_2] 41 (0, 0)) (by (with_reducible repeat (first | refine blk_drewN ?_ _ | refine blk_drew ?_ | refine blk_alloc ?_ _)); exact BK178.out)) : gb190 ≠ gb178)); have n9_ := Aside0.mk ((by rw [hg]; exact Nat.ne_of_lt (blk_lt (g := gb183) (o := .cells #[.int .u64 t180, .int .i64 t181, .int .i64 t182] 61 (0, 0)) (by (with_reducible repeat (first | refine blk_drewN ?_ _ | refine blk_drew ?_ | refine blk_alloc ?_ _)); exact BK183.out)) : gb183 ≠ gb190)); have n10_ := Aside0.mk ((by rw [hg]; exact Nat.ne_of_gt (blk_lt (g := gb183) (o := .cells #[.int .u64 t180, .int .i64 t181, .int .i64 t182] 61 (0, 0)) (by (with_reducible repeat (first | refine blk_drewN ?_ _ | refine blk_drew ?_ | refine blk_alloc ?_ _)); exact BK183.out)) : gb190 ≠ gb183)); clear HO_7; clear BK178; clear BK183; clear HB; have HO_7 := n0_; have BK178 := n1_; have BK183 := n2_; have HB := n3_; have BK190 := n4_; have GW190 := n5_; have GE190 := n6_; have NB178_190 := n7_; have NB190_178 := n8_; have NB183_190 := n9_; have NB190_183 := n10_; clear n0_ n1_ n2_ n3_ n4_ n5_ n6_ n7_ n8_ n9_ n10_; clear hb hbox hg; have hnb58 := NB190_178.out; have hnc58 := NB178_190.out; have hnb59 := NB190_183.out; have hnc59 := NB183_190.out; have hcz60_0 : w57.cell? ⟨gb190, 0, none⟩ = some (.int .u64 0) := (blk_cell BK190.out 0).trans rfl; have hcz60_1 : w57.cell? ⟨gb190, 1, none⟩ = some (.int .i64 0) := (blk_cell BK190.out 1).trans rfl; have hcz60_2 : w57.cell? ⟨gb190, 2, none⟩ = some (.int .i64 0) := (blk_cell BK190.out 2).trans rfl; have hfz60_0 := blk_frozen BK190.out 0; have hfz60_1 := blk_frozen BK190.out 1; have hfz60_2 := blk_frozen BK190.out 2; have hcz61_0 : w57.cell? ⟨gb178, 0, none⟩ = some (.slice none 0 0) := (blk_cell BK178.out 0).trans rfl; have hcz61_1 : w57.cell? ⟨gb178, 1, none⟩ = some (.int .i64 x179001_2) := (blk_cell BK178.out 1).trans rfl; have hcz61_2 : w57.cell? ⟨gb178, 2, none⟩ = some (.int .i64 x179002_2) := (blk_cell BK178.out 2).trans rfl; have hfz61_0 := blk_frozen BK178.out 0; have hfz61_1 := blk_frozen BK178.out 1; have hfz61_2 := blk_frozen BK178.out 2))
                    refine bodyPost_ret (results_cell_row rfl _ _ gb178 41 #[.slice none 0 0, .int .i64 0, .int .i64 t189] (0, 0) _ rfl (by (with_reducible repeat (first | refine blk_drewN ?_ _ | refine blk_drew ?_ | refine blk_alloc ?_ _)); refine blk_put (cs := #[.slice none 0 0, .int .i64 0, .int .i64 x179002_2]) ?_ 2 _ rfl; (with_reducible repeat (first | refine blk_drewN ?_ _ | refine blk_drew ?_ | refine blk_alloc ?_ _)); refine blk_put (cs := #[.slice none 0 0, .int .i64 x179001_2, .int .i64 x179002_2]) ?_ 1 _ rfl; (with_reducible repeat (first | refine blk_drewN ?_ _ | refine blk_drew ?_ | refine blk_alloc ?_ _)); refine blk_put (cs := #[.slice none 0 0, .int .i64 x179001_2, .int .i64 x179002_2]) ?_ 0 _ rfl; (with_reducible repeat (first | refine blk_drewN ?_ _ | refine blk_drew ?_ | refine blk_alloc ?_ _)); refine blk_far ?_ NB178_190.out _; (with_reducible repeat (first | refine blk_drewN ?_ _ | refine blk_drew ?_ | refine blk_alloc ?_ _)); refine blk_far ?_ NB178_190.out _; (with_reducible repeat (first | refine blk_drewN ?_ _ | refine blk_drew ?_ | refine blk_alloc ?_ _)); refine blk_far ?_ NB178_190.out _; (with_reducible repeat (first | refine blk_drewN ?_ _ | refine blk_drew ?_ | refine blk_alloc ?_ _)); exact BK178.out) Try.underlying41 rfl (by kernel_rfl)) rfl ?_
                    exact ⟨_, by first | rfl | (simp [errW_none, errW_some] <;> rfl) | (simp [*, errW_none, errW_some] <;> rfl), by first | exact Kd.R_nil _ _ _ _ _ | exact Kd.N_nil _ _ _ _ _ | exact Kd.V_nil _ _ _ _ _ | exact Kd.Q_nil _ _ _ _ _ | exact Kd.S_nil _ _ _ _ _, by repeat (first | (with_reducible first | exact HB.out | apply below_alloc | apply pw_below_drewN | apply below_drew1 | refine below_set ?_ GE178.out | refine below_set ?_ GE183.out | refine below_set ?_ GE190.out) | exact HB.out)⟩
              · rw [if_neg c13] at H
                have c13b0 : (t182 == 0) = false := beq_eq_false_iff_ne.mpr c13
                have c13b1 : (t182 != 0) = true := bne_iff_ne.mpr c13
                simp only [Option.some.injEq, Prod.mk.injEq] at H
                obtain ⟨rfl, rfl, rfl⟩ := H
                obtain ⟨Ao62, co62, eo62⟩ := Kd.R_slice HO_7.out
                subst eo62
                go_wp2_with (first | ((with_reducible refine gate_callee (f := 32) rfl ?_); refine goesL_ (some 31) rfl rfl Try.func32 (by kernel_rfl) rfl #[.string a0, .int .i64 x8_2] rfl (by (try simp only [List.map_toArray, List.map_cons, List.map_nil]); first | done | rfl | (simp only [List.length_drop, List.length_take]; rfl)) ?_; (with_reducible refine (wringerref1_GetVint.calls k2 a0 x8_2 t180 t181 t182 _ A12.out).mono ?_); rintro e w63 ⟨rfl, hb⟩; refine ⟨_, rfl, ?_⟩; have n0_ := Aside0.mk (Kd.R_below (by (with_reducible repeat (first | apply Kd.R_alloc | apply Kd.R_drewN | apply Kd.R_drew)); exact HO_7.out) hb); have n1_ := Aside0.mk (blk_below (g := gb178) (o := .cells #[.slice none 0 0, .int .i64 x179001_2, .int .i64 x179002_2] 41 (0, 0)) (by (with_reducible repeat (first | refine blk_drewN ?_ _ | refine blk_drew ?_ | refine blk_alloc ?_ _)); exact BK178.out) hb); have n2_ := Aside0.mk (below_step (by repeat (first | (with_reducible first | exact HB.out | apply below_alloc | apply pw_below_drewN | apply below_drew1 | refine below_set ?_ GE178.out) | exact HB.out)) hb); clear HO_7; clear BK178; clear HB; have HO_7 := n0_; have BK178 := n1_; have HB := n2_; clear n0_ n1_ n2_; (try clear hb); (try clear hb2); (try clear hk); (try clear hi)) | ((with_reducible refine gate_dst (N := 9) rfl ?_); (try (refine gate_guard (by rfl) ?_; dsimp only)); refine box_event ?hg (N := 9) ?hd (cs := #[.int .u64 0, .int .i64 0, .int .i64 0]) (t := 61) ?hr ?_; (case hd => rfl); (case hg => rfl); (case hr => first | (go_simp; done) | (go_simp; rfl)); intro gb183 hg w64 hbox hb; have n0_ := Aside0.mk (Kd.R_below (by (with_reducible repeat (first | apply Kd.R_alloc | apply Kd.R_drewN | apply Kd.R_drew)); exact HO_7.out) hb); have n1_ := Aside0.mk (blk_below (g := gb178) (o := .cells #[.slice none 0 0, .int .i64 x179001_2, .int .i64 x179002_2] 41 (0, 0)) (by (with_reducible repeat (first | refine blk_drewN ?_ _ | refine blk_drew ?_ | refine blk_alloc ?_ _)); exact BK178.out) hb); have n2_ := Aside0.mk (below_step (by repeat (first | (with_reducible first | exact HB.out | apply below_alloc | apply pw_below_drewN | apply below_drew1 | refine below_set ?_ GE178.out) | exact HB.out)) hb); have n3_ := Aside0.mk (hbox); have n4_ := Aside0.mk ((by rw [hg]; exact (below_size (by repeat (first | (with_reducible first | exact HB.out | apply below_alloc | apply pw_below_drewN | apply below_drew1 | refine below_set ?_ GE178.out) | exact HB.out))) : w.heap.size ≤ gb183)); have n5_ := Aside0.mk ((by rw [hg]; exact (below_size (by repeat (first | (with_reducible first | exact HB.out | apply below_alloc | apply pw_below_drewN | apply below_drew1 | refine below_set ?_ GE178.out) | exact HB.out))) : w.heap.size ≤ gb183)); have n6_ := Aside0.mk ((by rw [hg]; exact Nat.ne_of_lt (blk_lt (g := gb178) (o := .cells #[.slice none 0 0, .int .i64 x179001_2, .int .i64 x179002_2] 41 (0, 0)) (by (with_reducible repeat (first | refine blk_drewN ?_ _ | refine blk_drew ?_ | refine blk_alloc ?_ _)); exact BK178.out)) : gb178 ≠ gb183)); have n7_ := Aside0.mk ((by rw [hg]; exact Nat.ne_of_gt (blk_lt (g := gb178) (o := .cells #[.slice none 0 0, .int .i64 x179001_2, .int .i64 x179002_2] 41 (0, 0)) (by (with_reducible repeat (first | refine blk_drewN ?_ _ | refine blk_drew ?_ | refine blk_alloc ?_ _)); exact BK178.out)) : gb183 ≠ gb178)); clear HO_7; clear BK178; clear HB; have HO_7 := n0_; have BK178 := n1_; have HB := n2_; have BK183 := n3_; have GW183 := n4_; have GE183 := n5_; have NB178_183 := n6_; have NB183_178 := n7_; clear n0_ n1_ n2_ n3_ n4_ n5_ n6_ n7_; clear hb hbox hg; have hnb65 := NB183_178.out; have hnc65 := NB178_183.out; have hcz66_0 : w64.cell? ⟨gb183, 0, none⟩ = some (.int .u64 0) := (blk_cell BK183.out 0).trans rfl; have hcz66_1 : w64.cell? ⟨gb183, 1, none⟩ = some (.int .i64 0) := (blk_cell BK183.out 1).trans rfl; have hcz66_2 : w64.cell? ⟨gb183, 2, none⟩ = some (.int .i64 0) := (blk_cell BK183.out 2).trans rfl; have hfz66_0 := blk_frozen BK183.out 0; have hfz66_1 := blk_frozen BK183.out 1; have hfz66_2 := blk_frozen BK183.out 2; have hcz67_0 : w64.cell? ⟨gb178, 0, none⟩ = some (.slice none 0 0) := (blk_cell BK178.out 0).trans rfl; have hcz67_1 : w64.cell? ⟨gb178, 1, none⟩ = some (.int .i64 x179001_2) := (blk_cell BK178.out 1).trans rfl; have hcz67_2 : w64.cell? ⟨gb178, 2, none⟩ = some (.int .i64 x179002_2) := (blk_cell BK178.out 2).trans rfl; have hfz67_0 := blk_frozen BK178.out 0; have hfz67_1 := blk_frozen BK178.out 1; have hfz67_2 := blk_frozen BK178.out 2))
                refine bodyPost_ret (results_cell_row rfl _ _ gb178 41 #[.slice none 0 0, .int .i64 0, .int .i64 t182] (0, 0) _ rfl (by (with_reducible repeat (first | refine blk_drewN ?_ _ | refine blk_drew ?_ | refine blk_alloc ?_ _)); refine blk_put (cs := #[.slice none 0 0, .int .i64 0, .int .i64 x179002_2]) ?_ 2 _ rfl; (with_reducible repeat (first | refine blk_drewN ?_ _ | refine blk_drew ?_ | refine blk_alloc ?_ _)); refine blk_put (cs := #[.slice none 0 0, .int .i64 x179001_2, .int .i64 x179002_2]) ?_ 1 _ rfl; (with_reducible repeat (first | refine blk_drewN ?_ _ | refine blk_drew ?_ | refine blk_alloc ?_ _)); refine blk_put (cs := #[.slice none 0 0, .int .i64 x179001_2, .int .i64 x179002_2]) ?_ 0 _ rfl; (with_reducible repeat (first | refine blk_drewN ?_ _ | refine blk_drew ?_ | refine blk_alloc ?_ _)); refine blk_far ?_ NB178_183.out _; (with_reducible repeat (first | refine blk_drewN ?_ _ | refine blk_drew ?_ | refine blk_alloc ?_ _)); refine blk_far ?_ NB178_183.out _; (with_reducible repeat (first | refine blk_drewN ?_ _ | refine blk_drew ?_ | refine blk_alloc ?_ _)); refine blk_far ?_ NB178_183.out _; (with_reducible repeat (first | refine blk_drewN ?_ _ | refine blk_drew ?_ | refine blk_alloc ?_ _)); exact BK178.out) Try.underlying41 rfl (by kernel_rfl)) rfl ?_
                exact ⟨_, by first | rfl | (simp [errW_none, errW_some] <;> rfl) | (simp [*, errW_none, errW_some] <;> rfl), by first | exact Kd.R_nil _ _ _ _ _ | exact Kd.N_nil _ _ _ _ _ | exact Kd.V_nil _ _ _ _ _ | exact Kd.Q_nil _ _ _ _ _ | exact Kd.S_nil _ _ _ _ _, by repeat (first | (with_reducible first | exact HB.out | apply below_alloc | apply pw_below_drewN | apply below_drew1 | refine below_set ?_ GE178.out | refine below_set ?_ GE183.out) | exact HB.out)⟩
            · rw [if_neg c11] at H
              have c11b0 : decide ((x7_2.length : Int) < 65) = false := decide_eq_false c11
              have c11b1 : decide (x7_2.length < 65) = false := decide_eq_false (by omega)
              clear c11
              replace H := Option.bind_eq_some_iff.mp H
              obtain ⟨t194, A680, H⟩ := H
              replace H : (if t194 = true then ((wringerref7_PutNorm.f k2 x7_2).bind fun t195 => (if 0 ≤ a1 then (if a1 ≤ x8_2 then (if x8_2 ≤ (a0.size : Int) then (if t195.toList = (a0.extract (a1 : Int).toNat (x8_2 : Int).toNat).toList then (some (x7_2, x8_2, 0)) else (some (([] : List Int), 0, 3))) else (none)) else (none)) else (none))) else (some (([] : List Int), 0, 3))) = some (r1, r2, r3) := H
              have A68 := Aside0.mk A680
              clear A680
              by_cases c69 : t194 = true
              · subst c69
                have H1 : ((wringerref7_PutNorm.f k2 x7_2).bind fun t195 => (if 0 ≤ a1 then (if a1 ≤ x8_2 then (if x8_2 ≤ (a0.size : Int) then (if t195.toList = (a0.extract (a1 : Int).toNat (x8_2 : Int).toNat).toList then (some (x7_2, x8_2, 0)) else (some (([] : List Int), 0, 3))) else (none)) else (none)) else (none))) = some (r1, r2, r3) := by rw [if_pos rfl] at H; exact H
                clear H
                have H := H1
                clear H1
                replace H := Option.bind_eq_some_iff.mp H
                obtain ⟨t195, A700, H⟩ := H
                replace H : (if 0 ≤ a1 then (if a1 ≤ x8_2 then (if x8_2 ≤ (a0.size : Int) then (if t195.toList = (a0.extract (a1 : Int).toNat (x8_2 : Int).toNat).toList then (some (x7_2, x8_2, 0)) else (some (([] : List Int), 0, 3))) else (none)) else (none)) else (none)) = some (r1, r2, r3) := H
                have A70 := Aside0.mk A700
                clear A700
                by_cases c71 : 0 ≤ a1
                · rw [if_pos c71] at H
                  have c71b0 := eq_true c71
                  have c71b1 : decide (0 ≤ a1) = true := decide_eq_true c71
                  clear c71
                  by_cases c72 : a1 ≤ x8_2
                  · rw [if_pos c72] at H
                    have c72b0 := eq_true c72
                    have c72b1 : decide (a1 ≤ x8_2) = true := decide_eq_true c72
                    clear c72
                    by_cases c73 : x8_2 ≤ (a0.size : Int)
                    · rw [if_pos c73] at H
                      have c73b0 := eq_true c73
                      have c73b1 : decide (x8_2 ≤ (a0.size : Int)) = true := decide_eq_true c73
                      clear c73
                      by_cases c74 : t195.toList = (a0.extract (a1 : Int).toNat (x8_2 : Int).toNat).toList
                      · rw [if_pos c74] at H
                        have c74b0 : (t195.toList == (a0.extract (a1 : Int).toNat (x8_2 : Int).toNat).toList) = true := beq_iff_eq.mpr c74
                        have c74b1 : (t195.toList != (a0.extract (a1 : Int).toNat (x8_2 : Int).toNat).toList) = false := bne_eq_false_iff_eq.mpr c74
                        clear c74
                        simp only [Option.some.injEq, Prod.mk.injEq] at H
                        obtain ⟨rfl, rfl, rfl⟩ := H
                        obtain ⟨Ao75, co75, eo75⟩ := Kd.R_slice HO_7.out
                        subst eo75
                        try go_wp2
                        have n0_ := Aside0.mk (Kd.R_drew HO_7.out)
                        have n1_ := Aside0.mk (blk_drew BK178.out)
                        have n2_ := Aside0.mk (below_drew1 HB.out)
                        clear HO_7
                        clear BK178
                        clear HB
                        have HO_7 := n0_
                        have BK178 := n1_
                        have HB := n2_
                        clear n0_ n1_ n2_
                        refine start_ (n := 13) (S := fun w' => True) (ds := []) #[false, false, false, false, false, false, false, false, false, false, false, false, false] (by kernel_rfl) rfl rfl trivial (fun hHeld => ?_); refine with_tabW wringerref7_GetNorm.tab19 wringerref7_GetNorm.bits19 (fun HT_ HW_ => ?_)
                        generalize wr.drew = w76 at HO_7 BK178 HB hHeld ⊢
                        refine pure_ (i := 0) (N := some 70) (v := ?_) (a' := ?_) #[true, false, false, false, false, false, false, false, false, false, false, false, false] rfl rfl (any_of HT_.out (by kernel_rfl)) (fun _ _ _ h => h) (Or.inl ⟨by rfl, ?_⟩) ?_ ?_
                        rotate_left
                        · intro w'
                          go_simp
                          with_reducible rfl
                        rotate_left
                        · simp only [Act.put, List.setIfInBounds_toArray, List.set_cons_zero, List.set_cons_succ, i64_w, i32_w]
                          rfl
                        refine pure_ (i := 1) (N := some 71) (v := ?_) (a' := ?_) #[true, true, false, false, false, false, false, false, false, false, false, false, false] rfl rfl (any_of HT_.out (by kernel_rfl)) (fun _ _ _ h => h) (Or.inl ⟨by rfl, ?_⟩) ?_ ?_
                        rotate_left
                        · intro w'
                          go_simp
                          with_reducible rfl
                        rotate_left
                        · simp only [Act.put, List.setIfInBounds_toArray, List.set_cons_zero, List.set_cons_succ, i64_w, i32_w]
                          rfl
                        refine one_ (i := 2) (N := some 72) #[true, true, true, false, false, false, false, false, false, false, false, false, false] rfl rfl (one_of HT_.out (by kernel_rfl)) (by decide) (fun K hK => ?_)
                        refine goes_ Try.func18 (by kernel_rfl) rfl #[.slice Ao75 x7_2.length co75, .int .i64 a2] (by rfl) rfl rfl (by (try simp only [List.map_toArray, List.map_cons, List.map_nil]); first | done | rfl | (simp only [List.length_drop, List.length_take]; rfl)) ?_
                        with_reducible refine (wringerref7_MayNorm.calls k2 _ _ x7_2 a2 true _ ?side1 ?side2 A68.out).mono ?_
                        (case side1 => repeat (first | exact (Kd.R_reads' HO_7.out).2.2 | (with_reducible refine Kd.C_alloc ?_ _) | (with_reducible refine Kd.C_drewN ?_ _) | (with_reducible refine Kd.C_drew ?_)))
                        (case side2 => exact (Kd.R_reads' HO_7.out).2.1)
                        rintro e w' ⟨rfl, ⟨nd, rfl⟩⟩
                        refine ⟨_, rfl, ?_⟩
                        refine hK.out _ _ trivial (fun hHeld => ?_)
                        clear hK K
                        refine norm_ (a' := ?_) ?_ ?_
                        rotate_left
                        · show Act.put _ (some 72) _ = _
                          simp only [Act.put, List.setIfInBounds_toArray, List.set_cons_zero, List.set_cons_succ, i64_w, i32_w]
                          rfl
                        refine pure_ (i := 3) (N := some 73) (v := ?_) (a' := ?_) #[true, true, true, true, false, false, false, false, false, false, false, false, false] rfl rfl (any_of HT_.out (by kernel_rfl)) (fun _ _ _ h => h) (Or.inl ⟨by rfl, ?_⟩) ?_ ?_
                        rotate_left
                        · intro w'
                          go_simp
                          with_reducible rfl
                        rotate_left
                        · simp only [Act.put, List.setIfInBounds_toArray, List.set_cons_zero, List.set_cons_succ, i64_w, i32_w]
                          rfl
                        refine pure_ (i := 4) (N := some 74) (v := ?_) (a' := ?_) #[true, true, true, true, true, false, false, false, false, false, false, false, false] rfl rfl (any_of HT_.out (by kernel_rfl)) (fun _ _ _ h => h) (Or.inl ⟨by rfl, ?_⟩) ?_ ?_
                        rotate_left
                        · intro w'
                          go_simp
                          with_reducible rfl
                        rotate_left
                        · simp only [Act.put, List.setIfInBounds_toArray, List.set_cons_zero, List.set_cons_succ, i64_w, i32_w]
                          rfl
                        refine pure_ (i := 5) (N := some 75) (v := ?_) (a' := ?_) #[true, true, true, true, true, true, false, false, false, false, false, false, false] rfl rfl (any_of HT_.out (by kernel_rfl)) (fun _ _ _ h => h) (Or.inl ⟨by rfl, ?_⟩) ?_ ?_
                        rotate_left
                        · intro w'
                          go_simp
                          with_reducible rfl
                        rotate_left
                        · simp only [Act.put, List.setIfInBounds_toArray, List.set_cons_zero, List.set_cons_succ, i64_w, i32_w]
                          rfl
                        refine pure_ (i := 7) (N := some 77) (v := ?_) (a' := ?_) #[true, true, true, true, true, true, false, true, false, false, false, false, false] rfl rfl (any_of HT_.out (by kernel_rfl)) (fun _ _ _ h => h) (Or.inl ⟨by rfl, ?_⟩) ?_ ?_
                        rotate_left
                        · intro w'
                          go_simp
                          with_reducible rfl
                        rotate_left
                        · simp only [Act.put, List.setIfInBounds_toArray, List.set_cons_zero, List.set_cons_succ, i64_w, i32_w]
                          rfl
                        refine pure_ (i := 8) (N := some 78) (v := ?_) (a' := ?_) #[true, true, true, true, true, true, false, true, true, false, false, false, false] rfl rfl (any_of HT_.out (by kernel_rfl)) (fun _ _ _ h => h) (Or.inl ⟨by rfl, ?_⟩) ?_ ?_
                        rotate_left
                        · intro w'
                          go_simp
                          with_reducible rfl
                        rotate_left
                        · simp only [Act.put, List.setIfInBounds_toArray, List.set_cons_zero, List.set_cons_succ, i64_w, i32_w]
                          rfl
                        refine pure_ (i := 9) (N := some 79) (v := ?_) (a' := ?_) #[true, true, true, true, true, true, false, true, true, true, false, false, false] rfl rfl (any_of HT_.out (by kernel_rfl)) (fun _ _ _ h => h) (Or.inl ⟨by rfl, ?_⟩) ?_ ?_
                        rotate_left
                        · intro w'
                          go_simp
                          with_reducible rfl
                        rotate_left
                        · simp only [Act.put, List.setIfInBounds_toArray, List.set_cons_zero, List.set_cons_succ, i64_w, i32_w]
                          rfl
                        refine pure_ (i := 10) (N := some 80) (v := ?_) (a' := ?_) #[true, true, true, true, true, true, false, true, true, true, true, false, false] rfl rfl (any_of HT_.out (by kernel_rfl)) (fun _ _ _ h => h) (Or.inl ⟨by rfl, ?_⟩) ?_ ?_
                        rotate_left
                        · intro w'
                          go_simp
                          with_reducible rfl
                        rotate_left
                        · simp only [Act.put, List.setIfInBounds_toArray, List.set_cons_zero, List.set_cons_succ, i64_w, i32_w]
                          rfl
                        refine one_ (i := 6) (N := some 76) #[true, true, true, true, true, true, true, true, true, true, true, false, false] rfl rfl (one_of HT_.out (by kernel_rfl)) (by decide) (fun K hK => ?_)
                        refine goes_ Try.func20 (by kernel_rfl) rfl #[.slice Ao75 x7_2.length co75] (by rfl) rfl rfl (by (try simp only [List.map_toArray, List.map_cons, List.map_nil]); first | done | rfl | (simp only [List.length_drop, List.length_take]; rfl)) ?_
                        with_reducible refine (wringerref7_PutNorm.calls k2 _ _ x7_2 t195 _ ?side1 ?side2 A70.out).mono ?_
                        (case side1 => repeat (first | exact (Kd.R_reads' HO_7.out).2.2 | (with_reducible refine Kd.C_alloc ?_ _) | (with_reducible refine Kd.C_drewN ?_ _) | (with_reducible refine Kd.C_drew ?_)))
                        (case side2 => exact (Kd.R_reads' HO_7.out).2.1)
                        rintro e w77 ⟨rfl, hb⟩
                        refine ⟨_, rfl, ?_⟩
                        have n0_ := Aside0.mk (Kd.R_below (by (with_reducible repeat (first | apply Kd.R_alloc | apply Kd.R_drewN | apply Kd.R_drew)); exact HO_7.out) hb)
                        have n1_ := Aside0.mk (blk_below (g := gb178) (o := .cells #[.slice none 0 0, .int .i64 x179001_2, .int .i64 x179002_2] 41 (0, 0)) (by (with_reducible repeat (first | refine blk_drewN ?_ _ | refine blk_drew ?_ | refine blk_alloc ?_ _)); exact BK178.out) hb)
                        have n2_ := Aside0.mk (below_step (by repeat (first | (with_reducible first | exact HB.out | apply below_alloc | apply pw_below_drewN | apply below_drew1 | refine below_set ?_ GE178.out) | exact HB.out)) hb)
                        clear HO_7
                        clear BK178
                        clear HB
                        have HO_7 := n0_
                        have BK178 := n1_
                        have HB := n2_
                        clear n0_ n1_ n2_
                        (try clear hb)
                        (try clear hb2)
                        (try clear hk)
                        (try clear hi)
                        refine hK.out _ _ trivial (fun hHeld => ?_)
                        clear hK K
                        refine norm_ (a' := ?_) ?_ ?_
                        rotate_left
                        · show Act.put _ (some 76) _ = _
                          simp only [Act.put, List.setIfInBounds_toArray, List.set_cons_zero, List.set_cons_succ, i64_w, i32_w]
                          rfl
                        refine pure_ (i := 11) (N := some 81) (v := ?_) (a' := ?_) #[true, true, true, true, true, true, true, true, true, true, true, true, false] rfl rfl (any_of HT_.out (by kernel_rfl)) (fun _ _ _ h => h) (Or.inl ⟨by rfl, ?_⟩) ?_ ?_
                        rotate_left
                        · intro w'
                          go_simp
                          with_reducible rfl
                        rotate_left
                        · simp only [Act.put, List.setIfInBounds_toArray, List.set_cons_zero, List.set_cons_succ, i64_w, i32_w]
                          rfl
                        refine pure_ (i := 12) (N := some 82) (v := ?_) (a' := ?_) #[true, true, true, true, true, true, true, true, true, true, true, true, true] rfl rfl (any_of HT_.out (by kernel_rfl)) (fun _ _ _ h => h) (Or.inl ⟨by rfl, ?_⟩) ?_ ?_
                        rotate_left
                        · intro w'
                          go_simp
                          with_reducible rfl
                        rotate_left
                        · simp only [Act.put, List.setIfInBounds_toArray, List.set_cons_zero, List.set_cons_succ, i64_w, i32_w]
                          rfl
                        refine done_ (done_of HT_.out (by kernel_rfl)) ?_
                        have hcz78_0 : w77.cell? ⟨gb178, 0, none⟩ = some (.slice none 0 0) := (blk_cell BK178.out 0).trans rfl
                        have hcz78_1 : w77.cell? ⟨gb178, 1, none⟩ = some (.int .i64 x179001_2) := (blk_cell BK178.out 1).trans rfl
                        have hcz78_2 : w77.cell? ⟨gb178, 2, none⟩ = some (.int .i64 x179002_2) := (blk_cell BK178.out 2).trans rfl
                        have hfz78_0 := blk_frozen BK178.out 0
                        have hfz78_1 := blk_frozen BK178.out 1
                        have hfz78_2 := blk_frozen BK178.out 2
                        try go_wp2
                        refine bodyPost_ret (results_cell_row rfl _ _ gb178 41 #[.slice Ao75 x7_2.length co75, .int .i64 x8_2, .int .i64 0] (0, 0) _ rfl (by (with_reducible repeat (first | refine blk_drewN ?_ _ | refine blk_drew ?_ | refine blk_alloc ?_ _)); refine blk_put (cs := #[.slice Ao75 x7_2.length co75, .int .i64 x8_2, .int .i64 x179002_2]) ?_ 2 _ rfl; (with_reducible repeat (first | refine blk_drewN ?_ _ | refine blk_drew ?_ | refine blk_alloc ?_ _)); refine blk_put (cs := #[.slice Ao75 x7_2.length co75, .int .i64 x179001_2, .int .i64 x179002_2]) ?_ 1 _ rfl; (with_reducible repeat (first | refine blk_drewN ?_ _ | refine blk_drew ?_ | refine blk_alloc ?_ _)); refine blk_put (cs := #[.slice none 0 0, .int .i64 x179001_2, .int .i64 x179002_2]) ?_ 0 _ rfl; (with_reducible repeat (first | refine blk_drewN ?_ _ | refine blk_drew ?_ | refine blk_alloc ?_ _)); exact BK178.out) Try.underlying41 rfl (by kernel_rfl)) rfl ?_
                        exact ⟨_, by first | rfl | (simp [errW_none, errW_some] <;> rfl) | (simp [*, errW_none, errW_some] <;> rfl), by (with_reducible repeat (first | apply Kd.R_alloc | apply Kd.R_drewN | apply Kd.R_drew)); exact Kd.R_mono (Kd.R_far (p := ⟨gb178, 2, none⟩) (Kd.R_far (p := ⟨gb178, 1, none⟩) (Kd.R_far (p := ⟨gb178, 0, none⟩) (Kd.R_types HO_7.out BK178.out (by decide)) (fun _ hk => hk.2) (.slice Ao75 x7_2.length co75)) (fun _ hk => hk.2) (.int .i64 x8_2)) (fun _ hk => hk.2) (.int .i64 0)) (fun _ hk => trivial), by repeat (first | (with_reducible first | exact HB.out | apply below_alloc | apply pw_below_drewN | apply below_drew1 | refine below_set ?_ GE178.out) | exact HB.out)⟩
                      · rw [if_neg c74] at H
                        have c74b0 : (t195.toList == (a0.extract (a1 : Int).toNat (x8_2 : Int).toNat).toList) = false := beq_eq_false_iff_ne.mpr c74
                        have c74b1 : (t195.toList != (a0.extract (a1 : Int).toNat (x8_2 : Int).toNat).toList) = true := bne_iff_ne.mpr c74
                        simp only [Option.some.injEq, Prod.mk.injEq] at H
                        obtain ⟨rfl, rfl, rfl⟩ := H
                        obtain ⟨Ao79, co79, eo79⟩ := Kd.R_slice HO_7.out
                        subst eo79
                        try go_wp2
                        have n0_ := Aside0.mk (Kd.R_drew HO_7.out)
                        have n1_ := Aside0.mk (blk_drew BK178.out)
                        have n2_ := Aside0.mk (below_drew1 HB.out)
                        clear HO_7
                        clear BK178
                        clear HB
                        have HO_7 := n0_
                        have BK178 := n1_
                        have HB := n2_
                        clear n0_ n1_ n2_
                        refine start_ (n := 13) (S := fun w' => True) (ds := []) #[false, false, false, false, false, false, false, false, false, false, false, false, false] (by kernel_rfl) rfl rfl trivial (fun hHeld => ?_); refine with_tabW wringerref7_GetNorm.tab19 wringerref7_GetNorm.bits19 (fun HT_ HW_ => ?_)
                        generalize wr.drew = w80 at HO_7 BK178 HB hHeld ⊢
                        refine pure_ (i := 0) (N := some 70) (v := ?_) (a' := ?_) #[true, false, false, false, false, false, false, false, false, false, false, false, false] rfl rfl (any_of HT_.out (by kernel_rfl)) (fun _ _ _ h => h) (Or.inl ⟨by rfl, ?_⟩) ?_ ?_
                        rotate_left
                        · intro w'
                          go_simp
                          with_reducible rfl
                        rotate_left
                        · simp only [Act.put, List.setIfInBounds_toArray, List.set_cons_zero, List.set_cons_succ, i64_w, i32_w]
                          rfl
                        refine pure_ (i := 1) (N := some 71) (v := ?_) (a' := ?_) #[true, true, false, false, false, false, false, false, false, false, false, false, false] rfl rfl (any_of HT_.out (by kernel_rfl)) (fun _ _ _ h => h) (Or.inl ⟨by rfl, ?_⟩) ?_ ?_
                        rotate_left
                        · intro w'
                          go_simp
                          with_reducible rfl
                        rotate_left
                        · simp only [Act.put, List.setIfInBounds_toArray, List.set_cons_zero, List.set_cons_succ, i64_w, i32_w]
                          rfl
                        refine one_ (i := 2) (N := some 72) #[true, true, true, false, false, false, false, false, false, false, false, false, false] rfl rfl (one_of HT_.out (by kernel_rfl)) (by decide) (fun K hK => ?_)
                        refine goes_ Try.func18 (by kernel_rfl) rfl #[.slice Ao79 x7_2.length co79, .int .i64 a2] (by rfl) rfl rfl (by (try simp only [List.map_toArray, List.map_cons, List.map_nil]); first | done | rfl | (simp only [List.length_drop, List.length_take]; rfl)) ?_
                        with_reducible refine (wringerref7_MayNorm.calls k2 _ _ x7_2 a2 true _ ?side1 ?side2 A68.out).mono ?_
                        (case side1 => repeat (first | exact (Kd.R_reads' HO_7.out).2.2 | (with_reducible refine Kd.C_alloc ?_ _) | (with_reducible refine Kd.C_drewN ?_ _) | (with_reducible refine Kd.C_drew ?_)))
                        (case side2 => exact (Kd.R_reads' HO_7.out).2.1)
                        rintro e w' ⟨rfl, ⟨nd, rfl⟩⟩
                        refine ⟨_, rfl, ?_⟩
                        refine hK.out _ _ trivial (fun hHeld => ?_)
                        clear hK K
                        refine norm_ (a' := ?_) ?_ ?_
                        rotate_left
                        · show Act.put _ (some 72) _ = _
                          simp only [Act.put, List.setIfInBounds_toArray, List.set_cons_zero, List.set_cons_succ, i64_w, i32_w]
                          rfl
                        refine pure_ (i := 3) (N := some 73) (v := ?_) (a' := ?_) #[true, true, true, true, false, false, false, false, false, false, false, false, false] rfl rfl (any_of HT_.out (by kernel_rfl)) (fun _ _ _ h => h) (Or.inl ⟨by rfl, ?_⟩) ?_ ?_
                        rotate_left
                        · intro w'
                          go_simp
                          with_reducible rfl
                        rotate_left
                        · simp only [Act.put, List.setIfInBounds_toArray, List.set_cons_zero, List.set_cons_succ, i64_w, i32_w]
                          rfl
                        refine pure_ (i := 4) (N := some 74) (v := ?_) (a' := ?_) #[true, true, true, true, true, false, false, false, false, false, false, false, false] rfl rfl (any_of HT_.out (by kernel_rfl)) (fun _ _ _ h => h) (Or.inl ⟨by rfl, ?_⟩) ?_ ?_
                        rotate_left
                        · intro w'
                          go_simp
                          with_reducible rfl
                        rotate_left
                        · simp only [Act.put, List.setIfInBounds_toArray, List.set_cons_zero, List.set_cons_succ, i64_w, i32_w]
                          rfl
                        refine pure_ (i := 5) (N := some 75) (v := ?_) (a' := ?_) #[true, true, true, true, true, true, false, false, false, false, false, false, false] rfl rfl (any_of HT_.out (by kernel_rfl)) (fun _ _ _ h => h) (Or.inl ⟨by rfl, ?_⟩) ?_ ?_
                        rotate_left
                        · intro w'
                          go_simp
                          with_reducible rfl
                        rotate_left
                        · simp only [Act.put, List.setIfInBounds_toArray, List.set_cons_zero, List.set_cons_succ, i64_w, i32_w]
                          rfl
                        refine pure_ (i := 7) (N := some 77) (v := ?_) (a' := ?_) #[true, true, true, true, true, true, false, true, false, false, false, false, false] rfl rfl (any_of HT_.out (by kernel_rfl)) (fun _ _ _ h => h) (Or.inl ⟨by rfl, ?_⟩) ?_ ?_
                        rotate_left
                        · intro w'
                          go_simp
                          with_reducible rfl
                        rotate_left
                        · simp only [Act.put, List.setIfInBounds_toArray, List.set_cons_zero, List.set_cons_succ, i64_w, i32_w]
                          rfl
                        refine pure_ (i := 8) (N := some 78) (v := ?_) (a' := ?_) #[true, true, true, true, true, true, false, true, true, false, false, false, false] rfl rfl (any_of HT_.out (by kernel_rfl)) (fun _ _ _ h => h) (Or.inl ⟨by rfl, ?_⟩) ?_ ?_
                        rotate_left
                        · intro w'
                          go_simp
                          with_reducible rfl
                        rotate_left
                        · simp only [Act.put, List.setIfInBounds_toArray, List.set_cons_zero, List.set_cons_succ, i64_w, i32_w]
                          rfl
                        refine pure_ (i := 9) (N := some 79) (v := ?_) (a' := ?_) #[true, true, true, true, true, true, false, true, true, true, false, false, false] rfl rfl (any_of HT_.out (by kernel_rfl)) (fun _ _ _ h => h) (Or.inl ⟨by rfl, ?_⟩) ?_ ?_
                        rotate_left
                        · intro w'
                          go_simp
                          with_reducible rfl
                        rotate_left
                        · simp only [Act.put, List.setIfInBounds_toArray, List.set_cons_zero, List.set_cons_succ, i64_w, i32_w]
                          rfl
                        refine pure_ (i := 10) (N := some 80) (v := ?_) (a' := ?_) #[true, true, true, true, true, true, false, true, true, true, true, false, false] rfl rfl (any_of HT_.out (by kernel_rfl)) (fun _ _ _ h => h) (Or.inl ⟨by rfl, ?_⟩) ?_ ?_
                        rotate_left
                        · intro w'
                          go_simp
                          with_reducible rfl
                        rotate_left
                        · simp only [Act.put, List.setIfInBounds_toArray, List.set_cons_zero, List.set_cons_succ, i64_w, i32_w]
                          rfl
                        refine one_ (i := 6) (N := some 76) #[true, true, true, true, true, true, true, true, true, true, true, false, false] rfl rfl (one_of HT_.out (by kernel_rfl)) (by decide) (fun K hK => ?_)
                        refine goes_ Try.func20 (by kernel_rfl) rfl #[.slice Ao79 x7_2.length co79] (by rfl) rfl rfl (by (try simp only [List.map_toArray, List.map_cons, List.map_nil]); first | done | rfl | (simp only [List.length_drop, List.length_take]; rfl)) ?_
                        with_reducible refine (wringerref7_PutNorm.calls k2 _ _ x7_2 t195 _ ?side1 ?side2 A70.out).mono ?_
                        (case side1 => repeat (first | exact (Kd.R_reads' HO_7.out).2.2 | (with_reducible refine Kd.C_alloc ?_ _) | (with_reducible refine Kd.C_drewN ?_ _) | (with_reducible refine Kd.C_drew ?_)))
                        (case side2 => exact (Kd.R_reads' HO_7.out).2.1)
                        rintro e w81 ⟨rfl, hb⟩
                        refine ⟨_, rfl, ?_⟩
                        have n0_ := Aside0.mk (Kd.R_below (by (with_reducible repeat (first | apply Kd.R_alloc | apply Kd.R_drewN | apply Kd.R_drew)); exact HO_7.out) hb)
                        have n1_ := Aside0.mk (blk_below (g := gb178) (o := .cells #[.slice none 0 0, .int .i64 x179001_2, .int .i64 x179002_2] 41 (0, 0)) (by (with_reducible repeat (first | refine blk_drewN ?_ _ | refine blk_drew ?_ | refine blk_alloc ?_ _)); exact BK178.out) hb)
                        have n2_ := Aside0.mk (below_step (by repeat (first | (with_reducible first | exact HB.out | apply below_alloc | apply pw_below_drewN | apply below_drew1 | refine below_set ?_ GE178.out) | exact HB.out)) hb)
                        clear HO_7
                        clear BK178
                        clear HB
                        have HO_7 := n0_
                        have BK178 := n1_
                        have HB := n2_
                        clear n0_ n1_ n2_
                        (try clear hb)
                        (try clear hb2)
                        (try clear hk)
                        (try clear hi)
                        refine hK.out _ _ trivial (fun hHeld => ?_)
                        clear hK K
                        refine norm_ (a' := ?_) ?_ ?_
                        rotate_left
                        · show Act.put _ (some 76) _ = _
                          simp only [Act.put, List.setIfInBounds_toArray, List.set_cons_zero, List.set_cons_succ, i64_w, i32_w]
                          rfl
                        refine pure_ (i := 11) (N := some 81) (v := ?_) (a' := ?_) #[true, true, true, true, true, true, true, true, true, true, true, true, false] rfl rfl (any_of HT_.out (by kernel_rfl)) (fun _ _ _ h => h) (Or.inl ⟨by rfl, ?_⟩) ?_ ?_
                        rotate_left
                        · intro w'
                          go_simp
                          with_reducible rfl
                        rotate_left
                        · simp only [Act.put, List.setIfInBounds_toArray, List.set_cons_zero, List.set_cons_succ, i64_w, i32_w]
                          rfl
                        refine pure_ (i := 12) (N := some 82) (v := ?_) (a' := ?_) #[true, true, true, true, true, true, true, true, true, true, true, true, true] rfl rfl (any_of HT_.out (by kernel_rfl)) (fun _ _ _ h => h) (Or.inl ⟨by rfl, ?_⟩) ?_ ?_
                        rotate_left
                        · intro w'
                          go_simp
                          with_reducible rfl
                        rotate_left
                        · simp only [Act.put, List.setIfInBounds_toArray, List.set_cons_zero, List.set_cons_succ, i64_w, i32_w]
                          rfl
                        refine done_ (done_of HT_.out (by kernel_rfl)) ?_
                        have hcz82_0 : w81.cell? ⟨gb178, 0, none⟩ = some (.slice none 0 0) := (blk_cell BK178.out 0).trans rfl
                        have hcz82_1 : w81.cell? ⟨gb178, 1, none⟩ = some (.int .i64 x179001_2) := (blk_cell BK178.out 1).trans rfl
                        have hcz82_2 : w81.cell? ⟨gb178, 2, none⟩ = some (.int .i64 x179002_2) := (blk_cell BK178.out 2).trans rfl
                        have hfz82_0 := blk_frozen BK178.out 0
                        have hfz82_1 := blk_frozen BK178.out 1
                        have hfz82_2 := blk_frozen BK178.out 2
                        try go_wp2
                        refine bodyPost_ret (results_cell_row rfl _ _ gb178 41 #[.slice none 0 0, .int .i64 0, .int .i64 3] (0, 0) _ rfl (by (with_reducible repeat (first | refine blk_drewN ?_ _ | refine blk_drew ?_ | refine blk_alloc ?_ _)); refine blk_put (cs := #[.slice none 0 0, .int .i64 0, .int .i64 x179002_2]) ?_ 2 _ rfl; (with_reducible repeat (first | refine blk_drewN ?_ _ | refine blk_drew ?_ | refine blk_alloc ?_ _)); refine blk_put (cs := #[.slice none 0 0, .int .i64 x179001_2, .int .i64 x179002_2]) ?_ 1 _ rfl; (with_reducible repeat (first | refine blk_drewN ?_ _ | refine blk_drew ?_ | refine blk_alloc ?_ _)); refine blk_put (cs := #[.slice none 0 0, .int .i64 x179001_2, .int .i64 x179002_2]) ?_ 0 _ rfl; (with_reducible repeat (first | refine blk_drewN ?_ _ | refine blk_drew ?_ | refine blk_alloc ?_ _)); exact BK178.out) Try.underlying41 rfl (by kernel_rfl)) rfl ?_
                        exact ⟨_, by first | rfl | (simp [errW_none, errW_some] <;> rfl) | (simp [*, errW_none, errW_some] <;> rfl), by first | exact Kd.R_nil _ _ _ _ _ | exact Kd.N_nil _ _ _ _ _ | exact Kd.V_nil _ _ _ _ _ | exact Kd.Q_nil _ _ _ _ _ | exact Kd.S_nil _ _ _ _ _, by repeat (first | (with_reducible first | exact HB.out | apply below_alloc | apply pw_below_drewN | apply below_drew1 | refine below_set ?_ GE178.out) | exact HB.out)⟩
                    · rw [if_neg c73] at H
                      exact absurd H (by simp)
                  · rw [if_neg c72] at H
                    exact absurd H (by simp)
                · rw [if_neg c71] at H
                  exact absurd H (by simp)
              · replace c69 := Bool.eq_false_iff.mpr c69
                subst c69
                have H1 : (some (([] : List Int), 0, 3)) = some (r1, r2, r3) := by rw [if_neg (show ¬ (false = true) by decide)] at H; exact H
                clear H
                have H := H1
                clear H1
                simp only [Option.some.injEq, Prod.mk.injEq] at H
                obtain ⟨rfl, rfl, rfl⟩ := H
                obtain ⟨Ao83, co83, eo83⟩ := Kd.R_slice HO_7.out
                subst eo83
                try go_wp2
                have n0_ := Aside0.mk (Kd.R_drew HO_7.out)
                have n1_ := Aside0.mk (blk_drew BK178.out)
                have n2_ := Aside0.mk (below_drew1 HB.out)
                clear HO_7
                clear BK178
                clear HB
                have HO_7 := n0_
                have BK178 := n1_
                have HB := n2_
                clear n0_ n1_ n2_
                refine start_ (n := 13) (S := fun w' => True) (ds := []) #[false, false, false, false, false, false, false, false, false, false, false, false, false] (by kernel_rfl) rfl rfl trivial (fun hHeld => ?_); refine with_tabW wringerref7_GetNorm.tab19 wringerref7_GetNorm.bits19 (fun HT_ HW_ => ?_)
                generalize wr.drew = w84 at HO_7 BK178 HB hHeld ⊢
                refine pure_ (i := 0) (N := some 70) (v := ?_) (a' := ?_) #[true, false, false, false, false, false, false, false, false, false, false, false, false] rfl rfl (any_of HT_.out (by kernel_rfl)) (fun _ _ _ h => h) (Or.inl ⟨by rfl, ?_⟩) ?_ ?_
                rotate_left
                · intro w'
                  go_simp
                  with_reducible rfl
                rotate_left
                · simp only [Act.put, List.setIfInBounds_toArray, List.set_cons_zero, List.set_cons_succ, i64_w, i32_w]
                  rfl
                refine pure_ (i := 1) (N := some 71) (v := ?_) (a' := ?_) #[true, true, false, false, false, false, false, false, false, false, false, false, false] rfl rfl (any_of HT_.out (by kernel_rfl)) (fun _ _ _ h => h) (Or.inl ⟨by rfl, ?_⟩) ?_ ?_
                rotate_left
                · intro w'
                  go_simp
                  with_reducible rfl
                rotate_left
                · simp only [Act.put, List.setIfInBounds_toArray, List.set_cons_zero, List.set_cons_succ, i64_w, i32_w]
                  rfl
                refine one_ (i := 2) (N := some 72) #[true, true, true, false, false, false, false, false, false, false, false, false, false] rfl rfl (one_of HT_.out (by kernel_rfl)) (by decide) (fun K hK => ?_)
                refine goes_ Try.func18 (by kernel_rfl) rfl #[.slice Ao83 x7_2.length co83, .int .i64 a2] (by rfl) rfl rfl (by (try simp only [List.map_toArray, List.map_cons, List.map_nil]); first | done | rfl | (simp only [List.length_drop, List.length_take]; rfl)) ?_
                with_reducible refine (wringerref7_MayNorm.calls k2 _ _ x7_2 a2 false _ ?side1 ?side2 A68.out).mono ?_
                (case side1 => repeat (first | exact (Kd.R_reads' HO_7.out).2.2 | (with_reducible refine Kd.C_alloc ?_ _) | (with_reducible refine Kd.C_drewN ?_ _) | (with_reducible refine Kd.C_drew ?_)))
                (case side2 => exact (Kd.R_reads' HO_7.out).2.1)
                rintro e w' ⟨rfl, ⟨nd, rfl⟩⟩
                refine ⟨_, rfl, ?_⟩
                refine hK.out _ _ trivial (fun hHeld => ?_)
                clear hK K
                refine norm_ (a' := ?_) ?_ ?_
                rotate_left
                · show Act.put _ (some 72) _ = _
                  simp only [Act.put, List.setIfInBounds_toArray, List.set_cons_zero, List.set_cons_succ, i64_w, i32_w]
                  rfl
                refine pure_ (i := 3) (N := some 73) (v := ?_) (a' := ?_) #[true, true, true, true, false, false, false, false, false, false, false, false, false] rfl rfl (any_of HT_.out (by kernel_rfl)) (fun _ _ _ h => h) (Or.inl ⟨by rfl, ?_⟩) ?_ ?_
                rotate_left
                · intro w'
                  go_simp
                  with_reducible rfl
                rotate_left
                · simp only [Act.put, List.setIfInBounds_toArray, List.set_cons_zero, List.set_cons_succ, i64_w, i32_w]
                  rfl
                refine pure_ (i := 4) (N := some 74) (v := ?_) (a' := ?_) #[true, true, true, true, true, false, false, false, false, false, false, false, false] rfl rfl (any_of HT_.out (by kernel_rfl)) (fun _ _ _ h => h) (Or.inl ⟨by rfl, ?_⟩) ?_ ?_
                rotate_left
                · intro w'
                  go_simp
                  with_reducible rfl
                rotate_left
                · simp only [Act.put, List.setIfInBounds_toArray, List.set_cons_zero, List.set_cons_succ, i64_w, i32_w]
                  rfl
                refine pure_ (i := 5) (N := some 75) (v := undef) (a' := ?_) #[true, true, true, true, true, true, false, false, false, false, false, false, false] rfl rfl (any_of HT_.out (by kernel_rfl)) (fun _ _ _ h => h) (Or.inr ⟨by rfl, rfl⟩) ?_ ?_
                rotate_left
                · simp only [Act.put, List.setIfInBounds_toArray, List.set_cons_zero, List.set_cons_succ, i64_w, i32_w]
                  rfl
                refine pure_ (i := 6) (N := some 76) (v := undef) (a' := ?_) #[true, true, true, true, true, true, true, false, false, false, false, false, false] rfl rfl (any_of HT_.out (by kernel_rfl)) (fun _ _ _ h => h) (Or.inr ⟨by rfl, rfl⟩) ?_ ?_
                rotate_left
                · simp only [Act.put, List.setIfInBounds_toArray, List.set_cons_zero, List.set_cons_succ, i64_w, i32_w]
                  rfl
                refine pure_ (i := 7) (N := some 77) (v := undef) (a' := ?_) #[true, true, true, true, true, true, true, true, false, false, false, false, false] rfl rfl (any_of HT_.out (by kernel_rfl)) (fun _ _ _ h => h) (Or.inr ⟨by rfl, rfl⟩) ?_ ?_
                rotate_left
                · simp only [Act.put, List.setIfInBounds_toArray, List.set_cons_zero, List.set_cons_succ, i64_w, i32_w]
                  rfl
                refine pure_ (i := 8) (N := some 78) (v := undef) (a' := ?_) #[true, true, true, true, true, true, true, true, true, false, false, false, false] rfl rfl (any_of HT_.out (by kernel_rfl)) (fun _ _ _ h => h) (Or.inr ⟨by rfl, rfl⟩) ?_ ?_
                rotate_left
                · simp only [Act.put, List.setIfInBounds_toArray, List.set_cons_zero, List.set_cons_succ, i64_w, i32_w]
                  rfl
                refine pure_ (i := 9) (N := some 79) (v := undef) (a' := ?_) #[true, true, true, true, true, true, true, true, true, true, false, false, false] rfl rfl (any_of HT_.out (by kernel_rfl)) (fun _ _ _ h => h) (Or.inr ⟨by rfl, rfl⟩) ?_ ?_
                rotate_left
                · simp only [Act.put, List.setIfInBounds_toArray, List.set_cons_zero, List.set_cons_succ, i64_w, i32_w]
                  rfl
                refine pure_ (i := 10) (N := some 80) (v := undef) (a' := ?_) #[true, true, true, true, true, true, true, true, true, true, true, false, false] rfl rfl (any_of HT_.out (by kernel_rfl)) (fun _ _ _ h => h) (Or.inr ⟨by rfl, rfl⟩) ?_ ?_
                rotate_left
                · simp only [Act.put, List.setIfInBounds_toArray, List.set_cons_zero, List.set_cons_succ, i64_w, i32_w]
                  rfl
                refine pure_ (i := 11) (N := some 81) (v := undef) (a' := ?_) #[true, true, true, true, true, true, true, true, true, true, true, true, false] rfl rfl (any_of HT_.out (by kernel_rfl)) (fun _ _ _ h => h) (Or.inr ⟨by rfl, rfl⟩) ?_ ?_
                rotate_left
                · simp only [Act.put, List.setIfInBounds_toArray, List.set_cons_zero, List.set_cons_succ, i64_w, i32_w]
                  rfl
                refine pure_ (i := 12) (N := some 82) (v := ?_) (a' := ?_) #[true, true, true, true, true, true, true, true, true, true, true, true, true] rfl rfl (any_of HT_.out (by kernel_rfl)) (fun _ _ _ h => h) (Or.inl ⟨by rfl, ?_⟩) ?_ ?_
                rotate_left
                · intro w'
                  go_simp
                  with_reducible rfl
                rotate_left
                · simp only [Act.put, List.setIfInBounds_toArray, List.set_cons_zero, List.set_cons_succ, i64_w, i32_w]
                  rfl
                refine done_ (done_of HT_.out (by kernel_rfl)) ?_
                have hcz85_0 : w84.cell? ⟨gb178, 0, none⟩ = some (.slice none 0 0) := (blk_cell BK178.out 0).trans rfl
                have hcz85_1 : w84.cell? ⟨gb178, 1, none⟩ = some (.int .i64 x179001_2) := (blk_cell BK178.out 1).trans rfl
                have hcz85_2 : w84.cell? ⟨gb178, 2, none⟩ = some (.int .i64 x179002_2) := (blk_cell BK178.out 2).trans rfl
                have hfz85_0 := blk_frozen BK178.out 0
                have hfz85_1 := blk_frozen BK178.out 1
                have hfz85_2 := blk_frozen BK178.out 2
                try go_wp2
                refine bodyPost_ret (results_cell_row rfl _ _ gb178 41 #[.slice none 0 0, .int .i64 0, .int .i64 3] (0, 0) _ rfl (by (with_reducible repeat (first | refine blk_drewN ?_ _ | refine blk_drew ?_ | refine blk_alloc ?_ _)); refine blk_put (cs := #[.slice none 0 0, .int .i64 0, .int .i64 x179002_2]) ?_ 2 _ rfl; (with_reducible repeat (first | refine blk_drewN ?_ _ | refine blk_drew ?_ | refine blk_alloc ?_ _)); refine blk_put (cs := #[.slice none 0 0, .int .i64 x179001_2, .int .i64 x179002_2]) ?_ 1 _ rfl; (with_reducible repeat (first | refine blk_drewN ?_ _ | refine blk_drew ?_ | refine blk_alloc ?_ _)); refine blk_put (cs := #[.slice none 0 0, .int .i64 x179001_2, .int .i64 x179002_2]) ?_ 0 _ rfl; (with_reducible repeat (first | refine blk_drewN ?_ _ | refine blk_drew ?_ | refine blk_alloc ?_ _)); exact BK178.out) Try.underlying41 rfl (by kernel_rfl)) rfl ?_
                exact ⟨_, by first | rfl | (simp [errW_none, errW_some] <;> rfl) | (simp [*, errW_none, errW_some] <;> rfl), by first | exact Kd.R_nil _ _ _ _ _ | exact Kd.N_nil _ _ _ _ _ | exact Kd.V_nil _ _ _ _ _ | exact Kd.Q_nil _ _ _ _ _ | exact Kd.S_nil _ _ _ _ _, by repeat (first | (with_reducible first | exact HB.out | apply below_alloc | apply pw_below_drewN | apply below_drew1 | refine below_set ?_ GE178.out) | exact HB.out)⟩

end Go.Proofs.Ytbldocbijihpgaa.PA

-- ---- Ui
/- The document's numbers of a sum in bytes: what the print's functions come to. No program in sight. -/
namespace Go.Proofs.Ytbldocbijihpgaa.PA
set_option linter.unusedVariables false
set_option linter.unusedSimpArgs false
open Go.RowKit Go.Proofs.YtbldocbijihpgaaW.PrintWords Go.Proofs.YtbldocbijihpgaaW.PrintLast Go.Proofs.YtbldocbijihpgaaW.PrintMore Vt Np

theorem dropI (l : List Int) (i : Nat) (h : i < l.length) : l.drop i = l.getD i 0 :: l.drop (i + 1) := by
  rw [List.drop_eq_getElem_cons h]; simp [List.getD_eq_getElem?_getD, h]
theorem u64_nat (n : Nat) (h : n < 18446744073709551616) : IntKind.u64.wrap (n : Int) = (n : Int) := by rw [IntKind.wrap_u64]; omega
theorem w_sub1 (j : Nat) (h1 : 1 ≤ j) (h2 : j < 4611686018427387904) : wrap64 ((j : Int) - 1) = ((j - 1 : Nat) : Int) := by rw [w64 (by omega) (by omega)]; omega
/-- Within a row of noughts. -/
theorem putn_l1 (l : List Int) (hl : l.length ≤ 100000) : ∀ (d i j : Nat) (done : List Nat), i + d = l.length → j ≤ i + 1 → 1 ≤ j + runZ (l.drop i) → done.length ≤ 10000000 →
    (∀ j2, j2 = j + runZ (l.drop i) - 1 → Ev (fun k => wringerref7_PutNorm.l0 k l (txt (done ++ putV j2)) ((i + runZ (l.drop i) : Nat) : Int)) (txt (done ++ putV j2 ++ nputL (l.drop (i + runZ (l.drop i)))))) →
    Ev (fun k => wringerref7_PutNorm.l1 k l (txt done) (i : Int) (j : Int)) (txt (done ++ putV (j + runZ (l.drop i) - 1) ++ nputL (l.drop (i + runZ (l.drop i))))) := by
  intro d
  induction d with
  | zero =>
    intro i j done hi hj h1 hdl hn
    have hd : l.drop i = [] := List.drop_eq_nil_of_le (by omega)
    have hr : runZ (l.drop i) = 0 := by rw [hd]; rfl
    rw [hr] at h1 hn ⊢
    have hn := hn _ rfl
    rw [Nat.add_zero, Nat.add_zero] at *
    have hv := rvput_is (j - 1) (by omega)
    have hvl := putV_len64 (j - 1) (by omega)
    have hsz : (txt done).size + (txt (putV (j - 1))).size ≤ 9223372036854775807 := by rw [size_txt, size_txt]; omega
    rw [txt_append] at hn
    refine Ev.step (f := fun k => (wringerref1_PutVint.f k ((j - 1 : Nat) : Int)).bind fun t => (if (txt done).size + t.size ≤ 9223372036854775807 then wringerref7_PutNorm.l0 k l (txt done ++ t) (i : Int) else none)) (fun k => ?_) (Ev.bind hv (Ev.ite_pos hsz hn))
    simp only [wringerref7_PutNorm.l1]
    rw [if_neg (by omega), w_sub1 j (by omega) (by omega), u64_nat _ (by omega)]
  | succ d ih =>
    intro i j done hi hj h1 hdl hn
    have hil : i < l.length := by omega
    have hd := dropI l i hil
    by_cases h0 : l.getD i 0 = 0
    · have hr : runZ (l.drop i) = runZ (l.drop (i + 1)) + 1 := by rw [hd, h0]; simp [runZ]
      rw [hr] at h1 hn ⊢
      have e1 : j + (runZ (l.drop (i + 1)) + 1) - 1 = (j + 1) + runZ (l.drop (i + 1)) - 1 := by omega
      have e2 : i + (runZ (l.drop (i + 1)) + 1) = (i + 1) + runZ (l.drop (i + 1)) := by omega
      rw [e1, e2]
      refine Ev.step (f := fun k => wringerref7_PutNorm.l1 k l (txt done) ((i + 1 : Nat) : Int) ((j + 1 : Nat) : Int)) (fun k => ?_) (ih (i + 1) (j + 1) done (by omega) (by omega) (by omega) hdl (fun j2 hj2 => by
        have h := hn j2 (by omega)
        rw [e2] at h; exact h))
      simp only [wringerref7_PutNorm.l1, rd_nat]
      rw [if_pos (by omega), if_pos (by omega), if_pos h0, w_succ i (by omega), w_succ j (by omega)]
    · have hr : runZ (l.drop i) = 0 := by rw [hd]; simp only [runZ]; rw [if_neg h0]
      rw [hr] at h1 hn ⊢
      have hn := hn _ rfl
      rw [Nat.add_zero, Nat.add_zero] at *
      have hv := rvput_is (j - 1) (by omega)
      have hvl := putV_len64 (j - 1) (by omega)
      have hsz : (txt done).size + (txt (putV (j - 1))).size ≤ 9223372036854775807 := by rw [size_txt, size_txt]; omega
      rw [txt_append] at hn
      refine Ev.step (f := fun k => (wringerref1_PutVint.f k ((j - 1 : Nat) : Int)).bind fun t => (if (txt done).size + t.size ≤ 9223372036854775807 then wringerref7_PutNorm.l0 k l (txt done ++ t) (i : Int) else none)) (fun k => ?_) (Ev.bind hv (Ev.ite_pos hsz hn))
      simp only [wringerref7_PutNorm.l1, rd_nat]
      rw [if_pos (by omega), if_pos (by omega), if_neg h0, w_sub1 j (by omega) (by omega), u64_nat _ (by omega)]
theorem putn_l0 (l : List Int) (hl : l.length ≤ 100000) (hnn : ∀ x ∈ l, 0 ≤ x ∧ x < 9223372036854775808) : ∀ (d i : Nat) (done : List Nat), l.length - i ≤ d → i ≤ l.length → done.length ≤ 30 * i →
    Ev (fun k => wringerref7_PutNorm.l0 k l (txt done) (i : Int)) (txt (done ++ nputL (l.drop i))) := by
  intro d
  induction d with
  | zero =>
    intro i done hd hi hdl
    refine Ev.step (f := fun _ => some (txt done)) (fun k => by simp only [wringerref7_PutNorm.l0]; rw [if_neg (by omega)]) (Ev.ofSome ?_)
    rw [List.drop_eq_nil_of_le (by omega), nputL_nil, List.append_nil]
  | succ d ih =>
    intro i done hd hi hdl
    by_cases hil : i < l.length
    · have hdr := dropI l i hil
      have hy := hnn (l.getD i 0) (by simp [List.getD_eq_getElem?_getD, hil])
      obtain ⟨y, hye⟩ : ∃ y : Nat, l.getD i 0 = (y : Int) := ⟨(l.getD i 0).toNat, by omega⟩
      rw [hye] at hdr hy
      have hv := rvput_is y (by omega)
      have hvl := putV_len64 y (by omega)
      have hsz : (txt done).size + (txt (putV y)).size ≤ 9223372036854775807 := by rw [size_txt, size_txt]; omega
      by_cases hy0 : y = 0
      · subst hy0
        have hr : runZ (l.drop i) = runZ (l.drop (i + 1)) + 1 := by rw [hdr]; simp [runZ]
        have hrl := runZ_le (l.drop (i + 1))
        rw [List.length_drop] at hrl
        have h0 := congrArg List.length (putV_lt (show 0 < 128 by decide))
        simp only [List.length_singleton] at h0
        have e : txt (done ++ nputL (l.drop i)) = txt (done ++ putV 0 ++ putV (0 + runZ (l.drop i) - 1) ++ nputL (l.drop (i + runZ (l.drop i)))) := by
          rw [hr, hdr, show ((0 : Nat) : Int) = 0 from rfl, nputL_zero, show 0 + (runZ (l.drop (i + 1)) + 1) - 1 = runZ (l.drop (i + 1)) by omega, List.drop_drop, show i + (runZ (l.drop (i + 1)) + 1) = i + 1 + runZ (l.drop (i + 1)) by omega, putV_lt (show 0 < 128 by decide)]
          simp
        rw [e]
        have hl1 := putn_l1 l hl (l.length - i) i 0 (done ++ putV 0) (by omega) (by omega) (by omega) (by rw [List.length_append, h0]; omega) (fun j2 hj2 => by
          have hj2l := putV_len64 j2 (by omega)
          refine ih (i + runZ (l.drop i)) (done ++ putV 0 ++ putV j2) (by omega) (by omega) ?_
          rw [List.length_append, List.length_append, h0]; omega)
        rw [txt_append done] at hl1
        refine Ev.step (f := fun k => (wringerref1_PutVint.f k ((0 : Nat) : Int)).bind fun t => (if (txt done).size + t.size ≤ 9223372036854775807 then wringerref7_PutNorm.l1 k l (txt done ++ t) (i : Int) ((0 : Nat) : Int) else none)) (fun k => ?_) (Ev.bind hv (Ev.ite_pos hsz hl1))
        simp only [wringerref7_PutNorm.l0, rd_nat, hye]
        rw [if_pos (by omega), if_pos (by omega), u64_nat 0 (by decide)]; rfl
      · have e : txt (done ++ nputL (l.drop i)) = txt (done ++ putV y ++ nputL (l.drop (i + 1))) := by
          rw [hdr, nputL_pos _ _ (by omega), Int.toNat_natCast]; simp
        rw [e]
        have hn := ih (i + 1) (done ++ putV y) (by omega) (by omega) (by rw [List.length_append]; omega)
        rw [txt_append done] at hn
        refine Ev.step (f := fun k => (wringerref1_PutVint.f k (y : Int)).bind fun t => (if (txt done).size + t.size ≤ 9223372036854775807 then wringerref7_PutNorm.l0 k l (txt done ++ t) ((i + 1 : Nat) : Int) else none)) (fun k => ?_) (Ev.bind hv (Ev.ite_pos hsz hn))
        simp only [wringerref7_PutNorm.l0, rd_nat, hye]
        have hyz : ¬ (y : Int) = 0 := by omega
        simp only [hyz, if_false]
        rw [if_pos (by omega), if_pos (by omega), u64_nat y (by omega), w_succ i (by omega)]
    · refine Ev.step (f := fun _ => some (txt done)) (fun k => by simp only [wringerref7_PutNorm.l0]; rw [if_neg (by omega)]) (Ev.ofSome ?_)
      rw [List.drop_eq_nil_of_le (by omega), nputL_nil, List.append_nil]
theorem putnorm_is (l : List Int) (hl : l.length ≤ 100000) (hnn : ∀ x ∈ l, 0 ≤ x ∧ x < 9223372036854775808) : Ev (fun k => wringerref7_PutNorm.f k l) (txt (nputL l)) := by
  have := putn_l0 l hl hnn l.length 0 [] (by omega) (by omega) (by simp)
  simpa [wringerref7_PutNorm.f, txt] using this

/-- Longer than may be. -/
theorem getn_long (s : ByteArray) (m : Int) (lg : Int) (acc : List Int) (k : Int) (h : 65 < acc.length) (hb : acc.length < 1000000) : Ev (fun j => wringerref7_GetNorm.l0 j s m lg acc k) ([], 0, 3) := by
  have hm : Sp.mayN acc lg = false := by unfold Sp.mayN; rw [decide_eq_false_iff_not]; rintro ⟨_, _, h1, _⟩; omega
  have hr := rmay_is acc lg
  rw [hm] at hr
  refine Ev.step (f := fun j => (wringerref7_MayNorm.f j acc lg).bind fun t194 => (if t194 = true then ((wringerref7_PutNorm.f j acc).bind fun t195 => (if 0 ≤ m then (if m ≤ k then (if k ≤ (s.size : Int) then (if t195.toList = (s.extract m.toNat k.toNat).toList then (some (acc, k, 0)) else (some (([] : List Int), 0, 3))) else (none)) else (none)) else (none))) else (some (([] : List Int), 0, 3)))) (fun j => ?_) (Ev.bind hr (Ev.ite_neg (by simp) (Ev.now _)))
  simp only [wringerref7_GetNorm.l0]
  rw [if_neg (by omega)]
theorem mn_cap (n : Nat) : wrap64 (mn (n : Int) 1048576) = min (n : Int) 1048576 := by rw [mn_min, w64 (by omega) (by omega)]
def gBody2 (k : Nat) (x0 : ByteArray) (x1 x2 : Int) (x7 : List Int) (c : Int × Int × Int) : Option (List Int × Int × Int) :=
  if c.2.2 = 0 then (if c.1 ≥ 65 then some ([], 0, 3) else (if 0 ≤ (IntKind.u64.wrap (c.1 + 1)) then (if x7.length + (IntKind.u64.wrap (c.1 + 1) : Int).toNat < 17592186044416 then wringerref7_GetNorm.l0 k x0 x1 x2 (x7 ++ List.replicate (IntKind.u64.wrap (c.1 + 1) : Int).toNat 0) c.2.1 else none) else none)) else some ([], 0, c.2.2)
def gBody (k : Nat) (x0 : ByteArray) (x1 x2 : Int) (x7 : List Int) (b : Int × Int × Int) : Option (List Int × Int × Int) :=
  if b.2.2 = 0 then (if b.1 > 0 then (if x7.length < 17592186044416 then wringerref7_GetNorm.l0 k x0 x1 x2 (x7 ++ [wrap64 (mn b.1 1048576)]) b.2.1 else none) else (wringerref1_GetVint.f k x0 b.2.1).bind fun c => gBody2 k x0 x1 x2 x7 c) else some ([], 0, b.2.2)
theorem getn_step (k : Nat) (x0 : ByteArray) (x1 x2 : Int) (x7 : List Int) (x8 : Int) (h : (x7.length : Int) < 65) : wringerref7_GetNorm.l0 (k + 1) x0 x1 x2 x7 x8 = (wringerref1_GetVint.f k x0 x8).bind fun b => gBody k x0 x1 x2 x7 b := by
  simp only [wringerref7_GetNorm.l0]
  rw [if_pos h]; rfl
theorem finN_err (s : ByteArray) (m : Nat) (a : Int) (e : Nat) (h : e ≠ 0) : finN s m a ([], 0, e) = ([], 0, (e : Int)) := by unfold finN; rw [if_pos h]
theorem parN_rnd (bs : List Nat) (f k : Nat) (acc : List Int) (h : acc.length < 65) (r : Nat × Nat × Nat) (hr : r = goV 10 true (bs.drop k)) : parN bs (f + 1) k acc =
    if r.2.2 ≠ 0 then ([], 0, r.2.2) else if 0 < r.1 then parN bs f (k + r.2.1) (acc ++ [(r.1 : Int)])
    else if (goV 10 true (bs.drop (k + r.2.1))).2.2 ≠ 0 then ([], 0, (goV 10 true (bs.drop (k + r.2.1))).2.2)
    else if 65 < acc.length + (goV 10 true (bs.drop (k + r.2.1))).1 + 1 then ([], 0, 3)
    else parN bs f (k + r.2.1 + (goV 10 true (bs.drop (k + r.2.1))).2.1) (acc ++ List.replicate ((goV 10 true (bs.drop (k + r.2.1))).1 + 1) 0) := by
  subst hr
  rw [parN, if_neg (by omega)]
theorem u64_succ (n : Nat) (h : n < 65) : IntKind.u64.wrap ((n : Int) + 1) = ((n + 1 : Nat) : Int) := by rw [IntKind.wrap_u64]; omega
theorem getn_l0 (s : ByteArray) (m : Nat) (lg : Int) (hs : s.size ≤ 1000000000) : ∀ (f k : Nat) (acc : List Int), m ≤ k → k ≤ s.size → 66 ≤ f + acc.length → 1 ≤ f → acc.length ≤ 65 → (∀ x ∈ acc, 0 ≤ x) →
    Ev (fun j => wringerref7_GetNorm.l0 j s (m : Int) lg (capL 1048576 acc) (k : Int)) (finN s m lg (parN (bsOf s) f k acc)) := by
  intro f
  induction f with
  | zero => intro k acc _ _ _ h; omega
  | succ f ih =>
    intro k acc hmk hks hf _ hal hnn
    have hcl := capL_length 1048576 acc
    by_cases h65 : acc.length < 65
    · obtain ⟨r, hr⟩ : ∃ r, r = goV 10 true ((bsOf s).drop k) := ⟨_, rfl⟩
      have hg := rgetv_is s (k : Int) (by omega)
      rw [vgetE_res s k hks, ← hr] at hg
      have herr := goV_err 10 true ((bsOf s).drop k)
      have hsz := goV_size 10 true ((bsOf s).drop k)
      have hbd := goV_bound 9 true ((bsOf s).drop k)
      rw [← hr] at herr hsz hbd
      rw [List.length_drop, length_bsOf] at hsz
      have hp := parN_rnd (bsOf s) f k acc h65 r hr
      obtain ⟨q1, q2, q3⟩ := r
      simp only at hp herr hsz hbd
      rw [hp]
      refine Ev.step (f := fun j => (wringerref1_GetVint.f j s (k : Int)).bind fun b => gBody j s (m : Int) lg (capL 1048576 acc) b) (fun j => getn_step j _ _ _ _ _ (by omega)) (Ev.bind hg ?_)
      clear hg hp
      by_cases h3 : q3 = 0
      · subst h3
        obtain ⟨z1, z2, z3⟩ := hsz rfl
        have hres : resV k (q1, q2, 0) = ((q1 : Int), ((k + q2 : Nat) : Int), 0) := by unfold resV; rw [if_pos rfl]; rfl
        rw [hres, if_neg (by simp)]
        by_cases hq : 0 < q1
        · rw [if_pos hq]
          have hn := ih (k + q2) (acc ++ [(q1 : Int)]) (by omega) (by omega) (by rw [List.length_append, List.length_singleton]; omega) (by omega) (by rw [List.length_append, List.length_singleton]; omega) (fun x hx => by
            rcases List.mem_append.1 hx with h | h
            · exact hnn x h
            · simp at h; omega)
          rw [capL_snoc, ← mn_cap] at hn
          unfold gBody
          exact Ev.ite_pos rfl (Ev.ite_pos (by simpa using hq) (Ev.ite_pos (by rw [hcl]; omega) hn))
        · have hq0 : q1 = 0 := by omega
          subst hq0
          rw [if_neg hq]
          unfold gBody
          refine Ev.ite_pos rfl (Ev.ite_neg (by simp) ?_)
          obtain ⟨r, hr2⟩ : ∃ r, r = goV 10 true ((bsOf s).drop (k + q2)) := ⟨_, rfl⟩
          have hg2 := rgetv_is s ((k + q2 : Nat) : Int) (by omega)
          rw [vgetE_res s (k + q2) (by omega), ← hr2] at hg2
          have herr2 := goV_err 10 true ((bsOf s).drop (k + q2))
          have hsz2 := goV_size 10 true ((bsOf s).drop (k + q2))
          rw [← hr2] at herr2 hsz2 ⊢
          rw [List.length_drop, length_bsOf] at hsz2
          obtain ⟨p1, p2, p3⟩ := r
          simp only at herr2 hsz2 ⊢
          refine Ev.bind hg2 ?_
          clear hg2
          by_cases h3b : p3 = 0
          · subst h3b
            obtain ⟨y1, y2, y3⟩ := hsz2 rfl
            have hres2 : resV (k + q2) (p1, p2, 0) = ((p1 : Int), ((k + q2 + p2 : Nat) : Int), 0) := by unfold resV; rw [if_pos rfl]; rfl
            rw [hres2, if_neg (by simp)]
            unfold gBody2
            refine Ev.ite_pos rfl ?_
            by_cases hp65 : 65 ≤ p1
            · rw [if_pos (by omega), finN_err _ _ _ _ (by decide)]
              exact Ev.ite_pos (by omega) (Ev.now _)
            · refine Ev.ite_neg (by omega) ?_
              have hw := u64_succ p1 (by omega)
              have ht : (((p1 : Int), ((k + q2 + p2 : Nat) : Int), (0 : Int)).1 + 1) = (p1 : Int) + 1 := rfl
              rw [ht, hw, Int.toNat_natCast]
              refine Ev.ite_pos (by omega) (Ev.ite_pos (by rw [hcl]; omega) ?_)
              by_cases hbig : 65 < acc.length + p1 + 1
              · rw [if_pos hbig, finN_err _ _ _ _ (by decide)]
                exact getn_long s _ lg _ _ (by rw [List.length_append, hcl, List.length_replicate]; omega) (by rw [List.length_append, hcl, List.length_replicate]; omega)
              · rw [if_neg hbig]
                have hn := ih (k + q2 + p2) (acc ++ List.replicate (p1 + 1) 0) (by omega) (by omega) (by rw [List.length_append, List.length_replicate]; omega) (by omega) (by rw [List.length_append, List.length_replicate]; omega) (fun x hx => by
                  rcases List.mem_append.1 hx with h | h
                  · exact hnn x h
                  · have := (List.mem_replicate.1 h).2; omega)
                rw [capL_zeros _ _ _ (by omega)] at hn
                exact hn
          · have hres2 : resV (k + q2) (p1, p2, p3) = (0, 0, (p3 : Int)) := by unfold resV; rw [if_neg h3b]
            rw [hres2, if_pos h3b, finN_err _ _ _ _ h3b]
            unfold gBody2
            exact Ev.ite_neg (by simpa using h3b) (Ev.now _)
      · have hres : resV k (q1, q2, q3) = (0, 0, (q3 : Int)) := by unfold resV; rw [if_neg h3]
        rw [hres, if_pos h3, finN_err _ _ _ _ h3]
        unfold gBody
        exact Ev.ite_neg (by simpa using h3) (Ev.now _)
    · have hacc65 : acc.length = 65 := by omega
      have hpe : parN (bsOf s) (f + 1) k acc = (acc, k, 0) := by rw [parN, if_pos (by omega)]
      rw [hpe]
      have hm := rmay_is (capL 1048576 acc) lg
      rw [capL_may 1048576 acc lg (by omega)] at hm
      refine Ev.step (f := fun j => (wringerref7_MayNorm.f j (capL 1048576 acc) lg).bind fun t194 => (if t194 = true then ((wringerref7_PutNorm.f j (capL 1048576 acc)).bind fun t195 => (if t195.toList = (s.extract m k).toList then (some (capL 1048576 acc, (k : Int), 0)) else (some (([] : List Int), 0, 3)))) else (some (([] : List Int), 0, 3)))) (fun j => ?_) (Ev.bind hm ?_)
      · simp only [wringerref7_GetNorm.l0]
        have g1 : (0 : Int) ≤ (m : Int) := by omega
        have g2 : (m : Int) ≤ (k : Int) := by omega
        have g3 : (k : Int) ≤ (s.size : Int) := by omega
        rw [if_neg (by omega)]
        simp only [g1, g2, g3, if_true, Int.toNat_natCast]
      · unfold finN
        rw [if_neg (by simp)]
        cases hml : Sp.mayN acc lg with
        | false => rw [if_neg (by simp [hml])]; exact Ev.ite_neg (by simp) (Ev.now _)
        | true =>
          have hid := capL_of_may 1048576 acc lg (by omega) hml
          rw [hid]
          have hrange : ∀ x ∈ acc, 0 ≤ x ∧ x < 9223372036854775808 := fun x hx => by
            rw [← hid] at hx
            obtain ⟨y, hy, rfl⟩ := List.mem_map.1 hx
            have := hnn y hy
            omega
          refine Ev.ite_pos rfl (Ev.bind (putnorm_is acc (by omega) hrange) ?_)
          have hq : (txt (nputL acc)).toList = (s.extract m k).toList ↔ nputL acc = ((bsOf s).take k).drop m := by
            rw [toList_injV]
            constructor
            · intro h
              have := congrArg bsOf h
              rwa [bsOf_txt _ (nputL_byte acc), bsOf_extract] at this
            · intro h
              apply bsOf_inj
              rw [bsOf_txt _ (nputL_byte acc), bsOf_extract, h]
          by_cases heq : nputL acc = ((bsOf s).take k).drop m
          · exact Ev.ite_pos (hq.2 heq) (Ev.ofSome (by rw [if_pos ⟨rfl, heq⟩]))
          · exact Ev.ite_neg (fun h => heq (hq.1 h)) (Ev.ofSome (by rw [if_neg (fun h => heq h.2)]))
theorem getnorm_is (s : ByteArray) (a lg : Int) (hs : s.size ≤ 1000000000) : Ev (fun k => wringerref7_GetNorm.f k s a lg) (getNE s a lg) := by
  unfold wringerref7_GetNorm.f
  have bad : Ev (fun k => wringerref7_GetNorm.j0 k s a lg true) ([], 0, 1) := Ev.step (f := fun _ => some ([], 0, 1)) (fun k => by simp only [wringerref7_GetNorm.j0]; rfl) (Ev.now _)
  by_cases h0 : a < 0
  · have e : getNE s a lg = ([], 0, 1) := by unfold getNE; rw [if_pos (.inl h0)]
    rw [e]; exact Ev.ite_pos h0 bad
  · refine Ev.ite_neg h0 ?_
    by_cases h1 : a > (s.size : Int)
    · have e : getNE s a lg = ([], 0, 1) := by unfold getNE; rw [if_pos (.inr (.inl h1))]
      rw [e]; exact Ev.ite_pos h1 bad
    · refine Ev.ite_neg h1 (Ev.bind0 (isLog_is lg) ?_)
      by_cases h2 : 7 ≤ lg ∧ lg ≤ 12
      · obtain ⟨m, rfl⟩ := Int.eq_ofNat_of_zero_le (show 0 ≤ a by omega)
        rw [decide_eq_true h2]
        have e : getNE s (m : Int) lg = finN s m lg (parN (bsOf s) 66 m []) := by unfold getNE; rw [if_neg (by omega), Int.toNat_natCast]
        rw [e]
        refine Ev.step (f := fun k => wringerref7_GetNorm.l0 k s (m : Int) lg (capL 1048576 []) (m : Int)) (fun k => ?_) (getn_l0 s m lg hs 66 m [] (Nat.le_refl _) (by omega) (by simp) (by omega) (by simp) (fun x hx => by simp at hx))
        simp only [wringerref7_GetNorm.j0]; rfl
      · rw [decide_eq_false h2]
        have e : getNE s a lg = ([], 0, 1) := by unfold getNE; rw [if_pos (.inr (.inr h2))]
        rw [e]; exact bad
end Go.Proofs.Ytbldocbijihpgaa.PA

-- ---- PAx27
/- norm.Put: what the call answers, for numbers from nought on. Conditions: those, and a bound on how many. -/
namespace Go.Proofs.Ytbldocbijihpgaa.PA
open Go.RowKit Go.Proofs.YtbldocbijihpgaaW.PrintWords Go.Proofs.YtbldocbijihpgaaW.PrintLast Go.Proofs.YtbldocbijihpgaaW.PrintMore
set_option linter.unusedVariables false
set_option linter.unusedSimpArgs false

def norm_Put.f (l0 : List Int) : Option (ByteArray) := if (∀ x ∈ l0, 0 ≤ x ∧ x < 9223372036854775808) ∧ l0.length ≤ 100000 then some (Np.txt (Np.nputL l0)) else none
theorem norm_Put.calls (A0 : Option Addr) (c0 : Nat) (l0 : List Int) (r : ByteArray) (w : World) (hr0 : Kd.C (Kd.int .i64) w A0 l0.length l0) (hc0 : l0.length ≤ c0) (h : norm_Put.f l0 = some r) :
    Calls Try.prog 19 #[.slice A0 l0.length c0] w fun e w' => e = .returned (.string r) ∧ Below w.heap.size w w' := by
  unfold norm_Put.f at h
  split at h
  · rename_i hg
    cases h
    exact NormP.nput_calls A0 c0 l0 w hr0 hc0 hg.1 hg.2
  · cases h
end Go.Proofs.Ytbldocbijihpgaa.PA

-- ---- NormAll
/- NormAll: what any frequencies are normed to, whether any numbers may be, their bytes, what any bytes say, or the errors, are the document's: what the call answers, for every input. Conditions: the lists read as the arguments do. -/
namespace Go.Proofs.Ytbldocbijihpgaa
set_option linter.unusedSimpArgs false
set_option linter.unusedVariables false
open Go.RowKit Mix _root_.Go.Proofs.Ytbldocbijihpgaa.Own PA Nl Sp Go.Proofs.YtbldocbijihpgaaW.PrintWords
attribute [local go_sem] Own.max_int Own.min_int

theorem normO_E (l : List Int) (a : Int) : normE l a = normO l a := rfl
theorem normO_len (l : List Int) (a : Int) : (normO l a).1.length ≤ 65 := by
  unfold normO
  split
  · rename_i h
    have hp := Nat.pow_le_pow_right (show 0 < 2 by decide) (show 7 ≤ a.toNat by omega)
    rw [((frB_iff l).1 h.1).norm_len (by omega)]; exact Nat.le_refl _
  · simp
def nnB (x : Int) : Bool := decide (0 ≤ x)
theorem nnB_all (l : List Int) (h : l.all nnB = true) : ∀ x ∈ l, 0 ≤ x := fun x hx => of_decide_eq_true (List.all_eq_true.1 h x hx)
set_option maxRecDepth 20000 in
set_option maxHeartbeats 200000000 in
theorem all_calls (A0 : Option Addr) (c0 : Nat) (l0 : List Int) (A1 : Option Addr) (c1 : Nat) (l1 : List Int) (a2 : Int) (a3 : ByteArray) (a4 : Int) (w : World) (h0 : Kd.C (Kd.int .i64) w A0 l0.length l0) (hc0 : l0.length ≤ c0) (h1 : Kd.C (Kd.int .i64) w A1 l1.length l1) (hc1 : l1.length ≤ c1) (hz1 : ∀ x ∈ l1, x < 9223372036854775808) (hl0 : l0.length ≤ 100) (hl1 : l1.length ≤ 100) (hs : a3.size ≤ 300) :
    Calls Try.prog 5 #[.slice A0 l0.length c0, .slice A1 l1.length c1, .int .i64 a2, .string a3, .int .i64 a4] w fun e w' => e = .returned (.bool true) ∧ Below w.heap.size w w' := by
  obtain ⟨ka, hka⟩ := awake12.rounds
  have HA := kept (fun wx => wringerlaw12_awake.calls ka true wx hka)
  have HE := kept (fun x wx => wringerlaw1_Err.calls x x wx rfl)
  obtain ⟨m1, e1, hm⟩ : ∃ m1 e1, normO l0 a2 = (m1, e1) := ⟨_, _, rfl⟩
  have hml : m1.length ≤ 65 := by have := normO_len l0 a2; rw [hm] at this; exact this
  have HOf := kept (norm_Of.calls A0 c0 l0 a2 m1 e1 w h0 hc0 (by unfold norm_Of.f; rw [if_pos (by omega), hm]))
  have HNo := kept (fun wx (hb : Below w.heap.size w wx) => wringerref7_Norm.calls A0 c0 l0 a2 m1 e1 wx (Kd.C_below h0 hb) hc0 (by unfold wringerref7_Norm.f; rw [if_pos (by omega), normO_E, hm]))
  obtain ⟨n1, nx, e2, hg⟩ : ∃ n1 nx e2, Np.getNE a3 a4 a2 = (n1, nx, e2) := ⟨_, _, _, rfl⟩
  have HGe := kept (fun wx => norm_Get.calls a3 a4 a2 n1 nx e2 wx (by unfold norm_Get.f; rw [if_pos (by omega), hg]))
  obtain ⟨kg, hkg⟩ := (getnorm_is a3 a4 a2 (by omega)).rounds
  rw [hg] at hkg
  have HGr := kept (fun wx => wringerref7_GetNorm.calls kg a3 a4 a2 n1 nx e2 wx hkg)
  have HMl := kept hml
  have hnl65 : n1.length ≤ 65 := by
    have h := hg
    unfold Np.getNE at h
    split at h
    · simp only [Prod.mk.injEq] at h; rw [← h.1]; simp
    · unfold Np.finN at h
      split at h
      · simp only [Prod.mk.injEq] at h; rw [← h.1]; simp
      · split at h
        · rename_i hc
          simp only [Prod.mk.injEq] at h
          have h2 := hc.1
          unfold mayN at h2
          rw [decide_eq_true_eq] at h2
          rw [← h.1]; omega
        · simp only [Prod.mk.injEq] at h; rw [← h.1]; simp
  obtain ⟨ks1, hks1⟩ := (same_self m1 (by omega)).rounds
  obtain ⟨ks2, hks2⟩ := (same_self n1 (by omega)).rounds
  obtain ⟨q, hqm⟩ : ∃ q, q = mayN l1 a2 := ⟨_, rfl⟩
  obtain ⟨km1, hkm1⟩ := (may_is l1 a2).rounds
  obtain ⟨km2, hkm2⟩ := (rmay_is l1 a2).rounds
  rw [← hqm] at hkm1 hkm2
  have HMy := kept (fun wx (hb : Below w.heap.size w wx) => norm_May.calls km1 A1 c1 l1 a2 q wx (Kd.C_below h1 hb) hc1 hkm1)
  have HMr := kept (fun wx (hb : Below w.heap.size w wx) => wringerref7_MayNorm.calls km2 A1 c1 l1 a2 q wx (Kd.C_below h1 hb) hc1 hkm2)
  have HPp : Kept ((∀ x ∈ l1, 0 ≤ x) → ∃ T kp, (∀ wx, Below w.heap.size w wx → Calls Try.prog 19 #[.slice A1 l1.length c1] wx fun e w' => e = .returned (.string T) ∧ Below wx.heap.size wx w') ∧ ∀ wx, Below w.heap.size w wx → Calls Try.prog 20 #[.slice A1 l1.length c1] wx fun e w' => e = .returned (.string T) ∧ Below wx.heap.size wx w') := kept (fun hnn => by
    have hr : ∀ x ∈ l1, 0 ≤ x ∧ x < 9223372036854775808 := fun x hx => ⟨hnn x hx, hz1 x hx⟩
    obtain ⟨kp, hkp⟩ := (putnorm_is l1 (by omega) hr).rounds
    exact ⟨Np.txt (Np.nputL l1), kp, fun wx hb => norm_Put.calls A1 c1 l1 _ wx (Kd.C_below h1 hb) hc1 (by unfold norm_Put.f; rw [if_pos ⟨hr, by omega⟩]), fun wx hb => wringerref7_PutNorm.calls kp A1 c1 l1 _ wx (Kd.C_below h1 hb) hc1 hkp⟩)
  have H1 := kept h1
  have HZ1 := kept hz1
  obtain ⟨n0, hn0⟩ : ∃ n, n = l0.length := ⟨_, rfl⟩
  obtain ⟨nl, hnl⟩ : ∃ n, n = l1.length := ⟨_, rfl⟩
  have HN1 := kept hnl
  rw [← hn0] at HOf HNo hl0 hc0 ⊢
  rw [← hnl] at H1 HMy HMr HPp hl1 hc1 ⊢
  have HKs1 := kept hks1
  have HKs2 := kept hks2
  clear h0 h1 hz1 hka hm hml hg hkg hn0 hnl hnl65 hks1 hks2 hqm hkm1 hkm2
  go_enter Try.func5, Try.ntmps5
  go_wp2_with fail
  refine HOf.out.mono ?_
  rintro e w1 ⟨v1, rfl, hr1, hb1⟩
  obtain ⟨A5, c5, rfl⟩ := Kd.R_slice hr1
  have HR1 := kept hr1
  have HB1 := kept hb1
  clear hr1 hb1
  go_wp2_with fail
  refine (HNo.out _ HB1.out).mono ?_
  rintro e w2 ⟨v2, rfl, hr2, hb2⟩
  obtain ⟨A6, c6, rfl⟩ := Kd.R_slice hr2
  have HR2 := kept hr2
  have HB2 := kept hb2
  clear hr2 hb2
  go_wp2_with fail
  generalize hw3 : World.alloc w2 _ = w3
  obtain ⟨g3, hg3⟩ : ∃ g, g = w2.heap.size := ⟨_, rfl⟩
  have HK3 : Kept (Blk w3 g3 #[.slice A6 m1.length c6, .int .i64 e1] 30) := kept (by rw [← hw3, hg3]; exact Blk.fresh _ _ _)
  have HB23 : Kept (Below w2.heap.size w2 w3) := kept (by rw [← hw3]; exact (Below.refl _ _).alloc (Nat.le_refl _) _)
  rw [← hg3]
  clear hw3 hg3
  refine (HGe.out _).mono ?_
  rintro e w4 ⟨v4, rfl, hr4, hb4⟩
  obtain ⟨A7, c7, rfl⟩ := Kd.R_slice hr4
  have HR4 := kept hr4
  have HB34 := kept hb4
  clear hr4 hb4
  go_wp2_with fail
  refine (HGr.out _).mono ?_
  rintro e w5 ⟨v5, rfl, hr5, hb5⟩
  obtain ⟨A8, c8, rfl⟩ := Kd.R_slice hr5
  have HR5 := kept hr5
  have HB45 := kept hb5
  clear hr5 hb5
  go_upto_region 7 with fail
  generalize hw6 : World.alloc w5 _ = w6
  obtain ⟨g6, hg6⟩ : ∃ g, g = w5.heap.size := ⟨_, rfl⟩
  have HK6 : Kept (Blk w6 g6 #[.slice A8 n1.length c8, .int .i64 nx, .int .i64 e2] 41) := kept (by rw [← hw6, hg6]; exact Blk.fresh _ _ _)
  have HB56 : Kept (Below w5.heap.size w5 w6) := kept (by rw [← hw6]; exact (Below.refl _ _).alloc (Nat.le_refl _) _)
  rw [← hg6]
  clear hw6 hg6
  -- all that is read at the end
  have hb46 : Below w4.heap.size w4 w6 := HB45.out.trans (HB56.out.mono HB45.out.size)
  have hb36 : Below w3.heap.size w3 w6 := HB34.out.trans (hb46.mono HB34.out.size)
  have hb26 : Below w2.heap.size w2 w6 := HB23.out.trans (hb36.mono HB23.out.size)
  have hb16 : Below w1.heap.size w1 w6 := HB2.out.trans (hb26.mono HB2.out.size)
  have hb06 : Below w.heap.size w w6 := HB1.out.trans (hb16.mono HB1.out.size)
  have r1 := Kd.R_reads' HR1.out
  have r2 := Kd.R_reads' HR2.out
  have r4 := Kd.R_reads' HR4.out
  have r5 := Kd.R_reads' HR5.out
  have HSa := kept (fun wx (hb : Below w6.heap.size w6 wx) => wringerref7_SameInts.calls ks1 A5 c5 m1 A6 c6 m1 true wx (Kd.C_below (Kd.C_below r1.2.2 hb16) hb) r1.2.1 (Kd.C_below (Kd.C_below r2.2.2 hb26) hb) r2.2.1 HKs1.out)
  have HSb := kept (fun wx (hb : Below w6.heap.size w6 wx) => wringerref7_SameInts.calls ks2 A7 c7 n1 A8 c8 n1 true wx (Kd.C_below (Kd.C_below r4.2.2 hb46) hb) r4.2.1 (Kd.C_below (Kd.C_below r5.2.2 (HB56.out)) hb) r5.2.1 HKs2.out)
  have hK3 : Blk w6 g3 #[.slice A6 m1.length c6, .int .i64 e1] 30 := (hb36.block g3 HK3.out.lt).trans HK3.out
  have HK36 := kept hK3
  have HB06 := kept hb06
  have HC1 := kept (Kd.C_below H1.out hb06)
  obtain ⟨nm, hnm⟩ : ∃ n, n = m1.length := ⟨_, rfl⟩
  obtain ⟨nn, hnn⟩ : ∃ n, n = n1.length := ⟨_, rfl⟩
  rw [← hnm] at HSa HK36 ⊢
  rw [← hnn] at HSb HK6 ⊢
  clear hb46 hb36 hb26 hb16 hb06 r1 r2 r4 r5 hK3 HR1 HR2 HR4 HR5 hnm hnn HK3 HMl HKs1 HKs2
  go_wp2_with fail
  go_loopw [18, 19] (fun s18 s19 wr => ∃ i : Nat, i ≤ nl ∧ s18 = .bool ((l1.take i).all nnB) ∧ s19 = .int .i64 (i : Int) ∧ wr = w6) (fun _ s19 _ => nl - (intOf s19).toNat)
  case atStart => exact ⟨0, by omega, by simp, rfl, rfl⟩
  case round =>
    obtain ⟨i, hin, rfl, rfl, rfl⟩ := hrel
    obtain ⟨w6, rfl⟩ : ∃ w6, w6 = wr := ⟨wr, rfl⟩
    by_cases hlt : i < nl
    · have hil : i < l1.length := by rw [← HN1.out]; exact hlt
      obtain ⟨x, rfl, hc⟩ := (Own.rd_of_C HC1.out).at (Own.ints_at .i64 l1 i hil)
      obtain ⟨y, hy⟩ : ∃ y, y = l1.getD i 0 := ⟨_, rfl⟩
      have htk : l1.take (i + 1) = l1.take i ++ [y] := by
        rw [List.take_succ_eq_append_getElem hil, hy]; simp [List.getD_eq_getElem?_getD, hil]
      rw [← hy] at hc
      obtain ⟨g, hg⟩ : ∃ g, g = (l1.take i).all nnB := ⟨_, rfl⟩
      rw [← hg]
      have hnext : (l1.take (i + 1)).all nnB = (g && decide (0 ≤ y)) := by
        rw [htk, hg, List.all_append]; simp [nnB]
      have HNx := kept hnext
      clear hil hy htk hg hnext
      cases g with
      | false =>
        go_wp2_with fail
        go_roundw
        case rel => exact ⟨i + 1, by omega, by rw [HNx.out]; rfl, by go_num, trivial⟩
        case measure => simp [intOf]; omega
      | true =>
        go_wp2_with fail
        go_roundw
        case rel => exact ⟨i + 1, by omega, by rw [HNx.out]; rfl, by go_num, trivial⟩
        case measure => simp [intOf]; omega
    · have hie : i = nl := by omega
      subst hie
      have htk : l1.take i = l1 := List.take_of_length_le (by rw [← HN1.out]; exact Nat.le_refl _)
      rw [htk]
      clear htk hlt
      have HLM := kept (fun n : Lat w6 => (HMy.out n.w (HB06.out.trans (n.below.mono HB06.out.size))).mono fun e w' ⟨he, hd⟩ => (⟨he, hd.below⟩ : _ ∧ Below n.w.heap.size n.w w'))
      have HLR := kept (fun n : Lat w6 => (HMr.out n.w (HB06.out.trans (n.below.mono HB06.out.size))).mono fun e w' ⟨he, hd⟩ => (⟨he, hd.below⟩ : _ ∧ Below n.w.heap.size n.w w'))
      have HLE := kept (fun (x : Int) (n : Lat w6) => (HE.out x n.w).mono fun e w' ⟨he, hd⟩ => (⟨he, hd.below⟩ : _ ∧ Below n.w.heap.size n.w w'))
      have HLA := kept (fun n : Lat w6 => HA.out n.w)
      have HLSa := kept (fun n : Lat w6 => (HSa.out n.w n.below).mono fun e w' ⟨he, hd⟩ => (⟨he, hd.below⟩ : _ ∧ Below n.w.heap.size n.w w'))
      have HLSb := kept (fun n : Lat w6 => (HSb.out n.w n.below).mono fun e w' ⟨he, hd⟩ => (⟨he, hd.below⟩ : _ ∧ Below n.w.heap.size n.w w'))
      have q30 := lat_cell (HK36.out.cell (i := 0) rfl)
      have q31 := lat_cell (HK36.out.cell (i := 1) rfl)
      have q60 := lat_cell (HK6.out.cell (i := 0) rfl)
      have q61 := lat_cell (HK6.out.cell (i := 1) rfl)
      have q62 := lat_cell (HK6.out.cell (i := 2) rfl)
      go_upto_region 12 with fail
      cases hgd : l1.all nnB with
      | true =>
        obtain ⟨T, kp, hP1, hP2⟩ := HPp.out (nnB_all l1 hgd)
        have HLP := kept (fun n : Lat w6 => (hP1 n.w (HB06.out.trans (n.below.mono HB06.out.size))).mono fun e w' ⟨he, hd⟩ => (⟨he, hd⟩ : _ ∧ Below n.w.heap.size n.w w'))
        have HLQ := kept (fun n : Lat w6 => (hP2 n.w (HB06.out.trans (n.below.mono HB06.out.size))).mono fun e w' ⟨he, hd⟩ => (⟨he, hd⟩ : _ ∧ Below n.w.heap.size n.w w'))
        clear hP1 hP2 hgd
        refine wp_region_quietL (by kernel_rfl) (by kernel_rfl) ?_
        iterate 14 (go_big_quiet_step (first | (go_at_call 13; exact lat_call (HLSa.out _)) | (go_at_call 14; exact lat_call (HLE.out _ _)) | (go_at_call 15; exact lat_call (HLM.out _)) | (go_at_call 18; exact lat_call (HLR.out _)) | (go_at_call 19; exact lat_call (HLP.out _)) | (go_at_call 20; exact lat_call (HLQ.out _)) | (go_at_call 9; exact lat_call (HLA.out _))))
        repeat (go_big_quiet_step (first | (go_at_call 13; exact lat_call (HLSb.out _)) | (go_at_call 14; exact lat_call (HLE.out _ _)) | (go_at_call 15; exact lat_call (HLM.out _)) | (go_at_call 18; exact lat_call (HLR.out _)) | (go_at_call 19; exact lat_call (HLP.out _)) | (go_at_call 20; exact lat_call (HLQ.out _)) | (go_at_call 9; exact lat_call (HLA.out _))))
        refine wpQuiet_nil ?_
        intro nq
        go_wp2_with fail
        go_ret
        exact ⟨rfl, HB06.out.trans (nq.below.mono HB06.out.size)⟩
      | false =>
        clear hgd
        refine wp_region_quietL (by kernel_rfl) (by kernel_rfl) ?_
        iterate 14 (go_big_quiet_step (first | (go_at_call 13; exact lat_call (HLSa.out _)) | (go_at_call 14; exact lat_call (HLE.out _ _)) | (go_at_call 15; exact lat_call (HLM.out _)) | (go_at_call 18; exact lat_call (HLR.out _)) | (go_at_call 9; exact lat_call (HLA.out _))))
        repeat (go_big_quiet_step (first | (go_at_call 13; exact lat_call (HLSb.out _)) | (go_at_call 14; exact lat_call (HLE.out _ _)) | (go_at_call 15; exact lat_call (HLM.out _)) | (go_at_call 18; exact lat_call (HLR.out _)) | (go_at_call 9; exact lat_call (HLA.out _))))
        refine wpQuiet_nil ?_
        intro nq
        go_wp2_with fail
        go_ret
        exact ⟨rfl, HB06.out.trans (nq.below.mono HB06.out.size)⟩
set_option maxRecDepth 20000 in
theorem big_all (A0 : Option Addr) (c0 n0 : Nat) (A1 : Option Addr) (c1 n1 : Nat) (a2 : Int) (a3 : ByteArray) (a4 : Int) (w : World) (h : 100 < n0 ∨ 100 < n1 ∨ 300 < a3.size) :
    Calls Try.prog 5 #[.slice A0 n0 c0, .slice A1 n1 c1, .int .i64 a2, .string a3, .int .i64 a4] w fun e w' => e = .returned (.bool true) ∧ Below w.heap.size w w' := by
  obtain ⟨ka, hka⟩ := awake12.rounds
  have HA := kept (fun wx => wringerlaw12_awake.calls ka true wx hka)
  clear hka
  by_cases f0 : 100 < n0
  · clear h
    go_enter Try.func5, Try.ntmps5
    go_wp2_with fail
    refine (HA.out _).mono ?_
    rintro e w1 ⟨rfl, hb1⟩
    go_wp2_with fail
    go_ret
    exact ⟨rfl, hb1⟩
  · by_cases f1 : 100 < n1
    · clear h
      go_enter Try.func5, Try.ntmps5
      go_wp2_with fail
      refine (HA.out _).mono ?_
      rintro e w1 ⟨rfl, hb1⟩
      go_wp2_with fail
      go_ret
      exact ⟨rfl, hb1⟩
    · have f2 : 300 < a3.size := by omega
      clear h
      go_enter Try.func5, Try.ntmps5
      go_wp2_with fail
      refine (HA.out _).mono ?_
      rintro e w1 ⟨rfl, hb1⟩
      go_wp2_with fail
      go_ret
      exact ⟨rfl, hb1⟩
theorem NormAll_walk (a0 : Option Addr) (len0 cap0 : Nat) (z0 : List Int) (a1 : Option Addr) (len1 cap1 : Nat) (z1 : List Int) (a2 : Int) (a3 : ByteArray) (a4 : Int) (w : World)
    (w0 : _root_.Go.Proofs.Ytbldocbijihpgaa.Own.Arg .i64 w a0 len0 cap0 z0) (y0 : len0 * 8 ≤ 140737488351232) (w1 : _root_.Go.Proofs.Ytbldocbijihpgaa.Own.Arg .i64 w a1 len1 cap1 z1) (y1 : len1 * 8 ≤ 140737488351232) (w2 : (Lit.int .i64 a2).wf = true) (w3 : a3.size ≤ 140737488351232) (w4 : (Lit.int .i64 a4).wf = true) :
    Calls Try.prog 5 #[.slice a0 len0 cap0, .slice a1 len1 cap1, .int .i64 a2, .string a3, .int .i64 a4] w fun e w' => e = .returned (.bool true) ∧ Below w.heap.size w w' := by
  obtain ⟨l0, rfl, hr0, hm0, hw0, hc0⟩ := ReadsInt.ofRowC w0
  obtain ⟨l1, rfl, hr1, hm1, hw1, hc1⟩ := ReadsInt.ofRowC w1
  by_cases hbig : 100 < l0.length ∨ 100 < l1.length ∨ 300 < a3.size
  · exact big_all a0 cap0 l0.length a1 cap1 l1.length a2 a3 a4 w hbig
  · exact all_calls a0 cap0 l0 a1 cap1 l1 a2 a3 a4 w (Kd.C_of_reads (d := (0 : Int)) (h1 := fun _ => rfl) hr0) hc0 (Kd.C_of_reads (d := (0 : Int)) (h1 := fun _ => rfl) hr1) hc1 (fun x hx => by have h := hw1 x hx; simp only [Lit.wf, Bool.and_eq_true, decide_eq_true_eq] at h; have h2 : IntKind.i64.max = 9223372036854775807 := rfl; omega) (by omega) (by omega) (by omega)
end Go.Proofs.Ytbldocbijihpgaa

-- ---- LawNormAll
/- The law NormAll holds of the program, for every input; each argument reads behind the call as it read before. Conditions: none. -/
namespace Go.Proofs.Ytbldocbijihpgaa.normAll
open Go.ChangeShapes Go.WideShapes Go.ChangeAt Go.RowKit
open Go.ChangeMaps (open_string shut_string)
set_option linter.unusedVariables false
theorem own : ownKnob Try.prog.godebug = none := by kernel_rfl
theorem laidOut : laidOutB Try.prog = true := by kernel_rfl
set_option maxRecDepth 100000 in
theorem lifted (os : Os) (started : os.Started) (H : Type) (enc : TypeId × Value → H) :
    ReturnsInHanded {} Try.checked os 5 .any (Rows.normAllSpec.pre6 enc Try.prog Try.f5 Rows.normAllRow.domain false) (Rows.normAllSpec.post enc Try.prog Try.f5 false true false false) := by
  refine returnsInHanded_of_change_sized (C := Try.checked) own started (by kernel_rfl) Try.func5
    (ChangeSpec.witness6 (enc := enc) (C := Try.checked) false ⟨#[], #[.slice none 0 0, .slice none 0 0, .int .i64 0, .string ByteArray.empty, .int .i64 0], []⟩ 8 (by kernel_rfl) (by kernel_rfl) (by kernel_rfl) (by kernel_rfl)) ?_
  intro W base args ds gs before hval0 hW hcnd hsz0 _
  have hsz : (DataW.weightsEach Try.prog (Try.f5.params.toList ++ Rows.normAllSpec.plain.varTypes Try.prog) (ds ++ gs)).all (· ≤ reachBytes) = true := hsz0
  have hval : ∀ (j : Nat) t v, Try.f5.params[j]? = some t → args[j]? = some v → Value.okWide Try.prog W .any base t v := hval0
  have hW' := hW
  obtain ⟨p, q, hA0, hV, rfl, hfz, hnd⟩ := hW
  have hA : DataW.TrodAll enc Try.prog W 0 (fun _ => true) true Try.f5.params.toList args.toList ds p := hA0
  rw [Try.params5] at hA hval hsz
  obtain ⟨v0, vs0, d0, ds0, p0, q0, hargs, rfl, rfl, h0, r0⟩ := trodAll_cons hA
  obtain ⟨v1, vs1, d1, ds1, p1, q1, rfl, rfl, rfl, h1, r1⟩ := trodAll_cons r0
  obtain ⟨v2, vs2, d2, ds2, p2, q2, rfl, rfl, rfl, h2, r2⟩ := trodAll_cons r1
  obtain ⟨v3, vs3, d3, ds3, p3, q3, rfl, rfl, rfl, h3, r3⟩ := trodAll_cons r2
  obtain ⟨v4, vs4, d4, ds4, p4, q4, rfl, rfl, rfl, h4, r4⟩ := trodAll_cons r3
  obtain ⟨rfl, rfl, rfl⟩ := trodAll_nil r4
  obtain rfl : args = #[v0, v1, v2, v3, v4] := by cases args; simp_all
  obtain ⟨rfl, rfl⟩ := trodVars_none hV
  obtain ⟨a0, len0, cap0, rfl⟩ := okWide_slice Try.underlying24 (hval 0 24 v0 rfl rfl)
  have k0 := h0
  have lt0 : ∀ x ∈ p0, x.block < W.heap.size := by obtain ⟨m, hm⟩ := k0; exact DataW.trod_lt m _ _ _ hm
  obtain ⟨z0, w0⟩ : ∃ zs, Own.Arg .i64 W a0 len0 cap0 zs := by
    obtain ⟨fuel, hf⟩ := h0
    rcases open_ints Try.underlying24 Try.underlying3 (by kernel_rfl) hf with ⟨hcs, _⟩ | ⟨x, l, c, zs, hcs, _, hl, hm, hz, _, hcell, hwz⟩
    · simp [Value.cells] at hcs
      obtain ⟨rfl, rfl, rfl⟩ := hcs
      exact ⟨[], .inl ⟨rfl, rfl, rfl, rfl⟩⟩
    · simp [Value.cells] at hcs
      obtain ⟨rfl, rfl, rfl⟩ := hcs
      exact ⟨zs, .inr ⟨_, rfl, hl, hm, by simpa using hz, hcell, hwz⟩⟩
  have y0 : len0 * 8 ≤ 140737488351232 := Own.sized_ints hsz (j := 0) (t := 24) rfl rfl Try.underlying24 Try.underlying3 (by kernel_rfl) (by kernel_rfl) h0
  obtain ⟨a1, len1, cap1, rfl⟩ := okWide_slice Try.underlying24 (hval 1 24 v1 rfl rfl)
  have k1 := h1
  have lt1 : ∀ x ∈ p1, x.block < W.heap.size := by obtain ⟨m, hm⟩ := k1; exact DataW.trod_lt m _ _ _ hm
  obtain ⟨z1, w1⟩ : ∃ zs, Own.Arg .i64 W a1 len1 cap1 zs := by
    obtain ⟨fuel, hf⟩ := h1
    rcases open_ints Try.underlying24 Try.underlying3 (by kernel_rfl) hf with ⟨hcs, _⟩ | ⟨x, l, c, zs, hcs, _, hl, hm, hz, _, hcell, hwz⟩
    · simp [Value.cells] at hcs
      obtain ⟨rfl, rfl, rfl⟩ := hcs
      exact ⟨[], .inl ⟨rfl, rfl, rfl, rfl⟩⟩
    · simp [Value.cells] at hcs
      obtain ⟨rfl, rfl, rfl⟩ := hcs
      exact ⟨zs, .inr ⟨_, rfl, hl, hm, by simpa using hz, hcell, hwz⟩⟩
  have y1 : len1 * 8 ≤ 140737488351232 := Own.sized_ints hsz (j := 1) (t := 24) rfl rfl Try.underlying24 Try.underlying3 (by kernel_rfl) (by kernel_rfl) h1
  obtain ⟨a2, rfl, rfl, rfl, w2⟩ := open_int Try.underlying3 (hval 2 3 v2 rfl rfl) h2
  obtain ⟨a3, rfl, rfl, rfl, y3⟩ := open_string Try.underlying9 (hval 3 9 v3 rfl rfl) h3
  have w3 : a3.size ≤ 140737488351232 := by
    have z := sized_string hsz (j := 3) (t := 9) rfl rfl
    rw [Array.length_toList] at z
    exact z
  obtain ⟨a4, rfl, rfl, rfl, w4⟩ := open_int Try.underlying3 (hval 4 3 v4 rfl rfl) h4
  clear hA0 hval0 hsz0 hsz
  refine (NormAll_walk a0 len0 cap0 z0 a1 len1 cap1 z1 a2 a3 a4 W w0 y0 w1 y1 w2 w3 w4).mono fun e W' ⟨he, bel⟩ => ?_
  subst he
  exact ⟨_, rfl, _, _, _, [], _, [], hW', trodAll_mk1 (shut_bool Try.underlying4 _), (trodAll_cons_mk (Below.trod laidOut (by kernel_rfl) (of_decide_eq_true (by kernel_rfl)) k0 bel lt0) (trodAll_cons_mk (Below.trod laidOut (by kernel_rfl) (of_decide_eq_true (by kernel_rfl)) k1 bel lt1) (trodAll_cons_mk (shut_int Try.underlying3 w2) (trodAll_cons_mk (shut_string Try.underlying9 y3) (trodAll_cons_mk (shut_int Try.underlying3 w4) trodAll_mk0))))), rfl, bel.frame _, fun h => by cases h⟩
theorem over : Rows.normAllRow.holds Try.pinned (OpenSpec.ofChange Rows.normAllSpec) :=
  OpenClaim.holds_of_wide 5 Try.f5 rfl rfl rfl rfl rfl rfl rfl ⟨rfl, rfl, rfl, rfl, rfl⟩ rfl rfl rfl rfl rfl (by kernel_rfl) Try.func5 (by kernel_rfl)
    (of_decide_eq_true (by kernel_rfl)) (by unfold Func.isWrapper; first | (rw [if_pos (by decide +kernel)]; kernel_rfl) | (rw [if_neg (by decide +kernel)]; exact ⟨rfl, rfl⟩))
    (fun os started H enc _ => lifted os started H enc)
theorem proved : Rows.NormAllSaid := over
#print axioms proved
end Go.Proofs.Ytbldocbijihpgaa.normAll
namespace Go.Proofs.Ytbldocbijihpgaa
/-- The row, under a short name. -/
theorem normAll_holds : Rows.NormAllSaid := normAll.proved
end Go.Proofs.Ytbldocbijihpgaa
