/- Part CanonOrder1 of what the layer's laws stand on: PAx22, PureCanonOrder, LawCanonOrder. Written by a program (merge.py) out of this session's own texts and of what the kit's print wrote over stand-ins (sp.py). Conditions: those that each theorem names. -/
import Derived.Test.YtkdmamffbhlbgaaQB1
import Derived.Test.YtkdmamffbhlbgaaQB2
import Derived.Test.YtkdmamffbhlbgaaRows
import Derived.WalkKit
import Derived.ProofKit
import Derived.OpenShut
import Derived.ShutString
import Derived.ChangeOld
import Derived.Below
import Derived.SizedLaws
import Derived.Test.YtkdmamffbhlbgaaWSized
-- ---- PAx22

namespace Go.Proofs.Ytkdmamffbhlbgaa.PA
open Go.RowKit Go.Proofs.YtkdmamffbhlbgaaW.PrintWords Go.Proofs.YtkdmamffbhlbgaaW.PrintLast Go.Proofs.YtkdmamffbhlbgaaW.PrintMore
attribute [local go_sem] max2_int min2_int max_two min_two max_three min_three max_four min_four   -- for this text's walks alone
set_option linter.unusedVariables false
set_option linter.unusedSimpArgs false

/-! ### wringerlaw9_CanonOrder: function 6 -/
mutual
def wringerlaw9_CanonOrder.l0 : Nat → List Int → List Int → Int → Option (Bool)
  | 0, _, _, _ => none
  | k + 1, x0, x3, x4 => if x4 < (x0.length : Int) then (wringerlaw9_CanonOrder.j1 k x0 x3 x4 (decide ((x3.length : Int) < 60))) else (wringerlaw9_CanonOrder.j1 k x0 x3 x4 false)
def wringerlaw9_CanonOrder.j1 : Nat → List Int → List Int → Int → Bool → Option (Bool)
  | 0, _, _, _, _ => none
  | k + 1, x0, x3, x4, x22 => if x22 = true then (if 0 ≤ x4 then (if x4 < (x0.length : Int) then (if (x3.length : Int) = 0 then (none) else (if 0 ≤ (Int.tmod (wrap64 (rd x0 x4)) (x3.length : Int)) then (if (Int.tmod (wrap64 (rd x0 x4)) (x3.length : Int)) < (x3.length : Int) then (if (rd x3 (Int.tmod (wrap64 (rd x0 x4)) (x3.length : Int))) < 15 then ((some (x3.set ((Int.tmod (wrap64 (rd x0 x4)) (x3.length : Int)) : Int).toNat (wrap64 ((rd x3 (Int.tmod (wrap64 (rd x0 x4)) (x3.length : Int))) + 1)) : List Int)).bind fun y232 => (if y232.length < 17592186044416 then (wringerlaw9_CanonOrder.l0 k x0 (y232 ++ [rd y232 (Int.tmod (wrap64 (rd x0 x4)) (x3.length : Int))]) (wrap64 (x4 + 1))) else (none))) else (wringerlaw9_CanonOrder.l0 k x0 x3 (wrap64 (x4 + 1)))) else (none)) else (none))) else (none)) else (none)) else (if (x3.length : Int) < 2 then ((wringerlaw9_awake.f k).bind fun t237 => (some t237)) else ((some (([] : List Int) : List Int)).bind fun y238 => (if y238.length + x3.length < 17592186044416 then ((some (y238 ++ x3 : List Int)).bind fun y241 => (if 0 ≤ (wrap64 (65 - (x3.length : Int))) then (if y241.length + (wrap64 (65 - (x3.length : Int)) : Int).toNat < 17592186044416 then ((some (y241 ++ List.replicate (wrap64 (65 - (x3.length : Int)) : Int).toNat 0 : List Int)).bind fun y244 => ((canon_Codes.f y244).bind fun bt247 => ((wringerlaw1_Err.f bt247.2).bind fun t251 => (if t251 = 0 then (if (bt247.1.length : Int) = 65 then ((canon_May.f k y244).bind fun t252 => (wringerlaw9_CanonOrder.j2 k x3 bt247.1 (!t252))) else (wringerlaw9_CanonOrder.j2 k x3 bt247.1 true)) else (wringerlaw9_CanonOrder.j2 k x3 bt247.1 true))))) else (none)) else (none))) else (none))))
def wringerlaw9_CanonOrder.j2 : Nat → List Int → List (S40) → Bool → Option (Bool)
  | 0, _, _, _ => none
  | k + 1, x3, x7, x79 => if x79 = true then (some false) else (wringerlaw9_CanonOrder.l1 k x3 x7 (-1) 1)
def wringerlaw9_CanonOrder.l1 : Nat → List Int → List (S40) → Int → Int → Option (Bool)
  | 0, _, _, _, _ => none
  | k + 1, x3, x7, x9, x10 => if x10 ≤ 15 then (wringerlaw9_CanonOrder.l2 k x3 x7 x9 x10 0) else (if x9 = 32767 then ((wringerlaw9_awake.f k).bind fun t253 => (some t253)) else (some false))
def wringerlaw9_CanonOrder.l2 : Nat → List Int → List (S40) → Int → Int → Int → Option (Bool)
  | 0, _, _, _, _, _ => none
  | k + 1, x3, x7, x9, x10, x11 => if x11 < (x3.length : Int) then (if 0 ≤ x11 then (if (rd x3 x11) = x10 then (if x11 < (x7.length : Int) then (if 0 ≤ (wrap64 (15 - x10)) then (if (shl .i64 ((rd_T40 x7 x11).f0) (wrap64 (15 - x10))) ≤ x9 then (some false) else (if ((rd_T40 x7 x11).f1) = x10 then (wringerlaw9_CanonOrder.l2 k x3 x7 (wrap64 ((wrap64 ((shl .i64 ((rd_T40 x7 x11).f0) (wrap64 (15 - x10))) + (shl .i64 1 (wrap64 (15 - x10))))) - 1)) x10 (wrap64 (x11 + 1))) else (some false))) else (none)) else (none)) else (wringerlaw9_CanonOrder.l2 k x3 x7 x9 x10 (wrap64 (x11 + 1)))) else (none)) else (wringerlaw9_CanonOrder.l1 k x3 x7 x9 (wrap64 (x10 + 1)))
end
def wringerlaw9_CanonOrder.f (k : Nat) (l0 : List Int) : Option (Bool) := wringerlaw9_CanonOrder.l0 k l0 (([0] : List Int)) 0
theorem wringerlaw9_CanonOrder.mono_l : ∀ k, (∀ y0 y1 y2, LeO (wringerlaw9_CanonOrder.l0 k y0 y1 y2) (wringerlaw9_CanonOrder.l0 (k + 1) y0 y1 y2)) ∧ (∀ y0 y1 y2 y3, LeO (wringerlaw9_CanonOrder.j1 k y0 y1 y2 y3) (wringerlaw9_CanonOrder.j1 (k + 1) y0 y1 y2 y3)) ∧ (∀ y0 y1 y2, LeO (wringerlaw9_CanonOrder.j2 k y0 y1 y2) (wringerlaw9_CanonOrder.j2 (k + 1) y0 y1 y2)) ∧ (∀ y0 y1 y2 y3, LeO (wringerlaw9_CanonOrder.l1 k y0 y1 y2 y3) (wringerlaw9_CanonOrder.l1 (k + 1) y0 y1 y2 y3)) ∧ (∀ y0 y1 y2 y3 y4, LeO (wringerlaw9_CanonOrder.l2 k y0 y1 y2 y3 y4) (wringerlaw9_CanonOrder.l2 (k + 1) y0 y1 y2 y3 y4))
  | 0 => ⟨fun _ _ _ r h => by simp [wringerlaw9_CanonOrder.l0] at h, fun _ _ _ _ r h => by simp [wringerlaw9_CanonOrder.j1] at h, fun _ _ _ r h => by simp [wringerlaw9_CanonOrder.j2] at h, fun _ _ _ _ r h => by simp [wringerlaw9_CanonOrder.l1] at h, fun _ _ _ _ _ r h => by simp [wringerlaw9_CanonOrder.l2] at h⟩
  | k + 1 => by
    obtain ⟨ih0, ih1, ih2, ih3, ih4⟩ := wringerlaw9_CanonOrder.mono_l k
    refine ⟨?_, ?_, ?_, ?_, ?_⟩
    · intro y0 y1 y2
      unfold wringerlaw9_CanonOrder.l0
      repeat' first
      | (with_reducible exact ih0 _ _ _)
      | (with_reducible exact ih1 _ _ _ _)
      | (with_reducible exact ih2 _ _ _)
      | (with_reducible exact ih3 _ _ _ _)
      | (with_reducible exact ih4 _ _ _ _ _)
      | (with_reducible exact canon_May.mono _ _)
      | (with_reducible exact wringerlaw9_awake.mono _)
      | (with_reducible exact LeO.refl _)
      | (with_reducible exact LeO.none _)
      | (with_reducible refine LeO.ite ?_ ?_)
      | (with_reducible refine LeO.bind ?_ (fun _ => ?_))
      | exact ih0 _ _ _
      | exact ih1 _ _ _ _
      | exact ih2 _ _ _
      | exact ih3 _ _ _ _
      | exact ih4 _ _ _ _ _
      | exact canon_May.mono _ _
      | exact wringerlaw9_awake.mono _
      | exact LeO.none _
      | refine LeO.ite ?_ ?_
      | refine LeO.bind ?_ (fun _ => ?_)
    · intro y0 y1 y2 y3
      unfold wringerlaw9_CanonOrder.j1
      repeat' first
      | (with_reducible exact ih0 _ _ _)
      | (with_reducible exact ih1 _ _ _ _)
      | (with_reducible exact ih2 _ _ _)
      | (with_reducible exact ih3 _ _ _ _)
      | (with_reducible exact ih4 _ _ _ _ _)
      | (with_reducible exact canon_May.mono _ _)
      | (with_reducible exact wringerlaw9_awake.mono _)
      | (with_reducible exact LeO.refl _)
      | (with_reducible exact LeO.none _)
      | (with_reducible refine LeO.ite ?_ ?_)
      | (with_reducible refine LeO.bind ?_ (fun _ => ?_))
      | exact ih0 _ _ _
      | exact ih1 _ _ _ _
      | exact ih2 _ _ _
      | exact ih3 _ _ _ _
      | exact ih4 _ _ _ _ _
      | exact canon_May.mono _ _
      | exact wringerlaw9_awake.mono _
      | exact LeO.none _
      | refine LeO.ite ?_ ?_
      | refine LeO.bind ?_ (fun _ => ?_)
    · intro y0 y1 y2
      unfold wringerlaw9_CanonOrder.j2
      repeat' first
      | (with_reducible exact ih0 _ _ _)
      | (with_reducible exact ih1 _ _ _ _)
      | (with_reducible exact ih2 _ _ _)
      | (with_reducible exact ih3 _ _ _ _)
      | (with_reducible exact ih4 _ _ _ _ _)
      | (with_reducible exact canon_May.mono _ _)
      | (with_reducible exact wringerlaw9_awake.mono _)
      | (with_reducible exact LeO.refl _)
      | (with_reducible exact LeO.none _)
      | (with_reducible refine LeO.ite ?_ ?_)
      | (with_reducible refine LeO.bind ?_ (fun _ => ?_))
      | exact ih0 _ _ _
      | exact ih1 _ _ _ _
      | exact ih2 _ _ _
      | exact ih3 _ _ _ _
      | exact ih4 _ _ _ _ _
      | exact canon_May.mono _ _
      | exact wringerlaw9_awake.mono _
      | exact LeO.none _
      | refine LeO.ite ?_ ?_
      | refine LeO.bind ?_ (fun _ => ?_)
    · intro y0 y1 y2 y3
      unfold wringerlaw9_CanonOrder.l1
      repeat' first
      | (with_reducible exact ih0 _ _ _)
      | (with_reducible exact ih1 _ _ _ _)
      | (with_reducible exact ih2 _ _ _)
      | (with_reducible exact ih3 _ _ _ _)
      | (with_reducible exact ih4 _ _ _ _ _)
      | (with_reducible exact canon_May.mono _ _)
      | (with_reducible exact wringerlaw9_awake.mono _)
      | (with_reducible exact LeO.refl _)
      | (with_reducible exact LeO.none _)
      | (with_reducible refine LeO.ite ?_ ?_)
      | (with_reducible refine LeO.bind ?_ (fun _ => ?_))
      | exact ih0 _ _ _
      | exact ih1 _ _ _ _
      | exact ih2 _ _ _
      | exact ih3 _ _ _ _
      | exact ih4 _ _ _ _ _
      | exact canon_May.mono _ _
      | exact wringerlaw9_awake.mono _
      | exact LeO.none _
      | refine LeO.ite ?_ ?_
      | refine LeO.bind ?_ (fun _ => ?_)
    · intro y0 y1 y2 y3 y4
      unfold wringerlaw9_CanonOrder.l2
      repeat' first
      | (with_reducible exact ih0 _ _ _)
      | (with_reducible exact ih1 _ _ _ _)
      | (with_reducible exact ih2 _ _ _)
      | (with_reducible exact ih3 _ _ _ _)
      | (with_reducible exact ih4 _ _ _ _ _)
      | (with_reducible exact canon_May.mono _ _)
      | (with_reducible exact wringerlaw9_awake.mono _)
      | (with_reducible exact LeO.refl _)
      | (with_reducible exact LeO.none _)
      | (with_reducible refine LeO.ite ?_ ?_)
      | (with_reducible refine LeO.bind ?_ (fun _ => ?_))
      | exact ih0 _ _ _
      | exact ih1 _ _ _ _
      | exact ih2 _ _ _
      | exact ih3 _ _ _ _
      | exact ih4 _ _ _ _ _
      | exact canon_May.mono _ _
      | exact wringerlaw9_awake.mono _
      | exact LeO.none _
      | refine LeO.ite ?_ ?_
      | refine LeO.bind ?_ (fun _ => ?_)
theorem wringerlaw9_CanonOrder.mono : ∀ a0 k, LeO (wringerlaw9_CanonOrder.f k a0) (wringerlaw9_CanonOrder.f (k + 1) a0) := by
  intro a0 k
  obtain ⟨ih0, ih1, ih2, ih3, ih4⟩ := wringerlaw9_CanonOrder.mono_l k
  unfold wringerlaw9_CanonOrder.f
  repeat' first
      | (with_reducible exact ih0 _ _ _)
      | (with_reducible exact ih1 _ _ _ _)
      | (with_reducible exact ih2 _ _ _)
      | (with_reducible exact ih3 _ _ _ _)
      | (with_reducible exact ih4 _ _ _ _ _)
      | (with_reducible exact canon_May.mono _ _)
      | (with_reducible exact wringerlaw9_awake.mono _)
      | (with_reducible exact LeO.refl _)
      | (with_reducible exact LeO.none _)
      | (with_reducible refine LeO.ite ?_ ?_)
      | (with_reducible refine LeO.bind ?_ (fun _ => ?_))
      | exact ih0 _ _ _
      | exact ih1 _ _ _ _
      | exact ih2 _ _ _
      | exact ih3 _ _ _ _
      | exact ih4 _ _ _ _ _
      | exact canon_May.mono _ _
      | exact wringerlaw9_awake.mono _
      | exact LeO.none _
      | refine LeO.ite ?_ ?_
      | refine LeO.bind ?_ (fun _ => ?_)
set_option maxHeartbeats 8000000 in
set_option maxRecDepth 100000 in
theorem wringerlaw9_CanonOrder.calls (k : Nat) (A0 : Option Addr) (c0 : Nat) (l0 : List Int) (r : Bool) (w : World) (hr0 : Kd.C (Kd.int .u8) w A0 l0.length l0) (hc0 : l0.length ≤ c0) (h : wringerlaw9_CanonOrder.f k l0 = some r) :
    Calls Try.prog 6 #[.slice A0 l0.length c0] w fun e w' => e = .returned (.bool r) ∧ Below w.heap.size w w' := by
  have HR0 := Aside0.mk hr0
  have HC0 := Aside0.mk hc0
  clear hr0 hc0
  have HB := Aside0.mk (Below.refl w.heap.size w)
  have H : (wringerlaw9_CanonOrder.l0 k l0 (([0] : List Int)) 0) = some r := h
  clear h
  obtain ⟨y226, hy226⟩ : ∃ y_ : List Int, y_ = (([0] : List Int)) := ⟨_, rfl⟩
  replace H : (wringerlaw9_CanonOrder.l0 k l0 y226 0) = some r := by first | (rw [hy226]; with_reducible exact H) | (have H2_ := (Option.bind_some _ _).symm.trans H; rw [hy226]; with_reducible exact H2_) | (have H2_ := (Option.bind_some _ _).symm.trans H; with_reducible exact H2_) | with_reducible exact H | (rw [hy226]; exact H) | exact H
  have Ny226 := Aside0.mk hy226
  clear hy226
  have H' := Aside0.mk H
  clear H
  go_enter Try.func6, Try.ntmps6
  go_wp2_with (first | ((with_reducible refine gate_dst (N := 13) rfl ?_); (try (refine gate_guard (by rfl) ?_; dsimp only)); refine Kd.R_lit (Kd.int .i64) _ 3 ?hg (N := 13) ?hd (xs := ([0] : List Int)) (inner := [.int .i64 0]) (ok := fun _ => True) (okp := fun _ => True) ?hr ?hp (fun _ hk => hk) trivial (Below.refl _ _) (Nat.le_refl _) (by simp) ?_; (case hd => rfl); (case hg => rfl); (case hr => first | (go_simp; done) | (go_simp; rfl)); (case hp => exact (Reps.one (show Kd.M (Kd.int .i64) _ _ _ 0 [.int .i64 0] from rfl) (Reps.none _ _))); intro v227 w2 ho3 hb hg_ hnew_; clear hg_ hnew_; (first | rw [← Ny226.out] at ho3 | (simp only [Int.reduceToNat] at ho3; rw [← Ny226.out] at ho3)); have n0_ := Aside0.mk (Kd.R_lower ho3 (below_size (by repeat (first | (with_reducible first | exact HB.out | apply below_alloc | apply pw_below_drewN | apply below_drew1) | exact HB.out)))); have n1_ := Aside0.mk (below_step (by repeat (first | (with_reducible first | exact HB.out | apply below_alloc | apply pw_below_drewN | apply below_drew1) | exact HB.out)) hb); clear HB; have HO228 := n0_; have HB := n1_; clear n0_ n1_; clear hb ho3))
  go_loopg [3, 4] k (fun kq v3 v4 w' => ∃ (x3_1 : List Int) (x4_1 : Int), v4 = .int .i64 x4_1 ∧ Aside0 (wringerlaw9_CanonOrder.l0 kq l0 x3_1 x4_1 = some r) ∧ Aside0 (kq ≤ k) ∧ Aside0 (Kd.R (Kd.int .i64) 3 w' w.heap.size (fun _ => True) v3 x3_1) ∧ Aside0 (Below w.heap.size w w'))
  case atStart => exact ⟨(y226), (0), (by first | rfl | (simp; done) | (simp [*]; done)), H', ⟨Nat.le_refl _⟩, ⟨by (with_reducible repeat (first | apply Kd.R_alloc | apply Kd.R_drewN | apply Kd.R_drew)); exact HO228.out⟩, ⟨by repeat (first | (with_reducible first | exact HB.out | apply below_alloc | apply pw_below_drewN | apply below_drew1) | exact HB.out)⟩⟩
  case round =>
    clear H'
    try clear p2
    obtain ⟨x3_1, x4_1, rfl, HA, HK1, HO_3, HB⟩ := hrel
    cases gk with
    | zero => exact absurd HA.out (by simp [wringerlaw9_CanonOrder.l0])
    | succ k1 =>
      have H := HA.out
      clear HA
      simp only [wringerlaw9_CanonOrder.l0] at H
      have HC4 := Aside0.mk H
      clear H
      go_upto_region 3 with (fail)
      go_cut [22] (fun v22 wc => ∃ (kq : Nat) (x22_3 : Bool), v22 = .bool x22_3 ∧ Aside0 (wringerlaw9_CanonOrder.j1 kq l0 x3_1 x4_1 x22_3 = some r) ∧ Aside0 (kq ≤ k1) ∧ Aside0 (Kd.R (Kd.int .i64) 3 wc w.heap.size (fun _ => True) u3 x3_1) ∧ Aside0 (Below w.heap.size w wc))
      case first =>
        have H := HC4.out
        clear HC4
        by_cases c5 : x4_1 < (l0.length : Int)
        · rw [if_pos c5] at H
          have c5b0 : decide (x4_1 < (l0.length : Int)) = true := decide_eq_true c5
          clear c5
          (first | rw [c5b0] | (simp only [i64_w, i32_w]; rw [c5b0]) | skip)
          have H' := Aside0.mk H
          clear H
          obtain ⟨Ao6, co6, eo6⟩ := Kd.R_slice HO_3.out
          subst eo6
          go_wp2
          go_meet
          case rel => exact ⟨_, (decide ((x3_1.length : Int) < 60)), (by first | rfl | (simp; done) | (simp [*]; done)), H', ⟨by have := HK1.out; first | omega | exact Nat.le_refl _⟩, ⟨by (with_reducible repeat (first | apply Kd.R_alloc | apply Kd.R_drewN | apply Kd.R_drew)); exact HO_3.out⟩, ⟨by repeat (first | (with_reducible first | exact HB.out | apply below_alloc | apply pw_below_drewN | apply below_drew1) | exact HB.out)⟩⟩
        · rw [if_neg c5] at H
          have c5b0 : decide (x4_1 < (l0.length : Int)) = false := decide_eq_false c5
          clear c5
          (first | rw [c5b0] | (simp only [i64_w, i32_w]; rw [c5b0]) | skip)
          have H' := Aside0.mk H
          clear H
          go_wp2
          go_meet
          case rel => exact ⟨_, (false), (by first | rfl | (simp; done) | (simp [*]; done)), H', ⟨by have := HK1.out; first | omega | exact Nat.le_refl _⟩, ⟨by (with_reducible repeat (first | apply Kd.R_alloc | apply Kd.R_drewN | apply Kd.R_drew)); exact HO_3.out⟩, ⟨by repeat (first | (with_reducible first | exact HB.out | apply below_alloc | apply pw_below_drewN | apply below_drew1) | exact HB.out)⟩⟩
      case rest =>
        clear HC4
        try clear p2
        try clear c5
        try clear c5b0
        try clear c6
        try clear p2
        obtain ⟨kq, x22_3, rfl, HA, HJ3, HO_3, HB⟩ := hcut
        cases kq with
        | zero => exact absurd HA.out (by simp [wringerlaw9_CanonOrder.j1])
        | succ kj3 =>
          have H := HA.out
          clear HA
          simp only [wringerlaw9_CanonOrder.j1] at H
          by_cases c7 : x22_3 = true
          · subst c7
            have H1 : (if 0 ≤ x4_1 then (if x4_1 < (l0.length : Int) then (if (x3_1.length : Int) = 0 then (none) else (if 0 ≤ (Int.tmod (wrap64 (rd l0 x4_1)) (x3_1.length : Int)) then (if (Int.tmod (wrap64 (rd l0 x4_1)) (x3_1.length : Int)) < (x3_1.length : Int) then (if (rd x3_1 (Int.tmod (wrap64 (rd l0 x4_1)) (x3_1.length : Int))) < 15 then ((some (x3_1.set ((Int.tmod (wrap64 (rd l0 x4_1)) (x3_1.length : Int)) : Int).toNat (wrap64 ((rd x3_1 (Int.tmod (wrap64 (rd l0 x4_1)) (x3_1.length : Int))) + 1)) : List Int)).bind fun y232 => (if y232.length < 17592186044416 then (wringerlaw9_CanonOrder.l0 kj3 l0 (y232 ++ [rd y232 (Int.tmod (wrap64 (rd l0 x4_1)) (x3_1.length : Int))]) (wrap64 (x4_1 + 1))) else (none))) else (wringerlaw9_CanonOrder.l0 kj3 l0 x3_1 (wrap64 (x4_1 + 1)))) else (none)) else (none))) else (none)) else (none)) = some r := by rw [if_pos rfl] at H; exact H
            clear H
            have H := H1
            clear H1
            by_cases c8 : 0 ≤ x4_1
            · rw [if_pos c8] at H
              have c8b0 : decide (0 ≤ x4_1) = true := decide_eq_true c8
              clear c8
              by_cases c9 : x4_1 < (l0.length : Int)
              · rw [if_pos c9] at H
                have c9b0 : decide (x4_1 < (l0.length : Int)) = true := decide_eq_true c9
                clear c9
                by_cases c10 : (x3_1.length : Int) = 0
                · rw [if_pos c10] at H
                  exact absurd H (by simp)
                · rw [if_neg c10] at H
                  have c10b0 : ((x3_1.length : Int) == 0) = false := beq_eq_false_iff_ne.mpr c10
                  have c10b1 : ((x3_1.length : Int) != 0) = true := bne_iff_ne.mpr c10
                  have c10b2 : ¬ (x3_1 = []) := fun h_ => c10 (by rw [h_]; rfl)
                  obtain ⟨ji11, hji11⟩ : ∃ j_ : Int, (Int.tmod (wrap64 (rd l0 x4_1)) (x3_1.length : Int)) = j_ := ⟨_, rfl⟩
                  replace H : (if 0 ≤ (ji11) then (if (ji11) < (x3_1.length : Int) then (if (rd x3_1 (ji11)) < 15 then ((some (x3_1.set ((ji11) : Int).toNat (wrap64 ((rd x3_1 (ji11)) + 1)) : List Int)).bind fun y232 => (if y232.length < 17592186044416 then (wringerlaw9_CanonOrder.l0 kj3 l0 (y232 ++ [rd y232 (ji11)]) (wrap64 (x4_1 + 1))) else (none))) else (wringerlaw9_CanonOrder.l0 kj3 l0 x3_1 (wrap64 (x4_1 + 1)))) else (none)) else (none)) = some r := by first | (rw [hji11] at H; exact H) | (simp only [hji11] at H ⊢; exact H)
                  by_cases c12 : 0 ≤ (ji11)
                  · rw [if_pos c12] at H
                    have c12b0 : decide (0 ≤ (ji11)) = true := decide_eq_true c12
                    clear c12
                    by_cases c13 : (ji11) < (x3_1.length : Int)
                    · rw [if_pos c13] at H
                      have c13b0 : decide ((ji11) < (x3_1.length : Int)) = true := decide_eq_true c13
                      clear c13
                      by_cases c14 : (rd x3_1 (ji11)) < 15
                      · rw [if_pos c14] at H
                        have c14b0 : decide ((rd x3_1 (ji11)) < 15) = true := decide_eq_true c14
                        clear c14
                        obtain ⟨y232, hy232⟩ : ∃ y_ : List Int, y_ = (x3_1.set ((ji11) : Int).toNat (wrap64 ((rd x3_1 (ji11)) + 1))) := ⟨_, rfl⟩
                        replace H : (if y232.length < 17592186044416 then (wringerlaw9_CanonOrder.l0 kj3 l0 (y232 ++ [rd y232 (ji11)]) (wrap64 (x4_1 + 1))) else (none)) = some r := by first | (rw [hy232]; with_reducible exact H) | (have H2_ := (Option.bind_some _ _).symm.trans H; rw [hy232]; with_reducible exact H2_) | (have H2_ := (Option.bind_some _ _).symm.trans H; with_reducible exact H2_) | with_reducible exact H | (rw [hy232]; exact H) | exact H
                        have Ny232 := Aside0.mk hy232
                        clear hy232
                        by_cases c16 : y232.length < 17592186044416
                        · rw [if_pos c16] at H
                          have LMc16 := Aside0.mk c16
                          clear c16
                          obtain ⟨y234, hy234⟩ : ∃ y_ : List Int, y_ = (y232 ++ [rd y232 (ji11)]) := ⟨_, rfl⟩
                          replace H : (wringerlaw9_CanonOrder.l0 kj3 l0 y234 (wrap64 (x4_1 + 1))) = some r := by first | (rw [hy234]; with_reducible exact H) | (have H2_ := (Option.bind_some _ _).symm.trans H; rw [hy234]; with_reducible exact H2_) | (have H2_ := (Option.bind_some _ _).symm.trans H; with_reducible exact H2_) | with_reducible exact H | (rw [hy234]; exact H) | exact H
                          have Ny234 := Aside0.mk hy234
                          clear hy234
                          have H' := Aside0.mk H
                          clear H
                          have p229 : 0 ≤ (x4_1 : Int) := of_decide_eq_true (by first | (with_reducible assumption) | assumption)
                          have q229 : x4_1 < (l0.length : Int) := of_decide_eq_true (by first | (with_reducible assumption) | assumption)
                          obtain ⟨ad229, e229, hx229_0⟩ := Kd.at_int HR0.out x4_1 p229 q229
                          cases e229
                          replace hx229_0 := (HB.out.cell (World.block_lt_of_cell? w _ hx229_0)).trans hx229_0
                          replace p229 := eq_true p229
                          replace q229 := eq_true q229
                          obtain ⟨Ao17, co17, eo17⟩ := Kd.R_slice HO_3.out
                          subst eo17
                          have p230 : 0 ≤ ((ji11) : Int) := of_decide_eq_true (by first | (with_reducible assumption) | assumption)
                          have q230 : (ji11) < (x3_1.length : Int) := of_decide_eq_true (by first | (with_reducible assumption) | assumption)
                          obtain ⟨ad230, e230, hx230_0⟩ := Kd.at_int (Kd.R_reads' HO_3.out).2.2 (ji11) p230 q230
                          cases e230
                          replace p230 := eq_true p230
                          replace q230 := eq_true q230
                          have p231 : 0 ≤ ((ji11) : Int) := of_decide_eq_true (by first | (with_reducible assumption) | assumption)
                          have q231 : (ji11) < (x3_1.length : Int) := of_decide_eq_true (by first | (with_reducible assumption) | assumption)
                          obtain ⟨ad231, e231, hx231_0⟩ := Kd.at_int (Kd.R_reads' HO_3.out).2.2 (ji11) p231 q231
                          obtain rfl : ad230 = ad231 := (by injection e231)
                          replace p231 := eq_true p231
                          replace q231 := eq_true q231
                          have p15 : 0 ≤ ((ji11) : Int) := of_decide_eq_true (by first | (with_reducible assumption) | assumption)
                          have q15 : ((ji11) : Int) < ((x3_1.length : Int) : Int) := of_decide_eq_true (by first | (with_reducible assumption) | assumption)
                          obtain ⟨go15, co15, eo15, gb15, gl15, cl15, HG15⟩ := Kd.R_form HO_3.out (by omega)
                          (first | cases eo15 | (injection eo15 with ea_ en_ ec_; (first | subst ea_ | (injection ea_ with ea_; subst ea_)); subst ec_; clear en_))
                          have GB15 := Aside0.mk gb15
                          have GG15 := Aside0.mk HG15
                          clear gb15 gl15 HG15
                          (first | simp only [add_plain] at hx230_0 | skip)
                          (first | simp only [add_plain] at hx231_0 | skip)
                          obtain ⟨hx15_0, hf15_0⟩ := Kd.R_celln 0 HO_3.out ((ji11) : Int) p15 q15
                          replace p15 := eq_true p15
                          replace q15 := eq_true q15
                          have HP18 := Kd.R_putg HO_3.out ((ji11) : Int) (wrap64 ((rd x3_1 (ji11)) + 1))
                          go_wp2_with (first | ((with_reducible refine gate_store (t := 3) (p := 43) rfl ?_); refine store_event (t := 3) (p := 43) (v := ?vo_w19) (w1 := (wc.setCell ⟨go15, ((ji11) : Int).toNat, none⟩ (.int .i64 (wrap64 ((rd x3_1 (ji11)) + 1))))) ?hg ?ho ?hn ?hr ?_; (case ho => rfl); (case hg => rfl); (case hn => rfl); (case hr => first | (go_simp; done) | (go_simp; rfl)); intro w19 hw; have hg : wc.grownBy w19 (some go15) := (by rw [hw]; exact HP18.2); have hp_ : Kd.R (Kd.int .i64) 3 w19 w.heap.size (fun _ => True) (.slice (some ⟨go15, 0, none⟩) x3_1.length co17) y232 := (by rw [hw, Ny232.out]; exact HP18.1); clear HP18; have n0_ := Aside0.mk (hp_); have n1_ := Aside0.mk ((by rw [hw]; exact below_set (HB.out) GB15.out : Below w.heap.size w w19)); clear HO_3; clear HB; have HO_3 := n0_; have HB := n1_; clear n0_ n1_; clear hg hw hp_; have p233 : 0 ≤ ((ji11) : Int) := of_decide_eq_true (by first | (with_reducible assumption) | assumption); have q233 : (ji11) < (y232.length : Int) := (by have h_ : ((ji11) : Int) < ((x3_1.length : Int) : Int) := of_decide_eq_true (by first | (with_reducible assumption) | assumption); first | (have e_ := (Kd.R_reads' HO_3.out).1; omega) | simpa only [Ny232.out, List.length_set] using h_); have ql233 : (((ji11) : Int) < ((x3_1.length : Int) : Int)) = True := eq_true (of_decide_eq_true (by first | (with_reducible assumption) | assumption)); obtain ⟨ad233, e233, hx233_0⟩ := Kd.at_int (Kd.R_reads' HO_3.out).2.2 (ji11) p233 q233; obtain rfl : (⟨go15, 0, none⟩ : Addr) = ad233 := (by injection e233); (first | simp only [add_plain] at hx233_0 | simp only [add_at] at hx233_0 | simp only [Addr.add, Nat.zero_add] at hx233_0 | skip); replace p233 := eq_true p233; replace q233 := eq_true q233) | ((with_reducible refine gate_builtin (b := .append) (xs := #[.tmp 44, .tmp 49]) rfl ?_); (try (refine gate_guard (by rfl) ?_; dsimp only)); at_builtin; refine Kd.R_append (Kd.int .i64) (w0 := w) w.heap.size rfl (.tmp 44) (.tmp 49) 22 3 (.int .i64 0) 8 rfl Try.underlying22 info3 rfl (by decide) (by omega) (.slice (some ⟨go15, 0, none⟩) x3_1.length co17) y232 (rd y232 (ji11)) [.int .i64 (rd y232 (ji11))] (fun _ => True) (fun _ => False) rfl rfl ?aP (fun _ hk => hk.elim) ?aF ?aO ?aB ?aS ?aL ?_; (case aP => exact rfl); (case aB => exact (by repeat (first | (with_reducible first | exact HB.out | apply below_alloc | apply pw_below_drewN | apply below_drew1) | exact HB.out))); (case aF => exact (fun _ _ => trivial)); (case aO => exact (by (with_reducible repeat (first | apply Kd.R_alloc | apply Kd.R_drewN | apply Kd.R_drew)); exact HO_3.out)); (case aS => exact (below_size (by repeat (first | (with_reducible first | exact HB.out | apply below_alloc | apply pw_below_drewN | apply below_drew1) | exact HB.out)))); (case aL => have := LMc16.out; omega); intro v235 w20 ho hb hg hat; rw [← Ny234.out] at ho; have n0_ := Aside0.mk (hb); have n1_ := Aside0.mk (ho); clear HB; clear HO_3; have HB := n0_; have HO236 := n1_; clear n0_ n1_; clear ho hb hg hat))
                          go_roundg kj3
                          case measure => have := HK1.out; have := HJ3.out; omega
                          case rel => exact ⟨(y234), (wrap64 (x4_1 + 1)), (by first | rfl | (simp; done) | (simp [*]; done)), H', ⟨by have := HK1.out; have := HJ3.out; omega⟩, ⟨by (with_reducible repeat (first | apply Kd.R_alloc | apply Kd.R_drewN | apply Kd.R_drew)); exact HO236.out⟩, ⟨by repeat (first | (with_reducible first | exact HB.out | apply below_alloc | apply pw_below_drewN | apply below_drew1) | exact HB.out)⟩⟩
                        · rw [if_neg c16] at H
                          exact absurd H (by simp)
                      · rw [if_neg c14] at H
                        have c14b0 : decide ((rd x3_1 (ji11)) < 15) = false := decide_eq_false c14
                        clear c14
                        have H' := Aside0.mk H
                        clear H
                        have p229 : 0 ≤ (x4_1 : Int) := of_decide_eq_true (by first | (with_reducible assumption) | assumption)
                        have q229 : x4_1 < (l0.length : Int) := of_decide_eq_true (by first | (with_reducible assumption) | assumption)
                        obtain ⟨ad229, e229, hx229_0⟩ := Kd.at_int HR0.out x4_1 p229 q229
                        cases e229
                        replace hx229_0 := (HB.out.cell (World.block_lt_of_cell? w _ hx229_0)).trans hx229_0
                        replace p229 := eq_true p229
                        replace q229 := eq_true q229
                        obtain ⟨Ao21, co21, eo21⟩ := Kd.R_slice HO_3.out
                        subst eo21
                        have p230 : 0 ≤ ((ji11) : Int) := of_decide_eq_true (by first | (with_reducible assumption) | assumption)
                        have q230 : (ji11) < (x3_1.length : Int) := of_decide_eq_true (by first | (with_reducible assumption) | assumption)
                        obtain ⟨ad230, e230, hx230_0⟩ := Kd.at_int (Kd.R_reads' HO_3.out).2.2 (ji11) p230 q230
                        cases e230
                        replace p230 := eq_true p230
                        replace q230 := eq_true q230
                        go_wp2
                        go_roundg kj3
                        case measure => have := HK1.out; have := HJ3.out; omega
                        case rel => exact ⟨(x3_1), (wrap64 (x4_1 + 1)), (by first | rfl | (simp; done) | (simp [*]; done)), H', ⟨by have := HK1.out; have := HJ3.out; omega⟩, ⟨by (with_reducible repeat (first | apply Kd.R_alloc | apply Kd.R_drewN | apply Kd.R_drew)); exact HO_3.out⟩, ⟨by repeat (first | (with_reducible first | exact HB.out | apply below_alloc | apply pw_below_drewN | apply below_drew1) | exact HB.out)⟩⟩
                    · rw [if_neg c13] at H
                      exact absurd H (by simp)
                  · rw [if_neg c12] at H
                    exact absurd H (by simp)
              · rw [if_neg c9] at H
                exact absurd H (by simp)
            · rw [if_neg c8] at H
              exact absurd H (by simp)
          · replace c7 := Bool.eq_false_iff.mpr c7
            subst c7
            have H1 : (if (x3_1.length : Int) < 2 then ((wringerlaw9_awake.f kj3).bind fun t237 => (some t237)) else ((some (([] : List Int) : List Int)).bind fun y238 => (if y238.length + x3_1.length < 17592186044416 then ((some (y238 ++ x3_1 : List Int)).bind fun y241 => (if 0 ≤ (wrap64 (65 - (x3_1.length : Int))) then (if y241.length + (wrap64 (65 - (x3_1.length : Int)) : Int).toNat < 17592186044416 then ((some (y241 ++ List.replicate (wrap64 (65 - (x3_1.length : Int)) : Int).toNat 0 : List Int)).bind fun y244 => ((canon_Codes.f y244).bind fun bt247 => ((wringerlaw1_Err.f bt247.2).bind fun t251 => (if t251 = 0 then (if (bt247.1.length : Int) = 65 then ((canon_May.f kj3 y244).bind fun t252 => (wringerlaw9_CanonOrder.j2 kj3 x3_1 bt247.1 (!t252))) else (wringerlaw9_CanonOrder.j2 kj3 x3_1 bt247.1 true)) else (wringerlaw9_CanonOrder.j2 kj3 x3_1 bt247.1 true))))) else (none)) else (none))) else (none)))) = some r := by rw [if_neg (show ¬ (false = true) by decide)] at H; exact H
            clear H
            have H := H1
            clear H1
            by_cases c22 : (x3_1.length : Int) < 2
            · rw [if_pos c22] at H
              have c22b0 : decide ((x3_1.length : Int) < 2) = true := decide_eq_true c22
              have c22b1 : decide (x3_1.length < 2) = true := decide_eq_true (by omega)
              clear c22
              replace H := Option.bind_eq_some_iff.mp H
              obtain ⟨t237, A230, H⟩ := H
              replace H : (some t237) = some r := H
              have A23 := Aside0.mk A230
              clear A230
              obtain rfl := Option.some.inj H
              obtain ⟨Ao24, co24, eo24⟩ := Kd.R_slice HO_3.out
              subst eo24
              go_wp2_with (first | ((with_reducible refine gate_callee (f := 8) rfl ?_); refine goesL_ (some 54) rfl rfl Try.func8 (by kernel_rfl) rfl #[] rfl (by (try simp only [List.map_toArray, List.map_cons, List.map_nil]); first | done | rfl | (simp only [List.length_drop, List.length_take]; rfl)) ?_; (with_reducible refine (wringerlaw9_awake.calls kj3  t237 _ A23.out).mono ?_); rintro e w25 ⟨rfl, hb⟩; refine ⟨_, rfl, ?_⟩; have n0_ := Aside0.mk (Kd.R_below (by (with_reducible repeat (first | apply Kd.R_alloc | apply Kd.R_drewN | apply Kd.R_drew)); exact HO_3.out) hb); have n1_ := Aside0.mk (below_step (by repeat (first | (with_reducible first | exact HB.out | apply below_alloc | apply pw_below_drewN | apply below_drew1) | exact HB.out)) hb); clear HO_3; clear HB; have HO_3 := n0_; have HB := n1_; clear n0_ n1_; (try clear hb); (try clear hb2); (try clear hk); (try clear hi)))
              go_ret
              exact ⟨by first | rfl | (simp [errW_none, errW_some] <;> rfl) | (simp [*, errW_none, errW_some] <;> rfl), by repeat (first | (with_reducible first | exact HB.out | apply below_alloc | apply pw_below_drewN | apply below_drew1) | exact HB.out)⟩
            · rw [if_neg c22] at H
              have c22b0 : decide ((x3_1.length : Int) < 2) = false := decide_eq_false c22
              have c22b1 : decide (x3_1.length < 2) = false := decide_eq_false (by omega)
              clear c22
              obtain ⟨y238, hy238⟩ : ∃ y_ : List Int, y_ = (([] : List Int)) := ⟨_, rfl⟩
              replace H : (if y238.length + x3_1.length < 17592186044416 then ((some (y238 ++ x3_1 : List Int)).bind fun y241 => (if 0 ≤ (wrap64 (65 - (x3_1.length : Int))) then (if y241.length + (wrap64 (65 - (x3_1.length : Int)) : Int).toNat < 17592186044416 then ((some (y241 ++ List.replicate (wrap64 (65 - (x3_1.length : Int)) : Int).toNat 0 : List Int)).bind fun y244 => ((canon_Codes.f y244).bind fun bt247 => ((wringerlaw1_Err.f bt247.2).bind fun t251 => (if t251 = 0 then (if (bt247.1.length : Int) = 65 then ((canon_May.f kj3 y244).bind fun t252 => (wringerlaw9_CanonOrder.j2 kj3 x3_1 bt247.1 (!t252))) else (wringerlaw9_CanonOrder.j2 kj3 x3_1 bt247.1 true)) else (wringerlaw9_CanonOrder.j2 kj3 x3_1 bt247.1 true))))) else (none)) else (none))) else (none)) = some r := by first | (rw [hy238]; with_reducible exact H) | (have H2_ := (Option.bind_some _ _).symm.trans H; rw [hy238]; with_reducible exact H2_) | (have H2_ := (Option.bind_some _ _).symm.trans H; with_reducible exact H2_) | with_reducible exact H | (rw [hy238]; exact H) | exact H
              have Ny238 := Aside0.mk hy238
              clear hy238
              by_cases c26 : y238.length + x3_1.length < 17592186044416
              · rw [if_pos c26] at H
                have LMc26 := Aside0.mk c26
                clear c26
                obtain ⟨y241, hy241⟩ : ∃ y_ : List Int, y_ = (y238 ++ x3_1) := ⟨_, rfl⟩
                replace H : (if 0 ≤ (wrap64 (65 - (x3_1.length : Int))) then (if y241.length + (wrap64 (65 - (x3_1.length : Int)) : Int).toNat < 17592186044416 then ((some (y241 ++ List.replicate (wrap64 (65 - (x3_1.length : Int)) : Int).toNat 0 : List Int)).bind fun y244 => ((canon_Codes.f y244).bind fun bt247 => ((wringerlaw1_Err.f bt247.2).bind fun t251 => (if t251 = 0 then (if (bt247.1.length : Int) = 65 then ((canon_May.f kj3 y244).bind fun t252 => (wringerlaw9_CanonOrder.j2 kj3 x3_1 bt247.1 (!t252))) else (wringerlaw9_CanonOrder.j2 kj3 x3_1 bt247.1 true)) else (wringerlaw9_CanonOrder.j2 kj3 x3_1 bt247.1 true))))) else (none)) else (none)) = some r := by first | (rw [hy241]; with_reducible exact H) | (have H2_ := (Option.bind_some _ _).symm.trans H; rw [hy241]; with_reducible exact H2_) | (have H2_ := (Option.bind_some _ _).symm.trans H; with_reducible exact H2_) | with_reducible exact H | (rw [hy241]; exact H) | exact H
                have Ny241 := Aside0.mk hy241
                clear hy241
                obtain ⟨ji27, hji27⟩ : ∃ j_ : Int, (wrap64 (65 - (x3_1.length : Int))) = j_ := ⟨_, rfl⟩
                replace H : (if 0 ≤ (ji27) then (if y241.length + (ji27 : Int).toNat < 17592186044416 then ((some (y241 ++ List.replicate (ji27 : Int).toNat 0 : List Int)).bind fun y244 => ((canon_Codes.f y244).bind fun bt247 => ((wringerlaw1_Err.f bt247.2).bind fun t251 => (if t251 = 0 then (if (bt247.1.length : Int) = 65 then ((canon_May.f kj3 y244).bind fun t252 => (wringerlaw9_CanonOrder.j2 kj3 x3_1 bt247.1 (!t252))) else (wringerlaw9_CanonOrder.j2 kj3 x3_1 bt247.1 true)) else (wringerlaw9_CanonOrder.j2 kj3 x3_1 bt247.1 true))))) else (none)) else (none)) = some r := by first | (rw [hji27] at H; exact H) | (simp only [hji27] at H ⊢; exact H)
                have hji27w : (IntKind.i64.wrap (65 - (x3_1.length : Int))) = ji27 := (i64_w _).trans hji27
                by_cases c28 : 0 ≤ (ji27)
                · rw [if_pos c28] at H
                  have c28b0 := eq_true c28
                  have c28b1 : decide (0 ≤ (ji27)) = true := decide_eq_true c28
                  clear c28
                  by_cases c29 : y241.length + (ji27 : Int).toNat < 17592186044416
                  · rw [if_pos c29] at H
                    have LMc29 := Aside0.mk c29
                    clear c29
                    obtain ⟨y244, hy244⟩ : ∃ y_ : List Int, y_ = (y241 ++ List.replicate (ji27 : Int).toNat 0) := ⟨_, rfl⟩
                    replace H : ((canon_Codes.f y244).bind fun bt247 => ((wringerlaw1_Err.f bt247.2).bind fun t251 => (if t251 = 0 then (if (bt247.1.length : Int) = 65 then ((canon_May.f kj3 y244).bind fun t252 => (wringerlaw9_CanonOrder.j2 kj3 x3_1 bt247.1 (!t252))) else (wringerlaw9_CanonOrder.j2 kj3 x3_1 bt247.1 true)) else (wringerlaw9_CanonOrder.j2 kj3 x3_1 bt247.1 true)))) = some r := by first | (rw [hy244]; with_reducible exact H) | (have H2_ := (Option.bind_some _ _).symm.trans H; rw [hy244]; with_reducible exact H2_) | (have H2_ := (Option.bind_some _ _).symm.trans H; with_reducible exact H2_) | with_reducible exact H | (rw [hy244]; exact H) | exact H
                    have Ny244 := Aside0.mk hy244
                    clear hy244
                    replace H := Option.bind_eq_some_iff.mp H
                    obtain ⟨⟨t247, t248⟩, A300, H⟩ := H
                    replace H : ((wringerlaw1_Err.f t248).bind fun t251 => (if t251 = 0 then (if (t247.length : Int) = 65 then ((canon_May.f kj3 y244).bind fun t252 => (wringerlaw9_CanonOrder.j2 kj3 x3_1 t247 (!t252))) else (wringerlaw9_CanonOrder.j2 kj3 x3_1 t247 true)) else (wringerlaw9_CanonOrder.j2 kj3 x3_1 t247 true))) = some r := H
                    have A30 := Aside0.mk A300
                    clear A300
                    have HC31 := Aside0.mk H
                    clear H
                    obtain ⟨Ao32, co32, eo32⟩ := Kd.R_slice HO_3.out
                    subst eo32
                    go_upto_region 13 with (first | ((with_reducible refine gate_dst (N := 55) rfl ?_); (try (refine gate_guard (by rfl) ?_; dsimp only)); refine Kd.R_lit (Kd.int .i64) _ 3 ?hg (N := 55) ?hd (xs := ([] : List Int)) (inner := []) (ok := fun _ => True) (okp := fun _ => True) ?hr ?hp (fun _ hk => hk) trivial (Below.refl _ _) (Nat.le_refl _) (by simp) ?_; (case hd => rfl); (case hg => rfl); (case hr => first | (go_simp; done) | (go_simp; rfl)); (case hp => exact (Reps.none _ _)); intro v239 w33 ho34 hb hg_ hnew_; clear hg_ hnew_; (first | rw [← Ny238.out] at ho34 | (simp only [Int.reduceToNat] at ho34; rw [← Ny238.out] at ho34)); have n0_ := Aside0.mk (Kd.R_elder' (by (with_reducible repeat (first | apply Kd.R_alloc | apply Kd.R_drewN | apply Kd.R_drew)); exact HO_3.out) (Kd.R_base ho34) hb); have n1_ := Aside0.mk (Kd.R_lower (Kd.R_new' ho34 (Kd.R_lt (by (with_reducible repeat (first | apply Kd.R_alloc | apply Kd.R_drewN | apply Kd.R_drew)); exact HO_3.out))) (below_size (by repeat (first | (with_reducible first | exact HB.out | apply below_alloc | apply pw_below_drewN | apply below_drew1) | exact HB.out)))); have n2_ := Aside0.mk (below_step (by repeat (first | (with_reducible first | exact HB.out | apply below_alloc | apply pw_below_drewN | apply below_drew1) | exact HB.out)) hb); clear HO_3; clear HB; have HO_3 := n0_; have HO240 := n1_; have HB := n2_; clear n0_ n1_ n2_; clear hb ho34) | ((with_reducible refine gate_builtin (b := .append) (xs := #[.tmp 55, .tmp 56]) rfl ?_); (try (refine gate_guard (by rfl) ?_; dsimp only)); at_builtin; refine Kd.R_append_rows (Kd.int .i64) (w0 := w) w.heap.size rfl (.tmp 55) (.tmp 56) 22 3 (.int .i64 0) 8 rfl Try.underlying22 info3 rfl (by decide) (by omega) v239 y238 x3_1 _ _ _ (fun k_ => some k_ ≠ (.slice Ao32 x3_1.length co32 : Value).ownBlock) (fun _ => False) rfl rfl ?aO ?aR (fun _ _ h => h) (fun _ h => h.elim) ?aF ?aB ?aS ?aL ?_; (case aR => repeat (first | exact (Kd.R_reads' HO_3.out).2.2 | (with_reducible refine Kd.C_alloc ?_ _) | (with_reducible refine Kd.C_drewN ?_ _) | (with_reducible refine Kd.C_drew ?_))); (case aB => exact (by repeat (first | (with_reducible first | exact HB.out | apply below_alloc | apply pw_below_drewN | apply below_drew1) | exact HB.out))); (case aF => exact (fun k_ hk => Kd.fresh' (Kd.R_lt (by (with_reducible repeat (first | apply Kd.R_alloc | apply Kd.R_drewN | apply Kd.R_drew)); exact HO_3.out)) k_ hk)); (case aO => exact (by (with_reducible repeat (first | apply Kd.R_alloc | apply Kd.R_drewN | apply Kd.R_drew)); exact Kd.R_mono HO240.out (fun _ hk => hk.2))); (case aS => exact (below_size (by repeat (first | (with_reducible first | exact HB.out | apply below_alloc | apply pw_below_drewN | apply below_drew1) | exact HB.out)))); (case aL => have := LMc26.out; omega); intro v242 w35 ho hb hg hat; rw [← Ny241.out] at ho; have n0_ := Aside0.mk (Kd.R_after (ok := (fun _ => True)) (by (with_reducible repeat (first | apply Kd.R_alloc | apply Kd.R_drewN | apply Kd.R_drew)); exact HO_3.out) hg hat); have n1_ := Aside0.mk (hb); have n2_ := Aside0.mk (ho); clear HO_3; clear HB; clear HO240; have HO_3 := n0_; have HB := n1_; have HO243 := n2_; clear n0_ n1_ n2_; clear ho hb hg hat) | (at_builtin; refine Kd.R_append_zeros (Kd.int .i64) (w0 := w) w.heap.size rfl (.tmp 57) (.tmp 60) 22 3 3 (.int .i64 0) 8 rfl Try.underlying22 Try.underlying3 info3 rfl (by decide) (by omega) v242 y241 0 (ji27 : Int) (fun k_ => some k_ ≠ (.slice Ao32 x3_1.length co32 : Value).ownBlock) rfl rfl rfl ?aF ?aO (of_decide_eq_true (by first | (with_reducible assumption) | assumption)) ?aB ?aS ?aL ?_; (case aB => exact (by repeat (first | (with_reducible first | exact HB.out | apply below_alloc | apply pw_below_drewN | apply below_drew1) | exact HB.out))); (case aF => exact (fun k_ hk => Kd.fresh' (Kd.R_lt (by (with_reducible repeat (first | apply Kd.R_alloc | apply Kd.R_drewN | apply Kd.R_drew)); exact HO_3.out)) k_ hk)); (case aO => exact (by (with_reducible repeat (first | apply Kd.R_alloc | apply Kd.R_drewN | apply Kd.R_drew)); exact HO243.out)); (case aS => exact (below_size (by repeat (first | (with_reducible first | exact HB.out | apply below_alloc | apply pw_below_drewN | apply below_drew1) | exact HB.out)))); (case aL => have := LMc29.out; omega); intro v245 w36 ho hb hg hat; rw [← Ny244.out] at ho; have n0_ := Aside0.mk (Kd.R_after (ok := (fun _ => True)) (by (with_reducible repeat (first | apply Kd.R_alloc | apply Kd.R_drewN | apply Kd.R_drew)); exact HO_3.out) hg hat); have n1_ := Aside0.mk (hb); have n2_ := Aside0.mk (ho); clear HO_3; clear HB; clear HO243; have HO_3 := n0_; have HB := n1_; have HO246 := n2_; clear n0_ n1_ n2_; clear ho hb hg hat; obtain ⟨Ao37, co37, eo37⟩ := Kd.R_slice HO246.out; subst eo37) | ((with_reducible refine gate_callee (f := 9) rfl ?_); refine goesL_ (some 64) rfl rfl Try.func9 (by kernel_rfl) rfl #[.slice Ao37 y244.length co37] rfl (by (try simp only [List.map_toArray, List.map_cons, List.map_nil]); first | done | rfl | (simp only [List.length_drop, List.length_take]; rfl)) ?_; (with_reducible refine (canon_Codes.calls _ _ y244 t247 t248 _ ?side1 ?side2 A30.out).mono ?_); (case side1 => repeat (first | exact (Kd.R_reads' HO246.out).2.2 | (with_reducible refine Kd.C_alloc ?_ _) | (with_reducible refine Kd.C_drewN ?_ _) | (with_reducible refine Kd.C_drew ?_))); (case side2 => exact (Kd.R_reads' HO246.out).2.1); rintro e w38 ⟨v249, rfl, ho0, hb⟩; refine ⟨_, rfl, ?_⟩; have n0_ := Aside0.mk (Kd.R_below (by (with_reducible repeat (first | apply Kd.R_alloc | apply Kd.R_drewN | apply Kd.R_drew)); exact HO_3.out) hb); have n1_ := Aside0.mk (Kd.R_below (by (with_reducible repeat (first | apply Kd.R_alloc | apply Kd.R_drewN | apply Kd.R_drew)); exact HO246.out) hb); have n2_ := Aside0.mk (Kd.R_lower ho0 (below_size (by repeat (first | (with_reducible first | exact HB.out | apply below_alloc | apply pw_below_drewN | apply below_drew1) | exact HB.out)))); have n3_ := Aside0.mk (below_step (by repeat (first | (with_reducible first | exact HB.out | apply below_alloc | apply pw_below_drewN | apply below_drew1) | exact HB.out)) hb); clear HO_3; clear HO246; clear HB; have HO_3 := n0_; have HO246 := n1_; have HO250 := n2_; have HB := n3_; clear n0_ n1_ n2_ n3_; (try clear hb); (try clear hb2); (try clear hk); (try clear hi); (try clear ho0)))
                    (try simp only [Act.put, List.setIfInBounds_toArray, List.set_cons_zero, List.set_cons_succ])
                    go_cut [79] (fun v79 wc => ∃ (kq : Nat) (x79_30 : Bool), v79 = .bool x79_30 ∧ Aside0 (wringerlaw9_CanonOrder.j2 kq x3_1 t247 x79_30 = some r) ∧ Aside0 (kq ≤ kj3) ∧ Aside0 (Kd.R (Kd.int .i64) 3 wc w.heap.size (fun _ => True) (.slice Ao32 x3_1.length co32) x3_1) ∧ Aside0 (Kd.R k40 40 wc w.heap.size (fun _ => True) v249 t247) ∧ Aside0 (Below w.heap.size w wc))
                    case first =>
                      have H := HC31.out
                      clear HC31
                      replace H := Option.bind_eq_some_iff.mp H
                      obtain ⟨t251, A390, H⟩ := H
                      replace H : (if t251 = 0 then (if (t247.length : Int) = 65 then ((canon_May.f kj3 y244).bind fun t252 => (wringerlaw9_CanonOrder.j2 kj3 x3_1 t247 (!t252))) else (wringerlaw9_CanonOrder.j2 kj3 x3_1 t247 true)) else (wringerlaw9_CanonOrder.j2 kj3 x3_1 t247 true)) = some r := H
                      have A39 := Aside0.mk A390
                      clear A390
                      by_cases c40 : t251 = 0
                      · rw [if_pos c40] at H
                        have c40b0 : (t251 == 0) = true := beq_iff_eq.mpr c40
                        have c40b1 : (t251 != 0) = false := bne_eq_false_iff_eq.mpr c40
                        clear c40
                        (first | rw [c40b0] | (simp only [i64_w, i32_w]; rw [c40b0]) | skip)
                        by_cases c41 : (t247.length : Int) = 65
                        · rw [if_pos c41] at H
                          have c41b0 : ((t247.length : Int) == 65) = true := beq_iff_eq.mpr c41
                          have c41b1 : ((t247.length : Int) != 65) = false := bne_eq_false_iff_eq.mpr c41
                          clear c41
                          replace H := Option.bind_eq_some_iff.mp H
                          obtain ⟨t252, A420, H⟩ := H
                          replace H : (wringerlaw9_CanonOrder.j2 kj3 x3_1 t247 (!t252)) = some r := H
                          have A42 := Aside0.mk A420
                          clear A420
                          have H' := Aside0.mk H
                          clear H
                          go_wp2_with (first | ((with_reducible refine gate_callee (f := 14) rfl ?_); refine goesL_ (some 68) rfl rfl Try.func14 (by kernel_rfl) rfl #[.int .i64 t248] rfl (by (try simp only [List.map_toArray, List.map_cons, List.map_nil]); first | done | rfl | (simp only [List.length_drop, List.length_take]; rfl)) ?_; (with_reducible refine (wringerlaw1_Err.calls t248 t251 _ A39.out).mono ?_); rintro e w' ⟨rfl, ⟨nd, rfl⟩⟩; refine ⟨_, rfl, ?_⟩; obtain ⟨Ao43, co43, eo43⟩ := Kd.R_slice HO250.out; subst eo43) | (go_at_call 11; (with_reducible refine (canon_May.calls kj3 _ _ y244 t252 _ ?side1 ?side2 A42.out).mono ?_); (case side1 => repeat (first | exact (Kd.R_reads' HO246.out).2.2 | (with_reducible refine Kd.C_alloc ?_ _) | (with_reducible refine Kd.C_drewN ?_ _) | (with_reducible refine Kd.C_drew ?_))); (case side2 => exact (Kd.R_reads' HO246.out).2.1); rintro e w' ⟨rfl, ⟨nd, rfl⟩⟩))
                          go_meet
                          case rel => exact ⟨_, (!t252), (by first | rfl | (simp; done) | (simp [*]; done)), H', ⟨by have := HK1.out; have := HJ3.out; first | omega | exact Nat.le_refl _⟩, ⟨by (with_reducible repeat (first | apply Kd.R_alloc | apply Kd.R_drewN | apply Kd.R_drew)); exact Kd.R_mono HO_3.out (fun _ hk => trivial)⟩, ⟨by (with_reducible repeat (first | apply Kd.R_alloc | apply Kd.R_drewN | apply Kd.R_drew)); exact HO250.out⟩, ⟨by repeat (first | (with_reducible first | exact HB.out | apply below_alloc | apply pw_below_drewN | apply below_drew1) | exact HB.out)⟩⟩
                        · rw [if_neg c41] at H
                          have c41b0 : ((t247.length : Int) == 65) = false := beq_eq_false_iff_ne.mpr c41
                          have c41b1 : ((t247.length : Int) != 65) = true := bne_iff_ne.mpr c41
                          have H' := Aside0.mk H
                          clear H
                          go_wp2_with (first | ((with_reducible refine gate_callee (f := 14) rfl ?_); refine goesL_ (some 68) rfl rfl Try.func14 (by kernel_rfl) rfl #[.int .i64 t248] rfl (by (try simp only [List.map_toArray, List.map_cons, List.map_nil]); first | done | rfl | (simp only [List.length_drop, List.length_take]; rfl)) ?_; (with_reducible refine (wringerlaw1_Err.calls t248 t251 _ A39.out).mono ?_); rintro e w' ⟨rfl, ⟨nd, rfl⟩⟩; refine ⟨_, rfl, ?_⟩; obtain ⟨Ao44, co44, eo44⟩ := Kd.R_slice HO250.out; subst eo44))
                          go_meet
                          case rel => exact ⟨_, (true), (by first | rfl | (simp; done) | (simp [*]; done)), H', ⟨by have := HK1.out; have := HJ3.out; first | omega | exact Nat.le_refl _⟩, ⟨by (with_reducible repeat (first | apply Kd.R_alloc | apply Kd.R_drewN | apply Kd.R_drew)); exact Kd.R_mono HO_3.out (fun _ hk => trivial)⟩, ⟨by (with_reducible repeat (first | apply Kd.R_alloc | apply Kd.R_drewN | apply Kd.R_drew)); exact HO250.out⟩, ⟨by repeat (first | (with_reducible first | exact HB.out | apply below_alloc | apply pw_below_drewN | apply below_drew1) | exact HB.out)⟩⟩
                      · rw [if_neg c40] at H
                        have c40b0 : (t251 == 0) = false := beq_eq_false_iff_ne.mpr c40
                        have c40b1 : (t251 != 0) = true := bne_iff_ne.mpr c40
                        (first | rw [c40b0] | (simp only [i64_w, i32_w]; rw [c40b0]) | skip)
                        have H' := Aside0.mk H
                        clear H
                        go_wp2_with (first | ((with_reducible refine gate_callee (f := 14) rfl ?_); refine goesL_ (some 68) rfl rfl Try.func14 (by kernel_rfl) rfl #[.int .i64 t248] rfl (by (try simp only [List.map_toArray, List.map_cons, List.map_nil]); first | done | rfl | (simp only [List.length_drop, List.length_take]; rfl)) ?_; (with_reducible refine (wringerlaw1_Err.calls t248 t251 _ A39.out).mono ?_); rintro e w' ⟨rfl, ⟨nd, rfl⟩⟩; refine ⟨_, rfl, ?_⟩))
                        go_meet
                        case rel => exact ⟨_, (true), (by first | rfl | (simp; done) | (simp [*]; done)), H', ⟨by have := HK1.out; have := HJ3.out; first | omega | exact Nat.le_refl _⟩, ⟨by (with_reducible repeat (first | apply Kd.R_alloc | apply Kd.R_drewN | apply Kd.R_drew)); exact Kd.R_mono HO_3.out (fun _ hk => trivial)⟩, ⟨by (with_reducible repeat (first | apply Kd.R_alloc | apply Kd.R_drewN | apply Kd.R_drew)); exact HO250.out⟩, ⟨by repeat (first | (with_reducible first | exact HB.out | apply below_alloc | apply pw_below_drewN | apply below_drew1) | exact HB.out)⟩⟩
                    case rest =>
                      clear HC31
                      try clear c1
                      try clear p1
                      try clear q1
                      try clear hx1
                      try clear hf1
                      try clear c2
                      try clear p2
                      try clear q2
                      try clear hx2
                      try clear c4
                      try clear c5
                      try clear c5b0
                      try clear c6
                      try clear p6
                      try clear c7
                      try clear c8
                      try clear c8b0
                      try clear c9
                      try clear c9b0
                      try clear c10
                      try clear c10b0
                      try clear c10b1
                      try clear c10b2
                      try clear c12
                      try clear c12b0
                      try clear c13
                      try clear c13b0
                      try clear c14
                      try clear c14b0
                      try clear p15
                      try clear q15
                      try clear hx15
                      try clear hf15
                      try clear c16
                      try clear c22
                      try clear c22b0
                      try clear c22b1
                      try clear p22
                      try clear q22
                      try clear hx22
                      try clear p23
                      try clear q23
                      try clear hx23
                      try clear c26
                      try clear c28
                      try clear c28b0
                      try clear c28b1
                      try clear c29
                      try clear c40
                      try clear c40b0
                      try clear c40b1
                      try clear c41
                      try clear c41b0
                      try clear c41b1
                      try clear hx15_0
                      try clear hx229_0
                      try clear hx230_0
                      try clear hx231_0
                      try clear hx233_0
                      try clear p15
                      try clear p2
                      try clear p229
                      try clear p230
                      try clear p231
                      try clear p233
                      try clear q15
                      try clear q229
                      try clear q230
                      try clear q231
                      try clear q233
                      obtain ⟨kq, x79_30, rfl, HA, HJ30, HO_3, HO_7, HB⟩ := hcut
                      cases kq with
                      | zero => exact absurd HA.out (by simp [wringerlaw9_CanonOrder.j2])
                      | succ kj30 =>
                        have H := HA.out
                        clear HA
                        simp only [wringerlaw9_CanonOrder.j2] at H
                        by_cases c45 : x79_30 = true
                        · subst c45
                          have H1 : (some false) = some r := by rw [if_pos rfl] at H; exact H
                          clear H
                          have H := H1
                          clear H1
                          obtain rfl := Option.some.inj H
                          go_wp2
                          go_ret
                          exact ⟨by first | rfl | (simp [errW_none, errW_some] <;> rfl) | (simp only [← hji27]; first | rfl | (simp [errW_none, errW_some] <;> rfl)) | (simp [*, errW_none, errW_some] <;> rfl), by repeat (first | (with_reducible first | exact HB.out | apply below_alloc | apply pw_below_drewN | apply below_drew1) | exact HB.out)⟩
                        · replace c45 := Bool.eq_false_iff.mpr c45
                          subst c45
                          have H1 : (wringerlaw9_CanonOrder.l1 kj30 x3_1 t247 (-1) 1) = some r := by rw [if_neg (show ¬ (false = true) by decide)] at H; exact H
                          clear H
                          have H := H1
                          clear H1
                          have H' := Aside0.mk H
                          clear H
                          go_wp2
                          go_loopg [9, 10] kj30 (fun kq v9 v10 w' => ∃ (x9_4 : Int) (x10_4 : Int), v9 = .int .i64 x9_4 ∧ v10 = .int .i64 x10_4 ∧ Aside0 (wringerlaw9_CanonOrder.l1 kq x3_1 t247 x9_4 x10_4 = some r) ∧ Aside0 (kq ≤ kj30) ∧ Aside0 (Kd.R (Kd.int .i64) 3 w' w.heap.size (fun _ => True) (.slice Ao32 x3_1.length co32) x3_1) ∧ Aside0 (Kd.R k40 40 w' w.heap.size (fun _ => True) v249 t247) ∧ Aside0 (Below w.heap.size w w'))
                          case atStart => exact ⟨((-1)), (1), (by first | rfl | (simp; done) | (simp [*]; done)), (by first | rfl | (simp; done) | (simp [*]; done)), H', ⟨Nat.le_refl _⟩, ⟨by (with_reducible repeat (first | apply Kd.R_alloc | apply Kd.R_drewN | apply Kd.R_drew)); exact HO_3.out⟩, ⟨by (with_reducible repeat (first | apply Kd.R_alloc | apply Kd.R_drewN | apply Kd.R_drew)); exact HO_7.out⟩, ⟨by repeat (first | (with_reducible first | exact HB.out | apply below_alloc | apply pw_below_drewN | apply below_drew1) | exact HB.out)⟩⟩
                          case round =>
                            clear H'
                            try clear c1
                            try clear p1
                            try clear q1
                            try clear hx1
                            try clear hf1
                            try clear c2
                            try clear p2
                            try clear q2
                            try clear hx2
                            try clear c4
                            try clear c5
                            try clear c5b0
                            try clear c6
                            try clear p6
                            try clear c7
                            try clear c8
                            try clear c8b0
                            try clear c9
                            try clear c9b0
                            try clear c10
                            try clear c10b0
                            try clear c10b1
                            try clear c10b2
                            try clear c12
                            try clear c12b0
                            try clear c13
                            try clear c13b0
                            try clear c14
                            try clear c14b0
                            try clear p15
                            try clear q15
                            try clear hx15
                            try clear hf15
                            try clear c16
                            try clear c22
                            try clear c22b0
                            try clear c22b1
                            try clear p22
                            try clear q22
                            try clear hx22
                            try clear p23
                            try clear q23
                            try clear hx23
                            try clear c26
                            try clear c28
                            try clear c28b0
                            try clear c28b1
                            try clear c29
                            try clear c40
                            try clear c40b0
                            try clear c40b1
                            try clear c41
                            try clear c41b0
                            try clear c41b1
                            try clear c45
                            try clear hx15_0
                            try clear hx229_0
                            try clear hx230_0
                            try clear hx231_0
                            try clear hx233_0
                            try clear p1
                            try clear p15
                            try clear p2
                            try clear p22
                            try clear p229
                            try clear p23
                            try clear p230
                            try clear p231
                            try clear p233
                            try clear p6
                            try clear q1
                            try clear q15
                            try clear q2
                            try clear q22
                            try clear q229
                            try clear q23
                            try clear q230
                            try clear q231
                            try clear q233
                            obtain ⟨x9_4, x10_4, rfl, rfl, HA, HK4, HO_3, HO_7, HB⟩ := hrel
                            cases gk with
                            | zero => exact absurd HA.out (by simp [wringerlaw9_CanonOrder.l1])
                            | succ k4 =>
                              have H := HA.out
                              clear HA
                              simp only [wringerlaw9_CanonOrder.l1] at H
                              by_cases c46 : x10_4 ≤ 15
                              · rw [if_pos c46] at H
                                have c46b0 : decide (x10_4 ≤ 15) = true := decide_eq_true c46
                                clear c46
                                have H' := Aside0.mk H
                                clear H
                                go_wp2
                                go_loopg [9, 11] k4 (fun kq v9 v11 w' => ∃ (x9_5 : Int) (x11_5 : Int), v9 = .int .i64 x9_5 ∧ v11 = .int .i64 x11_5 ∧ Aside0 (wringerlaw9_CanonOrder.l2 kq x3_1 t247 x9_5 x10_4 x11_5 = some r) ∧ Aside0 (kq ≤ k4) ∧ Aside0 (Kd.R (Kd.int .i64) 3 w' w.heap.size (fun _ => True) (.slice Ao32 x3_1.length co32) x3_1) ∧ Aside0 (Kd.R k40 40 w' w.heap.size (fun _ => True) v249 t247) ∧ Aside0 (Below w.heap.size w w'))
                                case atStart => exact ⟨(x9_4), (0), (by first | rfl | (simp; done) | (simp [*]; done)), (by first | rfl | (simp; done) | (simp [*]; done)), H', ⟨Nat.le_refl _⟩, ⟨by (with_reducible repeat (first | apply Kd.R_alloc | apply Kd.R_drewN | apply Kd.R_drew)); exact HO_3.out⟩, ⟨by (with_reducible repeat (first | apply Kd.R_alloc | apply Kd.R_drewN | apply Kd.R_drew)); exact HO_7.out⟩, ⟨by repeat (first | (with_reducible first | exact HB.out | apply below_alloc | apply pw_below_drewN | apply below_drew1) | exact HB.out)⟩⟩
                                case round =>
                                  clear H'
                                  try clear c1
                                  try clear p1
                                  try clear q1
                                  try clear hx1
                                  try clear hf1
                                  try clear c2
                                  try clear p2
                                  try clear q2
                                  try clear hx2
                                  try clear c4
                                  try clear c5
                                  try clear c5b0
                                  try clear c6
                                  try clear p6
                                  try clear c7
                                  try clear c8
                                  try clear c8b0
                                  try clear c9
                                  try clear c9b0
                                  try clear c10
                                  try clear c10b0
                                  try clear c10b1
                                  try clear c10b2
                                  try clear c12
                                  try clear c12b0
                                  try clear c13
                                  try clear c13b0
                                  try clear c14
                                  try clear c14b0
                                  try clear p15
                                  try clear q15
                                  try clear hx15
                                  try clear hf15
                                  try clear c16
                                  try clear c22
                                  try clear c22b0
                                  try clear c22b1
                                  try clear p22
                                  try clear q22
                                  try clear hx22
                                  try clear p23
                                  try clear q23
                                  try clear hx23
                                  try clear c26
                                  try clear c28
                                  try clear c28b0
                                  try clear c28b1
                                  try clear c29
                                  try clear c40
                                  try clear c40b0
                                  try clear c40b1
                                  try clear c41
                                  try clear c41b0
                                  try clear c41b1
                                  try clear c45
                                  try clear c46
                                  try clear c46b0
                                  try clear hx15_0
                                  try clear hx229_0
                                  try clear hx230_0
                                  try clear hx231_0
                                  try clear hx233_0
                                  try clear p1
                                  try clear p15
                                  try clear p2
                                  try clear p22
                                  try clear p229
                                  try clear p23
                                  try clear p230
                                  try clear p231
                                  try clear p233
                                  try clear p6
                                  try clear q1
                                  try clear q15
                                  try clear q2
                                  try clear q22
                                  try clear q229
                                  try clear q23
                                  try clear q230
                                  try clear q231
                                  try clear q233
                                  obtain ⟨x9_5, x11_5, rfl, rfl, HA, HK5, HO_3, HO_7, HB⟩ := hrel
                                  cases gk with
                                  | zero => exact absurd HA.out (by simp [wringerlaw9_CanonOrder.l2])
                                  | succ k5 =>
                                    have H := HA.out
                                    clear HA
                                    simp only [wringerlaw9_CanonOrder.l2] at H
                                    by_cases c47 : x11_5 < (x3_1.length : Int)
                                    · rw [if_pos c47] at H
                                      have c47b0 : decide (x11_5 < (x3_1.length : Int)) = true := decide_eq_true c47
                                      clear c47
                                      by_cases c48 : 0 ≤ x11_5
                                      · rw [if_pos c48] at H
                                        have c48b0 : decide (0 ≤ x11_5) = true := decide_eq_true c48
                                        clear c48
                                        by_cases c49 : (rd x3_1 x11_5) = x10_4
                                        · rw [if_pos c49] at H
                                          have c49b0 : ((rd x3_1 x11_5) == x10_4) = true := beq_iff_eq.mpr c49
                                          have c49b1 : ((rd x3_1 x11_5) != x10_4) = false := bne_eq_false_iff_eq.mpr c49
                                          clear c49
                                          by_cases c50 : x11_5 < (t247.length : Int)
                                          · rw [if_pos c50] at H
                                            have c50b0 : decide (x11_5 < (t247.length : Int)) = true := decide_eq_true c50
                                            clear c50
                                            obtain ⟨ji51, hji51⟩ : ∃ j_ : Int, (wrap64 (15 - x10_4)) = j_ := ⟨_, rfl⟩
                                            replace H : (if 0 ≤ (ji51) then (if (shl .i64 ((rd_T40 t247 x11_5).f0) (ji51)) ≤ x9_5 then (some false) else (if ((rd_T40 t247 x11_5).f1) = x10_4 then (wringerlaw9_CanonOrder.l2 k5 x3_1 t247 (wrap64 ((wrap64 ((shl .i64 ((rd_T40 t247 x11_5).f0) (ji51)) + (shl .i64 1 (ji51)))) - 1)) x10_4 (wrap64 (x11_5 + 1))) else (some false))) else (none)) = some r := by first | (rw [hji51] at H; exact H) | (simp only [hji51] at H ⊢; exact H)
                                            have hji51w : (IntKind.i64.wrap (15 - x10_4)) = ji51 := (i64_w _).trans hji51
                                            by_cases c52 : 0 ≤ (ji51)
                                            · rw [if_pos c52] at H
                                              have c52b0 := eq_true c52
                                              have c52b1 : decide (0 ≤ (ji51)) = true := decide_eq_true c52
                                              clear c52
                                              obtain ⟨ji53, hji53⟩ : ∃ j_ : Int, (shl .i64 ((rd_T40 t247 x11_5).f0) (ji51)) = j_ := ⟨_, rfl⟩
                                              replace H : (if (ji53) ≤ x9_5 then (some false) else (if ((rd_T40 t247 x11_5).f1) = x10_4 then (wringerlaw9_CanonOrder.l2 k5 x3_1 t247 (wrap64 ((wrap64 ((ji53) + (shl .i64 1 (ji51)))) - 1)) x10_4 (wrap64 (x11_5 + 1))) else (some false))) = some r := by first | (rw [hji53] at H; exact H) | (simp only [hji53] at H ⊢; exact H)
                                              have hji53_ : (IntKind.i64.wrap (((rd_T40 t247 x11_5).f0) * 2 ^ min (ji51).toNat 64)) = ji53 := hji53
                                              have hji53z : (ji51) ≤ 64 → (IntKind.i64.wrap (((rd_T40 t247 x11_5).f0) * 2 ^ (ji51).toNat)) = ji53 := shl_small hji53
                                              have hji53y : (wrap64 (((rd_T40 t247 x11_5).f0) * 2 ^ min (ji51).toNat 64)) = ji53 := (i64_w _).symm.trans hji53_
                                              have hji53x : (ji51) ≤ 64 → (wrap64 (((rd_T40 t247 x11_5).f0) * 2 ^ (ji51).toNat)) = ji53 := fun h_ => (i64_w _).symm.trans (hji53z h_)
                                              by_cases c54 : (ji53) ≤ x9_5
                                              · rw [if_pos c54] at H
                                                have c54b0 : decide ((ji53) ≤ x9_5) = true := decide_eq_true c54
                                                clear c54
                                                obtain rfl := Option.some.inj H
                                                have p254 : 0 ≤ (x11_5 : Int) := of_decide_eq_true (by first | (with_reducible assumption) | assumption)
                                                have q254 : x11_5 < (x3_1.length : Int) := of_decide_eq_true (by first | (with_reducible assumption) | assumption)
                                                obtain ⟨ad254, e254, hx254_0⟩ := Kd.at_int (Kd.R_reads' HO_3.out).2.2 x11_5 p254 q254
                                                cases e254
                                                replace p254 := eq_true p254
                                                replace q254 := eq_true q254
                                                obtain ⟨Ao55, co55, eo55⟩ := Kd.R_slice HO_7.out
                                                subst eo55
                                                have p255 : 0 ≤ (x11_5 : Int) := of_decide_eq_true (by first | (with_reducible assumption) | assumption)
                                                have q255 : x11_5 < (t247.length : Int) := of_decide_eq_true (by first | (with_reducible assumption) | assumption)
                                                obtain ⟨ad255, e255, hx255_0, hx255_1⟩ := at_T40 (Kd.R_reads' HO_7.out).2.2 x11_5 p255 q255
                                                cases e255
                                                replace p255 := eq_true p255
                                                replace q255 := eq_true q255
                                                go_wp2
                                                go_ret
                                                exact ⟨by first | rfl | (simp [errW_none, errW_some] <;> rfl) | (simp only [← hji27, ← hji51, ← hji53]; first | rfl | (simp [errW_none, errW_some] <;> rfl)) | (simp [*, errW_none, errW_some] <;> rfl), by repeat (first | (with_reducible first | exact HB.out | apply below_alloc | apply pw_below_drewN | apply below_drew1) | exact HB.out)⟩
                                              · rw [if_neg c54] at H
                                                have c54b0 : decide ((ji53) ≤ x9_5) = false := decide_eq_false c54
                                                clear c54
                                                by_cases c56 : ((rd_T40 t247 x11_5).f1) = x10_4
                                                · rw [if_pos c56] at H
                                                  have c56b0 : (((rd_T40 t247 x11_5).f1) == x10_4) = true := beq_iff_eq.mpr c56
                                                  have c56b1 : (((rd_T40 t247 x11_5).f1) != x10_4) = false := bne_eq_false_iff_eq.mpr c56
                                                  clear c56
                                                  have c57b0 := eq_true (of_decide_eq_true (by first | (with_reducible assumption) | assumption) : 0 ≤ (ji51))
                                                  obtain ⟨ji58, hji58⟩ : ∃ j_ : Int, (shl .i64 1 (ji51)) = j_ := ⟨_, rfl⟩
                                                  replace H : (wringerlaw9_CanonOrder.l2 k5 x3_1 t247 (wrap64 ((wrap64 ((ji53) + (ji58))) - 1)) x10_4 (wrap64 (x11_5 + 1))) = some r := by first | (rw [hji58] at H; exact H) | (simp only [hji58] at H ⊢; exact H)
                                                  have hji58_ : (IntKind.i64.wrap (1 * 2 ^ min (ji51).toNat 64)) = ji58 := hji58
                                                  have hji58z : (ji51) ≤ 64 → (IntKind.i64.wrap (1 * 2 ^ (ji51).toNat)) = ji58 := shl_small hji58
                                                  have hji58u : (IntKind.i64.wrap (2 ^ min (ji51).toNat 64)) = ji58 := by have h_ := hji58_; rw [Int.one_mul] at h_; exact h_
                                                  have hji58v : (ji51) ≤ 64 → (IntKind.i64.wrap (2 ^ (ji51).toNat)) = ji58 := fun hle_ => by have h_ := hji58z hle_; rw [Int.one_mul] at h_; exact h_
                                                  have hji58y : (wrap64 (1 * 2 ^ min (ji51).toNat 64)) = ji58 := (i64_w _).symm.trans hji58_
                                                  have hji58x : (ji51) ≤ 64 → (wrap64 (1 * 2 ^ (ji51).toNat)) = ji58 := fun h_ => (i64_w _).symm.trans (hji58z h_)
                                                  have H' := Aside0.mk H
                                                  clear H
                                                  have p254 : 0 ≤ (x11_5 : Int) := of_decide_eq_true (by first | (with_reducible assumption) | assumption)
                                                  have q254 : x11_5 < (x3_1.length : Int) := of_decide_eq_true (by first | (with_reducible assumption) | assumption)
                                                  obtain ⟨ad254, e254, hx254_0⟩ := Kd.at_int (Kd.R_reads' HO_3.out).2.2 x11_5 p254 q254
                                                  cases e254
                                                  replace p254 := eq_true p254
                                                  replace q254 := eq_true q254
                                                  obtain ⟨Ao59, co59, eo59⟩ := Kd.R_slice HO_7.out
                                                  subst eo59
                                                  have p255 : 0 ≤ (x11_5 : Int) := of_decide_eq_true (by first | (with_reducible assumption) | assumption)
                                                  have q255 : x11_5 < (t247.length : Int) := of_decide_eq_true (by first | (with_reducible assumption) | assumption)
                                                  obtain ⟨ad255, e255, hx255_0, hx255_1⟩ := at_T40 (Kd.R_reads' HO_7.out).2.2 x11_5 p255 q255
                                                  cases e255
                                                  replace p255 := eq_true p255
                                                  replace q255 := eq_true q255
                                                  have p256 : 0 ≤ (x11_5 : Int) := of_decide_eq_true (by first | (with_reducible assumption) | assumption)
                                                  have q256 : x11_5 < (t247.length : Int) := of_decide_eq_true (by first | (with_reducible assumption) | assumption)
                                                  obtain ⟨ad256, e256, hx256_0, hx256_1⟩ := at_T40 (Kd.R_reads' HO_7.out).2.2 x11_5 p256 q256
                                                  obtain rfl : ad255 = ad256 := (by injection e256)
                                                  replace p256 := eq_true p256
                                                  replace q256 := eq_true q256
                                                  go_wp2
                                                  go_roundg k5
                                                  case measure => have := HK1.out; have := HJ3.out; have := HJ30.out; have := HK4.out; have := HK5.out; omega
                                                  case rel => exact ⟨(wrap64 ((wrap64 ((ji53) + (ji58))) - 1)), (wrap64 (x11_5 + 1)), (by first | rfl | (simp; done) | (simp only [← hji53, ← hji58] <;> (first | rfl | simp)) | (simp [*]; done)), (by first | rfl | (simp; done) | (simp [*]; done)), H', ⟨by have := HK1.out; have := HJ3.out; have := HJ30.out; have := HK4.out; have := HK5.out; omega⟩, ⟨by (with_reducible repeat (first | apply Kd.R_alloc | apply Kd.R_drewN | apply Kd.R_drew)); exact HO_3.out⟩, ⟨by (with_reducible repeat (first | apply Kd.R_alloc | apply Kd.R_drewN | apply Kd.R_drew)); exact HO_7.out⟩, ⟨by repeat (first | (with_reducible first | exact HB.out | apply below_alloc | apply pw_below_drewN | apply below_drew1) | exact HB.out)⟩⟩
                                                · rw [if_neg c56] at H
                                                  have c56b0 : (((rd_T40 t247 x11_5).f1) == x10_4) = false := beq_eq_false_iff_ne.mpr c56
                                                  have c56b1 : (((rd_T40 t247 x11_5).f1) != x10_4) = true := bne_iff_ne.mpr c56
                                                  obtain rfl := Option.some.inj H
                                                  have p254 : 0 ≤ (x11_5 : Int) := of_decide_eq_true (by first | (with_reducible assumption) | assumption)
                                                  have q254 : x11_5 < (x3_1.length : Int) := of_decide_eq_true (by first | (with_reducible assumption) | assumption)
                                                  obtain ⟨ad254, e254, hx254_0⟩ := Kd.at_int (Kd.R_reads' HO_3.out).2.2 x11_5 p254 q254
                                                  cases e254
                                                  replace p254 := eq_true p254
                                                  replace q254 := eq_true q254
                                                  obtain ⟨Ao60, co60, eo60⟩ := Kd.R_slice HO_7.out
                                                  subst eo60
                                                  have p255 : 0 ≤ (x11_5 : Int) := of_decide_eq_true (by first | (with_reducible assumption) | assumption)
                                                  have q255 : x11_5 < (t247.length : Int) := of_decide_eq_true (by first | (with_reducible assumption) | assumption)
                                                  obtain ⟨ad255, e255, hx255_0, hx255_1⟩ := at_T40 (Kd.R_reads' HO_7.out).2.2 x11_5 p255 q255
                                                  cases e255
                                                  replace p255 := eq_true p255
                                                  replace q255 := eq_true q255
                                                  have p256 : 0 ≤ (x11_5 : Int) := of_decide_eq_true (by first | (with_reducible assumption) | assumption)
                                                  have q256 : x11_5 < (t247.length : Int) := of_decide_eq_true (by first | (with_reducible assumption) | assumption)
                                                  obtain ⟨ad256, e256, hx256_0, hx256_1⟩ := at_T40 (Kd.R_reads' HO_7.out).2.2 x11_5 p256 q256
                                                  obtain rfl : ad255 = ad256 := (by injection e256)
                                                  replace p256 := eq_true p256
                                                  replace q256 := eq_true q256
                                                  go_wp2
                                                  go_ret
                                                  exact ⟨by first | rfl | (simp [errW_none, errW_some] <;> rfl) | (simp only [← hji27, ← hji51, ← hji53]; first | rfl | (simp [errW_none, errW_some] <;> rfl)) | (simp [*, errW_none, errW_some] <;> rfl), by repeat (first | (with_reducible first | exact HB.out | apply below_alloc | apply pw_below_drewN | apply below_drew1) | exact HB.out)⟩
                                            · rw [if_neg c52] at H
                                              exact absurd H (by simp)
                                          · rw [if_neg c50] at H
                                            exact absurd H (by simp)
                                        · rw [if_neg c49] at H
                                          have c49b0 : ((rd x3_1 x11_5) == x10_4) = false := beq_eq_false_iff_ne.mpr c49
                                          have c49b1 : ((rd x3_1 x11_5) != x10_4) = true := bne_iff_ne.mpr c49
                                          have H' := Aside0.mk H
                                          clear H
                                          have p254 : 0 ≤ (x11_5 : Int) := of_decide_eq_true (by first | (with_reducible assumption) | assumption)
                                          have q254 : x11_5 < (x3_1.length : Int) := of_decide_eq_true (by first | (with_reducible assumption) | assumption)
                                          obtain ⟨ad254, e254, hx254_0⟩ := Kd.at_int (Kd.R_reads' HO_3.out).2.2 x11_5 p254 q254
                                          cases e254
                                          replace p254 := eq_true p254
                                          replace q254 := eq_true q254
                                          go_wp2
                                          go_roundg k5
                                          case measure => have := HK1.out; have := HJ3.out; have := HJ30.out; have := HK4.out; have := HK5.out; omega
                                          case rel => exact ⟨(x9_5), (wrap64 (x11_5 + 1)), (by first | rfl | (simp; done) | (simp [*]; done)), (by first | rfl | (simp; done) | (simp [*]; done)), H', ⟨by have := HK1.out; have := HJ3.out; have := HJ30.out; have := HK4.out; have := HK5.out; omega⟩, ⟨by (with_reducible repeat (first | apply Kd.R_alloc | apply Kd.R_drewN | apply Kd.R_drew)); exact HO_3.out⟩, ⟨by (with_reducible repeat (first | apply Kd.R_alloc | apply Kd.R_drewN | apply Kd.R_drew)); exact HO_7.out⟩, ⟨by repeat (first | (with_reducible first | exact HB.out | apply below_alloc | apply pw_below_drewN | apply below_drew1) | exact HB.out)⟩⟩
                                      · rw [if_neg c48] at H
                                        exact absurd H (by simp)
                                    · rw [if_neg c47] at H
                                      have c47b0 : decide (x11_5 < (x3_1.length : Int)) = false := decide_eq_false c47
                                      clear c47
                                      have H' := Aside0.mk H
                                      clear H
                                      go_wp2
                                      go_roundg k5
                                      case measure => have := HK1.out; have := HJ3.out; have := HJ30.out; have := HK4.out; have := HK5.out; omega
                                      case rel => exact ⟨(x9_5), (wrap64 (x10_4 + 1)), (by first | rfl | (simp; done) | (simp [*]; done)), (by first | rfl | (simp; done) | (simp [*]; done)), H', ⟨by have := HK1.out; have := HJ3.out; have := HJ30.out; have := HK4.out; have := HK5.out; omega⟩, ⟨by (with_reducible repeat (first | apply Kd.R_alloc | apply Kd.R_drewN | apply Kd.R_drew)); exact HO_3.out⟩, ⟨by (with_reducible repeat (first | apply Kd.R_alloc | apply Kd.R_drewN | apply Kd.R_drew)); exact HO_7.out⟩, ⟨by repeat (first | (with_reducible first | exact HB.out | apply below_alloc | apply pw_below_drewN | apply below_drew1) | exact HB.out)⟩⟩
                              · rw [if_neg c46] at H
                                have c46b0 : decide (x10_4 ≤ 15) = false := decide_eq_false c46
                                clear c46
                                by_cases c61 : x9_4 = 32767
                                · rw [if_pos c61] at H
                                  have c61b0 : (x9_4 == 32767) = true := beq_iff_eq.mpr c61
                                  have c61b1 : (x9_4 != 32767) = false := bne_eq_false_iff_eq.mpr c61
                                  clear c61
                                  replace H := Option.bind_eq_some_iff.mp H
                                  obtain ⟨t253, A620, H⟩ := H
                                  replace H : (some t253) = some r := H
                                  have A62 := Aside0.mk A620
                                  clear A620
                                  obtain rfl := Option.some.inj H
                                  go_wp2_with (first | (go_at_call 8; (with_reducible refine (wringerlaw9_awake.calls k4  t253 _ A62.out).mono ?_); rintro e w63 ⟨rfl, hb⟩; have n0_ := Aside0.mk (Kd.R_below (by (with_reducible repeat (first | apply Kd.R_alloc | apply Kd.R_drewN | apply Kd.R_drew)); exact HO_3.out) hb); have n1_ := Aside0.mk (Kd.R_below (by (with_reducible repeat (first | apply Kd.R_alloc | apply Kd.R_drewN | apply Kd.R_drew)); exact HO_7.out) hb); have n2_ := Aside0.mk (below_step (by repeat (first | (with_reducible first | exact HB.out | apply below_alloc | apply pw_below_drewN | apply below_drew1) | exact HB.out)) hb); clear HO_3; clear HO_7; clear HB; have HO_3 := n0_; have HO_7 := n1_; have HB := n2_; clear n0_ n1_ n2_; (try clear hb); (try clear hb2); (try clear hk); (try clear hi)))
                                  go_ret
                                  exact ⟨by first | rfl | (simp [errW_none, errW_some] <;> rfl) | (simp only [← hji27]; first | rfl | (simp [errW_none, errW_some] <;> rfl)) | (simp [*, errW_none, errW_some] <;> rfl), by repeat (first | (with_reducible first | exact HB.out | apply below_alloc | apply pw_below_drewN | apply below_drew1) | exact HB.out)⟩
                                · rw [if_neg c61] at H
                                  have c61b0 : (x9_4 == 32767) = false := beq_eq_false_iff_ne.mpr c61
                                  have c61b1 : (x9_4 != 32767) = true := bne_iff_ne.mpr c61
                                  obtain rfl := Option.some.inj H
                                  go_wp2
                                  go_ret
                                  exact ⟨by first | rfl | (simp [errW_none, errW_some] <;> rfl) | (simp only [← hji27]; first | rfl | (simp [errW_none, errW_some] <;> rfl)) | (simp [*, errW_none, errW_some] <;> rfl), by repeat (first | (with_reducible first | exact HB.out | apply below_alloc | apply pw_below_drewN | apply below_drew1) | exact HB.out)⟩
                  · rw [if_neg c29] at H
                    exact absurd H (by simp)
                · rw [if_neg c28] at H
                  exact absurd H (by simp)
              · rw [if_neg c26] at H
                exact absurd H (by simp)

/-- THE ONE PURE STATEMENT of wringerlaw9_CanonOrder: yours. -/
def wringerlaw9_CanonOrder.Pure : Prop := ∀ (l0 : List Int), l0.length ≤ maxLen → l0.length * 1 ≤ 140737488351232 → (∀ x ∈ l0, (Lit.int .u8 x).wf = true) → ∃ k, wringerlaw9_CanonOrder.f k l0 = some true
theorem wringerlaw9_CanonOrder.walk (P : wringerlaw9_CanonOrder.Pure) (a0 : Option Addr) (len0 cap0 : Nat) (z0 : List Int) (w : World) (w0 : (a0 = none ∧ len0 = 0 ∧ cap0 = 0 ∧ z0 = []) ∨ ∃ x, a0 = some x ∧ len0 ≤ cap0 ∧ cap0 ≤ maxLen ∧ z0.length = cap0 ∧ (∀ i, i < z0.length → w.cell? (x.add i) = some (.int .u8 (z0.getD i 0))) ∧ ∀ n ∈ z0, (Lit.int .u8 n).wf = true) (y0 : len0 * 1 ≤ 140737488351232) :
    Calls Try.prog 6 #[.slice a0 len0 cap0] w fun e w' => e = .returned (.bool true) ∧ Below w.heap.size w w' := by
  obtain ⟨l0, rfl, hr0, hm0, hw0, hc0⟩ := ReadsInt.ofRowC w0
  obtain ⟨k, h⟩ := P l0 hm0 y0 hw0
  refine (wringerlaw9_CanonOrder.calls k _ _ l0 true w (Kd.C_of_reads (d := (0 : Int)) (h1 := fun _ => rfl) hr0) hc0 h).mono ?_
  rintro e w' ⟨rfl, hd⟩
  exact ⟨rfl, hd⟩

end Go.Proofs.Ytkdmamffbhlbgaa.PA

-- ---- PureCanonOrder
/- Codes, filled up to one length, rise by lengths, and by classes; the last one is all ones: the plain statement of CanonOrder holds for every input. Conditions: none. -/
namespace Go.Proofs.Ytkdmamffbhlbgaa.Pure
open Go.RowKit Go.Proofs.Ytkdmamffbhlbgaa.PA Go.Proofs.YtkdmamffbhlbgaaW.PrintWords Go.Proofs.YtkdmamffbhlbgaaW.PrintLast Go.Proofs.YtkdmamffbhlbgaaW.PrintMore Dp Cd
set_option linter.unusedVariables false
set_option linter.unusedSimpArgs false

theorem rdC_nat (xs : List CodeS) (i : Nat) : rd_T40 xs (i : Int) = xs.getD i zC := by unfold rd_T40; rw [Int.toNat_natCast]
/-- A place's code is what it was when it came. -/
theorem code_keep (l : List Int) (c : Nat) : ∀ (rest done : List Nat), c ∉ rest → ((cst l (done ++ rest)).1).getD c (0, 0) = ((cst l done).1).getD c (0, 0) := by
  intro rest
  induction rest with
  | nil => intro done _; rw [List.append_nil]
  | cons a t ih =>
    intro done hc
    have e : done ++ a :: t = (done ++ [a]) ++ t := by simp
    rw [e, ih (done ++ [a]) (fun h => hc (List.mem_cons_of_mem _ h)), cst_snoc]
    have : a ≠ c := fun e => hc (by rw [e]; simp)
    simp only [cstep, List.getD_eq_getElem?_getD, List.getElem?_set_ne this]
theorem code_at (l : List Int) {done rest : List Nat} {c : Nat} (h : ordS l = done ++ c :: rest) (hc : c < 65) : (codeL l).getD c (0, 0) = (((nx (cst l done).2 (l.getD c 0).toNat).1 : Int), ((nx (cst l done).2 (l.getD c 0).toNat).2 : Int)) := by
  have hnd := nodup_ordS l
  rw [h] at hnd
  have hcr : c ∉ rest := (List.nodup_cons.1 (List.nodup_append.1 hnd).2.1).1
  unfold codeL
  rw [h, show done ++ c :: rest = (done ++ [c]) ++ rest by simp, code_keep l c rest _ hcr, cst_snoc]
  have hl : c < (cst l done).1.length := by rw [length_cst]; exact hc
  simp [cstep, List.getD_eq_getElem?_getD, List.getElem?_set_self hl]
theorem dn_prefix (l : List Int) (n i : Nat) (h1 : 1 ≤ n) (h2 : n ≤ 15) (hi : i < l.length) (hn : l.getD i 0 = (n : Int)) : ∃ rest, ordS l = dn l n i ++ i :: rest := by
  have e : List.range' 1 15 = List.range' 1 (n - 1) ++ (n :: List.range' (n + 1) (15 - n)) := by
    have h3 := List.range'_append_1 (s := 1) (m := n - 1) (n := 15 - (n - 1))
    rw [show n - 1 + (15 - (n - 1)) = 15 by omega] at h3
    rw [← h3, show 15 - (n - 1) = (15 - n) + 1 by omega, List.range'_succ, show 1 + (n - 1) = n by omega]
  have e2 : List.range l.length = List.range i ++ i :: List.range' (i + 1) (l.length - i - 1) := by
    rw [List.range_eq_range', List.range_eq_range']
    have h3 := List.range'_append_1 (s := 0) (m := i) (n := l.length - i)
    rw [show i + (l.length - i) = l.length by omega, Nat.zero_add] at h3
    rw [← h3, show l.length - i = (l.length - i - 1) + 1 by omega, List.range'_succ]
    simp
  refine ⟨(List.range' (i + 1) (l.length - i - 1)).filter (fun j => l.getD j 0 == (n : Int)) ++ (List.range' (n + 1) (15 - n)).flatMap fun m : Nat => (List.range l.length).filter fun j => l.getD j 0 == (m : Int), ?_⟩
  unfold ordS dn
  rw [e, List.flatMap_append, List.flatMap_cons]
  have e3 : (List.range l.length).filter (fun j => l.getD j 0 == (n : Int)) = (List.range i).filter (fun j => l.getD j 0 == (n : Int)) ++ i :: (List.range' (i + 1) (l.length - i - 1)).filter (fun j => l.getD j 0 == (n : Int)) := by
    conv => lhs; rw [e2]
    rw [List.filter_append, List.filter_cons, if_pos (by rw [beq_iff_eq]; exact hn)]
  rw [e3]
  simp [List.append_assoc]

/-- What is known where a place's turn comes. -/
theorem turn_at {l : List Int} (hm : mayL l = true) {n i : Nat} (h1 : 1 ≤ n) (h15 : n ≤ 15) (hi : i < 65) (hn : l.getD i 0 = (n : Int)) :
    ∃ b : Nat, (codeL l).getD i (0, 0) = ((b : Int), (n : Int)) ∧ b * 2 ^ (15 - n) = kd l (dn l n i) ∧ kd l (dn l n i) + 2 ^ (15 - n) ≤ ks l := by
  obtain ⟨h65, hr⟩ := may_range hm
  have hx15 : ∀ x ∈ l, x ≤ 15 := fun x hx => (hr x hx).2
  obtain ⟨rest, ho⟩ := dn_prefix l n i h1 h15 (by omega) hn
  have hso := sorted_ordS l
  rw [ho] at hso
  have hso2 := List.pairwise_append.1 hso
  have hmem : ∀ a ∈ dn l n i, 1 ≤ l.getD a 0 ∧ l.getD a 0 ≤ 15 := fun a ha => (mem_ordS.1 (by rw [ho]; exact List.mem_append_left _ ha)).2
  have hinv := cst_inv l (dn l n i) (hso2.1.imp fun {a b} h => by omega) hmem
  have hle := hinv.2 (n : Int) (fun a ha => by have := hso2.2.2 a ha i (by simp); omega)
  have hinv2 := inv_nx (n := n) hinv.1 h1 h15 (by omega)
  have hn2 : (nx (cst l (dn l n i)).2 n).2 = n := by unfold nx; split <;> rfl
  have hc := code_at l ho hi
  rw [hn, Int.toNat_natCast, hn2] at hc
  refine ⟨_, hc, ?_, ?_⟩
  · rcases hinv2 with ⟨h0, _⟩ | ⟨_, _, h2⟩
    · omega
    · rw [hn2, Nat.add_mul, Nat.one_mul] at h2
      omega
  · have h := kd_all l hx15
    rw [← h, ho, kd_append]
    have h3 : kd l (i :: rest) = 2 ^ (15 - n) + kd l rest := by unfold kd; rw [List.map_cons, List.sum_cons, hn, Int.toNat_natCast]
    omega

/-- Lengths by cutting. -/
def q15 (l : List Int) : Nat := (l.map fun x => 2 ^ (15 - x.toNat)).sum
structure Cut (l : List Int) : Prop where
  each : ∀ x ∈ l, 0 ≤ x ∧ x ≤ 15
  sum : q15 l = 32768
  lo : 1 ≤ l.length
  hi : l.length ≤ 60
  pos : 2 ≤ l.length → ∀ x ∈ l, 1 ≤ x
theorem q15_set : ∀ (l : List Int) (i : Nat) (v : Int), i < l.length → q15 (l.set i v) + 2 ^ (15 - (l.getD i 0).toNat) = q15 l + 2 ^ (15 - v.toNat) := by
  intro l
  induction l with
  | nil => intro i v h; simp at h
  | cons a t ih =>
    intro i v h
    cases i with
    | zero => simp only [q15, List.set_cons_zero, List.map_cons, List.sum_cons, List.getD_cons_zero]; omega
    | succ i =>
      have := ih i v (by simpa using h)
      simp only [q15, List.set_cons_succ, List.map_cons, List.sum_cons, List.getD_cons_succ] at this ⊢
      omega
theorem Cut.step {l : List Int} (h : Cut l) (q : Nat) (hq : q < l.length) (h15 : l.getD q 0 < 15) (h60 : l.length < 60) : Cut (l.set q (l.getD q 0 + 1) ++ [l.getD q 0 + 1]) := by
  have hm : l.getD q 0 ∈ l := by simp [List.getD_eq_getElem?_getD, hq]
  have he := h.each _ hm
  obtain ⟨x, hx⟩ : ∃ x : Nat, l.getD q 0 = (x : Int) := ⟨(l.getD q 0).toNat, by omega⟩
  rw [hx] at he h15 ⊢
  refine ⟨fun y hy => ?_, ?_, by simp, by simp; omega, fun _ y hy => ?_⟩
  · rcases List.mem_append.1 hy with hy | hy
    · rcases List.mem_or_eq_of_mem_set hy with hy | hy
      · exact h.each y hy
      · omega
    · simp at hy; omega
  · have h1 := q15_set l q ((x : Int) + 1) hq
    rw [hx, h.sum, Int.toNat_natCast] at h1
    have e : 2 ^ (15 - x) = 2 * 2 ^ (15 - (x + 1)) := by rw [show 15 - x = (15 - (x + 1)) + 1 by omega, Nat.pow_succ]; omega
    have e2 : ((x : Int) + 1).toNat = x + 1 := by omega
    rw [e2, e] at h1
    have h2 : q15 (l.set q ((x : Int) + 1) ++ [(x : Int) + 1]) = q15 (l.set q ((x : Int) + 1)) + 2 ^ (15 - (x + 1)) := by unfold q15; rw [List.map_append, List.sum_append, List.map_cons, List.map_nil, List.sum_cons, List.sum_nil, e2, Nat.add_zero]
    rw [h2]
    generalize 2 ^ (15 - (x + 1)) = P at h1
    omega
  · rcases List.mem_append.1 hy with hy | hy
    · rcases List.mem_or_eq_of_mem_set hy with hy2 | hy2
      · by_cases hl : 2 ≤ l.length
        · exact h.pos hl y hy2
        · obtain ⟨a, ha⟩ : ∃ a, l = [a] := List.length_eq_one_iff.1 (by have := h.lo; omega)
          have hq0 : q = 0 := by rw [ha] at hq; simpa using hq
          rw [ha, hq0] at hy
          simp at hy; omega
      · omega
    · simp at hy; omega
theorem Cut.lens {l : List Int} (h : Cut l) (h2 : 2 ≤ l.length) : mayL (l ++ List.replicate (65 - l.length) 0) = true ∧ ks (l ++ List.replicate (65 - l.length) 0) = 32768 := by
  have hk : ks (l ++ List.replicate (65 - l.length) 0) = 32768 := by
    unfold ks
    rw [List.map_append, List.sum_append, List.map_replicate, if_neg (by omega), List.sum_replicate_nat, Nat.mul_zero, Nat.add_zero, ← h.sum]
    unfold q15
    congr 1
    exact List.map_congr_left fun x hx => by rw [if_pos (by have := h.pos h2 x hx; omega)]
  refine ⟨?_, hk⟩
  unfold mayL
  rw [decide_eq_true_eq]
  refine ⟨by simp; have := h.hi; omega, fun x hx => ?_, .inr (.inl hk)⟩
  rcases List.mem_append.1 hx with hx | hx
  · exact h.each x hx
  · have := (List.mem_replicate.1 hx).2; omega

section
variable {l0 : List Int} (hC : Cut l0) (h2 : 2 ≤ l0.length)
include hC h2
theorem order_l2 (n : Nat) (h1 : 1 ≤ n) (h15 : n ≤ 15) (L : List Int) (hL : L = l0 ++ List.replicate (65 - l0.length) 0)
    (hnext : Ev (fun k => wringerlaw9_CanonOrder.l1 k l0 ((codeL L).map codeS) ((kd L (dn L (n + 1) 0) : Int) - 1) ((n + 1 : Nat) : Int)) true) :
    ∀ (d i : Nat), i + d = l0.length → Ev (fun k => wringerlaw9_CanonOrder.l2 k l0 ((codeL L).map codeS) ((kd L (dn L n i) : Int) - 1) (n : Int) (i : Int)) true := by
  obtain ⟨hm, hk⟩ := hC.lens h2
  rw [← hL] at hm hk
  obtain ⟨h65, hr⟩ := may_range hm
  have hcl : (codeL L).length = 65 := length_cst L _
  intro d
  induction d with
  | zero =>
    intro i hi
    have e : i = l0.length := by omega
    subst e
    have hskip : dn L n l0.length = dn L (n + 1) 0 := by
      rw [dn_next L n h1, h65]
      have : ∀ j, l0.length + j ≤ 65 → dn L n (l0.length + j) = dn L n l0.length := by
        intro j
        induction j with
        | zero => intro _; rfl
        | succ j ihj =>
          intro hj
          have hz : L.getD (l0.length + j) 0 = 0 := by
            rw [hL, List.getD_eq_getElem?_getD, List.getElem?_append_right (by omega)]
            simp only [List.getElem?_replicate]; split <;> rfl
          rw [show l0.length + (j + 1) = (l0.length + j) + 1 by omega, dn_step, if_neg (by rw [hz]; omega), List.append_nil]
          exact ihj (by omega)
      have := this (65 - l0.length) (by have := hC.hi; omega)
      rw [show l0.length + (65 - l0.length) = 65 by have := hC.hi; omega] at this
      exact this.symm
    rw [hskip]
    refine Ev.step (f := fun k => wringerlaw9_CanonOrder.l1 k l0 ((codeL L).map codeS) ((kd L (dn L (n + 1) 0) : Int) - 1) ((n + 1 : Nat) : Int)) (fun k => ?_) hnext
    simp only [wringerlaw9_CanonOrder.l2]
    rw [if_neg (by omega), w64 (x := (n : Int) + 1) (by omega) (by omega)]; rfl
  | succ d ih =>
    intro i hi
    have hil : i < l0.length := by omega
    have hi65 : i < 65 := by have := hC.hi; omega
    have hLi : L.getD i 0 = l0.getD i 0 := by rw [hL, List.getD_eq_getElem?_getD, List.getElem?_append_left hil, List.getD_eq_getElem?_getD]
    have ih2 := ih (i + 1) (by omega)
    rw [dn_step, hLi] at ih2
    have ew : wrap64 ((i : Int) + 1) = ((i + 1 : Nat) : Int) := by rw [w64 (by omega) (by omega)]; rfl
    by_cases hn : l0.getD i 0 = (n : Int)
    · rw [if_pos hn] at ih2
      obtain ⟨b, hb1, hb2, hb3⟩ := turn_at hm h1 h15 hi65 (by rw [hLi]; exact hn)
      have hk1 : kd L (dn L n i ++ [i]) = kd L (dn L n i) + 2 ^ (15 - n) := by
        rw [kd_append]
        congr 1
        unfold kd; rw [List.map_cons, List.map_nil, List.sum_cons, List.sum_nil, hLi, hn, Int.toNat_natCast, Nat.add_zero]
      rw [hk1] at ih2
      rw [hk] at hb3
      obtain ⟨K, hK⟩ : ∃ K, K = kd L (dn L n i) := ⟨_, rfl⟩
      rw [← hK] at hb2 hb3 ih2 ⊢
      have hrd : rd_T40 ((codeL L).map codeS) (i : Int) = codeS ((b : Int), (n : Int)) := by
        rw [rdC_nat, List.getD_eq_getElem?_getD, List.getElem?_map]
        have : (codeL L)[i]? = some ((b : Int), (n : Int)) := by
          rw [List.getD_eq_getElem?_getD] at hb1
          have hl2 : i < (codeL L).length := by omega
          rw [List.getElem?_eq_getElem hl2] at hb1 ⊢
          simpa using hb1
        rw [this]; rfl
      have hp : 1 ≤ 2 ^ (15 - n) := Nat.pow_pos (by decide)
      have e15 : wrap64 (15 - (n : Int)) = ((15 - n : Nat) : Int) := by rw [w64 (by omega) (by omega)]; omega
      have es1 : shl .i64 (b : Int) ((15 - n : Nat) : Int) = (K : Int) := by rw [shl_nat b (15 - n) (by omega) (by rw [hb2]; omega), hb2]
      have es2 : shl .i64 1 ((15 - n : Nat) : Int) = ((2 ^ (15 - n) : Nat) : Int) := shl_1 (15 - n) (by omega)
      obtain ⟨P, hP⟩ : ∃ P, P = 2 ^ (15 - n) := ⟨_, rfl⟩
      rw [← hP] at es2 hb3 hp ih2
      have e6 : wrap64 (wrap64 ((K : Int) + (P : Int)) - 1) = ((K + P : Nat) : Int) - 1 := by rw [w64 (x := (K : Int) + (P : Int)) (by omega) (by omega), w64 (by omega) (by omega)]; omega
      refine Ev.step (f := fun k => wringerlaw9_CanonOrder.l2 k l0 ((codeL L).map codeS) (((K + P : Nat) : Int) - 1) (n : Int) ((i + 1 : Nat) : Int)) (fun k => ?_) ih2
      simp only [wringerlaw9_CanonOrder.l2, rd_nat, hrd, codeS, e15, es1, es2, e6, ew, List.length_map]
      clear ih ih2 hnext hrd es1 es2 e6 e15 ew hK hP hk1 hb1
      rw [if_pos (by omega), if_pos (by omega), if_pos hn, if_pos (by omega), if_pos (by omega), if_neg (by omega)]
      rfl
    · rw [if_neg hn, List.append_nil] at ih2
      refine Ev.step (f := fun k => wringerlaw9_CanonOrder.l2 k l0 ((codeL L).map codeS) ((kd L (dn L n i) : Int) - 1) (n : Int) ((i + 1 : Nat) : Int)) (fun k => ?_) ih2
      simp only [wringerlaw9_CanonOrder.l2, rd_nat, ew]
      rw [if_pos (by omega), if_pos (by omega), if_neg hn]
theorem order_l1 (L : List Int) (hL : L = l0 ++ List.replicate (65 - l0.length) 0) : ∀ (d n : Nat), n + d = 16 → 1 ≤ n →
    Ev (fun k => wringerlaw9_CanonOrder.l1 k l0 ((codeL L).map codeS) ((kd L (dn L n 0) : Int) - 1) (n : Int)) true := by
  obtain ⟨hm, hk⟩ := hC.lens h2
  rw [← hL] at hm hk
  have hx15 : ∀ x ∈ L, x ≤ 15 := fun x hx => ((may_range hm).2 x hx).2
  intro d
  induction d with
  | zero =>
    intro n hn _
    have e : n = 16 := by omega
    subst e
    rw [dn_last, kd_all L hx15, hk]
    refine Ev.step (f := fun k => (wringerlaw9_awake.f k).bind fun t253 => (some t253)) (fun k => ?_) (Ev.bind awake9 (Ev.now _))
    simp only [wringerlaw9_CanonOrder.l1]
    rw [if_neg (by omega), if_pos (by omega)]
  | succ d ih =>
    intro n hn h1
    refine Ev.step (f := fun k => wringerlaw9_CanonOrder.l2 k l0 ((codeL L).map codeS) ((kd L (dn L n 0) : Int) - 1) (n : Int) ((0 : Nat) : Int)) (fun k => ?_)
      (order_l2 hC h2 n h1 (by omega) L hL (ih (n + 1) (by omega) (by omega)) l0.length 0 (by omega))
    simp only [wringerlaw9_CanonOrder.l1]
    rw [if_pos (by omega)]; rfl
end

theorem order_end (l : List Int) (hC : Cut l) (x0 : List Int) (i : Int) : Ev (fun k => wringerlaw9_CanonOrder.j1 k x0 l i false) true := by
  have hhi := hC.hi
  by_cases h2 : 2 ≤ l.length
  · obtain ⟨hm, hk⟩ := hC.lens h2
    obtain ⟨L, hL⟩ : ∃ L, L = l ++ List.replicate (65 - l.length) 0 := ⟨_, rfl⟩
    rw [← hL] at hm hk
    have hce : codesE L = ((codeL L).map codeS, 0) := by unfold codesE; rw [if_pos hm]
    have hcl : ((codeL L).map codeS).length = 65 := by rw [List.length_map]; exact length_cst L _
    have ew : wrap64 (65 - (l.length : Int)) = ((65 - l.length : Nat) : Int) := by rw [w64 (by omega) (by omega)]; omega
    refine Ev.step (f := fun k => (canon_May.f k L).bind fun t252 => (wringerlaw9_CanonOrder.j2 k l ((codeL L).map codeS) (!t252))) (fun k => ?_) ?_
    · simp only [wringerlaw9_CanonOrder.j1, ew, Int.toNat_natCast, Option.bind_some, List.nil_append, List.length_nil]
      rw [if_neg (by simp), if_neg (by omega), if_pos (by omega), if_pos (by omega), if_pos (by omega), ← hL]
      show ((canon_Codes.f L).bind _) = _
      unfold canon_Codes.f
      rw [hce]
      simp only [Option.bind_some]
      show ((wringerlaw1_Err.f 0).bind _) = _
      unfold wringerlaw1_Err.f
      simp only [Option.bind_some]
      rw [if_pos trivial, if_pos (by rw [hcl]; rfl)]
    · refine Ev.bind (may_is L) ?_
      rw [hm]
      refine Ev.step (f := fun k => wringerlaw9_CanonOrder.l1 k l ((codeL L).map codeS) ((kd L (dn L 1 0) : Int) - 1) ((1 : Nat) : Int)) (fun k => ?_) (order_l1 hC h2 L hL 15 1 (by omega) (by omega))
      simp only [wringerlaw9_CanonOrder.j2]
      rw [if_neg (by simp), dn_first]; rfl
  · refine Ev.step (f := fun k => (wringerlaw9_awake.f k).bind fun t237 => (some t237)) (fun k => ?_) (Ev.bind awake9 (Ev.now _))
    simp only [wringerlaw9_CanonOrder.j1]
    rw [if_neg (by simp), if_pos (by omega)]
theorem order_l0 (x0 : List Int) (hx : ∀ x ∈ x0, 0 ≤ x ∧ x ≤ 255) (hb : x0.length < 1000000000000000) : ∀ (d i : Nat) (l : List Int), i + d = x0.length → Cut l → Ev (fun k => wringerlaw9_CanonOrder.l0 k x0 l (i : Int)) true := by
  intro d
  induction d with
  | zero =>
    intro i l hi hC
    refine Ev.step (f := fun k => wringerlaw9_CanonOrder.j1 k x0 l (i : Int) false) (fun k => ?_) (order_end l hC x0 _)
    simp only [wringerlaw9_CanonOrder.l0]
    rw [if_neg (by omega)]
  | succ d ih =>
    intro i l hi hC
    have hil : i < x0.length := by omega
    have hlo := hC.lo
    have hhi := hC.hi
    by_cases h60 : l.length < 60
    · have hy := hx (x0.getD i 0) (by simp [List.getD_eq_getElem?_getD, hil])
      obtain ⟨y, hye⟩ : ∃ y : Nat, x0.getD i 0 = (y : Int) := ⟨(x0.getD i 0).toNat, by omega⟩
      rw [hye] at hy
      have eq1 : Int.tmod (wrap64 (y : Int)) (l.length : Int) = ((y % l.length : Nat) : Int) := by rw [w64 (by omega) (by omega)]; exact tmod_nat y l.length
      have hq : y % l.length < l.length := Nat.mod_lt _ (by omega)
      obtain ⟨q, hqe⟩ : ∃ q, q = y % l.length := ⟨_, rfl⟩
      rw [← hqe] at eq1 hq
      have ew : wrap64 ((i : Int) + 1) = ((i + 1 : Nat) : Int) := by rw [w64 (by omega) (by omega)]; rfl
      have hm : l.getD q 0 ∈ l := by simp [List.getD_eq_getElem?_getD, hq]
      have he := hC.each _ hm
      have eq2 : wrap64 (l.getD q 0 + 1) = l.getD q 0 + 1 := w64 (by omega) (by omega)
      by_cases h15 : l.getD q 0 < 15
      · have hset : (l.set q (l.getD q 0 + 1)).getD q 0 = l.getD q 0 + 1 := by simp [List.getD_eq_getElem?_getD, List.getElem?_set_self hq]
        refine Ev.step (f := fun k => wringerlaw9_CanonOrder.j1 k x0 l (i : Int) true) (fun k => ?_) (Ev.step (f := fun k => wringerlaw9_CanonOrder.l0 k x0 (l.set q (l.getD q 0 + 1) ++ [l.getD q 0 + 1]) ((i + 1 : Nat) : Int)) (fun k => ?_) (ih (i + 1) _ (by omega) (hC.step q hq h15 h60)))
        · simp only [wringerlaw9_CanonOrder.l0]
          rw [if_pos (by omega), decide_eq_true (by omega)]
        · simp only [wringerlaw9_CanonOrder.j1, rd_nat, hye, eq1, eq2, ew, Int.toNat_natCast, Option.bind_some, hset, List.length_set]
          clear ih eq1 ew hset hye eq2
          rw [if_pos (by trivial), if_pos (by omega), if_pos (by omega), if_neg (by omega), if_pos (by omega), if_pos (by omega), if_pos h15, if_pos (by omega)]
      · refine Ev.step (f := fun k => wringerlaw9_CanonOrder.j1 k x0 l (i : Int) true) (fun k => ?_) (Ev.step (f := fun k => wringerlaw9_CanonOrder.l0 k x0 l ((i + 1 : Nat) : Int)) (fun k => ?_) (ih (i + 1) l (by omega) hC))
        · simp only [wringerlaw9_CanonOrder.l0]
          rw [if_pos (by omega), decide_eq_true (by omega)]
        · simp only [wringerlaw9_CanonOrder.j1, rd_nat, hye, eq1, ew, Int.toNat_natCast]
          clear ih eq1 ew hye
          rw [if_pos (by trivial), if_pos (by omega), if_pos (by omega), if_neg (by omega), if_pos (by omega), if_pos (by omega), if_neg h15]
    · refine Ev.step (f := fun k => wringerlaw9_CanonOrder.j1 k x0 l (i : Int) false) (fun k => ?_) (order_end l hC x0 _)
      simp only [wringerlaw9_CanonOrder.l0]
      rw [if_pos (by omega), decide_eq_false (by omega)]
theorem CanonOrder : wringerlaw9_CanonOrder.Pure := by
  intro l0 _ hs hw
  apply Ev.rounds
  unfold wringerlaw9_CanonOrder.f
  have hx : ∀ x ∈ l0, 0 ≤ x ∧ x ≤ 255 := fun x hx => by
    have h := hw x hx
    simp only [Lit.wf, Bool.and_eq_true, decide_eq_true_eq] at h
    have h1 : IntKind.u8.min = 0 := rfl
    have h2 : IntKind.u8.max = 255 := rfl
    omega
  exact order_l0 l0 hx (by omega) l0.length 0 [0] (by omega) ⟨fun x hx => by simp at hx; omega, by decide, by simp, by simp, fun h => by simp at h⟩
end Go.Proofs.Ytkdmamffbhlbgaa.Pure

-- ---- LawCanonOrder

namespace Go.Proofs.Ytkdmamffbhlbgaa.canonOrder
open Go.ChangeShapes Go.WideShapes Go.ChangeAt Go.RowKit
open Go.ChangeMaps (open_string shut_string)
set_option linter.unusedVariables false
theorem own : ownKnob Try.prog.godebug = none := by kernel_rfl
theorem laidOut : laidOutB Try.prog = true := by kernel_rfl
def IsRow (k : IntKind) (w : World) (a : Option Addr) (len cap : Nat) (zs : List Int) : Prop :=
  (a = none ∧ len = 0 ∧ cap = 0 ∧ zs = []) ∨
  ∃ x, a = some x ∧ len ≤ cap ∧ cap ≤ maxLen ∧ zs.length = cap ∧ (∀ i, i < zs.length → w.cell? (x.add i) = some (.int k (zs.getD i 0))) ∧ ∀ n ∈ zs, (Lit.int k n).wf = true
set_option maxRecDepth 100000 in
theorem lifted (os : Os) (started : os.Started) (H : Type) (enc : TypeId × Value → H) :
    ReturnsInHanded {} Try.checked os 6 .any (Rows.canonOrderSpec.pre6 enc Try.prog Try.f6 Rows.canonOrderRow.domain false) (Rows.canonOrderSpec.post enc Try.prog Try.f6 false true false false) := by
  refine returnsInHanded_of_change_sized (C := Try.checked) own started (by kernel_rfl) Try.func6
    (ChangeSpec.witness6 (enc := enc) (C := Try.checked) false ⟨#[], #[.slice none 0 0], []⟩ 8 (by kernel_rfl) (by kernel_rfl) (by kernel_rfl) (by kernel_rfl)) ?_
  intro W base args ds gs before hval0 hW hcnd hsz0 _
  have hsz : (DataW.weightsEach Try.prog (Try.f6.params.toList ++ Rows.canonOrderSpec.plain.varTypes Try.prog) (ds ++ gs)).all (· ≤ reachBytes) = true := hsz0
  have hval : ∀ (j : Nat) t v, Try.f6.params[j]? = some t → args[j]? = some v → Value.okWide Try.prog W .any base t v := hval0
  have hW' := hW
  obtain ⟨p, q, hA0, hV, rfl, hfz, hnd⟩ := hW
  have hA : DataW.TrodAll enc Try.prog W 0 (fun _ => true) true Try.f6.params.toList args.toList ds p := hA0
  rw [Try.params6] at hA hval hsz
  obtain ⟨v0, vs0, d0, ds0, p0, q0, hargs, rfl, rfl, h0, r0⟩ := trodAll_cons hA
  obtain ⟨rfl, rfl, rfl⟩ := trodAll_nil r0
  obtain rfl : args = #[v0] := by cases args; simp_all
  obtain ⟨rfl, rfl⟩ := trodVars_none hV
  obtain ⟨a0, len0, cap0, rfl⟩ := okWide_slice Try.underlying43 (hval 0 43 v0 rfl rfl)
  have k0 := h0
  have lt0 : ∀ x ∈ p0, x.block < W.heap.size := by obtain ⟨m, hm⟩ := k0; exact DataW.trod_lt m _ _ _ hm
  obtain ⟨z0, w0⟩ : ∃ zs, IsRow .u8 W a0 len0 cap0 zs := by
    obtain ⟨fuel, hf⟩ := h0
    rcases open_ints Try.underlying43 Try.underlying5 (by kernel_rfl) hf with ⟨hcs, _⟩ | ⟨x, l, c, zs, hcs, _, hl, hm, hz, _, hcell, hwz⟩
    · simp [Value.cells] at hcs
      obtain ⟨rfl, rfl, rfl⟩ := hcs
      exact ⟨[], .inl ⟨rfl, rfl, rfl, rfl⟩⟩
    · simp [Value.cells] at hcs
      obtain ⟨rfl, rfl, rfl⟩ := hcs
      exact ⟨zs, .inr ⟨_, rfl, hl, hm, by simpa using hz, hcell, hwz⟩⟩
  have y0 : len0 * 1 ≤ 140737488351232 := Go.Proofs.YtkdmamffbhlbgaaW.PrintWords.sized_ints hsz (j := 0) (t := 43) rfl rfl Try.underlying43 Try.underlying5 (by kernel_rfl) (by kernel_rfl) h0
  clear hA0 hval0 hsz0 hsz
  refine (PA.wringerlaw9_CanonOrder.walk Pure.CanonOrder a0 len0 cap0 z0 W w0 y0).mono fun e W' ⟨he, bel⟩ => ?_
  subst he
  exact ⟨_, rfl, _, _, _, [], _, [], hW', trodAll_mk1 (shut_bool Try.underlying4 _), (trodAll_cons_mk (Below.trod laidOut (by kernel_rfl) (of_decide_eq_true (by kernel_rfl)) k0 bel lt0) trodAll_mk0), rfl, bel.frame _, fun h => by cases h⟩
theorem over : Rows.canonOrderRow.holds Try.pinned (OpenSpec.ofChange Rows.canonOrderSpec) :=
  OpenClaim.holds_of_wide 6 Try.f6 rfl rfl rfl rfl rfl rfl rfl ⟨rfl, rfl, rfl, rfl, rfl⟩ rfl rfl rfl rfl rfl (by kernel_rfl) Try.func6 (by kernel_rfl)
    (of_decide_eq_true (by kernel_rfl)) (by unfold Func.isWrapper; first | (rw [if_pos (by decide +kernel)]; kernel_rfl) | (rw [if_neg (by decide +kernel)]; exact ⟨rfl, rfl⟩))
    (fun os started H enc _ => lifted os started H enc)
theorem proved : Rows.CanonOrderSaid := over
#print axioms proved
end Go.Proofs.Ytkdmamffbhlbgaa.canonOrder
namespace Go.Proofs.Ytkdmamffbhlbgaa
/-- The row, under a short name, for the claim. -/
theorem canonOrder_holds : Rows.CanonOrderSaid := canonOrder.proved
end Go.Proofs.Ytkdmamffbhlbgaa
