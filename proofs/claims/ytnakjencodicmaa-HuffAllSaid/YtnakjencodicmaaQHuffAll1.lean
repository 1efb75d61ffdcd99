/- Part HuffAll1 of what the layer's laws stand on: PAx1, PAx37, Usp, PAx25, Cq, PAx26, Ump, Rr, Nr, Jl, PAx30, Jn, Rn, Rz, Jm, PAx36. Written by a program (merge.py) out of this session's own texts and of what the kit's print wrote over stand-ins (sp.py). Conditions: those that each theorem names. -/
import Derived.Test.YtnakjencodicmaaQB1
import Derived.Test.YtnakjencodicmaaQB2
import Derived.Test.YtnakjencodicmaaQB3
-- ---- PAx1

namespace Go.Proofs.Ytnakjencodicmaa.PA
open Go.RowKit Go.Proofs.YtnakjencodicmaaW.PrintWords Go.Proofs.YtnakjencodicmaaW.PrintLast Go.Proofs.YtnakjencodicmaaW.PrintMore
attribute [local go_sem] max2_int min2_int max_two min_two max_three min_three max_four min_four   -- for this text's walks alone
set_option linter.unusedVariables false
set_option linter.unusedSimpArgs false

theorem eqA54 (d : Nat) (w : World) (x0 y0 : Int) (x1 y1 : Int) :
    (Op.equalIn (d + 2) 54 (.agg #[.int .i64 x0, .int .u64 x1]) (.agg #[.int .i64 y0, .int .u64 y1])).run Try.prog w = .ok (x0 == y0 && (x1 == y1)) w := by
  refine eqA_of Try.underlying54 (by kernel_rfl) ?_
  refine eqf_cons (by rfl) (by go_simp; rfl) (by go_simp; rfl) (by go_simp) ?_
  exact eqf_last (by rfl) (by go_simp; rfl) (by go_simp; rfl) (by go_simp)
end Go.Proofs.Ytnakjencodicmaa.PA

-- ---- PAx37

namespace Go.Proofs.Ytnakjencodicmaa.PA
open Go.RowKit Go.Proofs.YtnakjencodicmaaW.PrintWords Go.Proofs.YtnakjencodicmaaW.PrintLast Go.Proofs.YtnakjencodicmaaW.PrintMore
attribute [local go_sem] max2_int min2_int max_two min_two max_three min_three max_four min_four   -- for this text's walks alone
set_option linter.unusedVariables false
set_option linter.unusedSimpArgs false

attribute [local go_sem high] eqA54
/-! ### wringerref7_SameParts: function 15 -/
def wringerref7_SameParts.l0 : Nat → List (S54) → List (S54) → Int → Option (Bool)
  | 0, _, _, _ => none
  | k + 1, x0, x1, x5 => if x5 < (x0.length : Int) then (if 0 ≤ x5 then (if x5 < (x1.length : Int) then (if (!(((rd_T54 x0 x5).f0) == ((rd_T54 x1 x5).f0)) || (!(((rd_T54 x0 x5).f1) == ((rd_T54 x1 x5).f1)))) = true then (some false) else (wringerref7_SameParts.l0 k x0 x1 (wrap64 (x5 + 1)))) else (none)) else (none)) else (some true)
def wringerref7_SameParts.f (k : Nat) (l0 : List (S54)) (l1 : List (S54)) : Option (Bool) := if (l0.length : Int) = (l1.length : Int) then (wringerref7_SameParts.l0 k l0 l1 0) else (some false)
theorem wringerref7_SameParts.mono_l : ∀ k, (∀ y0 y1 y2, LeO (wringerref7_SameParts.l0 k y0 y1 y2) (wringerref7_SameParts.l0 (k + 1) y0 y1 y2))
  | 0 => fun _ _ _ r h => by simp [wringerref7_SameParts.l0] at h
  | k + 1 => by
    have ih0 := wringerref7_SameParts.mono_l k
    · intro y0 y1 y2
      unfold wringerref7_SameParts.l0
      repeat' first
      | (with_reducible exact ih0 _ _ _)
      | (with_reducible exact LeO.refl _)
      | (with_reducible exact LeO.none _)
      | (with_reducible refine LeO.ite ?_ ?_)
      | (with_reducible refine LeO.bind ?_ (fun _ => ?_))
      | exact ih0 _ _ _
      | exact LeO.none _
      | refine LeO.ite ?_ ?_
      | refine LeO.bind ?_ (fun _ => ?_)
theorem wringerref7_SameParts.mono : ∀ a0 a1 k, LeO (wringerref7_SameParts.f k a0 a1) (wringerref7_SameParts.f (k + 1) a0 a1) := by
  intro a0 a1 k
  have ih0 := wringerref7_SameParts.mono_l k
  unfold wringerref7_SameParts.f
  repeat' first
      | (with_reducible exact ih0 _ _ _)
      | (with_reducible exact LeO.refl _)
      | (with_reducible exact LeO.none _)
      | (with_reducible refine LeO.ite ?_ ?_)
      | (with_reducible refine LeO.bind ?_ (fun _ => ?_))
      | exact ih0 _ _ _
      | exact LeO.none _
      | refine LeO.ite ?_ ?_
      | refine LeO.bind ?_ (fun _ => ?_)
set_option maxHeartbeats 8000000 in
set_option maxRecDepth 100000 in
theorem wringerref7_SameParts.calls (k : Nat) (A0 : Option Addr) (c0 : Nat) (l0 : List (S54)) (A1 : Option Addr) (c1 : Nat) (l1 : List (S54)) (r : Bool) (w : World) (hr0 : Kd.C k54 w A0 l0.length l0) (hc0 : l0.length ≤ c0) (hr1 : Kd.C k54 w A1 l1.length l1) (hc1 : l1.length ≤ c1) (h : wringerref7_SameParts.f k l0 l1 = some r) :
    Calls Try.prog 15 #[.slice A0 l0.length c0, .slice A1 l1.length c1] w fun e w' => e = .returned (.bool r) ∧ Drawn0 w w' := by
  have hu54 := Try.underlying54
  have HR0 := Aside0.mk hr0
  have HC0 := Aside0.mk hc0
  clear hr0 hc0
  have HR1 := Aside0.mk hr1
  have HC1 := Aside0.mk hc1
  clear hr1 hc1
  have H : (if (l0.length : Int) = (l1.length : Int) then (wringerref7_SameParts.l0 k l0 l1 0) else (some false)) = some r := h
  clear h
  by_cases c3 : (l0.length : Int) = (l1.length : Int)
  · rw [if_pos c3] at H
    have c3b0 : ((l0.length : Int) == (l1.length : Int)) = true := beq_iff_eq.mpr c3
    have c3b1 : ((l0.length : Int) != (l1.length : Int)) = false := bne_eq_false_iff_eq.mpr c3
    have c3b2 : (l0.length == l1.length) = true := by first | simpa using c3 | (simp at c3 ⊢; omega)
    clear c3
    have H' := Aside0.mk H
    clear H
    go_enter Try.func15, Try.ntmps15
    go_wp2
    repeat (go_quiet (fail); try go_wp2)
    go_loopg [5] k (fun kq v5 w' => ∃ (x5_1 : Int), v5 = .int .i64 x5_1 ∧ Aside0 (wringerref7_SameParts.l0 kq l0 l1 x5_1 = some r) ∧ Aside0 (kq ≤ k) ∧ Drawn0 w w')
    case atStart => exact ⟨(0), (by first | rfl | (simp; done) | (simp [*]; done)), H', ⟨Nat.le_refl _⟩, by repeat (first | exact Drawn0.refl _ | apply Drawn0.step)⟩
    case round =>
      clear H'
      try clear c1
      try clear p2
      try clear c3
      try clear c3b0
      try clear c3b1
      try clear c3b2
      obtain ⟨x5_1, rfl, HA, HK1, ⟨m1, rfl⟩⟩ := hrel
      cases gk with
      | zero => exact absurd HA.out (by simp [wringerref7_SameParts.l0])
      | succ k1 =>
        have H := HA.out
        clear HA
        simp only [wringerref7_SameParts.l0] at H
        by_cases c4 : x5_1 < (l0.length : Int)
        · rw [if_pos c4] at H
          have c4b0 : decide (x5_1 < (l0.length : Int)) = true := decide_eq_true c4
          clear c4
          by_cases c5 : 0 ≤ x5_1
          · rw [if_pos c5] at H
            have c5b0 : decide (0 ≤ x5_1) = true := decide_eq_true c5
            clear c5
            by_cases c6 : x5_1 < (l1.length : Int)
            · rw [if_pos c6] at H
              have c6b0 : decide (x5_1 < (l1.length : Int)) = true := decide_eq_true c6
              clear c6
              by_cases c7 : (!(((rd_T54 l0 x5_1).f0) == ((rd_T54 l1 x5_1).f0)) || (!(((rd_T54 l0 x5_1).f1) == ((rd_T54 l1 x5_1).f1)))) = true
              · rw [if_pos c7] at H
                have c7b0 : (!(((rd_T54 l0 x5_1).f0) == ((rd_T54 l1 x5_1).f0)) || (!(((rd_T54 l0 x5_1).f1) == ((rd_T54 l1 x5_1).f1)))) = true := c7
                clear c7
                obtain rfl := Option.some.inj H
                have p184 : 0 ≤ (x5_1 : Int) := of_decide_eq_true (by first | (with_reducible assumption) | assumption)
                have q184 : x5_1 < (l0.length : Int) := of_decide_eq_true (by first | (with_reducible assumption) | assumption)
                obtain ⟨ad184, e184, hx184_0, hx184_1⟩ := at_T54 HR0.out x5_1 p184 q184
                cases e184
                replace p184 := eq_true p184
                replace q184 := eq_true q184
                have p185 : 0 ≤ (x5_1 : Int) := of_decide_eq_true (by first | (with_reducible assumption) | assumption)
                have q185 : x5_1 < (l1.length : Int) := of_decide_eq_true (by first | (with_reducible assumption) | assumption)
                obtain ⟨ad185, e185, hx185_0, hx185_1⟩ := at_T54 HR1.out x5_1 p185 q185
                cases e185
                replace p185 := eq_true p185
                replace q185 := eq_true q185
                go_wp2
                repeat (go_quiet (fail); try go_wp2)
                go_ret
                exact ⟨by first | rfl | (simp; done) | (simp [*]; done), by repeat (first | exact Drawn0.refl _ | apply Drawn0.step)⟩
              · rw [if_neg c7] at H
                have c7b0 : (!(((rd_T54 l0 x5_1).f0) == ((rd_T54 l1 x5_1).f0)) || (!(((rd_T54 l0 x5_1).f1) == ((rd_T54 l1 x5_1).f1)))) = false := by simpa using c7
                clear c7
                have H' := Aside0.mk H
                clear H
                have p184 : 0 ≤ (x5_1 : Int) := of_decide_eq_true (by first | (with_reducible assumption) | assumption)
                have q184 : x5_1 < (l0.length : Int) := of_decide_eq_true (by first | (with_reducible assumption) | assumption)
                obtain ⟨ad184, e184, hx184_0, hx184_1⟩ := at_T54 HR0.out x5_1 p184 q184
                cases e184
                replace p184 := eq_true p184
                replace q184 := eq_true q184
                have p185 : 0 ≤ (x5_1 : Int) := of_decide_eq_true (by first | (with_reducible assumption) | assumption)
                have q185 : x5_1 < (l1.length : Int) := of_decide_eq_true (by first | (with_reducible assumption) | assumption)
                obtain ⟨ad185, e185, hx185_0, hx185_1⟩ := at_T54 HR1.out x5_1 p185 q185
                cases e185
                replace p185 := eq_true p185
                replace q185 := eq_true q185
                go_wp2
                repeat (go_quiet (fail); try go_wp2)
                go_roundg k1
                case measure => have := HK1.out; omega
                case rel => exact ⟨(wrap64 (x5_1 + 1)), (by first | rfl | (simp; done) | (simp [*]; done)), H', ⟨by have := HK1.out; omega⟩, by repeat (first | exact Drawn0.refl _ | apply Drawn0.step)⟩
            · rw [if_neg c6] at H
              exact absurd H (by simp)
          · rw [if_neg c5] at H
            exact absurd H (by simp)
        · rw [if_neg c4] at H
          have c4b0 : decide (x5_1 < (l0.length : Int)) = false := decide_eq_false c4
          clear c4
          obtain rfl := Option.some.inj H
          go_wp2
          repeat (go_quiet (fail); try go_wp2)
          go_ret
          exact ⟨by first | rfl | (simp; done) | (simp [*]; done), by repeat (first | exact Drawn0.refl _ | apply Drawn0.step)⟩
  · rw [if_neg c3] at H
    have c3b0 : ((l0.length : Int) == (l1.length : Int)) = false := beq_eq_false_iff_ne.mpr c3
    have c3b1 : ((l0.length : Int) != (l1.length : Int)) = true := bne_iff_ne.mpr c3
    have c3b2 : (l0.length == l1.length) = false := by first | simpa using c3 | (simp at c3 ⊢; omega)
    obtain rfl := Option.some.inj H
    go_enter Try.func15, Try.ntmps15
    go_wp2
    repeat (go_quiet (fail); try go_wp2)
    go_ret
    exact ⟨by first | rfl | (simp; done) | (simp [*]; done), by repeat (first | exact Drawn0.refl _ | apply Drawn0.step)⟩

end Go.Proofs.Ytnakjencodicmaa.PA

-- ---- Usp
/- Lists of parts that are one. No program in sight. -/
namespace Go.Proofs.Ytnakjencodicmaa.PA
set_option maxRecDepth 100000
set_option linter.unusedVariables false
set_option linter.unusedSimpArgs false
open Go.RowKit Go.Proofs.YtnakjencodicmaaW.PrintWords Go.Proofs.YtnakjencodicmaaW.PrintLast Go.Proofs.YtnakjencodicmaaW.PrintMore

theorem samep_l0 (ps : List S54) (hl : ps.length ≤ 1000000) : ∀ (d i : Nat), i + d = ps.length → Ev (fun k => wringerref7_SameParts.l0 k ps ps (i : Int)) true := by
  intro d
  induction d with
  | zero =>
    intro i hi
    exact Ev.step (f := fun _ => some true) (fun k => by simp only [wringerref7_SameParts.l0]; rw [if_neg (by omega)]) (Ev.now _)
  | succ d ih =>
    intro i hi
    refine Ev.step (f := fun k => wringerref7_SameParts.l0 k ps ps ((i + 1 : Nat) : Int)) (fun k => ?_) (ih (i + 1) (by omega))
    simp only [wringerref7_SameParts.l0]
    rw [if_pos (by omega), if_pos (by omega), if_pos (by omega), if_neg (by simp), w64 (by omega) (by omega)]; rfl
theorem samep_self (ps : List S54) (hl : ps.length ≤ 1000000) : Ev (fun k => wringerref7_SameParts.f k ps ps) true := by
  unfold wringerref7_SameParts.f
  exact Ev.ite_pos rfl (samep_l0 ps hl ps.length 0 (by omega))
end Go.Proofs.Ytnakjencodicmaa.PA

-- ---- PAx25

namespace Go.Proofs.Ytnakjencodicmaa.PA
open Go.RowKit Go.Proofs.YtnakjencodicmaaW.PrintWords Go.Proofs.YtnakjencodicmaaW.PrintLast Go.Proofs.YtnakjencodicmaaW.PrintMore
attribute [local go_sem] max2_int min2_int max_two min_two max_three min_three max_four min_four   -- for this text's walks alone
set_option linter.unusedVariables false
set_option linter.unusedSimpArgs false

/-! ### wringerref7_Canon: function 27 -/
mutual
def wringerref7_Canon.l0 : Nat → List Int → List (S69) → Int → Int → Int → Option ((List (S69)) × Int)
  | 0, _, _, _, _, _ => none
  | k + 1, x0, x3, x4, x5, x6 => if x6 ≤ 15 then (wringerref7_Canon.l1 k x0 x3 x4 x5 x6 0) else (some (x3, 0))
def wringerref7_Canon.l1 : Nat → List Int → List (S69) → Int → Int → Int → Int → Option ((List (S69)) × Int)
  | 0, _, _, _, _, _, _ => none
  | k + 1, x0, x3, x4, x5, x6, x7 => if x7 < (x0.length : Int) then (if 0 ≤ x7 then (if (rd x0 x7) = x6 then (if x5 > 0 then (if 0 ≤ (wrap64 (x6 - x5)) then (if x7 < (x3.length : Int) then (wringerref7_Canon.l1 k x0 (x3.set (x7 : Int).toNat (⟨shl .i64 (wrap64 (x4 + 1)) (wrap64 (x6 - x5)), x6⟩ : S69)) (shl .i64 (wrap64 (x4 + 1)) (wrap64 (x6 - x5))) x6 x6 (wrap64 (x7 + 1))) else (none)) else (none)) else (if x7 < (x3.length : Int) then (wringerref7_Canon.l1 k x0 (x3.set (x7 : Int).toNat (⟨x4, x6⟩ : S69)) x4 x6 x6 (wrap64 (x7 + 1))) else (none))) else (wringerref7_Canon.l1 k x0 x3 x4 x5 x6 (wrap64 (x7 + 1)))) else (none)) else (wringerref7_Canon.l0 k x0 x3 x4 x5 (wrap64 (x6 + 1)))
end
def wringerref7_Canon.f (k : Nat) (l0 : List Int) : Option ((List (S69)) × Int) := (wringerref7_MayLens.f k l0).bind fun t151 => (if t151 = true then (if 65 ≤ 17592186044416 then (wringerref7_Canon.l0 k l0 (List.replicate 65 z69) 0 0 1) else (none)) else (some (([] : List (S69)), 3)))
theorem wringerref7_Canon.mono_l : ∀ k, (∀ y0 y1 y2 y3 y4, LeO (wringerref7_Canon.l0 k y0 y1 y2 y3 y4) (wringerref7_Canon.l0 (k + 1) y0 y1 y2 y3 y4)) ∧ (∀ y0 y1 y2 y3 y4 y5, LeO (wringerref7_Canon.l1 k y0 y1 y2 y3 y4 y5) (wringerref7_Canon.l1 (k + 1) y0 y1 y2 y3 y4 y5))
  | 0 => ⟨fun _ _ _ _ _ r h => by simp [wringerref7_Canon.l0] at h, fun _ _ _ _ _ _ r h => by simp [wringerref7_Canon.l1] at h⟩
  | k + 1 => by
    obtain ⟨ih0, ih1⟩ := wringerref7_Canon.mono_l k
    refine ⟨?_, ?_⟩
    · intro y0 y1 y2 y3 y4
      unfold wringerref7_Canon.l0
      repeat' first
      | (with_reducible exact ih0 _ _ _ _ _)
      | (with_reducible exact ih1 _ _ _ _ _ _)
      | (with_reducible exact wringerref7_MayLens.mono _ _)
      | (with_reducible exact LeO.refl _)
      | (with_reducible exact LeO.none _)
      | (with_reducible refine LeO.ite ?_ ?_)
      | (with_reducible refine LeO.bind ?_ (fun _ => ?_))
      | exact ih0 _ _ _ _ _
      | exact ih1 _ _ _ _ _ _
      | exact wringerref7_MayLens.mono _ _
      | exact LeO.none _
      | refine LeO.ite ?_ ?_
      | refine LeO.bind ?_ (fun _ => ?_)
    · intro y0 y1 y2 y3 y4 y5
      unfold wringerref7_Canon.l1
      repeat' first
      | (with_reducible exact ih0 _ _ _ _ _)
      | (with_reducible exact ih1 _ _ _ _ _ _)
      | (with_reducible exact wringerref7_MayLens.mono _ _)
      | (with_reducible exact LeO.refl _)
      | (with_reducible exact LeO.none _)
      | (with_reducible refine LeO.ite ?_ ?_)
      | (with_reducible refine LeO.bind ?_ (fun _ => ?_))
      | exact ih0 _ _ _ _ _
      | exact ih1 _ _ _ _ _ _
      | exact wringerref7_MayLens.mono _ _
      | exact LeO.none _
      | refine LeO.ite ?_ ?_
      | refine LeO.bind ?_ (fun _ => ?_)
theorem wringerref7_Canon.mono : ∀ a0 k, LeO (wringerref7_Canon.f k a0) (wringerref7_Canon.f (k + 1) a0) := by
  intro a0 k
  obtain ⟨ih0, ih1⟩ := wringerref7_Canon.mono_l k
  unfold wringerref7_Canon.f
  repeat' first
      | (with_reducible exact ih0 _ _ _ _ _)
      | (with_reducible exact ih1 _ _ _ _ _ _)
      | (with_reducible exact wringerref7_MayLens.mono _ _)
      | (with_reducible exact LeO.refl _)
      | (with_reducible exact LeO.none _)
      | (with_reducible refine LeO.ite ?_ ?_)
      | (with_reducible refine LeO.bind ?_ (fun _ => ?_))
      | exact ih0 _ _ _ _ _
      | exact ih1 _ _ _ _ _ _
      | exact wringerref7_MayLens.mono _ _
      | exact LeO.none _
      | refine LeO.ite ?_ ?_
      | refine LeO.bind ?_ (fun _ => ?_)
set_option maxHeartbeats 8000000 in
set_option maxRecDepth 100000 in
theorem wringerref7_Canon.calls (k : Nat) (A0 : Option Addr) (c0 : Nat) (l0 : List Int) (r1 : List (S69)) (r2 : Int) (w : World) (hr0 : Kd.C (Kd.int .i64) w A0 l0.length l0) (hc0 : l0.length ≤ c0) (h : wringerref7_Canon.f k l0 = some (r1, r2)) :
    Calls Try.prog 27 #[.slice A0 l0.length c0] w fun e w' => ∃ v0_ : Value, e = .returned (.agg #[v0_, .int .i64 r2]) ∧ Kd.R k69 69 w' w.heap.size (fun _ => True) v0_ r1 ∧ Below w.heap.size w w' := by
  have hu73 := Try.underlying73
  have hu69 := Try.underlying69
  have HR0 := Aside0.mk hr0
  have HC0 := Aside0.mk hc0
  clear hr0 hc0
  have HB := Aside0.mk (Below.refl w.heap.size w)
  have H : ((wringerref7_MayLens.f k l0).bind fun t151 => (if t151 = true then (if 65 ≤ 17592186044416 then (wringerref7_Canon.l0 k l0 (List.replicate 65 z69) 0 0 1) else (none)) else (some (([] : List (S69)), 3)))) = some (r1, r2) := h
  clear h
  replace H := Option.bind_eq_some_iff.mp H
  obtain ⟨t151, A20, H⟩ := H
  replace H : (if t151 = true then (if 65 ≤ 17592186044416 then (wringerref7_Canon.l0 k l0 (List.replicate 65 z69) 0 0 1) else (none)) else (some (([] : List (S69)), 3))) = some (r1, r2) := H
  have A2 := Aside0.mk A20
  clear A20
  by_cases c3 : t151 = true
  · subst c3
    have H1 : (if 65 ≤ 17592186044416 then (wringerref7_Canon.l0 k l0 (List.replicate 65 z69) 0 0 1) else (none)) = some (r1, r2) := by rw [if_pos rfl] at H; exact H
    clear H
    have H := H1
    clear H1
    by_cases c4 : 65 ≤ 17592186044416
    · rw [if_pos c4] at H
      have c4b0 := eq_true c4
      have c4b1 : decide (65 ≤ 17592186044416) = true := decide_eq_true c4
      clear c4
      obtain ⟨y152, hy152⟩ : ∃ y_ : List (S69), y_ = (List.replicate 65 z69) := ⟨_, rfl⟩
      replace H : (wringerref7_Canon.l0 k l0 y152 0 0 1) = some (r1, r2) := by first | (rw [hy152]; with_reducible exact H) | (have H2_ := (Option.bind_some _ _).symm.trans H; rw [hy152]; with_reducible exact H2_) | (have H2_ := (Option.bind_some _ _).symm.trans H; with_reducible exact H2_) | with_reducible exact H | (rw [hy152]; exact H) | exact H
      have Ny152 := Aside0.mk hy152
      clear hy152
      have H' := Aside0.mk H
      clear H
      go_enter Try.func27, Try.ntmps27
      go_wp2_with (first | ((with_reducible refine gate_dst (N := 2) rfl ?_); refine box_event ?hg (N := 2) ?hd (cs := #[.slice none 0 0, .int .i64 0]) (t := 73) ?hr ?_; (case hd => rfl); (case hg => rfl); (case hr => first | (go_simp; done) | (go_simp; rfl)); intro gb150 hg w5 hbox hb; have n0_ := Aside0.mk (below_step (by repeat (first | (with_reducible first | exact HB.out | apply below_alloc | apply pw_below_drewN | apply below_drew1) | exact HB.out)) hb); have n1_ := Aside0.mk (hbox); have n2_ := Aside0.mk ((by rw [hg]; exact (below_size (by repeat (first | (with_reducible first | exact HB.out | apply below_alloc | apply pw_below_drewN | apply below_drew1) | exact HB.out))) : w.heap.size ≤ gb150)); have n3_ := Aside0.mk ((by rw [hg]; exact (below_size (by repeat (first | (with_reducible first | exact HB.out | apply below_alloc | apply pw_below_drewN | apply below_drew1) | exact HB.out))) : w.heap.size ≤ gb150)); clear HB; have HB := n0_; have BK150 := n1_; have GW150 := n2_; have GE150 := n3_; clear n0_ n1_ n2_ n3_; clear hb hbox hg) | ((with_reducible refine gate_callee (f := 50) rfl ?_); refine goesL_ (some 9) rfl rfl Try.func50 (by kernel_rfl) rfl #[.slice A0 l0.length c0] rfl (by (try simp only [List.map_toArray, List.map_cons, List.map_nil]); first | done | rfl | (simp only [List.length_drop, List.length_take]; rfl)) ?_; (with_reducible refine (wringerref7_MayLens.calls k _ _ l0 true _ ?side1 ?side2 A2.out).mono ?_); (case side1 => repeat (first | exact (Kd.C_below HR0.out HB.out) | (with_reducible refine Kd.C_alloc ?_ _) | (with_reducible refine Kd.C_drewN ?_ _) | (with_reducible refine Kd.C_drew ?_))); (case side2 => exact HC0.out); rintro e w' ⟨rfl, ⟨nd, rfl⟩⟩; refine ⟨_, rfl, ?_⟩) | ((with_reducible refine gate_dst (N := 12) rfl ?_); refine Kd.R_make k69 _ 69 rfl (N := 12) rfl 61 _ _ rfl 65 rfl rfl Try.underlying61 (.agg #[(.int .i64 0), (.int .i64 0)]) 16 info69 rfl (by decide) (by omega) z69 (ok := fun _ => True) (okp := fun _ => True) (k69_mkM _ _ _ z69 ) (fun _ hk => hk) trivial (by omega) (by omega) (Below.refl _ _) (Nat.le_refl _) ?_; intro v153 w6 ho7 hb hg_ hnew_; clear hg_ hnew_; (first | rw [← Ny152.out] at ho7 | (simp only [Int.reduceToNat] at ho7; rw [← Ny152.out] at ho7)); have n0_ := Aside0.mk (Kd.R_lower ho7 (below_size (by repeat (first | (with_reducible first | exact HB.out | apply below_alloc | apply pw_below_drewN | apply below_drew1 | refine below_set ?_ GE150.out) | exact HB.out)))); have n1_ := Aside0.mk (blk_below (g := gb150) (o := .cells #[.slice none 0 0, .int .i64 0] 73 (0, 0)) (by (with_reducible repeat (first | refine blk_drewN ?_ _ | refine blk_drew ?_ | refine blk_alloc ?_ _)); exact BK150.out) hb); have n2_ := Aside0.mk (below_step (by repeat (first | (with_reducible first | exact HB.out | apply below_alloc | apply pw_below_drewN | apply below_drew1 | refine below_set ?_ GE150.out) | exact HB.out)) hb); clear BK150; clear HB; have HO154 := n0_; have BK150 := n1_; have HB := n2_; clear n0_ n1_ n2_; clear hb ho7))
      go_loopg [4, 5, 6] k (fun kq v4 v5 v6 w' => ∃ (x3_1 : List (S69)) (x4_1 : Int) (x5_1 : Int) (x6_1 : Int), v4 = .int .i64 x4_1 ∧ v5 = .int .i64 x5_1 ∧ v6 = .int .i64 x6_1 ∧ Aside0 (wringerref7_Canon.l0 kq l0 x3_1 x4_1 x5_1 x6_1 = some (r1, r2)) ∧ Aside0 (kq ≤ k) ∧ Aside0 (Kd.R k69 69 w' w.heap.size (fun _ => True) v153 x3_1) ∧ Aside0 (w'.heap[gb150]? = some (.cells #[(.slice none 0 0), .int .i64 0] 73 (0, 0))) ∧ Aside0 (Below w.heap.size w w'))
      case atStart => exact ⟨(y152), (0), (0), (1), (by first | rfl | (simp; done) | (simp [*]; done)), (by first | rfl | (simp; done) | (simp [*]; done)), (by first | rfl | (simp; done) | (simp [*]; done)), H', ⟨Nat.le_refl _⟩, ⟨by (with_reducible repeat (first | apply Kd.R_alloc | apply Kd.R_drewN | apply Kd.R_drew)); exact HO154.out⟩, ⟨by (with_reducible repeat (first | refine blk_drewN ?_ _ | refine blk_drew ?_ | refine blk_alloc ?_ _)); exact BK150.out⟩, ⟨by repeat (first | (with_reducible first | exact HB.out | apply below_alloc | apply pw_below_drewN | apply below_drew1 | refine below_set ?_ GE150.out) | exact HB.out)⟩⟩
      case round =>
        clear H'
        try clear c2
        try clear p2
        try clear c3
        try clear c4
        try clear c4b0
        try clear c4b1
        try clear c5
        obtain ⟨x3_1, x4_1, x5_1, x6_1, rfl, rfl, rfl, HA, HK1, HO_3, BK150, HB⟩ := hrel
        cases gk with
        | zero => exact absurd HA.out (by simp [wringerref7_Canon.l0])
        | succ k1 =>
          have H := HA.out
          clear HA
          simp only [wringerref7_Canon.l0] at H
          by_cases c8 : x6_1 ≤ 15
          · rw [if_pos c8] at H
            have c8b0 : decide (x6_1 ≤ 15) = true := decide_eq_true c8
            clear c8
            have H' := Aside0.mk H
            clear H
            go_wp2
            go_loopg [4, 5, 7] k1 (fun kq v4 v5 v7 w' => ∃ (x3_2 : List (S69)) (x4_2 : Int) (x5_2 : Int) (x7_2 : Int), v4 = .int .i64 x4_2 ∧ v5 = .int .i64 x5_2 ∧ v7 = .int .i64 x7_2 ∧ Aside0 (wringerref7_Canon.l1 kq l0 x3_2 x4_2 x5_2 x6_1 x7_2 = some (r1, r2)) ∧ Aside0 (kq ≤ k1) ∧ Aside0 (Kd.R k69 69 w' w.heap.size (fun _ => True) v153 x3_2) ∧ Aside0 (w'.heap[gb150]? = some (.cells #[(.slice none 0 0), .int .i64 0] 73 (0, 0))) ∧ Aside0 (Below w.heap.size w w'))
            case atStart => exact ⟨(x3_1), (x4_1), (x5_1), (0), (by first | rfl | (simp; done) | (simp [*]; done)), (by first | rfl | (simp; done) | (simp [*]; done)), (by first | rfl | (simp; done) | (simp [*]; done)), H', ⟨Nat.le_refl _⟩, ⟨by (with_reducible repeat (first | apply Kd.R_alloc | apply Kd.R_drewN | apply Kd.R_drew)); exact HO_3.out⟩, ⟨by (with_reducible repeat (first | refine blk_drewN ?_ _ | refine blk_drew ?_ | refine blk_alloc ?_ _)); exact BK150.out⟩, ⟨by repeat (first | (with_reducible first | exact HB.out | apply below_alloc | apply pw_below_drewN | apply below_drew1 | refine below_set ?_ GE150.out) | exact HB.out)⟩⟩
            case round =>
              clear H'
              try clear c2
              try clear p2
              try clear c3
              try clear c4
              try clear c4b0
              try clear c4b1
              try clear c5
              try clear c8
              try clear c8b0
              try clear p2
              obtain ⟨x3_2, x4_2, x5_2, x7_2, rfl, rfl, rfl, HA, HK2, HO_3, BK150, HB⟩ := hrel
              cases gk with
              | zero => exact absurd HA.out (by simp [wringerref7_Canon.l1])
              | succ k2 =>
                have H := HA.out
                clear HA
                simp only [wringerref7_Canon.l1] at H
                by_cases c9 : x7_2 < (l0.length : Int)
                · rw [if_pos c9] at H
                  have c9b0 : decide (x7_2 < (l0.length : Int)) = true := decide_eq_true c9
                  clear c9
                  by_cases c10 : 0 ≤ x7_2
                  · rw [if_pos c10] at H
                    have c10b0 : decide (0 ≤ x7_2) = true := decide_eq_true c10
                    clear c10
                    by_cases c11 : (rd l0 x7_2) = x6_1
                    · rw [if_pos c11] at H
                      have c11b0 : ((rd l0 x7_2) == x6_1) = true := beq_iff_eq.mpr c11
                      have c11b1 : ((rd l0 x7_2) != x6_1) = false := bne_eq_false_iff_eq.mpr c11
                      clear c11
                      by_cases c12 : x5_2 > 0
                      · rw [if_pos c12] at H
                        have c12b0 : decide (0 < x5_2) = true := decide_eq_true c12
                        clear c12
                        obtain ⟨ji13, hji13⟩ : ∃ j_ : Int, (wrap64 (x6_1 - x5_2)) = j_ := ⟨_, rfl⟩
                        replace H : (if 0 ≤ (ji13) then (if x7_2 < (x3_2.length : Int) then (wringerref7_Canon.l1 k2 l0 (x3_2.set (x7_2 : Int).toNat (⟨shl .i64 (wrap64 (x4_2 + 1)) (ji13), x6_1⟩ : S69)) (shl .i64 (wrap64 (x4_2 + 1)) (ji13)) x6_1 x6_1 (wrap64 (x7_2 + 1))) else (none)) else (none)) = some (r1, r2) := by first | (rw [hji13] at H; exact H) | (simp only [hji13] at H ⊢; exact H)
                        have hji13w : (IntKind.i64.wrap (x6_1 - x5_2)) = ji13 := (i64_w _).trans hji13
                        by_cases c14 : 0 ≤ (ji13)
                        · rw [if_pos c14] at H
                          have c14b0 := eq_true c14
                          have c14b1 : decide (0 ≤ (ji13)) = true := decide_eq_true c14
                          clear c14
                          obtain ⟨ji15, hji15⟩ : ∃ j_ : Int, (shl .i64 (wrap64 (x4_2 + 1)) (ji13)) = j_ := ⟨_, rfl⟩
                          replace H : (if x7_2 < (x3_2.length : Int) then (wringerref7_Canon.l1 k2 l0 (x3_2.set (x7_2 : Int).toNat (⟨ji15, x6_1⟩ : S69)) ji15 x6_1 x6_1 (wrap64 (x7_2 + 1))) else (none)) = some (r1, r2) := by first | (rw [hji15] at H; exact H) | (simp only [hji15] at H ⊢; exact H)
                          have hji15_ : (IntKind.i64.wrap ((wrap64 (x4_2 + 1)) * 2 ^ min (ji13).toNat 64)) = ji15 := hji15
                          have hji15z : (ji13) ≤ 64 → (IntKind.i64.wrap ((wrap64 (x4_2 + 1)) * 2 ^ (ji13).toNat)) = ji15 := shl_small hji15
                          have hji15y : (wrap64 ((wrap64 (x4_2 + 1)) * 2 ^ min (ji13).toNat 64)) = ji15 := (i64_w _).symm.trans hji15_
                          have hji15x : (ji13) ≤ 64 → (wrap64 ((wrap64 (x4_2 + 1)) * 2 ^ (ji13).toNat)) = ji15 := fun h_ => (i64_w _).symm.trans (hji15z h_)
                          by_cases c16 : x7_2 < (x3_2.length : Int)
                          · rw [if_pos c16] at H
                            have c16b0 : decide (x7_2 < (x3_2.length : Int)) = true := decide_eq_true c16
                            clear c16
                            obtain ⟨y156, hy156⟩ : ∃ y_ : List (S69), y_ = (x3_2.set (x7_2 : Int).toNat (⟨ji15, x6_1⟩ : S69)) := ⟨_, rfl⟩
                            replace H : (wringerref7_Canon.l1 k2 l0 y156 ji15 x6_1 x6_1 (wrap64 (x7_2 + 1))) = some (r1, r2) := by first | (rw [hy156]; with_reducible exact H) | (have H2_ := (Option.bind_some _ _).symm.trans H; rw [hy156]; with_reducible exact H2_) | (have H2_ := (Option.bind_some _ _).symm.trans H; with_reducible exact H2_) | with_reducible exact H | (rw [hy156]; exact H) | exact H
                            have Ny156 := Aside0.mk hy156
                            clear hy156
                            have H' := Aside0.mk H
                            clear H
                            have p155 : 0 ≤ (x7_2 : Int) := of_decide_eq_true (by first | (with_reducible assumption) | assumption)
                            have q155 : x7_2 < (l0.length : Int) := of_decide_eq_true (by first | (with_reducible assumption) | assumption)
                            obtain ⟨ad155, e155, hx155_0⟩ := Kd.at_int HR0.out x7_2 p155 q155
                            cases e155
                            replace hx155_0 := (HB.out.cell (World.block_lt_of_cell? w _ hx155_0)).trans hx155_0
                            replace p155 := eq_true p155
                            replace q155 := eq_true q155
                            have p17 : 0 ≤ (x7_2 : Int) := of_decide_eq_true (by first | (with_reducible assumption) | assumption)
                            have q17 : (x7_2 : Int) < ((x3_2.length : Int) : Int) := of_decide_eq_true (by first | (with_reducible assumption) | assumption)
                            obtain ⟨go17, co17, eo17, gb17, gl17, cl17, HG17⟩ := Kd.R_form HO_3.out (by omega)
                            (first | cases eo17 | (injection eo17 with ea_ en_ ec_; (first | subst ea_ | (injection ea_ with ea_; subst ea_)); subst ec_; clear en_))
                            have GB17 := Aside0.mk gb17
                            have GG17 := Aside0.mk HG17
                            clear gb17 gl17 HG17
                            obtain ⟨ce17, hcl17, hM17, hcc17, hfr17⟩ := Kd.R_elem HO_3.out z69 (x7_2 : Int) p17 q17
                            obtain rfl := k69_openM hM17
                            have hx17_0 : wr.cell? ⟨go17, (x7_2 : Int).toNat * 2, none⟩ = some (.int .i64 ((rd_T69 x3_2 x7_2).f0)) := hcc17 0 _ rfl
                            have hx17_1 : wr.cell? ⟨go17, (x7_2 : Int).toNat * 2 + 1, none⟩ = some (.int .i64 ((rd_T69 x3_2 x7_2).f1)) := hcc17 1 _ rfl
                            have hf17_0 : wr.frozen? ⟨go17, (x7_2 : Int).toNat * 2, none⟩ = false := hfr17 0
                            have hf17_1 : wr.frozen? ⟨go17, (x7_2 : Int).toNat * 2 + 1, none⟩ = false := hfr17 1
                            clear hcl17 hcc17 hfr17 hM17
                            replace p17 := eq_true p17
                            replace q17 := eq_true q17
                            have HX18 := Aside0.mk (show Kd.R k69 69 wr w.heap.size (fun _ => True) (.slice (some ⟨go17, 0, none⟩) x3_2.length co17) x3_2 from (by (with_reducible repeat (first | apply Kd.R_alloc | apply Kd.R_drewN | apply Kd.R_drew)); exact HO_3.out))
                            obtain ⟨ce18, hcl18, hM18, hcc18, hfr18⟩ := Kd.R_elem HX18.out z69 (x7_2 : Int) (of_decide_eq_true (by first | (with_reducible assumption) | assumption)) (by have h_ : (x7_2 : Int) < ((x3_2.length : Int) : Int) := of_decide_eq_true (by first | (with_reducible assumption) | assumption); first | exact h_ | (have e_ := (Kd.R_reads' HO_3.out).1; omega) | simpa using h_)
                            obtain rfl := k69_openM hM18
                            have HP18 := Kd.R_seg HX18.out (x7_2 : Int) (of_decide_eq_true (by first | (with_reducible assumption) | assumption)) (by have h_ : (x7_2 : Int) < ((x3_2.length : Int) : Int) := of_decide_eq_true (by first | (with_reducible assumption) | assumption); first | exact h_ | (have e_ := (Kd.R_reads' HO_3.out).1; omega) | simpa using h_) (seg := [.int .i64 ji15, .int .i64 x6_1]) (j := 0) hcl18 hcc18 (show 2 ≤ 2 from by decide) (x' := (⟨ji15, x6_1⟩ : S69)) (k69_mkM _ _ _ (⟨ji15, x6_1⟩ : S69) ) (fun _ hk => hk)
                            have hx18_0 := hcc18 0 _ rfl
                            (try simp only [show (k69).sz = 2 from rfl, Nat.mul_one, Nat.add_zero] at hx18_0)
                            have hf18_0 := hfr18 0
                            (try simp only [show (k69).sz = 2 from rfl, Nat.mul_one, Nat.add_zero] at hf18_0)
                            have hx18_1 := hcc18 1 _ rfl
                            (try simp only [show (k69).sz = 2 from rfl, Nat.mul_one, Nat.add_zero] at hx18_1)
                            have hf18_1 := hfr18 1
                            (try simp only [show (k69).sz = 2 from rfl, Nat.mul_one, Nat.add_zero] at hf18_1)
                            clear hcl18 hcc18 hfr18 hM18
                            go_wp2_with (first | ((with_reducible refine gate_store (t := 69) (p := 43) rfl ?_); refine store_event (t := 69) (p := 43) (v := ?vo_w19) (w1 := ((wr.setCell ⟨go17, (x7_2 : Int).toNat * 2, none⟩ (.int .i64 ji15)).setCell ⟨go17, (x7_2 : Int).toNat * 2 + 1, none⟩ (.int .i64 x6_1))) ?hg ?ho ?hn ?hr ?_; (case ho => rfl); (case hg => rfl); (case hn => rfl); (case hr => first | (go_simp; done) | (go_simp; rfl)); intro w19 hw; have hg : wr.grownBy w19 (some go17) := (by rw [hw]; exact HP18.2); have hp_ : Kd.R k69 69 w19 w.heap.size (fun _ => True) (.slice (some ⟨go17, 0, none⟩) x3_2.length co17) y156 := (by rw [hw, Ny156.out]; exact HP18.1); clear HP18; have n0_ := Aside0.mk (hp_); have n1_ := Aside0.mk (blk_grown (g := gb150) (o := .cells #[.slice none 0 0, .int .i64 0] 73 (0, 0)) (by (with_reducible repeat (first | refine blk_drewN ?_ _ | refine blk_drew ?_ | refine blk_alloc ?_ _)); exact BK150.out) hg (Kd.R_ne HO_3.out BK150.out (by decide))); have n2_ := Aside0.mk ((by rw [hw]; exact below_set (below_set (HB.out) GB17.out) GB17.out : Below w.heap.size w w19)); clear HO_3; clear BK150; clear HB; have HO_3 := n0_; have BK150 := n1_; have HB := n2_; clear n0_ n1_ n2_; clear hg hw hp_))
                            go_roundg k2
                            case measure => have := HK1.out; have := HK2.out; omega
                            case rel => exact ⟨(y156), (ji15), (x6_1), (wrap64 (x7_2 + 1)), (by first | rfl | (simp; done) | (simp only [← hji15] <;> (first | rfl | simp)) | (simp [*]; done)), (by first | rfl | (simp; done) | (simp [*]; done)), (by first | rfl | (simp; done) | (simp [*]; done)), H', ⟨by have := HK1.out; have := HK2.out; omega⟩, ⟨by (with_reducible repeat (first | apply Kd.R_alloc | apply Kd.R_drewN | apply Kd.R_drew)); exact HO_3.out⟩, ⟨by (with_reducible repeat (first | refine blk_drewN ?_ _ | refine blk_drew ?_ | refine blk_alloc ?_ _)); exact BK150.out⟩, ⟨by repeat (first | (with_reducible first | exact HB.out | apply below_alloc | apply pw_below_drewN | apply below_drew1 | refine below_set ?_ GE150.out) | exact HB.out)⟩⟩
                          · rw [if_neg c16] at H
                            exact absurd H (by simp)
                        · rw [if_neg c14] at H
                          exact absurd H (by simp)
                      · rw [if_neg c12] at H
                        have c12b0 : decide (0 < x5_2) = false := decide_eq_false c12
                        clear c12
                        by_cases c20 : x7_2 < (x3_2.length : Int)
                        · rw [if_pos c20] at H
                          have c20b0 : decide (x7_2 < (x3_2.length : Int)) = true := decide_eq_true c20
                          clear c20
                          obtain ⟨y157, hy157⟩ : ∃ y_ : List (S69), y_ = (x3_2.set (x7_2 : Int).toNat (⟨x4_2, x6_1⟩ : S69)) := ⟨_, rfl⟩
                          replace H : (wringerref7_Canon.l1 k2 l0 y157 x4_2 x6_1 x6_1 (wrap64 (x7_2 + 1))) = some (r1, r2) := by first | (rw [hy157]; with_reducible exact H) | (have H2_ := (Option.bind_some _ _).symm.trans H; rw [hy157]; with_reducible exact H2_) | (have H2_ := (Option.bind_some _ _).symm.trans H; with_reducible exact H2_) | with_reducible exact H | (rw [hy157]; exact H) | exact H
                          have Ny157 := Aside0.mk hy157
                          clear hy157
                          have H' := Aside0.mk H
                          clear H
                          have p155 : 0 ≤ (x7_2 : Int) := of_decide_eq_true (by first | (with_reducible assumption) | assumption)
                          have q155 : x7_2 < (l0.length : Int) := of_decide_eq_true (by first | (with_reducible assumption) | assumption)
                          obtain ⟨ad155, e155, hx155_0⟩ := Kd.at_int HR0.out x7_2 p155 q155
                          cases e155
                          replace hx155_0 := (HB.out.cell (World.block_lt_of_cell? w _ hx155_0)).trans hx155_0
                          replace p155 := eq_true p155
                          replace q155 := eq_true q155
                          have p21 : 0 ≤ (x7_2 : Int) := of_decide_eq_true (by first | (with_reducible assumption) | assumption)
                          have q21 : (x7_2 : Int) < ((x3_2.length : Int) : Int) := of_decide_eq_true (by first | (with_reducible assumption) | assumption)
                          obtain ⟨go21, co21, eo21, gb21, gl21, cl21, HG21⟩ := Kd.R_form HO_3.out (by omega)
                          (first | cases eo21 | (injection eo21 with ea_ en_ ec_; (first | subst ea_ | (injection ea_ with ea_; subst ea_)); subst ec_; clear en_))
                          have GB21 := Aside0.mk gb21
                          have GG21 := Aside0.mk HG21
                          clear gb21 gl21 HG21
                          obtain ⟨ce21, hcl21, hM21, hcc21, hfr21⟩ := Kd.R_elem HO_3.out z69 (x7_2 : Int) p21 q21
                          obtain rfl := k69_openM hM21
                          have hx21_0 : wr.cell? ⟨go21, (x7_2 : Int).toNat * 2, none⟩ = some (.int .i64 ((rd_T69 x3_2 x7_2).f0)) := hcc21 0 _ rfl
                          have hx21_1 : wr.cell? ⟨go21, (x7_2 : Int).toNat * 2 + 1, none⟩ = some (.int .i64 ((rd_T69 x3_2 x7_2).f1)) := hcc21 1 _ rfl
                          have hf21_0 : wr.frozen? ⟨go21, (x7_2 : Int).toNat * 2, none⟩ = false := hfr21 0
                          have hf21_1 : wr.frozen? ⟨go21, (x7_2 : Int).toNat * 2 + 1, none⟩ = false := hfr21 1
                          clear hcl21 hcc21 hfr21 hM21
                          replace p21 := eq_true p21
                          replace q21 := eq_true q21
                          have HX22 := Aside0.mk (show Kd.R k69 69 wr w.heap.size (fun _ => True) (.slice (some ⟨go21, 0, none⟩) x3_2.length co21) x3_2 from (by (with_reducible repeat (first | apply Kd.R_alloc | apply Kd.R_drewN | apply Kd.R_drew)); exact HO_3.out))
                          obtain ⟨ce22, hcl22, hM22, hcc22, hfr22⟩ := Kd.R_elem HX22.out z69 (x7_2 : Int) (of_decide_eq_true (by first | (with_reducible assumption) | assumption)) (by have h_ : (x7_2 : Int) < ((x3_2.length : Int) : Int) := of_decide_eq_true (by first | (with_reducible assumption) | assumption); first | exact h_ | (have e_ := (Kd.R_reads' HO_3.out).1; omega) | simpa using h_)
                          obtain rfl := k69_openM hM22
                          have HP22 := Kd.R_seg HX22.out (x7_2 : Int) (of_decide_eq_true (by first | (with_reducible assumption) | assumption)) (by have h_ : (x7_2 : Int) < ((x3_2.length : Int) : Int) := of_decide_eq_true (by first | (with_reducible assumption) | assumption); first | exact h_ | (have e_ := (Kd.R_reads' HO_3.out).1; omega) | simpa using h_) (seg := [.int .i64 x4_2, .int .i64 x6_1]) (j := 0) hcl22 hcc22 (show 2 ≤ 2 from by decide) (x' := (⟨x4_2, x6_1⟩ : S69)) (k69_mkM _ _ _ (⟨x4_2, x6_1⟩ : S69) ) (fun _ hk => hk)
                          have hx22_0 := hcc22 0 _ rfl
                          (try simp only [show (k69).sz = 2 from rfl, Nat.mul_one, Nat.add_zero] at hx22_0)
                          have hf22_0 := hfr22 0
                          (try simp only [show (k69).sz = 2 from rfl, Nat.mul_one, Nat.add_zero] at hf22_0)
                          have hx22_1 := hcc22 1 _ rfl
                          (try simp only [show (k69).sz = 2 from rfl, Nat.mul_one, Nat.add_zero] at hx22_1)
                          have hf22_1 := hfr22 1
                          (try simp only [show (k69).sz = 2 from rfl, Nat.mul_one, Nat.add_zero] at hf22_1)
                          clear hcl22 hcc22 hfr22 hM22
                          go_wp2_with (first | ((with_reducible refine gate_store (t := 69) (p := 43) rfl ?_); refine store_event (t := 69) (p := 43) (v := ?vo_w23) (w1 := ((wr.setCell ⟨go21, (x7_2 : Int).toNat * 2, none⟩ (.int .i64 x4_2)).setCell ⟨go21, (x7_2 : Int).toNat * 2 + 1, none⟩ (.int .i64 x6_1))) ?hg ?ho ?hn ?hr ?_; (case ho => rfl); (case hg => rfl); (case hn => rfl); (case hr => first | (go_simp; done) | (go_simp; rfl)); intro w23 hw; have hg : wr.grownBy w23 (some go21) := (by rw [hw]; exact HP22.2); have hp_ : Kd.R k69 69 w23 w.heap.size (fun _ => True) (.slice (some ⟨go21, 0, none⟩) x3_2.length co21) y157 := (by rw [hw, Ny157.out]; exact HP22.1); clear HP22; have n0_ := Aside0.mk (hp_); have n1_ := Aside0.mk (blk_grown (g := gb150) (o := .cells #[.slice none 0 0, .int .i64 0] 73 (0, 0)) (by (with_reducible repeat (first | refine blk_drewN ?_ _ | refine blk_drew ?_ | refine blk_alloc ?_ _)); exact BK150.out) hg (Kd.R_ne HO_3.out BK150.out (by decide))); have n2_ := Aside0.mk ((by rw [hw]; exact below_set (below_set (HB.out) GB21.out) GB21.out : Below w.heap.size w w23)); clear HO_3; clear BK150; clear HB; have HO_3 := n0_; have BK150 := n1_; have HB := n2_; clear n0_ n1_ n2_; clear hg hw hp_))
                          go_roundg k2
                          case measure => have := HK1.out; have := HK2.out; omega
                          case rel => exact ⟨(y157), (x4_2), (x6_1), (wrap64 (x7_2 + 1)), (by first | rfl | (simp; done) | (simp [*]; done)), (by first | rfl | (simp; done) | (simp [*]; done)), (by first | rfl | (simp; done) | (simp [*]; done)), H', ⟨by have := HK1.out; have := HK2.out; omega⟩, ⟨by (with_reducible repeat (first | apply Kd.R_alloc | apply Kd.R_drewN | apply Kd.R_drew)); exact HO_3.out⟩, ⟨by (with_reducible repeat (first | refine blk_drewN ?_ _ | refine blk_drew ?_ | refine blk_alloc ?_ _)); exact BK150.out⟩, ⟨by repeat (first | (with_reducible first | exact HB.out | apply below_alloc | apply pw_below_drewN | apply below_drew1 | refine below_set ?_ GE150.out) | exact HB.out)⟩⟩
                        · rw [if_neg c20] at H
                          exact absurd H (by simp)
                    · rw [if_neg c11] at H
                      have c11b0 : ((rd l0 x7_2) == x6_1) = false := beq_eq_false_iff_ne.mpr c11
                      have c11b1 : ((rd l0 x7_2) != x6_1) = true := bne_iff_ne.mpr c11
                      have H' := Aside0.mk H
                      clear H
                      have p155 : 0 ≤ (x7_2 : Int) := of_decide_eq_true (by first | (with_reducible assumption) | assumption)
                      have q155 : x7_2 < (l0.length : Int) := of_decide_eq_true (by first | (with_reducible assumption) | assumption)
                      obtain ⟨ad155, e155, hx155_0⟩ := Kd.at_int HR0.out x7_2 p155 q155
                      cases e155
                      replace hx155_0 := (HB.out.cell (World.block_lt_of_cell? w _ hx155_0)).trans hx155_0
                      replace p155 := eq_true p155
                      replace q155 := eq_true q155
                      go_wp2
                      go_roundg k2
                      case measure => have := HK1.out; have := HK2.out; omega
                      case rel => exact ⟨(x3_2), (x4_2), (x5_2), (wrap64 (x7_2 + 1)), (by first | rfl | (simp; done) | (simp [*]; done)), (by first | rfl | (simp; done) | (simp [*]; done)), (by first | rfl | (simp; done) | (simp [*]; done)), H', ⟨by have := HK1.out; have := HK2.out; omega⟩, ⟨by (with_reducible repeat (first | apply Kd.R_alloc | apply Kd.R_drewN | apply Kd.R_drew)); exact HO_3.out⟩, ⟨by (with_reducible repeat (first | refine blk_drewN ?_ _ | refine blk_drew ?_ | refine blk_alloc ?_ _)); exact BK150.out⟩, ⟨by repeat (first | (with_reducible first | exact HB.out | apply below_alloc | apply pw_below_drewN | apply below_drew1 | refine below_set ?_ GE150.out) | exact HB.out)⟩⟩
                  · rw [if_neg c10] at H
                    exact absurd H (by simp)
                · rw [if_neg c9] at H
                  have c9b0 : decide (x7_2 < (l0.length : Int)) = false := decide_eq_false c9
                  clear c9
                  have H' := Aside0.mk H
                  clear H
                  go_wp2
                  go_roundg k2
                  case measure => have := HK1.out; have := HK2.out; omega
                  case rel => exact ⟨(x3_2), (x4_2), (x5_2), (wrap64 (x6_1 + 1)), (by first | rfl | (simp; done) | (simp [*]; done)), (by first | rfl | (simp; done) | (simp [*]; done)), (by first | rfl | (simp; done) | (simp [*]; done)), H', ⟨by have := HK1.out; have := HK2.out; omega⟩, ⟨by (with_reducible repeat (first | apply Kd.R_alloc | apply Kd.R_drewN | apply Kd.R_drew)); exact HO_3.out⟩, ⟨by (with_reducible repeat (first | refine blk_drewN ?_ _ | refine blk_drew ?_ | refine blk_alloc ?_ _)); exact BK150.out⟩, ⟨by repeat (first | (with_reducible first | exact HB.out | apply below_alloc | apply pw_below_drewN | apply below_drew1 | refine below_set ?_ GE150.out) | exact HB.out)⟩⟩
          · rw [if_neg c8] at H
            have c8b0 : decide (x6_1 ≤ 15) = false := decide_eq_false c8
            clear c8
            simp only [Option.some.injEq, Prod.mk.injEq] at H
            obtain ⟨rfl, rfl⟩ := H
            obtain ⟨Ao24, co24, eo24⟩ := Kd.R_slice HO_3.out
            subst eo24
            have hcz25_0 : wr.cell? ⟨gb150, 0, none⟩ = some (.slice none 0 0) := (blk_cell BK150.out 0).trans rfl
            have hcz25_1 : wr.cell? ⟨gb150, 1, none⟩ = some (.int .i64 0) := (blk_cell BK150.out 1).trans rfl
            have hfz25_0 := blk_frozen BK150.out 0
            have hfz25_1 := blk_frozen BK150.out 1
            go_wp2
            refine bodyPost_ret (results_cell_row rfl _ _ gb150 73 #[.slice Ao24 x3_1.length co24, .int .i64 0] (0, 0) _ rfl (by (with_reducible repeat (first | refine blk_drewN ?_ _ | refine blk_drew ?_ | refine blk_alloc ?_ _)); refine blk_put (cs := #[.slice Ao24 x3_1.length co24, .int .i64 0]) ?_ 1 _ rfl; (with_reducible repeat (first | refine blk_drewN ?_ _ | refine blk_drew ?_ | refine blk_alloc ?_ _)); refine blk_put (cs := #[.slice none 0 0, .int .i64 0]) ?_ 0 _ rfl; (with_reducible repeat (first | refine blk_drewN ?_ _ | refine blk_drew ?_ | refine blk_alloc ?_ _)); exact BK150.out) Try.underlying73 rfl (by kernel_rfl)) rfl ?_
            exact ⟨_, by first | rfl | (simp [errW_none, errW_some] <;> rfl) | (simp [*, errW_none, errW_some] <;> rfl), by (with_reducible repeat (first | apply Kd.R_alloc | apply Kd.R_drewN | apply Kd.R_drew)); exact Kd.R_mono (Kd.R_far (p := ⟨gb150, 1, none⟩) (Kd.R_far (p := ⟨gb150, 0, none⟩) (Kd.R_types HO_3.out BK150.out (by decide)) (fun _ hk => hk.2) (.slice Ao24 x3_1.length co24)) (fun _ hk => hk.2) (.int .i64 0)) (fun _ hk => trivial), by repeat (first | (with_reducible first | exact HB.out | apply below_alloc | apply pw_below_drewN | apply below_drew1 | refine below_set ?_ GE150.out) | exact HB.out)⟩
    · rw [if_neg c4] at H
      exact absurd H (by simp)
  · replace c3 := Bool.eq_false_iff.mpr c3
    subst c3
    have H1 : (some (([] : List (S69)), 3)) = some (r1, r2) := by rw [if_neg (show ¬ (false = true) by decide)] at H; exact H
    clear H
    have H := H1
    clear H1
    simp only [Option.some.injEq, Prod.mk.injEq] at H
    obtain ⟨rfl, rfl⟩ := H
    go_enter Try.func27, Try.ntmps27
    go_wp2_with (first | ((with_reducible refine gate_dst (N := 2) rfl ?_); refine box_event ?hg (N := 2) ?hd (cs := #[.slice none 0 0, .int .i64 0]) (t := 73) ?hr ?_; (case hd => rfl); (case hg => rfl); (case hr => first | (go_simp; done) | (go_simp; rfl)); intro gb150 hg w26 hbox hb; have n0_ := Aside0.mk (below_step (by repeat (first | (with_reducible first | exact HB.out | apply below_alloc | apply pw_below_drewN | apply below_drew1) | exact HB.out)) hb); have n1_ := Aside0.mk (hbox); have n2_ := Aside0.mk ((by rw [hg]; exact (below_size (by repeat (first | (with_reducible first | exact HB.out | apply below_alloc | apply pw_below_drewN | apply below_drew1) | exact HB.out))) : w.heap.size ≤ gb150)); have n3_ := Aside0.mk ((by rw [hg]; exact (below_size (by repeat (first | (with_reducible first | exact HB.out | apply below_alloc | apply pw_below_drewN | apply below_drew1) | exact HB.out))) : w.heap.size ≤ gb150)); clear HB; have HB := n0_; have BK150 := n1_; have GW150 := n2_; have GE150 := n3_; clear n0_ n1_ n2_ n3_; clear hb hbox hg) | ((with_reducible refine gate_callee (f := 50) rfl ?_); refine goesL_ (some 9) rfl rfl Try.func50 (by kernel_rfl) rfl #[.slice A0 l0.length c0] rfl (by (try simp only [List.map_toArray, List.map_cons, List.map_nil]); first | done | rfl | (simp only [List.length_drop, List.length_take]; rfl)) ?_; (with_reducible refine (wringerref7_MayLens.calls k _ _ l0 false _ ?side1 ?side2 A2.out).mono ?_); (case side1 => repeat (first | exact (Kd.C_below HR0.out HB.out) | (with_reducible refine Kd.C_alloc ?_ _) | (with_reducible refine Kd.C_drewN ?_ _) | (with_reducible refine Kd.C_drew ?_))); (case side2 => exact HC0.out); rintro e w' ⟨rfl, ⟨nd, rfl⟩⟩; refine ⟨_, rfl, ?_⟩; (try (rw [drewN_self w26]; generalize hq_ : World.drewN w26 _ = w26; have n0_ : Aside0 (w26.heap[gb150]? = some (.cells #[.slice none 0 0, .int .i64 0] 73 (0, 0))) := ⟨by rw [← hq_]; exact (by (with_reducible repeat (first | refine blk_drewN ?_ _ | refine blk_drew ?_ | refine blk_alloc ?_ _)); exact BK150.out)⟩; have n1_ : Aside0 (Below w.heap.size w w26) := ⟨by rw [← hq_]; exact (by repeat (first | (with_reducible first | exact HB.out | apply below_alloc | apply pw_below_drewN | apply below_drew1 | refine below_set ?_ GE150.out) | exact HB.out))⟩; clear BK150 HB hq_; have BK150 := n0_; have HB := n1_; clear n0_ n1_)); have hcz27_0 : w26.cell? ⟨gb150, 0, none⟩ = some (.slice none 0 0) := (blk_cell BK150.out 0).trans rfl; have hcz27_1 : w26.cell? ⟨gb150, 1, none⟩ = some (.int .i64 0) := (blk_cell BK150.out 1).trans rfl; have hfz27_0 := blk_frozen BK150.out 0; have hfz27_1 := blk_frozen BK150.out 1))
    refine bodyPost_ret (results_cell_row rfl _ _ gb150 73 #[.slice none 0 0, .int .i64 3] (0, 0) _ rfl (by (with_reducible repeat (first | refine blk_drewN ?_ _ | refine blk_drew ?_ | refine blk_alloc ?_ _)); refine blk_put (cs := #[.slice none 0 0, .int .i64 0]) ?_ 1 _ rfl; (with_reducible repeat (first | refine blk_drewN ?_ _ | refine blk_drew ?_ | refine blk_alloc ?_ _)); refine blk_put (cs := #[.slice none 0 0, .int .i64 0]) ?_ 0 _ rfl; (with_reducible repeat (first | refine blk_drewN ?_ _ | refine blk_drew ?_ | refine blk_alloc ?_ _)); exact BK150.out) Try.underlying73 rfl (by kernel_rfl)) rfl ?_
    exact ⟨_, by first | rfl | (simp [errW_none, errW_some] <;> rfl) | (simp [*, errW_none, errW_some] <;> rfl), by first | exact Kd.R_nil _ _ _ _ _ | exact Kd.N_nil _ _ _ _ _ | exact Kd.V_nil _ _ _ _ _ | exact Kd.Q_nil _ _ _ _ _ | exact Kd.S_nil _ _ _ _ _, by repeat (first | (with_reducible first | exact HB.out | apply below_alloc | apply pw_below_drewN | apply below_drew1 | refine below_set ?_ GE150.out) | exact HB.out)⟩

end Go.Proofs.Ytnakjencodicmaa.PA

-- ---- Cq
/- The document's codes: what the print's function comes to. No program in sight. -/
namespace Go.Proofs.Ytnakjencodicmaa.PA
set_option maxRecDepth 100000
set_option linter.unusedVariables false
set_option linter.unusedSimpArgs false
open Go.RowKit Go.Proofs.YtnakjencodicmaaW.PrintWords Go.Proofs.YtnakjencodicmaaW.PrintLast Go.Proofs.YtnakjencodicmaaW.PrintMore Dp Cd

abbrev CodeS := S69
abbrev zC : CodeS := z69
theorem shl_pow (x d : Nat) (h : (x + 1) * 2 ^ d ≤ 32768) (hd : d ≤ 15) : shl .i64 (wrap64 ((x : Int) + 1)) (d : Int) = (((x + 1) * 2 ^ d : Nat) : Int) := by
  have h1 : 1 ≤ 2 ^ d := Nat.pow_pos (by decide)
  have h2 : (x + 1) * 1 ≤ (x + 1) * 2 ^ d := Nat.mul_le_mul_left _ h1
  rw [w64 (by omega) (by omega), show ((x : Int) + 1) = ((x + 1 : Nat) : Int) by omega, shl_nat (x + 1) d (by omega) (by omega)]
theorem map_set {α β : Type} (f : α → β) (l : List α) (i : Nat) (a : α) : (l.map f).set i (f a) = (l.set i a).map f := by rw [List.map_set]

/-- One length's round, from a place on. -/
theorem canon_l1 (l : List Int) (h65 : l.length = 65) (hm : mayL l = true) (n : Nat) (h1 : 1 ≤ n) (h15 : n ≤ 15) (R : List CodeS × Int)
    (hnext : Ev (fun k => wringerref7_Canon.l0 k l ((cst l (dn l (n + 1) 0)).1.map codeS) ((cst l (dn l (n + 1) 0)).2.1 : Int) ((cst l (dn l (n + 1) 0)).2.2 : Int) ((n + 1 : Nat) : Int)) R) :
    ∀ (d i : Nat), i + d = 65 → Ev (fun k => wringerref7_Canon.l1 k l ((cst l (dn l n i)).1.map codeS) ((cst l (dn l n i)).2.1 : Int) ((cst l (dn l n i)).2.2 : Int) (n : Int) (i : Int)) R := by
  intro d
  induction d with
  | zero =>
    intro i hi
    have e : i = 65 := by omega
    subst e
    rw [← h65, ← dn_next l n h1]
    refine Ev.step (f := fun k => wringerref7_Canon.l0 k l ((cst l (dn l (n + 1) 0)).1.map codeS) ((cst l (dn l (n + 1) 0)).2.1 : Int) ((cst l (dn l (n + 1) 0)).2.2 : Int) ((n + 1 : Nat) : Int)) (fun k => ?_) hnext
    simp only [wringerref7_Canon.l1]
    rw [if_neg (by omega), w64 (by omega) (by omega)]; rfl
  | succ d ih =>
    intro i hi
    have ih2 := ih (i + 1) (by omega)
    rw [dn_step] at ih2
    by_cases hn : l.getD i 0 = (n : Int)
    · rw [if_pos hn, cst_snoc] at ih2
      have hsub : (dn l n (i + 1)).Sublist (ordS l) := dn_sub l n (i + 1) h1 h15 (by omega)
      rw [dn_step, if_pos hn] at hsub
      have hso := (sorted_ordS l).sublist hsub
      have hmem : ∀ a ∈ dn l n i ++ [i], 1 ≤ l.getD a 0 ∧ l.getD a 0 ≤ 15 := fun a ha => (mem_ordS.1 (hsub.subset ha)).2
      have hso2 := List.pairwise_append.1 hso
      have hinv := cst_inv l (dn l n i) (hso2.1.imp fun {a b} h => by omega) (fun a ha => hmem a (List.mem_append_left _ ha))
      have hle := hinv.2 (n : Int) (fun a ha => by have := hso2.2.2 a ha i (by simp); omega)
      have hkd := kd_sub l hsub
      have hx15 : ∀ x ∈ l, x ≤ 15 := fun x hx => ((may_range hm).2 x hx).2
      rw [kd_all l hx15, kd_append] at hkd
      have hks := ks_le hm
      have hk1 : kd l [i] = 2 ^ (15 - n) := by unfold kd; rw [List.map_cons, List.map_nil, List.sum_cons, List.sum_nil, hn, Int.toNat_natCast, Nat.add_zero]
      have hinv2 := inv_nx (n := n) hinv.1 h1 h15 (by omega)
      have hz := cst_zero l (dn l n i) (fun c hc => (hmem c (List.mem_append_left _ hc)).1)
      obtain ⟨out, hout⟩ : ∃ out, out = (cst l (dn l n i)).1 := ⟨_, rfl⟩
      obtain ⟨st, hst⟩ : ∃ st, st = (cst l (dn l n i)).2 := ⟨_, rfl⟩
      have hol : out.length = 65 := by rw [hout]; exact length_cst l _
      have hcs : cstep l (cst l (dn l n i)) i = (out.set i (((nx st n).1 : Int), (n : Int)), nx st n) := by
        unfold cstep; rw [hn, Int.toNat_natCast, ← hst, ← hout]
        have : (nx st n).2 = n := by unfold nx; split <;> rfl
        rw [this]
      rw [hcs] at ih2
      rw [← hst, ← hout]
      rw [← hst] at hz hle hinv2
      simp only at ih2
      have hn2 : (nx st n).2 = n := by unfold nx; split <;> rfl
      refine Ev.step (f := fun k => wringerref7_Canon.l1 k l ((out.set i (((nx st n).1 : Int), (n : Int))).map codeS) ((nx st n).1 : Int) ((nx st n).2 : Int) (n : Int) ((i + 1 : Nat) : Int)) (fun k => ?_) ih2
      rw [hn2, ← map_set]
      have ew : wrap64 ((i : Int) + 1) = ((i + 1 : Nat) : Int) := by rw [w64 (by omega) (by omega)]; rfl
      simp only [wringerref7_Canon.l1, rd_nat, ew, Int.toNat_natCast, List.length_map]
      clear ih ih2 hsub hso hso2 hinv hmem hx15 ew hcs hnext
      rw [if_pos (by omega), if_pos (by omega), if_pos hn]
      by_cases hs0 : st.2 = 0
      · have hx : (nx st n).1 = 0 := by unfold nx; rw [if_pos hs0]
        rw [if_neg (by omega), if_pos (by omega), hz hs0, hx]; rfl
      · have hx : (nx st n).1 = (st.1 + 1) * 2 ^ (n - st.2) := by unfold nx; rw [if_neg hs0]
        have hb : (nx st n).1 + 1 ≤ 32768 := by
          rcases hinv2 with ⟨h0, _⟩ | ⟨_, _, h2⟩
          · omega
          · have h3 : 1 ≤ 2 ^ (15 - (nx st n).2) := Nat.pow_pos (by decide)
            have h4 : ((nx st n).1 + 1) * 1 ≤ ((nx st n).1 + 1) * 2 ^ (15 - (nx st n).2) := Nat.mul_le_mul_left _ h3
            omega
        have ed : wrap64 ((n : Int) - (st.2 : Int)) = ((n - st.2 : Nat) : Int) := by rw [w64 (by omega) (by omega)]; omega
        have es := shl_pow st.1 (n - st.2) (by rw [← hx]; omega) (by omega)
        rw [if_pos (by omega), ed, es, ← hx]
        rw [if_pos (by omega), if_pos (by omega)]; rfl
    · rw [if_neg hn, List.append_nil] at ih2
      refine Ev.step (f := fun k => wringerref7_Canon.l1 k l ((cst l (dn l n i)).1.map codeS) ((cst l (dn l n i)).2.1 : Int) ((cst l (dn l n i)).2.2 : Int) (n : Int) ((i + 1 : Nat) : Int)) (fun k => ?_) ih2
      simp only [wringerref7_Canon.l1, rd_nat]
      rw [if_pos (by omega), if_pos (by omega), if_neg hn, w64 (by omega) (by omega)]; rfl
theorem canon_l0 (l : List Int) (h65 : l.length = 65) (hm : mayL l = true) : ∀ (d n : Nat), n + d = 16 → 1 ≤ n →
    Ev (fun k => wringerref7_Canon.l0 k l ((cst l (dn l n 0)).1.map codeS) ((cst l (dn l n 0)).2.1 : Int) ((cst l (dn l n 0)).2.2 : Int) (n : Int)) ((codeL l).map codeS, 0) := by
  intro d
  induction d with
  | zero =>
    intro n hn _
    have e : n = 16 := by omega
    subst e
    refine Ev.step (f := fun _ => some ((codeL l).map codeS, 0)) (fun k => ?_) (Ev.now _)
    simp only [wringerref7_Canon.l0]
    rw [if_neg (by omega), dn_last]; rfl
  | succ d ih =>
    intro n hn h1
    refine Ev.step (f := fun k => wringerref7_Canon.l1 k l ((cst l (dn l n 0)).1.map codeS) ((cst l (dn l n 0)).2.1 : Int) ((cst l (dn l n 0)).2.2 : Int) (n : Int) ((0 : Nat) : Int)) (fun k => ?_)
      (canon_l1 l h65 hm n h1 (by omega) _ (ih (n + 1) (by omega) (by omega)) 65 0 (by omega))
    simp only [wringerref7_Canon.l0]
    rw [if_pos (by omega)]; rfl
theorem rcanon_is (l : List Int) : Ev (fun k => wringerref7_Canon.f k l) (codesE l) := by
  unfold wringerref7_Canon.f
  refine Ev.bind (rmay_is l) ?_
  unfold codesE
  cases hm : mayL l with
  | false => exact Ev.ite_neg (by simp) (Ev.ofSome (by rw [if_neg (by simp)]))
  | true =>
    refine Ev.ite_pos rfl (Ev.ite_pos (by decide) ?_)
    rw [if_pos rfl]
    have h65 := (may_range hm).1
    have := canon_l0 l h65 hm 15 1 (by omega) (by omega)
    rw [dn_first] at this
    exact this
end Go.Proofs.Ytnakjencodicmaa.PA

-- ---- PAx26

namespace Go.Proofs.Ytnakjencodicmaa.PA
open Go.RowKit Go.Proofs.YtnakjencodicmaaW.PrintWords Go.Proofs.YtnakjencodicmaaW.PrintLast Go.Proofs.YtnakjencodicmaaW.PrintMore
attribute [local go_sem] max2_int min2_int max_two min_two max_three min_three max_four min_four   -- for this text's walks alone
set_option linter.unusedVariables false
set_option linter.unusedSimpArgs false

/-! ### wringerref1_MayPart: function 28 -/
def wringerref1_MayPart.j0 : Nat → Bool → Int → Int → Option (Bool)
  | 0, _, _, _ => none
  | k + 1, x10, x159000, x159001 => if x10 = true then (some false) else (if x159000 < 2 then (some (x159001 == 0)) else (if 0 ≤ (wrap64 (x159000 - 1)) then (some ((shr .u64 x159001 (wrap64 (x159000 - 1))) == 0)) else (none)))
def wringerref1_MayPart.f (k : Nat) (a0_0 : Int) (a0_1 : Int) : Option (Bool) := if a0_0 < 0 then (wringerref1_MayPart.j0 k true a0_0 a0_1) else (wringerref1_MayPart.j0 k (decide (a0_0 > 64)) a0_0 a0_1)
theorem wringerref1_MayPart.mono_l : ∀ k, (∀ y0 y1 y2, LeO (wringerref1_MayPart.j0 k y0 y1 y2) (wringerref1_MayPart.j0 (k + 1) y0 y1 y2))
  | 0 => fun _ _ _ r h => by simp [wringerref1_MayPart.j0] at h
  | k + 1 => by
    have ih0 := wringerref1_MayPart.mono_l k
    · intro y0 y1 y2
      unfold wringerref1_MayPart.j0
      repeat' first
      | (with_reducible exact ih0 _ _ _)
      | (with_reducible exact LeO.refl _)
      | (with_reducible exact LeO.none _)
      | (with_reducible refine LeO.ite ?_ ?_)
      | (with_reducible refine LeO.bind ?_ (fun _ => ?_))
      | exact ih0 _ _ _
      | exact LeO.none _
      | refine LeO.ite ?_ ?_
      | refine LeO.bind ?_ (fun _ => ?_)
theorem wringerref1_MayPart.mono : ∀ a0 a1 k, LeO (wringerref1_MayPart.f k a0 a1) (wringerref1_MayPart.f (k + 1) a0 a1) := by
  intro a0 a1 k
  have ih0 := wringerref1_MayPart.mono_l k
  unfold wringerref1_MayPart.f
  repeat' first
      | (with_reducible exact ih0 _ _ _)
      | (with_reducible exact LeO.refl _)
      | (with_reducible exact LeO.none _)
      | (with_reducible refine LeO.ite ?_ ?_)
      | (with_reducible refine LeO.bind ?_ (fun _ => ?_))
      | exact ih0 _ _ _
      | exact LeO.none _
      | refine LeO.ite ?_ ?_
      | refine LeO.bind ?_ (fun _ => ?_)
set_option maxHeartbeats 8000000 in
set_option maxRecDepth 100000 in
theorem wringerref1_MayPart.calls (k : Nat) (a0_0 : Int) (a0_1 : Int) (r : Bool) (w : World) (h : wringerref1_MayPart.f k a0_0 a0_1 = some r) :
    Calls Try.prog 28 #[.agg #[.int .i64 a0_0, .int .u64 a0_1]] w fun e w' => e = .returned (.bool r) ∧ Below w.heap.size w w' := by
  have hu54 := Try.underlying54
  have HB := Aside0.mk (Below.refl w.heap.size w)
  have H : (if a0_0 < 0 then (wringerref1_MayPart.j0 k true a0_0 a0_1) else (wringerref1_MayPart.j0 k (decide (a0_0 > 64)) a0_0 a0_1)) = some r := h
  clear h
  have HC2 := Aside0.mk H
  clear H
  go_enter Try.func28, Try.ntmps28
  go_upto_region 1 with (first | ((with_reducible refine gate_dst (N := 1) rfl ?_); refine box_event ?hg (N := 1) ?hd (cs := #[.int .i64 a0_0, .int .u64 a0_1]) (t := 54) ?hr ?_; (case hd => rfl); (case hg => rfl); (case hr => first | (go_simp; done) | (go_simp; rfl)); intro gb158 hg w3 hbox hb; have n0_ := Aside0.mk (below_step (by repeat (first | (with_reducible first | exact HB.out | apply below_alloc | apply pw_below_drewN | apply below_drew1) | exact HB.out)) hb); have n1_ := Aside0.mk (hbox); have n2_ := Aside0.mk ((by rw [hg]; exact (below_size (by repeat (first | (with_reducible first | exact HB.out | apply below_alloc | apply pw_below_drewN | apply below_drew1) | exact HB.out))) : w.heap.size ≤ gb158)); have n3_ := Aside0.mk ((by rw [hg]; exact (below_size (by repeat (first | (with_reducible first | exact HB.out | apply below_alloc | apply pw_below_drewN | apply below_drew1) | exact HB.out))) : w.heap.size ≤ gb158)); clear HB; have HB := n0_; have BK158 := n1_; have GW158 := n2_; have GE158 := n3_; clear n0_ n1_ n2_ n3_; clear hb hbox hg))
  (try simp only [Act.put, List.setIfInBounds_toArray, List.set_cons_zero, List.set_cons_succ])
  go_cut [10] (fun v10 wc => ∃ (kq : Nat) (x10_1 : Bool), v10 = .bool x10_1 ∧ Aside0 (wringerref1_MayPart.j0 kq x10_1 a0_0 a0_1 = some r) ∧ Aside0 (kq ≤ k) ∧ Aside0 (wc.heap[gb158]? = some (.cells #[.int .i64 a0_0, .int .u64 a0_1] 54 (0, 0))) ∧ Aside0 (Below w.heap.size w wc))
  case first =>
    have H := HC2.out
    clear HC2
    by_cases c4 : a0_0 < 0
    · rw [if_pos c4] at H
      have c4b0 : decide (a0_0 < 0) = true := decide_eq_true c4
      clear c4
      (first | rw [c4b0] | (simp only [i64_w, i32_w]; rw [c4b0]) | skip)
      have H' := Aside0.mk H
      clear H
      have hcz5_0 : w3.cell? ⟨gb158, 0, none⟩ = some (.int .i64 a0_0) := (blk_cell BK158.out 0).trans rfl
      have hcz5_1 : w3.cell? ⟨gb158, 1, none⟩ = some (.int .u64 a0_1) := (blk_cell BK158.out 1).trans rfl
      have hfz5_0 := blk_frozen BK158.out 0
      have hfz5_1 := blk_frozen BK158.out 1
      go_wp2
      go_meet
      case rel => exact ⟨_, (true), (by first | rfl | (simp; done) | (simp [*]; done)), H', ⟨by first | omega | exact Nat.le_refl _⟩, ⟨by (with_reducible repeat (first | refine blk_drewN ?_ _ | refine blk_drew ?_ | refine blk_alloc ?_ _)); exact BK158.out⟩, ⟨by repeat (first | (with_reducible first | exact HB.out | apply below_alloc | apply pw_below_drewN | apply below_drew1 | refine below_set ?_ GE158.out) | exact HB.out)⟩⟩
    · rw [if_neg c4] at H
      have c4b0 : decide (a0_0 < 0) = false := decide_eq_false c4
      clear c4
      (first | rw [c4b0] | (simp only [i64_w, i32_w]; rw [c4b0]) | skip)
      have H' := Aside0.mk H
      clear H
      have hcz6_0 : w3.cell? ⟨gb158, 0, none⟩ = some (.int .i64 a0_0) := (blk_cell BK158.out 0).trans rfl
      have hcz6_1 : w3.cell? ⟨gb158, 1, none⟩ = some (.int .u64 a0_1) := (blk_cell BK158.out 1).trans rfl
      have hfz6_0 := blk_frozen BK158.out 0
      have hfz6_1 := blk_frozen BK158.out 1
      go_wp2
      go_meet
      case rel => exact ⟨_, (decide (a0_0 > 64)), (by first | rfl | (simp; done) | (simp [*]; done)), H', ⟨by first | omega | exact Nat.le_refl _⟩, ⟨by (with_reducible repeat (first | refine blk_drewN ?_ _ | refine blk_drew ?_ | refine blk_alloc ?_ _)); exact BK158.out⟩, ⟨by repeat (first | (with_reducible first | exact HB.out | apply below_alloc | apply pw_below_drewN | apply below_drew1 | refine below_set ?_ GE158.out) | exact HB.out)⟩⟩
  case rest =>
    clear HC2
    try clear c2
    try clear p2
    try clear c4
    try clear c4b0
    try clear hcz5_0
    try clear hcz5_1
    try clear hcz6_0
    try clear hcz6_1
    try clear hfz5_0
    try clear hfz5_1
    try clear hfz6_0
    try clear hfz6_1
    obtain ⟨kq, x10_1, rfl, HA, HJ1, BK158, HB⟩ := hcut
    cases kq with
    | zero => exact absurd HA.out (by simp [wringerref1_MayPart.j0])
    | succ kj1 =>
      have H := HA.out
      clear HA
      simp only [wringerref1_MayPart.j0] at H
      by_cases c7 : x10_1 = true
      · subst c7
        have H1 : (some false) = some r := by rw [if_pos rfl] at H; exact H
        clear H
        have H := H1
        clear H1
        obtain rfl := Option.some.inj H
        go_wp2
        go_ret
        exact ⟨by first | rfl | (simp [errW_none, errW_some] <;> rfl) | (simp [*, errW_none, errW_some] <;> rfl), by repeat (first | (with_reducible first | exact HB.out | apply below_alloc | apply pw_below_drewN | apply below_drew1 | refine below_set ?_ GE158.out) | exact HB.out)⟩
      · replace c7 := Bool.eq_false_iff.mpr c7
        subst c7
        have H1 : (if a0_0 < 2 then (some (a0_1 == 0)) else (if 0 ≤ (wrap64 (a0_0 - 1)) then (some ((shr .u64 a0_1 (wrap64 (a0_0 - 1))) == 0)) else (none))) = some r := by rw [if_neg (show ¬ (false = true) by decide)] at H; exact H
        clear H
        have H := H1
        clear H1
        by_cases c8 : a0_0 < 2
        · rw [if_pos c8] at H
          have c8b0 : decide (a0_0 < 2) = true := decide_eq_true c8
          clear c8
          obtain rfl := Option.some.inj H
          have hcz9_0 : wc.cell? ⟨gb158, 0, none⟩ = some (.int .i64 a0_0) := (blk_cell BK158.out 0).trans rfl
          have hcz9_1 : wc.cell? ⟨gb158, 1, none⟩ = some (.int .u64 a0_1) := (blk_cell BK158.out 1).trans rfl
          have hfz9_0 := blk_frozen BK158.out 0
          have hfz9_1 := blk_frozen BK158.out 1
          go_wp2
          go_ret
          exact ⟨by first | rfl | (simp [errW_none, errW_some] <;> rfl) | (simp [*, errW_none, errW_some] <;> rfl), by repeat (first | (with_reducible first | exact HB.out | apply below_alloc | apply pw_below_drewN | apply below_drew1 | refine below_set ?_ GE158.out) | exact HB.out)⟩
        · rw [if_neg c8] at H
          have c8b0 : decide (a0_0 < 2) = false := decide_eq_false c8
          clear c8
          obtain ⟨ji10, hji10⟩ : ∃ j_ : Int, (wrap64 (a0_0 - 1)) = j_ := ⟨_, rfl⟩
          replace H : (if 0 ≤ (ji10) then (some ((shr .u64 a0_1 (ji10)) == 0)) else (none)) = some r := by first | (rw [hji10] at H; exact H) | (simp only [hji10] at H ⊢; exact H)
          have hji10w : (IntKind.i64.wrap (a0_0 - 1)) = ji10 := (i64_w _).trans hji10
          by_cases c11 : 0 ≤ (ji10)
          · rw [if_pos c11] at H
            have c11b0 := eq_true c11
            have c11b1 : decide (0 ≤ (ji10)) = true := decide_eq_true c11
            clear c11
            obtain ⟨ji12, hji12⟩ : ∃ j_ : Int, (shr .u64 a0_1 (ji10)) = j_ := ⟨_, rfl⟩
            replace H : (some ((ji12) == 0)) = some r := by first | (rw [hji12] at H; exact H) | (simp only [hji12] at H ⊢; exact H)
            have hji12_ : (a0_1 / 2 ^ min (ji10).toNat 64) = ji12 := hji12
            have hji12z : (ji10) ≤ 64 → (a0_1 / 2 ^ (ji10).toNat) = ji12 := shr_small hji12
            obtain rfl := Option.some.inj H
            have hcz13_0 : wc.cell? ⟨gb158, 0, none⟩ = some (.int .i64 a0_0) := (blk_cell BK158.out 0).trans rfl
            have hcz13_1 : wc.cell? ⟨gb158, 1, none⟩ = some (.int .u64 a0_1) := (blk_cell BK158.out 1).trans rfl
            have hfz13_0 := blk_frozen BK158.out 0
            have hfz13_1 := blk_frozen BK158.out 1
            go_wp2
            go_ret
            exact ⟨by first | rfl | (simp [errW_none, errW_some] <;> rfl) | (simp only [← hji10, ← hji12]; first | rfl | (simp [errW_none, errW_some] <;> rfl)) | (simp [*, errW_none, errW_some] <;> rfl), by repeat (first | (with_reducible first | exact HB.out | apply below_alloc | apply pw_below_drewN | apply below_drew1 | refine below_set ?_ GE158.out) | exact HB.out)⟩
          · rw [if_neg c11] at H
            exact absurd H (by simp)

end Go.Proofs.Ytnakjencodicmaa.PA

-- ---- Ump
/- The document's test of a part: what the print's function comes to. No program in sight. -/
namespace Go.Proofs.Ytnakjencodicmaa.PA
set_option maxRecDepth 100000
set_option linter.unusedVariables false
set_option linter.unusedSimpArgs false
open Go.RowKit Go.Proofs.YtnakjencodicmaaW.PrintWords Go.Proofs.YtnakjencodicmaaW.PrintLast Go.Proofs.YtnakjencodicmaaW.PrintMore
open Zig

theorem shr_u64 (x k : Nat) (hx : x < 18446744073709551616) (hk : k ≤ 64) : shr .u64 (x : Int) (k : Int) = ((x / 2 ^ k : Nat) : Int) := by
  unfold shr
  have e : min ((k : Int).toNat) (IntKind.bits .u64) = k := by simp [IntKind.bits]; omega
  rw [e]
  have e2 : (x : Int) / 2 ^ k = ((x / 2 ^ k : Nat) : Int) := by simp
  first | exact e2 | (rw [e2])
theorem wringerref1_MayPart.is (c : Int) (r : Nat) (h0 : -9223372036854775808 ≤ c) (h1 : c ≤ 9223372036854775807) (hr : r < 18446744073709551616) : Ev (fun k => wringerref1_MayPart.f k c (r : Int)) (may c r) := by
  unfold wringerref1_MayPart.f
  have bad : may c r = false → Ev (fun k => wringerref1_MayPart.j0 k true c (r : Int)) (may c r) := fun hm =>
    Ev.step (f := fun _ => some false) (fun k => by simp [wringerref1_MayPart.j0]) (Ev.ofSome hm.symm)
  by_cases hc : c < 0
  · exact Ev.ite_pos hc (bad (by unfold may; simp; omega))
  · refine Ev.ite_neg hc ?_
    by_cases hc2 : c > 64
    · rw [show decide (c > 64) = true from decide_eq_true hc2]; exact bad (by unfold may; simp; omega)
    · rw [show decide (c > 64) = false from decide_eq_false hc2]
      obtain ⟨n, rfl⟩ := Int.eq_ofNat_of_zero_le (show 0 ≤ c by omega)
      by_cases hn : (n : Int) < 2
      · refine Ev.step (f := fun _ => some ((r : Int) == 0)) (fun k => by simp only [wringerref1_MayPart.j0, Bool.false_eq_true, if_false]; rw [if_pos hn]) (Ev.ofSome ?_)
        rcases (show n = 0 ∨ n = 1 by omega) with rfl | rfl
        · unfold may; rw [if_pos (by omega)]; rw [Bool.eq_iff_iff]; simp
        · rw [may_top 1 r (by omega) (by omega), Bool.eq_iff_iff]; simp
      · have ew : wrap64 ((n : Int) - 1) = ((n - 1 : Nat) : Int) := by rw [w64 (by omega) (by omega)]; omega
        refine Ev.step (f := fun _ => some (((r / 2 ^ (n - 1) : Nat) : Int) == 0)) (fun k => by simp only [wringerref1_MayPart.j0, Bool.false_eq_true, if_false]; rw [if_neg hn, ew, if_pos (by omega), shr_u64 _ _ hr (by omega)]) (Ev.ofSome ?_)
        have hp : 0 < 2 ^ (n - 1) := Nat.pow_pos (by decide)
        rw [may_top n r (by omega) (by omega), Bool.eq_iff_iff, beq_iff_eq, decide_eq_true_eq]
        generalize 2 ^ (n - 1) = P at *
        constructor
        · intro h; exact (Nat.div_eq_zero_iff.1 (by omega)).resolve_left (by omega)
        · intro h; rw [Nat.div_eq_of_lt h]; rfl
end Go.Proofs.Ytnakjencodicmaa.PA

-- ---- Rr
/- wringerref1's Row: the text of its bits. -/
namespace Go.Proofs.Ytnakjencodicmaa
set_option maxRecDepth 100000
set_option linter.unusedSimpArgs false
set_option linter.unusedVariables false
open Go.RowKit Mix _root_.Go.Proofs.Ytnakjencodicmaa.Own Bits
attribute [local go_sem] max_int min_int

theorem or_bit (x k : Nat) (b : Bool) (hx : x < 256) (hk : k < 8) : bits .or .u8 (x : Int) ((b.toNat : Int) * 2 ^ k % 256) = ((x ||| b.toNat * 2 ^ k : Nat) : Int) := by
  have hp : 2 ^ k ≤ 128 ∧ (2 : Int) ^ k ≤ 128 ∧ 0 < (2 : Int) ^ k := by
    rcases (show k = 0 ∨ k = 1 ∨ k = 2 ∨ k = 3 ∨ k = 4 ∨ k = 5 ∨ k = 6 ∨ k = 7 by omega) with h | h | h | h | h | h | h | h <;> subst h <;> decide
  have e : (b.toNat : Int) * 2 ^ k % 256 = ((b.toNat * 2 ^ k : Nat) : Int) := by
    cases b
    · simp
    · simp; omega
  rw [e, u8_or_nat x _ hx (by cases b <;> simp <;> omega)]

theorem take_snoc (l : List Bool) (k : Nat) (h : k < l.length) : l.take (k + 1) = l.take k ++ [l.getD k false] := by
  rw [List.take_add_one, List.getD_eq_getElem?_getD, List.getElem?_eq_getElem h]; rfl

set_option maxHeartbeats 4000000 in
theorem rbytes_calls (p : Nat) (v : Value) (l : List Bool) (w : World) (hW : IsR w p v l) (hl : l.length < 1000000000000) :
    Calls Try.prog 31 #[.pointer (some ⟨p, 0, none⟩)] w fun e w' => e = .returned (.string (textOf (pack l))) ∧ Below w.heap.size w w' := by
  obtain ⟨i0, hi, hz0, hz1, hz2⟩ := info_parts infoU8
  obtain ⟨a, cap, rfl, hne⟩ := hW.row.slice
  obtain ⟨n, hn⟩ : ∃ n, n = l.length := ⟨_, rfl⟩
  rw [length_u8s, length_bits01, ← hn] at hW
  rw [← hn] at hl
  have hcp : w.cell? ⟨p, 0, none⟩ = some (.slice a n cap) := hW.blk.cell rfl
  obtain ⟨M, hM⟩ : ∃ M, M = (n + 7) / 8 := ⟨_, rfl⟩
  have hMn : n ≤ 8 * M := by omega
  have hM2 : M ≤ n := by omega
  obtain ⟨G, hG⟩ : ∃ G, G = w.heap.size := ⟨_, rfl⟩
  have HW := kept hW
  have HN := kept hn
  have HM := kept hM
  have HG := kept hG
  clear hW hn hG hM
  rw [← HG.out]
  obtain ⟨T, hT⟩ : ∃ T, T = textOf (pack l) := ⟨_, rfl⟩
  rw [← hT]
  have HT := kept hT
  clear hT
  go_enter Try.func31, Try.ntmps31
  go_wp2_with (first | (refine wpList_mk1 rfl _ _ 48 rfl 5 i0 (.int .u8 0) 1 Try.underlying48 hi hz0 hz1 hz2 rfl .i64 .i64 _ _ M rfl rfl ?c1 ?c2 ?c3 ?c4 ?_))
  case c1 => have := HM.out; omega
  case c2 => have := HM.out; omega
  case c3 => omega
  case c4 => simp [maxLen]; omega
  rw [← HG.out]
  intro w1 O1 hb1 hlt1
  have HW1 : Kept (IsR w1 p (.slice a n cap) l) := kept (HW.out.keep (Chg.of_below (S := fun _ => False) (by rw [HG.out] at hb1; exact hb1)) id (fun _ _ => id))
  have HO1 : Kept (Owns w1 5 (.slice (some ⟨G, 0, none⟩) M M) (u8s (packN (l.take 0) M))) := kept (by rw [List.take_zero, packN_zero]; simpa [u8s] using O1)
  have HB1 := kept hb1
  have hGl : p < G := by rw [HG.out]; exact HW.out.blk.lt
  clear O1 hb1 hlt1
  go_wp2_with fail
  go_loopw [4] (fun s4 wr => ∃ k : Nat, k ≤ n ∧ s4 = .int .i64 (k : Int) ∧ IsR wr p (.slice a n cap) l ∧ Owns wr 5 (.slice (some ⟨G, 0, none⟩) M M) (u8s (packN (l.take k) M)) ∧ Below G w wr)
    (fun s4 _ => n - (intOf s4).toNat)
  case atStart => exact ⟨0, Nat.zero_le _, rfl, HW1.out, HO1.out, HB1.out⟩
  case round =>
    obtain ⟨k, hk, rfl, hR, hO, hb⟩ := hrel
    have c0 : wr.cell? ⟨p, 0, none⟩ = some (.slice a n cap) := hR.blk.cell rfl
    by_cases hlt : k < n
    · have hlt2 : k < l.length := by rw [← HN.out]; exact hlt
      obtain ⟨h, rfl⟩ := hne (by intro e; have := congrArg List.length e; simp at this; rw [this] at hlt2; simp at hlt2)
      obtain ⟨b, hbb⟩ : ∃ b, b = l.getD k false := ⟨_, rfl⟩
      have c1 : wr.cell? ⟨h, k, none⟩ = some (.int .u8 (b.toNat : Int)) := hR.row.cell (by simp [u8s, bits01, hbb, List.getD_eq_getElem?_getD, hlt2])
      obtain ⟨x, hx⟩ : ∃ x, x = byteAt (l.take k) (k / 8) := ⟨_, rfl⟩
      have hx8 : x < 256 := by rw [hx]; exact byteAt_lt _ _
      have hk8 : k / 8 < M := by omega
      have c2 : wr.cell? ⟨G, k / 8, none⟩ = some (.int .u8 (x : Int)) := hO.cell (by simp [u8s, getElem?_packN _ _ _ hk8, hx])
      have f2 : wr.frozen? ⟨G, k / 8, none⟩ = false := hO.free _
      have l0 := lat_cell c0
      have l1 := lat_cell c1
      have l2 := lat_cell c2
      have HR := kept hR
      have HO := kept hO
      have HBr := kept hb
      have HX := kept hx
      have HBB := kept hbb
      clear hR hO hb hx hbb HW1 HO1 HB1
      go_wp2_with fail
      refine wp_region_mixL [] [0,1,2,3,4,5,6,7,8,9,10,11,12,13,14,15,16] [17] (by kernel_rfl) (by kernel_rfl) ?_
      intro K hK
      simp only [pick, List.filterMap_cons, List.filterMap_nil, List.getElem?_cons_zero, List.getElem?_cons_succ]
      refine wpQuiet_nil ?_
      repeat (show wpQuiet _ _ _ _ (_ :: _) _; go_big_quiet_step (fail))
      refine wpQuiet_nil ?_
      show wpList _ _ _ (_ :: _) _ _
      go_wp2_with fail
      refine hK _ _ ?_
      rw [or_bit x (k % 8) b hx8 (by omega)]
      generalize hw2 : World.drew (World.setCell wr _ _) = w2
      have hpG : p ≠ G := by omega
      have hhG : h < G := by rw [HG.out]; exact HW.out.row.lt h rfl
      have hR2 : IsR w2 p (.slice (some ⟨h, 0, none⟩) n cap) l := by
        rw [← hw2]
        exact ⟨HR.out.blk.setOther (a := ⟨G, k / 8, none⟩) hpG _, HR.out.row.setOther (a := ⟨G, k / 8, none⟩) (by simp [Value.ownBlock]; omega) _⟩
      have hO2 : Owns w2 5 (.slice (some ⟨G, 0, none⟩) M M) (u8s (packN (l.take (k + 1)) M)) := by
        rw [← hw2, take_snoc l k hlt2, packN_snoc, u8s_set, List.length_take, Nat.min_eq_left (by omega), ← HX.out, ← HBB.out]
        exact HO.out.store _ _
      have hB2 : Below G w w2 := by
        rw [← hw2]
        exact (HBr.out.setCell (p := ⟨G, k / 8, none⟩) (Nat.le_refl _) _).drew
      have X1 := kept hR2
      have X2 := kept hO2
      have X3 := kept hB2
      clear hR2 hO2 hB2 hw2 l0 l1 l2 c0 c1 c2 f2
      go_wp2_with fail
      go_roundw
      case rel => exact ⟨k + 1, by omega, by go_num, X1.out, X2.out, X3.out⟩
      case measure => simp [intOf]; omega
    · have hkn : k = n := by omega
      subst hkn
      have hcv := conv_string hO
      rw [List.take_of_length_le (by rw [HN.out]; exact Nat.le_refl _)] at hcv
      have e : packN l M = pack l := by rw [pack, HM.out, HN.out]
      rw [e] at hcv
      rw [← HT.out] at hcv
      have HBr := kept hb
      clear e hb hO hR
      go_wp2_with fail
      go_ret
      exact ⟨rfl, HBr.out⟩
end Go.Proofs.Ytnakjencodicmaa

-- ---- Nr
/- A Row of the call's own. -/
namespace Go.Proofs.Ytnakjencodicmaa
set_option maxRecDepth 100000
set_option linter.unusedSimpArgs false
set_option linter.unusedVariables false
open Go.RowKit Mix _root_.Go.Proofs.Ytnakjencodicmaa.Own Bits

/-- A Row of the call's own, all of its memory from block B on. -/
structure NewR (B : Nat) (w : World) (p : Nat) (v : Value) (l : List Bool) : Prop where
  is : IsR w p v l
  at_ : B ≤ p
  row : ∀ g, v.ownBlock = some g → B ≤ g
theorem NewR.later {B : Nat} {w w' : World} {p : Nat} {v : Value} {l : List Bool} (h : NewR B w p v l) (hc : Below w.heap.size w w') : NewR B w' p v l :=
  ⟨h.is.keep (Chg.of_below (S := fun _ => False) hc) id (fun _ _ => id), h.at_, h.row⟩
theorem rput_new (B p : Nat) (v : Value) (l : List Bool) (x : Nat) (n : Int) (w : World) (hB : B ≤ w.heap.size) (hW : NewR B w p v l) (hl : l.length < 1000000000000) (hx : x < 18446744073709551616) (hn0 : -9223372036854775808 ≤ n) (hn1 : n ≤ 9223372036854775807) :
    Calls Try.prog 29 #[.pointer (some ⟨p, 0, none⟩), .int .u64 (x : Int), .int .i64 n] w fun e w' => e = .returned (.tuple #[]) ∧ ∃ v', NewR B w' p v' (l ++ bitsOf x (clamp n)) ∧ Below B w w' :=
  (rput_calls p v l x n w hW.is hl hx hn0 hn1).mono fun e w' ⟨he, v', h1, h2, h3⟩ => ⟨he, v', ⟨h1, hW.at_, fun g hg => by
      rcases h3 g hg with h | h
      · exact hW.row g h.symm
      · omega⟩, h2.below hB (fun k hk h => by
      rcases h with h | h
      · have := hW.at_; omega
      · have := hW.row k h.symm; omega)⟩
end Go.Proofs.Ytnakjencodicmaa

-- ---- Jl
/- wringerref7.PutHuff: the bytes of parts: what the call answers. Conditions: those that each theorem names. -/
namespace Go.Proofs.Ytnakjencodicmaa
set_option maxRecDepth 100000
set_option linter.unusedSimpArgs false
set_option linter.unusedVariables false
open Go.RowKit Go.Proofs.YtnakjencodicmaaW.PrintWords Go.Proofs.YtnakjencodicmaaW.PrintLast Go.Proofs.YtnakjencodicmaaW.PrintMore PA Mix _root_.Go.Proofs.Ytnakjencodicmaa.Own Bits Hu Dp
attribute [local go_sem] max_int min_int

theorem NewR.apart {B : Nat} {w : World} {p : Nat} {v : Value} {l : List Bool} (h : NewR B w p v l) {g : Nat} {cs : Array Value} {t : TypeId} (hb : Blk w g cs t) (h1 : t ≠ 77) (h2 : (5 : TypeId) ≠ t) : ¬ (g = p ∨ some g = v.ownBlock) := by
  rintro (hh | hh)
  · exact Blk.ne hb h.is.blk h1 hh
  · exact h.is.row.ne hb h2 hh.symm
theorem rput_chg (B p : Nat) (v : Value) (l : List Bool) (x : Nat) (n : Int) (w : World) (hB : B ≤ w.heap.size) (hW : NewR B w p v l) (hl : l.length < 1000000000000) (hx : x < 18446744073709551616) (hn0 : -9223372036854775808 ≤ n) (hn1 : n ≤ 9223372036854775807) :
    Calls Try.prog 29 #[.pointer (some ⟨p, 0, none⟩), .int .u64 (x : Int), .int .i64 n] w fun e w' => e = .returned (.tuple #[]) ∧ ∃ v', NewR B w' p v' (l ++ bitsOf x (clamp n)) ∧ Below B w w' ∧ Chg (fun k => k = p ∨ some k = v.ownBlock) w w' :=
  (rput_calls p v l x n w hW.is hl hx hn0 hn1).mono fun e w' ⟨he, v', h1, h2, h3⟩ => ⟨he, v', ⟨h1, hW.at_, fun g hg => by
      rcases h3 g hg with h | h
      · exact hW.row g h.symm
      · omega⟩, h2.below hB (fun k hk h => by
      rcases h with h | h
      · have := hW.at_; omega
      · have := hW.row k h.symm; omega), h2⟩

set_option maxHeartbeats 2000000 in
/-- One part's rest. -/
theorem rrest_calls (B p : Nat) (v : Value) (l : List Bool) (c r : Nat) (w : World) (hB : B ≤ w.heap.size) (hW : NewR B w p v l) (hl : l.length < 1000000000000) (hx : r < 18446744073709551616) (hc : c ≤ 64) :
    Calls Try.prog 30 #[.pointer (some ⟨p, 0, none⟩), .agg #[.int .i64 (c : Int), .int .u64 (r : Int)]] w fun e w' => e = .returned (.tuple #[]) ∧ ∃ v', NewR B w' p v' (l ++ bitsOf r (c - 1)) ∧ Below B w w' ∧ Chg (fun k => k = p ∨ some k = v.ownBlock) w w' := by
  have emx : Own.mx 0 ((c : Int) - 1) = ((c - 1 : Nat) : Int) := by rw [Own.mx_eq]; omega
  have ecl : clamp ((c - 1 : Nat) : Int) = c - 1 := by unfold clamp; omega
  have HW := kept hW
  have HL := kept hl
  have HBs := kept hB
  have ECl := kept ecl
  clear hW hl hB ecl
  go_enter Try.func30, Try.ntmps30
  go_wp2_with fail
  generalize hw1 : World.alloc w _ = w1
  have hal : Below w.heap.size w w1 := by rw [← hw1]; exact (Below.refl _ _).alloc (Nat.le_refl _) _
  have HB1 := kept (hal.mono HBs.out)
  have HC1 := kept (Chg.of_below (S := fun k => k = p ∨ some k = v.ownBlock) hal)
  have hP := kept (rput_chg B p v l r ((c - 1 : Nat) : Int) w1 (Nat.le_trans HBs.out hal.size) (HW.out.later hal) HL.out hx (by omega) (by omega))
  rw [ECl.out] at hP
  clear hw1 hal
  refine hP.out.mono ?_
  rintro e w2 ⟨rfl, v2, hW2, hb2, hc2⟩
  have HW2 := kept hW2
  have HB2 := kept (HB1.out.trans hb2)
  have HC2 := kept (HC1.out.trans hc2 (fun _ _ h => h))
  clear hW2 hb2 hc2
  go_wp2_with fail
  go_end0
  exact ⟨rfl, v2, HW2.out, HB2.out, HC2.out⟩

set_option maxHeartbeats 2000000 in
theorem rhput_form (A0 : Option Addr) (n0 c0 : Nat) (A1 : Option Addr) (c1 : Nat) (L : List Int) (ps : List (Int × Nat)) (w : World) (hr1 : Kd.C (Kd.int .i64) w A1 L.length L) (hc1 : L.length ≤ c1) (hm : mayL L = false) :
    Calls Try.prog 11 #[.slice A0 n0 c0, .slice A1 L.length c1] w fun e w' => e = .returned (.agg #[.string (putE L ps).1, .int .i64 (putE L ps).2]) ∧ Below w.heap.size w w' := by
  obtain ⟨k, hk⟩ := (rcanon_is L).rounds
  have hce : codesE L = ([], 3) := by unfold codesE; rw [hm]; rfl
  rw [hce] at hk
  have hg : putE L ps = (⟨#[]⟩, 3) := by unfold putE; rw [hm]; rfl
  rw [hg]
  have HC := kept (fun wx (hC : Kd.C (Kd.int .i64) wx A1 L.length L) => wringerref7_Canon.calls k A1 c1 L [] 3 wx hC hc1 hk)
  have HR := kept hr1
  obtain ⟨l, hl⟩ : ∃ l, l = L.length := ⟨_, rfl⟩
  rw [← hl] at HC HR ⊢
  clear hr1 hc1 hm hg hl hk hce
  go_enter Try.func11, Try.ntmps11
  go_wp2_with fail
  generalize hw1 : World.alloc w _ = w1
  obtain ⟨pt, hpt⟩ : ∃ pt, pt = w.heap.size := ⟨_, rfl⟩
  have hal : Below w.heap.size w w1 := by rw [← hw1]; exact (Below.refl _ _).alloc (Nat.le_refl _) _
  have HT1 : Own.Kept (Blk w1 pt #[.string ⟨#[]⟩, .int .i64 0] 29) := kept (by rw [hpt, ← hw1]; exact Blk.fresh _ _ _)
  have HB1 := kept hal
  have HPt : Own.Kept (w.heap.size ≤ pt) := kept (Nat.le_of_eq hpt.symm)
  rw [← hpt]
  clear hw1 hal hpt
  refine (HC.out w1 (Kd.C_below HR.out HB1.out)).mono ?_
  rintro e w2 ⟨vc, rfl, hrv, hb2⟩
  obtain ⟨av, cv, rfl⟩ := Kd.R_slice hrv
  have HT2 : Own.Kept (Blk w2 pt #[.string ⟨#[]⟩, .int .i64 0] 29) := kept ((hb2.block pt (Blk.lt HT1.out)).trans HT1.out)
  have HB2 := kept (HB1.out.trans (hb2.mono HB1.out.size))
  clear hb2 hrv
  go_upto_region 3 with fail
  generalize hw3 : World.alloc w2 _ = w3
  have hal : Below w2.heap.size w2 w3 := by rw [← hw3]; exact (Below.refl _ _).alloc (Nat.le_refl _) _
  have HT3 : Own.Kept (Blk w3 pt #[.string ⟨#[]⟩, .int .i64 0] 29) := kept ((hal.block pt (Blk.lt HT2.out)).trans HT2.out)
  have HB3 := kept (HB2.out.trans (hal.mono HB2.out.size))
  have c0 : w3.cell? ⟨pt, 0, none⟩ = some (.string ⟨#[]⟩) := Blk.cell HT3.out rfl
  have c1 : w3.cell? ⟨pt, 1, none⟩ = some (.int .i64 0) := Blk.cell HT3.out rfl
  have f0 : w3.frozen? ⟨pt, 0, none⟩ = false := Blk.free HT3.out 0
  have f1 : w3.frozen? ⟨pt, 1, none⟩ = false := Blk.free HT3.out 1
  clear hw3 hal
  go_wp2_with fail
  generalize hwz : World.setCell _ _ _ = wz
  have hBz : Blk wz pt #[.string ⟨#[]⟩, .int .i64 3] 29 := by
    rw [← hwz]
    have h := (HT3.out.set 0 (.string ⟨#[]⟩)).set 1 (.int .i64 3)
    simpa using h
  have hCz : Below w.heap.size w wz := by
    rw [← hwz]
    exact (HB3.out.setCell (p := ⟨pt, 0, none⟩) HPt.out _).setCell (p := ⟨pt, 1, none⟩) HPt.out _
  have z0 : wz.cell? ⟨pt, 0, none⟩ = some (.string ⟨#[]⟩) := Blk.cell hBz rfl
  have z1 : wz.cell? ⟨pt, 1, none⟩ = some (.int .i64 3) := Blk.cell hBz rfl
  refine bodyPost_ret (v := .agg #[.string ⟨#[]⟩, .int .i64 3]) (by simp [results, Try.results11, go_sem, z0, z1]) rfl ?_
  exact ⟨rfl, hCz⟩

/-- On the way: the answer's cell at pt, the codes' at pk, the row at pr. -/
structure StP (B : Nat) (w wr : World) (pt pk pr gc cc : Nat) (v : Value) (bs : List Bool) (L : List Int) : Prop where
  row : NewR B wr pr v bs
  txt : Blk wr pt #[.string ⟨#[]⟩, .int .i64 0] 29
  cds : Blk wr pk #[.slice (some ⟨gc, 0, none⟩) 65 cc, .int .i64 0] 73
  own : OwnK wr 69 2 (.slice (some ⟨gc, 0, none⟩) 65 cc) 65 (CanonH.fl (Cd.codeL L))
  low : Below B w wr
  sz : B ≤ wr.heap.size
theorem StP.later {B : Nat} {w wr w' : World} {pt pk pr gc cc : Nat} {v : Value} {bs : List Bool} {L : List Int} (h : StP B w wr pt pk pr gc cc v bs L) (hb : Below wr.heap.size wr w') : StP B w w' pt pk pr gc cc v bs L :=
  ⟨h.row.later hb, (hb.block pt (Blk.lt h.txt)).trans h.txt, (hb.block pk (Blk.lt h.cds)).trans h.cds, h.own.later hb, h.low.trans (hb.mono h.sz), Nat.le_trans h.sz hb.size⟩
theorem StP.put {B : Nat} {w wr w' : World} {pt pk pr gc cc : Nat} {v v' : Value} {bs bs' : List Bool} {L : List Int} (h : StP B w wr pt pk pr gc cc v bs L) (hr : NewR B w' pr v' bs') (hb : Below B wr w') (hc : Chg (fun k => k = pr ∨ some k = v.ownBlock) wr w') : StP B w w' pt pk pr gc cc v' bs' L :=
  ⟨hr, hc.keep h.txt (h.row.apart h.txt (by decide) (by decide)), hc.keep h.cds (h.row.apart h.cds (by decide) (by decide)), h.own.chg hc (fun g hg => by
    obtain ⟨cur, hcur⟩ := h.own.blk g hg
    exact h.row.apart hcur (by decide) (by decide)), h.low.trans hb, Nat.le_trans h.sz hb.size⟩

set_option maxHeartbeats 16000000 in
theorem rhput_calls (A0 : Option Addr) (n0 c0 : Nat) (A1 : Option Addr) (c1 : Nat) (L : List Int) (ps : List (Int × Nat)) (w : World) (hr0 : RdQ w A0 n0 ps) (hr1 : Kd.C (Kd.int .i64) w A1 L.length L) (hc1 : L.length ≤ c1) (hm : mayL L = true) (hn : n0 ≤ 1000000) :
    Calls Try.prog 11 #[.slice A0 n0 c0, .slice A1 L.length c1] w fun e w' => e = .returned (.agg #[.string (putE L ps).1, .int .i64 (putE L ps).2]) ∧ Below w.heap.size w w' := by
  obtain ⟨k, hk⟩ := (rcanon_is L).rounds
  have hce : codesE L = ((Cd.codeL L).map codeS, 0) := by unfold codesE; rw [if_pos hm]
  rw [hce] at hk
  have HC := kept (fun wx (hC : Kd.C (Kd.int .i64) wx A1 L.length L) => wringerref7_Canon.calls k A1 c1 L _ 0 wx hC hc1 hk)
  have h65 := (Cd.may_range hm).1
  have HM := kept hm
  have hcl : (Cd.codeL L).length = 65 := Cd.length_cst L _
  have HCl := kept hcl
  have HR := kept hr0
  have HRl := kept hr1
  have HLr := kept (Own.rd_of_C hr1)
  have HL65 := kept h65
  rw [h65] at HC HRl HLr ⊢
  obtain ⟨B, hB⟩ : ∃ B, B = w.heap.size := ⟨_, rfl⟩
  have HBe := kept hB
  rw [← hB]
  clear hr0 hr1 hc1 hm h65 hcl hB hk hce
  go_enter Try.func11, Try.ntmps11
  go_wp2_with fail
  generalize hw1 : World.alloc w _ = w1
  obtain ⟨pt, hpt⟩ : ∃ pt, pt = w.heap.size := ⟨_, rfl⟩
  have hal : Below w.heap.size w w1 := by rw [← hw1]; exact (Below.refl _ _).alloc (Nat.le_refl _) _
  have HT1 : Own.Kept (Blk w1 pt #[.string ⟨#[]⟩, .int .i64 0] 29) := kept (by rw [hpt, ← hw1]; exact Blk.fresh _ _ _)
  have HB1 := kept hal
  have HPt : Own.Kept (B ≤ pt) := kept (by rw [HBe.out]; exact Nat.le_of_eq hpt.symm)
  rw [← hpt]
  clear hw1 hal hpt
  refine (HC.out w1 (Kd.C_below HRl.out HB1.out)).mono ?_
  rintro e w2 ⟨vc, rfl, hrv, hb2⟩
  obtain ⟨ho, hnew⟩ := ownC_of_R hrv
  rw [HCl.out] at ho
  obtain ⟨ac, cc, rfl, hac1, hac2, hac3⟩ := ho.slice
  obtain ⟨gc, rfl⟩ := hac3 (by decide)
  have HO2 := kept ho
  have HT2 : Own.Kept (Blk w2 pt #[.string ⟨#[]⟩, .int .i64 0] 29) := kept ((hb2.block pt (Blk.lt HT1.out)).trans HT1.out)
  have HB2 := kept (HB1.out.trans (hb2.mono HB1.out.size))
  clear hb2 hrv ho hnew hac1 hac2 hac3
  go_upto_region 5 with fail
  obtain ⟨pk, hpk⟩ : ∃ pk, pk = w2.heap.size := ⟨_, rfl⟩
  obtain ⟨pr, hpr⟩ : ∃ pr, pr = w2.heap.size + 1 := ⟨_, rfl⟩
  generalize hw3 : World.alloc (World.alloc w2 _) _ = w3
  have hal : Below w2.heap.size w2 w3 := by rw [← hw3]; exact ((Below.refl _ _).alloc (Nat.le_refl _) _).alloc (by simp) _
  have HSt : Own.Kept (StP B w w3 pt pk pr gc cc (.slice none 0 0) [] L) := kept (by
    refine ⟨⟨⟨?_, Owns.nil _ _⟩, ?_, fun g hg => by simp [Value.ownBlock] at hg⟩, (hal.block pt (Blk.lt HT2.out)).trans HT2.out, ?_, HO2.out.later hal, ?_, ?_⟩
    · rw [hpr, ← hw3]; exact Blk.fresh_at _ _ (by simp) _ _
    · have := HB2.out.size; rw [HBe.out]; omega
    · rw [hpk, ← hw3]; exact Blk.alloc (Blk.fresh w2 _ _) _
    · rw [HBe.out]; exact HB2.out.trans (hal.mono HB2.out.size)
    · rw [HBe.out]; exact Nat.le_trans HB2.out.size hal.size)
  rw [← hpr, ← hpk]
  clear hw3 hal hpk hpr HT1 HT2 HB1 HB2 HO2
  go_wp2_with fail
  go_loopw [7] (fun s7 wr => ∃ (i : Nat) (v : Value), i ≤ n0 ∧ s7 = .int .i64 (i : Int) ∧ (∀ p ∈ ps.take i, okP L p = true) ∧ StP B w wr pt pk pr gc cc v (enc L ((ps.take i).map natP)) L) (fun s7 _ => n0 - (intOf s7).toNat)
  case atStart => exact ⟨0, _, Nat.zero_le _, rfl, by simp, by simpa [enc] using HSt.out⟩
  case round =>
    obtain ⟨i, v, hi, rfl, hok, hS⟩ := hrel
    obtain ⟨wq, rfl⟩ : ∃ wq, wq = wr := ⟨wr, rfl⟩
    have HOk := kept hok
    have HS := kept hS
    clear hok hS
    by_cases hlt : i < n0
    · obtain ⟨c, r, hpi⟩ : ∃ c r, ps[i]? = some (c, r) := ⟨_, _, List.getElem?_eq_getElem (by rw [HR.out.len]; exact hlt)⟩
      have hmem : (c, r) ∈ ps := List.mem_of_getElem? hpi
      obtain ⟨w0c, w1c, w2c⟩ := HR.out.wf _ hmem
      obtain ⟨x0, rfl, hcs⟩ := HR.out.at_ (by omega)
      obtain ⟨hc0, hc1⟩ := hcs i (c, r) hpi
      have hx0 : (x0.add (i * 2)).block < B := by rw [HBe.out]; exact World.block_lt_of_cell? w _ hc0
      have hx1 : (x0.add (i * 2 + 1)).block < B := by rw [HBe.out]; exact World.block_lt_of_cell? w _ hc1
      have k0 := (HS.out.low.cell hx0).trans hc0
      have k1 := cellN_next ((HS.out.low.cell hx1).trans hc1)
      have htk : ps.take (i + 1) = ps.take i ++ [(c, r)] := by
        rw [List.take_succ_eq_append_getElem (by rw [HR.out.len]; exact hlt)]
        rw [List.getElem?_eq_getElem (by rw [HR.out.len]; exact hlt)] at hpi
        rw [Option.some.inj hpi]
      have HTk := kept htk
      have HMem := kept hmem
      have HK := kept (And.intro hc0 hc1)
      have HX := kept (And.intro hx0 hx1)
      clear hpi hmem hcs hc0 hc1 htk hx0 hx1
      obtain ⟨km, hkm⟩ := (wringerref1_MayPart.is c r w0c w1c w2c).rounds
      have HMp := kept (wringerref1_MayPart.calls km c (r : Int) (Zig.may c r) wq hkm)
      have hbad : okP L (c, r) = false → putE L ps = (⟨#[]⟩, 1) := fun h => by
        unfold putE
        rw [if_pos HM.out, if_neg]
        intro hall
        have := List.all_eq_true.1 hall _ HMem.out
        rw [h] at this; cases this
      clear hkm
      cases hmay : Zig.may c r with
      | false =>
        rw [hmay] at HMp
        have hpe := hbad (by unfold okP; rw [hmay]; rfl)
        have HPe := kept hpe
        clear hmay hbad hpe
        go_wp2_with fail
        refine HMp.out.mono ?_
        rintro e w4 ⟨rfl, hb4⟩
        have HS4 := kept (HS.out.later hb4)
        have c0 : w4.cell? ⟨pt, 0, none⟩ = some (.string ⟨#[]⟩) := Blk.cell HS4.out.txt rfl
        have c1 : w4.cell? ⟨pt, 1, none⟩ = some (.int .i64 0) := Blk.cell HS4.out.txt rfl
        have f0 : w4.frozen? ⟨pt, 0, none⟩ = false := Blk.free HS4.out.txt 0
        have f1 : w4.frozen? ⟨pt, 1, none⟩ = false := Blk.free HS4.out.txt 1
        clear hb4 k0 k1
        go_wp2_with fail
        generalize hwz : World.setCell _ _ _ = wz
        have hBz : Blk wz pt #[.string ⟨#[]⟩, .int .i64 1] 29 := by
          rw [← hwz]
          have h := (HS4.out.txt.set 0 (.string ⟨#[]⟩)).set 1 (.int .i64 1)
          simpa using h
        have hCz : Below B w wz := by
          rw [← hwz]
          exact (HS4.out.low.setCell (p := ⟨pt, 0, none⟩) HPt.out _).setCell (p := ⟨pt, 1, none⟩) HPt.out _
        have z0 : wz.cell? ⟨pt, 0, none⟩ = some (.string ⟨#[]⟩) := Blk.cell hBz rfl
        have z1 : wz.cell? ⟨pt, 1, none⟩ = some (.int .i64 1) := Blk.cell hBz rfl
        refine bodyPost_ret (v := .agg #[.string ⟨#[]⟩, .int .i64 1]) (by simp [results, Try.results11, go_sem, z0, z1]) rfl ?_
        exact ⟨by rw [HPe.out], hCz⟩
      | true =>
        rw [hmay] at HMp
        have hm2 := hmay
        unfold Zig.may at hm2
        rw [Bool.and_eq_true, decide_eq_true_eq] at hm2
        obtain ⟨⟨hcl0, hcl1⟩, _⟩ := hm2
        obtain ⟨cN, rfl⟩ := Int.eq_ofNat_of_zero_le hcl0
        have hc64 : cN ≤ 64 := by omega
        obtain ⟨cb, cn, hcode, hcb, hcn, hee⟩ : ∃ cb cn : Nat, (Cd.codeL L).getD cN (0, 0) = ((cb : Int), (cn : Int)) ∧ cb < 32768 ∧ cn ≤ 15 ∧ (cb = cdB L cN ∧ cn = cdN L cN) := by
          obtain ⟨a1, a2, a3, a4, _⟩ := cd_all HM.out cN (by omega)
          exact ⟨cdB L cN, cdN L cN, a4, Nat.lt_of_lt_of_le a2 (Nat.pow_le_pow_right (by decide) a1), a1, rfl, rfl⟩
        obtain ⟨f1, f2⟩ := CanonH.fl_at (Cd.codeL L) cN (by rw [HCl.out]; omega)
        have eat : Hp.at_ (Cd.codeL L) cN = ((cb : Int), (cn : Int)) := hcode
        rw [eat] at f1 f2
        have hget : L.getD cN 0 = (cn : Int) := by rw [hee.2]; exact (cd_all HM.out cN (by omega)).2.2.1
        obtain ⟨x1, rfl, hlc⟩ := HLr.out.at (Own.ints_at .i64 L cN (by rw [HL65.out]; omega))
        rw [hget] at hlc
        have hx2 : (x1.add cN).block < B := by rw [HBe.out]; exact World.block_lt_of_cell? w _ hlc
        have HLc := kept (And.intro hlc hx2)
        have HF1 := kept f1
        have HF2 := kept f2
        have HEe := kept hee
        have HMay := kept hmay
        have HGet := kept hget
        clear f1 f2 eat hcode hee hmay hcl0 hcl1 w0c w1c hget hlc hx2
        go_wp2_with fail
        refine HMp.out.mono ?_
        rintro e w4 ⟨rfl, hb4⟩
        have HS4 := kept (HS.out.later hb4)
        clear k0 k1
        have k0 := (HS4.out.low.cell HX.out.1).trans HK.out.1
        have l0 := (HS4.out.low.cell HLc.out.2).trans HLc.out.1
        clear hb4
        by_cases hpos : cn = 0
        · have hpe := hbad (by unfold okP; rw [HMay.out, Int.toNat_natCast, HGet.out, hpos]; rfl)
          have HPe := kept hpe
          have tz : ((cn : Int) == 0) = true := by rw [beq_iff_eq]; omega
          have c0 : w4.cell? ⟨pt, 0, none⟩ = some (.string ⟨#[]⟩) := Blk.cell HS4.out.txt rfl
          have c1 : w4.cell? ⟨pt, 1, none⟩ = some (.int .i64 0) := Blk.cell HS4.out.txt rfl
          have f0 : w4.frozen? ⟨pt, 0, none⟩ = false := Blk.free HS4.out.txt 0
          have f1 : w4.frozen? ⟨pt, 1, none⟩ = false := Blk.free HS4.out.txt 1
          clear hpe hbad hpos
          go_wp2_with fail
          generalize hwz : World.setCell _ _ _ = wz
          have hBz : Blk wz pt #[.string ⟨#[]⟩, .int .i64 1] 29 := by
            rw [← hwz]
            have h := (HS4.out.txt.set 0 (.string ⟨#[]⟩)).set 1 (.int .i64 1)
            simpa using h
          have hCz : Below B w wz := by
            rw [← hwz]
            exact (HS4.out.low.setCell (p := ⟨pt, 0, none⟩) HPt.out _).setCell (p := ⟨pt, 1, none⟩) HPt.out _
          have z0 : wz.cell? ⟨pt, 0, none⟩ = some (.string ⟨#[]⟩) := Blk.cell hBz rfl
          have z1 : wz.cell? ⟨pt, 1, none⟩ = some (.int .i64 1) := Blk.cell hBz rfl
          refine bodyPost_ret (v := .agg #[.string ⟨#[]⟩, .int .i64 1]) (by simp [results, Try.results11, go_sem, z0, z1]) rfl ?_
          exact ⟨by rw [HPe.out], hCz⟩
        · have tz : ((cn : Int) == 0) = false := by rw [beq_eq_false_iff_ne]; omega
          have hokc : okP L ((cN : Int), r) = true := by unfold okP; rw [HMay.out, Int.toNat_natCast, HGet.out]; simpa using hpos
          have HOkc := kept hokc
          clear hbad hokc
          go_upto_region 10 with fail
          have e0 := lat_cell (Blk.cell HS4.out.cds (i := 0) rfl)
          have e1 := lat_cell k0
          have e2 := lat_cell (HS4.out.own.cell HF1.out)
          have e3 := lat_cell (HS4.out.own.cell HF2.out)
          refine wp_region_mixL [] [0,1,2,3,4,5,6,7,8] [9,10] (by kernel_rfl) (by kernel_rfl) ?_
          intro K hK
          simp only [pick, List.filterMap_cons, List.filterMap_nil, List.getElem?_cons_zero, List.getElem?_cons_succ]
          iterate 9 (show wpQuiet _ _ _ _ (_ :: _) _; go_big_quiet_step (fail))
          refine wpQuiet_nil ?_
          show wpList _ _ _ [_, _] _ _
          clear e0 e1 e2 e3 k0 l0
          have hwd : Below w4.heap.size w4 w4.drew := (Below.refl _ _).drew
          generalize w4.drew = w4d at hwd ⊢
          have HSd := kept (HS4.out.later hwd)
          clear hwd
          go_wp2_with fail
          generalize hw5 : World.alloc w4d _ = w5
          obtain ⟨gd, hgd⟩ : ∃ gd, gd = w4d.heap.size := ⟨_, rfl⟩
          have hal : Below w4d.heap.size w4d w5 := by rw [← hw5]; exact (Below.refl _ _).alloc (Nat.le_refl _) _
          have hD5 : Blk w5 gd #[.int .i64 (cb : Int), .int .i64 (cn : Int)] 69 := by rw [hgd, ← hw5]; exact Blk.fresh _ _ _
          have HD5 := kept hD5
          have HS5 := kept (HSd.out.later hal)
          have d1 : w5.cell? ⟨gd, 1, none⟩ = some (.int .i64 (cn : Int)) := Blk.cell hD5 rfl
          rw [← hgd]
          refine hK _ _ ?_
          obtain ⟨E, hE⟩ : ∃ E, E = enc L ((ps.take i).map natP) := ⟨_, rfl⟩
          have hEl : E.length ≤ 100000000 := by
            have h := enc_len L HM.out ((ps.take i).map natP) (fun q hq => by
              obtain ⟨q0, hq0, rfl⟩ := List.mem_map.1 hq
              exact (okP_able HM.out (HOk.out q0 hq0)).2.2)
            rw [List.length_map, List.length_take] at h
            rw [hE]; omega
          rw [← hE] at HS5
          have HE := kept hE
          have HEl := kept hEl
          clear hw5 hgd hal hD5 hE hEl
          go_wp2_with fail
          go_loopw [9] (fun s9 wr => ∃ (k : Nat) (v1 : Value), k ≤ cn ∧ s9 = .int .i64 ((k : Int) - 1) ∧ StP B w wr pt pk pr gc cc v1 (E ++ (Hu.hi cb cn).take (cn - k)) L ∧ Blk wr gd #[.int .i64 (cb : Int), .int .i64 (cn : Int)] 69) (fun s9 _ => (intOf s9 + 1).toNat)
          case atStart => exact ⟨cn, _, Nat.le_refl _, rfl, by simpa using HS5.out, HD5.out⟩
          case round =>
            obtain ⟨k, v1, hk, rfl, hS, hD⟩ := hrel
            obtain ⟨wk, rfl⟩ : ∃ wk, wk = wr := ⟨wr, rfl⟩
            have HSk := kept hS
            have HDk := kept hD
            have hlen : (E ++ (Hu.hi cb cn).take (cn - k)).length < 1000000000000 := by have := HEl.out; simp; omega
            have HLen := kept hlen
            clear hS d1 hlen
            cases k with
            | succ k =>
              rw [show ((k + 1 : Nat) : Int) - 1 = (k : Int) by omega]
              have d0 : wk.cell? ⟨gd, 0, none⟩ = some (.int .i64 (cb : Int)) := Blk.cell hD rfl
              have hsh : cb / 2 ^ k < 18446744073709551616 := by have := Nat.div_le_self cb (2 ^ k); omega
              have HPut := kept (rput_chg B pr v1 _ (cb / 2 ^ k) 1 wk HSk.out.sz HSk.out.row HLen.out hsh (by decide) (by decide))
              rw [clamp1, bitsOf_one, List.append_assoc, ← hi_take cb cn k (by omega)] at HPut
              have ewr : IntKind.u64.wrap ((cb : Int) / 2 ^ k) = ((cb / 2 ^ k : Nat) : Int) := by
                have e : ((cb : Int) / 2 ^ k) = ((cb / 2 ^ k : Nat) : Int) := by simp
                rw [e, IntKind.wrap_u64]
                generalize cb / 2 ^ k = M at hsh
                omega
              have EWr := kept ewr
              clear hD hsh ewr
              go_wp2_with fail
              rw [EWr.out]
              refine HPut.out.mono ?_
              rintro e w7 ⟨rfl, v7, hW7, hB7, hC7⟩
              have HS7 := kept (HSk.out.put hW7 hB7 hC7)
              have HD7 : Own.Kept (Blk w7 gd #[.int .i64 (cb : Int), .int .i64 (cn : Int)] 69) := kept (hC7.keep HDk.out (HSk.out.row.apart HDk.out (by decide) (by decide)))
              clear hW7 hB7 hC7
              go_wp2_with fail
              go_roundw
              case rel => exact ⟨k, v7, by omega, rfl, HS7.out, HD7.out⟩
              case measure => simp [intOf]
            | zero =>
              have k0 := (HSk.out.low.cell HX.out.1).trans HK.out.1
              have k1 := cellN_next ((HSk.out.low.cell HX.out.2).trans HK.out.2)
              have HPut := kept (rrest_calls B pr v1 _ cN r wk HSk.out.sz HSk.out.row HLen.out w2c hc64)
              rw [Nat.sub_zero, List.take_of_length_le (by simp)] at HPut
              have hen : E ++ Hu.hi cb cn ++ bitsOf r (cN - 1) = enc L ((ps.take (i + 1)).map natP) := by
                rw [HTk.out, List.map_append, enc_append, ← HE.out, List.append_assoc]
                congr 1
                rw [HEe.out.1, HEe.out.2]
                simp [enc, encOne, natP]
              rw [hen] at HPut
              clear hen hD
              go_wp2_with fail
              refine HPut.out.mono ?_
              rintro e w7 ⟨rfl, v7, hW7, hB7, hC7⟩
              have HS7 := kept (HSk.out.put hW7 hB7 hC7)
              clear hW7 hB7 hC7 k0 k1
              go_wp2_with fail
              go_roundw
              case rel => exact ⟨i + 1, v7, by omega, by go_num, fun p hp => by
                rw [HTk.out] at hp
                rcases List.mem_append.1 hp with hp | hp
                · exact HOk.out p hp
                · rw [List.mem_singleton.1 hp]; exact HOkc.out, HS7.out⟩
              case measure => simp [intOf]; omega
    · have hie : i = n0 := by omega
      subst hie
      have htk : ps.take i = ps := List.take_of_length_le (by rw [HR.out.len]; exact Nat.le_refl _)
      rw [htk] at HOk HS
      have hpe : putE L ps = (textOf (pack (enc L (ps.map natP))), 0) := by
        unfold putE
        rw [if_pos HM.out, if_pos (List.all_eq_true.2 HOk.out)]
      have HPe := kept hpe
      have hlen := enc_len L HM.out (ps.map natP) (fun q hq => by
        obtain ⟨q0, hq0, rfl⟩ := List.mem_map.1 hq
        exact (okP_able HM.out (HOk.out q0 hq0)).2.2)
      rw [List.length_map, HR.out.len] at hlen
      have HBy := kept (rbytes_calls pr v _ wq HS.out.row.is (by omega))
      obtain ⟨tx, htx⟩ : ∃ tx, tx = textOf (pack (enc L (ps.map natP))) := ⟨_, rfl⟩
      rw [← htx] at HBy HPe
      clear htk hpe htx hlen
      go_wp2_with fail
      refine HBy.out.mono ?_
      rintro e w7 ⟨rfl, hb7⟩
      have HS7 := kept (HS.out.later hb7)
      have c0 : w7.cell? ⟨pt, 0, none⟩ = some (.string ⟨#[]⟩) := Blk.cell HS7.out.txt rfl
      have c1 : w7.cell? ⟨pt, 1, none⟩ = some (.int .i64 0) := Blk.cell HS7.out.txt rfl
      have f0 : w7.frozen? ⟨pt, 0, none⟩ = false := Blk.free HS7.out.txt 0
      have f1 : w7.frozen? ⟨pt, 1, none⟩ = false := Blk.free HS7.out.txt 1
      clear hb7
      go_wp2_with fail
      generalize hwz : World.setCell _ _ _ = wz
      have hBz : Blk wz pt #[.string tx, .int .i64 0] 29 := by
        rw [← hwz]
        have h := (HS7.out.txt.set 0 (.string tx)).set 1 (.int .i64 0)
        simpa using h
      have hCz : Below B w wz := by
        rw [← hwz]
        exact (HS7.out.low.setCell (p := ⟨pt, 0, none⟩) HPt.out _).setCell (p := ⟨pt, 1, none⟩) HPt.out _
      have z0 : wz.cell? ⟨pt, 0, none⟩ = some (.string tx) := Blk.cell hBz rfl
      have z1 : wz.cell? ⟨pt, 1, none⟩ = some (.int .i64 0) := Blk.cell hBz rfl
      refine bodyPost_ret (v := .agg #[.string tx, .int .i64 0]) (by simp [results, Try.results11, go_sem, z0, z1]) rfl ?_
      exact ⟨by rw [HPe.out], hCz⟩
end Go.Proofs.Ytnakjencodicmaa

-- ---- PAx30
/- wringerref7.PutHuff: what the call answers. Conditions: the parts are of Go's own sizes, no more than a million. -/
namespace Go.Proofs.Ytnakjencodicmaa.PA
set_option maxRecDepth 100000
open Go.RowKit Go.Proofs.YtnakjencodicmaaW.PrintWords Go.Proofs.YtnakjencodicmaaW.PrintLast Go.Proofs.YtnakjencodicmaaW.PrintMore
set_option linter.unusedVariables false
set_option linter.unusedSimpArgs false

def wringerref7_PutHuff.f (l0 : List (S54)) (l1 : List Int) : Option (ByteArray × Int) := if l0.length ≤ 1000000 ∧ l0.all wfB = true then some (putE l1 (l0.map pairP)) else none
theorem wringerref7_PutHuff.calls (A0 : Option Addr) (c0 : Nat) (l0 : List (S54)) (A1 : Option Addr) (c1 : Nat) (l1 : List Int) (r1 : ByteArray) (r2 : Int) (w : World) (hr0 : Kd.C k54 w A0 l0.length l0) (hc0 : l0.length ≤ c0) (hr1 : Kd.C (Kd.int .i64) w A1 l1.length l1) (hc1 : l1.length ≤ c1) (h : wringerref7_PutHuff.f l0 l1 = some (r1, r2)) :
    Calls Try.prog 11 #[.slice A0 l0.length c0, .slice A1 l1.length c1] w fun e w' => e = .returned (.agg #[.string r1, .int .i64 r2]) ∧ Below w.heap.size w w' := by
  unfold wringerref7_PutHuff.f at h
  split at h
  · rename_i hg
    have h := Option.some.inj h
    have e1 : r1 = (putE l1 (l0.map pairP)).1 := by rw [h]
    have e2 : r2 = (putE l1 (l0.map pairP)).2 := by rw [h]
    rw [e1, e2]
    cases hm : Dp.mayL l1 with
    | false => exact rhput_form A0 l0.length c0 A1 c1 l1 _ w hr1 hc1 hm
    | true => exact rhput_calls A0 l0.length c0 A1 c1 l1 _ w (rdq_of hr0 hg.2) hr1 hc1 hm hg.1
  · cases h
end Go.Proofs.Ytnakjencodicmaa.PA

-- ---- Jn
/- The document's search for a code: plain facts. No program in sight. -/
namespace Go.Proofs.Ytnakjencodicmaa.Hu
set_option maxRecDepth 100000
set_option linter.unusedSimpArgs false
set_option linter.unusedVariables false
open Ol Dp Cd Bits

/-- The last class so far with that code; below nought: none. -/
def clsI (L : List Int) (v n : Nat) : Nat → Int
  | 0 => -1
  | i + 1 => if cdN L i = n ∧ cdB L i = v then (i : Int) else clsI L v n i
/-- Does one so far begin so? -/
def begI (L : List Int) (v n : Nat) : Nat → Bool
  | 0 => false
  | i + 1 => begI L v n i || decide (n ≤ cdN L i ∧ cdB L i / 2 ^ (cdN L i - n) = v)
theorem clsI_or (L : List Int) (v n : Nat) : ∀ i, (∃ c, c < i ∧ cdN L c = n ∧ cdB L c = v ∧ clsI L v n i = (c : Int)) ∨ ((∀ c, c < i → ¬ (cdN L c = n ∧ cdB L c = v)) ∧ clsI L v n i = -1) := by
  intro i
  induction i with
  | zero => exact .inr ⟨fun c h => by omega, rfl⟩
  | succ i ih =>
    by_cases h : cdN L i = n ∧ cdB L i = v
    · exact .inl ⟨i, by omega, h.1, h.2, by simp only [clsI]; rw [if_pos h]⟩
    · have e : clsI L v n (i + 1) = clsI L v n i := by simp only [clsI]; rw [if_neg h]
      rw [e]
      rcases ih with ⟨c, h1, h2⟩ | ⟨h1, h2⟩
      · exact .inl ⟨c, by omega, h2⟩
      · refine .inr ⟨fun c hc => ?_, h2⟩
        by_cases hci : c = i
        · rw [hci]; exact h
        · exact h1 c (by omega)
theorem clsI_some {L : List Int} (hm : mayL L = true) {v n c : Nat} (h : findC L v n = some c) : clsI L v n 65 = (c : Int) := by
  obtain ⟨h1, h2, h3, h4⟩ := findC_some h
  rcases clsI_or L v n 65 with ⟨d, a1, a2, a3, a4⟩ | ⟨a1, _⟩
  · have h5 := findC_at hm a1 (by omega)
    rw [a2, a3, h] at h5
    rw [a4, Option.some.inj h5]
  · exact absurd ⟨h3, h4⟩ (a1 c h1)
theorem clsI_none {L : List Int} {v n : Nat} (h1 : 1 ≤ n) (h : findC L v n = none) : clsI L v n 65 = -1 := by
  rcases clsI_or L v n 65 with ⟨d, a1, a2, a3, a4⟩ | ⟨_, a2⟩
  · exact absurd a3 (findC_none h d a1 h1 a2)
  · exact a2
theorem begI_iff (L : List Int) (v n : Nat) : ∀ i, begI L v n i = true ↔ ∃ c, c < i ∧ n ≤ cdN L c ∧ cdB L c / 2 ^ (cdN L c - n) = v := by
  intro i
  induction i with
  | zero => simp [begI]
  | succ i ih =>
    simp only [begI, Bool.or_eq_true, decide_eq_true_eq]
    rw [ih]
    constructor
    · rintro (⟨c, h1, h2⟩ | h)
      · exact ⟨c, by omega, h2⟩
      · exact ⟨i, by omega, h⟩
    · rintro ⟨c, h1, h2⟩
      by_cases e : c = i
      · right; rw [← e]; exact h2
      · left; exact ⟨c, by omega, h2⟩
theorem begI_all (L : List Int) (v n : Nat) : begI L v n 65 = begC L v n := by
  rw [Bool.eq_iff_iff, begI_iff, begC_iff]
theorem begC_of_find {L : List Int} {v n c : Nat} (h : findC L v n = some c) : begC L v n = true := by
  obtain ⟨h1, h2, h3, h4⟩ := findC_some h
  exact begC_iff.2 ⟨c, h1, by omega, by rw [h3, Nat.sub_self, Nat.pow_zero, Nat.div_one]; exact h4⟩
theorem begC_le {L : List Int} (hm : mayL L = true) {v n : Nat} (h : begC L v n = true) : n ≤ 15 ∧ v < 2 ^ n := by
  obtain ⟨c, h1, h2, h3⟩ := begC_iff.1 h
  obtain ⟨a1, a2, _⟩ := cd_all hm c h1
  refine ⟨by omega, ?_⟩
  rw [← h3]
  refine Nat.div_lt_of_lt_mul ?_
  rw [← Nat.pow_add, show cdN L c - n + n = cdN L c by omega]
  exact a2
end Go.Proofs.Ytnakjencodicmaa.Hu

-- ---- Rn
/- wringerref1: the bits of a text; a number of bits. -/
namespace Go.Proofs.Ytnakjencodicmaa
set_option maxRecDepth 100000
set_option linter.unusedSimpArgs false
set_option linter.unusedVariables false
open Go.RowKit Mix _root_.Go.Proofs.Ytnakjencodicmaa.Own Bits
attribute [local go_sem] max_int min_int

theorem and8 (b j : Nat) (hb : b < 256) : bits .and .u8 ((b : Int) / 2 ^ j) 1 = ((b.testBit j).toNat : Int) := by
  have h1 : (b : Int) / 2 ^ j ≤ b := Int.ediv_le_self _ (by omega)
  have e : ((b : Int) / 2 ^ j) = ((b / 2 ^ j : Nat) : Int) := by simp
  have h2 : b / 2 ^ j ≤ b := Nat.div_le_self _ _
  rw [e, show (1 : Int) = ((1 : Nat) : Int) by rfl, u8_and_nat _ _ (by omega) (by decide), nat_mask1]
  rw [Nat.testBit_eq_decide_div_mod_eq]
  by_cases h : b / 2 ^ j % 2 = 1 <;> simp [h] <;> omega
theorem bits01_at (l : List Bool) (i : Nat) (h : i < l.length) : (u8s (bits01 l))[i]? = some (.int .u8 ((l.getD i false).toNat : Int)) := by
  simp [u8s, bits01, List.getD_eq_getElem?_getD, h]

set_option maxHeartbeats 2000000 in
theorem number_calls (a : Option Addr) (n cap : Nat) (l : List Bool) (w : World) (hR : Rd w (.slice a n cap) (u8s (bits01 l))) (hl : l.length ≤ 64) :
    Calls Try.prog 54 #[.slice a n cap] w fun e w' => e = .returned (.int .u64 (ofBits l : Int)) ∧ w = w' := by
  have hn := hR.length
  rw [length_u8s, length_bits01] at hn
  have HN := kept hn
  have HR := kept hR
  have hn64 : n ≤ 64 := by omega
  clear hn hR hl
  obtain ⟨T, hT⟩ : ∃ T, T = ofBits l := ⟨_, rfl⟩
  rw [← hT]
  have HT := kept hT
  clear hT
  go_enter Try.func54, Try.ntmps54
  go_wp2_with fail
  go_loopw [3, 4] (fun s3 s4 wr => ∃ i : Nat, i ≤ n ∧ s4 = .int .i64 (i : Int) ∧ (∃ m : Nat, m = ofBits (l.take i) ∧ s3 = .int .u64 (m : Int)) ∧ wr = w) (fun s3 s4 _ => n - (intOf s4).toNat)
  case atStart => exact ⟨0, Nat.zero_le _, rfl, ⟨0, rfl, rfl⟩, rfl⟩
  case round =>
    obtain ⟨i, hi, rfl, ⟨m, hm, rfl⟩, rfl⟩ := hrel
    by_cases hlt : i < n
    · obtain ⟨x, rfl, hc⟩ := HR.out.at (bits01_at l i (by rw [← HN.out]; exact hlt))
      obtain ⟨b, hb⟩ : ∃ b, b = l.getD i false := ⟨_, rfl⟩
      rw [← hb] at hc
      have hst := or_step (l.take i) b i (by rw [List.length_take, ← HN.out]; omega) (by omega)
      rw [hb, ← take_succ_getD l i (by rw [← HN.out]; exact hlt), ← hm, ← hb] at hst
      obtain ⟨c, hcc⟩ : ∃ c, c = b.toNat := ⟨_, rfl⟩
      rw [← hcc] at hc hst
      have hc1 : c < 256 := by rw [hcc]; cases b <;> decide
      clear hcc hb hm
      go_wp2_with fail
      go_roundw
      case rel => exact ⟨i + 1, by omega, by go_num, ⟨_, rfl, rfl⟩, trivial⟩
      case measure => simp [intOf]; omega
    · have hin : i = n := by omega
      subst hin
      rw [List.take_of_length_le (by rw [← HN.out]; exact Nat.le_refl _), ← HT.out] at hm
      subst hm
      go_wp2_with fail
      go_ret
      exact ⟨rfl, rfl⟩

set_option maxHeartbeats 4000000 in
theorem bits_calls (s : ByteArray) (w : World) (hs : s.size ≤ 1000000000) :
    Calls Try.prog 53 #[.string s] w fun e w' => ∃ v, e = .returned v ∧ Owns w' 5 v (u8s (bits01 (bitsS s))) ∧ Below w.heap.size w w' ∧ ∀ g, v.ownBlock = some g → w.heap.size ≤ g := by
  obtain ⟨i0, hi, hz0, hz1, hz2⟩ := info_parts infoU8
  obtain ⟨B, hB⟩ : ∃ B, B = w.heap.size := ⟨_, rfl⟩
  rw [← hB]
  have HB := kept hB
  clear hB
  have hs2 : s.size < 2000000000 := by omega
  have HS := kept hs
  clear hs
  go_enter Try.func53, Try.ntmps53
  go_wp2_with fail
  go_loopw [3, 4] (fun s3 s4 wr => ∃ i : Nat, i ≤ s.size ∧ s4 = .int .i64 (i : Int) ∧ Owns wr 5 s3 (u8s (bits01 ((bitsS s).take (8 * i)))) ∧ Below B w wr ∧ (∀ g, s3.ownBlock = some g → B ≤ g) ∧ B ≤ wr.heap.size) (fun s3 s4 _ => s.size - (intOf s4).toNat)
  case atStart => exact ⟨0, Nat.zero_le _, rfl, by simpa [u8s, bits01] using Owns.nil w _, by rw [HB.out]; exact Below.refl _ _, fun g hg => by simp [Value.ownBlock] at hg, by rw [HB.out]; exact Nat.le_refl _⟩
  case round =>
    obtain ⟨i, hi1, rfl, hO, hb, hg, hsz⟩ := hrel
    have HO := kept hO
    have HBr := kept hb
    have HG := kept hg
    have HSz := kept hsz
    clear hO hb hg hsz
    by_cases hlt : i < s.size
    · have hix := run_ix (P := Try.prog) (T := 9) Try.underlying9 s (i : Int) i rfl hlt
      obtain ⟨b, hb⟩ : ∃ b, b = byteS s i := ⟨_, rfl⟩
      have hb8 : b < 256 := by rw [hb]; exact byteS_lt _ _
      rw [← hb] at hix
      have HBy := kept hb
      clear hb
      go_wp2_with fail
      go_loopw [3, 5] (fun s3 s5 wr => ∃ (j : Nat) (v1 : Value), v1 = s3 ∧ j ≤ 8 ∧ s5 = .int .i64 (j : Int) ∧ Owns wr 5 s3 (u8s (bits01 ((bitsS s).take (8 * i + j)))) ∧ Below B w wr ∧ (∀ g, s3.ownBlock = some g → B ≤ g) ∧ B ≤ wr.heap.size) (fun s3 s5 _ => 8 - (intOf s5).toNat)
      case atStart => exact ⟨0, _, rfl, Nat.zero_le _, rfl, HO.out, HBr.out, HG.out, HSz.out⟩
      case round =>
        obtain ⟨j, v1, rfl, hj, rfl, hO, hb, hg, hsz⟩ := hrel
        have HOj := kept hO
        have HBj := kept hb
        have HGj := kept hg
        have HSj := kept hsz
        clear hO hb hg hsz HO HBr HG HSz
        by_cases hlt2 : j < 8
        · have hand := and8 b j hb8
          obtain ⟨y, hy⟩ : ∃ y, y = b.testBit j := ⟨_, rfl⟩
          rw [← hy] at hand
          have HY := kept hy
          have hlen : ((bitsS s).take (8 * i + j)).length = 8 * i + j := by rw [List.length_take]; simp; omega
          have HL := kept hlen
          clear hy hlen
          go_wp2_with (first | (at_builtin; refine wpList_app1 rfl _ _ 48 rfl 5 i0 (.int .u8 0) 1 Try.underlying48 hi hz0 hz1 hz2 rfl v1 _ (.int .u8 (y.toNat : Int)) rfl HOj.out rfl rfl ?_ ?_ ?_) | fail)
          · have := HL.out; simp [maxLen]; omega
          · have := HL.out; simp; omega
          intro v2 w2 O2 hch F
          have O2 : Owns w2 5 v2 (u8s (bits01 ((bitsS s).take (8 * i + (j + 1))))) := by
            have e : (bitsS s).take (8 * i + (j + 1)) = (bitsS s).take (8 * i + j) ++ [y] := by
              rw [show 8 * i + (j + 1) = (8 * i + j) + 1 by omega, take_succ_getD _ _ (by simp; omega), getD_bitsS, HY.out, HBy.out]
              have h1 : 8 * i + j < 8 * s.size := by omega
              simp only [h1, decide_true, Bool.true_and, bitS]
              rw [show (8 * i + j) / 8 = i by omega, show (8 * i + j) % 8 = j by omega]
            rw [e]; simpa [bits01, u8s] using O2
          have HO2 := kept O2
          have HB2 : Kept (Below B w w2) := kept (HBj.out.trans (hch.below HSj.out (fun k hk h => by have := HGj.out k h.symm; omega)))
          have HS2 : Kept (B ≤ w2.heap.size) := kept (Nat.le_trans HSj.out hch.size)
          have HG2 : Kept (∀ g, v2.ownBlock = some g → B ≤ g) := kept (fun g hg => by
            rcases F g hg with h | h
            · exact HGj.out g h.symm
            · have := HSj.out; omega)
          clear O2 hch F hand
          go_wp2_with fail
          go_roundw
          case rel => exact ⟨j + 1, _, rfl, by omega, by go_num, HO2.out, HB2.out, HG2.out, HS2.out⟩
          case measure => simp [intOf]; omega
        · have hj8 : j = 8 := by omega
          subst hj8
          go_wp2_with fail
          go_roundw
          case rel => exact ⟨i + 1, by omega, by go_num, HOj.out, HBj.out, HGj.out, HSj.out⟩
          case measure => simp [intOf]; omega
    · have hin : i = s.size := by omega
      subst hin
      go_wp2_with fail
      go_ret
      exact ⟨_, rfl, by have h := HO.out; rwa [List.take_of_length_le (by simp)] at h, HBr.out, HG.out⟩

theorem got_cells {w : World} {G : Nat} {x y z : Value} {t : TypeId} (h : Blk w G #[x, y, z] t) :
    w.cell? ⟨G, 0, none⟩ = some x ∧ w.cell? ⟨G, 1, none⟩ = some y ∧ w.cell? ⟨G, 2, none⟩ = some z ∧ w.frozen? ⟨G, 0, none⟩ = false ∧ w.frozen? ⟨G, 1, none⟩ = false ∧ w.frozen? ⟨G, 2, none⟩ = false :=
  ⟨h.cell rfl, h.cell rfl, h.cell rfl, h.free 0, h.free 1, h.free 2⟩
end Go.Proofs.Ytnakjencodicmaa

-- ---- Rz
/- wringerref1: the bits of a text; a number of bits; Walk's methods. -/
namespace Go.Proofs.Ytnakjencodicmaa
set_option maxRecDepth 100000
set_option linter.unusedSimpArgs false
set_option linter.unusedVariables false
open Go.RowKit Mix _root_.Go.Proofs.Ytnakjencodicmaa.Own Bits
attribute [local go_sem] max_int min_int

/-- A Walk at block p, its bits at v, so many of them gone. -/
structure IsK (w : World) (p : Nat) (v : Value) (s : ByteArray) (k : Nat) : Prop where
  blk : Blk w p #[v, .int .i64 (k : Int)] 123
  row : Owns w 5 v (u8s (bits01 (bitsS s)))

theorem IsK.keep {w w' : World} {S : Nat → Prop} {p : Nat} {v : Value} {s : ByteArray} {k : Nat} (h : IsK w p v s k) (hc : Chg S w w') (hp : ¬ S p) (hv : ∀ g, v.ownBlock = some g → ¬ S g) : IsK w' p v s k :=
  ⟨hc.keep h.blk hp, h.row.chg hc hv⟩
theorem IsK.later {w w' : World} {p : Nat} {v : Value} {s : ByteArray} {k : Nat} (h : IsK w p v s k) (hc : Below w.heap.size w w') : IsK w' p v s k :=
  h.keep (Chg.of_below (S := fun _ => False) hc) id (fun _ _ => id)

theorem infoGot : (Try.prog.info? 92).map (fun i => (i.zero, i.size)) = some (some (.agg #[.int .u64 0, .int .i64 0, .int .i64 0]), 3) := by kernel_rfl

theorem kfrom_calls (s : ByteArray) (w : World) (hs : s.size ≤ 1000000000) :
    Calls Try.prog 37 #[.string s] w fun e w' => ∃ p v, e = .returned (.pointer (some ⟨p, 0, none⟩)) ∧ IsK w' p v s 0 ∧ Below w.heap.size w w' ∧ w.heap.size ≤ p ∧ ∀ g, v.ownBlock = some g → w.heap.size ≤ g := by
  go_enter Try.func37, Try.ntmps37
  go_wp2_with fail
  refine (bits_calls s w hs).mono ?_
  rintro e w1 ⟨v, rfl, hO, hb, hg⟩
  obtain ⟨a, cap, rfl, _⟩ := hO.slice
  simp only [length_u8s, length_bits01, length_bitsS] at hO hg
  have HO := kept hO
  have HB := kept hb
  have HG := kept hg
  clear hO hb hg
  go_wp2_with fail
  go_ret
  exact ⟨_, _, rfl, ⟨Blk.fresh _ _ _, HO.out.alloc _⟩, HB.out.alloc HB.out.size _, HB.out.size, HG.out⟩

set_option maxHeartbeats 2000000 in
theorem kget_arg (p : Nat) (v : Value) (s : ByteArray) (k : Nat) (n : Int) (w : World) (hn : n < 0 ∨ 64 < n) :
    Calls Try.prog 38 #[.pointer (some ⟨p, 0, none⟩), .int .i64 n] w fun e w' => e = .returned (.agg #[.int .u64 0, .int .i64 0, .int .i64 1]) ∧ Below w.heap.size w w' := by
  go_enter Try.func38, Try.ntmps38
  go_wp2_with fail
  all_goals exact bodyPost_ret (results_cell_row rfl _ _ w.heap.size 92 #[.int .u64 0, .int .i64 0, .int .i64 1] (0, 0) _ rfl (Blk.fresh _ _ _) Try.underlying92 rfl (by kernel_rfl)) rfl ⟨rfl, (Below.refl _ _).alloc (Nat.le_refl _) _⟩

set_option maxHeartbeats 2000000 in
theorem kget_more (p : Nat) (v : Value) (s : ByteArray) (k n : Nat) (w : World) (h : IsK w p v s k) (hs : s.size ≤ 1000000000) (hk : k ≤ 8 * s.size) (hn : n ≤ 64) (hl : 8 * s.size < k + n) :
    Calls Try.prog 38 #[.pointer (some ⟨p, 0, none⟩), .int .i64 (n : Int)] w fun e w' => e = .returned (.agg #[.int .u64 0, .int .i64 0, .int .i64 2]) ∧ Below w.heap.size w w' := by
  obtain ⟨a, cap, rfl, _⟩ := h.row.slice
  obtain ⟨N, hN⟩ : ∃ N, N = 8 * s.size := ⟨_, rfl⟩
  rw [length_u8s, length_bits01, length_bitsS, ← hN] at h
  have hN2 : N < 100000000000 := by omega
  have t1 : decide ((n : Int) < 0) = false := by simp
  have t2 : decide ((64 : Int) < (n : Int)) = false := by simp; omega
  have t3 : decide ((N : Int) - (k : Int) < (n : Int)) = true := by simp; omega
  have hkN : k ≤ N := by omega
  have H := kept h
  clear h hN hs hk hl
  go_enter Try.func38, Try.ntmps38
  go_wp2_with fail
  generalize hwa : World.alloc w _ = wa
  have hb : Below w.heap.size w wa := by rw [← hwa]; exact (Below.refl _ _).alloc (Nat.le_refl _) _
  have hG : Blk wa w.heap.size #[.int .u64 0, .int .i64 0, .int .i64 0] 92 := by rw [← hwa]; exact Blk.fresh _ _ _
  have h1 := H.out.later hb
  have l0 := lat_cell (h1.blk.cell (i := 0) rfl)
  have l1 := lat_cell (h1.blk.cell (i := 1) rfl)
  have HG := kept hG
  have HB := kept hb
  clear hwa hb hG h1
  refine wp_region_quietL (by kernel_rfl) (by kernel_rfl) ?_
  repeat (go_big_quiet_step (fail))
  refine wpQuiet_nil ?_
  intro nq
  have HG2 : Kept (Blk nq.w w.heap.size #[.int .u64 0, .int .i64 0, .int .i64 0] 92) := kept (lat_block HG.out nq)
  have HB2 := kept (HB.out.trans (nq.below.mono HB.out.size))
  generalize nq.w = w2 at HG2 HB2 ⊢
  obtain ⟨c0, c1, c2, f0, f1, f2⟩ := got_cells HG2.out
  go_wp2_with fail
  exact bodyPost_ret (results_cell_row rfl _ _ w.heap.size 92 #[.int .u64 0, .int .i64 0, .int .i64 2] (0, 0) _ rfl (((HG2.out.set 0 _).set 1 _).set 2 _) Try.underlying92 rfl (by kernel_rfl)) rfl ⟨rfl, ((HB2.out.setCell (p := ⟨w.heap.size, 0, none⟩) (Nat.le_refl _) _).setCell (p := ⟨w.heap.size, 1, none⟩) (Nat.le_refl _) _).setCell (p := ⟨w.heap.size, 2, none⟩) (Nat.le_refl _) _⟩

set_option maxHeartbeats 2000000 in
theorem kget_ok (p : Nat) (v : Value) (s : ByteArray) (k n : Nat) (w : World) (h : IsK w p v s k) (hs : s.size ≤ 1000000000) (hn : n ≤ 64) (hl : k + n ≤ 8 * s.size) :
    Calls Try.prog 38 #[.pointer (some ⟨p, 0, none⟩), .int .i64 (n : Int)] w fun e w' => e = .returned (.agg #[.int .u64 (ofBits (((bitsS s).drop k).take n) : Int), .int .i64 0, .int .i64 0]) ∧
      IsK w' p v s (k + n) ∧ Chg (fun b => b = p) w w' := by
  obtain ⟨a, cap, rfl, hcap, _, _⟩ := h.row.rd
  obtain ⟨N, hN⟩ : ∃ N, N = 8 * s.size := ⟨_, rfl⟩
  rw [length_u8s, length_bits01, length_bitsS, ← hN] at h
  rw [length_u8s, length_bits01, length_bitsS, ← hN] at hcap
  rw [show (u8s (bits01 (bitsS s))).length = N by rw [length_u8s, length_bits01, length_bitsS, hN]]
  have hN2 : N < 100000000000 := by omega
  have t1 : decide ((n : Int) < 0) = false := by simp
  have t2 : decide ((64 : Int) < (n : Int)) = false := by simp; omega
  have t3 : decide ((N : Int) - (k : Int) < (n : Int)) = false := by simp; omega
  have hkN : k + n ≤ N := by omega
  have H := kept h
  clear h hs hl hN
  go_enter Try.func38, Try.ntmps38
  go_wp2_with fail
  generalize hwa : World.alloc w _ = wa
  have hb : Below w.heap.size w wa := by rw [← hwa]; exact (Below.refl _ _).alloc (Nat.le_refl _) _
  have hG : Blk wa w.heap.size #[.int .u64 0, .int .i64 0, .int .i64 0] 92 := by rw [← hwa]; exact Blk.fresh _ _ _
  have h1 := H.out.later hb
  have l0 := lat_cell (h1.blk.cell (i := 0) rfl)
  have l1 := lat_cell (h1.blk.cell (i := 1) rfl)
  have HG := kept hG
  have HB := kept hb
  have H1 := kept h1
  clear hwa hb hG h1
  refine wp_region_quietL (by kernel_rfl) (by kernel_rfl) ?_
  repeat (go_big_quiet_step (fail))
  refine wpQuiet_nil ?_
  intro nq
  have HG2 : Kept (Blk nq.w w.heap.size #[.int .u64 0, .int .i64 0, .int .i64 0] 92) := kept (lat_block HG.out nq)
  have HB2 := kept (HB.out.trans (nq.below.mono HB.out.size))
  have H2 := kept (H1.out.later nq.below)
  generalize nq.w = w2 at HG2 HB2 H2 ⊢
  clear l0 l1 H1 HG HB
  have l0 := lat_cell (H2.out.blk.cell (i := 0) rfl)
  have l1 := lat_cell (H2.out.blk.cell (i := 1) rfl)
  go_wp2_with fail
  refine wp_region_quietL (by kernel_rfl) (by kernel_rfl) ?_
  repeat (go_big_quiet_step (fail))
  obtain ⟨a2, ha2⟩ : ∃ a2, a2 = (if cap = k then a else a.map (fun x => x.add k)) := ⟨_, rfl⟩
  obtain ⟨n2, hn2⟩ : ∃ n2, n2 = k + n - k := ⟨_, rfl⟩
  obtain ⟨T, hT⟩ : ∃ T, T = ofBits (((bitsS s).drop k).take n) := ⟨_, rfl⟩
  have hnum : ∀ m : Lat w2, Calls Try.prog 54 #[.slice a2 n2 (cap - k)] m.w fun e w' => e = .returned (.int .u64 (T : Int)) ∧ m.w = w' := fun m => by
    have h := ((H2.out.later m.below).row.rd).sub k n hkN
    rw [← ha2, ← hn2] at h
    rw [hT]
    exact number_calls _ _ _ (((bitsS s).drop k).take n) m.w (by simpa [u8s, bits01, List.map_take, List.map_drop] using h) (by rw [List.length_take]; omega)
  rw [← ha2, ← hn2]
  have HNum := kept hnum
  have HT := kept hT
  clear hnum ha2 hn2 hT
  repeat (go_big_quiet_step ((go_at_call 54; exact lat_call_same (HNum.out _))))
  refine wpQuiet_nil ?_
  intro nq2
  have HG3 : Kept (Blk nq2.w w.heap.size #[.int .u64 0, .int .i64 0, .int .i64 0] 92) := kept (lat_block HG2.out nq2)
  have HB3 := kept (HB2.out.trans (nq2.below.mono HB2.out.size))
  have H3 := kept (H2.out.later nq2.below)
  generalize nq2.w = w3 at HG3 HB3 H3 ⊢
  clear l0 l1 H2 HG2 HB2
  obtain ⟨G, hG⟩ : ∃ G, G = w.heap.size := ⟨_, rfl⟩
  rw [← hG] at HG3 HB3
  rw [← hG]
  have hpG : p ≠ G := by have := H.out.blk.lt; omega
  have hGp : G ≠ p := fun e => hpG e.symm
  obtain ⟨c0, c1, c2, f0, f1, f2⟩ := got_cells HG3.out
  have e1 : w3.cell? ⟨p, 1, none⟩ = some (.int .i64 (k : Int)) := H3.out.blk.cell rfl
  have ef : w3.frozen? ⟨p, 1, none⟩ = false := H3.out.blk.free 1
  have HGe := kept hG
  clear hG
  go_wp2_with fail
  refine bodyPost_ret (results_cell_row rfl _ _ G 92 #[.int .u64 (T : Int), .int .i64 0, .int .i64 0] (0, 0) _ rfl ((((HG3.out.setOther (a := ⟨p, 1, none⟩) hGp _).set 0 _).set 1 _).set 2 _) Try.underlying92 rfl (by kernel_rfl)) rfl ⟨by rw [HT.out], ⟨?_, ?_⟩, ?_⟩
  · exact (((H3.out.blk.set 1 (.int .i64 ((k : Int) + (n : Int)))).setOther (a := ⟨G, 0, none⟩) hpG _).setOther (a := ⟨G, 1, none⟩) hpG _).setOther (a := ⟨G, 2, none⟩) hpG _
  · have hv1 : (Value.slice a N cap).ownBlock ≠ some p := H3.out.row.ne H3.out.blk (by decide)
    have hv2 : (Value.slice a N cap).ownBlock ≠ some G := H3.out.row.ne HG3.out (by decide)
    exact (((H3.out.row.setOther (a := ⟨p, 1, none⟩) hv1 _).setOther (a := ⟨G, 0, none⟩) hv2 _).setOther (a := ⟨G, 1, none⟩) hv2 _).setOther (a := ⟨G, 2, none⟩) hv2 _
  · have hb3 := HB3.out
    rw [HGe.out] at hb3
    have h1 := (Chg.of_below (S := fun b => b = p) hb3).trans (Chg.setCell w3 ⟨p, 1, none⟩ (.int .i64 ((k : Int) + (n : Int)))) (fun _ _ h => h)
    have hno : ∀ b, b < w.heap.size → b = G → b = p := fun b hb e => by have := HGe.out; omega
    exact ((h1.trans (Chg.setCell _ ⟨G, 0, none⟩ _) hno).trans (Chg.setCell _ ⟨G, 1, none⟩ _) hno).trans (Chg.setCell _ ⟨G, 2, none⟩ _) hno

theorem kget_calls (p : Nat) (v : Value) (s : ByteArray) (k : Nat) (n : Int) (w : World) (h : IsK w p v s k) (hs : s.size ≤ 1000000000) (hk : k ≤ 8 * s.size) :
    Calls Try.prog 38 #[.pointer (some ⟨p, 0, none⟩), .int .i64 n] w fun e w' => e = .returned (.agg #[.int .u64 ((getS s k n).1 : Int), .int .i64 0, .int .i64 ((getS s k n).2.1 : Int)]) ∧
      IsK w' p v s (getS s k n).2.2 ∧ Chg (fun b => b = p) w w' := by
  unfold getS
  by_cases hn : n < 0 ∨ 64 < n
  · rw [if_pos hn]
    exact (kget_arg p v s k n w hn).mono fun e w' ⟨he, hb⟩ => ⟨he, h.later hb, Chg.of_below hb⟩
  · rw [if_neg hn]
    obtain ⟨m, rfl⟩ := Int.eq_ofNat_of_zero_le (show 0 ≤ n by omega)
    by_cases hm : 8 * (s.size : Int) - (k : Int) < (m : Int)
    · rw [if_pos hm]
      exact (kget_more p v s k m w h hs hk (by omega) (by omega)).mono fun e w' ⟨he, hb⟩ => ⟨he, h.later hb, Chg.of_below hb⟩
    · rw [if_neg hm]
      exact kget_ok p v s k m w h hs (by omega) (by omega)

set_option maxHeartbeats 2000000 in
theorem krest_calls (p : Nat) (v : Value) (s : ByteArray) (k : Nat) (w : World) (h : IsK w p v s k) (hs : s.size ≤ 1000000000) (hk : k ≤ 8 * s.size) :
    Calls Try.prog 39 #[.pointer (some ⟨p, 0, none⟩)] w fun e w' => e = .returned (.bool (restS s k)) ∧ Below w.heap.size w w' := by
  obtain ⟨a, cap, rfl, hcap, _, _⟩ := h.row.rd
  obtain ⟨N, hN⟩ : ∃ N, N = 8 * s.size := ⟨_, rfl⟩
  rw [length_u8s, length_bits01, length_bitsS, ← hN] at h
  rw [length_u8s, length_bits01, length_bitsS, ← hN] at hcap
  have hN2 : N < 100000000000 := by omega
  have hkN : k ≤ N := by omega
  have l0 := lat_cell (h.blk.cell (i := 0) rfl)
  have l1 := lat_cell (h.blk.cell (i := 1) rfl)
  by_cases h8 : k + 8 ≤ N
  · have e : restS s k = false := by unfold restS; rw [decide_eq_false (by omega)]; rfl
    rw [e]
    have t1 : decide ((N : Int) - (k : Int) < 8) = false := by simp; omega
    clear hN e h
    go_enter Try.func39, Try.ntmps39
    go_wp2_with fail
    refine wp_region_quietL (by kernel_rfl) (by kernel_rfl) ?_
    repeat (go_big_quiet_step (fail))
    refine wpQuiet_nil ?_
    intro nq
    go_wp2_with fail
    go_ret
    exact ⟨rfl, nq.below⟩
  · have t1 : decide ((N : Int) - (k : Int) < 8) = true := by simp; omega
    obtain ⟨T, hT⟩ : ∃ T, T = ofBits ((bitsS s).drop k) := ⟨_, rfl⟩
    have e : restS s k = ((T : Int) == 0) := by
      unfold restS
      rw [decide_eq_true (by omega), Bool.true_and, Bool.eq_iff_iff, ← ofBits_zero, ← hT, beq_iff_eq]
      omega
    rw [e]
    obtain ⟨a2, ha2⟩ : ∃ a2, a2 = (if cap = k then a else a.map (fun x => x.add k)) := ⟨_, rfl⟩
    have hnum : ∀ m : Lat w, Calls Try.prog 54 #[.slice a2 (N - k) (cap - k)] m.w fun e w' => e = .returned (.int .u64 (T : Int)) ∧ m.w = w' := fun m => by
      have h := ((h.later m.below).row.rd).sub k (N - k) (by omega)
      rw [← ha2, show k + (N - k) - k = N - k by omega] at h
      rw [hT]
      refine number_calls _ _ _ ((bitsS s).drop k) m.w ?_ (by rw [List.length_drop, length_bitsS]; omega)
      rw [List.take_of_length_le (by rw [List.length_drop, length_u8s, length_bits01, length_bitsS]; omega)] at h
      simpa [u8s, bits01, List.map_drop] using h
    have HNum := kept hnum
    have HA := kept ha2
    have HT := kept hT
    clear hnum ha2 hT hN e h
    go_enter Try.func39, Try.ntmps39
    go_wp2_with fail
    refine wp_region_quietL (by kernel_rfl) (by kernel_rfl) ?_
    repeat (go_big_quiet_step (fail))
    rw [← HA.out]
    repeat (go_big_quiet_step ((go_at_call 54; exact lat_call_same (HNum.out _))))
    refine wpQuiet_nil ?_
    intro nq
    go_wp2_with fail
    go_ret
    exact ⟨rfl, nq.below⟩
end Go.Proofs.Ytnakjencodicmaa

-- ---- Jm
/- wringerref7.GetHuff: the parts of bytes: what the call answers. Conditions: those that each theorem names. -/
namespace Go.Proofs.Ytnakjencodicmaa
set_option maxRecDepth 100000
set_option linter.unusedSimpArgs false
set_option linter.unusedVariables false
open Go.RowKit Go.Proofs.YtnakjencodicmaaW.PrintWords Go.Proofs.YtnakjencodicmaaW.PrintLast Go.Proofs.YtnakjencodicmaaW.PrintMore PA Mix _root_.Go.Proofs.Ytnakjencodicmaa.Own Bits Hu Dp
attribute [local go_sem] Own.max_int Own.min_int

/-- What getting parts answers. -/
def RGetPost (L : List Int) (s : ByteArray) (n : Int) (w : World) (e : Ending) (w' : World) : Prop :=
  ∃ v, e = .returned (.agg #[v, .int .i64 (getE L s n).2]) ∧ OwnK w' 54 2 v (getE L s n).1.length (flN (getE L s n).1) ∧ (∀ g, v.ownBlock = some g → w.heap.size ≤ g) ∧ Below w.heap.size w w'

set_option maxHeartbeats 2000000 in
theorem rhget_form (A0 : Option Addr) (c0 : Nat) (L : List Int) (s : ByteArray) (n : Int) (w : World) (hr0 : Kd.C (Kd.int .i64) w A0 L.length L) (hc0 : L.length ≤ c0) (hm : mayL L = false) :
    Calls Try.prog 13 #[.string s, .int .i64 n, .slice A0 L.length c0] w (RGetPost L s n w) := by
  obtain ⟨k, hk⟩ := (rcanon_is L).rounds
  have hce : codesE L = ([], 3) := by unfold codesE; rw [hm]; rfl
  rw [hce] at hk
  have hg : getE L s n = ([], 3) := by unfold getE; rw [hm]; rfl
  have HGe := kept hg
  have HC := kept (fun wx (hC : Kd.C (Kd.int .i64) wx A0 L.length L) => wringerref7_Canon.calls k A0 c0 L [] 3 wx hC hc0 hk)
  have HR := kept hr0
  obtain ⟨l, hl⟩ : ∃ l, l = L.length := ⟨_, rfl⟩
  rw [← hl] at HC HR ⊢
  clear hr0 hc0 hm hg hl hk hce
  go_enter Try.func13, Try.ntmps13
  go_wp2_with fail
  generalize hw1 : World.alloc w _ = w1
  obtain ⟨pt, hpt⟩ : ∃ pt, pt = w.heap.size := ⟨_, rfl⟩
  have hal : Below w.heap.size w w1 := by rw [← hw1]; exact (Below.refl _ _).alloc (Nat.le_refl _) _
  have HT1 : Own.Kept (Blk w1 pt #[.slice none 0 0, .int .i64 0] 34) := kept (by rw [hpt, ← hw1]; exact Blk.fresh _ _ _)
  have HB1 := kept hal
  have HPt : Own.Kept (w.heap.size ≤ pt) := kept (Nat.le_of_eq hpt.symm)
  rw [← hpt]
  clear hw1 hal hpt
  refine (HC.out w1 (Kd.C_below HR.out HB1.out)).mono ?_
  rintro e w2 ⟨vc, rfl, hrv, hb2⟩
  obtain ⟨av, cv, rfl⟩ := Kd.R_slice hrv
  have HT2 : Own.Kept (Blk w2 pt #[.slice none 0 0, .int .i64 0] 34) := kept ((hb2.block pt (Blk.lt HT1.out)).trans HT1.out)
  have HB2 := kept (HB1.out.trans (hb2.mono HB1.out.size))
  clear hb2 hrv
  go_upto_region 3 with fail
  generalize hw3 : World.alloc w2 _ = w3
  have hal : Below w2.heap.size w2 w3 := by rw [← hw3]; exact (Below.refl _ _).alloc (Nat.le_refl _) _
  have HT3 : Own.Kept (Blk w3 pt #[.slice none 0 0, .int .i64 0] 34) := kept ((hal.block pt (Blk.lt HT2.out)).trans HT2.out)
  have HBw := kept (HB2.out.trans (hal.mono HB2.out.size))
  clear hw3 hal
  have c0 : w3.cell? ⟨pt, 0, none⟩ = some (.slice none 0 0) := Blk.cell HT3.out rfl
  have c1 : w3.cell? ⟨pt, 1, none⟩ = some (.int .i64 0) := Blk.cell HT3.out rfl
  have f0 : w3.frozen? ⟨pt, 0, none⟩ = false := Blk.free HT3.out 0
  have f1 : w3.frozen? ⟨pt, 1, none⟩ = false := Blk.free HT3.out 1
  go_wp2_with fail
  generalize hwz : World.setCell _ _ _ = wz
  have hBz : Blk wz pt #[.slice none 0 0, .int .i64 3] 34 := by
    rw [← hwz]
    have h := (HT3.out.set 0 (.slice none 0 0)).set 1 (.int .i64 3)
    simpa using h
  have hCz : Below w.heap.size w wz := by
    rw [← hwz]
    exact (HBw.out.setCell (p := ⟨pt, 0, none⟩) HPt.out _).setCell (p := ⟨pt, 1, none⟩) HPt.out _
  have z0 : wz.cell? ⟨pt, 0, none⟩ = some (.slice none 0 0) := Blk.cell hBz rfl
  have z1 : wz.cell? ⟨pt, 1, none⟩ = some (.int .i64 3) := Blk.cell hBz rfl
  refine bodyPost_ret (v := .agg #[.slice none 0 0, .int .i64 3]) (by simp [results, Try.results13, go_sem, z0, z1]) rfl ?_
  unfold RGetPost
  rw [HGe.out]
  exact ⟨_, rfl, OwnK.nil _ _ _, fun g hg => by simp [Value.ownBlock] at hg, hCz⟩

/-- On the way: the answer's cell at pt, the codes' at pk, the Walk at pw. -/
structure StG (w wr : World) (pt pk pw gc cc : Nat) (vw : Value) (s : ByteArray) (k : Nat) (L : List Int) : Prop where
  wk : IsK wr pw vw s k
  told : Blk wr pt #[.slice none 0 0, .int .i64 0] 34
  cds : Blk wr pk #[.slice (some ⟨gc, 0, none⟩) 65 cc, .int .i64 0] 73
  own : OwnK wr 69 2 (.slice (some ⟨gc, 0, none⟩) 65 cc) 65 (CanonH.fl (Cd.codeL L))
  low : Below w.heap.size w wr
  pwB : w.heap.size ≤ pw
theorem StG.later {w wr w' : World} {pt pk pw gc cc : Nat} {vw : Value} {s : ByteArray} {k : Nat} {L : List Int} (h : StG w wr pt pk pw gc cc vw s k L) (hb : Below wr.heap.size wr w') : StG w w' pt pk pw gc cc vw s k L :=
  ⟨h.wk.later hb, (hb.block pt (Blk.lt h.told)).trans h.told, (hb.block pk (Blk.lt h.cds)).trans h.cds, h.own.later hb, h.low.trans (hb.mono h.low.size), h.pwB⟩
theorem StG.get {w wr w' : World} {pt pk pw gc cc : Nat} {vw : Value} {s : ByteArray} {k k' : Nat} {L : List Int} (h : StG w wr pt pk pw gc cc vw s k L) (hk : IsK w' pw vw s k') (hc : Chg (fun b => b = pw) wr w') : StG w w' pt pk pw gc cc vw s k' L :=
  ⟨hk, hc.keep h.told (Blk.ne h.told h.wk.blk (by decide)), hc.keep h.cds (Blk.ne h.cds h.wk.blk (by decide)), h.own.chg hc (fun g hg e => by
    obtain ⟨cur, hcur⟩ := h.own.blk g hg
    exact Blk.ne hcur h.wk.blk (by decide) e), h.low.trans (hc.below h.low.size (fun b hb e => by have := h.pwB; omega)), h.pwB⟩
/-- The out row grows. -/
theorem StG.row {w wr w' : World} {pt pk pw gc cc : Nat} {vw v : Value} {s : ByteArray} {k : Nat} {L : List Int} {n : Nat} {cs : List Value} (h : StG w wr pt pk pw gc cc vw s k L) (ho : OwnK wr 54 2 v n cs) (hn : ∀ g, v.ownBlock = some g → w.heap.size ≤ g) (hc : Chg (fun b => some b = v.ownBlock) wr w') : StG w w' pt pk pw gc cc vw s k L :=
  ⟨h.wk.keep hc (fun e => ho.ne h.wk.blk (by decide) e.symm) (fun g hg e => by
      obtain ⟨cur, hcur⟩ := h.wk.row.blk g hg
      exact ho.ne hcur (by decide) e.symm),
   hc.keep h.told (fun e => ho.ne h.told (by decide) e.symm), hc.keep h.cds (fun e => ho.ne h.cds (by decide) e.symm), h.own.chg hc (fun g hg e => by
    obtain ⟨cur, hcur⟩ := h.own.blk g hg
    exact ho.ne hcur (by decide) e.symm), h.low.trans (hc.below h.low.size (fun b hb e => by have := hn b e.symm; omega)), h.pwB⟩
set_option maxHeartbeats 4000000 in
theorem rhget_arg (A0 : Option Addr) (c0 : Nat) (L : List Int) (s : ByteArray) (n : Int) (w : World) (hr0 : Kd.C (Kd.int .i64) w A0 L.length L) (hc0 : L.length ≤ c0) (hm : mayL L = true) (hn : n < 0 ∨ 4096 < n) :
    Calls Try.prog 13 #[.string s, .int .i64 n, .slice A0 L.length c0] w (RGetPost L s n w) := by
  obtain ⟨k, hk⟩ := (rcanon_is L).rounds
  have hce : codesE L = ((Cd.codeL L).map codeS, 0) := by unfold codesE; rw [if_pos hm]
  rw [hce] at hk
  have HC := kept (fun wx (hC : Kd.C (Kd.int .i64) wx A0 L.length L) => wringerref7_Canon.calls k A0 c0 L _ 0 wx hC hc0 hk)
  have h65 := (Cd.may_range hm).1
  have HM := kept hm
  have hcl : (Cd.codeL L).length = 65 := Cd.length_cst L _
  have HCl := kept hcl
  have HRl := kept hr0
  have HLr := kept (Own.rd_of_C hr0)
  have HL65 := kept h65
  rw [h65] at HC HRl HLr ⊢
  have hg : getE L s n = ([], 1) := by unfold getE; rw [if_pos hm, if_pos hn]
  have HGe := kept hg
  clear hr0 hc0 hm h65 hcl hk hce hg
  have hd : (decide (n < 0) = true) ∨ (decide (n < 0) = false ∧ decide ((4096 : Int) < n) = true) := by
    by_cases h : n < 0
    · exact .inl (decide_eq_true h)
    · exact .inr ⟨decide_eq_false h, decide_eq_true (by omega)⟩
  clear hn
  go_enter Try.func13, Try.ntmps13
  go_wp2_with fail
  generalize hw1 : World.alloc w _ = w1
  obtain ⟨pt, hpt⟩ : ∃ pt, pt = w.heap.size := ⟨_, rfl⟩
  have hal : Below w.heap.size w w1 := by rw [← hw1]; exact (Below.refl _ _).alloc (Nat.le_refl _) _
  have HT1 : Own.Kept (Blk w1 pt #[.slice none 0 0, .int .i64 0] 34) := kept (by rw [hpt, ← hw1]; exact Blk.fresh _ _ _)
  have HB1 := kept hal
  have HPt : Own.Kept (w.heap.size ≤ pt) := kept (Nat.le_of_eq hpt.symm)
  rw [← hpt]
  clear hw1 hal hpt
  refine (HC.out w1 (Kd.C_below HRl.out HB1.out)).mono ?_
  rintro e w2 ⟨vc, rfl, hrv, hb2⟩
  obtain ⟨ho, hnew⟩ := ownC_of_R hrv
  rw [HCl.out] at ho
  obtain ⟨ac, cc, rfl, hac1, hac2, hac3⟩ := ho.slice
  obtain ⟨gc, rfl⟩ := hac3 (by decide)
  have HO2 := kept ho
  have HT2 : Own.Kept (Blk w2 pt #[.slice none 0 0, .int .i64 0] 34) := kept ((hb2.block pt (Blk.lt HT1.out)).trans HT1.out)
  have HB2 := kept (HB1.out.trans (hb2.mono HB1.out.size))
  clear hb2 hrv ho hnew hac1 hac2 hac3
  go_upto_region 2 with fail
  generalize hw3 : World.alloc w2 _ = w3
  obtain ⟨pk, hpk⟩ : ∃ pk, pk = w2.heap.size := ⟨_, rfl⟩
  have hal : Below w2.heap.size w2 w3 := by rw [← hw3]; exact (Below.refl _ _).alloc (Nat.le_refl _) _
  have HT3 : Own.Kept (Blk w3 pt #[.slice none 0 0, .int .i64 0] 34) := kept ((hal.block pt (Blk.lt HT2.out)).trans HT2.out)
  have HK3 : Own.Kept (Blk w3 pk #[.slice (some ⟨gc, 0, none⟩) 65 cc, .int .i64 0] 73) := kept (by rw [hpk, ← hw3]; exact Blk.fresh _ _ _)
  have HO3 := kept (HO2.out.later hal)
  have HBw := kept (HB2.out.trans (hal.mono HB2.out.size))
  have kk1 : w3.cell? ⟨pk, 1, none⟩ = some (.int .i64 0) := Blk.cell HK3.out rfl
  rw [← hpk]
  clear hw3 hal hpk HT1 HT2 HB1 HB2 HO2
  have c0 : w3.cell? ⟨pt, 0, none⟩ = some (.slice none 0 0) := Blk.cell HT3.out rfl
  have c1 : w3.cell? ⟨pt, 1, none⟩ = some (.int .i64 0) := Blk.cell HT3.out rfl
  have f0 : w3.frozen? ⟨pt, 0, none⟩ = false := Blk.free HT3.out 0
  have f1 : w3.frozen? ⟨pt, 1, none⟩ = false := Blk.free HT3.out 1
  rcases hd with hd | ⟨hd1, hd2⟩
  · go_wp2_with fail
    generalize hwz : World.setCell _ _ _ = wz
    have hBz : Blk wz pt #[.slice none 0 0, .int .i64 1] 34 := by
      rw [← hwz]
      have h := (HT3.out.set 0 (.slice none 0 0)).set 1 (.int .i64 1)
      simpa using h
    have hCz : Below w.heap.size w wz := by
      rw [← hwz]
      exact (HBw.out.setCell (p := ⟨pt, 0, none⟩) HPt.out _).setCell (p := ⟨pt, 1, none⟩) HPt.out _
    have z0 : wz.cell? ⟨pt, 0, none⟩ = some (.slice none 0 0) := Blk.cell hBz rfl
    have z1 : wz.cell? ⟨pt, 1, none⟩ = some (.int .i64 1) := Blk.cell hBz rfl
    refine bodyPost_ret (v := .agg #[.slice none 0 0, .int .i64 1]) (by simp [results, Try.results13, go_sem, z0, z1]) rfl ?_
    unfold RGetPost
    rw [HGe.out]
    exact ⟨_, rfl, OwnK.nil _ _ _, fun g hg => by simp [Value.ownBlock] at hg, hCz⟩
  · go_wp2_with fail
    generalize hwz : World.setCell _ _ _ = wz
    have hBz : Blk wz pt #[.slice none 0 0, .int .i64 1] 34 := by
      rw [← hwz]
      have h := (HT3.out.set 0 (.slice none 0 0)).set 1 (.int .i64 1)
      simpa using h
    have hCz : Below w.heap.size w wz := by
      rw [← hwz]
      exact (HBw.out.setCell (p := ⟨pt, 0, none⟩) HPt.out _).setCell (p := ⟨pt, 1, none⟩) HPt.out _
    have z0 : wz.cell? ⟨pt, 0, none⟩ = some (.slice none 0 0) := Blk.cell hBz rfl
    have z1 : wz.cell? ⟨pt, 1, none⟩ = some (.int .i64 1) := Blk.cell hBz rfl
    refine bodyPost_ret (v := .agg #[.slice none 0 0, .int .i64 1]) (by simp [results, Try.results13, go_sem, z0, z1]) rfl ?_
    unfold RGetPost
    rw [HGe.out]
    exact ⟨_, rfl, OwnK.nil _ _ _, fun g hg => by simp [Value.ownBlock] at hg, hCz⟩

theorem kget1_ok (p : Nat) (v : Value) (s : ByteArray) (k : Nat) (w : World) (h : IsK w p v s k) (hs : s.size ≤ 1000000000) (hk : k < 8 * s.size) :
    Calls Try.prog 38 #[.pointer (some ⟨p, 0, none⟩), .int .i64 1] w fun e w' => e = .returned (.agg #[.int .u64 (((bitS s k).toNat : Nat) : Int), .int .i64 0, .int .i64 0]) ∧ IsK w' p v s (k + 1) ∧ Chg (fun b => b = p) w w' := by
  have h1 := kget_ok p v s k 1 w h hs (by decide) (by omega)
  rw [one_bit s k hk] at h1
  exact h1
/-- An error in a part is one of the whole. -/
theorem getE_err {L : List Int} {s : ByteArray} {N k i m er : Nat} {ps : List (Nat × Nat)} (hm : mayL L = true) (hN : N ≤ 4096) (hg : getPs L N (bitsS s) = ((getPs L (N - i) ((bitsS s).drop k)).1, ps ++ (getPs L (N - i) ((bitsS s).drop k)).2.1, (getPs L (N - i) ((bitsS s).drop k)).2.2))
    (hme : N - i = m + 1) (her : er ≠ 0) (ho : (getOne L ((bitsS s).drop k)).1 = er) : getE L s (N : Int) = ([], (er : Int)) := by
  have h1 : (getPs L N (bitsS s)).1 = er := by rw [hg, hme]; exact getPs_err L m _ er her ho
  unfold getE
  rw [if_pos hm, if_neg (by omega), Int.toNat_natCast, h1, if_pos her]
set_option maxHeartbeats 40000000 in
theorem rhget_calls (A0 : Option Addr) (c0 : Nat) (L : List Int) (s : ByteArray) (N : Nat) (w : World) (hr0 : Kd.C (Kd.int .i64) w A0 L.length L) (hc0 : L.length ≤ c0) (hm : mayL L = true) (hN : N ≤ 4096) (hs : s.size ≤ 1000000000) :
    Calls Try.prog 13 #[.string s, .int .i64 (N : Int), .slice A0 L.length c0] w (RGetPost L s (N : Int) w) := by
  obtain ⟨i0, hi, hz0, hz1, hz2⟩ := CanonH.info_partsE infoPart
  obtain ⟨k, hk⟩ := (rcanon_is L).rounds
  have hce : codesE L = ((Cd.codeL L).map codeS, 0) := by unfold codesE; rw [if_pos hm]
  rw [hce] at hk
  have HC := kept (fun wx (hC : Kd.C (Kd.int .i64) wx A0 L.length L) => wringerref7_Canon.calls k A0 c0 L _ 0 wx hC hc0 hk)
  have h65 := (Cd.may_range hm).1
  have HM := kept hm
  have hcl : (Cd.codeL L).length = 65 := Cd.length_cst L _
  have HCl := kept hcl
  have HRl := kept hr0
  have HLr := kept (Own.rd_of_C hr0)
  have HL65 := kept h65
  rw [h65] at HC HRl HLr ⊢
  have t1 : decide ((N : Int) < 0) = false := decide_eq_false (by omega)
  have t2 : decide ((4096 : Int) < (N : Int)) = false := decide_eq_false (by omega)
  clear hr0 hc0 hm h65 hcl hk hce
  go_enter Try.func13, Try.ntmps13
  go_wp2_with fail
  generalize hw1 : World.alloc w _ = w1
  obtain ⟨pt, hpt⟩ : ∃ pt, pt = w.heap.size := ⟨_, rfl⟩
  have hal : Below w.heap.size w w1 := by rw [← hw1]; exact (Below.refl _ _).alloc (Nat.le_refl _) _
  have HT1 : Own.Kept (Blk w1 pt #[.slice none 0 0, .int .i64 0] 34) := kept (by rw [hpt, ← hw1]; exact Blk.fresh _ _ _)
  have HB1 := kept hal
  have HPt : Own.Kept (w.heap.size ≤ pt) := kept (Nat.le_of_eq hpt.symm)
  rw [← hpt]
  clear hw1 hal hpt
  refine (HC.out w1 (Kd.C_below HRl.out HB1.out)).mono ?_
  rintro e w2 ⟨vc, rfl, hrv, hb2⟩
  obtain ⟨ho, hnew⟩ := ownC_of_R hrv
  rw [HCl.out] at ho
  obtain ⟨ac, cc, rfl, hac1, hac2, hac3⟩ := ho.slice
  obtain ⟨gc, rfl⟩ := hac3 (by decide)
  have HO2 := kept ho
  have HT2 : Own.Kept (Blk w2 pt #[.slice none 0 0, .int .i64 0] 34) := kept ((hb2.block pt (Blk.lt HT1.out)).trans HT1.out)
  have HB2 := kept (HB1.out.trans (hb2.mono HB1.out.size))
  clear hb2 hrv ho hnew hac1 hac2 hac3
  go_upto_region 2 with fail
  generalize hw3 : World.alloc w2 _ = w3
  obtain ⟨pk, hpk⟩ : ∃ pk, pk = w2.heap.size := ⟨_, rfl⟩
  have hal : Below w2.heap.size w2 w3 := by rw [← hw3]; exact (Below.refl _ _).alloc (Nat.le_refl _) _
  have HT3 : Own.Kept (Blk w3 pt #[.slice none 0 0, .int .i64 0] 34) := kept ((hal.block pt (Blk.lt HT2.out)).trans HT2.out)
  have HK3 : Own.Kept (Blk w3 pk #[.slice (some ⟨gc, 0, none⟩) 65 cc, .int .i64 0] 73) := kept (by rw [hpk, ← hw3]; exact Blk.fresh _ _ _)
  have HO3 := kept (HO2.out.later hal)
  have HBw := kept (HB2.out.trans (hal.mono HB2.out.size))
  have kk1 : w3.cell? ⟨pk, 1, none⟩ = some (.int .i64 0) := Blk.cell HK3.out rfl
  rw [← hpk]
  clear hw3 hal hpk HT1 HT2 HB1 HB2 HO2
  go_wp2_with fail
  refine (kfrom_calls s w3 hs).mono ?_
  rintro e w4 ⟨pw, vw, rfl, hW4, hb4, hpw, hvw⟩
  have HSt : Own.Kept (StG w w4 pt pk pw gc cc vw s 0 L) := kept ⟨hW4, (hb4.block pt (Blk.lt HT3.out)).trans HT3.out, (hb4.block pk (Blk.lt HK3.out)).trans HK3.out, HO3.out.later hb4, HBw.out.trans (hb4.mono HBw.out.size), Nat.le_trans HBw.out.size hpw⟩
  clear hW4 hb4 hpw hvw HT3 HK3 HO3 HBw kk1 t1 t2
  go_wp2_with fail
  go_loopw [9] (fun s9 wr => ∃ (i k : Nat) (a : Option Addr) (cap : Nat) (ps : List (Nat × Nat)), i ≤ N ∧ s9 = .slice a i cap ∧ ps.length = i ∧ OwnK wr 54 2 (.slice a i cap) i (flN ps) ∧ (∀ g, (Value.slice a i cap).ownBlock = some g → w.heap.size ≤ g) ∧ StG w wr pt pk pw gc cc vw s k L ∧ k ≤ 8 * s.size ∧
    (getPs L N (bitsS s) = ((getPs L (N - i) ((bitsS s).drop k)).1, ps ++ (getPs L (N - i) ((bitsS s).drop k)).2.1, (getPs L (N - i) ((bitsS s).drop k)).2.2))) (fun s9 _ => N - CanonH.lenOf s9)
  case atStart => exact ⟨0, 0, none, 0, [], Nat.zero_le _, rfl, rfl, OwnK.nil _ _ _, fun g hg => by simp [Value.ownBlock] at hg, HSt.out, Nat.zero_le _, by simp⟩
  case round =>
    obtain ⟨i, k, a, cap, ps, hiN, rfl, hpl, hO, hnew, hS, hk, hg⟩ := hrel
    obtain ⟨wp, rfl⟩ : ∃ wp, wp = wr := ⟨wr, rfl⟩
    have HOw := kept hO
    have HNw := kept hnew
    have HS := kept hS
    have HGp := kept hg
    have HPl := kept hpl
    clear hO hnew hS hg hpl HSt
    by_cases hlt : i < N
    · obtain ⟨m, hme⟩ : ∃ m, N - i = m + 1 := ⟨N - i - 1, by omega⟩
      have HMe := kept hme
      clear hme
      go_wp2_with fail
      go_loopg [10, 11, 12] 16 (fun gk s10 s11 s12 wr => (∃ v n : Nat, gk + n = 16 ∧ n ≤ 15 ∧ v < 2 ^ n ∧ s10 = .int .i64 (v : Int) ∧ s11 = .int .i64 (-1) ∧ s12 = .int .i64 ((n : Int) + 1) ∧ StG w wr pt pk pw gc cc vw s (k + n) L ∧ OwnK wr 54 2 (.slice a i cap) i (flN ps) ∧ k + n ≤ 8 * s.size ∧ dec L ((bitsS s).drop k) 0 0 = dec L ((bitsS s).drop (k + n)) v n) ∨
        (∃ (c n : Nat) (z1 z2 : Int), gk = 0 ∧ s10 = .int .i64 z1 ∧ s11 = .int .i64 (c : Int) ∧ s12 = .int .i64 z2 ∧ StG w wr pt pk pw gc cc vw s (k + n) L ∧ OwnK wr 54 2 (.slice a i cap) i (flN ps) ∧ dec L ((bitsS s).drop k) 0 0 = (0, c, n)))
      case atStart => exact .inl ⟨0, 0, rfl, by decide, by decide, rfl, rfl, rfl, HS.out, HOw.out, hk, rfl⟩
      case round =>
        rcases hrel with ⟨v, n, hgk, hn15, hv, rfl, rfl, rfl, hS2, hO2, hkn, hdec⟩ | ⟨c, n, z1, z2, hgk, rfl, rfl, rfl, hS2, hO2, hdec⟩
        · obtain ⟨wq, rfl⟩ : ∃ wq, wq = wr := ⟨wr, rfl⟩
          have HSq := kept hS2
          have HOq := kept hO2
          have HDec := kept hdec
          have HGk := kept hgk
          have hv15 : v < 32768 := Nat.lt_of_lt_of_le hv (Nat.pow_le_pow_right (n := 2) (by decide) hn15)
          clear hS2 hO2 hdec hgk hv
          by_cases hmore : k + n < 8 * s.size
          · have HGet := kept (kget1_ok pw vw s (k + n) wq HSq.out.wk hs hmore)
            obtain ⟨bt, hbt⟩ : ∃ bt, bt = (bitS s (k + n)).toNat := ⟨_, rfl⟩
            have hb2 : bt < 2 := by rw [hbt]; cases bitS s (k + n) <;> decide
            rw [← hbt] at HGet
            have HBt := kept hbt
            have HDc := kept (drop_cons s (k + n) hmore)
            have hor := shl_or v bt (by omega) hb2
            clear hbt
            go_wp2_with fail
            refine HGet.out.mono ?_
            rintro e w5 ⟨rfl, hK5, hC5⟩
            have HS5 := kept (HSq.out.get hK5 hC5)
            have HO5 := kept (HOq.out.chg hC5 (fun g hg e => HOq.out.ne HSq.out.wk.blk (by decide) (by rw [hg, e])))
            clear hK5 hC5
            go_upto_region 17 with fail
            generalize hw6 : World.alloc w5 _ = w6
            obtain ⟨pg, hpg⟩ : ∃ pg, pg = w5.heap.size := ⟨_, rfl⟩
            have hal : Below w5.heap.size w5 w6 := by rw [← hw6]; exact (Below.refl _ _).alloc (Nat.le_refl _) _
            have HS6 := kept (HS5.out.later hal)
            have HO6 := kept (HO5.out.later hal)
            rw [← hpg]
            clear hw6 hal hpg hor
            obtain ⟨v', hv'⟩ : ∃ v', v' = 2 * v + bt := ⟨_, rfl⟩
            obtain ⟨n', hn'⟩ : ∃ n', n' = n + 1 := ⟨_, rfl⟩
            rw [show (2 * (v : Int) + (bt : Int)) = (v' : Int) by omega, show ((n : Int) + 1) = (n' : Int) by omega]
            have hv65 : v' < 65536 := by omega
            have hn16 : n' ≤ 16 := by omega
            have hn1 : 1 ≤ n' := by omega
            have HVn := kept (And.intro hv' hn')
            clear hv' hn'
            go_wp2_with fail
            go_loopw [11, 14, 15] (fun s11 s14 s15 wr => ∃ j : Nat, j ≤ 65 ∧ s15 = .int .i64 (j : Int) ∧ s11 = .int .i64 (clsI L v' n' j) ∧ s14 = .bool (begI L v' n' j) ∧ StG w wr pt pk pw gc cc vw s (k + n + 1) L ∧ OwnK wr 54 2 (.slice a i cap) i (flN ps)) (fun _ _ s15 _ => 65 - (intOf s15).toNat)
            case atStart => exact ⟨0, by omega, rfl, rfl, rfl, HS6.out, HO6.out⟩
            case round =>
              obtain ⟨j, hj, rfl, rfl, rfl, hS3, hO3⟩ := hrel
              obtain ⟨wj, rfl⟩ : ∃ wj, wj = wr := ⟨wr, rfl⟩
              have HSj := kept hS3
              have HOj := kept hO3
              clear hS3 hO3
              by_cases hlt3 : j < 65
              · obtain ⟨cb, cn, hcode, hcb, hcn, hee⟩ : ∃ cb cn : Nat, (Cd.codeL L).getD j (0, 0) = ((cb : Int), (cn : Int)) ∧ cb < 32768 ∧ cn ≤ 15 ∧ (cb = cdB L j ∧ cn = cdN L j) := by
                  obtain ⟨a1, a2, a3, a4, _⟩ := cd_all HM.out j hlt3
                  exact ⟨cdB L j, cdN L j, a4, Nat.lt_of_lt_of_le a2 (Nat.pow_le_pow_right (by decide) a1), a1, rfl, rfl⟩
                obtain ⟨f1, f2⟩ := CanonH.fl_at (Cd.codeL L) j (by rw [HCl.out]; omega)
                have eat : Hp.at_ (Cd.codeL L) j = ((cb : Int), (cn : Int)) := hcode
                rw [eat] at f1 f2
                have hget : L.getD j 0 = (cn : Int) := by rw [hee.2]; exact (cd_all HM.out j hlt3).2.2.1
                obtain ⟨x1, rfl, hlc⟩ := HLr.out.at (Own.ints_at .i64 L j (by rw [HL65.out]; omega))
                rw [hget] at hlc
                have l0 := (HSj.out.low.cell (World.block_lt_of_cell? w _ hlc)).trans hlc
                have k0 := HSj.out.own.cell f1
                have k1 := HSj.out.own.cell f2
                have q0 : wj.cell? ⟨pk, 0, none⟩ = some (.slice (some ⟨gc, 0, none⟩) 65 cc) := Blk.cell HSj.out.cds rfl
                have e0 := lat_cell q0
                have e1 := lat_cell l0
                have e2 := lat_cell k0
                obtain ⟨cl, hcl⟩ : ∃ cl, cl = clsI L v' n' j := ⟨_, rfl⟩
                obtain ⟨bg, hbg⟩ : ∃ bg, bg = begI L v' n' j := ⟨_, rfl⟩
                have hcln : clsI L v' n' (j + 1) = if cn = n' ∧ cb = v' then (j : Int) else cl := by simp only [clsI]; rw [hee.1, hee.2, hcl]
                have hbgn : begI L v' n' (j + 1) = (bg || decide (n' ≤ cn ∧ cb / 2 ^ (cn - n') = v')) := by simp only [begI]; rw [hee.1, hee.2, hbg]
                rw [← hcl, ← hbg]
                have HCln := kept hcln
                have HBgn := kept hbgn
                clear f1 f2 eat hcode hee hget hlc hcl hbg hcln hbgn
                have D1 : (((cn : Int) == (n' : Int)) = true ∧ ((cb : Int) == (v' : Int)) = true ∧ Own.Kept (cn = n' ∧ cb = v')) ∨ (((cn : Int) == (n' : Int)) = true ∧ ((cb : Int) == (v' : Int)) = false ∧ Own.Kept (¬ (cn = n' ∧ cb = v'))) ∨ (((cn : Int) == (n' : Int)) = false ∧ Own.Kept (¬ (cn = n' ∧ cb = v'))) := by
                  by_cases h1 : cn = n'
                  · by_cases h2 : cb = v'
                    · exact .inl ⟨by rw [beq_iff_eq]; omega, by rw [beq_iff_eq]; omega, kept ⟨h1, h2⟩⟩
                    · exact .inr (.inl ⟨by rw [beq_iff_eq]; omega, by rw [beq_eq_false_iff_ne]; omega, kept (fun h => h2 h.2)⟩)
                  · exact .inr (.inr ⟨by rw [beq_eq_false_iff_ne]; omega, kept (fun h => h1 h.1)⟩)
                have D2 : (bg = true) ∨ (bg = false ∧ cn < n' ∧ decide (n' ≤ cn) = false ∧ Own.Kept (¬ (n' ≤ cn ∧ cb / 2 ^ (cn - n') = v'))) ∨ (bg = false ∧ n' ≤ cn ∧ decide ((n' : Int) ≤ (cn : Int)) = true ∧ (((cb : Int) / 2 ^ (cn - n')) == (v' : Int)) = true ∧ Own.Kept (n' ≤ cn ∧ cb / 2 ^ (cn - n') = v')) ∨ (bg = false ∧ n' ≤ cn ∧ decide ((n' : Int) ≤ (cn : Int)) = true ∧ (((cb : Int) / 2 ^ (cn - n')) == (v' : Int)) = false ∧ Own.Kept (¬ (n' ≤ cn ∧ cb / 2 ^ (cn - n') = v'))) := by
                  have e : ((cb : Int) / 2 ^ (cn - n')) = ((cb / 2 ^ (cn - n') : Nat) : Int) := by simp
                  rw [e]
                  generalize cb / 2 ^ (cn - n') = M
                  cases bg with
                  | true => exact .inl rfl
                  | false =>
                    by_cases h1 : n' ≤ cn
                    · by_cases h2 : M = v'
                      · exact .inr (.inr (.inl ⟨rfl, h1, decide_eq_true (by omega), by rw [beq_iff_eq]; omega, kept ⟨h1, h2⟩⟩))
                      · exact .inr (.inr (.inr ⟨rfl, h1, decide_eq_true (by omega), by rw [beq_eq_false_iff_ne]; omega, kept (fun h => h2 h.2)⟩))
                    · exact .inr (.inl ⟨rfl, by omega, decide_eq_false (by omega), kept (fun h => h1 h.1)⟩)
                rcases D1 with ⟨te, tv, hA⟩ | ⟨te, tv, hA⟩ | ⟨te, hA⟩
                · go_upto_region 23 with fail
                  rcases D2 with rfl | ⟨rfl, hle, tge, hB⟩ | ⟨rfl, hle, tge, tsh, hB⟩ | ⟨rfl, hle, tge, tsh, hB⟩
                  · refine wp_region_quietL (by kernel_rfl) (by kernel_rfl) ?_
                    repeat (go_big_quiet_step (fail))
                    refine wpQuiet_nil ?_
                    intro nq
                    go_wp2_with fail
                    go_roundw
                    case rel => exact ⟨j + 1, by omega, by go_num, by rw [HCln.out, if_pos hA.out], by rw [HBgn.out]; rfl, HSj.out.later nq.below, HOj.out.later nq.below⟩
                    case measure => simp [intOf]; omega
                  · refine wp_region_quietL (by kernel_rfl) (by kernel_rfl) ?_
                    repeat (go_big_quiet_step (fail))
                    refine wpQuiet_nil ?_
                    intro nq
                    go_wp2_with fail
                    go_roundw
                    case rel => exact ⟨j + 1, by omega, by go_num, by rw [HCln.out, if_pos hA.out], by rw [HBgn.out, decide_eq_false hB.out]; rfl, HSj.out.later nq.below, HOj.out.later nq.below⟩
                    case measure => simp [intOf]; omega
                  · refine wp_region_quietL (by kernel_rfl) (by kernel_rfl) ?_
                    repeat (go_big_quiet_step (fail))
                    refine wpQuiet_nil ?_
                    intro nq
                    go_wp2_with fail
                    go_roundw
                    case rel => exact ⟨j + 1, by omega, by go_num, by rw [HCln.out, if_pos hA.out], by rw [HBgn.out, decide_eq_true hB.out]; rfl, HSj.out.later nq.below, HOj.out.later nq.below⟩
                    case measure => simp [intOf]; omega
                  · refine wp_region_quietL (by kernel_rfl) (by kernel_rfl) ?_
                    repeat (go_big_quiet_step (fail))
                    refine wpQuiet_nil ?_
                    intro nq
                    go_wp2_with fail
                    go_roundw
                    case rel => exact ⟨j + 1, by omega, by go_num, by rw [HCln.out, if_pos hA.out], by rw [HBgn.out, decide_eq_false hB.out]; rfl, HSj.out.later nq.below, HOj.out.later nq.below⟩
                    case measure => simp [intOf]; omega
                · go_upto_region 23 with fail
                  rcases D2 with rfl | ⟨rfl, hle, tge, hB⟩ | ⟨rfl, hle, tge, tsh, hB⟩ | ⟨rfl, hle, tge, tsh, hB⟩
                  · refine wp_region_quietL (by kernel_rfl) (by kernel_rfl) ?_
                    repeat (go_big_quiet_step (fail))
                    refine wpQuiet_nil ?_
                    intro nq
                    go_wp2_with fail
                    go_roundw
                    case rel => exact ⟨j + 1, by omega, by go_num, by rw [HCln.out, if_neg hA.out], by rw [HBgn.out]; rfl, HSj.out.later nq.below, HOj.out.later nq.below⟩
                    case measure => simp [intOf]; omega
                  · refine wp_region_quietL (by kernel_rfl) (by kernel_rfl) ?_
                    repeat (go_big_quiet_step (fail))
                    refine wpQuiet_nil ?_
                    intro nq
                    go_wp2_with fail
                    go_roundw
                    case rel => exact ⟨j + 1, by omega, by go_num, by rw [HCln.out, if_neg hA.out], by rw [HBgn.out, decide_eq_false hB.out]; rfl, HSj.out.later nq.below, HOj.out.later nq.below⟩
                    case measure => simp [intOf]; omega
                  · refine wp_region_quietL (by kernel_rfl) (by kernel_rfl) ?_
                    repeat (go_big_quiet_step (fail))
                    refine wpQuiet_nil ?_
                    intro nq
                    go_wp2_with fail
                    go_roundw
                    case rel => exact ⟨j + 1, by omega, by go_num, by rw [HCln.out, if_neg hA.out], by rw [HBgn.out, decide_eq_true hB.out]; rfl, HSj.out.later nq.below, HOj.out.later nq.below⟩
                    case measure => simp [intOf]; omega
                  · refine wp_region_quietL (by kernel_rfl) (by kernel_rfl) ?_
                    repeat (go_big_quiet_step (fail))
                    refine wpQuiet_nil ?_
                    intro nq
                    go_wp2_with fail
                    go_roundw
                    case rel => exact ⟨j + 1, by omega, by go_num, by rw [HCln.out, if_neg hA.out], by rw [HBgn.out, decide_eq_false hB.out]; rfl, HSj.out.later nq.below, HOj.out.later nq.below⟩
                    case measure => simp [intOf]; omega
                · go_upto_region 23 with fail
                  rcases D2 with rfl | ⟨rfl, hle, tge, hB⟩ | ⟨rfl, hle, tge, tsh, hB⟩ | ⟨rfl, hle, tge, tsh, hB⟩
                  · refine wp_region_quietL (by kernel_rfl) (by kernel_rfl) ?_
                    repeat (go_big_quiet_step (fail))
                    refine wpQuiet_nil ?_
                    intro nq
                    go_wp2_with fail
                    go_roundw
                    case rel => exact ⟨j + 1, by omega, by go_num, by rw [HCln.out, if_neg hA.out], by rw [HBgn.out]; rfl, HSj.out.later nq.below, HOj.out.later nq.below⟩
                    case measure => simp [intOf]; omega
                  · refine wp_region_quietL (by kernel_rfl) (by kernel_rfl) ?_
                    repeat (go_big_quiet_step (fail))
                    refine wpQuiet_nil ?_
                    intro nq
                    go_wp2_with fail
                    go_roundw
                    case rel => exact ⟨j + 1, by omega, by go_num, by rw [HCln.out, if_neg hA.out], by rw [HBgn.out, decide_eq_false hB.out]; rfl, HSj.out.later nq.below, HOj.out.later nq.below⟩
                    case measure => simp [intOf]; omega
                  · refine wp_region_quietL (by kernel_rfl) (by kernel_rfl) ?_
                    repeat (go_big_quiet_step (fail))
                    refine wpQuiet_nil ?_
                    intro nq
                    go_wp2_with fail
                    go_roundw
                    case rel => exact ⟨j + 1, by omega, by go_num, by rw [HCln.out, if_neg hA.out], by rw [HBgn.out, decide_eq_true hB.out]; rfl, HSj.out.later nq.below, HOj.out.later nq.below⟩
                    case measure => simp [intOf]; omega
                  · refine wp_region_quietL (by kernel_rfl) (by kernel_rfl) ?_
                    repeat (go_big_quiet_step (fail))
                    refine wpQuiet_nil ?_
                    intro nq
                    go_wp2_with fail
                    go_roundw
                    case rel => exact ⟨j + 1, by omega, by go_num, by rw [HCln.out, if_neg hA.out], by rw [HBgn.out, decide_eq_false hB.out]; rfl, HSj.out.later nq.below, HOj.out.later nq.below⟩
                    case measure => simp [intOf]; omega
              · have hje : j = 65 := by omega
                subst hje
                have hd1 : dec L ((bitsS s).drop k) 0 0 = dec L (bitS s (k + n) :: (bitsS s).drop (k + n + 1)) v n := by rw [HDec.out, HDc.out]
                have ev : 2 * v + (bitS s (k + n)).toNat = v' := by rw [← HBt.out]; exact HVn.out.1.symm
                have en : n + 1 = n' := HVn.out.2.symm
                cases hf : findC L v' n' with
                | some c =>
                  have hcl := clsI_some HM.out hf
                  have hbg : begI L v' n' 65 = true := by rw [begI_all]; exact begC_of_find hf
                  have hdd : dec L ((bitsS s).drop k) 0 0 = (0, c, n + 1) := by rw [hd1]; exact dec_find (by rw [ev, en]; exact hf)
                  have HDd := kept hdd
                  rw [hcl, hbg]
                  clear hf hcl hbg hdd hd1 ev en
                  go_wp2_with fail
                  go_roundg 0
                  case measure => have := HGk.out; omega
                  case rel => exact .inr ⟨c, n + 1, (v' : Int), ((n' : Int) + 1), rfl, rfl, rfl, rfl, by rw [← Nat.add_assoc]; exact HSj.out, HOj.out, HDd.out⟩
                | none =>
                  have hcl := clsI_none hn1 hf
                  cases hb : begC L v' n' with
                  | true =>
                    have hbg : begI L v' n' 65 = true := by rw [begI_all]; exact hb
                    obtain ⟨hle, hlv⟩ := begC_le HM.out hb
                    have hdd : dec L ((bitsS s).drop k) 0 0 = dec L ((bitsS s).drop (k + n + 1)) v' n' := by
                      rw [hd1, dec_next (by rw [ev, en]; exact hf) (by rw [ev, en]; exact hb), ev, en]
                    have HDd := kept hdd
                    have HLv := kept hlv
                    rw [hcl, hbg]
                    clear hf hcl hbg hdd hd1 ev en hb hlv
                    go_wp2_with fail
                    go_roundg (gk - 1)
                    case measure => have := HGk.out; omega
                    case rel => exact .inl ⟨v', n', by have := HGk.out; have := HVn.out.2; omega, hle, HLv.out, rfl, rfl, rfl, by rw [HVn.out.2, ← Nat.add_assoc]; exact HSj.out, HOj.out, by have := HVn.out.2; omega, by rw [HDd.out, HVn.out.2, ← Nat.add_assoc]⟩
                  | false =>
                    have hbg : begI L v' n' 65 = false := by rw [begI_all]; exact hb
                    have hdd : dec L ((bitsS s).drop k) 0 0 = (3, 0, n + 1) := by
                      rw [hd1]; exact dec_bad (by rw [ev, en]; exact hf) (by rw [ev, en]; exact hb)
                    have HGe := kept (getE_err HM.out hN HGp.out HMe.out (by decide : (3 : Nat) ≠ 0) (by rw [getOne_err (by rw [hdd]; exact (by decide : (3 : Nat) ≠ 0)), hdd]))
                    rw [hcl, hbg]
                    clear hf hcl hbg hdd hd1 ev en hb
                    have c0 : wj.cell? ⟨pt, 0, none⟩ = some (.slice none 0 0) := Blk.cell HSj.out.told rfl
                    have c1 : wj.cell? ⟨pt, 1, none⟩ = some (.int .i64 0) := Blk.cell HSj.out.told rfl
                    have f0 : wj.frozen? ⟨pt, 0, none⟩ = false := Blk.free HSj.out.told 0
                    have f1 : wj.frozen? ⟨pt, 1, none⟩ = false := Blk.free HSj.out.told 1
                    go_wp2_with fail
                    generalize hwz : World.setCell _ _ _ = wz
                    have hBz : Blk wz pt #[.slice none 0 0, .int .i64 3] 34 := by
                      rw [← hwz]
                      have h := (HSj.out.told.set 0 (.slice none 0 0)).set 1 (.int .i64 3)
                      simpa using h
                    have hCz : Below w.heap.size w wz := by
                      rw [← hwz]
                      exact (HSj.out.low.setCell (p := ⟨pt, 0, none⟩) HPt.out _).setCell (p := ⟨pt, 1, none⟩) HPt.out _
                    have z0 : wz.cell? ⟨pt, 0, none⟩ = some (.slice none 0 0) := Blk.cell hBz rfl
                    have z1 : wz.cell? ⟨pt, 1, none⟩ = some (.int .i64 3) := Blk.cell hBz rfl
                    refine bodyPost_ret (v := .agg #[.slice none 0 0, .int .i64 3]) (by simp [results, Try.results13, go_sem, z0, z1]) rfl ?_
                    unfold RGetPost
                    rw [HGe.out]
                    exact ⟨_, rfl, OwnK.nil _ _ _, fun g hg => by simp [Value.ownBlock] at hg, hCz⟩
          · have hkn2 : k + n = 8 * s.size := by omega
            have HGet := kept (kget_more pw vw s (k + n) 1 wq HSq.out.wk hs hkn (by decide) (by omega))
            have he : (bitsS s).drop (k + n) = [] := List.drop_eq_nil_of_le (by simp; omega)
            have hd2 : dec L ((bitsS s).drop k) 0 0 = (2, 0, n) := by rw [HDec.out, he]; rfl
            have HGe := kept (getE_err HM.out hN HGp.out HMe.out (by decide : (2 : Nat) ≠ 0) (by rw [getOne_err (by rw [hd2]; exact (by decide : (2 : Nat) ≠ 0)), hd2]))
            clear hkn2 he hd2 hmore
            go_wp2_with fail
            refine HGet.out.mono ?_
            rintro e w5 ⟨rfl, hb5⟩
            have HS5 := kept (HSq.out.later hb5)
            clear hb5
            go_upto_region 15 with fail
            generalize hw6 : World.alloc w5 _ = w6
            have hal : Below w5.heap.size w5 w6 := by rw [← hw6]; exact (Below.refl _ _).alloc (Nat.le_refl _) _
            have HS6 := kept (HS5.out.later hal)
            clear hw6 hal
            have c0 : w6.cell? ⟨pt, 0, none⟩ = some (.slice none 0 0) := Blk.cell HS6.out.told rfl
            have c1 : w6.cell? ⟨pt, 1, none⟩ = some (.int .i64 0) := Blk.cell HS6.out.told rfl
            have f0 : w6.frozen? ⟨pt, 0, none⟩ = false := Blk.free HS6.out.told 0
            have f1 : w6.frozen? ⟨pt, 1, none⟩ = false := Blk.free HS6.out.told 1
            go_wp2_with fail
            generalize hwz : World.setCell _ _ _ = wz
            have hBz : Blk wz pt #[.slice none 0 0, .int .i64 2] 34 := by
              rw [← hwz]
              have h := (HS6.out.told.set 0 (.slice none 0 0)).set 1 (.int .i64 2)
              simpa using h
            have hCz : Below w.heap.size w wz := by
              rw [← hwz]
              exact (HS6.out.low.setCell (p := ⟨pt, 0, none⟩) HPt.out _).setCell (p := ⟨pt, 1, none⟩) HPt.out _
            have z0 : wz.cell? ⟨pt, 0, none⟩ = some (.slice none 0 0) := Blk.cell hBz rfl
            have z1 : wz.cell? ⟨pt, 1, none⟩ = some (.int .i64 2) := Blk.cell hBz rfl
            refine bodyPost_ret (v := .agg #[.slice none 0 0, .int .i64 2]) (by simp [results, Try.results13, go_sem, z0, z1]) rfl ?_
            unfold RGetPost
            rw [HGe.out]
            exact ⟨_, rfl, OwnK.nil _ _ _, fun g hg => by simp [Value.ownBlock] at hg, hCz⟩
        · obtain ⟨wq, rfl⟩ : ∃ wq, wq = wr := ⟨wr, rfl⟩
          have HSq := kept hS2
          have HOq := kept hO2
          have HDec := kept hdec
          have hus := dec_used L ((bitsS s).drop k) 0 0 (by rw [hdec])
          rw [hdec, List.length_drop, length_bitsS] at hus
          obtain ⟨_, hlen, hc65⟩ := hus
          simp only [Nat.zero_add] at hlen hc65
          have emx : Own.mx 0 ((c : Int) - 1) = ((c - 1 : Nat) : Int) := by rw [Own.mx_eq]; omega
          have hkn : k + n ≤ 8 * s.size := by omega
          have hbn : ((bitsS s).drop k).drop n = (bitsS s).drop (k + n) := by rw [List.drop_drop]
          clear hS2 hO2 hdec hgk
          by_cases hmore : k + n + (c - 1) ≤ 8 * s.size
          · have HGet := kept (kget_ok pw vw s (k + n) (c - 1) wq HSq.out.wk hs (by omega) hmore)
            obtain ⟨r, hr⟩ : ∃ r, r = ofBits (((bitsS s).drop (k + n)).take (c - 1)) := ⟨_, rfl⟩
            have hgo : getOne L ((bitsS s).drop k) = (0, (c, r), (bitsS s).drop (k + n + (c - 1))) := by
              rw [getOne_ok HDec.out (by rw [List.length_drop, length_bitsS]; omega), hbn, ← hr, List.drop_drop, show k + (n + (c - 1)) = k + n + (c - 1) by omega]
            have hg2 := HGp.out
            rw [HMe.out, getPs_ok L m _ _ _ hgo] at hg2
            have HG2 := kept hg2
            rw [← hr] at HGet
            clear hr hbn hgo hg2
            go_wp2_with fail
            refine HGet.out.mono ?_
            rintro e w5 ⟨rfl, hK5, hC5⟩
            have HS5 := kept (HSq.out.get hK5 hC5)
            have HO5 := kept (HOq.out.chg hC5 (fun g hg e => HOq.out.ne HSq.out.wk.blk (by decide) (by rw [hg, e])))
            clear hK5 hC5
            go_upto_region 29 with fail
            generalize hw6 : World.alloc w5 _ = w6
            obtain ⟨pg, hpg⟩ : ∃ pg, pg = w5.heap.size := ⟨_, rfl⟩
            have hal : Below w5.heap.size w5 w6 := by rw [← hw6]; exact (Below.refl _ _).alloc (Nat.le_refl _) _
            have hG6 : Blk w6 pg #[.int .u64 (r : Int), .int .i64 0, .int .i64 0] 92 := by rw [hpg, ← hw6]; exact Blk.fresh _ _ _
            have g0 : w6.cell? ⟨pg, 0, none⟩ = some (.int .u64 (r : Int)) := Blk.cell hG6 rfl
            have HS6 := kept (HS5.out.later hal)
            have HO6 := kept (HO5.out.later hal)
            rw [← hpg]
            clear hw6 hal hpg hG6
            go_wp2_with (first | (at_builtin; refine wpList_appK1 (us := [.int .i64 (c : Int), .int .u64 (r : Int)]) rfl _ _ 22 rfl 54 i0 (.agg #[.int .i64 0, .int .u64 0]) 2 16 Try.underlying22 hi hz0 hz1 hz2 rfl (by decide) (.slice a i cap) i _ rfl HO6.out rfl ?_ rfl ?_ ?_ ?_) | fail)
            · intro u hu; simp at hu; rcases hu with rfl | rfl <;> rfl
            · simp [maxLen]; omega
            · omega
            intro v7 w7 O7 C7 F7
            rw [← flN_snoc ps (c, r)] at O7
            obtain ⟨a7, cap7, rfl, _, _, _⟩ := O7.slice
            have HO7 := kept O7
            have HN7 : Own.Kept (∀ g, (Value.slice a7 (i + 1) cap7).ownBlock = some g → w.heap.size ≤ g) := kept (fun g hg => by
              rcases F7 g hg with h | h
              · exact HNw.out g h.symm
              · exact Nat.le_trans HS6.out.low.size h)
            have HS7 := kept (HS6.out.row HO6.out HNw.out C7)
            clear O7 C7 F7 g0
            go_wp2_with fail
            go_roundw
            case rel => exact ⟨i + 1, k + n + (c - 1), a7, cap7, ps ++ [(c, r)], by omega, rfl, by rw [List.length_append, HPl.out]; rfl, HO7.out, HN7.out, HS7.out, hmore, by rw [HG2.out, show N - (i + 1) = m by have := HMe.out; omega, List.append_assoc]; rfl⟩
            case measure => simp [CanonH.lenOf]; omega
          · have HGet := kept (kget_more pw vw s (k + n) (c - 1) wq HSq.out.wk hs hkn (by omega) (by omega))
            have HGe := kept (getE_err HM.out hN HGp.out HMe.out (by decide : (2 : Nat) ≠ 0) (by rw [getOne_more HDec.out (by rw [List.length_drop, length_bitsS]; omega)]))
            clear hbn hmore
            go_wp2_with fail
            refine HGet.out.mono ?_
            rintro e w5 ⟨rfl, hb5⟩
            have HS5 := kept (HSq.out.later hb5)
            clear hb5
            go_upto_region 28 with fail
            generalize hw6 : World.alloc w5 _ = w6
            have hal : Below w5.heap.size w5 w6 := by rw [← hw6]; exact (Below.refl _ _).alloc (Nat.le_refl _) _
            have HS6 := kept (HS5.out.later hal)
            clear hw6 hal
            have c0 : w6.cell? ⟨pt, 0, none⟩ = some (.slice none 0 0) := Blk.cell HS6.out.told rfl
            have c1 : w6.cell? ⟨pt, 1, none⟩ = some (.int .i64 0) := Blk.cell HS6.out.told rfl
            have f0 : w6.frozen? ⟨pt, 0, none⟩ = false := Blk.free HS6.out.told 0
            have f1 : w6.frozen? ⟨pt, 1, none⟩ = false := Blk.free HS6.out.told 1
            go_wp2_with fail
            generalize hwz : World.setCell _ _ _ = wz
            have hBz : Blk wz pt #[.slice none 0 0, .int .i64 2] 34 := by
              rw [← hwz]
              have h := (HS6.out.told.set 0 (.slice none 0 0)).set 1 (.int .i64 2)
              simpa using h
            have hCz : Below w.heap.size w wz := by
              rw [← hwz]
              exact (HS6.out.low.setCell (p := ⟨pt, 0, none⟩) HPt.out _).setCell (p := ⟨pt, 1, none⟩) HPt.out _
            have z0 : wz.cell? ⟨pt, 0, none⟩ = some (.slice none 0 0) := Blk.cell hBz rfl
            have z1 : wz.cell? ⟨pt, 1, none⟩ = some (.int .i64 2) := Blk.cell hBz rfl
            refine bodyPost_ret (v := .agg #[.slice none 0 0, .int .i64 2]) (by simp [results, Try.results13, go_sem, z0, z1]) rfl ?_
            unfold RGetPost
            rw [HGe.out]
            exact ⟨_, rfl, OwnK.nil _ _ _, fun g hg => by simp [Value.ownBlock] at hg, hCz⟩
    · have hie : i = N := by omega
      subst hie
      have HRest := kept (krest_calls pw vw s k wp HS.out.wk hs hk)
      rw [restS_drop s k hk] at HRest
      have hg2 := HGp.out
      rw [Nat.sub_self] at hg2
      simp only [getPs, List.append_nil] at hg2
      obtain ⟨rb, hrb⟩ : ∃ rb, rb = restL ((bitsS s).drop k) := ⟨_, rfl⟩
      rw [← hrb] at HRest
      have hge : getE L s (i : Int) = if rb = true then (ps, 0) else ([], 3) := by
        unfold getE
        rw [if_pos HM.out, if_neg (by omega), Int.toNat_natCast, hg2, if_neg (by simp), ← hrb]
      clear hg2 hrb
      cases rb with
      | true =>
        have HGe : Own.Kept (getE L s (i : Int) = (ps, 0)) := kept (by rw [hge]; rfl)
        clear hge
        go_wp2_with fail
        refine HRest.out.mono ?_
        rintro e w5 ⟨rfl, hb5⟩
        have HS5 := kept (HS.out.later hb5)
        have HO5 := kept (HOw.out.later hb5)
        have c0 : w5.cell? ⟨pt, 0, none⟩ = some (.slice none 0 0) := Blk.cell HS5.out.told rfl
        have c1 : w5.cell? ⟨pt, 1, none⟩ = some (.int .i64 0) := Blk.cell HS5.out.told rfl
        have f0 : w5.frozen? ⟨pt, 0, none⟩ = false := Blk.free HS5.out.told 0
        have f1 : w5.frozen? ⟨pt, 1, none⟩ = false := Blk.free HS5.out.told 1
        clear hb5
        go_wp2_with fail
        generalize hwz : World.setCell _ _ _ = wz
        have hBz : Blk wz pt #[.slice a i cap, .int .i64 0] 34 := by
          rw [← hwz]
          have h := (HS5.out.told.set 0 (.slice a i cap)).set 1 (.int .i64 0)
          simpa using h
        have hCz : Below w.heap.size w wz := by
          rw [← hwz]
          exact (HS5.out.low.setCell (p := ⟨pt, 0, none⟩) HPt.out _).setCell (p := ⟨pt, 1, none⟩) HPt.out _
        have hOz : OwnK wz 54 2 (.slice a i cap) i (flN ps) := by
          rw [← hwz]
          exact (HO5.out.setOther (a := ⟨pt, 0, none⟩) (HO5.out.ne HS5.out.told (by decide)) _).setOther (a := ⟨pt, 1, none⟩) (HO5.out.ne HS5.out.told (by decide)) _
        have z0 : wz.cell? ⟨pt, 0, none⟩ = some (.slice a i cap) := Blk.cell hBz rfl
        have z1 : wz.cell? ⟨pt, 1, none⟩ = some (.int .i64 0) := Blk.cell hBz rfl
        refine bodyPost_ret (v := .agg #[.slice a i cap, .int .i64 0]) (by simp [results, Try.results13, go_sem, z0, z1]) rfl ?_
        unfold RGetPost
        rw [HGe.out]
        exact ⟨_, rfl, by rw [HPl.out]; exact hOz, HNw.out, hCz⟩
      | false =>
        have HGe : Own.Kept (getE L s (i : Int) = ([], 3)) := kept (by rw [hge]; rfl)
        clear hge
        go_wp2_with fail
        refine HRest.out.mono ?_
        rintro e w5 ⟨rfl, hb5⟩
        have HS5 := kept (HS.out.later hb5)
        have c0 : w5.cell? ⟨pt, 0, none⟩ = some (.slice none 0 0) := Blk.cell HS5.out.told rfl
        have c1 : w5.cell? ⟨pt, 1, none⟩ = some (.int .i64 0) := Blk.cell HS5.out.told rfl
        have f0 : w5.frozen? ⟨pt, 0, none⟩ = false := Blk.free HS5.out.told 0
        have f1 : w5.frozen? ⟨pt, 1, none⟩ = false := Blk.free HS5.out.told 1
        clear hb5
        go_wp2_with fail
        generalize hwz : World.setCell _ _ _ = wz
        have hBz : Blk wz pt #[.slice none 0 0, .int .i64 3] 34 := by
          rw [← hwz]
          have h := (HS5.out.told.set 0 (.slice none 0 0)).set 1 (.int .i64 3)
          simpa using h
        have hCz : Below w.heap.size w wz := by
          rw [← hwz]
          exact (HS5.out.low.setCell (p := ⟨pt, 0, none⟩) HPt.out _).setCell (p := ⟨pt, 1, none⟩) HPt.out _
        have z0 : wz.cell? ⟨pt, 0, none⟩ = some (.slice none 0 0) := Blk.cell hBz rfl
        have z1 : wz.cell? ⟨pt, 1, none⟩ = some (.int .i64 3) := Blk.cell hBz rfl
        refine bodyPost_ret (v := .agg #[.slice none 0 0, .int .i64 3]) (by simp [results, Try.results13, go_sem, z0, z1]) rfl ?_
        unfold RGetPost
        rw [HGe.out]
        exact ⟨_, rfl, OwnK.nil _ _ _, fun g hg => by simp [Value.ownBlock] at hg, hCz⟩
end Go.Proofs.Ytnakjencodicmaa

-- ---- PAx36
/- wringerref7.GetHuff: what the call answers. Conditions: the text is not longer than a thousand million bytes. -/
namespace Go.Proofs.Ytnakjencodicmaa.PA
set_option maxRecDepth 100000
open Go.RowKit Go.Proofs.YtnakjencodicmaaW.PrintWords Go.Proofs.YtnakjencodicmaaW.PrintLast Go.Proofs.YtnakjencodicmaaW.PrintMore
set_option linter.unusedVariables false
set_option linter.unusedSimpArgs false

def wringerref7_GetHuff.f (k : Nat) (a0 : ByteArray) (a1 : Int) (l2 : List Int) : Option ((List (S54)) × Int) := if a0.size ≤ 1000000000 then some (getPE a0 a1 l2) else none
theorem wringerref7_GetHuff.mono : ∀ a0 a1 a2 k, LeO (wringerref7_GetHuff.f k a0 a1 a2) (wringerref7_GetHuff.f (k + 1) a0 a1 a2) := fun _ _ _ _ => LeO.refl _
theorem wringerref7_GetHuff.calls (k : Nat) (a0 : ByteArray) (a1 : Int) (A2 : Option Addr) (c2 : Nat) (l2 : List Int) (r1 : List (S54)) (r2 : Int) (w : World) (hr2 : Kd.C (Kd.int .i64) w A2 l2.length l2) (hc2 : l2.length ≤ c2) (h : wringerref7_GetHuff.f k a0 a1 l2 = some (r1, r2)) :
    Calls Try.prog 13 #[.string a0, .int .i64 a1, .slice A2 l2.length c2] w fun e w' => ∃ v0_ : Value, e = .returned (.agg #[v0_, .int .i64 r2]) ∧ Kd.R k54 54 w' w.heap.size (fun _ => True) v0_ r1 ∧ Below w.heap.size w w' := by
  unfold wringerref7_GetHuff.f at h
  split at h
  · rename_i hs
    have h := Option.some.inj h
    unfold getPE at h
    obtain ⟨rfl, rfl⟩ := Prod.mk.inj h
    have key : Calls Try.prog 13 #[.string a0, .int .i64 a1, .slice A2 l2.length c2] w (RGetPost l2 a0 a1 w) := by
      cases hm : Dp.mayL l2 with
      | false => exact rhget_form A2 c2 l2 a0 a1 w hr2 hc2 hm
      | true =>
        by_cases hn : a1 < 0 ∨ 4096 < a1
        · exact rhget_arg A2 c2 l2 a0 a1 w hr2 hc2 hm hn
        · obtain ⟨N, rfl⟩ := Int.eq_ofNat_of_zero_le (show 0 ≤ a1 by omega)
          exact rhget_calls A2 c2 l2 a0 N w hr2 hc2 hm (by omega) hs
    refine key.mono ?_
    rintro e w' ⟨v, rfl, ho, hnew, hb⟩
    refine ⟨v, rfl, ?_, hb⟩
    refine Own.R_of_flat k54 (fun x => [.int .i64 x.f0, .int .u64 x.f1]) (fun ok x => k54_mkM w' w.heap.size ok x) (fun _ => rfl) ?_ hnew
    rw [List.length_map]
    have e : ((getE l2 a0 a1).1.map partS).flatMap (fun x => [Value.int .i64 x.f0, .int .u64 x.f1]) = flN (getE l2 a0 a1).1 := by
      generalize (getE l2 a0 a1).1 = ps
      unfold flN
      induction ps with
      | nil => rfl
      | cons a t ih => simp only [List.map_cons, List.flatMap_cons, ih]; rfl
    rw [e]; exact ho
  · cases h
end Go.Proofs.Ytnakjencodicmaa.PA
