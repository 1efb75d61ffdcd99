/- Part MergeFlat1 of what the layer's laws stand on: PAx24, Fl, PureMergeFlat, LawMergeFlat. Written by a program (merge.py) out of this session's own texts and of what the kit's print wrote over stand-ins (sp.py). Conditions: those that each theorem names. -/
import Derived.Test.YtejecpmfhgplmaaQB2
import Derived.Test.YtejecpmfhgplmaaQB3
import Derived.Test.YtejecpmfhgplmaaQB1
import Derived.Test.YtejecpmfhgplmaaRows
import Derived.WalkKit
import Derived.ProofKit
import Derived.OpenShut
import Derived.ShutString
import Derived.ChangeOld
import Derived.Below
import Derived.SizedLaws
-- ---- PAx24

namespace Go.Proofs.Ytejecpmfhgplmaa.PA
open Go.RowKit Go.Proofs.YtejecpmfhgplmaaW.PrintWords Go.Proofs.YtejecpmfhgplmaaW.PrintLast Go.Proofs.YtejecpmfhgplmaaW.PrintMore
attribute [local go_sem] max2_int min2_int max_two min_two max_three min_three max_four min_four   -- for this text's walks alone
set_option linter.unusedVariables false
set_option linter.unusedSimpArgs false

/-! ### wringerlaw8_MergeFlat: function 7 -/
mutual
def wringerlaw8_MergeFlat.l0 : Nat → Int → Int → Int → List Int → Int → Option (Bool)
  | 0, _, _, _, _, _ => none
  | k + 1, x1, x2, x7, x8, x9 => if 0 ≤ x7 then (if x9 < (shl .i64 1 x7) then (if 0 ≤ (Int.tmod (wrap64 (x9 + (wrap64 (x2)))) 65) then (if (Int.tmod (wrap64 (x9 + (wrap64 (x2)))) 65) < (x8.length : Int) then (wringerlaw8_MergeFlat.l0 k x1 x2 x7 (x8.set ((Int.tmod (wrap64 (x9 + (wrap64 (x2)))) 65) : Int).toNat (wrap64 (1 + (wrap64 (x1))))) (wrap64 (x9 + 1))) else (none)) else (none)) else ((merge_Lengths.f x8 7).bind fun bt185 => ((wringerlaw1_Err.f bt185.2).bind fun t189 => (if t189 = 0 then (wringerlaw8_MergeFlat.j1 k x7 x8 bt185.1 ((bt185.1.length : Int) != 65)) else (wringerlaw8_MergeFlat.j1 k x7 x8 bt185.1 true))))) else (none)
def wringerlaw8_MergeFlat.j1 : Nat → Int → List Int → List Int → Bool → Option (Bool)
  | 0, _, _, _, _ => none
  | k + 1, x7, x8, x10, x46 => if x46 = true then (some false) else (wringerlaw8_MergeFlat.l1 k x7 x8 x10 0)
def wringerlaw8_MergeFlat.l1 : Nat → Int → List Int → List Int → Int → Option (Bool)
  | 0, _, _, _, _ => none
  | k + 1, x7, x8, x10, x12 => if x12 < 65 then (if 0 ≤ x12 then (if x12 < (x8.length : Int) then (if (rd x8 x12) > 0 then (if x12 < (x10.length : Int) then (if (rd x10 x12) = x7 then (if (rd x8 x12) = 0 then (if (rd x10 x12) = 0 then (wringerlaw8_MergeFlat.l1 k x7 x8 x10 (wrap64 (x12 + 1))) else (some false)) else (wringerlaw8_MergeFlat.l1 k x7 x8 x10 (wrap64 (x12 + 1)))) else (some false)) else (none)) else (if (rd x8 x12) = 0 then (if x12 < (x10.length : Int) then (if (rd x10 x12) = 0 then (wringerlaw8_MergeFlat.l1 k x7 x8 x10 (wrap64 (x12 + 1))) else (some false)) else (none)) else (wringerlaw8_MergeFlat.l1 k x7 x8 x10 (wrap64 (x12 + 1))))) else (none)) else (none)) else ((wringerlaw8_awake.f).bind fun t196 => (some t196))
end
def wringerlaw8_MergeFlat.f (k : Nat) (a0 : Int) (a1 : Int) (a2 : Int) : Option (Bool) := if 65 ≤ 35184372088832 then (wringerlaw8_MergeFlat.l0 k a1 a2 (wrap64 (1 + (Int.tmod (wrap64 (a0)) 6))) (List.replicate 65 0) 0) else (none)
theorem wringerlaw8_MergeFlat.mono_l : ∀ k, (∀ y0 y1 y2 y3 y4, LeO (wringerlaw8_MergeFlat.l0 k y0 y1 y2 y3 y4) (wringerlaw8_MergeFlat.l0 (k + 1) y0 y1 y2 y3 y4)) ∧ (∀ y0 y1 y2 y3, LeO (wringerlaw8_MergeFlat.j1 k y0 y1 y2 y3) (wringerlaw8_MergeFlat.j1 (k + 1) y0 y1 y2 y3)) ∧ (∀ y0 y1 y2 y3, LeO (wringerlaw8_MergeFlat.l1 k y0 y1 y2 y3) (wringerlaw8_MergeFlat.l1 (k + 1) y0 y1 y2 y3))
  | 0 => ⟨fun _ _ _ _ _ r h => by simp [wringerlaw8_MergeFlat.l0] at h, fun _ _ _ _ r h => by simp [wringerlaw8_MergeFlat.j1] at h, fun _ _ _ _ r h => by simp [wringerlaw8_MergeFlat.l1] at h⟩
  | k + 1 => by
    obtain ⟨ih0, ih1, ih2⟩ := wringerlaw8_MergeFlat.mono_l k
    refine ⟨?_, ?_, ?_⟩
    · intro y0 y1 y2 y3 y4
      unfold wringerlaw8_MergeFlat.l0
      repeat' first
      | (with_reducible exact ih0 _ _ _ _ _)
      | (with_reducible exact ih1 _ _ _ _)
      | (with_reducible exact ih2 _ _ _ _)
      | (with_reducible exact LeO.refl _)
      | (with_reducible exact LeO.none _)
      | (with_reducible refine LeO.ite ?_ ?_)
      | (with_reducible refine LeO.bind ?_ (fun _ => ?_))
      | exact ih0 _ _ _ _ _
      | exact ih1 _ _ _ _
      | exact ih2 _ _ _ _
      | exact LeO.none _
      | refine LeO.ite ?_ ?_
      | refine LeO.bind ?_ (fun _ => ?_)
    · intro y0 y1 y2 y3
      unfold wringerlaw8_MergeFlat.j1
      repeat' first
      | (with_reducible exact ih0 _ _ _ _ _)
      | (with_reducible exact ih1 _ _ _ _)
      | (with_reducible exact ih2 _ _ _ _)
      | (with_reducible exact LeO.refl _)
      | (with_reducible exact LeO.none _)
      | (with_reducible refine LeO.ite ?_ ?_)
      | (with_reducible refine LeO.bind ?_ (fun _ => ?_))
      | exact ih0 _ _ _ _ _
      | exact ih1 _ _ _ _
      | exact ih2 _ _ _ _
      | exact LeO.none _
      | refine LeO.ite ?_ ?_
      | refine LeO.bind ?_ (fun _ => ?_)
    · intro y0 y1 y2 y3
      unfold wringerlaw8_MergeFlat.l1
      repeat' first
      | (with_reducible exact ih0 _ _ _ _ _)
      | (with_reducible exact ih1 _ _ _ _)
      | (with_reducible exact ih2 _ _ _ _)
      | (with_reducible exact LeO.refl _)
      | (with_reducible exact LeO.none _)
      | (with_reducible refine LeO.ite ?_ ?_)
      | (with_reducible refine LeO.bind ?_ (fun _ => ?_))
      | exact ih0 _ _ _ _ _
      | exact ih1 _ _ _ _
      | exact ih2 _ _ _ _
      | exact LeO.none _
      | refine LeO.ite ?_ ?_
      | refine LeO.bind ?_ (fun _ => ?_)
theorem wringerlaw8_MergeFlat.mono : ∀ a0 a1 a2 k, LeO (wringerlaw8_MergeFlat.f k a0 a1 a2) (wringerlaw8_MergeFlat.f (k + 1) a0 a1 a2) := by
  intro a0 a1 a2 k
  obtain ⟨ih0, ih1, ih2⟩ := wringerlaw8_MergeFlat.mono_l k
  unfold wringerlaw8_MergeFlat.f
  repeat' first
      | (with_reducible exact ih0 _ _ _ _ _)
      | (with_reducible exact ih1 _ _ _ _)
      | (with_reducible exact ih2 _ _ _ _)
      | (with_reducible exact LeO.refl _)
      | (with_reducible exact LeO.none _)
      | (with_reducible refine LeO.ite ?_ ?_)
      | (with_reducible refine LeO.bind ?_ (fun _ => ?_))
      | exact ih0 _ _ _ _ _
      | exact ih1 _ _ _ _
      | exact ih2 _ _ _ _
      | exact LeO.none _
      | refine LeO.ite ?_ ?_
      | refine LeO.bind ?_ (fun _ => ?_)
set_option maxHeartbeats 8000000 in
set_option maxRecDepth 100000 in
theorem wringerlaw8_MergeFlat.calls (k : Nat) (a0 : Int) (a1 : Int) (a2 : Int) (r : Bool) (w : World) (h : wringerlaw8_MergeFlat.f k a0 a1 a2 = some r) :
    Calls Try.prog 7 #[.int .u8 a0, .int .u16 a1, .int .u8 a2] w fun e w' => e = .returned (.bool r) ∧ Below w.heap.size w w' := by
  have HB := Aside0.mk (Below.refl w.heap.size w)
  have H : (if 65 ≤ 35184372088832 then (wringerlaw8_MergeFlat.l0 k a1 a2 (wrap64 (1 + (Int.tmod (wrap64 (a0)) 6))) (List.replicate 65 0) 0) else (none)) = some r := h
  clear h
  by_cases c4 : 65 ≤ 35184372088832
  · rw [if_pos c4] at H
    have c4b0 := eq_true c4
    have c4b1 : decide (65 ≤ 35184372088832) = true := decide_eq_true c4
    clear c4
    obtain ⟨y181, hy181⟩ : ∃ y_ : List Int, y_ = (List.replicate 65 0) := ⟨_, rfl⟩
    replace H : (wringerlaw8_MergeFlat.l0 k a1 a2 (wrap64 (1 + (Int.tmod (wrap64 (a0)) 6))) y181 0) = some r := by first | (rw [hy181]; with_reducible exact H) | (have H2_ := (Option.bind_some _ _).symm.trans H; rw [hy181]; with_reducible exact H2_) | (have H2_ := (Option.bind_some _ _).symm.trans H; with_reducible exact H2_) | with_reducible exact H | (rw [hy181]; exact H) | exact H
    have Ny181 := Aside0.mk hy181
    clear hy181
    have H' := Aside0.mk H
    clear H
    go_enter Try.func7, Try.ntmps7
    go_wp2_with (first | ((with_reducible refine gate_dst (N := 17) rfl ?_); (try (refine gate_guard (by rfl) ?_; dsimp only)); refine Kd.R_make (Kd.int .i64) _ 3 rfl (N := 17) rfl 22 _ _ rfl 65 rfl rfl Try.underlying22 (.int .i64 0) 8 info3 rfl (by decide) (by omega) 0 (ok := fun _ => True) (okp := fun _ => True) rfl (fun _ hk => hk) trivial (by omega) (by omega) (Below.refl _ _) (Nat.le_refl _) ?_; intro v182 w5 ho6 hb hg_ hnew_; clear hg_ hnew_; (first | rw [← Ny181.out] at ho6 | (simp only [Int.reduceToNat] at ho6; rw [← Ny181.out] at ho6)); have n0_ := Aside0.mk (Kd.R_lower ho6 (below_size (by repeat (first | (with_reducible first | exact HB.out | apply below_alloc | apply pw_below_drewN | apply below_drew1) | exact HB.out)))); have n1_ := Aside0.mk (below_step (by repeat (first | (with_reducible first | exact HB.out | apply below_alloc | apply pw_below_drewN | apply below_drew1) | exact HB.out)) hb); clear HB; have HO183 := n0_; have HB := n1_; clear n0_ n1_; clear hb ho6))
    go_loopg [9] k (fun kq v9 w' => ∃ (x8_1 : List Int) (x9_1 : Int), v9 = .int .i64 x9_1 ∧ Aside0 (wringerlaw8_MergeFlat.l0 kq a1 a2 (wrap64 (1 + (Int.tmod (wrap64 (a0)) 6))) x8_1 x9_1 = some r) ∧ Aside0 (kq ≤ k) ∧ Aside0 (Kd.R (Kd.int .i64) 3 w' w.heap.size (fun _ => True) v182 x8_1) ∧ Aside0 (Below w.heap.size w w'))
    case atStart => exact ⟨(y181), (0), (by first | rfl | (simp; done) | (simp [*]; done)), H', ⟨Nat.le_refl _⟩, ⟨by (with_reducible repeat (first | apply Kd.R_alloc | apply Kd.R_drewN | apply Kd.R_drew)); exact HO183.out⟩, ⟨by repeat (first | (with_reducible first | exact HB.out | apply below_alloc | apply pw_below_drewN | apply below_drew1) | exact HB.out)⟩⟩
    case round =>
      clear H'
      try clear p2
      try clear c4
      try clear c4b0
      try clear c4b1
      try clear p6
      obtain ⟨x8_1, x9_1, rfl, HA, HK1, HO_8, HB⟩ := hrel
      cases gk with
      | zero => exact absurd HA.out (by simp [wringerlaw8_MergeFlat.l0])
      | succ k1 =>
        have H := HA.out
        clear HA
        simp only [wringerlaw8_MergeFlat.l0] at H
        obtain ⟨ji7, hji7⟩ : ∃ j_ : Int, (wrap64 (1 + (Int.tmod (wrap64 (a0)) 6))) = j_ := ⟨_, rfl⟩
        replace H : (if 0 ≤ (ji7) then (if x9_1 < (shl .i64 1 (ji7)) then (if 0 ≤ (Int.tmod (wrap64 (x9_1 + (wrap64 (a2)))) 65) then (if (Int.tmod (wrap64 (x9_1 + (wrap64 (a2)))) 65) < (x8_1.length : Int) then (wringerlaw8_MergeFlat.l0 k1 a1 a2 (ji7) (x8_1.set ((Int.tmod (wrap64 (x9_1 + (wrap64 (a2)))) 65) : Int).toNat (wrap64 (1 + (wrap64 (a1))))) (wrap64 (x9_1 + 1))) else (none)) else (none)) else ((merge_Lengths.f x8_1 7).bind fun bt185 => ((wringerlaw1_Err.f bt185.2).bind fun t189 => (if t189 = 0 then (wringerlaw8_MergeFlat.j1 k1 (ji7) x8_1 bt185.1 ((bt185.1.length : Int) != 65)) else (wringerlaw8_MergeFlat.j1 k1 (ji7) x8_1 bt185.1 true))))) else (none)) = some r := by first | (rw [hji7] at H; exact H) | (simp only [hji7] at H ⊢; exact H)
        have hji7w : (IntKind.i64.wrap (1 + (Int.tmod (wrap64 (a0)) 6))) = ji7 := (i64_w _).trans hji7
        by_cases c8 : 0 ≤ (ji7)
        · rw [if_pos c8] at H
          have c8b0 := eq_true c8
          have c8b1 : decide (0 ≤ (ji7)) = true := decide_eq_true c8
          clear c8
          obtain ⟨ji9, hji9⟩ : ∃ j_ : Int, (shl .i64 1 (ji7)) = j_ := ⟨_, rfl⟩
          replace H : (if x9_1 < (ji9) then (if 0 ≤ (Int.tmod (wrap64 (x9_1 + (wrap64 (a2)))) 65) then (if (Int.tmod (wrap64 (x9_1 + (wrap64 (a2)))) 65) < (x8_1.length : Int) then (wringerlaw8_MergeFlat.l0 k1 a1 a2 (ji7) (x8_1.set ((Int.tmod (wrap64 (x9_1 + (wrap64 (a2)))) 65) : Int).toNat (wrap64 (1 + (wrap64 (a1))))) (wrap64 (x9_1 + 1))) else (none)) else (none)) else ((merge_Lengths.f x8_1 7).bind fun bt185 => ((wringerlaw1_Err.f bt185.2).bind fun t189 => (if t189 = 0 then (wringerlaw8_MergeFlat.j1 k1 (ji7) x8_1 bt185.1 ((bt185.1.length : Int) != 65)) else (wringerlaw8_MergeFlat.j1 k1 (ji7) x8_1 bt185.1 true))))) = some r := by first | (rw [hji9] at H; exact H) | (simp only [hji9] at H ⊢; exact H)
          have hji9_ : (IntKind.i64.wrap (1 * 2 ^ min (ji7).toNat 64)) = ji9 := hji9
          have hji9z : (ji7) ≤ 64 → (IntKind.i64.wrap (1 * 2 ^ (ji7).toNat)) = ji9 := shl_small hji9
          have hji9u : (IntKind.i64.wrap (2 ^ min (ji7).toNat 64)) = ji9 := by have h_ := hji9_; rw [Int.one_mul] at h_; exact h_
          have hji9v : (ji7) ≤ 64 → (IntKind.i64.wrap (2 ^ (ji7).toNat)) = ji9 := fun hle_ => by have h_ := hji9z hle_; rw [Int.one_mul] at h_; exact h_
          have hji9y : (wrap64 (1 * 2 ^ min (ji7).toNat 64)) = ji9 := (i64_w _).symm.trans hji9_
          have hji9x : (ji7) ≤ 64 → (wrap64 (1 * 2 ^ (ji7).toNat)) = ji9 := fun h_ => (i64_w _).symm.trans (hji9z h_)
          by_cases c10 : x9_1 < (ji9)
          · rw [if_pos c10] at H
            have c10b0 : decide (x9_1 < (ji9)) = true := decide_eq_true c10
            clear c10
            obtain ⟨ji11, hji11⟩ : ∃ j_ : Int, (Int.tmod (wrap64 (x9_1 + (wrap64 (a2)))) 65) = j_ := ⟨_, rfl⟩
            replace H : (if 0 ≤ (ji11) then (if (ji11) < (x8_1.length : Int) then (wringerlaw8_MergeFlat.l0 k1 a1 a2 (ji7) (x8_1.set ((ji11) : Int).toNat (wrap64 (1 + (wrap64 (a1))))) (wrap64 (x9_1 + 1))) else (none)) else (none)) = some r := by first | (rw [hji11] at H; exact H) | (simp only [hji11] at H ⊢; exact H)
            by_cases c12 : 0 ≤ (ji11)
            · rw [if_pos c12] at H
              have c12b0 : decide (0 ≤ (ji11)) = true := decide_eq_true c12
              clear c12
              by_cases c13 : (ji11) < (x8_1.length : Int)
              · rw [if_pos c13] at H
                have c13b0 : decide ((ji11) < (x8_1.length : Int)) = true := decide_eq_true c13
                clear c13
                obtain ⟨y184, hy184⟩ : ∃ y_ : List Int, y_ = (x8_1.set ((ji11) : Int).toNat (wrap64 (1 + (wrap64 (a1))))) := ⟨_, rfl⟩
                replace H : (wringerlaw8_MergeFlat.l0 k1 a1 a2 (ji7) y184 (wrap64 (x9_1 + 1))) = some r := by first | (rw [hy184]; with_reducible exact H) | (have H2_ := (Option.bind_some _ _).symm.trans H; rw [hy184]; with_reducible exact H2_) | (have H2_ := (Option.bind_some _ _).symm.trans H; with_reducible exact H2_) | with_reducible exact H | (rw [hy184]; exact H) | exact H
                have Ny184 := Aside0.mk hy184
                clear hy184
                have H' := Aside0.mk H
                clear H
                have p14 : 0 ≤ ((ji11) : Int) := of_decide_eq_true (by first | (with_reducible assumption) | assumption)
                have q14 : ((ji11) : Int) < ((x8_1.length : Int) : Int) := of_decide_eq_true (by first | (with_reducible assumption) | assumption)
                obtain ⟨go14, co14, eo14, gb14, gl14, cl14, HG14⟩ := Kd.R_form HO_8.out (by omega)
                (first | cases eo14 | (injection eo14 with ea_ en_ ec_; (first | subst ea_ | (injection ea_ with ea_; subst ea_)); subst ec_; clear en_))
                have GB14 := Aside0.mk gb14
                have GG14 := Aside0.mk HG14
                clear gb14 gl14 HG14
                obtain ⟨hx14_0, hf14_0⟩ := Kd.R_celln 0 HO_8.out ((ji11) : Int) p14 q14
                replace p14 := eq_true p14
                replace q14 := eq_true q14
                have HP15 := Kd.R_putg HO_8.out ((ji11) : Int) (wrap64 (1 + (wrap64 (a1))))
                go_wp2_with (first | ((with_reducible refine gate_store (t := 3) (p := 33) rfl ?_); refine store_event (t := 3) (p := 33) (v := ?vo_w16) (w1 := (wr.setCell ⟨go14, ((ji11) : Int).toNat, none⟩ (.int .i64 (wrap64 (1 + (wrap64 (a1))))))) ?hg ?ho ?hn ?hr ?_; (case ho => rfl); (case hg => rfl); (case hn => rfl); (case hr => first | (go_simp; done) | (go_simp; rfl)); intro w16 hw; have hg : wr.grownBy w16 (some go14) := (by rw [hw]; exact HP15.2); have hp_ : Kd.R (Kd.int .i64) 3 w16 w.heap.size (fun _ => True) (.slice (some ⟨go14, 0, none⟩) x8_1.length co14) y184 := (by rw [hw, Ny184.out]; exact HP15.1); clear HP15; have n0_ := Aside0.mk (hp_); have n1_ := Aside0.mk ((by rw [hw]; exact below_set (HB.out) GB14.out : Below w.heap.size w w16)); clear HO_8; clear HB; have HO_8 := n0_; have HB := n1_; clear n0_ n1_; clear hg hw hp_))
                try subst hji7
                try subst hji9
                try subst hji11
                go_roundg k1
                case measure => have := HK1.out; omega
                case rel => exact ⟨(y184), (wrap64 (x9_1 + 1)), (by first | rfl | (simp; done) | (simp [*]; done)), H', ⟨by have := HK1.out; omega⟩, ⟨by (with_reducible repeat (first | apply Kd.R_alloc | apply Kd.R_drewN | apply Kd.R_drew)); exact HO_8.out⟩, ⟨by repeat (first | (with_reducible first | exact HB.out | apply below_alloc | apply pw_below_drewN | apply below_drew1) | exact HB.out)⟩⟩
              · rw [if_neg c13] at H
                exact absurd H (by simp)
            · rw [if_neg c12] at H
              exact absurd H (by simp)
          · rw [if_neg c10] at H
            have c10b0 : decide (x9_1 < (ji9)) = false := decide_eq_false c10
            clear c10
            replace H := Option.bind_eq_some_iff.mp H
            obtain ⟨⟨t185, t186⟩, A170, H⟩ := H
            replace H : ((wringerlaw1_Err.f t186).bind fun t189 => (if t189 = 0 then (wringerlaw8_MergeFlat.j1 k1 (ji7) x8_1 t185 ((t185.length : Int) != 65)) else (wringerlaw8_MergeFlat.j1 k1 (ji7) x8_1 t185 true))) = some r := H
            have A17 := Aside0.mk A170
            clear A170
            have HC18 := Aside0.mk H
            clear H
            obtain ⟨Ao19, co19, eo19⟩ := Kd.R_slice HO_8.out
            subst eo19
            go_upto_region 8 with (first | ((with_reducible refine gate_callee (f := 11) rfl ?_); refine goesL_ (some 36) rfl rfl Try.func11 (by kernel_rfl) rfl #[.slice Ao19 x8_1.length co19, .int .i64 7] rfl (by (try simp only [List.map_toArray, List.map_cons, List.map_nil]); first | done | rfl | (simp only [List.length_drop, List.length_take]; rfl)) ?_; (with_reducible refine (merge_Lengths.calls _ _ x8_1 7 t185 t186 _ ?side1 ?side2 A17.out).mono ?_); (case side1 => repeat (first | exact (Kd.R_reads' HO_8.out).2.2 | (with_reducible refine Kd.C_alloc ?_ _) | (with_reducible refine Kd.C_drewN ?_ _) | (with_reducible refine Kd.C_drew ?_))); (case side2 => exact (Kd.R_reads' HO_8.out).2.1); rintro e w20 ⟨v187, rfl, ho0, hb⟩; refine ⟨_, rfl, ?_⟩; have n0_ := Aside0.mk (Kd.R_elder' (by (with_reducible repeat (first | apply Kd.R_alloc | apply Kd.R_drewN | apply Kd.R_drew)); exact HO_8.out) (Kd.R_base ho0) hb); have n1_ := Aside0.mk (Kd.R_lower (Kd.R_new' ho0 (Kd.R_lt (by (with_reducible repeat (first | apply Kd.R_alloc | apply Kd.R_drewN | apply Kd.R_drew)); exact HO_8.out))) (below_size (by repeat (first | (with_reducible first | exact HB.out | apply below_alloc | apply pw_below_drewN | apply below_drew1) | exact HB.out)))); have n2_ := Aside0.mk (below_step (by repeat (first | (with_reducible first | exact HB.out | apply below_alloc | apply pw_below_drewN | apply below_drew1) | exact HB.out)) hb); clear HO_8; clear HB; have HO_8 := n0_; have HO188 := n1_; have HB := n2_; clear n0_ n1_ n2_; (try clear hb); (try clear hb2); (try clear hk); (try clear hi); (try clear ho0)))
            (try simp only [Act.put, List.setIfInBounds_toArray, List.set_cons_zero, List.set_cons_succ])
            go_cut [46] (fun v46 wc => ∃ (kq : Nat) (x46_17 : Bool), v46 = .bool x46_17 ∧ Aside0 (wringerlaw8_MergeFlat.j1 kq (ji7) x8_1 t185 x46_17 = some r) ∧ Aside0 (kq ≤ k1) ∧ Aside0 (Kd.R (Kd.int .i64) 3 wc w.heap.size (fun k_ => some k_ ≠ (v187 : Value).ownBlock) (.slice Ao19 x8_1.length co19) x8_1) ∧ Aside0 (Kd.R (Kd.int .i64) 3 wc w.heap.size (fun k_ => some k_ ≠ ((.slice Ao19 x8_1.length co19) : Value).ownBlock) v187 t185) ∧ Aside0 (Below w.heap.size w wc))
            case first =>
              have H := HC18.out
              clear HC18
              replace H := Option.bind_eq_some_iff.mp H
              obtain ⟨t189, A210, H⟩ := H
              replace H : (if t189 = 0 then (wringerlaw8_MergeFlat.j1 k1 (ji7) x8_1 t185 ((t185.length : Int) != 65)) else (wringerlaw8_MergeFlat.j1 k1 (ji7) x8_1 t185 true)) = some r := H
              have A21 := Aside0.mk A210
              clear A210
              by_cases c22 : t189 = 0
              · rw [if_pos c22] at H
                have c22b0 : (t189 == 0) = true := beq_iff_eq.mpr c22
                have c22b1 : (t189 != 0) = false := bne_eq_false_iff_eq.mpr c22
                clear c22
                (first | rw [c22b0] | (simp only [i64_w, i32_w]; rw [c22b0]) | skip)
                have H' := Aside0.mk H
                clear H
                go_wp2_with (first | ((with_reducible refine gate_callee (f := 14) rfl ?_); refine goesL_ (some 40) rfl rfl Try.func14 (by kernel_rfl) rfl #[.int .i64 t186] rfl (by (try simp only [List.map_toArray, List.map_cons, List.map_nil]); first | done | rfl | (simp only [List.length_drop, List.length_take]; rfl)) ?_; (with_reducible refine (wringerlaw1_Err.calls t186 t189 _ A21.out).mono ?_); rintro e w' ⟨rfl, ⟨nd, rfl⟩⟩; refine ⟨_, rfl, ?_⟩; obtain ⟨Ao23, co23, eo23⟩ := Kd.R_slice HO188.out; subst eo23))
                go_meet
                case rel => exact ⟨_, (((t185.length : Int) != 65)), (by first | rfl | (simp; done) | (simp [*]; done)), H', ⟨by have := HK1.out; first | omega | exact Nat.le_refl _⟩, ⟨by (with_reducible repeat (first | apply Kd.R_alloc | apply Kd.R_drewN | apply Kd.R_drew)); exact Kd.R_mono HO_8.out (fun _ hk => hk.2)⟩, ⟨by (with_reducible repeat (first | apply Kd.R_alloc | apply Kd.R_drewN | apply Kd.R_drew)); exact Kd.R_mono HO188.out (fun _ hk => hk.2)⟩, ⟨by repeat (first | (with_reducible first | exact HB.out | apply below_alloc | apply pw_below_drewN | apply below_drew1) | exact HB.out)⟩⟩
              · rw [if_neg c22] at H
                have c22b0 : (t189 == 0) = false := beq_eq_false_iff_ne.mpr c22
                have c22b1 : (t189 != 0) = true := bne_iff_ne.mpr c22
                (first | rw [c22b0] | (simp only [i64_w, i32_w]; rw [c22b0]) | skip)
                have H' := Aside0.mk H
                clear H
                go_wp2_with (first | ((with_reducible refine gate_callee (f := 14) rfl ?_); refine goesL_ (some 40) rfl rfl Try.func14 (by kernel_rfl) rfl #[.int .i64 t186] rfl (by (try simp only [List.map_toArray, List.map_cons, List.map_nil]); first | done | rfl | (simp only [List.length_drop, List.length_take]; rfl)) ?_; (with_reducible refine (wringerlaw1_Err.calls t186 t189 _ A21.out).mono ?_); rintro e w' ⟨rfl, ⟨nd, rfl⟩⟩; refine ⟨_, rfl, ?_⟩))
                go_meet
                case rel => exact ⟨_, (true), (by first | rfl | (simp; done) | (simp [*]; done)), H', ⟨by have := HK1.out; first | omega | exact Nat.le_refl _⟩, ⟨by (with_reducible repeat (first | apply Kd.R_alloc | apply Kd.R_drewN | apply Kd.R_drew)); exact Kd.R_mono HO_8.out (fun _ hk => hk.2)⟩, ⟨by (with_reducible repeat (first | apply Kd.R_alloc | apply Kd.R_drewN | apply Kd.R_drew)); exact Kd.R_mono HO188.out (fun _ hk => hk.2)⟩, ⟨by repeat (first | (with_reducible first | exact HB.out | apply below_alloc | apply pw_below_drewN | apply below_drew1) | exact HB.out)⟩⟩
            case rest =>
              clear HC18
              try clear c1
              try clear p1
              try clear q1
              try clear hx1
              try clear c2
              try clear p2
              try clear c4
              try clear c4b0
              try clear c4b1
              try clear p6
              try clear c7
              try clear c8
              try clear c8b0
              try clear c8b1
              try clear c10
              try clear c10b0
              try clear c11
              try clear c12
              try clear c12b0
              try clear c13
              try clear c13b0
              try clear c14
              try clear p14
              try clear q14
              try clear hx14
              try clear hf14
              try clear c22
              try clear c22b0
              try clear c22b1
              try clear hx14_0
              try clear p14
              try clear p2
              try clear p6
              try clear q14
              obtain ⟨kq, x46_17, rfl, HA, HJ17, HO_8, HO_10, HB⟩ := hcut
              cases kq with
              | zero => exact absurd HA.out (by simp [wringerlaw8_MergeFlat.j1])
              | succ kj17 =>
                have H := HA.out
                clear HA
                simp only [wringerlaw8_MergeFlat.j1] at H
                by_cases c24 : x46_17 = true
                · subst c24
                  have H1 : (some false) = some r := by rw [if_pos rfl] at H; exact H
                  clear H
                  have H := H1
                  clear H1
                  obtain rfl := Option.some.inj H
                  go_wp2
                  go_ret
                  exact ⟨by first | rfl | (simp [errW_none, errW_some] <;> rfl) | (simp only [← hji7, ← hji9]; first | rfl | (simp [errW_none, errW_some] <;> rfl)) | (simp [*, errW_none, errW_some] <;> rfl), by repeat (first | (with_reducible first | exact HB.out | apply below_alloc | apply pw_below_drewN | apply below_drew1) | exact HB.out)⟩
                · replace c24 := Bool.eq_false_iff.mpr c24
                  subst c24
                  have H1 : (wringerlaw8_MergeFlat.l1 kj17 (ji7) x8_1 t185 0) = some r := by rw [if_neg (show ¬ (false = true) by decide)] at H; exact H
                  clear H
                  have H := H1
                  clear H1
                  have H' := Aside0.mk H
                  clear H
                  go_wp2
                  go_loopg [12] kj17 (fun kq v12 w' => ∃ (x12_3 : Int), v12 = .int .i64 x12_3 ∧ Aside0 (wringerlaw8_MergeFlat.l1 kq (ji7) x8_1 t185 x12_3 = some r) ∧ Aside0 (kq ≤ kj17) ∧ Aside0 (Kd.R (Kd.int .i64) 3 w' w.heap.size (fun k_ => some k_ ≠ (v187 : Value).ownBlock) (.slice Ao19 x8_1.length co19) x8_1) ∧ Aside0 (Kd.R (Kd.int .i64) 3 w' w.heap.size (fun k_ => some k_ ≠ ((.slice Ao19 x8_1.length co19) : Value).ownBlock) v187 t185) ∧ Aside0 (Below w.heap.size w w'))
                  case atStart => exact ⟨(0), (by first | rfl | (simp; done) | (simp [*]; done)), H', ⟨Nat.le_refl _⟩, ⟨by (with_reducible repeat (first | apply Kd.R_alloc | apply Kd.R_drewN | apply Kd.R_drew)); exact HO_8.out⟩, ⟨by (with_reducible repeat (first | apply Kd.R_alloc | apply Kd.R_drewN | apply Kd.R_drew)); exact HO_10.out⟩, ⟨by repeat (first | (with_reducible first | exact HB.out | apply below_alloc | apply pw_below_drewN | apply below_drew1) | exact HB.out)⟩⟩
                  case round =>
                    clear H'
                    try clear c1
                    try clear p1
                    try clear q1
                    try clear hx1
                    try clear c2
                    try clear p2
                    try clear c4
                    try clear c4b0
                    try clear c4b1
                    try clear p6
                    try clear c7
                    try clear c8
                    try clear c8b0
                    try clear c8b1
                    try clear c10
                    try clear c10b0
                    try clear c11
                    try clear c12
                    try clear c12b0
                    try clear c13
                    try clear c13b0
                    try clear c14
                    try clear p14
                    try clear q14
                    try clear hx14
                    try clear hf14
                    try clear c22
                    try clear c22b0
                    try clear c22b1
                    try clear c24
                    try clear hx14_0
                    try clear p1
                    try clear p14
                    try clear p2
                    try clear p6
                    try clear q1
                    try clear q14
                    obtain ⟨x12_3, rfl, HA, HK3, HO_8, HO_10, HB⟩ := hrel
                    cases gk with
                    | zero => exact absurd HA.out (by simp [wringerlaw8_MergeFlat.l1])
                    | succ k3 =>
                      have H := HA.out
                      clear HA
                      simp only [wringerlaw8_MergeFlat.l1] at H
                      by_cases c25 : x12_3 < 65
                      · rw [if_pos c25] at H
                        have c25b0 : decide (x12_3 < 65) = true := decide_eq_true c25
                        clear c25
                        by_cases c26 : 0 ≤ x12_3
                        · rw [if_pos c26] at H
                          have c26b0 : decide (0 ≤ x12_3) = true := decide_eq_true c26
                          clear c26
                          by_cases c27 : x12_3 < (x8_1.length : Int)
                          · rw [if_pos c27] at H
                            have c27b0 : decide (x12_3 < (x8_1.length : Int)) = true := decide_eq_true c27
                            clear c27
                            by_cases c28 : (rd x8_1 x12_3) > 0
                            · rw [if_pos c28] at H
                              have c28b0 : decide (0 < (rd x8_1 x12_3)) = true := decide_eq_true c28
                              clear c28
                              by_cases c29 : x12_3 < (t185.length : Int)
                              · rw [if_pos c29] at H
                                have c29b0 : decide (x12_3 < (t185.length : Int)) = true := decide_eq_true c29
                                clear c29
                                by_cases c30 : (rd t185 x12_3) = (ji7)
                                · rw [if_pos c30] at H
                                  have c30b0 : ((rd t185 x12_3) == (ji7)) = true := beq_iff_eq.mpr c30
                                  have c30b1 : ((rd t185 x12_3) != (ji7)) = false := bne_eq_false_iff_eq.mpr c30
                                  clear c30
                                  by_cases c31 : (rd x8_1 x12_3) = 0
                                  · rw [if_pos c31] at H
                                    have c31b0 : ((rd x8_1 x12_3) == 0) = true := beq_iff_eq.mpr c31
                                    have c31b1 : ((rd x8_1 x12_3) != 0) = false := bne_eq_false_iff_eq.mpr c31
                                    clear c31
                                    by_cases c32 : (rd t185 x12_3) = 0
                                    · rw [if_pos c32] at H
                                      have c32b0 : ((rd t185 x12_3) == 0) = true := beq_iff_eq.mpr c32
                                      have c32b1 : ((rd t185 x12_3) != 0) = false := bne_eq_false_iff_eq.mpr c32
                                      clear c32
                                      have H' := Aside0.mk H
                                      clear H
                                      have p190 : 0 ≤ (x12_3 : Int) := of_decide_eq_true (by first | (with_reducible assumption) | assumption)
                                      have q190 : x12_3 < (x8_1.length : Int) := of_decide_eq_true (by first | (with_reducible assumption) | assumption)
                                      obtain ⟨ad190, e190, hx190_0⟩ := Kd.at_int (Kd.R_reads' HO_8.out).2.2 x12_3 p190 q190
                                      cases e190
                                      replace p190 := eq_true p190
                                      replace q190 := eq_true q190
                                      obtain ⟨Ao33, co33, eo33⟩ := Kd.R_slice HO_10.out
                                      subst eo33
                                      have p191 : 0 ≤ (x12_3 : Int) := of_decide_eq_true (by first | (with_reducible assumption) | assumption)
                                      have q191 : x12_3 < (t185.length : Int) := of_decide_eq_true (by first | (with_reducible assumption) | assumption)
                                      obtain ⟨ad191, e191, hx191_0⟩ := Kd.at_int (Kd.R_reads' HO_10.out).2.2 x12_3 p191 q191
                                      cases e191
                                      replace p191 := eq_true p191
                                      replace q191 := eq_true q191
                                      have p192 : 0 ≤ (x12_3 : Int) := of_decide_eq_true (by first | (with_reducible assumption) | assumption)
                                      have q192 : x12_3 < (x8_1.length : Int) := of_decide_eq_true (by first | (with_reducible assumption) | assumption)
                                      obtain ⟨ad192, e192, hx192_0⟩ := Kd.at_int (Kd.R_reads' HO_8.out).2.2 x12_3 p192 q192
                                      obtain rfl : ad190 = ad192 := (by injection e192)
                                      replace p192 := eq_true p192
                                      replace q192 := eq_true q192
                                      have p193 : 0 ≤ (x12_3 : Int) := of_decide_eq_true (by first | (with_reducible assumption) | assumption)
                                      have q193 : x12_3 < (t185.length : Int) := of_decide_eq_true (by first | (with_reducible assumption) | assumption)
                                      obtain ⟨ad193, e193, hx193_0⟩ := Kd.at_int (Kd.R_reads' HO_10.out).2.2 x12_3 p193 q193
                                      obtain rfl : ad191 = ad193 := (by injection e193)
                                      replace p193 := eq_true p193
                                      replace q193 := eq_true q193
                                      go_wp2
                                      try subst hji7
                                      try subst hji9
                                      go_roundg k3
                                      case measure => have := HK1.out; have := HJ17.out; have := HK3.out; omega
                                      case rel => exact ⟨(wrap64 (x12_3 + 1)), (by first | rfl | (simp; done) | (simp [*]; done)), H', ⟨by have := HK1.out; have := HJ17.out; have := HK3.out; omega⟩, ⟨by (with_reducible repeat (first | apply Kd.R_alloc | apply Kd.R_drewN | apply Kd.R_drew)); exact HO_8.out⟩, ⟨by (with_reducible repeat (first | apply Kd.R_alloc | apply Kd.R_drewN | apply Kd.R_drew)); exact HO_10.out⟩, ⟨by repeat (first | (with_reducible first | exact HB.out | apply below_alloc | apply pw_below_drewN | apply below_drew1) | exact HB.out)⟩⟩
                                    · rw [if_neg c32] at H
                                      have c32b0 : ((rd t185 x12_3) == 0) = false := beq_eq_false_iff_ne.mpr c32
                                      have c32b1 : ((rd t185 x12_3) != 0) = true := bne_iff_ne.mpr c32
                                      obtain rfl := Option.some.inj H
                                      have p190 : 0 ≤ (x12_3 : Int) := of_decide_eq_true (by first | (with_reducible assumption) | assumption)
                                      have q190 : x12_3 < (x8_1.length : Int) := of_decide_eq_true (by first | (with_reducible assumption) | assumption)
                                      obtain ⟨ad190, e190, hx190_0⟩ := Kd.at_int (Kd.R_reads' HO_8.out).2.2 x12_3 p190 q190
                                      cases e190
                                      replace p190 := eq_true p190
                                      replace q190 := eq_true q190
                                      obtain ⟨Ao34, co34, eo34⟩ := Kd.R_slice HO_10.out
                                      subst eo34
                                      have p191 : 0 ≤ (x12_3 : Int) := of_decide_eq_true (by first | (with_reducible assumption) | assumption)
                                      have q191 : x12_3 < (t185.length : Int) := of_decide_eq_true (by first | (with_reducible assumption) | assumption)
                                      obtain ⟨ad191, e191, hx191_0⟩ := Kd.at_int (Kd.R_reads' HO_10.out).2.2 x12_3 p191 q191
                                      cases e191
                                      replace p191 := eq_true p191
                                      replace q191 := eq_true q191
                                      have p192 : 0 ≤ (x12_3 : Int) := of_decide_eq_true (by first | (with_reducible assumption) | assumption)
                                      have q192 : x12_3 < (x8_1.length : Int) := of_decide_eq_true (by first | (with_reducible assumption) | assumption)
                                      obtain ⟨ad192, e192, hx192_0⟩ := Kd.at_int (Kd.R_reads' HO_8.out).2.2 x12_3 p192 q192
                                      obtain rfl : ad190 = ad192 := (by injection e192)
                                      replace p192 := eq_true p192
                                      replace q192 := eq_true q192
                                      have p193 : 0 ≤ (x12_3 : Int) := of_decide_eq_true (by first | (with_reducible assumption) | assumption)
                                      have q193 : x12_3 < (t185.length : Int) := of_decide_eq_true (by first | (with_reducible assumption) | assumption)
                                      obtain ⟨ad193, e193, hx193_0⟩ := Kd.at_int (Kd.R_reads' HO_10.out).2.2 x12_3 p193 q193
                                      obtain rfl : ad191 = ad193 := (by injection e193)
                                      replace p193 := eq_true p193
                                      replace q193 := eq_true q193
                                      go_wp2
                                      go_ret
                                      exact ⟨by first | rfl | (simp [errW_none, errW_some] <;> rfl) | (simp only [← hji7, ← hji9]; first | rfl | (simp [errW_none, errW_some] <;> rfl)) | (simp [*, errW_none, errW_some] <;> rfl), by repeat (first | (with_reducible first | exact HB.out | apply below_alloc | apply pw_below_drewN | apply below_drew1) | exact HB.out)⟩
                                  · rw [if_neg c31] at H
                                    have c31b0 : ((rd x8_1 x12_3) == 0) = false := beq_eq_false_iff_ne.mpr c31
                                    have c31b1 : ((rd x8_1 x12_3) != 0) = true := bne_iff_ne.mpr c31
                                    have H' := Aside0.mk H
                                    clear H
                                    have p190 : 0 ≤ (x12_3 : Int) := of_decide_eq_true (by first | (with_reducible assumption) | assumption)
                                    have q190 : x12_3 < (x8_1.length : Int) := of_decide_eq_true (by first | (with_reducible assumption) | assumption)
                                    obtain ⟨ad190, e190, hx190_0⟩ := Kd.at_int (Kd.R_reads' HO_8.out).2.2 x12_3 p190 q190
                                    cases e190
                                    replace p190 := eq_true p190
                                    replace q190 := eq_true q190
                                    obtain ⟨Ao35, co35, eo35⟩ := Kd.R_slice HO_10.out
                                    subst eo35
                                    have p191 : 0 ≤ (x12_3 : Int) := of_decide_eq_true (by first | (with_reducible assumption) | assumption)
                                    have q191 : x12_3 < (t185.length : Int) := of_decide_eq_true (by first | (with_reducible assumption) | assumption)
                                    obtain ⟨ad191, e191, hx191_0⟩ := Kd.at_int (Kd.R_reads' HO_10.out).2.2 x12_3 p191 q191
                                    cases e191
                                    replace p191 := eq_true p191
                                    replace q191 := eq_true q191
                                    have p192 : 0 ≤ (x12_3 : Int) := of_decide_eq_true (by first | (with_reducible assumption) | assumption)
                                    have q192 : x12_3 < (x8_1.length : Int) := of_decide_eq_true (by first | (with_reducible assumption) | assumption)
                                    obtain ⟨ad192, e192, hx192_0⟩ := Kd.at_int (Kd.R_reads' HO_8.out).2.2 x12_3 p192 q192
                                    obtain rfl : ad190 = ad192 := (by injection e192)
                                    replace p192 := eq_true p192
                                    replace q192 := eq_true q192
                                    go_wp2
                                    try subst hji7
                                    try subst hji9
                                    go_roundg k3
                                    case measure => have := HK1.out; have := HJ17.out; have := HK3.out; omega
                                    case rel => exact ⟨(wrap64 (x12_3 + 1)), (by first | rfl | (simp; done) | (simp [*]; done)), H', ⟨by have := HK1.out; have := HJ17.out; have := HK3.out; omega⟩, ⟨by (with_reducible repeat (first | apply Kd.R_alloc | apply Kd.R_drewN | apply Kd.R_drew)); exact HO_8.out⟩, ⟨by (with_reducible repeat (first | apply Kd.R_alloc | apply Kd.R_drewN | apply Kd.R_drew)); exact HO_10.out⟩, ⟨by repeat (first | (with_reducible first | exact HB.out | apply below_alloc | apply pw_below_drewN | apply below_drew1) | exact HB.out)⟩⟩
                                · rw [if_neg c30] at H
                                  have c30b0 : ((rd t185 x12_3) == (ji7)) = false := beq_eq_false_iff_ne.mpr c30
                                  have c30b1 : ((rd t185 x12_3) != (ji7)) = true := bne_iff_ne.mpr c30
                                  obtain rfl := Option.some.inj H
                                  have p190 : 0 ≤ (x12_3 : Int) := of_decide_eq_true (by first | (with_reducible assumption) | assumption)
                                  have q190 : x12_3 < (x8_1.length : Int) := of_decide_eq_true (by first | (with_reducible assumption) | assumption)
                                  obtain ⟨ad190, e190, hx190_0⟩ := Kd.at_int (Kd.R_reads' HO_8.out).2.2 x12_3 p190 q190
                                  cases e190
                                  replace p190 := eq_true p190
                                  replace q190 := eq_true q190
                                  obtain ⟨Ao36, co36, eo36⟩ := Kd.R_slice HO_10.out
                                  subst eo36
                                  have p191 : 0 ≤ (x12_3 : Int) := of_decide_eq_true (by first | (with_reducible assumption) | assumption)
                                  have q191 : x12_3 < (t185.length : Int) := of_decide_eq_true (by first | (with_reducible assumption) | assumption)
                                  obtain ⟨ad191, e191, hx191_0⟩ := Kd.at_int (Kd.R_reads' HO_10.out).2.2 x12_3 p191 q191
                                  cases e191
                                  replace p191 := eq_true p191
                                  replace q191 := eq_true q191
                                  go_wp2
                                  go_ret
                                  exact ⟨by first | rfl | (simp [errW_none, errW_some] <;> rfl) | (simp only [← hji7, ← hji9]; first | rfl | (simp [errW_none, errW_some] <;> rfl)) | (simp [*, errW_none, errW_some] <;> rfl), by repeat (first | (with_reducible first | exact HB.out | apply below_alloc | apply pw_below_drewN | apply below_drew1) | exact HB.out)⟩
                              · rw [if_neg c29] at H
                                exact absurd H (by simp)
                            · rw [if_neg c28] at H
                              have c28b0 : decide (0 < (rd x8_1 x12_3)) = false := decide_eq_false c28
                              clear c28
                              by_cases c37 : (rd x8_1 x12_3) = 0
                              · rw [if_pos c37] at H
                                have c37b0 : ((rd x8_1 x12_3) == 0) = true := beq_iff_eq.mpr c37
                                have c37b1 : ((rd x8_1 x12_3) != 0) = false := bne_eq_false_iff_eq.mpr c37
                                clear c37
                                by_cases c38 : x12_3 < (t185.length : Int)
                                · rw [if_pos c38] at H
                                  have c38b0 : decide (x12_3 < (t185.length : Int)) = true := decide_eq_true c38
                                  clear c38
                                  by_cases c39 : (rd t185 x12_3) = 0
                                  · rw [if_pos c39] at H
                                    have c39b0 : ((rd t185 x12_3) == 0) = true := beq_iff_eq.mpr c39
                                    have c39b1 : ((rd t185 x12_3) != 0) = false := bne_eq_false_iff_eq.mpr c39
                                    clear c39
                                    have H' := Aside0.mk H
                                    clear H
                                    have p190 : 0 ≤ (x12_3 : Int) := of_decide_eq_true (by first | (with_reducible assumption) | assumption)
                                    have q190 : x12_3 < (x8_1.length : Int) := of_decide_eq_true (by first | (with_reducible assumption) | assumption)
                                    obtain ⟨ad190, e190, hx190_0⟩ := Kd.at_int (Kd.R_reads' HO_8.out).2.2 x12_3 p190 q190
                                    cases e190
                                    replace p190 := eq_true p190
                                    replace q190 := eq_true q190
                                    have p194 : 0 ≤ (x12_3 : Int) := of_decide_eq_true (by first | (with_reducible assumption) | assumption)
                                    have q194 : x12_3 < (x8_1.length : Int) := of_decide_eq_true (by first | (with_reducible assumption) | assumption)
                                    obtain ⟨ad194, e194, hx194_0⟩ := Kd.at_int (Kd.R_reads' HO_8.out).2.2 x12_3 p194 q194
                                    obtain rfl : ad190 = ad194 := (by injection e194)
                                    replace p194 := eq_true p194
                                    replace q194 := eq_true q194
                                    obtain ⟨Ao40, co40, eo40⟩ := Kd.R_slice HO_10.out
                                    subst eo40
                                    have p195 : 0 ≤ (x12_3 : Int) := of_decide_eq_true (by first | (with_reducible assumption) | assumption)
                                    have q195 : x12_3 < (t185.length : Int) := of_decide_eq_true (by first | (with_reducible assumption) | assumption)
                                    obtain ⟨ad195, e195, hx195_0⟩ := Kd.at_int (Kd.R_reads' HO_10.out).2.2 x12_3 p195 q195
                                    cases e195
                                    replace p195 := eq_true p195
                                    replace q195 := eq_true q195
                                    go_wp2
                                    try subst hji7
                                    try subst hji9
                                    go_roundg k3
                                    case measure => have := HK1.out; have := HJ17.out; have := HK3.out; omega
                                    case rel => exact ⟨(wrap64 (x12_3 + 1)), (by first | rfl | (simp; done) | (simp [*]; done)), H', ⟨by have := HK1.out; have := HJ17.out; have := HK3.out; omega⟩, ⟨by (with_reducible repeat (first | apply Kd.R_alloc | apply Kd.R_drewN | apply Kd.R_drew)); exact HO_8.out⟩, ⟨by (with_reducible repeat (first | apply Kd.R_alloc | apply Kd.R_drewN | apply Kd.R_drew)); exact HO_10.out⟩, ⟨by repeat (first | (with_reducible first | exact HB.out | apply below_alloc | apply pw_below_drewN | apply below_drew1) | exact HB.out)⟩⟩
                                  · rw [if_neg c39] at H
                                    have c39b0 : ((rd t185 x12_3) == 0) = false := beq_eq_false_iff_ne.mpr c39
                                    have c39b1 : ((rd t185 x12_3) != 0) = true := bne_iff_ne.mpr c39
                                    obtain rfl := Option.some.inj H
                                    have p190 : 0 ≤ (x12_3 : Int) := of_decide_eq_true (by first | (with_reducible assumption) | assumption)
                                    have q190 : x12_3 < (x8_1.length : Int) := of_decide_eq_true (by first | (with_reducible assumption) | assumption)
                                    obtain ⟨ad190, e190, hx190_0⟩ := Kd.at_int (Kd.R_reads' HO_8.out).2.2 x12_3 p190 q190
                                    cases e190
                                    replace p190 := eq_true p190
                                    replace q190 := eq_true q190
                                    have p194 : 0 ≤ (x12_3 : Int) := of_decide_eq_true (by first | (with_reducible assumption) | assumption)
                                    have q194 : x12_3 < (x8_1.length : Int) := of_decide_eq_true (by first | (with_reducible assumption) | assumption)
                                    obtain ⟨ad194, e194, hx194_0⟩ := Kd.at_int (Kd.R_reads' HO_8.out).2.2 x12_3 p194 q194
                                    obtain rfl : ad190 = ad194 := (by injection e194)
                                    replace p194 := eq_true p194
                                    replace q194 := eq_true q194
                                    obtain ⟨Ao41, co41, eo41⟩ := Kd.R_slice HO_10.out
                                    subst eo41
                                    have p195 : 0 ≤ (x12_3 : Int) := of_decide_eq_true (by first | (with_reducible assumption) | assumption)
                                    have q195 : x12_3 < (t185.length : Int) := of_decide_eq_true (by first | (with_reducible assumption) | assumption)
                                    obtain ⟨ad195, e195, hx195_0⟩ := Kd.at_int (Kd.R_reads' HO_10.out).2.2 x12_3 p195 q195
                                    cases e195
                                    replace p195 := eq_true p195
                                    replace q195 := eq_true q195
                                    go_wp2
                                    go_ret
                                    exact ⟨by first | rfl | (simp [errW_none, errW_some] <;> rfl) | (simp only [← hji7, ← hji9]; first | rfl | (simp [errW_none, errW_some] <;> rfl)) | (simp [*, errW_none, errW_some] <;> rfl), by repeat (first | (with_reducible first | exact HB.out | apply below_alloc | apply pw_below_drewN | apply below_drew1) | exact HB.out)⟩
                                · rw [if_neg c38] at H
                                  exact absurd H (by simp)
                              · rw [if_neg c37] at H
                                have c37b0 : ((rd x8_1 x12_3) == 0) = false := beq_eq_false_iff_ne.mpr c37
                                have c37b1 : ((rd x8_1 x12_3) != 0) = true := bne_iff_ne.mpr c37
                                have H' := Aside0.mk H
                                clear H
                                have p190 : 0 ≤ (x12_3 : Int) := of_decide_eq_true (by first | (with_reducible assumption) | assumption)
                                have q190 : x12_3 < (x8_1.length : Int) := of_decide_eq_true (by first | (with_reducible assumption) | assumption)
                                obtain ⟨ad190, e190, hx190_0⟩ := Kd.at_int (Kd.R_reads' HO_8.out).2.2 x12_3 p190 q190
                                cases e190
                                replace p190 := eq_true p190
                                replace q190 := eq_true q190
                                have p194 : 0 ≤ (x12_3 : Int) := of_decide_eq_true (by first | (with_reducible assumption) | assumption)
                                have q194 : x12_3 < (x8_1.length : Int) := of_decide_eq_true (by first | (with_reducible assumption) | assumption)
                                obtain ⟨ad194, e194, hx194_0⟩ := Kd.at_int (Kd.R_reads' HO_8.out).2.2 x12_3 p194 q194
                                obtain rfl : ad190 = ad194 := (by injection e194)
                                replace p194 := eq_true p194
                                replace q194 := eq_true q194
                                go_wp2
                                try subst hji7
                                try subst hji9
                                go_roundg k3
                                case measure => have := HK1.out; have := HJ17.out; have := HK3.out; omega
                                case rel => exact ⟨(wrap64 (x12_3 + 1)), (by first | rfl | (simp; done) | (simp [*]; done)), H', ⟨by have := HK1.out; have := HJ17.out; have := HK3.out; omega⟩, ⟨by (with_reducible repeat (first | apply Kd.R_alloc | apply Kd.R_drewN | apply Kd.R_drew)); exact HO_8.out⟩, ⟨by (with_reducible repeat (first | apply Kd.R_alloc | apply Kd.R_drewN | apply Kd.R_drew)); exact HO_10.out⟩, ⟨by repeat (first | (with_reducible first | exact HB.out | apply below_alloc | apply pw_below_drewN | apply below_drew1) | exact HB.out)⟩⟩
                          · rw [if_neg c27] at H
                            exact absurd H (by simp)
                        · rw [if_neg c26] at H
                          exact absurd H (by simp)
                      · rw [if_neg c25] at H
                        have c25b0 : decide (x12_3 < 65) = false := decide_eq_false c25
                        clear c25
                        replace H := Option.bind_eq_some_iff.mp H
                        obtain ⟨t196, A420, H⟩ := H
                        replace H : (some t196) = some r := H
                        have A42 := Aside0.mk A420
                        clear A420
                        obtain rfl := Option.some.inj H
                        go_wp2_with (first | ((with_reducible refine gate_callee (f := 10) rfl ?_); refine goesL_ (some 78) rfl rfl Try.func10 (by kernel_rfl) rfl #[] rfl (by (try simp only [List.map_toArray, List.map_cons, List.map_nil]); first | done | rfl | (simp only [List.length_drop, List.length_take]; rfl)) ?_; (with_reducible refine (wringerlaw8_awake.calls  t196 _ A42.out).mono ?_); rintro e w43 ⟨rfl, hb⟩; refine ⟨_, rfl, ?_⟩; have n0_ := Aside0.mk (Kd.R_below (by (with_reducible repeat (first | apply Kd.R_alloc | apply Kd.R_drewN | apply Kd.R_drew)); exact HO_8.out) hb); have n1_ := Aside0.mk (Kd.R_below (by (with_reducible repeat (first | apply Kd.R_alloc | apply Kd.R_drewN | apply Kd.R_drew)); exact HO_10.out) hb); have n2_ := Aside0.mk (below_step (by repeat (first | (with_reducible first | exact HB.out | apply below_alloc | apply pw_below_drewN | apply below_drew1) | exact HB.out)) hb); clear HO_8; clear HO_10; clear HB; have HO_8 := n0_; have HO_10 := n1_; have HB := n2_; clear n0_ n1_ n2_; (try clear hb); (try clear hb2); (try clear hk); (try clear hi)))
                        go_ret
                        exact ⟨by first | rfl | (simp [errW_none, errW_some] <;> rfl) | (simp only [← hji7, ← hji9]; first | rfl | (simp [errW_none, errW_some] <;> rfl)) | (simp [*, errW_none, errW_some] <;> rfl), by repeat (first | (with_reducible first | exact HB.out | apply below_alloc | apply pw_below_drewN | apply below_drew1) | exact HB.out)⟩
        · rw [if_neg c8] at H
          exact absurd H (by simp)
  · rw [if_neg c4] at H
    exact absurd H (by simp)

/-- THE ONE PURE STATEMENT of wringerlaw8_MergeFlat: yours. -/
def wringerlaw8_MergeFlat.Pure : Prop := ∀ (a0 : Int) (a1 : Int) (a2 : Int), (Lit.int .u8 a0).wf = true → (Lit.int .u16 a1).wf = true → (Lit.int .u8 a2).wf = true → ∃ k, wringerlaw8_MergeFlat.f k a0 a1 a2 = some true
theorem wringerlaw8_MergeFlat.walk (P : wringerlaw8_MergeFlat.Pure) (a0 : Int) (a1 : Int) (a2 : Int) (w : World) (w0 : (Lit.int .u8 a0).wf = true) (w1 : (Lit.int .u16 a1).wf = true) (w2 : (Lit.int .u8 a2).wf = true) :
    Calls Try.prog 7 #[.int .u8 a0, .int .u16 a1, .int .u8 a2] w fun e w' => e = .returned (.bool true) ∧ Below w.heap.size w w' := by
  obtain ⟨k, h⟩ := P a0 a1 a2 w0 w1 w2
  refine (wringerlaw8_MergeFlat.calls k a0 a1 a2 true w h).mono ?_
  rintro e w' ⟨rfl, hd⟩
  exact ⟨rfl, hd⟩

end Go.Proofs.Ytejecpmfhgplmaa.PA

-- ---- Fl
/- Classes that come alike often: their lengths. No program in sight. -/
namespace Go.Proofs.Ytejecpmfhgplmaa.Dp
set_option linter.unusedSimpArgs false
set_option linter.unusedVariables false
open Ol

/-- How many there are that come. -/
theorem ord_sm {f : List Int} {m : Nat} (h : Fq f m) : (ordL f).length = sm f := by
  rw [← h.sums.2]
  unfold sm
  congr 1
  apply List.ext_getElem
  · rw [List.length_map, List.length_map, length_lenL, h.len]
  · intro i h1 h2
    rw [List.length_map] at h1 h2
    have h3 := (h.pos i).1
    have e1 : (lenL f m).getD i 0 = (lenL f m)[i] := by simp [List.getD_eq_getElem?_getD, h1]
    have e2 : f.getD i 0 = f[i] := by simp [List.getD_eq_getElem?_getD, h2]
    rw [e1, e2] at h3
    simp only [List.getElem_map]
    by_cases h4 : 0 < f[i]
    · rw [if_pos h4, if_pos (h3.2 h4)]
    · rw [if_neg h4, if_neg (fun h => h4 (h3.1 h))]
theorem sm_set {f : List Int} {i : Nat} {v : Int} (hi : i < f.length) (h0 : f.getD i 0 = 0) (hv : 0 < v) : sm (f.set i v) = sm f + 1 := by
  have := sum_set (fun n => if 0 < n then 1 else 0) f i v hi
  rw [h0, if_neg (by omega), if_pos hv] at this
  unfold sm; omega
theorem cost_flat (c : Int) (d : Nat) : ∀ (ns : List Nat), cost d (List.replicate ns.length c) ns = c * (ns.map fun n : Nat => (n : Int) - d).sum := by
  intro ns
  induction ns with
  | nil => simp [cost]
  | cons n t ih => simp only [List.length_cons, List.replicate_succ, cost, ih, List.map_cons, List.sum_cons, Int.mul_add]
theorem flat_elem : ∀ k : Nat, k < 7 → ∀ n : Nat, n < 8 → ((2 ^ (15 - k) : Nat) : Int) * (1 + (k : Int) - (n : Int)) ≤ ((2 ^ (15 - n) : Nat) : Int) ∧ (((2 ^ (15 - k) : Nat) : Int) * (1 + (k : Int) - (n : Int)) = ((2 ^ (15 - n) : Nat) : Int) → n = k ∨ n + 1 = k) := by decide
theorem flat_list (k : Nat) (hk : k < 7) (P : Int) (hP : P = ((2 ^ (15 - k) : Nat) : Int)) : ∀ (ns : List Nat), (∀ n ∈ ns, n < 8) →
    P * (ns.map fun n : Nat => 1 + (k : Int) - (n : Int)).sum ≤ (wsum 15 ns : Int) ∧ (P * (ns.map fun n : Nat => 1 + (k : Int) - (n : Int)).sum = (wsum 15 ns : Int) → ∀ n ∈ ns, n = k ∨ n + 1 = k) := by
  intro ns
  induction ns with
  | nil => intro _; exact ⟨by simp [wsum], fun _ n h => by cases h⟩
  | cons a t ih =>
    intro h
    obtain ⟨i1, i2⟩ := ih fun n hn => h n (List.mem_cons_of_mem _ hn)
    obtain ⟨e1, e2⟩ := flat_elem k hk a (h a (by simp))
    rw [← hP] at e1 e2
    rw [wsum_cons, List.map_cons, List.sum_cons, Int.mul_add]
    have ec : ((2 ^ (15 - a) + wsum 15 t : Nat) : Int) = ((2 ^ (15 - a) : Nat) : Int) + (wsum 15 t : Int) := by push_cast; rfl
    rw [ec]
    generalize P * (1 + (k : Int) - (a : Int)) = X at e1 e2 ⊢
    generalize P * (t.map fun n : Nat => 1 + (k : Int) - (n : Int)).sum = Y at i1 i2 ⊢
    refine ⟨by omega, fun he n hn => ?_⟩
    rcases List.mem_cons.1 hn with rfl | hn
    · exact e2 (by omega)
    · exact i2 (by omega) n hn
theorem sum_one (k : Nat) : ∀ (ns : List Nat), (ns.map fun n : Nat => 1 + (k : Int) - (n : Int)).sum = (ns.length : Int) * (k : Int) - (ns.map fun n : Nat => (n : Int) - (1 : Nat)).sum := by
  intro ns
  induction ns with
  | nil => simp
  | cons a t ih =>
    simp only [List.map_cons, List.sum_cons, List.length_cons, ih]
    have : ((t.length + 1 : Nat) : Int) * (k : Int) = (t.length : Int) * (k : Int) + (k : Int) := by push_cast; rw [Int.add_mul, Int.one_mul]
    rw [this]; omega
theorem all_of_sum (k : Nat) : ∀ (ns : List Nat), (∀ n ∈ ns, n ≤ k) → (ns.length : Int) * (k : Int) ≤ (ns.map fun n : Nat => (n : Int)).sum → ∀ n ∈ ns, n = k := by
  intro ns
  induction ns with
  | nil => intro _ _ n h; cases h
  | cons a t ih =>
    intro h hs n hn
    have ha := h a (by simp)
    have hle : (t.map fun n : Nat => (n : Int)).sum ≤ (t.length : Int) * (k : Int) := by
      have hm : ∀ n ∈ t, n ≤ k := fun n hn => h n (List.mem_cons_of_mem _ hn)
      clear hs hn ih h
      induction t with
      | nil => simp
      | cons b u ihu =>
        have := ihu fun n hn => hm n (List.mem_cons_of_mem _ hn)
        have hb := hm b (by simp)
        have e : ((u.length + 1 : Nat) : Int) * (k : Int) = (u.length : Int) * (k : Int) + (k : Int) := by push_cast; rw [Int.add_mul, Int.one_mul]
        rw [List.map_cons, List.sum_cons, List.length_cons, e]; omega
    have e : ((t.length + 1 : Nat) : Int) * (k : Int) = (t.length : Int) * (k : Int) + (k : Int) := by push_cast; rw [Int.add_mul, Int.one_mul]
    rw [List.map_cons, List.sum_cons, List.length_cons, e] at hs
    rcases List.mem_cons.1 hn with rfl | hn
    · omega
    · exact ih (fun n hn => h n (List.mem_cons_of_mem _ hn)) (by omega) n hn
/-- So many as a power of two, alike often: all its exponent long. -/
theorem flat_lens {f : List Int} {k : Nat} {c : Int} (h : Fq f 7) (h1 : 1 ≤ k) (h6 : k ≤ 6) (hc : 0 < c) (hn : sm f = 2 ^ k) (hf : ∀ x ∈ f, x = 0 ∨ x = c) : lensOf f 7 = List.replicate (2 ^ k) k := by
  have hol : (ordL f).length = 2 ^ k := by rw [ord_sm h, hn]
  have h2k : 2 ≤ 2 ^ k := by
    have : 2 ^ 1 ≤ 2 ^ k := Nat.pow_le_pow_right (by decide) h1
    simpa using this
  obtain ⟨s1, s2, s3, s4⟩ := h.spec
  obtain ⟨s5, s6⟩ := s4 (by omega)
  have hg : ofs f = List.replicate (2 ^ k) c := by
    rw [List.eq_replicate_iff]
    refine ⟨by rw [length_ofs, hol], fun x hx => ?_⟩
    have hp := ofs_pos f x hx
    obtain ⟨j, hj, rfl⟩ := List.mem_map.1 hx
    have hjl := (mem_ordL.1 hj).1
    rcases hf (f.getD j 0) (by simp [List.getD_eq_getElem?_getD, hjl]) with h | h
    · omega
    · exact h
  have hPk : 2 ^ k * 2 ^ (15 - k) = 32768 := by rw [← Nat.pow_add, show k + (15 - k) = 15 by omega]
  obtain ⟨x, hx, hxl⟩ := dp_least 15 7 1 (ofs f) 2 (List.replicate (2 ^ k) k) (by omega) (by rw [List.length_replicate, length_ofs, hol]) (fun n hn => by rw [(List.mem_replicate.1 hn).2]; omega) (List.pairwise_replicate.2 (.inr (Nat.le_refl _)))
    (by rw [wsum_replicate, hPk])
  rw [s6] at hx
  obtain rfl := Option.some.inj hx
  rw [hg] at hxl
  have c1 := cost_flat c 1 (lensOf f 7)
  rw [s1, hol] at c1
  have c2 := cost_flat c 1 (List.replicate (2 ^ k) k)
  rw [List.length_replicate] at c2
  rw [c1, c2] at hxl
  have hs := Int.le_of_mul_le_mul_left hxl hc
  have e2 : ((List.replicate (2 ^ k) k).map fun n : Nat => (n : Int) - ((1 : Nat) : Int)).sum = ((2 ^ k : Nat) : Int) * ((k : Int) - 1) := by
    generalize 2 ^ k = N
    induction N with
    | zero => simp
    | succ N ih =>
      rw [List.replicate_succ, List.map_cons, List.sum_cons, ih]
      have : ((N + 1 : Nat) : Int) * ((k : Int) - 1) = (N : Int) * ((k : Int) - 1) + ((k : Int) - 1) := by push_cast; rw [Int.add_mul, Int.one_mul]
      rw [this]; omega
  rw [e2] at hs
  obtain ⟨f1, f2⟩ := flat_list k (by omega) _ rfl (lensOf f 7) (fun n hn => by have := (s2 n hn).2; omega)
  have hso := sum_one k (lensOf f 7)
  rw [s1, hol] at hso
  obtain ⟨T, hT⟩ : ∃ T, T = ((lensOf f 7).map fun n : Nat => (n : Int) - ((1 : Nat) : Int)).sum := ⟨_, rfl⟩
  rw [← hT] at hs hso
  obtain ⟨Sg, hSg⟩ : ∃ Sg, Sg = ((lensOf f 7).map fun n : Nat => 1 + (k : Int) - (n : Int)).sum := ⟨_, rfl⟩
  rw [← hSg] at f1 f2 hso
  have hN : ((2 ^ k : Nat) : Int) * ((k : Int) - 1) = ((2 ^ k : Nat) : Int) * (k : Int) - ((2 ^ k : Nat) : Int) := by rw [Int.mul_sub, Int.mul_one]
  have hSN : ((2 ^ k : Nat) : Int) ≤ Sg := by omega
  have hP0 : (0 : Int) ≤ ((2 ^ (15 - k) : Nat) : Int) := Int.natCast_nonneg _
  have hw : ((2 ^ (15 - k) : Nat) : Int) * ((2 ^ k : Nat) : Int) = (wsum 15 (lensOf f 7) : Int) := by
    rw [s5, ← Int.natCast_mul, Nat.mul_comm, hPk]
  have hle := Int.mul_le_mul_of_nonneg_left hSN hP0
  have heq : ((2 ^ (15 - k) : Nat) : Int) * Sg = (wsum 15 (lensOf f 7) : Int) := by omega
  have hall := f2 heq
  have hle2 : ((2 ^ (15 - k) : Nat) : Int) * Sg ≤ ((2 ^ (15 - k) : Nat) : Int) * ((2 ^ k : Nat) : Int) := by omega
  have hSe : Sg ≤ ((2 ^ k : Nat) : Int) := Int.le_of_mul_le_mul_left hle2 (by have := Nat.pow_pos (n := 15 - k) (show 0 < 2 by decide); omega)
  have hsum : ((lensOf f 7).map fun n : Nat => (n : Int)).sum = T + ((2 ^ k : Nat) : Int) := by
    rw [hT, ← hol, ← s1]
    generalize lensOf f 7 = ns
    induction ns with
    | nil => simp
    | cons a t ih => simp only [List.map_cons, List.sum_cons, List.length_cons, ih]; push_cast; omega
  rw [List.eq_replicate_iff]
  refine ⟨by rw [s1, hol], all_of_sum k _ (fun n hn => by rcases hall n hn with h | h <;> omega) ?_⟩
  rw [s1, hol, hsum]; omega
end Go.Proofs.Ytejecpmfhgplmaa.Dp

-- ---- PureMergeFlat
/- Classes that come alike often, as many as a power of two, have lengths of its exponent: the plain statement of MergeFlat holds for every input. Conditions: none. -/
namespace Go.Proofs.Ytejecpmfhgplmaa.Pure
open Go.RowKit Go.Proofs.Ytejecpmfhgplmaa.PA Go.Proofs.YtejecpmfhgplmaaW.PrintWords Go.Proofs.YtejecpmfhgplmaaW.PrintLast Go.Proofs.YtejecpmfhgplmaaW.PrintMore Dp
set_option linter.unusedVariables false
set_option linter.unusedSimpArgs false

/-- What has been laid of the frequencies. -/
structure FlatF (f : List Int) (c : Int) (fr i : Nat) : Prop where
  len : f.length = 65
  val : ∀ x ∈ f, x = 0 ∨ x = c
  cnt : sm f = i
  free : ∀ j, i ≤ j → j < 65 → f.getD ((j + fr) % 65) 0 = 0
theorem FlatF.next {f : List Int} {c : Int} {fr i : Nat} (h : FlatF f c fr i) (hc : 0 < c) (hi : i < 65) : FlatF (f.set ((i + fr) % 65) c) c fr (i + 1) := by
  have hp : (i + fr) % 65 < f.length := by rw [h.len]; omega
  refine ⟨by rw [List.length_set]; exact h.len, fun x hx => ?_, ?_, fun j h1 h2 => ?_⟩
  · rcases List.mem_or_eq_of_mem_set hx with hx | rfl
    · exact h.val x hx
    · exact .inr rfl
  · rw [sm_set hp (h.free i (Nat.le_refl _) hi) hc, h.cnt]
  · have hne : (i + fr) % 65 ≠ (j + fr) % 65 := by omega
    have := h.free j (by omega) h2
    simp only [List.getD_eq_getElem?_getD, List.getElem?_set_ne hne] at this ⊢
    exact this
theorem flat0 (c : Int) (fr : Nat) : FlatF (List.replicate 65 0) c fr 0 :=
  ⟨by simp, fun x hx => .inl (List.mem_replicate.1 hx).2, by decide, fun j _ _ => getD_rep _ _⟩

theorem flat_l1 (f l : List Int) (k : Nat) (hf : f.length = 65) (hl : l.length = 65) (hv : ∀ i, i < 65 → (0 < f.getD i 0 → l.getD i 0 = (k : Int)) ∧ (f.getD i 0 ≤ 0 → f.getD i 0 = 0 ∧ l.getD i 0 = 0)) : ∀ (d i : Nat), i + d = 65 → Ev (fun n => wringerlaw8_MergeFlat.l1 n (k : Int) f l (i : Int)) true := by
  intro d
  induction d with
  | zero =>
    intro i hi
    exact Ev.step (f := fun _ => (wringerlaw8_awake.f).bind fun t => some t) (fun n => by simp only [wringerlaw8_MergeFlat.l1]; rw [if_neg (by omega)]) (Ev.bind0 awake8 (Ev.now _))
  | succ d ih =>
    intro i hi
    obtain ⟨h1, h2⟩ := hv i (by omega)
    have hr := rd_nat f i
    have hr2 := rd_nat l i
    have w1 : wrap64 ((i : Int) + 1) = ((i + 1 : Nat) : Int) := by rw [w64 (by omega) (by omega)]; rfl
    refine Ev.step (f := fun n => wringerlaw8_MergeFlat.l1 n (k : Int) f l ((i + 1 : Nat) : Int)) (fun n => ?_) (ih (i + 1) (by omega))
    simp only [wringerlaw8_MergeFlat.l1]
    rw [if_pos (by omega), if_pos (by omega), if_pos (by omega), hr, hr2, w1]
    by_cases hp : f.getD i 0 > 0
    · rw [if_pos hp, if_pos (by omega), if_pos (h1 hp), if_neg (by omega)]
    · obtain ⟨h3, h4⟩ := h2 (by omega)
      rw [if_neg hp, if_pos h3, if_pos (by omega), if_pos h4]

theorem flat_l0 (k fr : Nat) (c : Int) (o : Int) (a2 : Int) (h1 : 1 ≤ k) (h6 : k ≤ 6) (hfr : fr ≤ 255) (ha2 : wrap64 a2 = (fr : Int)) (hc : wrap64 (1 + wrap64 o) = c) (hc0 : 0 < c) (hcm : c ≤ 65536) : ∀ (d i : Nat) (f : List Int), i + d = 2 ^ k → FlatF f c fr i →
    Ev (fun n => wringerlaw8_MergeFlat.l0 n o a2 (k : Int) f (i : Int)) true := by
  have h64 : 2 ^ k ≤ 64 := by have : 2 ^ k ≤ 2 ^ 6 := Nat.pow_le_pow_right (by decide) h6
                              simpa using this
  intro d
  induction d with
  | zero =>
    intro i f hi hf
    have hq : Fq f 7 := ⟨hf.len, fun x hx => by rcases hf.val x hx with h | h <;> omega, by decide, by decide⟩
    have hE := lenE_ok hq
    have hi2 : i = 2 ^ k := by omega
    have hL := flat_lens hq h1 h6 hc0 (by rw [hf.cnt, hi2]) hf.val
    refine Ev.step (f := fun n => (merge_Lengths.f f 7).bind fun bt187 => ((wringerlaw1_Err.f bt187.2).bind fun t191 => (if t191 = 0 then (wringerlaw8_MergeFlat.j1 n (k : Int) f bt187.1 ((bt187.1.length : Int) != 65)) else (wringerlaw8_MergeFlat.j1 n (k : Int) f bt187.1 true)))) (fun n => by
      simp only [wringerlaw8_MergeFlat.l0]; rw [if_pos (by omega), shl_1 k (by omega), if_neg (by omega)]) ?_
    refine Ev.bind0 (a := (lenL f 7, 0)) (by rw [mlen_f f 7 (by have := hf.len; omega)]; exact congrArg some hE) (Ev.bind0 (a := (0 : Int)) rfl (Ev.ite_pos rfl ?_))
    rw [show ((((lenL f 7).length : Nat) : Int) != 65) = false by rw [length_lenL]; rfl]
    refine Ev.step (f := fun n => wringerlaw8_MergeFlat.l1 n (k : Int) f (lenL f 7) ((0 : Nat) : Int)) (fun n => by simp only [wringerlaw8_MergeFlat.j1]; rw [if_neg (by simp)]; rfl) ?_
    refine flat_l1 f (lenL f 7) k hf.len (length_lenL f 7) (fun j hj => ⟨fun hp => ?_, fun hp => ?_⟩) 65 0 (by omega)
    · obtain ⟨q, hq1, hq2⟩ := idx_of (Ol.mem_ordL.2 ⟨by rw [hf.len]; exact hj, hp⟩)
      have h := hq.at q hq1
      rw [hq2, hL] at h
      rw [h]
      have hs := hq.spec.1
      rw [hL, List.length_replicate] at hs
      simp [List.getD_eq_getElem?_getD, show q < 2 ^ k by omega]
    · have hm : j ∉ Ol.ordL f := fun h => by have := (Ol.mem_ordL.1 h).2; omega
      refine ⟨?_, lenL_out j hm⟩
      have := hf.val (f.getD j 0) (by simp [List.getD_eq_getElem?_getD, show j < f.length by rw [hf.len]; exact hj])
      omega
  | succ d ih =>
    intro i f hi hf
    have w1 : wrap64 ((i : Int) + 1) = ((i + 1 : Nat) : Int) := by rw [w64 (by omega) (by omega)]; rfl
    have w2 : wrap64 ((i : Int) + wrap64 a2) = ((i + fr : Nat) : Int) := by rw [ha2, w64 (by omega) (by omega)]; rfl
    have e1 : Int.tmod ((i + fr : Nat) : Int) 65 = (((i + fr) % 65 : Nat) : Int) := tmod_nat _ 65
    refine Ev.step (f := fun n => wringerlaw8_MergeFlat.l0 n o a2 (k : Int) (f.set ((i + fr) % 65) c) ((i + 1 : Nat) : Int)) (fun n => ?_) (ih (i + 1) _ (by omega) (hf.next hc0 (by omega)))
    have hlen := hf.len
    simp only [wringerlaw8_MergeFlat.l0]
    rw [w2, e1, w1, hc, shl_1 k (by omega), if_pos (by omega), if_pos (by omega), if_pos (by omega), if_pos (by omega), Int.toNat_natCast]

theorem MergeFlat : wringerlaw8_MergeFlat.Pure := by
  intro a0 a1 a2 h0 h1 h2
  apply Ev.rounds
  unfold wringerlaw8_MergeFlat.f
  simp only [Lit.wf, Bool.and_eq_true, decide_eq_true_eq] at h0 h1 h2
  have b1 : IntKind.u8.min = 0 := rfl
  have b2 : IntKind.u8.max = 255 := rfl
  have b3 : IntKind.u16.min = 0 := rfl
  have b4 : IntKind.u16.max = 65535 := rfl
  obtain ⟨n, hn⟩ : ∃ n : Nat, a0 = (n : Int) := ⟨a0.toNat, by omega⟩
  obtain ⟨u, hu⟩ : ∃ u : Nat, a1 = (u : Int) := ⟨a1.toNat, by omega⟩
  obtain ⟨fr, hfr⟩ : ∃ v : Nat, a2 = (v : Int) := ⟨a2.toNat, by omega⟩
  subst hn hu hfr
  have hn2 : n ≤ 255 := by omega
  have hu2 : u ≤ 65535 := by omega
  have hfr2 : fr ≤ 255 := by omega
  clear h0 h1 h2 b1 b2 b3 b4
  have hk : wrap64 (1 + Int.tmod (wrap64 (n : Int)) 6) = ((1 + n % 6 : Nat) : Int) := by
    rw [w64 (x := (n : Int)) (by omega) (by omega), show Int.tmod (n : Int) 6 = ((n % 6 : Nat) : Int) from tmod_nat n 6, w64 (by omega) (by omega)]; rfl
  rw [hk]
  have hcw : wrap64 (1 + wrap64 (u : Int)) = 1 + (u : Int) := by rw [w64 (x := (u : Int)) (by omega) (by omega), w64 (by omega) (by omega)]
  have hf := flat_l0 (1 + n % 6) fr (1 + (u : Int)) (u : Int) (fr : Int) (by omega) (by omega) hfr2 (w64 (by omega) (by omega)) hcw (by omega) (by omega) (2 ^ (1 + n % 6)) 0 (List.replicate 65 0) (by omega) (flat0 _ _)
  exact Ev.ite_pos (by decide) hf
end Go.Proofs.Ytejecpmfhgplmaa.Pure

-- ---- LawMergeFlat

namespace Go.Proofs.Ytejecpmfhgplmaa.mergeFlat
open Go.ChangeShapes Go.WideShapes Go.ChangeAt Go.RowKit
open Go.ChangeMaps (open_string shut_string)
set_option linter.unusedVariables false
theorem own : ownKnob Try.prog.godebug = none := by kernel_rfl
set_option maxRecDepth 100000 in
theorem lifted (os : Os) (started : os.Started) (H : Type) (enc : TypeId × Value → H) :
    ReturnsInHanded {} Try.checked os 7 .any (Rows.mergeFlatSpec.pre6 enc Try.prog Try.f7 Rows.mergeFlatRow.domain false) (Rows.mergeFlatSpec.post enc Try.prog Try.f7 false true false false) := by
  refine returnsInHanded_of_change_sized (C := Try.checked) own started (by kernel_rfl) Try.func7
    (ChangeSpec.witness6 (enc := enc) (C := Try.checked) false ⟨#[], #[.int .u8 0, .int .u16 0, .int .u8 0], []⟩ 8 (by kernel_rfl) (by kernel_rfl) (by kernel_rfl) (by kernel_rfl)) ?_
  intro W base args ds gs before hval0 hW hcnd hsz0 _
  have hsz : (DataW.weightsEach Try.prog (Try.f7.params.toList ++ Rows.mergeFlatSpec.plain.varTypes Try.prog) (ds ++ gs)).all (· ≤ reachBytes) = true := hsz0
  have hval : ∀ (j : Nat) t v, Try.f7.params[j]? = some t → args[j]? = some v → Value.okWide Try.prog W .any base t v := hval0
  have hW' := hW
  obtain ⟨p, q, hA0, hV, rfl, hfz, hnd⟩ := hW
  have hA : DataW.TrodAll enc Try.prog W 0 (fun _ => true) true Try.f7.params.toList args.toList ds p := hA0
  rw [Try.params7] at hA hval hsz
  obtain ⟨v0, vs0, d0, ds0, p0, q0, hargs, rfl, rfl, h0, r0⟩ := trodAll_cons hA
  obtain ⟨v1, vs1, d1, ds1, p1, q1, rfl, rfl, rfl, h1, r1⟩ := trodAll_cons r0
  obtain ⟨v2, vs2, d2, ds2, p2, q2, rfl, rfl, rfl, h2, r2⟩ := trodAll_cons r1
  obtain ⟨rfl, rfl, rfl⟩ := trodAll_nil r2
  obtain rfl : args = #[v0, v1, v2] := by cases args; simp_all
  obtain ⟨rfl, rfl⟩ := trodVars_none hV
  obtain ⟨a0, rfl, rfl, rfl, w0⟩ := open_int Try.underlying5 (hval 0 5 v0 rfl rfl) h0
  obtain ⟨a1, rfl, rfl, rfl, w1⟩ := open_int Try.underlying41 (hval 1 41 v1 rfl rfl) h1
  obtain ⟨a2, rfl, rfl, rfl, w2⟩ := open_int Try.underlying5 (hval 2 5 v2 rfl rfl) h2
  clear hA0 hval0 hsz0 hsz
  refine (PA.wringerlaw8_MergeFlat.walk Pure.MergeFlat a0 a1 a2 W w0 w1 w2).mono fun e W' ⟨he, bel⟩ => ?_
  subst he
  exact ⟨_, rfl, _, _, _, [], _, [], hW', trodAll_mk1 (shut_bool Try.underlying4 _), (trodAll_cons_mk (shut_int Try.underlying5 w0) (trodAll_cons_mk (shut_int Try.underlying41 w1) (trodAll_cons_mk (shut_int Try.underlying5 w2) trodAll_mk0))), rfl, bel.frame _, fun h => by cases h⟩
theorem over : Rows.mergeFlatRow.holds Try.pinned (OpenSpec.ofChange Rows.mergeFlatSpec) :=
  OpenClaim.holds_of_wide 7 Try.f7 rfl rfl rfl rfl rfl rfl rfl ⟨rfl, rfl, rfl, rfl, rfl⟩ rfl rfl rfl rfl rfl (by kernel_rfl) Try.func7 (by kernel_rfl)
    (of_decide_eq_true (by kernel_rfl)) (by unfold Func.isWrapper; first | (rw [if_pos (by decide +kernel)]; kernel_rfl) | (rw [if_neg (by decide +kernel)]; exact ⟨rfl, rfl⟩))
    (fun os started H enc _ => lifted os started H enc)
theorem proved : Rows.MergeFlatSaid := over
#print axioms proved
end Go.Proofs.Ytejecpmfhgplmaa.mergeFlat
namespace Go.Proofs.Ytejecpmfhgplmaa
/-- The row, under a short name, for the claim. -/
theorem mergeFlat_holds : Rows.MergeFlatSaid := mergeFlat.proved
end Go.Proofs.Ytejecpmfhgplmaa
