/- Part MergeSteep1 of what the layer's laws stand on: PAx30, PureMergeSteep, LawMergeSteep. Written by a program (merge.py) out of this session's own texts and of what the kit's print wrote over stand-ins (sp.py). Conditions: those that each theorem names. -/
import Derived.Test.YtejecpmfhgplmaaQB2
import Derived.Test.YtejecpmfhgplmaaQB3
import Derived.Test.YtejecpmfhgplmaaRows
import Derived.WalkKit
import Derived.ProofKit
import Derived.OpenShut
import Derived.ShutString
import Derived.ChangeOld
import Derived.Below
import Derived.SizedLaws
-- ---- PAx30

namespace Go.Proofs.Ytejecpmfhgplmaa.PA
open Go.RowKit Go.Proofs.YtejecpmfhgplmaaW.PrintWords Go.Proofs.YtejecpmfhgplmaaW.PrintLast Go.Proofs.YtejecpmfhgplmaaW.PrintMore
attribute [local go_sem] max2_int min2_int max_two min_two max_three min_three max_four min_four   -- for this text's walks alone
set_option linter.unusedVariables false
set_option linter.unusedSimpArgs false

/-! ### wringerlaw8_MergeSteep: function 8 -/
mutual
def wringerlaw8_MergeSteep.l0 : Nat → Int → Int → List Int → Int → Option (Bool)
  | 0, _, _, _, _ => none
  | k + 1, x5, x6, x7, x8 => if x8 < x6 then (if 0 ≤ x8 then (if 0 ≤ (Int.tmod (wrap64 (x8 * 4)) 65) then (if (Int.tmod (wrap64 (x8 * 4)) 65) < (x7.length : Int) then (wringerlaw8_MergeSteep.l0 k x5 x6 (x7.set ((Int.tmod (wrap64 (x8 * 4)) 65) : Int).toNat (shl .i64 1 x8)) (wrap64 (x8 + 1))) else (none)) else (none)) else (none)) else ((merge_Lengths.f x7 x5).bind fun bt315 => ((wringerlaw1_Err.f bt315.2).bind fun t319 => (if t319 = 0 then (wringerlaw8_MergeSteep.j1 k x6 bt315.1 ((bt315.1.length : Int) != 65)) else (wringerlaw8_MergeSteep.j1 k x6 bt315.1 true))))
def wringerlaw8_MergeSteep.j1 : Nat → Int → List Int → Bool → Option (Bool)
  | 0, _, _, _ => none
  | k + 1, x6, x9, x48 => if x48 = true then (some false) else (wringerlaw8_MergeSteep.l1 k x6 x9 0)
def wringerlaw8_MergeSteep.l1 : Nat → Int → List Int → Int → Option (Bool)
  | 0, _, _, _ => none
  | k + 1, x6, x9, x11 => if x11 < x6 then (if 0 ≤ (Int.tmod (wrap64 (x11 * 4)) 65) then (if (Int.tmod (wrap64 (x11 * 4)) 65) < (x9.length : Int) then (if (rd x9 (Int.tmod (wrap64 (x11 * 4)) 65)) = (mn (wrap64 (x6 - x11)) (wrap64 (x6 - 1))) then (wringerlaw8_MergeSteep.l1 k x6 x9 (wrap64 (x11 + 1))) else (some false)) else (none)) else (none)) else ((wringerlaw8_awake.f).bind fun t321 => (some t321))
end
def wringerlaw8_MergeSteep.f (k : Nat) (a0 : Int) (a1 : Int) : Option (Bool) := if (wrap64 (7 + (Int.tmod (wrap64 (a1)) 9))) = 0 then (none) else (if 65 ≤ 35184372088832 then (wringerlaw8_MergeSteep.l0 k (wrap64 (7 + (Int.tmod (wrap64 (a1)) 9))) (wrap64 (2 + (Int.tmod (wrap64 (a0)) (wrap64 (7 + (Int.tmod (wrap64 (a1)) 9)))))) (List.replicate 65 0) 0) else (none))
theorem wringerlaw8_MergeSteep.mono_l : ∀ k, (∀ y0 y1 y2 y3, LeO (wringerlaw8_MergeSteep.l0 k y0 y1 y2 y3) (wringerlaw8_MergeSteep.l0 (k + 1) y0 y1 y2 y3)) ∧ (∀ y0 y1 y2, LeO (wringerlaw8_MergeSteep.j1 k y0 y1 y2) (wringerlaw8_MergeSteep.j1 (k + 1) y0 y1 y2)) ∧ (∀ y0 y1 y2, LeO (wringerlaw8_MergeSteep.l1 k y0 y1 y2) (wringerlaw8_MergeSteep.l1 (k + 1) y0 y1 y2))
  | 0 => ⟨fun _ _ _ _ r h => by simp [wringerlaw8_MergeSteep.l0] at h, fun _ _ _ r h => by simp [wringerlaw8_MergeSteep.j1] at h, fun _ _ _ r h => by simp [wringerlaw8_MergeSteep.l1] at h⟩
  | k + 1 => by
    obtain ⟨ih0, ih1, ih2⟩ := wringerlaw8_MergeSteep.mono_l k
    refine ⟨?_, ?_, ?_⟩
    · intro y0 y1 y2 y3
      unfold wringerlaw8_MergeSteep.l0
      repeat' first
      | (with_reducible exact ih0 _ _ _ _)
      | (with_reducible exact ih1 _ _ _)
      | (with_reducible exact ih2 _ _ _)
      | (with_reducible exact LeO.refl _)
      | (with_reducible exact LeO.none _)
      | (with_reducible refine LeO.ite ?_ ?_)
      | (with_reducible refine LeO.bind ?_ (fun _ => ?_))
      | exact ih0 _ _ _ _
      | exact ih1 _ _ _
      | exact ih2 _ _ _
      | exact LeO.none _
      | refine LeO.ite ?_ ?_
      | refine LeO.bind ?_ (fun _ => ?_)
    · intro y0 y1 y2
      unfold wringerlaw8_MergeSteep.j1
      repeat' first
      | (with_reducible exact ih0 _ _ _ _)
      | (with_reducible exact ih1 _ _ _)
      | (with_reducible exact ih2 _ _ _)
      | (with_reducible exact LeO.refl _)
      | (with_reducible exact LeO.none _)
      | (with_reducible refine LeO.ite ?_ ?_)
      | (with_reducible refine LeO.bind ?_ (fun _ => ?_))
      | exact ih0 _ _ _ _
      | exact ih1 _ _ _
      | exact ih2 _ _ _
      | exact LeO.none _
      | refine LeO.ite ?_ ?_
      | refine LeO.bind ?_ (fun _ => ?_)
    · intro y0 y1 y2
      unfold wringerlaw8_MergeSteep.l1
      repeat' first
      | (with_reducible exact ih0 _ _ _ _)
      | (with_reducible exact ih1 _ _ _)
      | (with_reducible exact ih2 _ _ _)
      | (with_reducible exact LeO.refl _)
      | (with_reducible exact LeO.none _)
      | (with_reducible refine LeO.ite ?_ ?_)
      | (with_reducible refine LeO.bind ?_ (fun _ => ?_))
      | exact ih0 _ _ _ _
      | exact ih1 _ _ _
      | exact ih2 _ _ _
      | exact LeO.none _
      | refine LeO.ite ?_ ?_
      | refine LeO.bind ?_ (fun _ => ?_)
theorem wringerlaw8_MergeSteep.mono : ∀ a0 a1 k, LeO (wringerlaw8_MergeSteep.f k a0 a1) (wringerlaw8_MergeSteep.f (k + 1) a0 a1) := by
  intro a0 a1 k
  obtain ⟨ih0, ih1, ih2⟩ := wringerlaw8_MergeSteep.mono_l k
  unfold wringerlaw8_MergeSteep.f
  repeat' first
      | (with_reducible exact ih0 _ _ _ _)
      | (with_reducible exact ih1 _ _ _)
      | (with_reducible exact ih2 _ _ _)
      | (with_reducible exact LeO.refl _)
      | (with_reducible exact LeO.none _)
      | (with_reducible refine LeO.ite ?_ ?_)
      | (with_reducible refine LeO.bind ?_ (fun _ => ?_))
      | exact ih0 _ _ _ _
      | exact ih1 _ _ _
      | exact ih2 _ _ _
      | exact LeO.none _
      | refine LeO.ite ?_ ?_
      | refine LeO.bind ?_ (fun _ => ?_)
set_option maxHeartbeats 8000000 in
set_option maxRecDepth 100000 in
theorem wringerlaw8_MergeSteep.calls (k : Nat) (a0 : Int) (a1 : Int) (r : Bool) (w : World) (h : wringerlaw8_MergeSteep.f k a0 a1 = some r) :
    Calls Try.prog 8 #[.int .u8 a0, .int .u8 a1] w fun e w' => e = .returned (.bool r) ∧ Below w.heap.size w w' := by
  have HB := Aside0.mk (Below.refl w.heap.size w)
  have H : (if (wrap64 (7 + (Int.tmod (wrap64 (a1)) 9))) = 0 then (none) else (if 65 ≤ 35184372088832 then (wringerlaw8_MergeSteep.l0 k (wrap64 (7 + (Int.tmod (wrap64 (a1)) 9))) (wrap64 (2 + (Int.tmod (wrap64 (a0)) (wrap64 (7 + (Int.tmod (wrap64 (a1)) 9)))))) (List.replicate 65 0) 0) else (none))) = some r := h
  clear h
  by_cases c3 : (wrap64 (7 + (Int.tmod (wrap64 (a1)) 9))) = 0
  · rw [if_pos c3] at H
    exact absurd H (by simp)
  · rw [if_neg c3] at H
    have c3b0 : ((wrap64 (7 + (Int.tmod (wrap64 (a1)) 9))) == 0) = false := beq_eq_false_iff_ne.mpr c3
    have c3b1 : ((wrap64 (7 + (Int.tmod (wrap64 (a1)) 9))) != 0) = true := bne_iff_ne.mpr c3
    by_cases c4 : 65 ≤ 35184372088832
    · rw [if_pos c4] at H
      have c4b0 := eq_true c4
      have c4b1 : decide (65 ≤ 35184372088832) = true := decide_eq_true c4
      clear c4
      obtain ⟨y311, hy311⟩ : ∃ y_ : List Int, y_ = (List.replicate 65 0) := ⟨_, rfl⟩
      replace H : (wringerlaw8_MergeSteep.l0 k (wrap64 (7 + (Int.tmod (wrap64 (a1)) 9))) (wrap64 (2 + (Int.tmod (wrap64 (a0)) (wrap64 (7 + (Int.tmod (wrap64 (a1)) 9)))))) y311 0) = some r := by first | (rw [hy311]; with_reducible exact H) | (have H2_ := (Option.bind_some _ _).symm.trans H; rw [hy311]; with_reducible exact H2_) | (have H2_ := (Option.bind_some _ _).symm.trans H; with_reducible exact H2_) | with_reducible exact H | (rw [hy311]; exact H) | exact H
      have Ny311 := Aside0.mk hy311
      clear hy311
      have H' := Aside0.mk H
      clear H
      go_enter Try.func8, Try.ntmps8
      go_wp2_with (first | ((with_reducible refine gate_dst (N := 22) rfl ?_); (try (refine gate_guard (by rfl) ?_; dsimp only)); refine Kd.R_make (Kd.int .i64) _ 3 rfl (N := 22) rfl 22 _ _ rfl 65 rfl rfl Try.underlying22 (.int .i64 0) 8 info3 rfl (by decide) (by omega) 0 (ok := fun _ => True) (okp := fun _ => True) rfl (fun _ hk => hk) trivial (by omega) (by omega) (Below.refl _ _) (Nat.le_refl _) ?_; intro v312 w5 ho6 hb hg_ hnew_; clear hg_ hnew_; (first | rw [← Ny311.out] at ho6 | (simp only [Int.reduceToNat] at ho6; rw [← Ny311.out] at ho6)); have n0_ := Aside0.mk (Kd.R_lower ho6 (below_size (by repeat (first | (with_reducible first | exact HB.out | apply below_alloc | apply pw_below_drewN | apply below_drew1) | exact HB.out)))); have n1_ := Aside0.mk (below_step (by repeat (first | (with_reducible first | exact HB.out | apply below_alloc | apply pw_below_drewN | apply below_drew1) | exact HB.out)) hb); clear HB; have HO313 := n0_; have HB := n1_; clear n0_ n1_; clear hb ho6))
      go_loopg [8] k (fun kq v8 w' => ∃ (x7_1 : List Int) (x8_1 : Int), v8 = .int .i64 x8_1 ∧ Aside0 (wringerlaw8_MergeSteep.l0 kq (wrap64 (7 + (Int.tmod (wrap64 (a1)) 9))) (wrap64 (2 + (Int.tmod (wrap64 (a0)) (wrap64 (7 + (Int.tmod (wrap64 (a1)) 9)))))) x7_1 x8_1 = some r) ∧ Aside0 (kq ≤ k) ∧ Aside0 (Kd.R (Kd.int .i64) 3 w' w.heap.size (fun _ => True) v312 x7_1) ∧ Aside0 (Below w.heap.size w w'))
      case atStart => exact ⟨(y311), (0), (by first | rfl | (simp; done) | (simp [*]; done)), H', ⟨Nat.le_refl _⟩, ⟨by (with_reducible repeat (first | apply Kd.R_alloc | apply Kd.R_drewN | apply Kd.R_drew)); exact HO313.out⟩, ⟨by repeat (first | (with_reducible first | exact HB.out | apply below_alloc | apply pw_below_drewN | apply below_drew1) | exact HB.out)⟩⟩
      case round =>
        clear H'
        try clear p2
        try clear c3
        try clear c3b0
        try clear c3b1
        try clear c4
        try clear c4b0
        try clear c4b1
        try clear p6
        obtain ⟨x7_1, x8_1, rfl, HA, HK1, HO_7, HB⟩ := hrel
        cases gk with
        | zero => exact absurd HA.out (by simp [wringerlaw8_MergeSteep.l0])
        | succ k1 =>
          have H := HA.out
          clear HA
          simp only [wringerlaw8_MergeSteep.l0] at H
          by_cases c7 : x8_1 < (wrap64 (2 + (Int.tmod (wrap64 (a0)) (wrap64 (7 + (Int.tmod (wrap64 (a1)) 9))))))
          · rw [if_pos c7] at H
            have c7b0 : decide (x8_1 < (wrap64 (2 + (Int.tmod (wrap64 (a0)) (wrap64 (7 + (Int.tmod (wrap64 (a1)) 9))))))) = true := decide_eq_true c7
            clear c7
            by_cases c8 : 0 ≤ x8_1
            · rw [if_pos c8] at H
              have c8b0 := eq_true c8
              have c8b1 : decide (0 ≤ x8_1) = true := decide_eq_true c8
              clear c8
              obtain ⟨ji9, hji9⟩ : ∃ j_ : Int, (shl .i64 1 x8_1) = j_ := ⟨_, rfl⟩
              replace H : (if 0 ≤ (Int.tmod (wrap64 (x8_1 * 4)) 65) then (if (Int.tmod (wrap64 (x8_1 * 4)) 65) < (x7_1.length : Int) then (wringerlaw8_MergeSteep.l0 k1 (wrap64 (7 + (Int.tmod (wrap64 (a1)) 9))) (wrap64 (2 + (Int.tmod (wrap64 (a0)) (wrap64 (7 + (Int.tmod (wrap64 (a1)) 9)))))) (x7_1.set ((Int.tmod (wrap64 (x8_1 * 4)) 65) : Int).toNat (ji9)) (wrap64 (x8_1 + 1))) else (none)) else (none)) = some r := by first | (rw [hji9] at H; exact H) | (simp only [hji9] at H ⊢; exact H)
              have hji9_ : (IntKind.i64.wrap (1 * 2 ^ min x8_1.toNat 64)) = ji9 := hji9
              have hji9z : x8_1 ≤ 64 → (IntKind.i64.wrap (1 * 2 ^ x8_1.toNat)) = ji9 := shl_small hji9
              have hji9u : (IntKind.i64.wrap (2 ^ min x8_1.toNat 64)) = ji9 := by have h_ := hji9_; rw [Int.one_mul] at h_; exact h_
              have hji9v : x8_1 ≤ 64 → (IntKind.i64.wrap (2 ^ x8_1.toNat)) = ji9 := fun hle_ => by have h_ := hji9z hle_; rw [Int.one_mul] at h_; exact h_
              have hji9y : (wrap64 (1 * 2 ^ min x8_1.toNat 64)) = ji9 := (i64_w _).symm.trans hji9_
              have hji9x : x8_1 ≤ 64 → (wrap64 (1 * 2 ^ x8_1.toNat)) = ji9 := fun h_ => (i64_w _).symm.trans (hji9z h_)
              obtain ⟨ji10, hji10⟩ : ∃ j_ : Int, (Int.tmod (wrap64 (x8_1 * 4)) 65) = j_ := ⟨_, rfl⟩
              replace H : (if 0 ≤ (ji10) then (if (ji10) < (x7_1.length : Int) then (wringerlaw8_MergeSteep.l0 k1 (wrap64 (7 + (Int.tmod (wrap64 (a1)) 9))) (wrap64 (2 + (Int.tmod (wrap64 (a0)) (wrap64 (7 + (Int.tmod (wrap64 (a1)) 9)))))) (x7_1.set ((ji10) : Int).toNat (ji9)) (wrap64 (x8_1 + 1))) else (none)) else (none)) = some r := by first | (rw [hji10] at H; exact H) | (simp only [hji10] at H ⊢; exact H)
              by_cases c11 : 0 ≤ (ji10)
              · rw [if_pos c11] at H
                have c11b0 : decide (0 ≤ (ji10)) = true := decide_eq_true c11
                clear c11
                by_cases c12 : (ji10) < (x7_1.length : Int)
                · rw [if_pos c12] at H
                  have c12b0 : decide ((ji10) < (x7_1.length : Int)) = true := decide_eq_true c12
                  clear c12
                  obtain ⟨y314, hy314⟩ : ∃ y_ : List Int, y_ = (x7_1.set ((ji10) : Int).toNat (ji9)) := ⟨_, rfl⟩
                  replace H : (wringerlaw8_MergeSteep.l0 k1 (wrap64 (7 + (Int.tmod (wrap64 (a1)) 9))) (wrap64 (2 + (Int.tmod (wrap64 (a0)) (wrap64 (7 + (Int.tmod (wrap64 (a1)) 9)))))) y314 (wrap64 (x8_1 + 1))) = some r := by first | (rw [hy314]; with_reducible exact H) | (have H2_ := (Option.bind_some _ _).symm.trans H; rw [hy314]; with_reducible exact H2_) | (have H2_ := (Option.bind_some _ _).symm.trans H; with_reducible exact H2_) | with_reducible exact H | (rw [hy314]; exact H) | exact H
                  have Ny314 := Aside0.mk hy314
                  clear hy314
                  have H' := Aside0.mk H
                  clear H
                  have p13 : 0 ≤ ((ji10) : Int) := of_decide_eq_true (by first | (with_reducible assumption) | assumption)
                  have q13 : ((ji10) : Int) < ((x7_1.length : Int) : Int) := of_decide_eq_true (by first | (with_reducible assumption) | assumption)
                  obtain ⟨go13, co13, eo13, gb13, gl13, cl13, HG13⟩ := Kd.R_form HO_7.out (by omega)
                  (first | cases eo13 | (injection eo13 with ea_ en_ ec_; (first | subst ea_ | (injection ea_ with ea_; subst ea_)); subst ec_; clear en_))
                  have GB13 := Aside0.mk gb13
                  have GG13 := Aside0.mk HG13
                  clear gb13 gl13 HG13
                  obtain ⟨hx13_0, hf13_0⟩ := Kd.R_celln 0 HO_7.out ((ji10) : Int) p13 q13
                  replace p13 := eq_true p13
                  replace q13 := eq_true q13
                  have HP14 := Kd.R_putg HO_7.out ((ji10) : Int) ji9
                  go_wp2_with (first | ((with_reducible refine gate_store (t := 3) (p := 34) rfl ?_); refine store_event (t := 3) (p := 34) (v := ?vo_w15) (w1 := (wr.setCell ⟨go13, ((ji10) : Int).toNat, none⟩ (.int .i64 ji9))) ?hg ?ho ?hn ?hr ?_; (case ho => rfl); (case hg => rfl); (case hn => rfl); (case hr => first | (go_simp; done) | (go_simp; rfl)); intro w15 hw; have hg : wr.grownBy w15 (some go13) := (by rw [hw]; exact HP14.2); have hp_ : Kd.R (Kd.int .i64) 3 w15 w.heap.size (fun _ => True) (.slice (some ⟨go13, 0, none⟩) x7_1.length co13) y314 := (by rw [hw, Ny314.out]; exact HP14.1); clear HP14; have n0_ := Aside0.mk (hp_); have n1_ := Aside0.mk ((by rw [hw]; exact below_set (HB.out) GB13.out : Below w.heap.size w w15)); clear HO_7; clear HB; have HO_7 := n0_; have HB := n1_; clear n0_ n1_; clear hg hw hp_))
                  go_roundg k1
                  case measure => have := HK1.out; omega
                  case rel => exact ⟨(y314), (wrap64 (x8_1 + 1)), (by first | rfl | (simp; done) | (simp [*]; done)), H', ⟨by have := HK1.out; omega⟩, ⟨by (with_reducible repeat (first | apply Kd.R_alloc | apply Kd.R_drewN | apply Kd.R_drew)); exact HO_7.out⟩, ⟨by repeat (first | (with_reducible first | exact HB.out | apply below_alloc | apply pw_below_drewN | apply below_drew1) | exact HB.out)⟩⟩
                · rw [if_neg c12] at H
                  exact absurd H (by simp)
              · rw [if_neg c11] at H
                exact absurd H (by simp)
            · rw [if_neg c8] at H
              exact absurd H (by simp)
          · rw [if_neg c7] at H
            have c7b0 : decide (x8_1 < (wrap64 (2 + (Int.tmod (wrap64 (a0)) (wrap64 (7 + (Int.tmod (wrap64 (a1)) 9))))))) = false := decide_eq_false c7
            clear c7
            replace H := Option.bind_eq_some_iff.mp H
            obtain ⟨⟨t315, t316⟩, A160, H⟩ := H
            replace H : ((wringerlaw1_Err.f t316).bind fun t319 => (if t319 = 0 then (wringerlaw8_MergeSteep.j1 k1 (wrap64 (2 + (Int.tmod (wrap64 (a0)) (wrap64 (7 + (Int.tmod (wrap64 (a1)) 9)))))) t315 ((t315.length : Int) != 65)) else (wringerlaw8_MergeSteep.j1 k1 (wrap64 (2 + (Int.tmod (wrap64 (a0)) (wrap64 (7 + (Int.tmod (wrap64 (a1)) 9)))))) t315 true))) = some r := H
            have A16 := Aside0.mk A160
            clear A160
            have HC17 := Aside0.mk H
            clear H
            obtain ⟨Ao18, co18, eo18⟩ := Kd.R_slice HO_7.out
            subst eo18
            go_upto_region 9 with (first | ((with_reducible refine gate_callee (f := 11) rfl ?_); refine goesL_ (some 38) rfl rfl Try.func11 (by kernel_rfl) rfl #[.slice Ao18 x7_1.length co18, .int .i64 (wrap64 (7 + (Int.tmod (wrap64 (a1)) 9)))] rfl (by (try simp only [List.map_toArray, List.map_cons, List.map_nil]); first | done | rfl | (simp only [List.length_drop, List.length_take]; rfl)) ?_; (with_reducible refine (merge_Lengths.calls _ _ x7_1 (wrap64 (7 + (Int.tmod (wrap64 (a1)) 9))) t315 t316 _ ?side1 ?side2 A16.out).mono ?_); (case side1 => repeat (first | exact (Kd.R_reads' HO_7.out).2.2 | (with_reducible refine Kd.C_alloc ?_ _) | (with_reducible refine Kd.C_drewN ?_ _) | (with_reducible refine Kd.C_drew ?_))); (case side2 => exact (Kd.R_reads' HO_7.out).2.1); rintro e w19 ⟨v317, rfl, ho0, hb⟩; refine ⟨_, rfl, ?_⟩; have n0_ := Aside0.mk (Kd.R_elder' (by (with_reducible repeat (first | apply Kd.R_alloc | apply Kd.R_drewN | apply Kd.R_drew)); exact HO_7.out) (Kd.R_base ho0) hb); have n1_ := Aside0.mk (Kd.R_lower (Kd.R_new' ho0 (Kd.R_lt (by (with_reducible repeat (first | apply Kd.R_alloc | apply Kd.R_drewN | apply Kd.R_drew)); exact HO_7.out))) (below_size (by repeat (first | (with_reducible first | exact HB.out | apply below_alloc | apply pw_below_drewN | apply below_drew1) | exact HB.out)))); have n2_ := Aside0.mk (below_step (by repeat (first | (with_reducible first | exact HB.out | apply below_alloc | apply pw_below_drewN | apply below_drew1) | exact HB.out)) hb); clear HO_7; clear HB; have HO_7 := n0_; have HO318 := n1_; have HB := n2_; clear n0_ n1_ n2_; (try clear hb); (try clear hb2); (try clear hk); (try clear hi); (try clear ho0)))
            (try simp only [Act.put, List.setIfInBounds_toArray, List.set_cons_zero, List.set_cons_succ])
            go_cut [48] (fun v48 wc => ∃ (kq : Nat) (x48_16 : Bool), v48 = .bool x48_16 ∧ Aside0 (wringerlaw8_MergeSteep.j1 kq (wrap64 (2 + (Int.tmod (wrap64 (a0)) (wrap64 (7 + (Int.tmod (wrap64 (a1)) 9)))))) t315 x48_16 = some r) ∧ Aside0 (kq ≤ k1) ∧ Aside0 (Kd.R (Kd.int .i64) 3 wc w.heap.size (fun _ => True) v317 t315) ∧ Aside0 (Below w.heap.size w wc))
            case first =>
              have H := HC17.out
              clear HC17
              replace H := Option.bind_eq_some_iff.mp H
              obtain ⟨t319, A200, H⟩ := H
              replace H : (if t319 = 0 then (wringerlaw8_MergeSteep.j1 k1 (wrap64 (2 + (Int.tmod (wrap64 (a0)) (wrap64 (7 + (Int.tmod (wrap64 (a1)) 9)))))) t315 ((t315.length : Int) != 65)) else (wringerlaw8_MergeSteep.j1 k1 (wrap64 (2 + (Int.tmod (wrap64 (a0)) (wrap64 (7 + (Int.tmod (wrap64 (a1)) 9)))))) t315 true)) = some r := H
              have A20 := Aside0.mk A200
              clear A200
              by_cases c21 : t319 = 0
              · rw [if_pos c21] at H
                have c21b0 : (t319 == 0) = true := beq_iff_eq.mpr c21
                have c21b1 : (t319 != 0) = false := bne_eq_false_iff_eq.mpr c21
                clear c21
                (first | rw [c21b0] | (simp only [i64_w, i32_w]; rw [c21b0]) | skip)
                have H' := Aside0.mk H
                clear H
                go_wp2_with (first | ((with_reducible refine gate_callee (f := 14) rfl ?_); refine goesL_ (some 42) rfl rfl Try.func14 (by kernel_rfl) rfl #[.int .i64 t316] rfl (by (try simp only [List.map_toArray, List.map_cons, List.map_nil]); first | done | rfl | (simp only [List.length_drop, List.length_take]; rfl)) ?_; (with_reducible refine (wringerlaw1_Err.calls t316 t319 _ A20.out).mono ?_); rintro e w' ⟨rfl, ⟨nd, rfl⟩⟩; refine ⟨_, rfl, ?_⟩; obtain ⟨Ao22, co22, eo22⟩ := Kd.R_slice HO318.out; subst eo22))
                go_meet
                case rel => exact ⟨_, (((t315.length : Int) != 65)), (by first | rfl | (simp; done) | (simp [*]; done)), H', ⟨by have := HK1.out; first | omega | exact Nat.le_refl _⟩, ⟨by (with_reducible repeat (first | apply Kd.R_alloc | apply Kd.R_drewN | apply Kd.R_drew)); exact Kd.R_mono HO318.out (fun _ hk => trivial)⟩, ⟨by repeat (first | (with_reducible first | exact HB.out | apply below_alloc | apply pw_below_drewN | apply below_drew1) | exact HB.out)⟩⟩
              · rw [if_neg c21] at H
                have c21b0 : (t319 == 0) = false := beq_eq_false_iff_ne.mpr c21
                have c21b1 : (t319 != 0) = true := bne_iff_ne.mpr c21
                (first | rw [c21b0] | (simp only [i64_w, i32_w]; rw [c21b0]) | skip)
                have H' := Aside0.mk H
                clear H
                go_wp2_with (first | ((with_reducible refine gate_callee (f := 14) rfl ?_); refine goesL_ (some 42) rfl rfl Try.func14 (by kernel_rfl) rfl #[.int .i64 t316] rfl (by (try simp only [List.map_toArray, List.map_cons, List.map_nil]); first | done | rfl | (simp only [List.length_drop, List.length_take]; rfl)) ?_; (with_reducible refine (wringerlaw1_Err.calls t316 t319 _ A20.out).mono ?_); rintro e w' ⟨rfl, ⟨nd, rfl⟩⟩; refine ⟨_, rfl, ?_⟩))
                go_meet
                case rel => exact ⟨_, (true), (by first | rfl | (simp; done) | (simp [*]; done)), H', ⟨by have := HK1.out; first | omega | exact Nat.le_refl _⟩, ⟨by (with_reducible repeat (first | apply Kd.R_alloc | apply Kd.R_drewN | apply Kd.R_drew)); exact Kd.R_mono HO318.out (fun _ hk => trivial)⟩, ⟨by repeat (first | (with_reducible first | exact HB.out | apply below_alloc | apply pw_below_drewN | apply below_drew1) | exact HB.out)⟩⟩
            case rest =>
              clear HC17
              try clear c1
              try clear p1
              try clear q1
              try clear hx1
              try clear c2
              try clear p2
              try clear c3
              try clear c3b0
              try clear c3b1
              try clear c4
              try clear c4b0
              try clear c4b1
              try clear p6
              try clear c7
              try clear c7b0
              try clear c8
              try clear c8b0
              try clear c8b1
              try clear c11
              try clear c11b0
              try clear c12
              try clear c12b0
              try clear p13
              try clear q13
              try clear hx13
              try clear hf13
              try clear c14
              try clear c21
              try clear c21b0
              try clear c21b1
              try clear hx13_0
              try clear p13
              try clear p2
              try clear p6
              try clear q13
              obtain ⟨kq, x48_16, rfl, HA, HJ16, HO_9, HB⟩ := hcut
              cases kq with
              | zero => exact absurd HA.out (by simp [wringerlaw8_MergeSteep.j1])
              | succ kj16 =>
                have H := HA.out
                clear HA
                simp only [wringerlaw8_MergeSteep.j1] at H
                by_cases c23 : x48_16 = true
                · subst c23
                  have H1 : (some false) = some r := by rw [if_pos rfl] at H; exact H
                  clear H
                  have H := H1
                  clear H1
                  obtain rfl := Option.some.inj H
                  go_wp2
                  go_ret
                  exact ⟨by first | rfl | (simp [errW_none, errW_some] <;> rfl) | (simp [*, errW_none, errW_some] <;> rfl), by repeat (first | (with_reducible first | exact HB.out | apply below_alloc | apply pw_below_drewN | apply below_drew1) | exact HB.out)⟩
                · replace c23 := Bool.eq_false_iff.mpr c23
                  subst c23
                  have H1 : (wringerlaw8_MergeSteep.l1 kj16 (wrap64 (2 + (Int.tmod (wrap64 (a0)) (wrap64 (7 + (Int.tmod (wrap64 (a1)) 9)))))) t315 0) = some r := by rw [if_neg (show ¬ (false = true) by decide)] at H; exact H
                  clear H
                  have H := H1
                  clear H1
                  have H' := Aside0.mk H
                  clear H
                  go_wp2
                  go_loopg [11] kj16 (fun kq v11 w' => ∃ (x11_3 : Int), v11 = .int .i64 x11_3 ∧ Aside0 (wringerlaw8_MergeSteep.l1 kq (wrap64 (2 + (Int.tmod (wrap64 (a0)) (wrap64 (7 + (Int.tmod (wrap64 (a1)) 9)))))) t315 x11_3 = some r) ∧ Aside0 (kq ≤ kj16) ∧ Aside0 (Kd.R (Kd.int .i64) 3 w' w.heap.size (fun _ => True) v317 t315) ∧ Aside0 (Below w.heap.size w w'))
                  case atStart => exact ⟨(0), (by first | rfl | (simp; done) | (simp [*]; done)), H', ⟨Nat.le_refl _⟩, ⟨by (with_reducible repeat (first | apply Kd.R_alloc | apply Kd.R_drewN | apply Kd.R_drew)); exact HO_9.out⟩, ⟨by repeat (first | (with_reducible first | exact HB.out | apply below_alloc | apply pw_below_drewN | apply below_drew1) | exact HB.out)⟩⟩
                  case round =>
                    clear H'
                    try clear c1
                    try clear p1
                    try clear q1
                    try clear hx1
                    try clear c2
                    try clear p2
                    try clear c3
                    try clear c3b0
                    try clear c3b1
                    try clear c4
                    try clear c4b0
                    try clear c4b1
                    try clear p6
                    try clear c7
                    try clear c7b0
                    try clear c8
                    try clear c8b0
                    try clear c8b1
                    try clear c11
                    try clear c11b0
                    try clear c12
                    try clear c12b0
                    try clear p13
                    try clear q13
                    try clear hx13
                    try clear hf13
                    try clear c14
                    try clear c21
                    try clear c21b0
                    try clear c21b1
                    try clear c23
                    try clear hx13_0
                    try clear p1
                    try clear p13
                    try clear p2
                    try clear p6
                    try clear q1
                    try clear q13
                    obtain ⟨x11_3, rfl, HA, HK3, HO_9, HB⟩ := hrel
                    cases gk with
                    | zero => exact absurd HA.out (by simp [wringerlaw8_MergeSteep.l1])
                    | succ k3 =>
                      have H := HA.out
                      clear HA
                      simp only [wringerlaw8_MergeSteep.l1] at H
                      by_cases c24 : x11_3 < (wrap64 (2 + (Int.tmod (wrap64 (a0)) (wrap64 (7 + (Int.tmod (wrap64 (a1)) 9))))))
                      · rw [if_pos c24] at H
                        have c24b0 : decide (x11_3 < (wrap64 (2 + (Int.tmod (wrap64 (a0)) (wrap64 (7 + (Int.tmod (wrap64 (a1)) 9))))))) = true := decide_eq_true c24
                        clear c24
                        obtain ⟨ji25, hji25⟩ : ∃ j_ : Int, (mn (wrap64 ((wrap64 (2 + (Int.tmod (wrap64 (a0)) (wrap64 (7 + (Int.tmod (wrap64 (a1)) 9)))))) - x11_3)) (wrap64 ((wrap64 (2 + (Int.tmod (wrap64 (a0)) (wrap64 (7 + (Int.tmod (wrap64 (a1)) 9)))))) - 1))) = j_ := ⟨_, rfl⟩
                        replace H : (if 0 ≤ (Int.tmod (wrap64 (x11_3 * 4)) 65) then (if (Int.tmod (wrap64 (x11_3 * 4)) 65) < (t315.length : Int) then (if (rd t315 (Int.tmod (wrap64 (x11_3 * 4)) 65)) = (ji25) then (wringerlaw8_MergeSteep.l1 k3 (wrap64 (2 + (Int.tmod (wrap64 (a0)) (wrap64 (7 + (Int.tmod (wrap64 (a1)) 9)))))) t315 (wrap64 (x11_3 + 1))) else (some false)) else (none)) else (none)) = some r := by first | (rw [hji25] at H; exact H) | (simp only [hji25] at H ⊢; exact H)
                        have hji25_ : (if (wrap64 ((wrap64 (2 + (Int.tmod (wrap64 (a0)) (wrap64 (7 + (Int.tmod (wrap64 (a1)) 9)))))) - 1)) < (wrap64 ((wrap64 (2 + (Int.tmod (wrap64 (a0)) (wrap64 (7 + (Int.tmod (wrap64 (a1)) 9)))))) - x11_3)) then (wrap64 ((wrap64 (2 + (Int.tmod (wrap64 (a0)) (wrap64 (7 + (Int.tmod (wrap64 (a1)) 9)))))) - 1)) else (wrap64 ((wrap64 (2 + (Int.tmod (wrap64 (a0)) (wrap64 (7 + (Int.tmod (wrap64 (a1)) 9)))))) - x11_3))) = ji25 := hji25
                        obtain ⟨ji26, hji26⟩ : ∃ j_ : Int, (Int.tmod (wrap64 (x11_3 * 4)) 65) = j_ := ⟨_, rfl⟩
                        replace H : (if 0 ≤ (ji26) then (if (ji26) < (t315.length : Int) then (if (rd t315 (ji26)) = (ji25) then (wringerlaw8_MergeSteep.l1 k3 (wrap64 (2 + (Int.tmod (wrap64 (a0)) (wrap64 (7 + (Int.tmod (wrap64 (a1)) 9)))))) t315 (wrap64 (x11_3 + 1))) else (some false)) else (none)) else (none)) = some r := by first | (rw [hji26] at H; exact H) | (simp only [hji26] at H ⊢; exact H)
                        by_cases c27 : 0 ≤ (ji26)
                        · rw [if_pos c27] at H
                          have c27b0 : decide (0 ≤ (ji26)) = true := decide_eq_true c27
                          clear c27
                          by_cases c28 : (ji26) < (t315.length : Int)
                          · rw [if_pos c28] at H
                            have c28b0 : decide ((ji26) < (t315.length : Int)) = true := decide_eq_true c28
                            clear c28
                            by_cases c29 : (rd t315 (ji26)) = (ji25)
                            · rw [if_pos c29] at H
                              have c29b0 : ((rd t315 (ji26)) == (ji25)) = true := beq_iff_eq.mpr c29
                              have c29b1 : ((rd t315 (ji26)) != (ji25)) = false := bne_eq_false_iff_eq.mpr c29
                              clear c29
                              have H' := Aside0.mk H
                              clear H
                              obtain ⟨Ao30, co30, eo30⟩ := Kd.R_slice HO_9.out
                              subst eo30
                              have p320 : 0 ≤ ((ji26) : Int) := of_decide_eq_true (by first | (with_reducible assumption) | assumption)
                              have q320 : (ji26) < (t315.length : Int) := of_decide_eq_true (by first | (with_reducible assumption) | assumption)
                              obtain ⟨ad320, e320, hx320_0⟩ := Kd.at_int (Kd.R_reads' HO_9.out).2.2 (ji26) p320 q320
                              cases e320
                              replace p320 := eq_true p320
                              replace q320 := eq_true q320
                              go_wp2
                              go_roundg k3
                              case measure => have := HK1.out; have := HJ16.out; have := HK3.out; omega
                              case rel => exact ⟨(wrap64 (x11_3 + 1)), (by first | rfl | (simp; done) | (simp [*]; done)), H', ⟨by have := HK1.out; have := HJ16.out; have := HK3.out; omega⟩, ⟨by (with_reducible repeat (first | apply Kd.R_alloc | apply Kd.R_drewN | apply Kd.R_drew)); exact HO_9.out⟩, ⟨by repeat (first | (with_reducible first | exact HB.out | apply below_alloc | apply pw_below_drewN | apply below_drew1) | exact HB.out)⟩⟩
                            · rw [if_neg c29] at H
                              have c29b0 : ((rd t315 (ji26)) == (ji25)) = false := beq_eq_false_iff_ne.mpr c29
                              have c29b1 : ((rd t315 (ji26)) != (ji25)) = true := bne_iff_ne.mpr c29
                              obtain rfl := Option.some.inj H
                              obtain ⟨Ao31, co31, eo31⟩ := Kd.R_slice HO_9.out
                              subst eo31
                              have p320 : 0 ≤ ((ji26) : Int) := of_decide_eq_true (by first | (with_reducible assumption) | assumption)
                              have q320 : (ji26) < (t315.length : Int) := of_decide_eq_true (by first | (with_reducible assumption) | assumption)
                              obtain ⟨ad320, e320, hx320_0⟩ := Kd.at_int (Kd.R_reads' HO_9.out).2.2 (ji26) p320 q320
                              cases e320
                              replace p320 := eq_true p320
                              replace q320 := eq_true q320
                              go_wp2
                              go_ret
                              exact ⟨by first | rfl | (simp [errW_none, errW_some] <;> rfl) | (simp only [← hji25, ← hji26]; first | rfl | (simp [errW_none, errW_some] <;> rfl)) | (simp [*, errW_none, errW_some] <;> rfl), by repeat (first | (with_reducible first | exact HB.out | apply below_alloc | apply pw_below_drewN | apply below_drew1) | exact HB.out)⟩
                          · rw [if_neg c28] at H
                            exact absurd H (by simp)
                        · rw [if_neg c27] at H
                          exact absurd H (by simp)
                      · rw [if_neg c24] at H
                        have c24b0 : decide (x11_3 < (wrap64 (2 + (Int.tmod (wrap64 (a0)) (wrap64 (7 + (Int.tmod (wrap64 (a1)) 9))))))) = false := decide_eq_false c24
                        clear c24
                        replace H := Option.bind_eq_some_iff.mp H
                        obtain ⟨t321, A320, H⟩ := H
                        replace H : (some t321) = some r := H
                        have A32 := Aside0.mk A320
                        clear A320
                        obtain rfl := Option.some.inj H
                        go_wp2_with (first | ((with_reducible refine gate_callee (f := 10) rfl ?_); refine goesL_ (some 68) rfl rfl Try.func10 (by kernel_rfl) rfl #[] rfl (by (try simp only [List.map_toArray, List.map_cons, List.map_nil]); first | done | rfl | (simp only [List.length_drop, List.length_take]; rfl)) ?_; (with_reducible refine (wringerlaw8_awake.calls  t321 _ A32.out).mono ?_); rintro e w33 ⟨rfl, hb⟩; refine ⟨_, rfl, ?_⟩; have n0_ := Aside0.mk (Kd.R_below (by (with_reducible repeat (first | apply Kd.R_alloc | apply Kd.R_drewN | apply Kd.R_drew)); exact HO_9.out) hb); have n1_ := Aside0.mk (below_step (by repeat (first | (with_reducible first | exact HB.out | apply below_alloc | apply pw_below_drewN | apply below_drew1) | exact HB.out)) hb); clear HO_9; clear HB; have HO_9 := n0_; have HB := n1_; clear n0_ n1_; (try clear hb); (try clear hb2); (try clear hk); (try clear hi)))
                        go_ret
                        exact ⟨by first | rfl | (simp [errW_none, errW_some] <;> rfl) | (simp [*, errW_none, errW_some] <;> rfl), by repeat (first | (with_reducible first | exact HB.out | apply below_alloc | apply pw_below_drewN | apply below_drew1) | exact HB.out)⟩
    · rw [if_neg c4] at H
      exact absurd H (by simp)

/-- THE ONE PURE STATEMENT of wringerlaw8_MergeSteep: yours. -/
def wringerlaw8_MergeSteep.Pure : Prop := ∀ (a0 : Int) (a1 : Int), (Lit.int .u8 a0).wf = true → (Lit.int .u8 a1).wf = true → ∃ k, wringerlaw8_MergeSteep.f k a0 a1 = some true
theorem wringerlaw8_MergeSteep.walk (P : wringerlaw8_MergeSteep.Pure) (a0 : Int) (a1 : Int) (w : World) (w0 : (Lit.int .u8 a0).wf = true) (w1 : (Lit.int .u8 a1).wf = true) :
    Calls Try.prog 8 #[.int .u8 a0, .int .u8 a1] w fun e w' => e = .returned (.bool true) ∧ Below w.heap.size w w' := by
  obtain ⟨k, h⟩ := P a0 a1 w0 w1
  refine (wringerlaw8_MergeSteep.calls k a0 a1 true w h).mono ?_
  rintro e w' ⟨rfl, hd⟩
  exact ⟨rfl, hd⟩

end Go.Proofs.Ytejecpmfhgplmaa.PA

-- ---- PureMergeSteep
/- Of frequencies each more than all ahead together, as few as the limit lets, each is one longer than the next one: the plain statement of MergeSteep holds for every input. Conditions: none. -/
namespace Go.Proofs.Ytejecpmfhgplmaa.Pure
open Go.RowKit Go.Proofs.Ytejecpmfhgplmaa.PA Go.Proofs.YtejecpmfhgplmaaW.PrintWords Go.Proofs.YtejecpmfhgplmaaW.PrintLast Go.Proofs.YtejecpmfhgplmaaW.PrintMore Dp
set_option linter.unusedVariables false
set_option linter.unusedSimpArgs false

def steepF (m : Nat) : List Int := (List.range m).foldl (fun f i => f.set (i * 4) ((2 ^ i : Nat) : Int)) (List.replicate 65 0)
theorem steepF_succ (m : Nat) : steepF (m + 1) = (steepF m).set (m * 4) ((2 ^ m : Nat) : Int) := by unfold steepF; rw [List.range_succ, List.foldl_append]; rfl
theorem length_steepF (m : Nat) : (steepF m).length = 65 := by
  induction m with
  | zero => rfl
  | succ m ih => rw [steepF_succ, List.length_set, ih]
theorem steep_each (m : Nat) (h : m ≤ 16) : ∀ x ∈ steepF m, 0 ≤ x ∧ x ≤ 16777216 := by
  induction m with
  | zero => intro x hx; rw [show steepF 0 = List.replicate 65 0 from rfl] at hx; rw [(List.mem_replicate.1 hx).2]; decide
  | succ m ih =>
    intro x hx
    rw [steepF_succ] at hx
    rcases List.mem_or_eq_of_mem_set hx with hx | rfl
    · exact ih (by omega) x hx
    · have h2 : 2 ^ m ≤ 32768 := Nat.le_trans (Nat.pow_le_pow_right (by decide) (show m ≤ 15 by omega)) (by decide)
      exact ⟨Int.natCast_nonneg _, Int.le_trans (Int.ofNat_le.2 h2) (by decide)⟩
def steepOk (k m : Nat) : Bool := decide (∀ i, i < m → (lenL (steepF m) k).getD (i * 4) 0 = ((min (m - i) (m - 1) : Nat) : Int))
set_option maxRecDepth 100000 in
theorem steep_all : (List.range 9).all (fun k => (List.range (k + 7)).all fun m => steepOk (k + 7) (m + 2)) = true := by decide +kernel
theorem steep_is {k m : Nat} (h7 : 7 ≤ k) (h15 : k ≤ 15) (hm2 : 2 ≤ m) (hmk : m ≤ k + 1) : ∀ i, i < m → (lenL (steepF m) k).getD (i * 4) 0 = ((min (m - i) (m - 1) : Nat) : Int) := by
  have h := steep_all
  rw [List.all_eq_true] at h
  have h2 := h (k - 7) (List.mem_range.2 (by omega))
  rw [show k - 7 + 7 = k by omega, List.all_eq_true] at h2
  have h3 := h2 (m - 2) (List.mem_range.2 (by omega))
  rw [show m - 2 + 2 = m by omega] at h3
  unfold steepOk at h3
  exact of_decide_eq_true h3

theorem steep_l1 (k m : Nat) (h7 : 7 ≤ k) (h15 : k ≤ 15) (hm2 : 2 ≤ m) (hmk : m ≤ k + 1) : ∀ (d i : Nat), i + d = m → Ev (fun n => wringerlaw8_MergeSteep.l1 n (m : Int) (lenL (steepF m) k) (i : Int)) true := by
  intro d
  induction d with
  | zero =>
    intro i hi
    exact Ev.step (f := fun _ => (wringerlaw8_awake.f).bind fun t => some t) (fun n => by simp only [wringerlaw8_MergeSteep.l1]; rw [if_neg (by omega)]) (Ev.bind0 awake8 (Ev.now _))
  | succ d ih =>
    intro i hi
    have hs := steep_is h7 h15 hm2 hmk i (by omega)
    have hl := length_lenL (steepF m) k
    have w1 : wrap64 ((i : Int) + 1) = ((i + 1 : Nat) : Int) := by rw [w64 (by omega) (by omega)]; rfl
    have w2 : wrap64 ((i : Int) * 4) = ((i * 4 : Nat) : Int) := by rw [w64 (by omega) (by omega)]; rfl
    have e1 : Int.tmod ((i * 4 : Nat) : Int) 65 = ((i * 4 : Nat) : Int) := by
      have := tmod_nat (i * 4) 65
      rw [show i * 4 % 65 = i * 4 by omega] at this; exact this
    have w3 : wrap64 ((m : Int) - (i : Int)) = (m : Int) - (i : Int) := w64 (by omega) (by omega)
    have w4 : wrap64 ((m : Int) - 1) = (m : Int) - 1 := w64 (by omega) (by omega)
    have e2 : mn ((m : Int) - (i : Int)) ((m : Int) - 1) = ((min (m - i) (m - 1) : Nat) : Int) := by rw [mn_min]; omega
    refine Ev.step (f := fun n => wringerlaw8_MergeSteep.l1 n (m : Int) (lenL (steepF m) k) ((i + 1 : Nat) : Int)) (fun n => ?_) (ih (i + 1) (by omega))
    simp only [wringerlaw8_MergeSteep.l1]
    rw [w2, e1, rd_nat, hs, w3, w4, e2, w1, if_pos (by omega), if_pos (by omega), if_pos (by omega), if_pos rfl]

theorem steep_l0 (k m : Nat) (h7 : 7 ≤ k) (h15 : k ≤ 15) (hm2 : 2 ≤ m) (hmk : m ≤ k + 1) : ∀ (d i : Nat), i + d = m → Ev (fun n => wringerlaw8_MergeSteep.l0 n (k : Int) (m : Int) (steepF i) (i : Int)) true := by
  intro d
  induction d with
  | zero =>
    intro i hi
    have him : i = m := by omega
    subst him
    have hq : Fq (steepF i) k := ⟨length_steepF i, steep_each i (by omega), h7, h15⟩
    have hE := lenE_ok hq
    refine Ev.step (f := fun n => (merge_Lengths.f (steepF i) (k : Int)).bind fun bt317 => ((wringerlaw1_Err.f bt317.2).bind fun t321 => (if t321 = 0 then (wringerlaw8_MergeSteep.j1 n (i : Int) bt317.1 ((bt317.1.length : Int) != 65)) else (wringerlaw8_MergeSteep.j1 n (i : Int) bt317.1 true)))) (fun n => by
      simp only [wringerlaw8_MergeSteep.l0]; rw [if_neg (by omega)]) ?_
    refine Ev.bind0 (a := (lenL (steepF i) k, 0)) (by rw [mlen_f _ _ (by rw [length_steepF]; decide), hE]) (Ev.bind0 (a := (0 : Int)) rfl (Ev.ite_pos rfl ?_))
    rw [show ((((lenL (steepF i) k).length : Nat) : Int) != 65) = false by rw [length_lenL]; rfl]
    exact Ev.step (f := fun n => wringerlaw8_MergeSteep.l1 n (i : Int) (lenL (steepF i) k) ((0 : Nat) : Int)) (fun n => by simp only [wringerlaw8_MergeSteep.j1]; rw [if_neg (by simp)]; rfl) (steep_l1 k i h7 h15 hm2 hmk i 0 (by omega))
  | succ d ih =>
    intro i hi
    have w1 : wrap64 ((i : Int) + 1) = ((i + 1 : Nat) : Int) := by rw [w64 (by omega) (by omega)]; rfl
    have w2 : wrap64 ((i : Int) * 4) = ((i * 4 : Nat) : Int) := by rw [w64 (by omega) (by omega)]; rfl
    have e1 : Int.tmod ((i * 4 : Nat) : Int) 65 = ((i * 4 : Nat) : Int) := by
      have := tmod_nat (i * 4) 65
      rw [show i * 4 % 65 = i * 4 by omega] at this; exact this
    have hl := length_steepF i
    refine Ev.step (f := fun n => wringerlaw8_MergeSteep.l0 n (k : Int) (m : Int) (steepF (i + 1)) ((i + 1 : Nat) : Int)) (fun n => ?_) (ih (i + 1) (by omega))
    simp only [wringerlaw8_MergeSteep.l0]
    rw [w2, e1, w1, shl_1 i (by omega), if_pos (by omega), if_pos (by omega), if_pos (by omega), if_pos (by omega), Int.toNat_natCast, ← steepF_succ]

theorem MergeSteep : wringerlaw8_MergeSteep.Pure := by
  intro a0 a1 h0 h1
  apply Ev.rounds
  unfold wringerlaw8_MergeSteep.f
  simp only [Lit.wf, Bool.and_eq_true, decide_eq_true_eq] at h0 h1
  have b1 : IntKind.u8.min = 0 := rfl
  have b2 : IntKind.u8.max = 255 := rfl
  obtain ⟨n, hn⟩ : ∃ n : Nat, a0 = (n : Int) := ⟨a0.toNat, by omega⟩
  obtain ⟨v, hv⟩ : ∃ v : Nat, a1 = (v : Int) := ⟨a1.toNat, by omega⟩
  subst hn hv
  have hn2 : n ≤ 255 := by omega
  have hv2 : v ≤ 255 := by omega
  clear h0 h1 b1 b2
  obtain ⟨k, hk⟩ : ∃ k, k = 7 + v % 9 := ⟨_, rfl⟩
  have hkw : wrap64 (7 + Int.tmod (wrap64 (v : Int)) 9) = (k : Int) := by
    rw [w64 (x := (v : Int)) (by omega) (by omega), show Int.tmod (v : Int) 9 = ((v % 9 : Nat) : Int) from tmod_nat v 9, w64 (by omega) (by omega)]; omega
  have hk7 : 7 ≤ k := by omega
  have hk15 : k ≤ 15 := by omega
  obtain ⟨m, hm⟩ : ∃ m, m = 2 + n % k := ⟨_, rfl⟩
  have hlt : n % k < k := Nat.mod_lt _ (by omega)
  have hmw : wrap64 (2 + Int.tmod (wrap64 (n : Int)) (k : Int)) = (m : Int) := by
    rw [w64 (x := (n : Int)) (by omega) (by omega), tmod_nat n k, w64 (by omega) (by omega)]; omega
  rw [hkw, hmw]
  have hf := steep_l0 k m hk7 hk15 (by omega) (by omega) m 0 (by omega)
  exact Ev.ite_neg (by omega) (Ev.ite_pos (by decide) hf)
end Go.Proofs.Ytejecpmfhgplmaa.Pure

-- ---- LawMergeSteep

namespace Go.Proofs.Ytejecpmfhgplmaa.mergeSteep
open Go.ChangeShapes Go.WideShapes Go.ChangeAt Go.RowKit
open Go.ChangeMaps (open_string shut_string)
set_option linter.unusedVariables false
theorem own : ownKnob Try.prog.godebug = none := by kernel_rfl
set_option maxRecDepth 100000 in
theorem lifted (os : Os) (started : os.Started) (H : Type) (enc : TypeId × Value → H) :
    ReturnsInHanded {} Try.checked os 8 .any (Rows.mergeSteepSpec.pre6 enc Try.prog Try.f8 Rows.mergeSteepRow.domain false) (Rows.mergeSteepSpec.post enc Try.prog Try.f8 false true false false) := by
  refine returnsInHanded_of_change_sized (C := Try.checked) own started (by kernel_rfl) Try.func8
    (ChangeSpec.witness6 (enc := enc) (C := Try.checked) false ⟨#[], #[.int .u8 0, .int .u8 0], []⟩ 8 (by kernel_rfl) (by kernel_rfl) (by kernel_rfl) (by kernel_rfl)) ?_
  intro W base args ds gs before hval0 hW hcnd hsz0 _
  have hsz : (DataW.weightsEach Try.prog (Try.f8.params.toList ++ Rows.mergeSteepSpec.plain.varTypes Try.prog) (ds ++ gs)).all (· ≤ reachBytes) = true := hsz0
  have hval : ∀ (j : Nat) t v, Try.f8.params[j]? = some t → args[j]? = some v → Value.okWide Try.prog W .any base t v := hval0
  have hW' := hW
  obtain ⟨p, q, hA0, hV, rfl, hfz, hnd⟩ := hW
  have hA : DataW.TrodAll enc Try.prog W 0 (fun _ => true) true Try.f8.params.toList args.toList ds p := hA0
  rw [Try.params8] at hA hval hsz
  obtain ⟨v0, vs0, d0, ds0, p0, q0, hargs, rfl, rfl, h0, r0⟩ := trodAll_cons hA
  obtain ⟨v1, vs1, d1, ds1, p1, q1, rfl, rfl, rfl, h1, r1⟩ := trodAll_cons r0
  obtain ⟨rfl, rfl, rfl⟩ := trodAll_nil r1
  obtain rfl : args = #[v0, v1] := by cases args; simp_all
  obtain ⟨rfl, rfl⟩ := trodVars_none hV
  obtain ⟨a0, rfl, rfl, rfl, w0⟩ := open_int Try.underlying5 (hval 0 5 v0 rfl rfl) h0
  obtain ⟨a1, rfl, rfl, rfl, w1⟩ := open_int Try.underlying5 (hval 1 5 v1 rfl rfl) h1
  clear hA0 hval0 hsz0 hsz
  refine (PA.wringerlaw8_MergeSteep.walk Pure.MergeSteep a0 a1 W w0 w1).mono fun e W' ⟨he, bel⟩ => ?_
  subst he
  exact ⟨_, rfl, _, _, _, [], _, [], hW', trodAll_mk1 (shut_bool Try.underlying4 _), (trodAll_cons_mk (shut_int Try.underlying5 w0) (trodAll_cons_mk (shut_int Try.underlying5 w1) trodAll_mk0)), rfl, bel.frame _, fun h => by cases h⟩
theorem over : Rows.mergeSteepRow.holds Try.pinned (OpenSpec.ofChange Rows.mergeSteepSpec) :=
  OpenClaim.holds_of_wide 8 Try.f8 rfl rfl rfl rfl rfl rfl rfl ⟨rfl, rfl, rfl, rfl, rfl⟩ rfl rfl rfl rfl rfl (by kernel_rfl) Try.func8 (by kernel_rfl)
    (of_decide_eq_true (by kernel_rfl)) (by unfold Func.isWrapper; first | (rw [if_pos (by decide +kernel)]; kernel_rfl) | (rw [if_neg (by decide +kernel)]; exact ⟨rfl, rfl⟩))
    (fun os started H enc _ => lifted os started H enc)
theorem proved : Rows.MergeSteepSaid := over
#print axioms proved
end Go.Proofs.Ytejecpmfhgplmaa.mergeSteep
namespace Go.Proofs.Ytejecpmfhgplmaa
/-- The row, under a short name, for the claim. -/
theorem mergeSteep_holds : Rows.MergeSteepSaid := mergeSteep.proved
end Go.Proofs.Ytejecpmfhgplmaa
