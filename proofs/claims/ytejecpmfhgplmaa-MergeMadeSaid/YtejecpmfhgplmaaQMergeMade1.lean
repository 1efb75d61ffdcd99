/- Part MergeMade1 of what the layer's laws stand on: PAx25, PAx28, Nl, Uq, PureMergeMade, LawMergeMade. Written by a program (merge.py) out of this session's own texts and of what the kit's print wrote over stand-ins (sp.py). Conditions: those that each theorem names. -/
import Derived.Test.YtejecpmfhgplmaaQB2
import Derived.Test.YtejecpmfhgplmaaQB3
import Derived.Test.YtejecpmfhgplmaaQB1
import Derived.Test.YtejecpmfhgplmaaRows
import Derived.WalkKit
import Derived.ProofKit
import Derived.OpenShut
import Derived.ShutString
import Derived.ChangeOld
import Derived.Below
import Derived.SizedLaws
import Derived.Test.YtejecpmfhgplmaaWSized
-- ---- PAx25

namespace Go.Proofs.Ytejecpmfhgplmaa.PA
open Go.RowKit Go.Proofs.YtejecpmfhgplmaaW.PrintWords Go.Proofs.YtejecpmfhgplmaaW.PrintLast Go.Proofs.YtejecpmfhgplmaaW.PrintMore
attribute [local go_sem] max2_int min2_int max_two min_two max_three min_three max_four min_four   -- for this text's walks alone
set_option linter.unusedVariables false
set_option linter.unusedSimpArgs false

/-! ### wringerlaw8_Freq: function 17 -/
def wringerlaw8_Freq.l0 : Nat → List Int → List Int → Int → Option (List Int)
  | 0, _, _, _ => none
  | k + 1, x0, x3, x4 => if (wrap64 (x4 + 1)) < (x0.length : Int) then (if 0 ≤ x4 then (if x4 < (x0.length : Int) then (if 0 ≤ (wrap64 (x4 + 1)) then (if 0 ≤ (Int.tmod (IntKind.u16.wrap (Int.tdiv (rd x0 x4) 65)) 16) then (if 0 ≤ (Int.tmod (wrap64 (rd x0 x4)) 65) then (if (Int.tmod (wrap64 (rd x0 x4)) 65) < (x3.length : Int) then (wringerlaw8_Freq.l0 k x0 (x3.set ((Int.tmod (wrap64 (rd x0 x4)) 65) : Int).toNat (shr .i64 (wrap64 (rd x0 (wrap64 (x4 + 1)))) (Int.tmod (IntKind.u16.wrap (Int.tdiv (rd x0 x4) 65)) 16))) (wrap64 (x4 + 2))) else (none)) else (none)) else (none)) else (none)) else (none)) else (none)) else (some x3)
def wringerlaw8_Freq.f (k : Nat) (l0 : List Int) : Option (List Int) := if 65 ≤ 35184372088832 then (wringerlaw8_Freq.l0 k l0 (List.replicate 65 0) 0) else (none)
theorem wringerlaw8_Freq.mono_l : ∀ k, (∀ y0 y1 y2, LeO (wringerlaw8_Freq.l0 k y0 y1 y2) (wringerlaw8_Freq.l0 (k + 1) y0 y1 y2))
  | 0 => fun _ _ _ r h => by simp [wringerlaw8_Freq.l0] at h
  | k + 1 => by
    have ih0 := wringerlaw8_Freq.mono_l k
    · intro y0 y1 y2
      unfold wringerlaw8_Freq.l0
      repeat' first
      | (with_reducible exact ih0 _ _ _)
      | (with_reducible exact LeO.refl _)
      | (with_reducible exact LeO.none _)
      | (with_reducible refine LeO.ite ?_ ?_)
      | (with_reducible refine LeO.bind ?_ (fun _ => ?_))
      | exact ih0 _ _ _
      | exact LeO.none _
      | refine LeO.ite ?_ ?_
      | refine LeO.bind ?_ (fun _ => ?_)
theorem wringerlaw8_Freq.mono : ∀ a0 k, LeO (wringerlaw8_Freq.f k a0) (wringerlaw8_Freq.f (k + 1) a0) := by
  intro a0 k
  have ih0 := wringerlaw8_Freq.mono_l k
  unfold wringerlaw8_Freq.f
  repeat' first
      | (with_reducible exact ih0 _ _ _)
      | (with_reducible exact LeO.refl _)
      | (with_reducible exact LeO.none _)
      | (with_reducible refine LeO.ite ?_ ?_)
      | (with_reducible refine LeO.bind ?_ (fun _ => ?_))
      | exact ih0 _ _ _
      | exact LeO.none _
      | refine LeO.ite ?_ ?_
      | refine LeO.bind ?_ (fun _ => ?_)
def wringerlaw8_Freq.T5 : Bool × List (List Nat × List Nat) := (true, [([], []), ([], []), ([], []), ([1, 2], [1, 2]), ([3], [3]), ([4], [4]), ([5], [5]), ([], []), ([], []), ([8], [8]), ([7, 9], [7, 9]), ([10], [10]), ([11], [11]), ([], []), ([], []), ([13, 14], [13, 14]), ([15], [15]), ([16], [16]), ([17], [17]), ([12, 18], [12, 18]), ([0, 6, 0, 1, 2, 3, 4, 5, 6, 7, 8, 9, 10, 11, 12, 13, 14, 15, 16, 17, 18, 19], [0, 6]), ([20, 19, 0, 1, 2, 3, 4, 5, 6, 7, 8, 9, 10, 11, 12, 13, 14, 15, 16, 17, 18, 19], [19, 20])])
def wringerlaw8_Freq.B5 : List Nat := [0, 0, 0, 6, 14, 30, 62, 0, 0, 256, 896, 1920, 3968, 0, 0, 24576, 57344, 122880, 253952, 524160, 1048575, 2097151]
theorem wringerlaw8_Freq.tab5 : rtab .any (opsOf Try.f17 5) = wringerlaw8_Freq.T5 := by kernel_rfl
theorem wringerlaw8_Freq.bits5 : waitsOk wringerlaw8_Freq.T5.2 wringerlaw8_Freq.B5 = true := by kernel_rfl
set_option maxHeartbeats 8000000 in
set_option maxRecDepth 100000 in
theorem wringerlaw8_Freq.calls (k : Nat) (A0 : Option Addr) (c0 : Nat) (l0 : List Int) (r : List Int) (w : World) (hr0 : Kd.C (Kd.int .u16) w A0 l0.length l0) (hc0 : l0.length ≤ c0) (h : wringerlaw8_Freq.f k l0 = some r) :
    Calls Try.prog 17 #[.slice A0 l0.length c0] w fun e w' => ∃ v0_ : Value, e = .returned (v0_) ∧ Kd.R (Kd.int .i64) 3 w' w.heap.size (fun _ => True) v0_ r ∧ Below w.heap.size w w' := by
  have HR0 := Aside0.mk hr0
  have HC0 := Aside0.mk hc0
  clear hr0 hc0
  have HB := Aside0.mk (Below.refl w.heap.size w)
  have H : (if 65 ≤ 35184372088832 then (wringerlaw8_Freq.l0 k l0 (List.replicate 65 0) 0) else (none)) = some r := h
  clear h
  by_cases c2 : 65 ≤ 35184372088832
  · rw [if_pos c2] at H
    have c2b0 := eq_true c2
    have c2b1 : decide (65 ≤ 35184372088832) = true := decide_eq_true c2
    clear c2
    obtain ⟨y197, hy197⟩ : ∃ y_ : List Int, y_ = (List.replicate 65 0) := ⟨_, rfl⟩
    replace H : (wringerlaw8_Freq.l0 k l0 y197 0) = some r := by first | (rw [hy197]; with_reducible exact H) | (have H2_ := (Option.bind_some _ _).symm.trans H; rw [hy197]; with_reducible exact H2_) | (have H2_ := (Option.bind_some _ _).symm.trans H; with_reducible exact H2_) | with_reducible exact H | (rw [hy197]; exact H) | exact H
    have Ny197 := Aside0.mk hy197
    clear hy197
    have H' := Aside0.mk H
    clear H
    go_enter Try.func17, Try.ntmps17
    go_wp2_with (first | ((with_reducible refine gate_dst (N := 5) rfl ?_); refine Kd.R_make (Kd.int .i64) _ 3 rfl (N := 5) rfl 22 _ _ rfl 65 rfl rfl Try.underlying22 (.int .i64 0) 8 info3 rfl (by decide) (by omega) 0 (ok := fun _ => True) (okp := fun _ => True) rfl (fun _ hk => hk) trivial (by omega) (by omega) (Below.refl _ _) (Nat.le_refl _) ?_; intro v198 w3 ho4 hb hg_ hnew_; clear hg_ hnew_; (first | rw [← Ny197.out] at ho4 | (simp only [Int.reduceToNat] at ho4; rw [← Ny197.out] at ho4)); have n0_ := Aside0.mk (Kd.R_lower ho4 (below_size (by repeat (first | (with_reducible first | exact HB.out | apply below_alloc | apply pw_below_drewN | apply below_drew1) | exact HB.out)))); have n1_ := Aside0.mk (below_step (by repeat (first | (with_reducible first | exact HB.out | apply below_alloc | apply pw_below_drewN | apply below_drew1) | exact HB.out)) hb); clear HB; have HO199 := n0_; have HB := n1_; clear n0_ n1_; clear hb ho4))
    go_loopg [4] k (fun kq v4 w' => ∃ (x3_1 : List Int) (x4_1 : Int), v4 = .int .i64 x4_1 ∧ Aside0 (wringerlaw8_Freq.l0 kq l0 x3_1 x4_1 = some r) ∧ Aside0 (kq ≤ k) ∧ Aside0 (Kd.R (Kd.int .i64) 3 w' w.heap.size (fun _ => True) v198 x3_1) ∧ Aside0 (Below w.heap.size w w'))
    case atStart => exact ⟨(y197), (0), (by first | rfl | (simp; done) | (simp [*]; done)), H', ⟨Nat.le_refl _⟩, ⟨by (with_reducible repeat (first | apply Kd.R_alloc | apply Kd.R_drewN | apply Kd.R_drew)); exact HO199.out⟩, ⟨by repeat (first | (with_reducible first | exact HB.out | apply below_alloc | apply pw_below_drewN | apply below_drew1) | exact HB.out)⟩⟩
    case round =>
      clear H'
      try clear c1
      try clear c2
      try clear c2b0
      try clear c2b1
      try clear p2
      obtain ⟨x3_1, x4_1, rfl, HA, HK1, HO_3, HB⟩ := hrel
      cases gk with
      | zero => exact absurd HA.out (by simp [wringerlaw8_Freq.l0])
      | succ k1 =>
        have H := HA.out
        clear HA
        simp only [wringerlaw8_Freq.l0] at H
        by_cases c5 : (wrap64 (x4_1 + 1)) < (l0.length : Int)
        · rw [if_pos c5] at H
          have c5b0 : decide ((wrap64 (x4_1 + 1)) < (l0.length : Int)) = true := decide_eq_true c5
          clear c5
          by_cases c6 : 0 ≤ x4_1
          · rw [if_pos c6] at H
            have c6b0 : decide (0 ≤ x4_1) = true := decide_eq_true c6
            clear c6
            by_cases c7 : x4_1 < (l0.length : Int)
            · rw [if_pos c7] at H
              have c7b0 : decide (x4_1 < (l0.length : Int)) = true := decide_eq_true c7
              clear c7
              obtain ⟨ji8, hji8⟩ : ∃ j_ : Int, (wrap64 (x4_1 + 1)) = j_ := ⟨_, rfl⟩
              replace H : (if 0 ≤ (ji8) then (if 0 ≤ (Int.tmod (IntKind.u16.wrap (Int.tdiv (rd l0 x4_1) 65)) 16) then (if 0 ≤ (Int.tmod (wrap64 (rd l0 x4_1)) 65) then (if (Int.tmod (wrap64 (rd l0 x4_1)) 65) < (x3_1.length : Int) then (wringerlaw8_Freq.l0 k1 l0 (x3_1.set ((Int.tmod (wrap64 (rd l0 x4_1)) 65) : Int).toNat (shr .i64 (wrap64 (rd l0 (ji8))) (Int.tmod (IntKind.u16.wrap (Int.tdiv (rd l0 x4_1) 65)) 16))) (wrap64 (x4_1 + 2))) else (none)) else (none)) else (none)) else (none)) = some r := by first | (rw [hji8] at H; exact H) | (simp only [hji8] at H ⊢; exact H)
              (try rw [hji8] at c5b0)
              have hji8w : (IntKind.i64.wrap (x4_1 + 1)) = ji8 := (i64_w _).trans hji8
              by_cases c9 : 0 ≤ (ji8)
              · rw [if_pos c9] at H
                have c9b0 : decide (0 ≤ (ji8)) = true := decide_eq_true c9
                clear c9
                obtain ⟨ji10, hji10⟩ : ∃ j_ : Int, (Int.tmod (IntKind.u16.wrap (Int.tdiv (rd l0 x4_1) 65)) 16) = j_ := ⟨_, rfl⟩
                replace H : (if 0 ≤ (ji10) then (if 0 ≤ (Int.tmod (wrap64 (rd l0 x4_1)) 65) then (if (Int.tmod (wrap64 (rd l0 x4_1)) 65) < (x3_1.length : Int) then (wringerlaw8_Freq.l0 k1 l0 (x3_1.set ((Int.tmod (wrap64 (rd l0 x4_1)) 65) : Int).toNat (shr .i64 (wrap64 (rd l0 (ji8))) (ji10))) (wrap64 (x4_1 + 2))) else (none)) else (none)) else (none)) = some r := by first | (rw [hji10] at H; exact H) | (simp only [hji10] at H ⊢; exact H)
                by_cases c11 : 0 ≤ (ji10)
                · rw [if_pos c11] at H
                  have c11b0 := eq_true c11
                  have c11b1 : decide (0 ≤ (ji10)) = true := decide_eq_true c11
                  clear c11
                  obtain ⟨ji12, hji12⟩ : ∃ j_ : Int, (shr .i64 (wrap64 (rd l0 (ji8))) (ji10)) = j_ := ⟨_, rfl⟩
                  replace H : (if 0 ≤ (Int.tmod (wrap64 (rd l0 x4_1)) 65) then (if (Int.tmod (wrap64 (rd l0 x4_1)) 65) < (x3_1.length : Int) then (wringerlaw8_Freq.l0 k1 l0 (x3_1.set ((Int.tmod (wrap64 (rd l0 x4_1)) 65) : Int).toNat (ji12)) (wrap64 (x4_1 + 2))) else (none)) else (none)) = some r := by first | (rw [hji12] at H; exact H) | (simp only [hji12] at H ⊢; exact H)
                  have hji12_ : ((wrap64 (rd l0 (ji8))) / 2 ^ min (ji10).toNat 64) = ji12 := hji12
                  have hji12z : (ji10) ≤ 64 → ((wrap64 (rd l0 (ji8))) / 2 ^ (ji10).toNat) = ji12 := shr_small hji12
                  obtain ⟨ji13, hji13⟩ : ∃ j_ : Int, (Int.tmod (wrap64 (rd l0 x4_1)) 65) = j_ := ⟨_, rfl⟩
                  replace H : (if 0 ≤ (ji13) then (if (ji13) < (x3_1.length : Int) then (wringerlaw8_Freq.l0 k1 l0 (x3_1.set ((ji13) : Int).toNat (ji12)) (wrap64 (x4_1 + 2))) else (none)) else (none)) = some r := by first | (rw [hji13] at H; exact H) | (simp only [hji13] at H ⊢; exact H)
                  by_cases c14 : 0 ≤ (ji13)
                  · rw [if_pos c14] at H
                    have c14b0 : decide (0 ≤ (ji13)) = true := decide_eq_true c14
                    clear c14
                    by_cases c15 : (ji13) < (x3_1.length : Int)
                    · rw [if_pos c15] at H
                      have c15b0 : decide ((ji13) < (x3_1.length : Int)) = true := decide_eq_true c15
                      clear c15
                      obtain ⟨y203, hy203⟩ : ∃ y_ : List Int, y_ = (x3_1.set ((ji13) : Int).toNat (ji12)) := ⟨_, rfl⟩
                      replace H : (wringerlaw8_Freq.l0 k1 l0 y203 (wrap64 (x4_1 + 2))) = some r := by first | (rw [hy203]; with_reducible exact H) | (have H2_ := (Option.bind_some _ _).symm.trans H; rw [hy203]; with_reducible exact H2_) | (have H2_ := (Option.bind_some _ _).symm.trans H; with_reducible exact H2_) | with_reducible exact H | (rw [hy203]; exact H) | exact H
                      have Ny203 := Aside0.mk hy203
                      clear hy203
                      have H' := Aside0.mk H
                      clear H
                      try go_wp2
                      have n0_ := Aside0.mk (Kd.R_drew HO_3.out)
                      have n1_ := Aside0.mk (below_drew1 HB.out)
                      clear HO_3
                      clear HB
                      have HO_3 := n0_
                      have HB := n1_
                      clear n0_ n1_
                      have p200 : 0 ≤ (x4_1 : Int) := of_decide_eq_true (by first | (with_reducible assumption) | assumption)
                      have q200 : x4_1 < (l0.length : Int) := of_decide_eq_true (by first | (with_reducible assumption) | assumption)
                      obtain ⟨ad200, e200, hx200_0⟩ := Kd.at_int HR0.out x4_1 p200 q200
                      have hw200_0 := hx200_0
                      cases e200
                      replace hx200_0 := (HB.out.cell (World.block_lt_of_cell? w _ hx200_0)).trans hx200_0
                      replace p200 := eq_true p200
                      replace q200 := eq_true q200
                      have p201 : 0 ≤ ((ji8) : Int) := of_decide_eq_true (by first | (with_reducible assumption) | assumption)
                      have q201 : (ji8) < (l0.length : Int) := of_decide_eq_true (by first | (with_reducible assumption) | assumption)
                      obtain ⟨ad201, e201, hx201_0⟩ := Kd.at_int HR0.out (ji8) p201 q201
                      have hw201_0 := hx201_0
                      obtain rfl : ad200 = ad201 := (by injection e201)
                      replace hx201_0 := (HB.out.cell (World.block_lt_of_cell? w _ hx201_0)).trans hx201_0
                      replace p201 := eq_true p201
                      replace q201 := eq_true q201
                      have p202 : 0 ≤ (x4_1 : Int) := of_decide_eq_true (by first | (with_reducible assumption) | assumption)
                      have q202 : x4_1 < (l0.length : Int) := of_decide_eq_true (by first | (with_reducible assumption) | assumption)
                      obtain ⟨ad202, e202, hx202_0⟩ := Kd.at_int HR0.out x4_1 p202 q202
                      have hw202_0 := hx202_0
                      obtain rfl : ad200 = ad202 := (by injection e202)
                      replace hx202_0 := (HB.out.cell (World.block_lt_of_cell? w _ hx202_0)).trans hx202_0
                      replace p202 := eq_true p202
                      replace q202 := eq_true q202
                      have p16 : 0 ≤ ((ji13) : Int) := of_decide_eq_true (by first | (with_reducible assumption) | assumption)
                      have q16 : ((ji13) : Int) < ((x3_1.length : Int) : Int) := of_decide_eq_true (by first | (with_reducible assumption) | assumption)
                      obtain ⟨go16, co16, eo16, gb16, gl16, cl16, HG16⟩ := Kd.R_form HO_3.out (by omega)
                      (first | cases eo16 | (injection eo16 with ea_ en_ ec_; (first | subst ea_ | (injection ea_ with ea_; subst ea_)); subst ec_; clear en_))
                      have GB16 := Aside0.mk gb16
                      have GG16 := Aside0.mk HG16
                      clear gb16 gl16 HG16
                      obtain ⟨hx16_0, hf16_0⟩ := Kd.R_celln 0 HO_3.out ((ji13) : Int) p16 q16
                      replace p16 := eq_true p16
                      replace q16 := eq_true q16
                      have HP18 := Kd.R_putn HO_3.out ((ji13) : Int) ji12
                      rw [← Ny203.out] at HP18
                      have HQ18 := Aside0.mk HP18
                      clear HP18
                      refine start_ (n := 22) (S := fun w' => w'.cell? (ad200.add (x4_1).toNat) = some (.int .u16 (rd l0 x4_1)) ∧ w'.cell? (ad200.add ((ji8)).toNat) = some (.int .u16 (rd l0 (ji8))) ∧ w'.cell? (ad200.add (x4_1).toNat) = some (.int .u16 (rd l0 x4_1))) (ds := [21]) #[false, false, false, false, false, false, false, false, false, false, false, false, false, false, false, false, false, false, false, false, false, false] (by kernel_rfl) rfl rfl ⟨((HB.out.cell (World.block_lt_of_cell? w _ hw200_0)).trans hw200_0), ((HB.out.cell (World.block_lt_of_cell? w _ hw201_0)).trans hw201_0), ((HB.out.cell (World.block_lt_of_cell? w _ hw202_0)).trans hw202_0)⟩ (fun hHeld => ?_); refine with_tabW wringerlaw8_Freq.tab5 wringerlaw8_Freq.bits5 (fun HT_ HW_ => ?_)
                      generalize wr.drew = w17 at HO_3 HB GG16 HQ18 hf16_0 hx16_0 hx200_0 hx201_0 hx202_0 hHeld ⊢
                      refine pure_ (i := 0) (N := some 13) (v := ?_) (a' := ?_) #[true, false, false, false, false, false, false, false, false, false, false, false, false, false, false, false, false, false, false, false, false, false] rfl rfl (any_of HT_.out (by kernel_rfl)) (fun _ _ _ h => h) (Or.inl ⟨by rfl, ?_⟩) ?_ ?_
                      rotate_left
                      · intro w'
                        go_simp
                        with_reducible rfl
                      rotate_left
                      · simp only [Act.put, List.setIfInBounds_toArray, List.set_cons_zero, List.set_cons_succ, i64_w, i32_w]
                        rfl
                      refine pure_ (i := 1) (N := some 14) (v := ?_) (a' := ?_) #[true, true, false, false, false, false, false, false, false, false, false, false, false, false, false, false, false, false, false, false, false, false] rfl rfl (any_of HT_.out (by kernel_rfl)) (fun _ _ _ h => h) (Or.inl ⟨by rfl, ?_⟩) ?_ ?_
                      rotate_left
                      · intro w'
                        go_simp
                        with_reducible rfl
                      rotate_left
                      · simp only [Act.put, List.setIfInBounds_toArray, List.set_cons_zero, List.set_cons_succ, i64_w, i32_w]
                        rfl
                      refine pure_ (i := 2) (N := some 15) (v := ?_) (a' := ?_) #[true, true, true, false, false, false, false, false, false, false, false, false, false, false, false, false, false, false, false, false, false, false] rfl rfl (any_of HT_.out (by kernel_rfl)) (fun _ _ _ h => h) (Or.inl ⟨by rfl, ?_⟩) ?_ ?_
                      rotate_left
                      · intro w'
                        go_simp
                        with_reducible rfl
                      rotate_left
                      · simp only [Act.put, List.setIfInBounds_toArray, List.set_cons_zero, List.set_cons_succ, i64_w, i32_w]
                        rfl
                      refine pure_ (i := 3) (N := some 16) (v := ?_) (a' := ?_) #[true, true, true, true, false, false, false, false, false, false, false, false, false, false, false, false, false, false, false, false, false, false] rfl rfl (any_of HT_.out (by kernel_rfl)) (fun _ _ _ h => h) (Or.inl ⟨by rfl, ?_⟩) ?_ ?_
                      rotate_left
                      · intro w'
                        go_simp
                        with_reducible rfl
                      rotate_left
                      · simp only [Act.put, List.setIfInBounds_toArray, List.set_cons_zero, List.set_cons_succ, i64_w, i32_w]
                        rfl
                      refine pure_ (i := 7) (N := some 20) (v := ?_) (a' := ?_) #[true, true, true, true, false, false, false, true, false, false, false, false, false, false, false, false, false, false, false, false, false, false] rfl rfl (any_of HT_.out (by kernel_rfl)) (fun _ _ _ h => h) (Or.inl ⟨by rfl, ?_⟩) ?_ ?_
                      rotate_left
                      · intro w'
                        go_simp
                        with_reducible rfl
                      rotate_left
                      · simp only [Act.put, List.setIfInBounds_toArray, List.set_cons_zero, List.set_cons_succ, i64_w, i32_w]
                        rfl
                      refine pure_ (i := 8) (N := some 21) (v := ?_) (a' := ?_) #[true, true, true, true, false, false, false, true, true, false, false, false, false, false, false, false, false, false, false, false, false, false] rfl rfl (any_of HT_.out (by kernel_rfl)) (fun _ _ _ h => h) (Or.inl ⟨by rfl, ?_⟩) ?_ ?_
                      rotate_left
                      · intro w'
                        go_simp
                        with_reducible rfl
                      rotate_left
                      · simp only [Act.put, List.setIfInBounds_toArray, List.set_cons_zero, List.set_cons_succ, i64_w, i32_w]
                        rfl
                      refine pure_ (i := 9) (N := some 22) (v := ?_) (a' := ?_) #[true, true, true, true, false, false, false, true, true, true, false, false, false, false, false, false, false, false, false, false, false, false] rfl rfl (any_of HT_.out (by kernel_rfl)) (fun _ _ _ h => h) (Or.inl ⟨by rfl, ?_⟩) ?_ ?_
                      rotate_left
                      · intro w'
                        go_simp
                        with_reducible rfl
                      rotate_left
                      · simp only [Act.put, List.setIfInBounds_toArray, List.set_cons_zero, List.set_cons_succ, i64_w, i32_w]
                        rfl
                      refine pure_ (i := 10) (N := some 23) (v := ?_) (a' := ?_) #[true, true, true, true, false, false, false, true, true, true, true, false, false, false, false, false, false, false, false, false, false, false] rfl rfl (any_of HT_.out (by kernel_rfl)) (fun _ _ _ h => h) (Or.inl ⟨by rfl, ?_⟩) ?_ ?_
                      rotate_left
                      · intro w'
                        go_simp
                        with_reducible rfl
                      rotate_left
                      · simp only [Act.put, List.setIfInBounds_toArray, List.set_cons_zero, List.set_cons_succ, i64_w, i32_w]
                        rfl
                      refine pure_ (i := 13) (N := some 26) (v := ?_) (a' := ?_) #[true, true, true, true, false, false, false, true, true, true, true, false, false, true, false, false, false, false, false, false, false, false] rfl rfl (any_of HT_.out (by kernel_rfl)) (fun _ _ _ h => h) (Or.inl ⟨by rfl, ?_⟩) ?_ ?_
                      rotate_left
                      · intro w'
                        go_simp
                        with_reducible rfl
                      rotate_left
                      · simp only [Act.put, List.setIfInBounds_toArray, List.set_cons_zero, List.set_cons_succ, i64_w, i32_w]
                        rfl
                      refine pure_ (i := 14) (N := some 27) (v := ?_) (a' := ?_) #[true, true, true, true, false, false, false, true, true, true, true, false, false, true, true, false, false, false, false, false, false, false] rfl rfl (any_of HT_.out (by kernel_rfl)) (fun _ _ _ h => h) (Or.inl ⟨by rfl, ?_⟩) ?_ ?_
                      rotate_left
                      · intro w'
                        go_simp
                        with_reducible rfl
                      rotate_left
                      · simp only [Act.put, List.setIfInBounds_toArray, List.set_cons_zero, List.set_cons_succ, i64_w, i32_w]
                        rfl
                      refine pure_ (i := 15) (N := some 28) (v := ?_) (a' := ?_) #[true, true, true, true, false, false, false, true, true, true, true, false, false, true, true, true, false, false, false, false, false, false] rfl rfl (any_of HT_.out (by kernel_rfl)) (fun _ _ _ h => h) (Or.inl ⟨by rfl, ?_⟩) ?_ ?_
                      rotate_left
                      · intro w'
                        go_simp
                        with_reducible rfl
                      rotate_left
                      · simp only [Act.put, List.setIfInBounds_toArray, List.set_cons_zero, List.set_cons_succ, i64_w, i32_w]
                        rfl
                      refine take_ (i := 4) (N := some 17) (v := ?_) (a' := ?_) #[true, true, true, true, true, false, false, true, true, true, true, false, false, true, true, true, false, false, false, false, false, false] rfl rfl (take_ofW HT_.out HW_.out (by kernel_rfl)) (fun _ _ _ h => h) (Or.inl ⟨by rfl, ?_⟩) hHeld ?_ ?_
                      rotate_left
                      · rintro w' ⟨s0, s1, s2⟩
                        go_simp
                        with_reducible rfl
                      rotate_left
                      · simp only [Act.put, List.setIfInBounds_toArray, List.set_cons_zero, List.set_cons_succ, i64_w, i32_w]
                        rfl
                      refine pure_ (i := 5) (N := some 18) (v := ?_) (a' := ?_) #[true, true, true, true, true, true, false, true, true, true, true, false, false, true, true, true, false, false, false, false, false, false] rfl rfl (any_of HT_.out (by kernel_rfl)) (fun _ _ _ h => h) (Or.inl ⟨by rfl, ?_⟩) ?_ ?_
                      rotate_left
                      · intro w'
                        go_simp
                        with_reducible rfl
                      rotate_left
                      · simp only [Act.put, List.setIfInBounds_toArray, List.set_cons_zero, List.set_cons_succ, i64_w, i32_w]
                        rfl
                      refine pure_ (i := 6) (N := some 19) (v := ?_) (a' := ?_) #[true, true, true, true, true, true, true, true, true, true, true, false, false, true, true, true, false, false, false, false, false, false] rfl rfl (any_of HT_.out (by kernel_rfl)) (fun _ _ _ h => h) (Or.inl ⟨by rfl, ?_⟩) ?_ ?_
                      rotate_left
                      · intro w'
                        go_simp
                        with_reducible rfl
                      rotate_left
                      · simp only [Act.put, List.setIfInBounds_toArray, List.set_cons_zero, List.set_cons_succ, i64_w, i32_w]
                        rfl
                      refine take_ (i := 11) (N := some 24) (v := ?_) (a' := ?_) #[true, true, true, true, true, true, true, true, true, true, true, true, false, true, true, true, false, false, false, false, false, false] rfl rfl (take_ofW HT_.out HW_.out (by kernel_rfl)) (fun _ _ _ h => h) (Or.inl ⟨by rfl, ?_⟩) hHeld ?_ ?_
                      rotate_left
                      · rintro w' ⟨s0, s1, s2⟩
                        go_simp
                        with_reducible rfl
                      rotate_left
                      · simp only [Act.put, List.setIfInBounds_toArray, List.set_cons_zero, List.set_cons_succ, i64_w, i32_w]
                        rfl
                      refine pure_ (i := 12) (N := some 25) (v := ?_) (a' := ?_) #[true, true, true, true, true, true, true, true, true, true, true, true, true, true, true, true, false, false, false, false, false, false] rfl rfl (any_of HT_.out (by kernel_rfl)) (fun _ _ _ h => h) (Or.inl ⟨by rfl, ?_⟩) ?_ ?_
                      rotate_left
                      · intro w'
                        go_simp
                        with_reducible rfl
                      rotate_left
                      · simp only [Act.put, List.setIfInBounds_toArray, List.set_cons_zero, List.set_cons_succ, i64_w, i32_w]
                        rfl
                      refine take_ (i := 16) (N := some 29) (v := ?_) (a' := ?_) #[true, true, true, true, true, true, true, true, true, true, true, true, true, true, true, true, true, false, false, false, false, false] rfl rfl (take_ofW HT_.out HW_.out (by kernel_rfl)) (fun _ _ _ h => h) (Or.inl ⟨by rfl, ?_⟩) hHeld ?_ ?_
                      rotate_left
                      · rintro w' ⟨s0, s1, s2⟩
                        go_simp
                        with_reducible rfl
                      rotate_left
                      · simp only [Act.put, List.setIfInBounds_toArray, List.set_cons_zero, List.set_cons_succ, i64_w, i32_w]
                        rfl
                      refine pure_ (i := 17) (N := some 30) (v := ?_) (a' := ?_) #[true, true, true, true, true, true, true, true, true, true, true, true, true, true, true, true, true, true, false, false, false, false] rfl rfl (any_of HT_.out (by kernel_rfl)) (fun _ _ _ h => h) (Or.inl ⟨by rfl, ?_⟩) ?_ ?_
                      rotate_left
                      · intro w'
                        go_simp
                        with_reducible rfl
                      rotate_left
                      · simp only [Act.put, List.setIfInBounds_toArray, List.set_cons_zero, List.set_cons_succ, i64_w, i32_w]
                        rfl
                      refine pure_ (i := 18) (N := some 31) (v := ?_) (a' := ?_) #[true, true, true, true, true, true, true, true, true, true, true, true, true, true, true, true, true, true, true, false, false, false] rfl rfl (any_of HT_.out (by kernel_rfl)) (fun _ _ _ h => h) (Or.inl ⟨by rfl, ?_⟩) ?_ ?_
                      rotate_left
                      · intro w'
                        go_simp
                        with_reducible rfl
                      rotate_left
                      · simp only [Act.put, List.setIfInBounds_toArray, List.set_cons_zero, List.set_cons_succ, i64_w, i32_w]
                        rfl
                      refine pure_ (i := 19) (N := some 32) (v := ?_) (a' := ?_) #[true, true, true, true, true, true, true, true, true, true, true, true, true, true, true, true, true, true, true, true, false, false] rfl rfl (any_of HT_.out (by kernel_rfl)) (fun _ _ _ h => h) (Or.inl ⟨by rfl, ?_⟩) ?_ ?_
                      rotate_left
                      · intro w'
                        go_simp
                        with_reducible rfl
                      rotate_left
                      · simp only [Act.put, List.setIfInBounds_toArray, List.set_cons_zero, List.set_cons_succ, i64_w, i32_w]
                        rfl
                      refine pure_ (i := 20) (N := some 33) (v := ?_) (a' := ?_) #[true, true, true, true, true, true, true, true, true, true, true, true, true, true, true, true, true, true, true, true, true, false] rfl rfl (any_of HT_.out (by kernel_rfl)) (fun _ _ _ h => h) (Or.inl ⟨by rfl, ?_⟩) ?_ ?_
                      rotate_left
                      · intro w'
                        go_simp
                        with_reducible rfl
                      rotate_left
                      · simp only [Act.put, List.setIfInBounds_toArray, List.set_cons_zero, List.set_cons_succ, i64_w, i32_w]
                        rfl
                      refine last_ (i := 21) (N := none) #[true, true, true, true, true, true, true, true, true, true, true, true, true, true, true, true, true, true, true, true, true, true] rfl rfl (one_of HT_.out (by kernel_rfl)) (by decide) (fun K hK => ?_)
                      refine skip_ (w1 := ?_) (by rfl) rfl ?_ ?_
                      rotate_left
                      · go_simp
                        rfl
                      refine hK.out _ _ ?_
                      clear hK K
                      refine done_ (done_of HT_.out (by kernel_rfl)) ?_
                      try go_wp2
                      go_roundg k1
                      case measure => have := HK1.out; omega
                      case rel => exact ⟨(y203), (wrap64 (x4_1 + 2)), (by first | rfl | (simp; done) | (simp [*]; done)), H', ⟨by have := HK1.out; omega⟩, ⟨by (with_reducible repeat (first | apply Kd.R_alloc | apply Kd.R_drewN | apply Kd.R_drew)); exact HQ18.out⟩, ⟨by repeat (first | (with_reducible first | exact HB.out | apply below_alloc | apply pw_below_drewN | apply below_drew1 | refine below_set ?_ GB16.out) | exact HB.out)⟩⟩
                    · rw [if_neg c15] at H
                      exact absurd H (by simp)
                  · rw [if_neg c14] at H
                    exact absurd H (by simp)
                · rw [if_neg c11] at H
                  exact absurd H (by simp)
              · rw [if_neg c9] at H
                exact absurd H (by simp)
            · rw [if_neg c7] at H
              exact absurd H (by simp)
          · rw [if_neg c6] at H
            exact absurd H (by simp)
        · rw [if_neg c5] at H
          have c5b0 : decide ((wrap64 (x4_1 + 1)) < (l0.length : Int)) = false := decide_eq_false c5
          clear c5
          obtain rfl := Option.some.inj H
          go_wp2
          go_ret
          exact ⟨_, by first | rfl | (simp [errW_none, errW_some] <;> rfl) | (simp [*, errW_none, errW_some] <;> rfl), by (with_reducible repeat (first | apply Kd.R_alloc | apply Kd.R_drewN | apply Kd.R_drew)); exact HO_3.out, by repeat (first | (with_reducible first | exact HB.out | apply below_alloc | apply pw_below_drewN | apply below_drew1) | exact HB.out)⟩
  · rw [if_neg c2] at H
    exact absurd H (by simp)

end Go.Proofs.Ytejecpmfhgplmaa.PA

-- ---- PAx28

namespace Go.Proofs.Ytejecpmfhgplmaa.PA
open Go.RowKit Go.Proofs.YtejecpmfhgplmaaW.PrintWords Go.Proofs.YtejecpmfhgplmaaW.PrintLast Go.Proofs.YtejecpmfhgplmaaW.PrintMore
attribute [local go_sem] max2_int min2_int max_two min_two max_three min_three max_four min_four   -- for this text's walks alone
set_option linter.unusedVariables false
set_option linter.unusedSimpArgs false

/-! ### wringerlaw8_MergeMade: function 4 -/
def wringerlaw8_MergeMade.f (k : Nat) (l0 : List Int) (a1 : Int) : Option (Bool) := if (l0.length : Int) > 140 then ((wringerlaw8_awake.f).bind fun t256 => (some t256)) else ((wringerlaw8_Freq.f k l0).bind fun t257 => ((merge_Lengths.f t257 (wrap64 (7 + (Int.tmod (wrap64 (a1)) 9)))).bind fun bt260 => ((wringerref7_Lengths.f t257 (wrap64 (7 + (Int.tmod (wrap64 (a1)) 9)))).bind fun bt264 => ((wringerref7_SameInts.f k bt260.1 bt264.1).bind fun t269 => (if t269 = true then ((wringerlaw1_Err.f bt260.2).bind fun t270 => (if t270 = 0 then (if bt264.2 = 0 then ((wringerlaw8_awake.f).bind fun t271 => (some t271)) else (some false)) else (some false))) else (some false))))))
theorem wringerlaw8_MergeMade.mono : ∀ a0 a1 k, LeO (wringerlaw8_MergeMade.f k a0 a1) (wringerlaw8_MergeMade.f (k + 1) a0 a1) := by
  intro a0 a1 k
  unfold wringerlaw8_MergeMade.f
  repeat' first
      | (with_reducible exact wringerlaw8_Freq.mono _ _)
      | (with_reducible exact wringerref7_SameInts.mono _ _ _)
      | (with_reducible exact LeO.refl _)
      | (with_reducible exact LeO.none _)
      | (with_reducible refine LeO.ite ?_ ?_)
      | (with_reducible refine LeO.bind ?_ (fun _ => ?_))
      | exact wringerlaw8_Freq.mono _ _
      | exact wringerref7_SameInts.mono _ _ _
      | exact LeO.none _
      | refine LeO.ite ?_ ?_
      | refine LeO.bind ?_ (fun _ => ?_)
set_option maxHeartbeats 8000000 in
set_option maxRecDepth 100000 in
theorem wringerlaw8_MergeMade.calls (k : Nat) (A0 : Option Addr) (c0 : Nat) (l0 : List Int) (a1 : Int) (r : Bool) (w : World) (hr0 : Kd.C (Kd.int .u16) w A0 l0.length l0) (hc0 : l0.length ≤ c0) (h : wringerlaw8_MergeMade.f k l0 a1 = some r) :
    Calls Try.prog 4 #[.slice A0 l0.length c0, .int .u8 a1] w fun e w' => e = .returned (.bool r) ∧ Below w.heap.size w w' := by
  have hu28 := Try.underlying28
  have HR0 := Aside0.mk hr0
  have HC0 := Aside0.mk hc0
  clear hr0 hc0
  have HB := Aside0.mk (Below.refl w.heap.size w)
  have H : (if (l0.length : Int) > 140 then ((wringerlaw8_awake.f).bind fun t256 => (some t256)) else ((wringerlaw8_Freq.f k l0).bind fun t257 => ((merge_Lengths.f t257 (wrap64 (7 + (Int.tmod (wrap64 (a1)) 9)))).bind fun bt260 => ((wringerref7_Lengths.f t257 (wrap64 (7 + (Int.tmod (wrap64 (a1)) 9)))).bind fun bt264 => ((wringerref7_SameInts.f k bt260.1 bt264.1).bind fun t269 => (if t269 = true then ((wringerlaw1_Err.f bt260.2).bind fun t270 => (if t270 = 0 then (if bt264.2 = 0 then ((wringerlaw8_awake.f).bind fun t271 => (some t271)) else (some false)) else (some false))) else (some false))))))) = some r := h
  clear h
  by_cases c3 : (l0.length : Int) > 140
  · rw [if_pos c3] at H
    have c3b0 : decide (140 < (l0.length : Int)) = true := decide_eq_true c3
    have c3b1 : decide (140 < l0.length) = true := decide_eq_true (by omega)
    clear c3
    replace H := Option.bind_eq_some_iff.mp H
    obtain ⟨t256, A40, H⟩ := H
    replace H : (some t256) = some r := H
    have A4 := Aside0.mk A40
    clear A40
    obtain rfl := Option.some.inj H
    go_enter Try.func4, Try.ntmps4
    go_wp2_with (first | ((with_reducible refine gate_callee (f := 10) rfl ?_); refine goesL_ (some 13) rfl rfl Try.func10 (by kernel_rfl) rfl #[] rfl (by (try simp only [List.map_toArray, List.map_cons, List.map_nil]); first | done | rfl | (simp only [List.length_drop, List.length_take]; rfl)) ?_; (with_reducible refine (wringerlaw8_awake.calls  t256 _ A4.out).mono ?_); rintro e w5 ⟨rfl, hb⟩; refine ⟨_, rfl, ?_⟩; have n0_ := Aside0.mk (below_step (by repeat (first | (with_reducible first | exact HB.out | apply below_alloc | apply pw_below_drewN | apply below_drew1) | exact HB.out)) hb); clear HB; have HB := n0_; clear n0_; (try clear hb); (try clear hb2); (try clear hk); (try clear hi)))
    go_ret
    exact ⟨by first | rfl | (simp [errW_none, errW_some] <;> rfl) | (simp [*, errW_none, errW_some] <;> rfl), by repeat (first | (with_reducible first | exact HB.out | apply below_alloc | apply pw_below_drewN | apply below_drew1) | exact HB.out)⟩
  · rw [if_neg c3] at H
    have c3b0 : decide (140 < (l0.length : Int)) = false := decide_eq_false c3
    have c3b1 : decide (140 < l0.length) = false := decide_eq_false (by omega)
    clear c3
    replace H := Option.bind_eq_some_iff.mp H
    obtain ⟨t257, A60, H⟩ := H
    replace H : ((merge_Lengths.f t257 (wrap64 (7 + (Int.tmod (wrap64 (a1)) 9)))).bind fun bt260 => ((wringerref7_Lengths.f t257 (wrap64 (7 + (Int.tmod (wrap64 (a1)) 9)))).bind fun bt264 => ((wringerref7_SameInts.f k bt260.1 bt264.1).bind fun t269 => (if t269 = true then ((wringerlaw1_Err.f bt260.2).bind fun t270 => (if t270 = 0 then (if bt264.2 = 0 then ((wringerlaw8_awake.f).bind fun t271 => (some t271)) else (some false)) else (some false))) else (some false))))) = some r := H
    have A6 := Aside0.mk A60
    clear A60
    replace H := Option.bind_eq_some_iff.mp H
    obtain ⟨⟨t260, t261⟩, A70, H⟩ := H
    replace H : ((wringerref7_Lengths.f t257 (wrap64 (7 + (Int.tmod (wrap64 (a1)) 9)))).bind fun bt264 => ((wringerref7_SameInts.f k t260 bt264.1).bind fun t269 => (if t269 = true then ((wringerlaw1_Err.f t261).bind fun t270 => (if t270 = 0 then (if bt264.2 = 0 then ((wringerlaw8_awake.f).bind fun t271 => (some t271)) else (some false)) else (some false))) else (some false)))) = some r := H
    have A7 := Aside0.mk A70
    clear A70
    replace H := Option.bind_eq_some_iff.mp H
    obtain ⟨⟨t264, t267⟩, A80, H⟩ := H
    replace H : ((wringerref7_SameInts.f k t260 t264).bind fun t269 => (if t269 = true then ((wringerlaw1_Err.f t261).bind fun t270 => (if t270 = 0 then (if t267 = 0 then ((wringerlaw8_awake.f).bind fun t271 => (some t271)) else (some false)) else (some false))) else (some false))) = some r := H
    have A8 := Aside0.mk A80
    clear A80
    replace H := Option.bind_eq_some_iff.mp H
    obtain ⟨t269, A90, H⟩ := H
    replace H : (if t269 = true then ((wringerlaw1_Err.f t261).bind fun t270 => (if t270 = 0 then (if t267 = 0 then ((wringerlaw8_awake.f).bind fun t271 => (some t271)) else (some false)) else (some false))) else (some false)) = some r := H
    have A9 := Aside0.mk A90
    clear A90
    by_cases c10 : t269 = true
    · subst c10
      have H1 : ((wringerlaw1_Err.f t261).bind fun t270 => (if t270 = 0 then (if t267 = 0 then ((wringerlaw8_awake.f).bind fun t271 => (some t271)) else (some false)) else (some false))) = some r := by rw [if_pos rfl] at H; exact H
      clear H
      have H := H1
      clear H1
      replace H := Option.bind_eq_some_iff.mp H
      obtain ⟨t270, A110, H⟩ := H
      replace H : (if t270 = 0 then (if t267 = 0 then ((wringerlaw8_awake.f).bind fun t271 => (some t271)) else (some false)) else (some false)) = some r := H
      have A11 := Aside0.mk A110
      clear A110
      by_cases c12 : t270 = 0
      · rw [if_pos c12] at H
        have c12b0 : (t270 == 0) = true := beq_iff_eq.mpr c12
        have c12b1 : (t270 != 0) = false := bne_eq_false_iff_eq.mpr c12
        clear c12
        by_cases c13 : t267 = 0
        · rw [if_pos c13] at H
          have c13b0 : (t267 == 0) = true := beq_iff_eq.mpr c13
          have c13b1 : (t267 != 0) = false := bne_eq_false_iff_eq.mpr c13
          clear c13
          replace H := Option.bind_eq_some_iff.mp H
          obtain ⟨t271, A140, H⟩ := H
          replace H : (some t271) = some r := H
          have A14 := Aside0.mk A140
          clear A140
          obtain rfl := Option.some.inj H
          go_enter Try.func4, Try.ntmps4
          go_wp2_with (first | ((with_reducible refine gate_callee (f := 17) rfl ?_); refine goesL_ (some 15) rfl rfl Try.func17 (by kernel_rfl) rfl #[.slice A0 l0.length c0] rfl (by (try simp only [List.map_toArray, List.map_cons, List.map_nil]); first | done | rfl | (simp only [List.length_drop, List.length_take]; rfl)) ?_; (with_reducible refine (wringerlaw8_Freq.calls k _ _ l0 t257 _ ?side1 ?side2 A6.out).mono ?_); (case side1 => repeat (first | exact HR0.out | (with_reducible refine Kd.C_alloc ?_ _) | (with_reducible refine Kd.C_drewN ?_ _) | (with_reducible refine Kd.C_drew ?_))); (case side2 => exact HC0.out); rintro e w15 ⟨v258, rfl, ho0, hb⟩; refine ⟨_, rfl, ?_⟩; have n0_ := Aside0.mk (Kd.R_lower ho0 (below_size (by repeat (first | (with_reducible first | exact HB.out | apply below_alloc | apply pw_below_drewN | apply below_drew1) | exact HB.out)))); have n1_ := Aside0.mk (below_step (by repeat (first | (with_reducible first | exact HB.out | apply below_alloc | apply pw_below_drewN | apply below_drew1) | exact HB.out)) hb); clear HB; have HO259 := n0_; have HB := n1_; clear n0_ n1_; (try clear hb); (try clear hb2); (try clear hk); (try clear hi); (try clear ho0); obtain ⟨Ao16, co16, eo16⟩ := Kd.R_slice HO259.out; subst eo16) | ((with_reducible refine gate_callee (f := 11) rfl ?_); refine goesL_ (some 23) rfl rfl Try.func11 (by kernel_rfl) rfl #[.slice Ao16 t257.length co16, .int .i64 (wrap64 (7 + (Int.tmod (wrap64 (a1)) 9)))] rfl (by (try simp only [List.map_toArray, List.map_cons, List.map_nil]); first | done | rfl | (simp only [List.length_drop, List.length_take]; rfl)) ?_; (with_reducible refine (merge_Lengths.calls _ _ t257 (wrap64 (7 + (Int.tmod (wrap64 (a1)) 9))) t260 t261 _ ?side1 ?side2 A7.out).mono ?_); (case side1 => repeat (first | exact (Kd.R_reads' HO259.out).2.2 | (with_reducible refine Kd.C_alloc ?_ _) | (with_reducible refine Kd.C_drewN ?_ _) | (with_reducible refine Kd.C_drew ?_))); (case side2 => exact (Kd.R_reads' HO259.out).2.1); rintro e w17 ⟨v262, rfl, ho0, hb⟩; refine ⟨_, rfl, ?_⟩; have n0_ := Aside0.mk (Kd.R_elder' (by (with_reducible repeat (first | apply Kd.R_alloc | apply Kd.R_drewN | apply Kd.R_drew)); exact HO259.out) (Kd.R_base ho0) hb); have n1_ := Aside0.mk (Kd.R_lower (Kd.R_new' ho0 (Kd.R_lt (by (with_reducible repeat (first | apply Kd.R_alloc | apply Kd.R_drewN | apply Kd.R_drew)); exact HO259.out))) (below_size (by repeat (first | (with_reducible first | exact HB.out | apply below_alloc | apply pw_below_drewN | apply below_drew1) | exact HB.out)))); have n2_ := Aside0.mk (below_step (by repeat (first | (with_reducible first | exact HB.out | apply below_alloc | apply pw_below_drewN | apply below_drew1) | exact HB.out)) hb); clear HO259; clear HB; have HO259 := n0_; have HO263 := n1_; have HB := n2_; clear n0_ n1_ n2_; (try clear hb); (try clear hb2); (try clear hk); (try clear hi); (try clear ho0)) | ((with_reducible refine gate_callee (f := 12) rfl ?_); refine goesL_ (some 28) rfl rfl Try.func12 (by kernel_rfl) rfl #[.slice Ao16 t257.length co16, .int .i64 (wrap64 (7 + (Int.tmod (wrap64 (a1)) 9)))] rfl (by (try simp only [List.map_toArray, List.map_cons, List.map_nil]); first | done | rfl | (simp only [List.length_drop, List.length_take]; rfl)) ?_; (with_reducible refine (wringerref7_Lengths.calls _ _ t257 (wrap64 (7 + (Int.tmod (wrap64 (a1)) 9))) t264 t267 _ ?side1 ?side2 A8.out).mono ?_); (case side1 => repeat (first | exact (Kd.R_reads' HO259.out).2.2 | (with_reducible refine Kd.C_alloc ?_ _) | (with_reducible refine Kd.C_drewN ?_ _) | (with_reducible refine Kd.C_drew ?_))); (case side2 => exact (Kd.R_reads' HO259.out).2.1); rintro e w18 ⟨v265, rfl, ho0, hb⟩; refine ⟨_, rfl, ?_⟩; have n0_ := Aside0.mk (Kd.R_elder' (by (with_reducible repeat (first | apply Kd.R_alloc | apply Kd.R_drewN | apply Kd.R_drew)); exact HO259.out) (Kd.R_base ho0) hb); have n1_ := Aside0.mk (Kd.R_elder' (by (with_reducible repeat (first | apply Kd.R_alloc | apply Kd.R_drewN | apply Kd.R_drew)); exact HO263.out) (Kd.R_base ho0) hb); have n2_ := Aside0.mk (Kd.R_lower (Kd.R_new' (Kd.R_new' ho0 (Kd.R_lt (by (with_reducible repeat (first | apply Kd.R_alloc | apply Kd.R_drewN | apply Kd.R_drew)); exact HO259.out))) (Kd.R_lt (by (with_reducible repeat (first | apply Kd.R_alloc | apply Kd.R_drewN | apply Kd.R_drew)); exact HO263.out))) (below_size (by repeat (first | (with_reducible first | exact HB.out | apply below_alloc | apply pw_below_drewN | apply below_drew1) | exact HB.out)))); have n3_ := Aside0.mk (below_step (by repeat (first | (with_reducible first | exact HB.out | apply below_alloc | apply pw_below_drewN | apply below_drew1) | exact HB.out)) hb); clear HO259; clear HO263; clear HB; have HO259 := n0_; have HO263 := n1_; have HO266 := n2_; have HB := n3_; clear n0_ n1_ n2_ n3_; (try clear hb); (try clear hb2); (try clear hk); (try clear hi); (try clear ho0)) | ((with_reducible refine gate_dst (N := 9) rfl ?_); refine box_event ?hg (N := 9) ?hd (cs := #[.slice none 0 0, .int .i64 0]) (t := 28) ?hr ?_; (case hd => rfl); (case hg => rfl); (case hr => first | (go_simp; done) | (go_simp; rfl)); intro gb268 hg w19 hbox hb; have n0_ := Aside0.mk (Kd.R_below (by (with_reducible repeat (first | apply Kd.R_alloc | apply Kd.R_drewN | apply Kd.R_drew)); exact HO259.out) hb); have n1_ := Aside0.mk (Kd.R_below (by (with_reducible repeat (first | apply Kd.R_alloc | apply Kd.R_drewN | apply Kd.R_drew)); exact HO263.out) hb); have n2_ := Aside0.mk (Kd.R_below (by (with_reducible repeat (first | apply Kd.R_alloc | apply Kd.R_drewN | apply Kd.R_drew)); exact HO266.out) hb); have n3_ := Aside0.mk (below_step (by repeat (first | (with_reducible first | exact HB.out | apply below_alloc | apply pw_below_drewN | apply below_drew1) | exact HB.out)) hb); have n4_ := Aside0.mk (hbox); have n5_ := Aside0.mk ((by rw [hg]; exact (below_size (by repeat (first | (with_reducible first | exact HB.out | apply below_alloc | apply pw_below_drewN | apply below_drew1) | exact HB.out))) : w.heap.size ≤ gb268)); have n6_ := Aside0.mk ((by rw [hg]; exact (below_size (by repeat (first | (with_reducible first | exact HB.out | apply below_alloc | apply pw_below_drewN | apply below_drew1) | exact HB.out))) : w.heap.size ≤ gb268)); clear HO259; clear HO263; clear HO266; clear HB; have HO259 := n0_; have HO263 := n1_; have HO266 := n2_; have HB := n3_; have BK268 := n4_; have GW268 := n5_; have GE268 := n6_; clear n0_ n1_ n2_ n3_ n4_ n5_ n6_; clear hb hbox hg; obtain ⟨Ao20, co20, eo20⟩ := Kd.R_slice HO266.out; subst eo20; have hcz21_0 : w19.cell? ⟨gb268, 0, none⟩ = some (.slice none 0 0) := (blk_cell BK268.out 0).trans rfl; have hcz21_1 : w19.cell? ⟨gb268, 1, none⟩ = some (.int .i64 0) := (blk_cell BK268.out 1).trans rfl; have hfz21_0 := blk_frozen BK268.out 0; have hfz21_1 := blk_frozen BK268.out 1; obtain ⟨Ao22, co22, eo22⟩ := Kd.R_slice HO263.out; subst eo22) | ((with_reducible refine gate_callee (f := 13) rfl ?_); refine goesL_ (some 32) rfl rfl Try.func13 (by kernel_rfl) rfl #[.slice Ao22 t260.length co22, .slice Ao20 t264.length co20] rfl (by (try simp only [List.map_toArray, List.map_cons, List.map_nil]); first | done | rfl | (simp only [List.length_drop, List.length_take]; rfl)) ?_; (with_reducible refine (wringerref7_SameInts.calls k _ _ t260 _ _ t264 true _ ?side1 ?side2 ?side3 ?side4 A9.out).mono ?_); (case side1 => refine (Kd.R_reads' (e := 3) (base := w.heap.size) (ok := fun k_ => ((True ∧ some k_ ≠ (.slice Ao16 t257.length co16 : Value).ownBlock) ∧ some k_ ≠ (.slice Ao20 t264.length co20 : Value).ownBlock)) (n := t260.length) (c := co22) ?_).2.2; exact (by (with_reducible repeat (first | apply Kd.R_alloc | apply Kd.R_drewN | apply Kd.R_drew)); exact (Kd.R_mono (Kd.R_far (p := ⟨gb268, 1, none⟩) (Kd.R_far (p := ⟨gb268, 0, none⟩) (Kd.R_types HO263.out BK268.out (by decide)) (fun _ hk => hk.2) (.slice Ao20 t264.length co20)) (fun _ hk => hk.2) (.int .i64 t267)) (fun _ h_ => h_.1)))); (case side2 => exact (Kd.R_reads' HO263.out).2.1); (case side3 => refine (Kd.R_reads' (e := 3) (base := w.heap.size) (ok := fun k_ => ((True ∧ some k_ ≠ (.slice Ao16 t257.length co16 : Value).ownBlock) ∧ some k_ ≠ (.slice Ao22 t260.length co22 : Value).ownBlock)) (n := t264.length) (c := co20) ?_).2.2; exact (by (with_reducible repeat (first | apply Kd.R_alloc | apply Kd.R_drewN | apply Kd.R_drew)); exact (Kd.R_mono (Kd.R_far (p := ⟨gb268, 1, none⟩) (Kd.R_far (p := ⟨gb268, 0, none⟩) (Kd.R_types HO266.out BK268.out (by decide)) (fun _ hk => hk.2) (.slice Ao20 t264.length co20)) (fun _ hk => hk.2) (.int .i64 t267)) (fun _ h_ => h_.1)))); (case side4 => exact (Kd.R_reads' HO266.out).2.1); rintro e w' ⟨rfl, ⟨nd, rfl⟩⟩; refine ⟨_, rfl, ?_⟩) | (go_at_call 14; (with_reducible refine (wringerlaw1_Err.calls t261 t270 _ A11.out).mono ?_); rintro e w' ⟨rfl, ⟨nd, rfl⟩⟩) | (go_at_call 10; (with_reducible refine (wringerlaw8_awake.calls  t271 _ A14.out).mono ?_); rintro e w23 ⟨rfl, hb⟩; have n0_ := Aside0.mk (Kd.R_below (by (with_reducible repeat (first | apply Kd.R_alloc | apply Kd.R_drewN | apply Kd.R_drew)); exact (Kd.R_mono (Kd.R_far (p := ⟨gb268, 1, none⟩) (Kd.R_far (p := ⟨gb268, 0, none⟩) (Kd.R_types HO259.out BK268.out (by decide)) (fun _ hk => hk.2) (.slice Ao20 t264.length co20)) (fun _ hk => hk.2) (.int .i64 t267)) (fun _ h_ => h_.1))) hb); have n1_ := Aside0.mk (Kd.R_below (by (with_reducible repeat (first | apply Kd.R_alloc | apply Kd.R_drewN | apply Kd.R_drew)); exact (Kd.R_mono (Kd.R_far (p := ⟨gb268, 1, none⟩) (Kd.R_far (p := ⟨gb268, 0, none⟩) (Kd.R_types HO263.out BK268.out (by decide)) (fun _ hk => hk.2) (.slice Ao20 t264.length co20)) (fun _ hk => hk.2) (.int .i64 t267)) (fun _ h_ => h_.1))) hb); have n2_ := Aside0.mk (Kd.R_below (by (with_reducible repeat (first | apply Kd.R_alloc | apply Kd.R_drewN | apply Kd.R_drew)); exact (Kd.R_mono (Kd.R_far (p := ⟨gb268, 1, none⟩) (Kd.R_far (p := ⟨gb268, 0, none⟩) (Kd.R_types HO266.out BK268.out (by decide)) (fun _ hk => hk.2) (.slice Ao20 t264.length co20)) (fun _ hk => hk.2) (.int .i64 t267)) (fun _ h_ => h_.1))) hb); have n3_ := Aside0.mk (blk_below (g := gb268) (o := .cells #[.slice Ao20 t264.length co20, .int .i64 t267] 28 (0, 0)) (by (with_reducible repeat (first | refine blk_drewN ?_ _ | refine blk_drew ?_ | refine blk_alloc ?_ _)); refine blk_put (cs := #[.slice Ao20 t264.length co20, .int .i64 0]) ?_ 1 _ rfl; (with_reducible repeat (first | refine blk_drewN ?_ _ | refine blk_drew ?_ | refine blk_alloc ?_ _)); refine blk_put (cs := #[.slice none 0 0, .int .i64 0]) ?_ 0 _ rfl; (with_reducible repeat (first | refine blk_drewN ?_ _ | refine blk_drew ?_ | refine blk_alloc ?_ _)); exact BK268.out) hb); have n4_ := Aside0.mk (below_step (by repeat (first | (with_reducible first | exact HB.out | apply below_alloc | apply pw_below_drewN | apply below_drew1 | refine below_set ?_ GE268.out) | exact HB.out)) hb); clear HO259; clear HO263; clear HO266; clear BK268; clear HB; have HO259 := n0_; have HO263 := n1_; have HO266 := n2_; have BK268 := n3_; have HB := n4_; clear n0_ n1_ n2_ n3_ n4_; (try clear hb); (try clear hb2); (try clear hk); (try clear hi)))
          go_ret
          exact ⟨by first | rfl | (simp [errW_none, errW_some] <;> rfl) | (simp [*, errW_none, errW_some] <;> rfl), by repeat (first | (with_reducible first | exact HB.out | apply below_alloc | apply pw_below_drewN | apply below_drew1 | refine below_set ?_ GE268.out) | exact HB.out)⟩
        · rw [if_neg c13] at H
          have c13b0 : (t267 == 0) = false := beq_eq_false_iff_ne.mpr c13
          have c13b1 : (t267 != 0) = true := bne_iff_ne.mpr c13
          obtain rfl := Option.some.inj H
          go_enter Try.func4, Try.ntmps4
          go_wp2_with (first | ((with_reducible refine gate_callee (f := 17) rfl ?_); refine goesL_ (some 15) rfl rfl Try.func17 (by kernel_rfl) rfl #[.slice A0 l0.length c0] rfl (by (try simp only [List.map_toArray, List.map_cons, List.map_nil]); first | done | rfl | (simp only [List.length_drop, List.length_take]; rfl)) ?_; (with_reducible refine (wringerlaw8_Freq.calls k _ _ l0 t257 _ ?side1 ?side2 A6.out).mono ?_); (case side1 => repeat (first | exact HR0.out | (with_reducible refine Kd.C_alloc ?_ _) | (with_reducible refine Kd.C_drewN ?_ _) | (with_reducible refine Kd.C_drew ?_))); (case side2 => exact HC0.out); rintro e w24 ⟨v258, rfl, ho0, hb⟩; refine ⟨_, rfl, ?_⟩; have n0_ := Aside0.mk (Kd.R_lower ho0 (below_size (by repeat (first | (with_reducible first | exact HB.out | apply below_alloc | apply pw_below_drewN | apply below_drew1) | exact HB.out)))); have n1_ := Aside0.mk (below_step (by repeat (first | (with_reducible first | exact HB.out | apply below_alloc | apply pw_below_drewN | apply below_drew1) | exact HB.out)) hb); clear HB; have HO259 := n0_; have HB := n1_; clear n0_ n1_; (try clear hb); (try clear hb2); (try clear hk); (try clear hi); (try clear ho0); obtain ⟨Ao25, co25, eo25⟩ := Kd.R_slice HO259.out; subst eo25) | ((with_reducible refine gate_callee (f := 11) rfl ?_); refine goesL_ (some 23) rfl rfl Try.func11 (by kernel_rfl) rfl #[.slice Ao25 t257.length co25, .int .i64 (wrap64 (7 + (Int.tmod (wrap64 (a1)) 9)))] rfl (by (try simp only [List.map_toArray, List.map_cons, List.map_nil]); first | done | rfl | (simp only [List.length_drop, List.length_take]; rfl)) ?_; (with_reducible refine (merge_Lengths.calls _ _ t257 (wrap64 (7 + (Int.tmod (wrap64 (a1)) 9))) t260 t261 _ ?side1 ?side2 A7.out).mono ?_); (case side1 => repeat (first | exact (Kd.R_reads' HO259.out).2.2 | (with_reducible refine Kd.C_alloc ?_ _) | (with_reducible refine Kd.C_drewN ?_ _) | (with_reducible refine Kd.C_drew ?_))); (case side2 => exact (Kd.R_reads' HO259.out).2.1); rintro e w26 ⟨v262, rfl, ho0, hb⟩; refine ⟨_, rfl, ?_⟩; have n0_ := Aside0.mk (Kd.R_elder' (by (with_reducible repeat (first | apply Kd.R_alloc | apply Kd.R_drewN | apply Kd.R_drew)); exact HO259.out) (Kd.R_base ho0) hb); have n1_ := Aside0.mk (Kd.R_lower (Kd.R_new' ho0 (Kd.R_lt (by (with_reducible repeat (first | apply Kd.R_alloc | apply Kd.R_drewN | apply Kd.R_drew)); exact HO259.out))) (below_size (by repeat (first | (with_reducible first | exact HB.out | apply below_alloc | apply pw_below_drewN | apply below_drew1) | exact HB.out)))); have n2_ := Aside0.mk (below_step (by repeat (first | (with_reducible first | exact HB.out | apply below_alloc | apply pw_below_drewN | apply below_drew1) | exact HB.out)) hb); clear HO259; clear HB; have HO259 := n0_; have HO263 := n1_; have HB := n2_; clear n0_ n1_ n2_; (try clear hb); (try clear hb2); (try clear hk); (try clear hi); (try clear ho0)) | ((with_reducible refine gate_callee (f := 12) rfl ?_); refine goesL_ (some 28) rfl rfl Try.func12 (by kernel_rfl) rfl #[.slice Ao25 t257.length co25, .int .i64 (wrap64 (7 + (Int.tmod (wrap64 (a1)) 9)))] rfl (by (try simp only [List.map_toArray, List.map_cons, List.map_nil]); first | done | rfl | (simp only [List.length_drop, List.length_take]; rfl)) ?_; (with_reducible refine (wringerref7_Lengths.calls _ _ t257 (wrap64 (7 + (Int.tmod (wrap64 (a1)) 9))) t264 t267 _ ?side1 ?side2 A8.out).mono ?_); (case side1 => repeat (first | exact (Kd.R_reads' HO259.out).2.2 | (with_reducible refine Kd.C_alloc ?_ _) | (with_reducible refine Kd.C_drewN ?_ _) | (with_reducible refine Kd.C_drew ?_))); (case side2 => exact (Kd.R_reads' HO259.out).2.1); rintro e w27 ⟨v265, rfl, ho0, hb⟩; refine ⟨_, rfl, ?_⟩; have n0_ := Aside0.mk (Kd.R_elder' (by (with_reducible repeat (first | apply Kd.R_alloc | apply Kd.R_drewN | apply Kd.R_drew)); exact HO259.out) (Kd.R_base ho0) hb); have n1_ := Aside0.mk (Kd.R_elder' (by (with_reducible repeat (first | apply Kd.R_alloc | apply Kd.R_drewN | apply Kd.R_drew)); exact HO263.out) (Kd.R_base ho0) hb); have n2_ := Aside0.mk (Kd.R_lower (Kd.R_new' (Kd.R_new' ho0 (Kd.R_lt (by (with_reducible repeat (first | apply Kd.R_alloc | apply Kd.R_drewN | apply Kd.R_drew)); exact HO259.out))) (Kd.R_lt (by (with_reducible repeat (first | apply Kd.R_alloc | apply Kd.R_drewN | apply Kd.R_drew)); exact HO263.out))) (below_size (by repeat (first | (with_reducible first | exact HB.out | apply below_alloc | apply pw_below_drewN | apply below_drew1) | exact HB.out)))); have n3_ := Aside0.mk (below_step (by repeat (first | (with_reducible first | exact HB.out | apply below_alloc | apply pw_below_drewN | apply below_drew1) | exact HB.out)) hb); clear HO259; clear HO263; clear HB; have HO259 := n0_; have HO263 := n1_; have HO266 := n2_; have HB := n3_; clear n0_ n1_ n2_ n3_; (try clear hb); (try clear hb2); (try clear hk); (try clear hi); (try clear ho0)) | ((with_reducible refine gate_dst (N := 9) rfl ?_); refine box_event ?hg (N := 9) ?hd (cs := #[.slice none 0 0, .int .i64 0]) (t := 28) ?hr ?_; (case hd => rfl); (case hg => rfl); (case hr => first | (go_simp; done) | (go_simp; rfl)); intro gb268 hg w28 hbox hb; have n0_ := Aside0.mk (Kd.R_below (by (with_reducible repeat (first | apply Kd.R_alloc | apply Kd.R_drewN | apply Kd.R_drew)); exact HO259.out) hb); have n1_ := Aside0.mk (Kd.R_below (by (with_reducible repeat (first | apply Kd.R_alloc | apply Kd.R_drewN | apply Kd.R_drew)); exact HO263.out) hb); have n2_ := Aside0.mk (Kd.R_below (by (with_reducible repeat (first | apply Kd.R_alloc | apply Kd.R_drewN | apply Kd.R_drew)); exact HO266.out) hb); have n3_ := Aside0.mk (below_step (by repeat (first | (with_reducible first | exact HB.out | apply below_alloc | apply pw_below_drewN | apply below_drew1) | exact HB.out)) hb); have n4_ := Aside0.mk (hbox); have n5_ := Aside0.mk ((by rw [hg]; exact (below_size (by repeat (first | (with_reducible first | exact HB.out | apply below_alloc | apply pw_below_drewN | apply below_drew1) | exact HB.out))) : w.heap.size ≤ gb268)); have n6_ := Aside0.mk ((by rw [hg]; exact (below_size (by repeat (first | (with_reducible first | exact HB.out | apply below_alloc | apply pw_below_drewN | apply below_drew1) | exact HB.out))) : w.heap.size ≤ gb268)); clear HO259; clear HO263; clear HO266; clear HB; have HO259 := n0_; have HO263 := n1_; have HO266 := n2_; have HB := n3_; have BK268 := n4_; have GW268 := n5_; have GE268 := n6_; clear n0_ n1_ n2_ n3_ n4_ n5_ n6_; clear hb hbox hg; obtain ⟨Ao29, co29, eo29⟩ := Kd.R_slice HO266.out; subst eo29; have hcz30_0 : w28.cell? ⟨gb268, 0, none⟩ = some (.slice none 0 0) := (blk_cell BK268.out 0).trans rfl; have hcz30_1 : w28.cell? ⟨gb268, 1, none⟩ = some (.int .i64 0) := (blk_cell BK268.out 1).trans rfl; have hfz30_0 := blk_frozen BK268.out 0; have hfz30_1 := blk_frozen BK268.out 1; obtain ⟨Ao31, co31, eo31⟩ := Kd.R_slice HO263.out; subst eo31) | ((with_reducible refine gate_callee (f := 13) rfl ?_); refine goesL_ (some 32) rfl rfl Try.func13 (by kernel_rfl) rfl #[.slice Ao31 t260.length co31, .slice Ao29 t264.length co29] rfl (by (try simp only [List.map_toArray, List.map_cons, List.map_nil]); first | done | rfl | (simp only [List.length_drop, List.length_take]; rfl)) ?_; (with_reducible refine (wringerref7_SameInts.calls k _ _ t260 _ _ t264 true _ ?side1 ?side2 ?side3 ?side4 A9.out).mono ?_); (case side1 => refine (Kd.R_reads' (e := 3) (base := w.heap.size) (ok := fun k_ => ((True ∧ some k_ ≠ (.slice Ao25 t257.length co25 : Value).ownBlock) ∧ some k_ ≠ (.slice Ao29 t264.length co29 : Value).ownBlock)) (n := t260.length) (c := co31) ?_).2.2; exact (by (with_reducible repeat (first | apply Kd.R_alloc | apply Kd.R_drewN | apply Kd.R_drew)); exact (Kd.R_mono (Kd.R_far (p := ⟨gb268, 1, none⟩) (Kd.R_far (p := ⟨gb268, 0, none⟩) (Kd.R_types HO263.out BK268.out (by decide)) (fun _ hk => hk.2) (.slice Ao29 t264.length co29)) (fun _ hk => hk.2) (.int .i64 t267)) (fun _ h_ => h_.1)))); (case side2 => exact (Kd.R_reads' HO263.out).2.1); (case side3 => refine (Kd.R_reads' (e := 3) (base := w.heap.size) (ok := fun k_ => ((True ∧ some k_ ≠ (.slice Ao25 t257.length co25 : Value).ownBlock) ∧ some k_ ≠ (.slice Ao31 t260.length co31 : Value).ownBlock)) (n := t264.length) (c := co29) ?_).2.2; exact (by (with_reducible repeat (first | apply Kd.R_alloc | apply Kd.R_drewN | apply Kd.R_drew)); exact (Kd.R_mono (Kd.R_far (p := ⟨gb268, 1, none⟩) (Kd.R_far (p := ⟨gb268, 0, none⟩) (Kd.R_types HO266.out BK268.out (by decide)) (fun _ hk => hk.2) (.slice Ao29 t264.length co29)) (fun _ hk => hk.2) (.int .i64 t267)) (fun _ h_ => h_.1)))); (case side4 => exact (Kd.R_reads' HO266.out).2.1); rintro e w' ⟨rfl, ⟨nd, rfl⟩⟩; refine ⟨_, rfl, ?_⟩) | (go_at_call 14; (with_reducible refine (wringerlaw1_Err.calls t261 t270 _ A11.out).mono ?_); rintro e w' ⟨rfl, ⟨nd, rfl⟩⟩))
          go_ret
          exact ⟨by first | rfl | (simp [errW_none, errW_some] <;> rfl) | (simp [*, errW_none, errW_some] <;> rfl), by repeat (first | (with_reducible first | exact HB.out | apply below_alloc | apply pw_below_drewN | apply below_drew1 | refine below_set ?_ GE268.out) | exact HB.out)⟩
      · rw [if_neg c12] at H
        have c12b0 : (t270 == 0) = false := beq_eq_false_iff_ne.mpr c12
        have c12b1 : (t270 != 0) = true := bne_iff_ne.mpr c12
        obtain rfl := Option.some.inj H
        go_enter Try.func4, Try.ntmps4
        go_wp2_with (first | ((with_reducible refine gate_callee (f := 17) rfl ?_); refine goesL_ (some 15) rfl rfl Try.func17 (by kernel_rfl) rfl #[.slice A0 l0.length c0] rfl (by (try simp only [List.map_toArray, List.map_cons, List.map_nil]); first | done | rfl | (simp only [List.length_drop, List.length_take]; rfl)) ?_; (with_reducible refine (wringerlaw8_Freq.calls k _ _ l0 t257 _ ?side1 ?side2 A6.out).mono ?_); (case side1 => repeat (first | exact HR0.out | (with_reducible refine Kd.C_alloc ?_ _) | (with_reducible refine Kd.C_drewN ?_ _) | (with_reducible refine Kd.C_drew ?_))); (case side2 => exact HC0.out); rintro e w32 ⟨v258, rfl, ho0, hb⟩; refine ⟨_, rfl, ?_⟩; have n0_ := Aside0.mk (Kd.R_lower ho0 (below_size (by repeat (first | (with_reducible first | exact HB.out | apply below_alloc | apply pw_below_drewN | apply below_drew1) | exact HB.out)))); have n1_ := Aside0.mk (below_step (by repeat (first | (with_reducible first | exact HB.out | apply below_alloc | apply pw_below_drewN | apply below_drew1) | exact HB.out)) hb); clear HB; have HO259 := n0_; have HB := n1_; clear n0_ n1_; (try clear hb); (try clear hb2); (try clear hk); (try clear hi); (try clear ho0); obtain ⟨Ao33, co33, eo33⟩ := Kd.R_slice HO259.out; subst eo33) | ((with_reducible refine gate_callee (f := 11) rfl ?_); refine goesL_ (some 23) rfl rfl Try.func11 (by kernel_rfl) rfl #[.slice Ao33 t257.length co33, .int .i64 (wrap64 (7 + (Int.tmod (wrap64 (a1)) 9)))] rfl (by (try simp only [List.map_toArray, List.map_cons, List.map_nil]); first | done | rfl | (simp only [List.length_drop, List.length_take]; rfl)) ?_; (with_reducible refine (merge_Lengths.calls _ _ t257 (wrap64 (7 + (Int.tmod (wrap64 (a1)) 9))) t260 t261 _ ?side1 ?side2 A7.out).mono ?_); (case side1 => repeat (first | exact (Kd.R_reads' HO259.out).2.2 | (with_reducible refine Kd.C_alloc ?_ _) | (with_reducible refine Kd.C_drewN ?_ _) | (with_reducible refine Kd.C_drew ?_))); (case side2 => exact (Kd.R_reads' HO259.out).2.1); rintro e w34 ⟨v262, rfl, ho0, hb⟩; refine ⟨_, rfl, ?_⟩; have n0_ := Aside0.mk (Kd.R_elder' (by (with_reducible repeat (first | apply Kd.R_alloc | apply Kd.R_drewN | apply Kd.R_drew)); exact HO259.out) (Kd.R_base ho0) hb); have n1_ := Aside0.mk (Kd.R_lower (Kd.R_new' ho0 (Kd.R_lt (by (with_reducible repeat (first | apply Kd.R_alloc | apply Kd.R_drewN | apply Kd.R_drew)); exact HO259.out))) (below_size (by repeat (first | (with_reducible first | exact HB.out | apply below_alloc | apply pw_below_drewN | apply below_drew1) | exact HB.out)))); have n2_ := Aside0.mk (below_step (by repeat (first | (with_reducible first | exact HB.out | apply below_alloc | apply pw_below_drewN | apply below_drew1) | exact HB.out)) hb); clear HO259; clear HB; have HO259 := n0_; have HO263 := n1_; have HB := n2_; clear n0_ n1_ n2_; (try clear hb); (try clear hb2); (try clear hk); (try clear hi); (try clear ho0)) | ((with_reducible refine gate_callee (f := 12) rfl ?_); refine goesL_ (some 28) rfl rfl Try.func12 (by kernel_rfl) rfl #[.slice Ao33 t257.length co33, .int .i64 (wrap64 (7 + (Int.tmod (wrap64 (a1)) 9)))] rfl (by (try simp only [List.map_toArray, List.map_cons, List.map_nil]); first | done | rfl | (simp only [List.length_drop, List.length_take]; rfl)) ?_; (with_reducible refine (wringerref7_Lengths.calls _ _ t257 (wrap64 (7 + (Int.tmod (wrap64 (a1)) 9))) t264 t267 _ ?side1 ?side2 A8.out).mono ?_); (case side1 => repeat (first | exact (Kd.R_reads' HO259.out).2.2 | (with_reducible refine Kd.C_alloc ?_ _) | (with_reducible refine Kd.C_drewN ?_ _) | (with_reducible refine Kd.C_drew ?_))); (case side2 => exact (Kd.R_reads' HO259.out).2.1); rintro e w35 ⟨v265, rfl, ho0, hb⟩; refine ⟨_, rfl, ?_⟩; have n0_ := Aside0.mk (Kd.R_elder' (by (with_reducible repeat (first | apply Kd.R_alloc | apply Kd.R_drewN | apply Kd.R_drew)); exact HO259.out) (Kd.R_base ho0) hb); have n1_ := Aside0.mk (Kd.R_elder' (by (with_reducible repeat (first | apply Kd.R_alloc | apply Kd.R_drewN | apply Kd.R_drew)); exact HO263.out) (Kd.R_base ho0) hb); have n2_ := Aside0.mk (Kd.R_lower (Kd.R_new' (Kd.R_new' ho0 (Kd.R_lt (by (with_reducible repeat (first | apply Kd.R_alloc | apply Kd.R_drewN | apply Kd.R_drew)); exact HO259.out))) (Kd.R_lt (by (with_reducible repeat (first | apply Kd.R_alloc | apply Kd.R_drewN | apply Kd.R_drew)); exact HO263.out))) (below_size (by repeat (first | (with_reducible first | exact HB.out | apply below_alloc | apply pw_below_drewN | apply below_drew1) | exact HB.out)))); have n3_ := Aside0.mk (below_step (by repeat (first | (with_reducible first | exact HB.out | apply below_alloc | apply pw_below_drewN | apply below_drew1) | exact HB.out)) hb); clear HO259; clear HO263; clear HB; have HO259 := n0_; have HO263 := n1_; have HO266 := n2_; have HB := n3_; clear n0_ n1_ n2_ n3_; (try clear hb); (try clear hb2); (try clear hk); (try clear hi); (try clear ho0)) | ((with_reducible refine gate_dst (N := 9) rfl ?_); refine box_event ?hg (N := 9) ?hd (cs := #[.slice none 0 0, .int .i64 0]) (t := 28) ?hr ?_; (case hd => rfl); (case hg => rfl); (case hr => first | (go_simp; done) | (go_simp; rfl)); intro gb268 hg w36 hbox hb; have n0_ := Aside0.mk (Kd.R_below (by (with_reducible repeat (first | apply Kd.R_alloc | apply Kd.R_drewN | apply Kd.R_drew)); exact HO259.out) hb); have n1_ := Aside0.mk (Kd.R_below (by (with_reducible repeat (first | apply Kd.R_alloc | apply Kd.R_drewN | apply Kd.R_drew)); exact HO263.out) hb); have n2_ := Aside0.mk (Kd.R_below (by (with_reducible repeat (first | apply Kd.R_alloc | apply Kd.R_drewN | apply Kd.R_drew)); exact HO266.out) hb); have n3_ := Aside0.mk (below_step (by repeat (first | (with_reducible first | exact HB.out | apply below_alloc | apply pw_below_drewN | apply below_drew1) | exact HB.out)) hb); have n4_ := Aside0.mk (hbox); have n5_ := Aside0.mk ((by rw [hg]; exact (below_size (by repeat (first | (with_reducible first | exact HB.out | apply below_alloc | apply pw_below_drewN | apply below_drew1) | exact HB.out))) : w.heap.size ≤ gb268)); have n6_ := Aside0.mk ((by rw [hg]; exact (below_size (by repeat (first | (with_reducible first | exact HB.out | apply below_alloc | apply pw_below_drewN | apply below_drew1) | exact HB.out))) : w.heap.size ≤ gb268)); clear HO259; clear HO263; clear HO266; clear HB; have HO259 := n0_; have HO263 := n1_; have HO266 := n2_; have HB := n3_; have BK268 := n4_; have GW268 := n5_; have GE268 := n6_; clear n0_ n1_ n2_ n3_ n4_ n5_ n6_; clear hb hbox hg; obtain ⟨Ao37, co37, eo37⟩ := Kd.R_slice HO266.out; subst eo37; have hcz38_0 : w36.cell? ⟨gb268, 0, none⟩ = some (.slice none 0 0) := (blk_cell BK268.out 0).trans rfl; have hcz38_1 : w36.cell? ⟨gb268, 1, none⟩ = some (.int .i64 0) := (blk_cell BK268.out 1).trans rfl; have hfz38_0 := blk_frozen BK268.out 0; have hfz38_1 := blk_frozen BK268.out 1; obtain ⟨Ao39, co39, eo39⟩ := Kd.R_slice HO263.out; subst eo39) | ((with_reducible refine gate_callee (f := 13) rfl ?_); refine goesL_ (some 32) rfl rfl Try.func13 (by kernel_rfl) rfl #[.slice Ao39 t260.length co39, .slice Ao37 t264.length co37] rfl (by (try simp only [List.map_toArray, List.map_cons, List.map_nil]); first | done | rfl | (simp only [List.length_drop, List.length_take]; rfl)) ?_; (with_reducible refine (wringerref7_SameInts.calls k _ _ t260 _ _ t264 true _ ?side1 ?side2 ?side3 ?side4 A9.out).mono ?_); (case side1 => refine (Kd.R_reads' (e := 3) (base := w.heap.size) (ok := fun k_ => ((True ∧ some k_ ≠ (.slice Ao33 t257.length co33 : Value).ownBlock) ∧ some k_ ≠ (.slice Ao37 t264.length co37 : Value).ownBlock)) (n := t260.length) (c := co39) ?_).2.2; exact (by (with_reducible repeat (first | apply Kd.R_alloc | apply Kd.R_drewN | apply Kd.R_drew)); exact (Kd.R_mono (Kd.R_far (p := ⟨gb268, 1, none⟩) (Kd.R_far (p := ⟨gb268, 0, none⟩) (Kd.R_types HO263.out BK268.out (by decide)) (fun _ hk => hk.2) (.slice Ao37 t264.length co37)) (fun _ hk => hk.2) (.int .i64 t267)) (fun _ h_ => h_.1)))); (case side2 => exact (Kd.R_reads' HO263.out).2.1); (case side3 => refine (Kd.R_reads' (e := 3) (base := w.heap.size) (ok := fun k_ => ((True ∧ some k_ ≠ (.slice Ao33 t257.length co33 : Value).ownBlock) ∧ some k_ ≠ (.slice Ao39 t260.length co39 : Value).ownBlock)) (n := t264.length) (c := co37) ?_).2.2; exact (by (with_reducible repeat (first | apply Kd.R_alloc | apply Kd.R_drewN | apply Kd.R_drew)); exact (Kd.R_mono (Kd.R_far (p := ⟨gb268, 1, none⟩) (Kd.R_far (p := ⟨gb268, 0, none⟩) (Kd.R_types HO266.out BK268.out (by decide)) (fun _ hk => hk.2) (.slice Ao37 t264.length co37)) (fun _ hk => hk.2) (.int .i64 t267)) (fun _ h_ => h_.1)))); (case side4 => exact (Kd.R_reads' HO266.out).2.1); rintro e w' ⟨rfl, ⟨nd, rfl⟩⟩; refine ⟨_, rfl, ?_⟩) | (go_at_call 14; (with_reducible refine (wringerlaw1_Err.calls t261 t270 _ A11.out).mono ?_); rintro e w' ⟨rfl, ⟨nd, rfl⟩⟩))
        go_ret
        exact ⟨by first | rfl | (simp [errW_none, errW_some] <;> rfl) | (simp [*, errW_none, errW_some] <;> rfl), by repeat (first | (with_reducible first | exact HB.out | apply below_alloc | apply pw_below_drewN | apply below_drew1 | refine below_set ?_ GE268.out) | exact HB.out)⟩
    · replace c10 := Bool.eq_false_iff.mpr c10
      subst c10
      have H1 : (some false) = some r := by rw [if_neg (show ¬ (false = true) by decide)] at H; exact H
      clear H
      have H := H1
      clear H1
      obtain rfl := Option.some.inj H
      go_enter Try.func4, Try.ntmps4
      go_wp2_with (first | ((with_reducible refine gate_callee (f := 17) rfl ?_); refine goesL_ (some 15) rfl rfl Try.func17 (by kernel_rfl) rfl #[.slice A0 l0.length c0] rfl (by (try simp only [List.map_toArray, List.map_cons, List.map_nil]); first | done | rfl | (simp only [List.length_drop, List.length_take]; rfl)) ?_; (with_reducible refine (wringerlaw8_Freq.calls k _ _ l0 t257 _ ?side1 ?side2 A6.out).mono ?_); (case side1 => repeat (first | exact HR0.out | (with_reducible refine Kd.C_alloc ?_ _) | (with_reducible refine Kd.C_drewN ?_ _) | (with_reducible refine Kd.C_drew ?_))); (case side2 => exact HC0.out); rintro e w40 ⟨v258, rfl, ho0, hb⟩; refine ⟨_, rfl, ?_⟩; have n0_ := Aside0.mk (Kd.R_lower ho0 (below_size (by repeat (first | (with_reducible first | exact HB.out | apply below_alloc | apply pw_below_drewN | apply below_drew1) | exact HB.out)))); have n1_ := Aside0.mk (below_step (by repeat (first | (with_reducible first | exact HB.out | apply below_alloc | apply pw_below_drewN | apply below_drew1) | exact HB.out)) hb); clear HB; have HO259 := n0_; have HB := n1_; clear n0_ n1_; (try clear hb); (try clear hb2); (try clear hk); (try clear hi); (try clear ho0); obtain ⟨Ao41, co41, eo41⟩ := Kd.R_slice HO259.out; subst eo41) | ((with_reducible refine gate_callee (f := 11) rfl ?_); refine goesL_ (some 23) rfl rfl Try.func11 (by kernel_rfl) rfl #[.slice Ao41 t257.length co41, .int .i64 (wrap64 (7 + (Int.tmod (wrap64 (a1)) 9)))] rfl (by (try simp only [List.map_toArray, List.map_cons, List.map_nil]); first | done | rfl | (simp only [List.length_drop, List.length_take]; rfl)) ?_; (with_reducible refine (merge_Lengths.calls _ _ t257 (wrap64 (7 + (Int.tmod (wrap64 (a1)) 9))) t260 t261 _ ?side1 ?side2 A7.out).mono ?_); (case side1 => repeat (first | exact (Kd.R_reads' HO259.out).2.2 | (with_reducible refine Kd.C_alloc ?_ _) | (with_reducible refine Kd.C_drewN ?_ _) | (with_reducible refine Kd.C_drew ?_))); (case side2 => exact (Kd.R_reads' HO259.out).2.1); rintro e w42 ⟨v262, rfl, ho0, hb⟩; refine ⟨_, rfl, ?_⟩; have n0_ := Aside0.mk (Kd.R_elder' (by (with_reducible repeat (first | apply Kd.R_alloc | apply Kd.R_drewN | apply Kd.R_drew)); exact HO259.out) (Kd.R_base ho0) hb); have n1_ := Aside0.mk (Kd.R_lower (Kd.R_new' ho0 (Kd.R_lt (by (with_reducible repeat (first | apply Kd.R_alloc | apply Kd.R_drewN | apply Kd.R_drew)); exact HO259.out))) (below_size (by repeat (first | (with_reducible first | exact HB.out | apply below_alloc | apply pw_below_drewN | apply below_drew1) | exact HB.out)))); have n2_ := Aside0.mk (below_step (by repeat (first | (with_reducible first | exact HB.out | apply below_alloc | apply pw_below_drewN | apply below_drew1) | exact HB.out)) hb); clear HO259; clear HB; have HO259 := n0_; have HO263 := n1_; have HB := n2_; clear n0_ n1_ n2_; (try clear hb); (try clear hb2); (try clear hk); (try clear hi); (try clear ho0)) | ((with_reducible refine gate_callee (f := 12) rfl ?_); refine goesL_ (some 28) rfl rfl Try.func12 (by kernel_rfl) rfl #[.slice Ao41 t257.length co41, .int .i64 (wrap64 (7 + (Int.tmod (wrap64 (a1)) 9)))] rfl (by (try simp only [List.map_toArray, List.map_cons, List.map_nil]); first | done | rfl | (simp only [List.length_drop, List.length_take]; rfl)) ?_; (with_reducible refine (wringerref7_Lengths.calls _ _ t257 (wrap64 (7 + (Int.tmod (wrap64 (a1)) 9))) t264 t267 _ ?side1 ?side2 A8.out).mono ?_); (case side1 => repeat (first | exact (Kd.R_reads' HO259.out).2.2 | (with_reducible refine Kd.C_alloc ?_ _) | (with_reducible refine Kd.C_drewN ?_ _) | (with_reducible refine Kd.C_drew ?_))); (case side2 => exact (Kd.R_reads' HO259.out).2.1); rintro e w43 ⟨v265, rfl, ho0, hb⟩; refine ⟨_, rfl, ?_⟩; have n0_ := Aside0.mk (Kd.R_elder' (by (with_reducible repeat (first | apply Kd.R_alloc | apply Kd.R_drewN | apply Kd.R_drew)); exact HO259.out) (Kd.R_base ho0) hb); have n1_ := Aside0.mk (Kd.R_elder' (by (with_reducible repeat (first | apply Kd.R_alloc | apply Kd.R_drewN | apply Kd.R_drew)); exact HO263.out) (Kd.R_base ho0) hb); have n2_ := Aside0.mk (Kd.R_lower (Kd.R_new' (Kd.R_new' ho0 (Kd.R_lt (by (with_reducible repeat (first | apply Kd.R_alloc | apply Kd.R_drewN | apply Kd.R_drew)); exact HO259.out))) (Kd.R_lt (by (with_reducible repeat (first | apply Kd.R_alloc | apply Kd.R_drewN | apply Kd.R_drew)); exact HO263.out))) (below_size (by repeat (first | (with_reducible first | exact HB.out | apply below_alloc | apply pw_below_drewN | apply below_drew1) | exact HB.out)))); have n3_ := Aside0.mk (below_step (by repeat (first | (with_reducible first | exact HB.out | apply below_alloc | apply pw_below_drewN | apply below_drew1) | exact HB.out)) hb); clear HO259; clear HO263; clear HB; have HO259 := n0_; have HO263 := n1_; have HO266 := n2_; have HB := n3_; clear n0_ n1_ n2_ n3_; (try clear hb); (try clear hb2); (try clear hk); (try clear hi); (try clear ho0)) | ((with_reducible refine gate_dst (N := 9) rfl ?_); refine box_event ?hg (N := 9) ?hd (cs := #[.slice none 0 0, .int .i64 0]) (t := 28) ?hr ?_; (case hd => rfl); (case hg => rfl); (case hr => first | (go_simp; done) | (go_simp; rfl)); intro gb268 hg w44 hbox hb; have n0_ := Aside0.mk (Kd.R_below (by (with_reducible repeat (first | apply Kd.R_alloc | apply Kd.R_drewN | apply Kd.R_drew)); exact HO259.out) hb); have n1_ := Aside0.mk (Kd.R_below (by (with_reducible repeat (first | apply Kd.R_alloc | apply Kd.R_drewN | apply Kd.R_drew)); exact HO263.out) hb); have n2_ := Aside0.mk (Kd.R_below (by (with_reducible repeat (first | apply Kd.R_alloc | apply Kd.R_drewN | apply Kd.R_drew)); exact HO266.out) hb); have n3_ := Aside0.mk (below_step (by repeat (first | (with_reducible first | exact HB.out | apply below_alloc | apply pw_below_drewN | apply below_drew1) | exact HB.out)) hb); have n4_ := Aside0.mk (hbox); have n5_ := Aside0.mk ((by rw [hg]; exact (below_size (by repeat (first | (with_reducible first | exact HB.out | apply below_alloc | apply pw_below_drewN | apply below_drew1) | exact HB.out))) : w.heap.size ≤ gb268)); have n6_ := Aside0.mk ((by rw [hg]; exact (below_size (by repeat (first | (with_reducible first | exact HB.out | apply below_alloc | apply pw_below_drewN | apply below_drew1) | exact HB.out))) : w.heap.size ≤ gb268)); clear HO259; clear HO263; clear HO266; clear HB; have HO259 := n0_; have HO263 := n1_; have HO266 := n2_; have HB := n3_; have BK268 := n4_; have GW268 := n5_; have GE268 := n6_; clear n0_ n1_ n2_ n3_ n4_ n5_ n6_; clear hb hbox hg; obtain ⟨Ao45, co45, eo45⟩ := Kd.R_slice HO266.out; subst eo45; have hcz46_0 : w44.cell? ⟨gb268, 0, none⟩ = some (.slice none 0 0) := (blk_cell BK268.out 0).trans rfl; have hcz46_1 : w44.cell? ⟨gb268, 1, none⟩ = some (.int .i64 0) := (blk_cell BK268.out 1).trans rfl; have hfz46_0 := blk_frozen BK268.out 0; have hfz46_1 := blk_frozen BK268.out 1; obtain ⟨Ao47, co47, eo47⟩ := Kd.R_slice HO263.out; subst eo47) | ((with_reducible refine gate_callee (f := 13) rfl ?_); refine goesL_ (some 32) rfl rfl Try.func13 (by kernel_rfl) rfl #[.slice Ao47 t260.length co47, .slice Ao45 t264.length co45] rfl (by (try simp only [List.map_toArray, List.map_cons, List.map_nil]); first | done | rfl | (simp only [List.length_drop, List.length_take]; rfl)) ?_; (with_reducible refine (wringerref7_SameInts.calls k _ _ t260 _ _ t264 false _ ?side1 ?side2 ?side3 ?side4 A9.out).mono ?_); (case side1 => refine (Kd.R_reads' (e := 3) (base := w.heap.size) (ok := fun k_ => ((True ∧ some k_ ≠ (.slice Ao41 t257.length co41 : Value).ownBlock) ∧ some k_ ≠ (.slice Ao45 t264.length co45 : Value).ownBlock)) (n := t260.length) (c := co47) ?_).2.2; exact (by (with_reducible repeat (first | apply Kd.R_alloc | apply Kd.R_drewN | apply Kd.R_drew)); exact (Kd.R_mono (Kd.R_far (p := ⟨gb268, 1, none⟩) (Kd.R_far (p := ⟨gb268, 0, none⟩) (Kd.R_types HO263.out BK268.out (by decide)) (fun _ hk => hk.2) (.slice Ao45 t264.length co45)) (fun _ hk => hk.2) (.int .i64 t267)) (fun _ h_ => h_.1)))); (case side2 => exact (Kd.R_reads' HO263.out).2.1); (case side3 => refine (Kd.R_reads' (e := 3) (base := w.heap.size) (ok := fun k_ => ((True ∧ some k_ ≠ (.slice Ao41 t257.length co41 : Value).ownBlock) ∧ some k_ ≠ (.slice Ao47 t260.length co47 : Value).ownBlock)) (n := t264.length) (c := co45) ?_).2.2; exact (by (with_reducible repeat (first | apply Kd.R_alloc | apply Kd.R_drewN | apply Kd.R_drew)); exact (Kd.R_mono (Kd.R_far (p := ⟨gb268, 1, none⟩) (Kd.R_far (p := ⟨gb268, 0, none⟩) (Kd.R_types HO266.out BK268.out (by decide)) (fun _ hk => hk.2) (.slice Ao45 t264.length co45)) (fun _ hk => hk.2) (.int .i64 t267)) (fun _ h_ => h_.1)))); (case side4 => exact (Kd.R_reads' HO266.out).2.1); rintro e w' ⟨rfl, ⟨nd, rfl⟩⟩; refine ⟨_, rfl, ?_⟩))
      go_ret
      exact ⟨by first | rfl | (simp [errW_none, errW_some] <;> rfl) | (simp [*, errW_none, errW_some] <;> rfl), by repeat (first | (with_reducible first | exact HB.out | apply below_alloc | apply pw_below_drewN | apply below_drew1 | refine below_set ?_ GE268.out) | exact HB.out)⟩

/-- THE ONE PURE STATEMENT of wringerlaw8_MergeMade: yours. -/
def wringerlaw8_MergeMade.Pure : Prop := ∀ (l0 : List Int) (a1 : Int), l0.length ≤ maxLen → l0.length * 2 ≤ 140737488351232 → (∀ x ∈ l0, (Lit.int .u16 x).wf = true) → (Lit.int .u8 a1).wf = true → ∃ k, wringerlaw8_MergeMade.f k l0 a1 = some true
theorem wringerlaw8_MergeMade.walk (P : wringerlaw8_MergeMade.Pure) (a0 : Option Addr) (len0 cap0 : Nat) (z0 : List Int) (a1 : Int) (w : World) (w0 : (a0 = none ∧ len0 = 0 ∧ cap0 = 0 ∧ z0 = []) ∨ ∃ x, a0 = some x ∧ len0 ≤ cap0 ∧ cap0 ≤ maxLen ∧ z0.length = cap0 ∧ (∀ i, i < z0.length → w.cell? (x.add i) = some (.int .u16 (z0.getD i 0))) ∧ ∀ n ∈ z0, (Lit.int .u16 n).wf = true) (y0 : len0 * 2 ≤ 140737488351232) (w1 : (Lit.int .u8 a1).wf = true) :
    Calls Try.prog 4 #[.slice a0 len0 cap0, .int .u8 a1] w fun e w' => e = .returned (.bool true) ∧ Below w.heap.size w w' := by
  obtain ⟨l0, rfl, hr0, hm0, hw0, hc0⟩ := ReadsInt.ofRowC w0
  obtain ⟨k, h⟩ := P l0 a1 hm0 y0 hw0 w1
  refine (wringerlaw8_MergeMade.calls k _ _ l0 a1 true w (Kd.C_of_reads (d := (0 : Int)) (h1 := fun _ => rfl) hr0) hc0 h).mono ?_
  rintro e w' ⟨rfl, hd⟩
  exact ⟨rfl, hd⟩

end Go.Proofs.Ytejecpmfhgplmaa.PA

-- ---- Nl
/- Numbers of a sum, out of how often each comes: plain facts. No program in sight. -/
namespace Go.Proofs.Ytejecpmfhgplmaa.Nl
set_option linter.unusedSimpArgs false
set_option linter.unusedVariables false
set_option linter.unusedSectionVars false
open Hp Ol

def bump (l : List Int) (k : Nat) (d : Int) : List Int := l.set k (l.getD k 0 + d)
theorem length_bump (l : List Int) (k : Nat) (d : Int) : (bump l k d).length = l.length := by simp [bump]
theorem getD_bump (l : List Int) (k : Nat) (d : Int) (i : Nat) (hk : k < l.length) : (bump l k d).getD i 0 = if i = k then l.getD k 0 + d else l.getD i 0 := by
  unfold bump
  by_cases h : i = k
  · subst h; rw [if_pos rfl]; simp [List.getD_eq_getElem?_getD, hk]
  · rw [if_neg h]; simp only [List.getD_eq_getElem?_getD]; rw [List.getElem?_set_ne (Ne.symm h)]
theorem sum_set (l : List Int) : ∀ (k : Nat) (v : Int), k < l.length → (l.set k v).sum = l.sum - l.getD k 0 + v := by
  induction l with
  | nil => intro k v h; simp at h
  | cons a t ih =>
    intro k v h
    cases k with
    | zero => simp; omega
    | succ k =>
      have := ih k v (by simpa using h)
      simp only [List.set_cons_succ, List.sum_cons, this]
      have e : (a :: t).getD (k + 1) 0 = t.getD k 0 := by simp
      rw [e]; omega
theorem sum_bump (l : List Int) (k : Nat) (d : Int) (h : k < l.length) : (bump l k d).sum = l.sum + d := by
  unfold bump; rw [sum_set l k _ h]; omega

def share (size all n : Int) : Int := if 0 < n then max 1 (n * size / all) else 0
def shares (f : List Int) (size all : Int) : List Int := f.map (share size all)
def decTop : Nat → List Int → List Int
  | 0, l => l
  | m + 1, l => decTop m (bump l ((ordL l).headD 0) (-1))
def normL (f : List Int) (size : Int) : List Int :=
  if (shares f size f.sum).sum ≤ size then bump (shares f size f.sum) ((ordL f).headD 0) (size - (shares f size f.sum).sum) else decTop ((shares f size f.sum).sum - size).toNat (shares f size f.sum)

theorem getD_shares (f : List Int) (size all : Int) (i : Nat) (h : i < f.length) : (shares f size all).getD i 0 = share size all (f.getD i 0) := by
  simp [shares, List.getD_eq_getElem?_getD, h]
theorem length_shares (f : List Int) (size all : Int) : (shares f size all).length = f.length := by simp [shares]
theorem share_nonneg (size all n : Int) : 0 ≤ share size all n := by unfold share; split <;> omega
theorem share_pos (size all n : Int) : 0 < share size all n ↔ 0 < n := by
  unfold share
  split
  · rename_i h; exact ⟨fun _ => h, fun _ => by omega⟩
  · rename_i h; exact ⟨fun h2 => by omega, fun h2 => absurd h2 h⟩
theorem share_le (size all n : Int) (hs : 1 ≤ size) (ha : 0 < all) (hn : n ≤ all) : share size all n ≤ size := by
  unfold share
  split
  · rename_i h
    have h1 : n * size ≤ all * size := Int.mul_le_mul_of_nonneg_right hn (by omega)
    have h2 : n * size / all ≤ size := by
      have := Int.ediv_le_ediv ha h1
      rwa [Int.mul_ediv_cancel_left _ (by omega)] at this
    omega
  · omega
theorem share_mono (size all a b : Int) (hs : 1 ≤ size) (ha : 0 < all) (h : a ≤ b) : share size all a ≤ share size all b := by
  unfold share
  split
  · rw [if_pos (by omega)]
    have h1 : a * size ≤ b * size := Int.mul_le_mul_of_nonneg_right h (by omega)
    have := Int.ediv_le_ediv ha h1
    omega
  · split <;> omega

theorem sum_nonneg (l : List Int) (h : ∀ x ∈ l, 0 ≤ x) : 0 ≤ l.sum := by
  induction l with
  | nil => simp
  | cons a t ih => have := ih fun x hx => h x (List.mem_cons_of_mem _ hx); have := h a (by simp); simp; omega
theorem le_sum (l : List Int) (h : ∀ x ∈ l, 0 ≤ x) : ∀ x ∈ l, x ≤ l.sum := by
  induction l with
  | nil => simp
  | cons a t ih =>
    intro x hx
    have h0 := sum_nonneg t fun x hx => h x (List.mem_cons_of_mem _ hx)
    have h1 := h a (by simp)
    simp only [List.sum_cons]
    rcases List.mem_cons.1 hx with rfl | hx
    · omega
    · have := ih (fun x hx => h x (List.mem_cons_of_mem _ hx)) x hx; omega
theorem sum_le_max (l : List Int) (m : Int) (h : ∀ x ∈ l, x ≤ m) : l.sum ≤ m * l.length := by
  induction l with
  | nil => simp
  | cons a t ih =>
    have h1 := ih fun x hx => h x (List.mem_cons_of_mem _ hx)
    have h2 := h a (by simp)
    simp only [List.sum_cons, List.length_cons]
    have e : m * ((t.length + 1 : Nat) : Int) = m * (t.length : Int) + m := by rw [Int.natCast_add, Int.mul_add]; simp
    rw [e]; omega
theorem mem_getD {l : List Int} {x : Int} (h : x ∈ l) : ∃ i, i < l.length ∧ l.getD i 0 = x := by
  obtain ⟨i, hi, rfl⟩ := List.mem_iff_getElem.1 h
  exact ⟨i, hi, by simp [List.getD_eq_getElem?_getD, hi]⟩
theorem getD_mem {l : List Int} {i : Nat} (h : i < l.length) : l.getD i 0 ∈ l := by
  rw [List.getD_eq_getElem?_getD, List.getElem?_eq_getElem h]; exact List.getElem_mem _

/-- Where one number at least is greater than 1: the greatest is, and one is taken from it. -/
structure Top (l : List Int) (k : Nat) : Prop where
  lt : k < l.length
  two : 2 ≤ l.getD k 0
  max : ∀ i, i < l.length → l.getD i 0 ≤ l.getD k 0
  least : ∀ i, i < l.length → l.getD i 0 = l.getD k 0 → k ≤ i
theorem top_of {l : List Int} (h : (l.length : Int) < l.sum) : Top l ((ordL l).headD 0) ∧ ∃ t, ordL l = (ordL l).headD 0 :: t := by
  have h2 : ∃ x ∈ l, 2 ≤ x := by
    apply Classical.byContradiction
    intro hno
    have := sum_le_max l 1 fun x hx => by
      have : ¬ 2 ≤ x := fun h2 => hno ⟨x, hx, h2⟩
      omega
    omega
  obtain ⟨x, hx, hx2⟩ := h2
  obtain ⟨i, hi, rfl⟩ := mem_getD hx
  obtain ⟨k, t, hk⟩ := ordL_cons (f := l) ⟨i, hi, by omega⟩
  obtain ⟨a, b, c⟩ := ordL_head hk
  rw [hk]
  exact ⟨⟨a, by have := (c i hi).1; simp only [List.headD_cons]; omega, fun j hj => (c j hj).1, fun j hj => (c j hj).2⟩, t, rfl⟩

/-- What every step keeps. -/
structure Ok (f l : List Int) : Prop where
  len : l.length = f.length
  pos : ∀ i, i < f.length → (0 < l.getD i 0 ↔ 0 < f.getD i 0)
  nn : ∀ i, i < f.length → 0 ≤ l.getD i 0
  mono : ∀ i j, i < f.length → j < f.length → f.getD j 0 < f.getD i 0 → l.getD j 0 ≤ l.getD i 0 + 1
theorem Ok.step {f l : List Int} (h : Ok f l) {k : Nat} (ht : Top l k) : Ok f (bump l k (-1)) := by
  have hk := ht.lt
  have h2 := ht.two
  have G := fun i => getD_bump l k (-1) i hk
  refine ⟨by rw [length_bump]; exact h.len, fun i hi => ?_, fun i hi => ?_, fun i j hi hj hf => ?_⟩
  · rw [G i]
    have := h.pos i hi
    split
    · subst i; constructor
      · intro _; exact this.1 (by omega)
      · intro _; omega
    · exact this
  · rw [G i]; have := h.nn i hi; split <;> omega
  · rw [G i, G j]
    have := h.mono i j hi hj hf
    have hm := ht.max j (by rw [h.len]; exact hj)
    split <;> split <;> (try subst i) <;> (try subst j) <;> omega
theorem decTop_ok {f : List Int} : ∀ (m : Nat) (l : List Int), Ok f l → (f.length : Int) + (m : Int) ≤ l.sum → Ok f (decTop m l) ∧ (decTop m l).sum = l.sum - m := by
  intro m
  induction m with
  | zero => intro l h _; exact ⟨h, by simp [decTop]⟩
  | succ m ih =>
    intro l h hs
    obtain ⟨ht, _⟩ := top_of (l := l) (by rw [h.len]; omega)
    have h1 := h.step ht
    have h2 := sum_bump l ((ordL l).headD 0) (-1) ht.lt
    obtain ⟨a, b⟩ := ih _ h1 (by omega)
    unfold decTop
    exact ⟨a, by omega⟩

theorem bump_zero (l : List Int) (k : Nat) : bump l k 0 = l := by
  by_cases h : k < l.length
  · unfold bump
    rw [Int.add_zero]
    have e : l.getD k 0 = l[k] := by simp [List.getD_eq_getElem?_getD, h]
    rw [e]; exact List.set_getElem_self h
  · unfold bump; exact List.set_eq_of_length_le (by omega)
theorem decTop_succ : ∀ (m : Nat) (l : List Int), decTop (m + 1) l = bump (decTop m l) ((ordL (decTop m l)).headD 0) (-1) := by
  intro m
  induction m with
  | zero => intro l; rfl
  | succ m ih => intro l; show decTop (m + 1) _ = _; rw [ih]; rfl

/-- Frequencies that may be asked. -/
structure Fr (f : List Int) : Prop where
  len : f.length = 65
  nn : ∀ x ∈ f, 0 ≤ x
  le : ∀ x ∈ f, x ≤ 16777216
  pos : 0 < f.sum
theorem Fr.le_all {f : List Int} (h : Fr f) : ∀ x ∈ f, x ≤ f.sum := le_sum f h.nn
theorem Fr.some {f : List Int} (h : Fr f) : ∃ i, i < f.length ∧ 0 < f.getD i 0 := by
  apply Classical.byContradiction
  intro hno
  have := sum_le_max f 0 fun x hx => by
    obtain ⟨i, hi, rfl⟩ := mem_getD hx
    have : ¬ 0 < f.getD i 0 := fun h2 => hno ⟨i, hi, h2⟩
    omega
  have := h.pos
  omega
theorem Fr.sum_le {f : List Int} (h : Fr f) : f.sum ≤ 1090519040 := by
  have := sum_le_max f 16777216 h.le
  rw [h.len] at this
  omega
theorem Fr.shares_ok {f : List Int} (h : Fr f) {size : Int} (hs : 1 ≤ size) : Ok f (shares f size f.sum) := by
  refine ⟨length_shares .., fun i hi => ?_, fun i hi => ?_, fun i j hi hj hf => ?_⟩
  · rw [getD_shares f _ _ i hi]; exact share_pos ..
  · rw [getD_shares f _ _ i hi]; exact share_nonneg ..
  · rw [getD_shares f _ _ i hi, getD_shares f _ _ j hj]
    have := share_mono size f.sum _ _ hs h.pos (Int.le_of_lt hf)
    omega
theorem Fr.share_le {f : List Int} (h : Fr f) {size : Int} (hs : 1 ≤ size) {x : Int} (hx : x ∈ f) : 0 ≤ share size f.sum x ∧ share size f.sum x ≤ size :=
  ⟨share_nonneg .., Nl.share_le _ _ _ hs h.pos (h.le_all x hx)⟩
theorem Fr.shares_sum {f : List Int} (h : Fr f) {size : Int} (hs : 1 ≤ size) : 0 ≤ (shares f size f.sum).sum ∧ (shares f size f.sum).sum ≤ size * 65 := by
  constructor
  · apply sum_nonneg
    intro x hx
    obtain ⟨n, hn, rfl⟩ := List.mem_map.1 hx
    exact (h.share_le hs hn).1
  · have := sum_le_max (shares f size f.sum) size fun x hx => by
      obtain ⟨n, hn, rfl⟩ := List.mem_map.1 hx
      exact (h.share_le hs hn).2
    rw [length_shares, h.len] at this
    exact this
theorem Fr.head {f : List Int} (h : Fr f) : ∃ t, ordL f = (ordL f).headD 0 :: t ∧ (ordL f).headD 0 < 65 := by
  obtain ⟨k, t, hk⟩ := ordL_cons h.some
  have := (ordL_head hk).1
  rw [h.len] at this
  rw [hk]; exact ⟨t, rfl, this⟩

theorem Fr.norm {f : List Int} (h : Fr f) {size : Int} (hs : 66 ≤ size) : Ok f (normL f size) ∧ (normL f size).sum = size := by
  have ho := h.shares_ok (size := size) (by omega)
  unfold normL
  by_cases hle : (shares f size f.sum).sum ≤ size
  · rw [if_pos hle]
    obtain ⟨t, hk, hlt⟩ := h.head
    generalize hK : (ordL f).headD 0 = k at hk hlt
    obtain ⟨k1, k2, k3⟩ := ordL_head hk
    have hkl : k < (shares f size f.sum).length := by rw [length_shares]; exact k1
    refine ⟨⟨by rw [length_bump]; exact ho.len, fun i hi => ?_, fun i hi => ?_, fun i j hi hj hf => ?_⟩, by rw [sum_bump _ _ _ hkl]; omega⟩
    · rw [getD_bump _ _ _ _ hkl]
      have := ho.pos i hi
      split
      · subst i
        constructor
        · intro _; exact k2
        · intro _; have := this.2 k2; omega
      · exact this
    · rw [getD_bump _ _ _ _ hkl]; have := ho.nn i hi; split
      · subst i; omega
      · exact this
    · rw [getD_bump _ _ _ _ hkl, getD_bump _ _ _ _ hkl]
      have h1 := ho.mono i j hi hj hf
      have h2 := (k3 i hi).1
      split
      · subst j; omega
      · split
        · subst i; omega
        · exact h1
  · rw [if_neg hle]
    obtain ⟨a, b⟩ := decTop_ok (f := f) ((shares f size f.sum).sum - size).toNat _ ho (by rw [h.len]; omega)
    exact ⟨a, by omega⟩
theorem Fr.norm_len {f : List Int} (h : Fr f) {size : Int} (hs : 66 ≤ size) : (normL f size).length = 65 := by rw [(h.norm hs).1.len, h.len]
theorem Fr.norm_at {f : List Int} (h : Fr f) {size : Int} (hs : 66 ≤ size) : ∀ x ∈ normL f size, 0 ≤ x ∧ x ≤ size := by
  obtain ⟨ho, hsum⟩ := h.norm hs
  have hn : ∀ x ∈ normL f size, 0 ≤ x := fun x hx => by
    obtain ⟨i, hi, rfl⟩ := mem_getD hx
    exact ho.nn i (by rw [← ho.len]; exact hi)
  exact fun x hx => ⟨hn x hx, by have := le_sum _ hn x hx; omega⟩
/-- Which may be asked. -/
def frB (f : List Int) : Bool := decide (f.length = 65 ∧ (∀ x ∈ f, 0 ≤ x ∧ x ≤ 16777216) ∧ 0 < f.sum)
theorem frB_iff (f : List Int) : frB f = true ↔ Fr f := by
  unfold frB; rw [decide_eq_true_eq]
  exact ⟨fun ⟨a, b, c⟩ => ⟨a, fun x hx => (b x hx).1, fun x hx => (b x hx).2, c⟩, fun h => ⟨h.len, fun x hx => ⟨h.nn x hx, h.le x hx⟩, h.pos⟩⟩
/-- The shares of the first i, nought for the others. -/
def shN (f : List Int) (size all : Int) (i : Nat) : List Int := ((f.take i).map (share size all)) ++ List.replicate (f.length - i) 0
theorem shN_zero (f : List Int) (size all : Int) : shN f size all 0 = List.replicate f.length 0 := by simp [shN]
theorem shN_all (f : List Int) (size all : Int) : shN f size all f.length = shares f size all := by simp [shN, shares]
theorem length_shN (f : List Int) (size all : Int) (i : Nat) (h : i ≤ f.length) : (shN f size all i).length = f.length := by simp [shN]; omega
theorem shN_succ (f : List Int) (size all : Int) (i : Nat) (h : i < f.length) : shN f size all (i + 1) = (shN f size all i).set i (share size all (f.getD i 0)) := by
  unfold shN
  have e : f.length - i = (f.length - (i + 1)) + 1 := by omega
  have e2 : f.getD i 0 = f[i] := by simp [List.getD_eq_getElem?_getD, h]
  have hl : ((f.take i).map (share size all)).length = i := by simp; omega
  rw [List.take_succ_eq_append_getElem h, List.map_append, e, List.replicate_succ, e2]
  rw [List.set_append_right _ _ (by omega), hl, Nat.sub_self, List.set_cons_zero, List.append_assoc]; rfl
theorem shN_at (f : List Int) (size all : Int) (i : Nat) (h : i < f.length) : (shN f size all i).getD i 0 = 0 := by
  unfold shN
  have hl : ((f.take i).map (share size all)).length = i := by simp; omega
  rw [List.getD_eq_getElem?_getD, List.getElem?_append_right (by omega), hl, Nat.sub_self, List.getElem?_replicate, if_pos (by omega)]; rfl
theorem shN_same (f : List Int) (size all : Int) (i : Nat) (h : i < f.length) (h0 : ¬ 0 < f.getD i 0) : shN f size all (i + 1) = shN f size all i := by
  rw [shN_succ f size all i h]
  have hs : share size all (f.getD i 0) = 0 := by unfold share; rw [if_neg h0]
  rw [hs]
  have := bump_zero (shN f size all i) i
  unfold bump at this
  rwa [shN_at f size all i h, Int.add_zero] at this
theorem sum_shN (f : List Int) (size all : Int) (i : Nat) (h : i < f.length) : (shN f size all (i + 1)).sum = (shN f size all i).sum + share size all (f.getD i 0) := by
  rw [shN_succ f size all i h, sum_set _ _ _ (by rw [length_shN _ _ _ _ (by omega)]; exact h), shN_at f size all i h]; omega
theorem take_sum (f : List Int) (i : Nat) (h : i < f.length) : (f.take (i + 1)).sum = (f.take i).sum + f.getD i 0 := by
  rw [List.take_succ_eq_append_getElem h, List.sum_append]
  simp [List.getD_eq_getElem?_getD, h]
theorem Fr.take_sum {f : List Int} (h : Fr f) (i : Nat) : 0 ≤ (f.take i).sum ∧ (f.take i).sum ≤ 1090519040 := by
  have h1 := sum_nonneg (f.take i) fun x hx => h.nn x (List.mem_of_mem_take hx)
  have h2 := sum_nonneg (f.drop i) fun x hx => h.nn x (List.mem_of_mem_drop hx)
  have h3 : f.sum = (f.take i).sum + (f.drop i).sum := by rw [← List.sum_append, List.take_append_drop]
  have := h.sum_le
  omega
theorem Fr.shN_sum {f : List Int} (h : Fr f) {size : Int} (hs : 1 ≤ size) : ∀ i, i ≤ f.length → 0 ≤ (shN f size f.sum i).sum ∧ (shN f size f.sum i).sum ≤ size * (i : Int) := by
  intro i
  induction i with
  | zero => intro _; rw [shN_zero]; simp
  | succ i ih =>
    intro hi
    have := ih (by omega)
    rw [sum_shN f size f.sum i (by omega)]
    have h2 := h.share_le hs (getD_mem (show i < f.length by omega))
    have e : size * ((i + 1 : Nat) : Int) = size * (i : Int) + size := by rw [Int.natCast_add, Int.mul_add]; simp
    rw [e]; omega
end Go.Proofs.Ytejecpmfhgplmaa.Nl

-- ---- Uq
/- Frequencies by numbers: what they are good for. -/
namespace Go.Proofs.Ytejecpmfhgplmaa.PA
set_option linter.unusedVariables false
set_option linter.unusedSimpArgs false
open Go.RowKit Go.Proofs.YtejecpmfhgplmaaW.PrintWords Go.Proofs.YtejecpmfhgplmaaW.PrintLast Go.Proofs.YtejecpmfhgplmaaW.PrintMore Nl

/-- 65 numbers, none below nought, none above 65535. -/
structure FreqOk (f : List Int) : Prop where
  len : f.length = 65
  each : ∀ x ∈ f, 0 ≤ x ∧ x ≤ 65535
theorem mem_set_or {l : List Int} {i : Nat} {v x : Int} (h : x ∈ l.set i v) : x ∈ l ∨ x = v := List.mem_or_eq_of_mem_set h
theorem freqOk_set {f : List Int} (h : FreqOk f) (i : Nat) (v : Int) (h0 : 0 ≤ v) (h1 : v ≤ 65535) : FreqOk (f.set i v) :=
  ⟨by rw [List.length_set]; exact h.len, fun x hx => by
    rcases mem_set_or hx with hx | rfl
    · exact h.each x hx
    · exact ⟨h0, h1⟩⟩
theorem u16_at {ns : List Int} (h : ∀ x ∈ ns, (Lit.int .u16 x).wf = true) (i : Nat) (hi : i < ns.length) : ∃ v : Nat, ns.getD i 0 = (v : Int) ∧ v ≤ 65535 := by
  have hw := h _ (getD_mem hi)
  simp only [Lit.wf, Bool.and_eq_true, decide_eq_true_eq] at hw
  have h1 : IntKind.u16.min = 0 := rfl
  have h2 : IntKind.u16.max = 65535 := rfl
  exact ⟨(ns.getD i 0).toNat, by omega, by omega⟩
theorem u16_wrap (n : Nat) (h : n ≤ 65535) : IntKind.u16.wrap (n : Int) = (n : Int) := by
  simp [IntKind.wrap, IntKind.bits, IntKind.signed]; omega
theorem freq_l0 (ns : List Int) (hw : ∀ x ∈ ns, (Lit.int .u16 x).wf = true) (hl : ns.length < 1000000) : ∀ (d i : Nat) (f : List Int), i + d = ns.length + 1 → FreqOk f →
    ∃ g, Ev (fun k => wringerlaw8_Freq.l0 k ns f (i : Int)) g ∧ FreqOk g := by
  intro d
  induction d using Nat.strongRecOn with
  | _ d ih =>
    intro i f hi hf
    by_cases hlt : i + 1 < ns.length
    · obtain ⟨v, hv, hvb⟩ := u16_at hw i (by omega)
      obtain ⟨u, hu, hub⟩ := u16_at hw (i + 1) hlt
      have hfl := hf.len
      have e5 : u / 2 ^ (v / 65 % 16) ≤ u := Nat.div_le_self _ _
      obtain ⟨p, hp⟩ : ∃ p, p = u / 2 ^ (v / 65 % 16) := ⟨_, rfl⟩
      rw [← hp] at e5
      obtain ⟨g, hg, hgf⟩ := ih (d - 2) (by omega) (i + 2) (f.set (v % 65) (p : Int)) (by omega) (freqOk_set hf _ _ (by omega) (by omega))
      refine ⟨g, Ev.step (f := fun k => wringerlaw8_Freq.l0 k ns (f.set (v % 65) (p : Int)) ((i + 2 : Nat) : Int)) (fun k => ?_) hg, hgf⟩
      have c1 : ((i + 1 : Nat) : Int) < (ns.length : Int) := by omega
      have c2 : (0 : Int) ≤ (i : Int) := by omega
      have c3 : (i : Int) < (ns.length : Int) := by omega
      have c4 : (0 : Int) ≤ ((i + 1 : Nat) : Int) := by omega
      have c5 : (0 : Int) ≤ ((v / 65 % 16 : Nat) : Int) := Int.natCast_nonneg _
      have c6 : (0 : Int) ≤ ((v % 65 : Nat) : Int) := Int.natCast_nonneg _
      have c7 : ((v % 65 : Nat) : Int) < (f.length : Int) := by omega
      have w1 : wrap64 ((i : Int) + 1) = ((i + 1 : Nat) : Int) := by rw [w64 (by omega) (by omega)]; rfl
      have w2 : wrap64 ((i : Int) + 2) = ((i + 2 : Nat) : Int) := by clear w1; rw [w64 (by omega) (by omega)]; rfl
      have w3 : wrap64 (v : Int) = (v : Int) := by clear w1 w2; exact w64 (by omega) (by omega)
      have w4 : wrap64 (u : Int) = (u : Int) := by clear w1 w2 w3; exact w64 (by omega) (by omega)
      have w5 : IntKind.u16.wrap ((v / 65 : Nat) : Int) = ((v / 65 : Nat) : Int) := by clear w1 w2 w3 w4; exact u16_wrap _ (by omega)
      have e4 := shr_nat u (v / 65 % 16) (by clear w1 w2 w3 w4 w5; omega)
      rw [← hp] at e4
      have e1 : Int.tdiv (v : Int) 65 = ((v / 65 : Nat) : Int) := tdiv_nat v 65
      have e2 : Int.tmod (v : Int) 65 = ((v % 65 : Nat) : Int) := tmod_nat v 65
      have e3 : Int.tmod ((v / 65 : Nat) : Int) 16 = ((v / 65 % 16 : Nat) : Int) := tmod_nat _ 16
      simp only [wringerlaw8_Freq.l0]
      rw [w1, w2, rd_nat, rd_nat, hv, hu, w3, w4, e1, w5, e3, e2, e4]
      rw [if_pos c1, if_pos c2, if_pos c3, if_pos c4, if_pos c5, if_pos c6, if_pos c7, Int.toNat_natCast]
    · refine ⟨f, Ev.step (f := fun _ => some f) (fun k => ?_) (Ev.now _), hf⟩
      simp only [wringerlaw8_Freq.l0]
      rw [w64 (x := (i : Int) + 1) (by omega) (by omega), if_neg (by omega)]
theorem freq_is (ns : List Int) (hw : ∀ x ∈ ns, (Lit.int .u16 x).wf = true) (hl : ns.length < 1000000) : ∃ f, Ev (fun k => wringerlaw8_Freq.f k ns) f ∧ FreqOk f := by
  obtain ⟨g, hg, hgf⟩ := freq_l0 ns hw hl (ns.length + 1) 0 (List.replicate 65 0) (by omega) ⟨by simp, fun x hx => by rw [(List.mem_replicate.1 hx).2]; omega⟩
  refine ⟨g, ?_, hgf⟩
  unfold wringerlaw8_Freq.f
  exact Ev.ite_pos (by decide) hg

/-- One more of one class: then they may be asked. -/
theorem fr_more {f : List Int} (h : FreqOk f) (i : Nat) (hi : i < 65) : Fr (f.set i (f.getD i 0 + 1)) := by
  have hg := h.each _ (getD_mem (show i < f.length by rw [h.len]; exact hi))
  have hx : ∀ x ∈ f.set i (f.getD i 0 + 1), 0 ≤ x ∧ x ≤ 65536 := fun x hx => by
    rcases mem_set_or hx with hx | rfl
    · have := h.each x hx; omega
    · omega
  refine ⟨by rw [List.length_set]; exact h.len, fun x hm => (hx x hm).1, fun x hm => by have := (hx x hm).2; omega, ?_⟩
  have h1 := sum_bump f i 1 (by rw [h.len]; exact hi)
  unfold bump at h1
  rw [h1]
  have := sum_nonneg f fun x hx => (h.each x hx).1
  omega
end Go.Proofs.Ytejecpmfhgplmaa.PA

-- ---- PureMergeMade
/- So of frequencies by numbers, by each limit: the plain statement of MergeMade holds for every input. Conditions: none. -/
namespace Go.Proofs.Ytejecpmfhgplmaa.Pure
open Go.RowKit Go.Proofs.Ytejecpmfhgplmaa.PA Go.Proofs.YtejecpmfhgplmaaW.PrintWords Go.Proofs.YtejecpmfhgplmaaW.PrintLast Go.Proofs.YtejecpmfhgplmaaW.PrintMore
set_option linter.unusedVariables false
set_option linter.unusedSimpArgs false

theorem MergeMade : wringerlaw8_MergeMade.Pure := by
  intro l0 a1 _ _ hw ha1
  apply Ev.rounds
  unfold wringerlaw8_MergeMade.f
  by_cases h0 : (l0.length : Int) > 140
  · exact Ev.ite_pos h0 (Ev.bind0 awake8 (Ev.now _))
  · refine Ev.ite_neg h0 ?_
    obtain ⟨f, hf, hok⟩ := freq_is l0 hw (by omega)
    obtain ⟨m, hm, h7, h15⟩ := limit_of a1 ha1
    have hq : Dp.Fq f m := ⟨hok.len, fun x hx => by have := hok.each x hx; omega, h7, h15⟩
    have hlE := lenE_ok hq
    rw [hm]
    have hl := hok.len
    refine Ev.bind hf (Ev.bind0 (a := (Dp.lenL f m, 0)) (by rw [mlen_f f m (by omega), hlE]) (Ev.bind0 (a := (Dp.lenL f m, 0)) (by rw [rlen_f f m (by omega), hlE]) (Ev.bind (same_self _ (by rw [Dp.length_lenL]; decide)) (Ev.ite_pos rfl ?_))))
    exact Ev.bind0 (a := (0 : Int)) rfl (Ev.ite_pos rfl (Ev.ite_pos rfl (Ev.bind0 awake8 (Ev.now _))))
end Go.Proofs.Ytejecpmfhgplmaa.Pure

-- ---- LawMergeMade

namespace Go.Proofs.Ytejecpmfhgplmaa.mergeMade
open Go.ChangeShapes Go.WideShapes Go.ChangeAt Go.RowKit
open Go.ChangeMaps (open_string shut_string)
set_option linter.unusedVariables false
theorem own : ownKnob Try.prog.godebug = none := by kernel_rfl
theorem laidOut : laidOutB Try.prog = true := by kernel_rfl
def IsRow (k : IntKind) (w : World) (a : Option Addr) (len cap : Nat) (zs : List Int) : Prop :=
  (a = none ∧ len = 0 ∧ cap = 0 ∧ zs = []) ∨
  ∃ x, a = some x ∧ len ≤ cap ∧ cap ≤ maxLen ∧ zs.length = cap ∧ (∀ i, i < zs.length → w.cell? (x.add i) = some (.int k (zs.getD i 0))) ∧ ∀ n ∈ zs, (Lit.int k n).wf = true
set_option maxRecDepth 100000 in
theorem lifted (os : Os) (started : os.Started) (H : Type) (enc : TypeId × Value → H) :
    ReturnsInHanded {} Try.checked os 4 .any (Rows.mergeMadeSpec.pre6 enc Try.prog Try.f4 Rows.mergeMadeRow.domain false) (Rows.mergeMadeSpec.post enc Try.prog Try.f4 false true false false) := by
  refine returnsInHanded_of_change_sized (C := Try.checked) own started (by kernel_rfl) Try.func4
    (ChangeSpec.witness6 (enc := enc) (C := Try.checked) false ⟨#[], #[.slice none 0 0, .int .u8 0], []⟩ 8 (by kernel_rfl) (by kernel_rfl) (by kernel_rfl) (by kernel_rfl)) ?_
  intro W base args ds gs before hval0 hW hcnd hsz0 _
  have hsz : (DataW.weightsEach Try.prog (Try.f4.params.toList ++ Rows.mergeMadeSpec.plain.varTypes Try.prog) (ds ++ gs)).all (· ≤ reachBytes) = true := hsz0
  have hval : ∀ (j : Nat) t v, Try.f4.params[j]? = some t → args[j]? = some v → Value.okWide Try.prog W .any base t v := hval0
  have hW' := hW
  obtain ⟨p, q, hA0, hV, rfl, hfz, hnd⟩ := hW
  have hA : DataW.TrodAll enc Try.prog W 0 (fun _ => true) true Try.f4.params.toList args.toList ds p := hA0
  rw [Try.params4] at hA hval hsz
  obtain ⟨v0, vs0, d0, ds0, p0, q0, hargs, rfl, rfl, h0, r0⟩ := trodAll_cons hA
  obtain ⟨v1, vs1, d1, ds1, p1, q1, rfl, rfl, rfl, h1, r1⟩ := trodAll_cons r0
  obtain ⟨rfl, rfl, rfl⟩ := trodAll_nil r1
  obtain rfl : args = #[v0, v1] := by cases args; simp_all
  obtain ⟨rfl, rfl⟩ := trodVars_none hV
  obtain ⟨a0, len0, cap0, rfl⟩ := okWide_slice Try.underlying34 (hval 0 34 v0 rfl rfl)
  have k0 := h0
  have lt0 : ∀ x ∈ p0, x.block < W.heap.size := by obtain ⟨m, hm⟩ := k0; exact DataW.trod_lt m _ _ _ hm
  obtain ⟨z0, w0⟩ : ∃ zs, IsRow .u16 W a0 len0 cap0 zs := by
    obtain ⟨fuel, hf⟩ := h0
    rcases open_ints Try.underlying34 Try.underlying41 (by kernel_rfl) hf with ⟨hcs, _⟩ | ⟨x, l, c, zs, hcs, _, hl, hm, hz, _, hcell, hwz⟩
    · simp [Value.cells] at hcs
      obtain ⟨rfl, rfl, rfl⟩ := hcs
      exact ⟨[], .inl ⟨rfl, rfl, rfl, rfl⟩⟩
    · simp [Value.cells] at hcs
      obtain ⟨rfl, rfl, rfl⟩ := hcs
      exact ⟨zs, .inr ⟨_, rfl, hl, hm, by simpa using hz, hcell, hwz⟩⟩
  have y0 : len0 * 2 ≤ 140737488351232 := Go.Proofs.YtejecpmfhgplmaaW.PrintWords.sized_ints hsz (j := 0) (t := 34) rfl rfl Try.underlying34 Try.underlying41 (by kernel_rfl) (by kernel_rfl) h0
  obtain ⟨a1, rfl, rfl, rfl, w1⟩ := open_int Try.underlying5 (hval 1 5 v1 rfl rfl) h1
  clear hA0 hval0 hsz0 hsz
  refine (PA.wringerlaw8_MergeMade.walk Pure.MergeMade a0 len0 cap0 z0 a1 W w0 y0 w1).mono fun e W' ⟨he, bel⟩ => ?_
  subst he
  exact ⟨_, rfl, _, _, _, [], _, [], hW', trodAll_mk1 (shut_bool Try.underlying4 _), (trodAll_cons_mk (Below.trod laidOut (by kernel_rfl) (of_decide_eq_true (by kernel_rfl)) k0 bel lt0) (trodAll_cons_mk (shut_int Try.underlying5 w1) trodAll_mk0)), rfl, bel.frame _, fun h => by cases h⟩
theorem over : Rows.mergeMadeRow.holds Try.pinned (OpenSpec.ofChange Rows.mergeMadeSpec) :=
  OpenClaim.holds_of_wide 4 Try.f4 rfl rfl rfl rfl rfl rfl rfl ⟨rfl, rfl, rfl, rfl, rfl⟩ rfl rfl rfl rfl rfl (by kernel_rfl) Try.func4 (by kernel_rfl)
    (of_decide_eq_true (by kernel_rfl)) (by unfold Func.isWrapper; first | (rw [if_pos (by decide +kernel)]; kernel_rfl) | (rw [if_neg (by decide +kernel)]; exact ⟨rfl, rfl⟩))
    (fun os started H enc _ => lifted os started H enc)
theorem proved : Rows.MergeMadeSaid := over
#print axioms proved
end Go.Proofs.Ytejecpmfhgplmaa.mergeMade
namespace Go.Proofs.Ytejecpmfhgplmaa
/-- The row, under a short name, for the claim. -/
theorem mergeMade_holds : Rows.MergeMadeSaid := mergeMade.proved
end Go.Proofs.Ytejecpmfhgplmaa
