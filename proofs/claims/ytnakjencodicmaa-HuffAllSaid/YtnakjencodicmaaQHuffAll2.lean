/- Part HuffAll2 of what the layer's laws stand on: PAx38, Pr, HuffAll, LawHuffAll. Written by a program (merge.py) out of this session's own texts and of what the kit's print wrote over stand-ins (sp.py). Conditions: those that each theorem names. -/
import Derived.Test.YtnakjencodicmaaQB1
import Derived.Test.YtnakjencodicmaaQB3
import Derived.Test.YtnakjencodicmaaQHuffAll1
import Derived.WalkKit
import Derived.Deep.SlicePairs
import Derived.ChangeSame
import Derived.Test.YtnakjencodicmaaRows
import Derived.ProofKit
import Derived.OpenShut
import Derived.ShutString
import Derived.ChangeOld
import Derived.Below
import Derived.SizedLaws
-- ---- PAx38

namespace Go.Proofs.Ytnakjencodicmaa.PA
open Go.RowKit Go.Proofs.YtnakjencodicmaaW.PrintWords Go.Proofs.YtnakjencodicmaaW.PrintLast Go.Proofs.YtnakjencodicmaaW.PrintMore
attribute [local go_sem] max2_int min2_int max_two min_two max_three min_three max_four min_four   -- for this text's walks alone
set_option linter.unusedVariables false
set_option linter.unusedSimpArgs false
local notation "F0" => false
local notation "T1" => true
local macro "act_put" : tactic => `(tactic| simp only [Act.put, List.setIfInBounds_toArray, List.set_cons_zero, List.set_cons_succ, i64_w, i32_w])
local macro "arg_done" : tactic => `(tactic| ((try simp only [List.map_toArray, List.map_cons, List.map_nil]); first | done | rfl | (simp only [List.length_drop, List.length_take]; rfl)))

/-! ### wringerlaw11_HuffAll: function 3 -/
def wringerlaw11_HuffAll.j0 : Nat → List (S54) → List Int → ByteArray → Int → Bool → Option (Bool)
  | 0, _, _, _, _, _ => none
  | k + 1, x0, x1, x2, x3, x27 => if x27 = true then ((wringerlaw11_awake.f k).bind fun t186 => (some t186)) else ((huff_Put.f k x0 x1).bind fun bt187 => ((wringerref7_PutHuff.f x0 x1).bind fun bt189 => ((huff_Get.f x2 x3 x1).bind fun bt192 => ((wringerref7_GetHuff.f k x2 x3 x1).bind fun bt196 => (if bt187.1.toList = bt189.1.toList then ((wringerlaw1_Err.f bt187.2).bind fun t201 => (if t201 = bt189.2 then ((wringerref7_SameParts.f k bt192.1 bt196.1).bind fun t202 => (if t202 = true then ((wringerlaw1_Err.f bt192.2).bind fun t203 => (if t203 = bt196.2 then ((wringerlaw11_awake.f k).bind fun t204 => (some t204)) else (some false))) else (some false))) else (some false))) else (some false))))))
def wringerlaw11_HuffAll.f (k : Nat) (l0 : List (S54)) (l1 : List Int) (a2 : ByteArray) (a3 : Int) : Option (Bool) := if (l0.length : Int) > 100 then (wringerlaw11_HuffAll.j0 k l0 l1 a2 a3 true) else (if (l1.length : Int) > 100 then (wringerlaw11_HuffAll.j0 k l0 l1 a2 a3 true) else (wringerlaw11_HuffAll.j0 k l0 l1 a2 a3 (decide ((a2.size : Int) > 300))))
theorem wringerlaw11_HuffAll.mono_l : ∀ k, (∀ y0 y1 y2 y3 y4, LeO (wringerlaw11_HuffAll.j0 k y0 y1 y2 y3 y4) (wringerlaw11_HuffAll.j0 (k + 1) y0 y1 y2 y3 y4))
  | 0 => fun _ _ _ _ _ r h => by simp [wringerlaw11_HuffAll.j0] at h
  | k + 1 => by
    have ih0 := wringerlaw11_HuffAll.mono_l k
    · intro y0 y1 y2 y3 y4
      unfold wringerlaw11_HuffAll.j0
      repeat' first
      | (with_reducible exact ih0 _ _ _ _ _)
      | (with_reducible exact huff_Put.mono _ _ _)
      | (with_reducible exact wringerlaw11_awake.mono _)
      | (with_reducible exact wringerref7_GetHuff.mono _ _ _ _)
      | (with_reducible exact wringerref7_SameParts.mono _ _ _)
      | (with_reducible exact LeO.refl _)
      | (with_reducible exact LeO.none _)
      | (with_reducible refine LeO.ite ?_ ?_)
      | (with_reducible refine LeO.bind ?_ (fun _ => ?_))
      | exact ih0 _ _ _ _ _
      | exact huff_Put.mono _ _ _
      | exact wringerlaw11_awake.mono _
      | exact wringerref7_GetHuff.mono _ _ _ _
      | exact wringerref7_SameParts.mono _ _ _
      | exact LeO.none _
      | refine LeO.ite ?_ ?_
      | refine LeO.bind ?_ (fun _ => ?_)
theorem wringerlaw11_HuffAll.mono : ∀ a0 a1 a2 a3 k, LeO (wringerlaw11_HuffAll.f k a0 a1 a2 a3) (wringerlaw11_HuffAll.f (k + 1) a0 a1 a2 a3) := by
  intro a0 a1 a2 a3 k
  have ih0 := wringerlaw11_HuffAll.mono_l k
  unfold wringerlaw11_HuffAll.f
  repeat' first
      | (with_reducible exact ih0 _ _ _ _ _)
      | (with_reducible exact huff_Put.mono _ _ _)
      | (with_reducible exact wringerlaw11_awake.mono _)
      | (with_reducible exact wringerref7_GetHuff.mono _ _ _ _)
      | (with_reducible exact wringerref7_SameParts.mono _ _ _)
      | (with_reducible exact LeO.refl _)
      | (with_reducible exact LeO.none _)
      | (with_reducible refine LeO.ite ?_ ?_)
      | (with_reducible refine LeO.bind ?_ (fun _ => ?_))
      | exact ih0 _ _ _ _ _
      | exact huff_Put.mono _ _ _
      | exact wringerlaw11_awake.mono _
      | exact wringerref7_GetHuff.mono _ _ _ _
      | exact wringerref7_SameParts.mono _ _ _
      | exact LeO.none _
      | refine LeO.ite ?_ ?_
      | refine LeO.bind ?_ (fun _ => ?_)
def wringerlaw11_HuffAll.T7 : Bool × List (List Nat × List Nat) := (true, [([], []), ([], []), ([1], [1]), ([0, 2], [0, 2]), ([3], [3]), ([4], [4]), ([5, 4, 4], [4, 5]), ([4], [4]), ([7, 4], [4, 7]), ([6, 8, 4], [4, 6, 8]), ([4, 9], [4, 9]), ([10, 6], [10]), ([11], [11]), ([11], [11]), ([13, 11], [11, 13]), ([12, 14, 11, 11], [11, 12, 14]), ([11, 15], [11, 15]), ([16, 15], [16]), ([17], [17]), ([18, 17, 17], [17, 18]), ([17], [17]), ([20, 17], [17, 20]), ([19, 21, 17], [17, 19, 21]), ([17, 22], [17, 22]), ([23, 19], [23]), ([24, 24], [24]), ([24, 25], [24, 25]), ([26, 25, 0, 1, 2, 3, 4, 5, 6, 7, 8, 9, 10, 11, 12, 13, 14, 15, 16, 17, 18, 19, 20, 21, 22, 23, 24, 25, 26], [26])])
def wringerlaw11_HuffAll.B7 : List Nat := [0, 0, 2, 7, 15, 31, 63, 31, 159, 511, 1023, 2047, 4095, 4095, 12287, 32767, 65535, 131071, 262143, 524287, 262143, 1310719, 4194303, 8388607, 16777215, 33554431, 67108863, 134217727]
theorem wringerlaw11_HuffAll.tab7 : rtab .any (opsOf Try.f3 7) = wringerlaw11_HuffAll.T7 := by kernel_rfl
theorem wringerlaw11_HuffAll.bits7 : waitsOk wringerlaw11_HuffAll.T7.2 wringerlaw11_HuffAll.B7 = true := by kernel_rfl
set_option maxHeartbeats 8000000 in
set_option maxRecDepth 100000 in
theorem wringerlaw11_HuffAll.calls (k : Nat) (A0 : Option Addr) (c0 : Nat) (l0 : List (S54)) (A1 : Option Addr) (c1 : Nat) (l1 : List Int) (a2 : ByteArray) (a3 : Int) (r : Bool) (w : World) (hr0 : Kd.C k54 w A0 l0.length l0) (hc0 : l0.length ≤ c0) (hr1 : Kd.C (Kd.int .i64) w A1 l1.length l1) (hc1 : l1.length ≤ c1) (h : wringerlaw11_HuffAll.f k l0 l1 a2 a3 = some r) :
    Calls Try.prog 3 #[.slice A0 l0.length c0, .slice A1 l1.length c1, .string a2, .int .i64 a3] w fun e w' => e = .returned (.bool r) ∧ Below w.heap.size w w' := by
  have hu29 := Try.underlying29
  have hu34 := Try.underlying34
  have HR0 := Aside0.mk hr0
  have HC0 := Aside0.mk hc0
  clear hr0 hc0
  have HR1 := Aside0.mk hr1
  have HC1 := Aside0.mk hc1
  clear hr1 hc1
  have HB := Aside0.mk (Below.refl w.heap.size w)
  have H : (if (l0.length : Int) > 100 then (wringerlaw11_HuffAll.j0 k l0 l1 a2 a3 true) else (if (l1.length : Int) > 100 then (wringerlaw11_HuffAll.j0 k l0 l1 a2 a3 true) else (wringerlaw11_HuffAll.j0 k l0 l1 a2 a3 (decide ((a2.size : Int) > 300))))) = some r := h
  clear h
  have HC5 := Aside0.mk H
  clear H
  go_enter Try.func3, Try.ntmps3
  go_upto_region 1 with (fail)
  go_cut [27] (fun v27 wc => ∃ (kq : Nat) (x27_4 : Bool), v27 = .bool x27_4 ∧ Aside0 (wringerlaw11_HuffAll.j0 kq l0 l1 a2 a3 x27_4 = some r) ∧ Aside0 (kq ≤ k) ∧ Aside0 (Below w.heap.size w wc))
  case first =>
    have H := HC5.out
    clear HC5
    by_cases c6 : (l0.length : Int) > 100
    · rw [if_pos c6] at H
      have c6b0 : decide (100 < (l0.length : Int)) = true := decide_eq_true c6
      have c6b1 : decide (100 < l0.length) = true := decide_eq_true (by omega)
      clear c6
      (first | rw [c6b0] | (simp only [i64_w, i32_w]; rw [c6b0]) | skip)
      have H' := Aside0.mk H
      clear H
      go_wp2
      go_meet
      case rel => exact ⟨_, (true), (by first | rfl | (simp; done) | (simp [*]; done)), H', ⟨by first | omega | exact Nat.le_refl _⟩, ⟨by repeat (first | (with_reducible first | exact HB.out | apply below_alloc | apply pw_below_drewN | apply below_drew1) | exact HB.out)⟩⟩
    · rw [if_neg c6] at H
      have c6b0 : decide (100 < (l0.length : Int)) = false := decide_eq_false c6
      have c6b1 : decide (100 < l0.length) = false := decide_eq_false (by omega)
      clear c6
      (first | rw [c6b0] | (simp only [i64_w, i32_w]; rw [c6b0]) | skip)
      by_cases c7 : (l1.length : Int) > 100
      · rw [if_pos c7] at H
        have c7b0 : decide (100 < (l1.length : Int)) = true := decide_eq_true c7
        have c7b1 : decide (100 < l1.length) = true := decide_eq_true (by omega)
        clear c7
        have H' := Aside0.mk H
        clear H
        go_wp2
        go_meet
        case rel => exact ⟨_, (true), (by first | rfl | (simp; done) | (simp [*]; done)), H', ⟨by first | omega | exact Nat.le_refl _⟩, ⟨by repeat (first | (with_reducible first | exact HB.out | apply below_alloc | apply pw_below_drewN | apply below_drew1) | exact HB.out)⟩⟩
      · rw [if_neg c7] at H
        have c7b0 : decide (100 < (l1.length : Int)) = false := decide_eq_false c7
        have c7b1 : decide (100 < l1.length) = false := decide_eq_false (by omega)
        clear c7
        have H' := Aside0.mk H
        clear H
        go_wp2
        go_meet
        case rel => exact ⟨_, (decide ((a2.size : Int) > 300)), (by first | rfl | (simp; done) | (simp [*]; done)), H', ⟨by first | omega | exact Nat.le_refl _⟩, ⟨by repeat (first | (with_reducible first | exact HB.out | apply below_alloc | apply pw_below_drewN | apply below_drew1) | exact HB.out)⟩⟩
  case rest =>
    clear HC5
    try clear c1
    try clear p2
    try clear c3
    try clear c6
    try clear c6b0
    try clear c6b1
    try clear c7
    try clear c7b0
    try clear c7b1
    obtain ⟨kq, x27_4, rfl, HA, HJ4, HB⟩ := hcut
    cases kq with
    | zero => exact absurd HA.out (by simp [wringerlaw11_HuffAll.j0])
    | succ kj4 =>
      have H := HA.out
      clear HA
      simp only [wringerlaw11_HuffAll.j0] at H
      by_cases c8 : x27_4 = true
      · subst c8
        have H1 : ((wringerlaw11_awake.f kj4).bind fun t186 => (some t186)) = some r := by rw [if_pos rfl] at H; exact H
        clear H
        have H := H1
        clear H1
        replace H := Option.bind_eq_some_iff.mp H
        obtain ⟨t186, A90, H⟩ := H
        replace H : (some t186) = some r := H
        have A9 := Aside0.mk A90
        clear A90
        obtain rfl := Option.some.inj H
        go_wp2_with (first | ((with_reducible refine gate_callee (f := 9) rfl ?_); refine goesL_ (some 28) rfl rfl Try.func9 (by kernel_rfl) rfl #[] rfl (by arg_done) ?_; (with_reducible refine (wringerlaw11_awake.calls kj4  t186 _ A9.out).mono ?_); rintro e w10 ⟨rfl, hb⟩; refine ⟨_, rfl, ?_⟩; have n0_ := Aside0.mk (below_step (by repeat (first | (with_reducible first | exact HB.out | apply below_alloc | apply pw_below_drewN | apply below_drew1) | exact HB.out)) hb); clear HB; have HB := n0_; clear n0_; (try clear hb); (try clear hb2); (try clear hk); (try clear hi)))
        go_ret
        exact ⟨by first | rfl | (simp [errW_none, errW_some] <;> rfl) | (simp [*, errW_none, errW_some] <;> rfl), by repeat (first | (with_reducible first | exact HB.out | apply below_alloc | apply pw_below_drewN | apply below_drew1) | exact HB.out)⟩
      · replace c8 := Bool.eq_false_iff.mpr c8
        subst c8
        have H1 : ((huff_Put.f kj4 l0 l1).bind fun bt187 => ((wringerref7_PutHuff.f l0 l1).bind fun bt189 => ((huff_Get.f a2 a3 l1).bind fun bt192 => ((wringerref7_GetHuff.f kj4 a2 a3 l1).bind fun bt196 => (if bt187.1.toList = bt189.1.toList then ((wringerlaw1_Err.f bt187.2).bind fun t201 => (if t201 = bt189.2 then ((wringerref7_SameParts.f kj4 bt192.1 bt196.1).bind fun t202 => (if t202 = true then ((wringerlaw1_Err.f bt192.2).bind fun t203 => (if t203 = bt196.2 then ((wringerlaw11_awake.f kj4).bind fun t204 => (some t204)) else (some false))) else (some false))) else (some false))) else (some false)))))) = some r := by rw [if_neg (show ¬ (false = true) by decide)] at H; exact H
        clear H
        have H := H1
        clear H1
        replace H := Option.bind_eq_some_iff.mp H
        obtain ⟨⟨t187, t188⟩, A110, H⟩ := H
        replace H : ((wringerref7_PutHuff.f l0 l1).bind fun bt189 => ((huff_Get.f a2 a3 l1).bind fun bt192 => ((wringerref7_GetHuff.f kj4 a2 a3 l1).bind fun bt196 => (if t187.toList = bt189.1.toList then ((wringerlaw1_Err.f t188).bind fun t201 => (if t201 = bt189.2 then ((wringerref7_SameParts.f kj4 bt192.1 bt196.1).bind fun t202 => (if t202 = true then ((wringerlaw1_Err.f bt192.2).bind fun t203 => (if t203 = bt196.2 then ((wringerlaw11_awake.f kj4).bind fun t204 => (some t204)) else (some false))) else (some false))) else (some false))) else (some false))))) = some r := H
        have A11 := Aside0.mk A110
        clear A110
        replace H := Option.bind_eq_some_iff.mp H
        obtain ⟨⟨t189, t190⟩, A120, H⟩ := H
        replace H : ((huff_Get.f a2 a3 l1).bind fun bt192 => ((wringerref7_GetHuff.f kj4 a2 a3 l1).bind fun bt196 => (if t187.toList = t189.toList then ((wringerlaw1_Err.f t188).bind fun t201 => (if t201 = t190 then ((wringerref7_SameParts.f kj4 bt192.1 bt196.1).bind fun t202 => (if t202 = true then ((wringerlaw1_Err.f bt192.2).bind fun t203 => (if t203 = bt196.2 then ((wringerlaw11_awake.f kj4).bind fun t204 => (some t204)) else (some false))) else (some false))) else (some false))) else (some false)))) = some r := H
        have A12 := Aside0.mk A120
        clear A120
        replace H := Option.bind_eq_some_iff.mp H
        obtain ⟨⟨t192, t193⟩, A130, H⟩ := H
        replace H : ((wringerref7_GetHuff.f kj4 a2 a3 l1).bind fun bt196 => (if t187.toList = t189.toList then ((wringerlaw1_Err.f t188).bind fun t201 => (if t201 = t190 then ((wringerref7_SameParts.f kj4 t192 bt196.1).bind fun t202 => (if t202 = true then ((wringerlaw1_Err.f t193).bind fun t203 => (if t203 = bt196.2 then ((wringerlaw11_awake.f kj4).bind fun t204 => (some t204)) else (some false))) else (some false))) else (some false))) else (some false))) = some r := H
        have A13 := Aside0.mk A130
        clear A130
        replace H := Option.bind_eq_some_iff.mp H
        obtain ⟨⟨t196, t199⟩, A140, H⟩ := H
        replace H : (if t187.toList = t189.toList then ((wringerlaw1_Err.f t188).bind fun t201 => (if t201 = t190 then ((wringerref7_SameParts.f kj4 t192 t196).bind fun t202 => (if t202 = true then ((wringerlaw1_Err.f t193).bind fun t203 => (if t203 = t199 then ((wringerlaw11_awake.f kj4).bind fun t204 => (some t204)) else (some false))) else (some false))) else (some false))) else (some false)) = some r := H
        have A14 := Aside0.mk A140
        clear A140
        by_cases c15 : t187.toList = t189.toList
        · rw [if_pos c15] at H
          have c15b0 : (t187.toList == t189.toList) = true := beq_iff_eq.mpr c15
          have c15b1 : (t187.toList != t189.toList) = false := bne_eq_false_iff_eq.mpr c15
          clear c15
          replace H := Option.bind_eq_some_iff.mp H
          obtain ⟨t201, A160, H⟩ := H
          replace H : (if t201 = t190 then ((wringerref7_SameParts.f kj4 t192 t196).bind fun t202 => (if t202 = true then ((wringerlaw1_Err.f t193).bind fun t203 => (if t203 = t199 then ((wringerlaw11_awake.f kj4).bind fun t204 => (some t204)) else (some false))) else (some false))) else (some false)) = some r := H
          have A16 := Aside0.mk A160
          clear A160
          by_cases c17 : t201 = t190
          · rw [if_pos c17] at H
            have c17b0 : (t201 == t190) = true := beq_iff_eq.mpr c17
            have c17b1 : (t201 != t190) = false := bne_eq_false_iff_eq.mpr c17
            clear c17
            replace H := Option.bind_eq_some_iff.mp H
            obtain ⟨t202, A180, H⟩ := H
            replace H : (if t202 = true then ((wringerlaw1_Err.f t193).bind fun t203 => (if t203 = t199 then ((wringerlaw11_awake.f kj4).bind fun t204 => (some t204)) else (some false))) else (some false)) = some r := H
            have A18 := Aside0.mk A180
            clear A180
            by_cases c19 : t202 = true
            · subst c19
              have H1 : ((wringerlaw1_Err.f t193).bind fun t203 => (if t203 = t199 then ((wringerlaw11_awake.f kj4).bind fun t204 => (some t204)) else (some false))) = some r := by rw [if_pos rfl] at H; exact H
              clear H
              have H := H1
              clear H1
              replace H := Option.bind_eq_some_iff.mp H
              obtain ⟨t203, A200, H⟩ := H
              replace H : (if t203 = t199 then ((wringerlaw11_awake.f kj4).bind fun t204 => (some t204)) else (some false)) = some r := H
              have A20 := Aside0.mk A200
              clear A200
              by_cases c21 : t203 = t199
              · rw [if_pos c21] at H
                have c21b0 : (t203 == t199) = true := beq_iff_eq.mpr c21
                have c21b1 : (t203 != t199) = false := bne_eq_false_iff_eq.mpr c21
                clear c21
                replace H := Option.bind_eq_some_iff.mp H
                obtain ⟨t204, A220, H⟩ := H
                replace H : (some t204) = some r := H
                have A22 := Aside0.mk A220
                clear A220
                obtain rfl := Option.some.inj H
                try go_wp2_with (first | ((with_reducible refine gate_callee (f := 10) rfl ?_); refine goesL_ (some 32) rfl rfl Try.func10 (by kernel_rfl) rfl #[.slice A0 l0.length c0, .slice A1 l1.length c1] rfl (by arg_done) ?_; (with_reducible refine (huff_Put.calls kj4 _ _ l0 _ _ l1 t187 t188 _ ?side1 ?side2 ?side3 ?side4 A11.out).mono ?_); (case side1 => repeat (first | exact (Kd.C_below HR0.out HB.out) | (with_reducible refine Kd.C_alloc ?_ _) | (with_reducible refine Kd.C_drewN ?_ _) | (with_reducible refine Kd.C_drew ?_))); (case side2 => exact HC0.out); (case side3 => repeat (first | exact (Kd.C_below HR1.out HB.out) | (with_reducible refine Kd.C_alloc ?_ _) | (with_reducible refine Kd.C_drewN ?_ _) | (with_reducible refine Kd.C_drew ?_))); (case side4 => exact HC1.out); rintro e w23 ⟨rfl, hb⟩; refine ⟨_, rfl, ?_⟩; have n0_ := Aside0.mk (below_step (by repeat (first | (with_reducible first | exact HB.out | apply below_alloc | apply pw_below_drewN | apply below_drew1) | exact HB.out)) hb); clear HB; have HB := n0_; clear n0_; (try clear hb); (try clear hb2); (try clear hk); (try clear hi)) | ((with_reducible refine gate_callee (f := 11) rfl ?_); refine goesL_ (some 37) rfl rfl Try.func11 (by kernel_rfl) rfl #[.slice A0 l0.length c0, .slice A1 l1.length c1] rfl (by arg_done) ?_; (with_reducible refine (wringerref7_PutHuff.calls _ _ l0 _ _ l1 t189 t190 _ ?side1 ?side2 ?side3 ?side4 A12.out).mono ?_); (case side1 => repeat (first | exact (Kd.C_below HR0.out HB.out) | (with_reducible refine Kd.C_alloc ?_ _) | (with_reducible refine Kd.C_drewN ?_ _) | (with_reducible refine Kd.C_drew ?_))); (case side2 => exact HC0.out); (case side3 => repeat (first | exact (Kd.C_below HR1.out HB.out) | (with_reducible refine Kd.C_alloc ?_ _) | (with_reducible refine Kd.C_drewN ?_ _) | (with_reducible refine Kd.C_drew ?_))); (case side4 => exact HC1.out); rintro e w24 ⟨rfl, hb⟩; refine ⟨_, rfl, ?_⟩; have n0_ := Aside0.mk (below_step (by repeat (first | (with_reducible first | exact HB.out | apply below_alloc | apply pw_below_drewN | apply below_drew1) | exact HB.out)) hb); clear HB; have HB := n0_; clear n0_; (try clear hb); (try clear hb2); (try clear hk); (try clear hi)) | ((with_reducible refine gate_dst (N := 11) rfl ?_); (try (refine gate_guard (by rfl) ?_; dsimp only)); refine box_event ?hg (N := 11) ?hd (cs := #[.string (⟨#[]⟩ : ByteArray), .int .i64 0]) (t := 29) ?hr ?_; (case hd => rfl); (case hg => rfl); (case hr => first | (go_simp; done) | (go_simp; rfl)); intro gb191 hg w25 hbox hb; have n0_ := Aside0.mk (below_step (by repeat (first | (with_reducible first | exact HB.out | apply below_alloc | apply pw_below_drewN | apply below_drew1) | exact HB.out)) hb); have n1_ := Aside0.mk (hbox); have n2_ := Aside0.mk ((by rw [hg]; exact (below_size (by repeat (first | (with_reducible first | exact HB.out | apply below_alloc | apply pw_below_drewN | apply below_drew1) | exact HB.out))) : w.heap.size ≤ gb191)); have n3_ := Aside0.mk ((by rw [hg]; exact (below_size (by repeat (first | (with_reducible first | exact HB.out | apply below_alloc | apply pw_below_drewN | apply below_drew1) | exact HB.out))) : w.heap.size ≤ gb191)); clear HB; have HB := n0_; have BK191 := n1_; have GW191 := n2_; have GE191 := n3_; clear n0_ n1_ n2_ n3_; clear hb hbox hg; have hcz26_0 : w25.cell? ⟨gb191, 0, none⟩ = some (.string (⟨#[]⟩ : ByteArray)) := (blk_cell BK191.out 0).trans rfl; have hcz26_1 : w25.cell? ⟨gb191, 1, none⟩ = some (.int .i64 0) := (blk_cell BK191.out 1).trans rfl; have hfz26_0 := blk_frozen BK191.out 0; have hfz26_1 := blk_frozen BK191.out 1) | ((with_reducible refine gate_callee (f := 12) rfl ?_); refine goesL_ (some 42) rfl rfl Try.func12 (by kernel_rfl) rfl #[.string a2, .int .i64 a3, .slice A1 l1.length c1] rfl (by arg_done) ?_; (with_reducible refine (huff_Get.calls a2 a3 _ _ l1 t192 t193 _ ?side1 ?side2 A13.out).mono ?_); (case side1 => exact Kd.C_below HR1.out (by repeat (first | (with_reducible first | exact HB.out | apply below_alloc | apply pw_below_drewN | apply below_drew1 | refine below_set ?_ GE191.out) | exact HB.out))); (case side2 => exact HC1.out); rintro e w27 ⟨v194, rfl, ho0, hb⟩; refine ⟨_, rfl, ?_⟩; have n0_ := Aside0.mk (Kd.R_lower ho0 (below_size (by repeat (first | (with_reducible first | exact HB.out | apply below_alloc | apply pw_below_drewN | apply below_drew1 | refine below_set ?_ GE191.out) | exact HB.out)))); have n1_ := Aside0.mk (blk_below (g := gb191) (o := .cells #[.string t189, .int .i64 t190] 29 (0, 0)) (by (with_reducible repeat (first | refine blk_drewN ?_ _ | refine blk_drew ?_ | refine blk_alloc ?_ _)); refine blk_put (cs := #[.string t189, .int .i64 0]) ?_ 1 _ rfl; (with_reducible repeat (first | refine blk_drewN ?_ _ | refine blk_drew ?_ | refine blk_alloc ?_ _)); refine blk_put (cs := #[.string (⟨#[]⟩ : ByteArray), .int .i64 0]) ?_ 0 _ rfl; (with_reducible repeat (first | refine blk_drewN ?_ _ | refine blk_drew ?_ | refine blk_alloc ?_ _)); exact BK191.out) hb); have n2_ := Aside0.mk (below_step (by repeat (first | (with_reducible first | exact HB.out | apply below_alloc | apply pw_below_drewN | apply below_drew1 | refine below_set ?_ GE191.out) | exact HB.out)) hb); clear BK191; clear HB; have HO195 := n0_; have BK191 := n1_; have HB := n2_; clear n0_ n1_ n2_; (try clear hb); (try clear hb2); (try clear hk); (try clear hi); (try clear ho0)) | ((with_reducible refine gate_callee (f := 13) rfl ?_); refine goesL_ (some 48) rfl rfl Try.func13 (by kernel_rfl) rfl #[.string a2, .int .i64 a3, .slice A1 l1.length c1] rfl (by arg_done) ?_; (with_reducible refine (wringerref7_GetHuff.calls kj4 a2 a3 _ _ l1 t196 t199 _ ?side1 ?side2 A14.out).mono ?_); (case side1 => repeat (first | exact (Kd.C_below HR1.out HB.out) | (with_reducible refine Kd.C_alloc ?_ _) | (with_reducible refine Kd.C_drewN ?_ _) | (with_reducible refine Kd.C_drew ?_))); (case side2 => exact HC1.out); rintro e w28 ⟨v197, rfl, ho0, hb⟩; refine ⟨_, rfl, ?_⟩; have n0_ := Aside0.mk (Kd.R_elder' (by (with_reducible repeat (first | apply Kd.R_alloc | apply Kd.R_drewN | apply Kd.R_drew)); exact HO195.out) (Kd.R_base ho0) hb); have n1_ := Aside0.mk (Kd.R_lower (Kd.R_new' ho0 (Kd.R_lt (by (with_reducible repeat (first | apply Kd.R_alloc | apply Kd.R_drewN | apply Kd.R_drew)); exact HO195.out))) (below_size (by repeat (first | (with_reducible first | exact HB.out | apply below_alloc | apply pw_below_drewN | apply below_drew1 | refine below_set ?_ GE191.out) | exact HB.out)))); have n2_ := Aside0.mk (blk_below (g := gb191) (o := .cells #[.string t189, .int .i64 t190] 29 (0, 0)) (by (with_reducible repeat (first | refine blk_drewN ?_ _ | refine blk_drew ?_ | refine blk_alloc ?_ _)); exact BK191.out) hb); have n3_ := Aside0.mk (below_step (by repeat (first | (with_reducible first | exact HB.out | apply below_alloc | apply pw_below_drewN | apply below_drew1 | refine below_set ?_ GE191.out) | exact HB.out)) hb); clear HO195; clear BK191; clear HB; have HO195 := n0_; have HO198 := n1_; have BK191 := n2_; have HB := n3_; clear n0_ n1_ n2_ n3_; (try clear hb); (try clear hb2); (try clear hk); (try clear hi); (try clear ho0)) | ((with_reducible refine gate_dst (N := 14) rfl ?_); (try (refine gate_guard (by rfl) ?_; dsimp only)); refine box_event ?hg (N := 14) ?hd (cs := #[.slice none 0 0, .int .i64 0]) (t := 34) ?hr ?_; (case hd => rfl); (case hg => rfl); (case hr => first | (go_simp; done) | (go_simp; rfl)); intro gb200 hg w29 hbox hb; have n0_ := Aside0.mk (Kd.R_below (by (with_reducible repeat (first | apply Kd.R_alloc | apply Kd.R_drewN | apply Kd.R_drew)); exact HO195.out) hb); have n1_ := Aside0.mk (Kd.R_below (by (with_reducible repeat (first | apply Kd.R_alloc | apply Kd.R_drewN | apply Kd.R_drew)); exact HO198.out) hb); have n2_ := Aside0.mk (blk_below (g := gb191) (o := .cells #[.string t189, .int .i64 t190] 29 (0, 0)) (by (with_reducible repeat (first | refine blk_drewN ?_ _ | refine blk_drew ?_ | refine blk_alloc ?_ _)); exact BK191.out) hb); have n3_ := Aside0.mk (below_step (by repeat (first | (with_reducible first | exact HB.out | apply below_alloc | apply pw_below_drewN | apply below_drew1 | refine below_set ?_ GE191.out) | exact HB.out)) hb); have n4_ := Aside0.mk (hbox); have n5_ := Aside0.mk ((by rw [hg]; exact (below_size (by repeat (first | (with_reducible first | exact HB.out | apply below_alloc | apply pw_below_drewN | apply below_drew1 | refine below_set ?_ GE191.out) | exact HB.out))) : w.heap.size ≤ gb200)); have n6_ := Aside0.mk ((by rw [hg]; exact (below_size (by repeat (first | (with_reducible first | exact HB.out | apply below_alloc | apply pw_below_drewN | apply below_drew1 | refine below_set ?_ GE191.out) | exact HB.out))) : w.heap.size ≤ gb200)); have n7_ := Aside0.mk ((by rw [hg]; exact Nat.ne_of_lt (blk_lt (g := gb191) (o := .cells #[.string t189, .int .i64 t190] 29 (0, 0)) (by (with_reducible repeat (first | refine blk_drewN ?_ _ | refine blk_drew ?_ | refine blk_alloc ?_ _)); exact BK191.out)) : gb191 ≠ gb200)); have n8_ := Aside0.mk ((by rw [hg]; exact Nat.ne_of_gt (blk_lt (g := gb191) (o := .cells #[.string t189, .int .i64 t190] 29 (0, 0)) (by (with_reducible repeat (first | refine blk_drewN ?_ _ | refine blk_drew ?_ | refine blk_alloc ?_ _)); exact BK191.out)) : gb200 ≠ gb191)); clear HO195; clear HO198; clear BK191; clear HB; have HO195 := n0_; have HO198 := n1_; have BK191 := n2_; have HB := n3_; have BK200 := n4_; have GW200 := n5_; have GE200 := n6_; have NB191_200 := n7_; have NB200_191 := n8_; clear n0_ n1_ n2_ n3_ n4_ n5_ n6_ n7_ n8_; clear hb hbox hg; obtain ⟨Ao30, co30, eo30⟩ := Kd.R_slice HO198.out; subst eo30; have hnb31 := NB200_191.out; have hnc31 := NB191_200.out; have hcz32_0 : w29.cell? ⟨gb200, 0, none⟩ = some (.slice none 0 0) := (blk_cell BK200.out 0).trans rfl; have hcz32_1 : w29.cell? ⟨gb200, 1, none⟩ = some (.int .i64 0) := (blk_cell BK200.out 1).trans rfl; have hfz32_0 := blk_frozen BK200.out 0; have hfz32_1 := blk_frozen BK200.out 1))
                have n0_ : Aside0 (Kd.R k54 54 ((w29.setCell ⟨gb200, 0, none⟩ (.slice Ao30 t196.length co30)).setCell ⟨gb200, 1, none⟩ (.int .i64 t199)) w.heap.size (fun k_ => some k_ ≠ (.slice Ao30 t196.length co30 : Value).ownBlock) v194 t192) := ⟨by (with_reducible repeat (first | apply Kd.R_alloc | apply Kd.R_drewN | apply Kd.R_drew)); exact Kd.R_mono (Kd.R_far (p := ⟨gb200, 1, none⟩) (Kd.R_far (p := ⟨gb200, 0, none⟩) (Kd.R_types HO195.out BK200.out (by decide)) (fun _ hk => hk.2) (.slice Ao30 t196.length co30)) (fun _ hk => hk.2) (.int .i64 t199)) (fun _ hk => hk.1.2)⟩
                have n1_ : Aside0 (Kd.R k54 54 ((w29.setCell ⟨gb200, 0, none⟩ (.slice Ao30 t196.length co30)).setCell ⟨gb200, 1, none⟩ (.int .i64 t199)) w.heap.size (fun k_ => some k_ ≠ (v194 : Value).ownBlock) (.slice Ao30 t196.length co30) t196) := ⟨by (with_reducible repeat (first | apply Kd.R_alloc | apply Kd.R_drewN | apply Kd.R_drew)); exact Kd.R_mono (Kd.R_far (p := ⟨gb200, 1, none⟩) (Kd.R_far (p := ⟨gb200, 0, none⟩) (Kd.R_types HO198.out BK200.out (by decide)) (fun _ hk => hk.2) (.slice Ao30 t196.length co30)) (fun _ hk => hk.2) (.int .i64 t199)) (fun _ hk => hk.1.2)⟩
                have n2_ : Aside0 (((w29.setCell ⟨gb200, 0, none⟩ (.slice Ao30 t196.length co30)).setCell ⟨gb200, 1, none⟩ (.int .i64 t199)).heap[gb191]? = some (.cells #[.string t189, .int .i64 t190] 29 (0, 0))) := ⟨by (with_reducible repeat (first | refine blk_drewN ?_ _ | refine blk_drew ?_ | refine blk_alloc ?_ _)); refine blk_far ?_ NB191_200.out _; (with_reducible repeat (first | refine blk_drewN ?_ _ | refine blk_drew ?_ | refine blk_alloc ?_ _)); refine blk_far ?_ NB191_200.out _; (with_reducible repeat (first | refine blk_drewN ?_ _ | refine blk_drew ?_ | refine blk_alloc ?_ _)); exact BK191.out⟩
                have n3_ : Aside0 (((w29.setCell ⟨gb200, 0, none⟩ (.slice Ao30 t196.length co30)).setCell ⟨gb200, 1, none⟩ (.int .i64 t199)).heap[gb200]? = some (.cells #[.slice Ao30 t196.length co30, .int .i64 t199] 34 (0, 0))) := ⟨by (with_reducible repeat (first | refine blk_drewN ?_ _ | refine blk_drew ?_ | refine blk_alloc ?_ _)); refine blk_put (cs := #[.slice Ao30 t196.length co30, .int .i64 0]) ?_ 1 _ rfl; (with_reducible repeat (first | refine blk_drewN ?_ _ | refine blk_drew ?_ | refine blk_alloc ?_ _)); refine blk_put (cs := #[.slice none 0 0, .int .i64 0]) ?_ 0 _ rfl; (with_reducible repeat (first | refine blk_drewN ?_ _ | refine blk_drew ?_ | refine blk_alloc ?_ _)); exact BK200.out⟩
                have n4_ : Aside0 (Below w.heap.size w ((w29.setCell ⟨gb200, 0, none⟩ (.slice Ao30 t196.length co30)).setCell ⟨gb200, 1, none⟩ (.int .i64 t199))) := ⟨by repeat (first | (with_reducible first | exact HB.out | apply below_alloc | apply pw_below_drewN | apply below_drew1 | refine below_set ?_ GE191.out | refine below_set ?_ GE200.out) | exact HB.out)⟩
                (try clear HO195)
                (try clear HO198)
                (try clear BK191)
                (try clear BK200)
                (try clear HB)
                generalize ((w29.setCell ⟨gb200, 0, none⟩ (.slice Ao30 t196.length co30)).setCell ⟨gb200, 1, none⟩ (.int .i64 t199)) = w33 at n0_ n1_ n2_ n3_ n4_ ⊢
                have HO195 := n0_
                have HO198 := n1_
                have BK191 := n2_
                have BK200 := n3_
                have HB := n4_
                clear n0_ n1_ n2_ n3_ n4_
                have n0_ := Aside0.mk (Kd.R_drew HO195.out)
                have n1_ := Aside0.mk (Kd.R_drew HO198.out)
                have n2_ := Aside0.mk (blk_drew BK191.out)
                have n3_ := Aside0.mk (blk_drew BK200.out)
                have n4_ := Aside0.mk (below_drew1 HB.out)
                clear HO195
                clear HO198
                clear BK191
                clear BK200
                clear HB
                have HO195 := n0_
                have HO198 := n1_
                have BK191 := n2_
                have BK200 := n3_
                have HB := n4_
                clear n0_ n1_ n2_ n3_ n4_
                refine start_ (n := 28) (S := fun w' => w'.cell? ⟨gb191, 0, none⟩ = some (.string t189) ∧ w'.cell? ⟨gb191, 1, none⟩ = some (.int .i64 t190) ∧ w'.cell? ⟨gb200, 0, none⟩ = some (.slice Ao30 t196.length co30) ∧ w'.cell? ⟨gb200, 1, none⟩ = some (.int .i64 t199)) (ds := []) #[F0,F0,F0,F0,F0,F0,F0,F0,F0,F0,F0,F0,F0,F0,F0,F0,F0,F0,F0,F0,F0,F0,F0,F0,F0,F0,F0,F0] (by kernel_rfl) rfl rfl ⟨(blk_cell BK191.out 0).trans rfl, (blk_cell BK191.out 1).trans rfl, (blk_cell BK200.out 0).trans rfl, (blk_cell BK200.out 1).trans rfl⟩ (fun hHeld => ?_); refine with_tabW wringerlaw11_HuffAll.tab7 wringerlaw11_HuffAll.bits7 (fun HT_ HW_ => ?_)
                generalize w33.drew = w34 at HO195 HO198 BK191 BK200 HB hHeld ⊢
                refine pure_ (i := 0) (N := some 49) (v := ?_) (a' := ?_) #[T1,F0,F0,F0,F0,F0,F0,F0,F0,F0,F0,F0,F0,F0,F0,F0,F0,F0,F0,F0,F0,F0,F0,F0,F0,F0,F0,F0] rfl rfl (any_of HT_.out (by kernel_rfl)) (fun _ _ _ h => h) (Or.inl ⟨by rfl, ?_⟩) ?_ ?_
                rotate_left
                · intro w'
                  go_simp
                  with_reducible rfl
                rotate_left
                · act_put
                  rfl
                refine pure_ (i := 1) (N := some 50) (v := ?_) (a' := ?_) #[T1,T1,F0,F0,F0,F0,F0,F0,F0,F0,F0,F0,F0,F0,F0,F0,F0,F0,F0,F0,F0,F0,F0,F0,F0,F0,F0,F0] rfl rfl (any_of HT_.out (by kernel_rfl)) (fun _ _ _ h => h) (Or.inl ⟨by rfl, ?_⟩) ?_ ?_
                rotate_left
                · intro w'
                  go_simp
                  with_reducible rfl
                rotate_left
                · act_put
                  rfl
                refine take_ (i := 2) (N := some 51) (v := ?_) (a' := ?_) #[T1,T1,T1,F0,F0,F0,F0,F0,F0,F0,F0,F0,F0,F0,F0,F0,F0,F0,F0,F0,F0,F0,F0,F0,F0,F0,F0,F0] rfl rfl (take_ofW HT_.out HW_.out (by kernel_rfl)) (fun _ _ _ h => h) (Or.inl ⟨by rfl, ?_⟩) hHeld ?_ ?_
                rotate_left
                · rintro w' ⟨s0, s1, s2, s3⟩
                  go_simp
                  with_reducible rfl
                rotate_left
                · act_put
                  rfl
                refine pure_ (i := 3) (N := some 52) (v := ?_) (a' := ?_) #[T1,T1,T1,T1,F0,F0,F0,F0,F0,F0,F0,F0,F0,F0,F0,F0,F0,F0,F0,F0,F0,F0,F0,F0,F0,F0,F0,F0] rfl rfl (any_of HT_.out (by kernel_rfl)) (fun _ _ _ h => h) (Or.inl ⟨by rfl, ?_⟩) ?_ ?_
                rotate_left
                · intro w'
                  go_simp
                  with_reducible rfl
                rotate_left
                · act_put
                  rfl
                refine pure_ (i := 4) (N := some 53) (v := ?_) (a' := ?_) #[T1,T1,T1,T1,T1,F0,F0,F0,F0,F0,F0,F0,F0,F0,F0,F0,F0,F0,F0,F0,F0,F0,F0,F0,F0,F0,F0,F0] rfl rfl (any_of HT_.out (by kernel_rfl)) (fun _ _ _ h => h) (Or.inl ⟨by rfl, ?_⟩) ?_ ?_
                rotate_left
                · intro w'
                  go_simp
                  with_reducible rfl
                rotate_left
                · act_put
                  rfl
                refine pure_ (i := 5) (N := some 54) (v := ?_) (a' := ?_) #[T1,T1,T1,T1,T1,T1,F0,F0,F0,F0,F0,F0,F0,F0,F0,F0,F0,F0,F0,F0,F0,F0,F0,F0,F0,F0,F0,F0] rfl rfl (any_of HT_.out (by kernel_rfl)) (fun _ _ _ h => h) (Or.inl ⟨by rfl, ?_⟩) ?_ ?_
                rotate_left
                · intro w'
                  go_simp
                  with_reducible rfl
                rotate_left
                · act_put
                  rfl
                refine pure_ (i := 7) (N := some 56) (v := ?_) (a' := ?_) #[T1,T1,T1,T1,T1,T1,F0,T1,F0,F0,F0,F0,F0,F0,F0,F0,F0,F0,F0,F0,F0,F0,F0,F0,F0,F0,F0,F0] rfl rfl (any_of HT_.out (by kernel_rfl)) (fun _ _ _ h => h) (Or.inl ⟨by rfl, ?_⟩) ?_ ?_
                rotate_left
                · intro w'
                  go_simp
                  with_reducible rfl
                rotate_left
                · act_put
                  rfl
                refine take_ (i := 8) (N := some 57) (v := ?_) (a' := ?_) #[T1,T1,T1,T1,T1,T1,F0,T1,T1,F0,F0,F0,F0,F0,F0,F0,F0,F0,F0,F0,F0,F0,F0,F0,F0,F0,F0,F0] rfl rfl (take_ofW HT_.out HW_.out (by kernel_rfl)) (fun _ _ _ h => h) (Or.inl ⟨by rfl, ?_⟩) hHeld ?_ ?_
                rotate_left
                · rintro w' ⟨s0, s1, s2, s3⟩
                  go_simp
                  with_reducible rfl
                rotate_left
                · act_put
                  rfl
                refine one_ (i := 6) (N := some 55) #[T1,T1,T1,T1,T1,T1,T1,T1,T1,F0,F0,F0,F0,F0,F0,F0,F0,F0,F0,F0,F0,F0,F0,F0,F0,F0,F0,F0] rfl rfl (one_of HT_.out (by kernel_rfl)) (by decide) (fun K hK => ?_)
                refine goes_ Try.func14 (by kernel_rfl) rfl #[.int .i64 t188] (by rfl) rfl rfl (by arg_done) ?_
                with_reducible refine (wringerlaw1_Err.calls t188 t201 _ A16.out).mono ?_
                rintro e w' ⟨rfl, ⟨nd, rfl⟩⟩
                refine ⟨_, rfl, ?_⟩
                obtain ⟨Ao35, co35, eo35⟩ := Kd.R_slice HO195.out
                (first | subst eo35 | (injection eo35 with f1_ f2_ f3_; have f4_ := f1_.symm; have f5_ := f3_.symm; clear f1_ f2_ f3_; subst f4_; subst f5_))
                refine hK.out _ _ ⟨(blk_cell BK191.out 0).trans rfl, (blk_cell BK191.out 1).trans rfl, (blk_cell BK200.out 0).trans rfl, (blk_cell BK200.out 1).trans rfl⟩ (fun hHeld => ?_)
                clear hK K
                refine norm_ (a' := ?_) ?_ ?_
                rotate_left
                · show Act.put _ (some 55) _ = _
                  act_put
                  rfl
                refine pure_ (i := 9) (N := some 58) (v := ?_) (a' := ?_) #[T1,T1,T1,T1,T1,T1,T1,T1,T1,T1,F0,F0,F0,F0,F0,F0,F0,F0,F0,F0,F0,F0,F0,F0,F0,F0,F0,F0] rfl rfl (any_of HT_.out (by kernel_rfl)) (fun _ _ _ h => h) (Or.inl ⟨by rfl, ?_⟩) ?_ ?_
                rotate_left
                · intro w'
                  go_simp
                  with_reducible rfl
                rotate_left
                · act_put
                  rfl
                refine pure_ (i := 10) (N := some 59) (v := ?_) (a' := ?_) #[T1,T1,T1,T1,T1,T1,T1,T1,T1,T1,T1,F0,F0,F0,F0,F0,F0,F0,F0,F0,F0,F0,F0,F0,F0,F0,F0,F0] rfl rfl (any_of HT_.out (by kernel_rfl)) (fun _ _ _ h => h) (Or.inl ⟨by rfl, ?_⟩) ?_ ?_
                rotate_left
                · intro w'
                  go_simp
                  with_reducible rfl
                rotate_left
                · act_put
                  rfl
                refine pure_ (i := 11) (N := some 60) (v := ?_) (a' := ?_) #[T1,T1,T1,T1,T1,T1,T1,T1,T1,T1,T1,T1,F0,F0,F0,F0,F0,F0,F0,F0,F0,F0,F0,F0,F0,F0,F0,F0] rfl rfl (any_of HT_.out (by kernel_rfl)) (fun _ _ _ h => h) (Or.inl ⟨by rfl, ?_⟩) ?_ ?_
                rotate_left
                · intro w'
                  go_simp
                  with_reducible rfl
                rotate_left
                · act_put
                  rfl
                refine pure_ (i := 12) (N := some 61) (v := ?_) (a' := ?_) #[T1,T1,T1,T1,T1,T1,T1,T1,T1,T1,T1,T1,T1,F0,F0,F0,F0,F0,F0,F0,F0,F0,F0,F0,F0,F0,F0,F0] rfl rfl (any_of HT_.out (by kernel_rfl)) (fun _ _ _ h => h) (Or.inl ⟨by rfl, ?_⟩) ?_ ?_
                rotate_left
                · intro w'
                  go_simp
                  with_reducible rfl
                rotate_left
                · act_put
                  rfl
                refine pure_ (i := 13) (N := some 62) (v := ?_) (a' := ?_) #[T1,T1,T1,T1,T1,T1,T1,T1,T1,T1,T1,T1,T1,T1,F0,F0,F0,F0,F0,F0,F0,F0,F0,F0,F0,F0,F0,F0] rfl rfl (any_of HT_.out (by kernel_rfl)) (fun _ _ _ h => h) (Or.inl ⟨by rfl, ?_⟩) ?_ ?_
                rotate_left
                · intro w'
                  go_simp
                  with_reducible rfl
                rotate_left
                · act_put
                  rfl
                refine take_ (i := 14) (N := some 63) (v := ?_) (a' := ?_) #[T1,T1,T1,T1,T1,T1,T1,T1,T1,T1,T1,T1,T1,T1,T1,F0,F0,F0,F0,F0,F0,F0,F0,F0,F0,F0,F0,F0] rfl rfl (take_ofW HT_.out HW_.out (by kernel_rfl)) (fun _ _ _ h => h) (Or.inl ⟨by rfl, ?_⟩) hHeld ?_ ?_
                rotate_left
                · rintro w' ⟨s0, s1, s2, s3⟩
                  go_simp
                  with_reducible rfl
                rotate_left
                · act_put
                  rfl
                refine one_ (i := 15) (N := some 64) #[T1,T1,T1,T1,T1,T1,T1,T1,T1,T1,T1,T1,T1,T1,T1,T1,F0,F0,F0,F0,F0,F0,F0,F0,F0,F0,F0,F0] rfl rfl (one_of HT_.out (by kernel_rfl)) (by decide) (fun K hK => ?_)
                refine goes_ Try.func15 (by kernel_rfl) rfl #[.slice Ao35 t192.length co35, .slice Ao30 t196.length co30] (by rfl) rfl rfl (by arg_done) ?_
                with_reducible refine (wringerref7_SameParts.calls kj4 _ _ t192 _ _ t196 true _ ?side1 ?side2 ?side3 ?side4 A18.out).mono ?_
                (case side1 => repeat (first | exact (Kd.R_reads' HO195.out).2.2 | (with_reducible refine Kd.C_alloc ?_ _) | (with_reducible refine Kd.C_drewN ?_ _) | (with_reducible refine Kd.C_drew ?_)))
                (case side2 => exact (Kd.R_reads' HO195.out).2.1)
                (case side3 => repeat (first | exact (Kd.R_reads' HO198.out).2.2 | (with_reducible refine Kd.C_alloc ?_ _) | (with_reducible refine Kd.C_drewN ?_ _) | (with_reducible refine Kd.C_drew ?_)))
                (case side4 => exact (Kd.R_reads' HO198.out).2.1)
                rintro e w' ⟨rfl, ⟨nd, rfl⟩⟩
                refine ⟨_, rfl, ?_⟩
                refine hK.out _ _ ⟨(blk_cell BK191.out 0).trans rfl, (blk_cell BK191.out 1).trans rfl, (blk_cell BK200.out 0).trans rfl, (blk_cell BK200.out 1).trans rfl⟩ (fun hHeld => ?_)
                clear hK K
                refine norm_ (a' := ?_) ?_ ?_
                rotate_left
                · show Act.put _ (some 64) _ = _
                  act_put
                  rfl
                refine pure_ (i := 16) (N := some 65) (v := ?_) (a' := ?_) #[T1,T1,T1,T1,T1,T1,T1,T1,T1,T1,T1,T1,T1,T1,T1,T1,T1,F0,F0,F0,F0,F0,F0,F0,F0,F0,F0,F0] rfl rfl (any_of HT_.out (by kernel_rfl)) (fun _ _ _ h => h) (Or.inl ⟨by rfl, ?_⟩) ?_ ?_
                rotate_left
                · intro w'
                  go_simp
                  with_reducible rfl
                rotate_left
                · act_put
                  rfl
                refine pure_ (i := 17) (N := some 66) (v := ?_) (a' := ?_) #[T1,T1,T1,T1,T1,T1,T1,T1,T1,T1,T1,T1,T1,T1,T1,T1,T1,T1,F0,F0,F0,F0,F0,F0,F0,F0,F0,F0] rfl rfl (any_of HT_.out (by kernel_rfl)) (fun _ _ _ h => h) (Or.inl ⟨by rfl, ?_⟩) ?_ ?_
                rotate_left
                · intro w'
                  go_simp
                  with_reducible rfl
                rotate_left
                · act_put
                  rfl
                refine pure_ (i := 18) (N := some 67) (v := ?_) (a' := ?_) #[T1,T1,T1,T1,T1,T1,T1,T1,T1,T1,T1,T1,T1,T1,T1,T1,T1,T1,T1,F0,F0,F0,F0,F0,F0,F0,F0,F0] rfl rfl (any_of HT_.out (by kernel_rfl)) (fun _ _ _ h => h) (Or.inl ⟨by rfl, ?_⟩) ?_ ?_
                rotate_left
                · intro w'
                  go_simp
                  with_reducible rfl
                rotate_left
                · act_put
                  rfl
                refine pure_ (i := 20) (N := some 69) (v := ?_) (a' := ?_) #[T1,T1,T1,T1,T1,T1,T1,T1,T1,T1,T1,T1,T1,T1,T1,T1,T1,T1,T1,F0,T1,F0,F0,F0,F0,F0,F0,F0] rfl rfl (any_of HT_.out (by kernel_rfl)) (fun _ _ _ h => h) (Or.inl ⟨by rfl, ?_⟩) ?_ ?_
                rotate_left
                · intro w'
                  go_simp
                  with_reducible rfl
                rotate_left
                · act_put
                  rfl
                refine take_ (i := 21) (N := some 70) (v := ?_) (a' := ?_) #[T1,T1,T1,T1,T1,T1,T1,T1,T1,T1,T1,T1,T1,T1,T1,T1,T1,T1,T1,F0,T1,T1,F0,F0,F0,F0,F0,F0] rfl rfl (take_ofW HT_.out HW_.out (by kernel_rfl)) (fun _ _ _ h => h) (Or.inl ⟨by rfl, ?_⟩) hHeld ?_ ?_
                rotate_left
                · rintro w' ⟨s0, s1, s2, s3⟩
                  go_simp
                  with_reducible rfl
                rotate_left
                · act_put
                  rfl
                refine one_ (i := 19) (N := some 68) #[T1,T1,T1,T1,T1,T1,T1,T1,T1,T1,T1,T1,T1,T1,T1,T1,T1,T1,T1,T1,T1,T1,F0,F0,F0,F0,F0,F0] rfl rfl (one_of HT_.out (by kernel_rfl)) (by decide) (fun K hK => ?_)
                refine goes_ Try.func14 (by kernel_rfl) rfl #[.int .i64 t193] (by rfl) rfl rfl (by arg_done) ?_
                with_reducible refine (wringerlaw1_Err.calls t193 t203 _ A20.out).mono ?_
                rintro e w' ⟨rfl, ⟨nd, rfl⟩⟩
                refine ⟨_, rfl, ?_⟩
                refine hK.out _ _ ⟨(blk_cell BK191.out 0).trans rfl, (blk_cell BK191.out 1).trans rfl, (blk_cell BK200.out 0).trans rfl, (blk_cell BK200.out 1).trans rfl⟩ (fun hHeld => ?_)
                clear hK K
                refine norm_ (a' := ?_) ?_ ?_
                rotate_left
                · show Act.put _ (some 68) _ = _
                  act_put
                  rfl
                refine pure_ (i := 22) (N := some 71) (v := ?_) (a' := ?_) #[T1,T1,T1,T1,T1,T1,T1,T1,T1,T1,T1,T1,T1,T1,T1,T1,T1,T1,T1,T1,T1,T1,T1,F0,F0,F0,F0,F0] rfl rfl (any_of HT_.out (by kernel_rfl)) (fun _ _ _ h => h) (Or.inl ⟨by rfl, ?_⟩) ?_ ?_
                rotate_left
                · intro w'
                  go_simp
                  with_reducible rfl
                rotate_left
                · act_put
                  rfl
                refine pure_ (i := 23) (N := some 72) (v := ?_) (a' := ?_) #[T1,T1,T1,T1,T1,T1,T1,T1,T1,T1,T1,T1,T1,T1,T1,T1,T1,T1,T1,T1,T1,T1,T1,T1,F0,F0,F0,F0] rfl rfl (any_of HT_.out (by kernel_rfl)) (fun _ _ _ h => h) (Or.inl ⟨by rfl, ?_⟩) ?_ ?_
                rotate_left
                · intro w'
                  go_simp
                  with_reducible rfl
                rotate_left
                · act_put
                  rfl
                refine pure_ (i := 24) (N := some 73) (v := ?_) (a' := ?_) #[T1,T1,T1,T1,T1,T1,T1,T1,T1,T1,T1,T1,T1,T1,T1,T1,T1,T1,T1,T1,T1,T1,T1,T1,T1,F0,F0,F0] rfl rfl (any_of HT_.out (by kernel_rfl)) (fun _ _ _ h => h) (Or.inl ⟨by rfl, ?_⟩) ?_ ?_
                rotate_left
                · intro w'
                  go_simp
                  with_reducible rfl
                rotate_left
                · act_put
                  rfl
                refine one_ (i := 25) (N := some 74) #[T1,T1,T1,T1,T1,T1,T1,T1,T1,T1,T1,T1,T1,T1,T1,T1,T1,T1,T1,T1,T1,T1,T1,T1,T1,T1,F0,F0] rfl rfl (one_of HT_.out (by kernel_rfl)) (by decide) (fun K hK => ?_)
                refine goes_ Try.func9 (by kernel_rfl) rfl #[] (by rfl) rfl rfl (by arg_done) ?_
                with_reducible refine (wringerlaw11_awake.calls kj4  t204 _ A22.out).mono ?_
                rintro e w36 ⟨rfl, hb⟩
                refine ⟨_, rfl, ?_⟩
                have n0_ := Aside0.mk (Kd.R_below (by (with_reducible repeat (first | apply Kd.R_alloc | apply Kd.R_drewN | apply Kd.R_drew)); exact HO195.out) hb)
                have n1_ := Aside0.mk (Kd.R_below (by (with_reducible repeat (first | apply Kd.R_alloc | apply Kd.R_drewN | apply Kd.R_drew)); exact HO198.out) hb)
                have n2_ := Aside0.mk (blk_below (g := gb191) (o := .cells #[.string t189, .int .i64 t190] 29 (0, 0)) (by (with_reducible repeat (first | refine blk_drewN ?_ _ | refine blk_drew ?_ | refine blk_alloc ?_ _)); exact BK191.out) hb)
                have n3_ := Aside0.mk (blk_below (g := gb200) (o := .cells #[.slice Ao30 t196.length co30, .int .i64 t199] 34 (0, 0)) (by (with_reducible repeat (first | refine blk_drewN ?_ _ | refine blk_drew ?_ | refine blk_alloc ?_ _)); exact BK200.out) hb)
                have n4_ := Aside0.mk (below_step (by repeat (first | (with_reducible first | exact HB.out | apply below_alloc | apply pw_below_drewN | apply below_drew1 | refine below_set ?_ GE191.out | refine below_set ?_ GE200.out) | exact HB.out)) hb)
                clear HO195
                clear HO198
                clear BK191
                clear BK200
                clear HB
                have HO195 := n0_
                have HO198 := n1_
                have BK191 := n2_
                have BK200 := n3_
                have HB := n4_
                clear n0_ n1_ n2_ n3_ n4_
                (try clear hb)
                (try clear hb2)
                (try clear hk)
                (try clear hi)
                refine hK.out _ _ ⟨(blk_cell BK191.out 0).trans rfl, (blk_cell BK191.out 1).trans rfl, (blk_cell BK200.out 0).trans rfl, (blk_cell BK200.out 1).trans rfl⟩ (fun hHeld => ?_)
                clear hK K
                refine norm_ (a' := ?_) ?_ ?_
                rotate_left
                · show Act.put _ (some 74) _ = _
                  act_put
                  rfl
                refine pure_ (i := 26) (N := some 75) (v := ?_) (a' := ?_) #[T1,T1,T1,T1,T1,T1,T1,T1,T1,T1,T1,T1,T1,T1,T1,T1,T1,T1,T1,T1,T1,T1,T1,T1,T1,T1,T1,F0] rfl rfl (any_of HT_.out (by kernel_rfl)) (fun _ _ _ h => h) (Or.inl ⟨by rfl, ?_⟩) ?_ ?_
                rotate_left
                · intro w'
                  go_simp
                  with_reducible rfl
                rotate_left
                · act_put
                  rfl
                refine pure_ (i := 27) (N := some 8) (v := ?_) (a' := ?_) #[T1,T1,T1,T1,T1,T1,T1,T1,T1,T1,T1,T1,T1,T1,T1,T1,T1,T1,T1,T1,T1,T1,T1,T1,T1,T1,T1,T1] rfl rfl (any_of HT_.out (by kernel_rfl)) (fun _ _ _ h => h) (Or.inl ⟨by rfl, ?_⟩) ?_ ?_
                rotate_left
                · intro w'
                  go_simp
                  with_reducible rfl
                rotate_left
                · act_put
                  rfl
                refine done_ (done_of HT_.out (by kernel_rfl)) ?_
                try go_wp2
                go_ret
                exact ⟨by first | rfl | (simp [errW_none, errW_some] <;> rfl) | (simp [*, errW_none, errW_some] <;> rfl), by repeat (first | (with_reducible first | exact HB.out | apply below_alloc | apply pw_below_drewN | apply below_drew1 | refine below_set ?_ GE191.out | refine below_set ?_ GE200.out) | exact HB.out)⟩
              · rw [if_neg c21] at H
                have c21b0 : (t203 == t199) = false := beq_eq_false_iff_ne.mpr c21
                have c21b1 : (t203 != t199) = true := bne_iff_ne.mpr c21
                obtain rfl := Option.some.inj H
                try go_wp2_with (first | ((with_reducible refine gate_callee (f := 10) rfl ?_); refine goesL_ (some 32) rfl rfl Try.func10 (by kernel_rfl) rfl #[.slice A0 l0.length c0, .slice A1 l1.length c1] rfl (by arg_done) ?_; (with_reducible refine (huff_Put.calls kj4 _ _ l0 _ _ l1 t187 t188 _ ?side1 ?side2 ?side3 ?side4 A11.out).mono ?_); (case side1 => repeat (first | exact (Kd.C_below HR0.out HB.out) | (with_reducible refine Kd.C_alloc ?_ _) | (with_reducible refine Kd.C_drewN ?_ _) | (with_reducible refine Kd.C_drew ?_))); (case side2 => exact HC0.out); (case side3 => repeat (first | exact (Kd.C_below HR1.out HB.out) | (with_reducible refine Kd.C_alloc ?_ _) | (with_reducible refine Kd.C_drewN ?_ _) | (with_reducible refine Kd.C_drew ?_))); (case side4 => exact HC1.out); rintro e w37 ⟨rfl, hb⟩; refine ⟨_, rfl, ?_⟩; have n0_ := Aside0.mk (below_step (by repeat (first | (with_reducible first | exact HB.out | apply below_alloc | apply pw_below_drewN | apply below_drew1) | exact HB.out)) hb); clear HB; have HB := n0_; clear n0_; (try clear hb); (try clear hb2); (try clear hk); (try clear hi)) | ((with_reducible refine gate_callee (f := 11) rfl ?_); refine goesL_ (some 37) rfl rfl Try.func11 (by kernel_rfl) rfl #[.slice A0 l0.length c0, .slice A1 l1.length c1] rfl (by arg_done) ?_; (with_reducible refine (wringerref7_PutHuff.calls _ _ l0 _ _ l1 t189 t190 _ ?side1 ?side2 ?side3 ?side4 A12.out).mono ?_); (case side1 => repeat (first | exact (Kd.C_below HR0.out HB.out) | (with_reducible refine Kd.C_alloc ?_ _) | (with_reducible refine Kd.C_drewN ?_ _) | (with_reducible refine Kd.C_drew ?_))); (case side2 => exact HC0.out); (case side3 => repeat (first | exact (Kd.C_below HR1.out HB.out) | (with_reducible refine Kd.C_alloc ?_ _) | (with_reducible refine Kd.C_drewN ?_ _) | (with_reducible refine Kd.C_drew ?_))); (case side4 => exact HC1.out); rintro e w38 ⟨rfl, hb⟩; refine ⟨_, rfl, ?_⟩; have n0_ := Aside0.mk (below_step (by repeat (first | (with_reducible first | exact HB.out | apply below_alloc | apply pw_below_drewN | apply below_drew1) | exact HB.out)) hb); clear HB; have HB := n0_; clear n0_; (try clear hb); (try clear hb2); (try clear hk); (try clear hi)) | ((with_reducible refine gate_dst (N := 11) rfl ?_); (try (refine gate_guard (by rfl) ?_; dsimp only)); refine box_event ?hg (N := 11) ?hd (cs := #[.string (⟨#[]⟩ : ByteArray), .int .i64 0]) (t := 29) ?hr ?_; (case hd => rfl); (case hg => rfl); (case hr => first | (go_simp; done) | (go_simp; rfl)); intro gb191 hg w39 hbox hb; have n0_ := Aside0.mk (below_step (by repeat (first | (with_reducible first | exact HB.out | apply below_alloc | apply pw_below_drewN | apply below_drew1) | exact HB.out)) hb); have n1_ := Aside0.mk (hbox); have n2_ := Aside0.mk ((by rw [hg]; exact (below_size (by repeat (first | (with_reducible first | exact HB.out | apply below_alloc | apply pw_below_drewN | apply below_drew1) | exact HB.out))) : w.heap.size ≤ gb191)); have n3_ := Aside0.mk ((by rw [hg]; exact (below_size (by repeat (first | (with_reducible first | exact HB.out | apply below_alloc | apply pw_below_drewN | apply below_drew1) | exact HB.out))) : w.heap.size ≤ gb191)); clear HB; have HB := n0_; have BK191 := n1_; have GW191 := n2_; have GE191 := n3_; clear n0_ n1_ n2_ n3_; clear hb hbox hg; have hcz40_0 : w39.cell? ⟨gb191, 0, none⟩ = some (.string (⟨#[]⟩ : ByteArray)) := (blk_cell BK191.out 0).trans rfl; have hcz40_1 : w39.cell? ⟨gb191, 1, none⟩ = some (.int .i64 0) := (blk_cell BK191.out 1).trans rfl; have hfz40_0 := blk_frozen BK191.out 0; have hfz40_1 := blk_frozen BK191.out 1) | ((with_reducible refine gate_callee (f := 12) rfl ?_); refine goesL_ (some 42) rfl rfl Try.func12 (by kernel_rfl) rfl #[.string a2, .int .i64 a3, .slice A1 l1.length c1] rfl (by arg_done) ?_; (with_reducible refine (huff_Get.calls a2 a3 _ _ l1 t192 t193 _ ?side1 ?side2 A13.out).mono ?_); (case side1 => exact Kd.C_below HR1.out (by repeat (first | (with_reducible first | exact HB.out | apply below_alloc | apply pw_below_drewN | apply below_drew1 | refine below_set ?_ GE191.out) | exact HB.out))); (case side2 => exact HC1.out); rintro e w41 ⟨v194, rfl, ho0, hb⟩; refine ⟨_, rfl, ?_⟩; have n0_ := Aside0.mk (Kd.R_lower ho0 (below_size (by repeat (first | (with_reducible first | exact HB.out | apply below_alloc | apply pw_below_drewN | apply below_drew1 | refine below_set ?_ GE191.out) | exact HB.out)))); have n1_ := Aside0.mk (blk_below (g := gb191) (o := .cells #[.string t189, .int .i64 t190] 29 (0, 0)) (by (with_reducible repeat (first | refine blk_drewN ?_ _ | refine blk_drew ?_ | refine blk_alloc ?_ _)); refine blk_put (cs := #[.string t189, .int .i64 0]) ?_ 1 _ rfl; (with_reducible repeat (first | refine blk_drewN ?_ _ | refine blk_drew ?_ | refine blk_alloc ?_ _)); refine blk_put (cs := #[.string (⟨#[]⟩ : ByteArray), .int .i64 0]) ?_ 0 _ rfl; (with_reducible repeat (first | refine blk_drewN ?_ _ | refine blk_drew ?_ | refine blk_alloc ?_ _)); exact BK191.out) hb); have n2_ := Aside0.mk (below_step (by repeat (first | (with_reducible first | exact HB.out | apply below_alloc | apply pw_below_drewN | apply below_drew1 | refine below_set ?_ GE191.out) | exact HB.out)) hb); clear BK191; clear HB; have HO195 := n0_; have BK191 := n1_; have HB := n2_; clear n0_ n1_ n2_; (try clear hb); (try clear hb2); (try clear hk); (try clear hi); (try clear ho0)) | ((with_reducible refine gate_callee (f := 13) rfl ?_); refine goesL_ (some 48) rfl rfl Try.func13 (by kernel_rfl) rfl #[.string a2, .int .i64 a3, .slice A1 l1.length c1] rfl (by arg_done) ?_; (with_reducible refine (wringerref7_GetHuff.calls kj4 a2 a3 _ _ l1 t196 t199 _ ?side1 ?side2 A14.out).mono ?_); (case side1 => repeat (first | exact (Kd.C_below HR1.out HB.out) | (with_reducible refine Kd.C_alloc ?_ _) | (with_reducible refine Kd.C_drewN ?_ _) | (with_reducible refine Kd.C_drew ?_))); (case side2 => exact HC1.out); rintro e w42 ⟨v197, rfl, ho0, hb⟩; refine ⟨_, rfl, ?_⟩; have n0_ := Aside0.mk (Kd.R_elder' (by (with_reducible repeat (first | apply Kd.R_alloc | apply Kd.R_drewN | apply Kd.R_drew)); exact HO195.out) (Kd.R_base ho0) hb); have n1_ := Aside0.mk (Kd.R_lower (Kd.R_new' ho0 (Kd.R_lt (by (with_reducible repeat (first | apply Kd.R_alloc | apply Kd.R_drewN | apply Kd.R_drew)); exact HO195.out))) (below_size (by repeat (first | (with_reducible first | exact HB.out | apply below_alloc | apply pw_below_drewN | apply below_drew1 | refine below_set ?_ GE191.out) | exact HB.out)))); have n2_ := Aside0.mk (blk_below (g := gb191) (o := .cells #[.string t189, .int .i64 t190] 29 (0, 0)) (by (with_reducible repeat (first | refine blk_drewN ?_ _ | refine blk_drew ?_ | refine blk_alloc ?_ _)); exact BK191.out) hb); have n3_ := Aside0.mk (below_step (by repeat (first | (with_reducible first | exact HB.out | apply below_alloc | apply pw_below_drewN | apply below_drew1 | refine below_set ?_ GE191.out) | exact HB.out)) hb); clear HO195; clear BK191; clear HB; have HO195 := n0_; have HO198 := n1_; have BK191 := n2_; have HB := n3_; clear n0_ n1_ n2_ n3_; (try clear hb); (try clear hb2); (try clear hk); (try clear hi); (try clear ho0)) | ((with_reducible refine gate_dst (N := 14) rfl ?_); (try (refine gate_guard (by rfl) ?_; dsimp only)); refine box_event ?hg (N := 14) ?hd (cs := #[.slice none 0 0, .int .i64 0]) (t := 34) ?hr ?_; (case hd => rfl); (case hg => rfl); (case hr => first | (go_simp; done) | (go_simp; rfl)); intro gb200 hg w43 hbox hb; have n0_ := Aside0.mk (Kd.R_below (by (with_reducible repeat (first | apply Kd.R_alloc | apply Kd.R_drewN | apply Kd.R_drew)); exact HO195.out) hb); have n1_ := Aside0.mk (Kd.R_below (by (with_reducible repeat (first | apply Kd.R_alloc | apply Kd.R_drewN | apply Kd.R_drew)); exact HO198.out) hb); have n2_ := Aside0.mk (blk_below (g := gb191) (o := .cells #[.string t189, .int .i64 t190] 29 (0, 0)) (by (with_reducible repeat (first | refine blk_drewN ?_ _ | refine blk_drew ?_ | refine blk_alloc ?_ _)); exact BK191.out) hb); have n3_ := Aside0.mk (below_step (by repeat (first | (with_reducible first | exact HB.out | apply below_alloc | apply pw_below_drewN | apply below_drew1 | refine below_set ?_ GE191.out) | exact HB.out)) hb); have n4_ := Aside0.mk (hbox); have n5_ := Aside0.mk ((by rw [hg]; exact (below_size (by repeat (first | (with_reducible first | exact HB.out | apply below_alloc | apply pw_below_drewN | apply below_drew1 | refine below_set ?_ GE191.out) | exact HB.out))) : w.heap.size ≤ gb200)); have n6_ := Aside0.mk ((by rw [hg]; exact (below_size (by repeat (first | (with_reducible first | exact HB.out | apply below_alloc | apply pw_below_drewN | apply below_drew1 | refine below_set ?_ GE191.out) | exact HB.out))) : w.heap.size ≤ gb200)); have n7_ := Aside0.mk ((by rw [hg]; exact Nat.ne_of_lt (blk_lt (g := gb191) (o := .cells #[.string t189, .int .i64 t190] 29 (0, 0)) (by (with_reducible repeat (first | refine blk_drewN ?_ _ | refine blk_drew ?_ | refine blk_alloc ?_ _)); exact BK191.out)) : gb191 ≠ gb200)); have n8_ := Aside0.mk ((by rw [hg]; exact Nat.ne_of_gt (blk_lt (g := gb191) (o := .cells #[.string t189, .int .i64 t190] 29 (0, 0)) (by (with_reducible repeat (first | refine blk_drewN ?_ _ | refine blk_drew ?_ | refine blk_alloc ?_ _)); exact BK191.out)) : gb200 ≠ gb191)); clear HO195; clear HO198; clear BK191; clear HB; have HO195 := n0_; have HO198 := n1_; have BK191 := n2_; have HB := n3_; have BK200 := n4_; have GW200 := n5_; have GE200 := n6_; have NB191_200 := n7_; have NB200_191 := n8_; clear n0_ n1_ n2_ n3_ n4_ n5_ n6_ n7_ n8_; clear hb hbox hg; obtain ⟨Ao44, co44, eo44⟩ := Kd.R_slice HO198.out; subst eo44; have hnb45 := NB200_191.out; have hnc45 := NB191_200.out; have hcz46_0 : w43.cell? ⟨gb200, 0, none⟩ = some (.slice none 0 0) := (blk_cell BK200.out 0).trans rfl; have hcz46_1 : w43.cell? ⟨gb200, 1, none⟩ = some (.int .i64 0) := (blk_cell BK200.out 1).trans rfl; have hfz46_0 := blk_frozen BK200.out 0; have hfz46_1 := blk_frozen BK200.out 1))
                have n0_ : Aside0 (Kd.R k54 54 ((w43.setCell ⟨gb200, 0, none⟩ (.slice Ao44 t196.length co44)).setCell ⟨gb200, 1, none⟩ (.int .i64 t199)) w.heap.size (fun k_ => some k_ ≠ (.slice Ao44 t196.length co44 : Value).ownBlock) v194 t192) := ⟨by (with_reducible repeat (first | apply Kd.R_alloc | apply Kd.R_drewN | apply Kd.R_drew)); exact Kd.R_mono (Kd.R_far (p := ⟨gb200, 1, none⟩) (Kd.R_far (p := ⟨gb200, 0, none⟩) (Kd.R_types HO195.out BK200.out (by decide)) (fun _ hk => hk.2) (.slice Ao44 t196.length co44)) (fun _ hk => hk.2) (.int .i64 t199)) (fun _ hk => hk.1.2)⟩
                have n1_ : Aside0 (Kd.R k54 54 ((w43.setCell ⟨gb200, 0, none⟩ (.slice Ao44 t196.length co44)).setCell ⟨gb200, 1, none⟩ (.int .i64 t199)) w.heap.size (fun k_ => some k_ ≠ (v194 : Value).ownBlock) (.slice Ao44 t196.length co44) t196) := ⟨by (with_reducible repeat (first | apply Kd.R_alloc | apply Kd.R_drewN | apply Kd.R_drew)); exact Kd.R_mono (Kd.R_far (p := ⟨gb200, 1, none⟩) (Kd.R_far (p := ⟨gb200, 0, none⟩) (Kd.R_types HO198.out BK200.out (by decide)) (fun _ hk => hk.2) (.slice Ao44 t196.length co44)) (fun _ hk => hk.2) (.int .i64 t199)) (fun _ hk => hk.1.2)⟩
                have n2_ : Aside0 (((w43.setCell ⟨gb200, 0, none⟩ (.slice Ao44 t196.length co44)).setCell ⟨gb200, 1, none⟩ (.int .i64 t199)).heap[gb191]? = some (.cells #[.string t189, .int .i64 t190] 29 (0, 0))) := ⟨by (with_reducible repeat (first | refine blk_drewN ?_ _ | refine blk_drew ?_ | refine blk_alloc ?_ _)); refine blk_far ?_ NB191_200.out _; (with_reducible repeat (first | refine blk_drewN ?_ _ | refine blk_drew ?_ | refine blk_alloc ?_ _)); refine blk_far ?_ NB191_200.out _; (with_reducible repeat (first | refine blk_drewN ?_ _ | refine blk_drew ?_ | refine blk_alloc ?_ _)); exact BK191.out⟩
                have n3_ : Aside0 (((w43.setCell ⟨gb200, 0, none⟩ (.slice Ao44 t196.length co44)).setCell ⟨gb200, 1, none⟩ (.int .i64 t199)).heap[gb200]? = some (.cells #[.slice Ao44 t196.length co44, .int .i64 t199] 34 (0, 0))) := ⟨by (with_reducible repeat (first | refine blk_drewN ?_ _ | refine blk_drew ?_ | refine blk_alloc ?_ _)); refine blk_put (cs := #[.slice Ao44 t196.length co44, .int .i64 0]) ?_ 1 _ rfl; (with_reducible repeat (first | refine blk_drewN ?_ _ | refine blk_drew ?_ | refine blk_alloc ?_ _)); refine blk_put (cs := #[.slice none 0 0, .int .i64 0]) ?_ 0 _ rfl; (with_reducible repeat (first | refine blk_drewN ?_ _ | refine blk_drew ?_ | refine blk_alloc ?_ _)); exact BK200.out⟩
                have n4_ : Aside0 (Below w.heap.size w ((w43.setCell ⟨gb200, 0, none⟩ (.slice Ao44 t196.length co44)).setCell ⟨gb200, 1, none⟩ (.int .i64 t199))) := ⟨by repeat (first | (with_reducible first | exact HB.out | apply below_alloc | apply pw_below_drewN | apply below_drew1 | refine below_set ?_ GE191.out | refine below_set ?_ GE200.out) | exact HB.out)⟩
                (try clear HO195)
                (try clear HO198)
                (try clear BK191)
                (try clear BK200)
                (try clear HB)
                generalize ((w43.setCell ⟨gb200, 0, none⟩ (.slice Ao44 t196.length co44)).setCell ⟨gb200, 1, none⟩ (.int .i64 t199)) = w47 at n0_ n1_ n2_ n3_ n4_ ⊢
                have HO195 := n0_
                have HO198 := n1_
                have BK191 := n2_
                have BK200 := n3_
                have HB := n4_
                clear n0_ n1_ n2_ n3_ n4_
                have n0_ := Aside0.mk (Kd.R_drew HO195.out)
                have n1_ := Aside0.mk (Kd.R_drew HO198.out)
                have n2_ := Aside0.mk (blk_drew BK191.out)
                have n3_ := Aside0.mk (blk_drew BK200.out)
                have n4_ := Aside0.mk (below_drew1 HB.out)
                clear HO195
                clear HO198
                clear BK191
                clear BK200
                clear HB
                have HO195 := n0_
                have HO198 := n1_
                have BK191 := n2_
                have BK200 := n3_
                have HB := n4_
                clear n0_ n1_ n2_ n3_ n4_
                refine start_ (n := 28) (S := fun w' => w'.cell? ⟨gb191, 0, none⟩ = some (.string t189) ∧ w'.cell? ⟨gb191, 1, none⟩ = some (.int .i64 t190) ∧ w'.cell? ⟨gb200, 0, none⟩ = some (.slice Ao44 t196.length co44) ∧ w'.cell? ⟨gb200, 1, none⟩ = some (.int .i64 t199)) (ds := []) #[F0,F0,F0,F0,F0,F0,F0,F0,F0,F0,F0,F0,F0,F0,F0,F0,F0,F0,F0,F0,F0,F0,F0,F0,F0,F0,F0,F0] (by kernel_rfl) rfl rfl ⟨(blk_cell BK191.out 0).trans rfl, (blk_cell BK191.out 1).trans rfl, (blk_cell BK200.out 0).trans rfl, (blk_cell BK200.out 1).trans rfl⟩ (fun hHeld => ?_); refine with_tabW wringerlaw11_HuffAll.tab7 wringerlaw11_HuffAll.bits7 (fun HT_ HW_ => ?_)
                generalize w47.drew = w48 at HO195 HO198 BK191 BK200 HB hHeld ⊢
                refine pure_ (i := 0) (N := some 49) (v := ?_) (a' := ?_) #[T1,F0,F0,F0,F0,F0,F0,F0,F0,F0,F0,F0,F0,F0,F0,F0,F0,F0,F0,F0,F0,F0,F0,F0,F0,F0,F0,F0] rfl rfl (any_of HT_.out (by kernel_rfl)) (fun _ _ _ h => h) (Or.inl ⟨by rfl, ?_⟩) ?_ ?_
                rotate_left
                · intro w'
                  go_simp
                  with_reducible rfl
                rotate_left
                · act_put
                  rfl
                refine pure_ (i := 1) (N := some 50) (v := ?_) (a' := ?_) #[T1,T1,F0,F0,F0,F0,F0,F0,F0,F0,F0,F0,F0,F0,F0,F0,F0,F0,F0,F0,F0,F0,F0,F0,F0,F0,F0,F0] rfl rfl (any_of HT_.out (by kernel_rfl)) (fun _ _ _ h => h) (Or.inl ⟨by rfl, ?_⟩) ?_ ?_
                rotate_left
                · intro w'
                  go_simp
                  with_reducible rfl
                rotate_left
                · act_put
                  rfl
                refine take_ (i := 2) (N := some 51) (v := ?_) (a' := ?_) #[T1,T1,T1,F0,F0,F0,F0,F0,F0,F0,F0,F0,F0,F0,F0,F0,F0,F0,F0,F0,F0,F0,F0,F0,F0,F0,F0,F0] rfl rfl (take_ofW HT_.out HW_.out (by kernel_rfl)) (fun _ _ _ h => h) (Or.inl ⟨by rfl, ?_⟩) hHeld ?_ ?_
                rotate_left
                · rintro w' ⟨s0, s1, s2, s3⟩
                  go_simp
                  with_reducible rfl
                rotate_left
                · act_put
                  rfl
                refine pure_ (i := 3) (N := some 52) (v := ?_) (a' := ?_) #[T1,T1,T1,T1,F0,F0,F0,F0,F0,F0,F0,F0,F0,F0,F0,F0,F0,F0,F0,F0,F0,F0,F0,F0,F0,F0,F0,F0] rfl rfl (any_of HT_.out (by kernel_rfl)) (fun _ _ _ h => h) (Or.inl ⟨by rfl, ?_⟩) ?_ ?_
                rotate_left
                · intro w'
                  go_simp
                  with_reducible rfl
                rotate_left
                · act_put
                  rfl
                refine pure_ (i := 4) (N := some 53) (v := ?_) (a' := ?_) #[T1,T1,T1,T1,T1,F0,F0,F0,F0,F0,F0,F0,F0,F0,F0,F0,F0,F0,F0,F0,F0,F0,F0,F0,F0,F0,F0,F0] rfl rfl (any_of HT_.out (by kernel_rfl)) (fun _ _ _ h => h) (Or.inl ⟨by rfl, ?_⟩) ?_ ?_
                rotate_left
                · intro w'
                  go_simp
                  with_reducible rfl
                rotate_left
                · act_put
                  rfl
                refine pure_ (i := 5) (N := some 54) (v := ?_) (a' := ?_) #[T1,T1,T1,T1,T1,T1,F0,F0,F0,F0,F0,F0,F0,F0,F0,F0,F0,F0,F0,F0,F0,F0,F0,F0,F0,F0,F0,F0] rfl rfl (any_of HT_.out (by kernel_rfl)) (fun _ _ _ h => h) (Or.inl ⟨by rfl, ?_⟩) ?_ ?_
                rotate_left
                · intro w'
                  go_simp
                  with_reducible rfl
                rotate_left
                · act_put
                  rfl
                refine pure_ (i := 7) (N := some 56) (v := ?_) (a' := ?_) #[T1,T1,T1,T1,T1,T1,F0,T1,F0,F0,F0,F0,F0,F0,F0,F0,F0,F0,F0,F0,F0,F0,F0,F0,F0,F0,F0,F0] rfl rfl (any_of HT_.out (by kernel_rfl)) (fun _ _ _ h => h) (Or.inl ⟨by rfl, ?_⟩) ?_ ?_
                rotate_left
                · intro w'
                  go_simp
                  with_reducible rfl
                rotate_left
                · act_put
                  rfl
                refine take_ (i := 8) (N := some 57) (v := ?_) (a' := ?_) #[T1,T1,T1,T1,T1,T1,F0,T1,T1,F0,F0,F0,F0,F0,F0,F0,F0,F0,F0,F0,F0,F0,F0,F0,F0,F0,F0,F0] rfl rfl (take_ofW HT_.out HW_.out (by kernel_rfl)) (fun _ _ _ h => h) (Or.inl ⟨by rfl, ?_⟩) hHeld ?_ ?_
                rotate_left
                · rintro w' ⟨s0, s1, s2, s3⟩
                  go_simp
                  with_reducible rfl
                rotate_left
                · act_put
                  rfl
                refine one_ (i := 6) (N := some 55) #[T1,T1,T1,T1,T1,T1,T1,T1,T1,F0,F0,F0,F0,F0,F0,F0,F0,F0,F0,F0,F0,F0,F0,F0,F0,F0,F0,F0] rfl rfl (one_of HT_.out (by kernel_rfl)) (by decide) (fun K hK => ?_)
                refine goes_ Try.func14 (by kernel_rfl) rfl #[.int .i64 t188] (by rfl) rfl rfl (by arg_done) ?_
                with_reducible refine (wringerlaw1_Err.calls t188 t201 _ A16.out).mono ?_
                rintro e w' ⟨rfl, ⟨nd, rfl⟩⟩
                refine ⟨_, rfl, ?_⟩
                obtain ⟨Ao49, co49, eo49⟩ := Kd.R_slice HO195.out
                (first | subst eo49 | (injection eo49 with f1_ f2_ f3_; have f4_ := f1_.symm; have f5_ := f3_.symm; clear f1_ f2_ f3_; subst f4_; subst f5_))
                refine hK.out _ _ ⟨(blk_cell BK191.out 0).trans rfl, (blk_cell BK191.out 1).trans rfl, (blk_cell BK200.out 0).trans rfl, (blk_cell BK200.out 1).trans rfl⟩ (fun hHeld => ?_)
                clear hK K
                refine norm_ (a' := ?_) ?_ ?_
                rotate_left
                · show Act.put _ (some 55) _ = _
                  act_put
                  rfl
                refine pure_ (i := 9) (N := some 58) (v := ?_) (a' := ?_) #[T1,T1,T1,T1,T1,T1,T1,T1,T1,T1,F0,F0,F0,F0,F0,F0,F0,F0,F0,F0,F0,F0,F0,F0,F0,F0,F0,F0] rfl rfl (any_of HT_.out (by kernel_rfl)) (fun _ _ _ h => h) (Or.inl ⟨by rfl, ?_⟩) ?_ ?_
                rotate_left
                · intro w'
                  go_simp
                  with_reducible rfl
                rotate_left
                · act_put
                  rfl
                refine pure_ (i := 10) (N := some 59) (v := ?_) (a' := ?_) #[T1,T1,T1,T1,T1,T1,T1,T1,T1,T1,T1,F0,F0,F0,F0,F0,F0,F0,F0,F0,F0,F0,F0,F0,F0,F0,F0,F0] rfl rfl (any_of HT_.out (by kernel_rfl)) (fun _ _ _ h => h) (Or.inl ⟨by rfl, ?_⟩) ?_ ?_
                rotate_left
                · intro w'
                  go_simp
                  with_reducible rfl
                rotate_left
                · act_put
                  rfl
                refine pure_ (i := 11) (N := some 60) (v := ?_) (a' := ?_) #[T1,T1,T1,T1,T1,T1,T1,T1,T1,T1,T1,T1,F0,F0,F0,F0,F0,F0,F0,F0,F0,F0,F0,F0,F0,F0,F0,F0] rfl rfl (any_of HT_.out (by kernel_rfl)) (fun _ _ _ h => h) (Or.inl ⟨by rfl, ?_⟩) ?_ ?_
                rotate_left
                · intro w'
                  go_simp
                  with_reducible rfl
                rotate_left
                · act_put
                  rfl
                refine pure_ (i := 12) (N := some 61) (v := ?_) (a' := ?_) #[T1,T1,T1,T1,T1,T1,T1,T1,T1,T1,T1,T1,T1,F0,F0,F0,F0,F0,F0,F0,F0,F0,F0,F0,F0,F0,F0,F0] rfl rfl (any_of HT_.out (by kernel_rfl)) (fun _ _ _ h => h) (Or.inl ⟨by rfl, ?_⟩) ?_ ?_
                rotate_left
                · intro w'
                  go_simp
                  with_reducible rfl
                rotate_left
                · act_put
                  rfl
                refine pure_ (i := 13) (N := some 62) (v := ?_) (a' := ?_) #[T1,T1,T1,T1,T1,T1,T1,T1,T1,T1,T1,T1,T1,T1,F0,F0,F0,F0,F0,F0,F0,F0,F0,F0,F0,F0,F0,F0] rfl rfl (any_of HT_.out (by kernel_rfl)) (fun _ _ _ h => h) (Or.inl ⟨by rfl, ?_⟩) ?_ ?_
                rotate_left
                · intro w'
                  go_simp
                  with_reducible rfl
                rotate_left
                · act_put
                  rfl
                refine take_ (i := 14) (N := some 63) (v := ?_) (a' := ?_) #[T1,T1,T1,T1,T1,T1,T1,T1,T1,T1,T1,T1,T1,T1,T1,F0,F0,F0,F0,F0,F0,F0,F0,F0,F0,F0,F0,F0] rfl rfl (take_ofW HT_.out HW_.out (by kernel_rfl)) (fun _ _ _ h => h) (Or.inl ⟨by rfl, ?_⟩) hHeld ?_ ?_
                rotate_left
                · rintro w' ⟨s0, s1, s2, s3⟩
                  go_simp
                  with_reducible rfl
                rotate_left
                · act_put
                  rfl
                refine one_ (i := 15) (N := some 64) #[T1,T1,T1,T1,T1,T1,T1,T1,T1,T1,T1,T1,T1,T1,T1,T1,F0,F0,F0,F0,F0,F0,F0,F0,F0,F0,F0,F0] rfl rfl (one_of HT_.out (by kernel_rfl)) (by decide) (fun K hK => ?_)
                refine goes_ Try.func15 (by kernel_rfl) rfl #[.slice Ao49 t192.length co49, .slice Ao44 t196.length co44] (by rfl) rfl rfl (by arg_done) ?_
                with_reducible refine (wringerref7_SameParts.calls kj4 _ _ t192 _ _ t196 true _ ?side1 ?side2 ?side3 ?side4 A18.out).mono ?_
                (case side1 => repeat (first | exact (Kd.R_reads' HO195.out).2.2 | (with_reducible refine Kd.C_alloc ?_ _) | (with_reducible refine Kd.C_drewN ?_ _) | (with_reducible refine Kd.C_drew ?_)))
                (case side2 => exact (Kd.R_reads' HO195.out).2.1)
                (case side3 => repeat (first | exact (Kd.R_reads' HO198.out).2.2 | (with_reducible refine Kd.C_alloc ?_ _) | (with_reducible refine Kd.C_drewN ?_ _) | (with_reducible refine Kd.C_drew ?_)))
                (case side4 => exact (Kd.R_reads' HO198.out).2.1)
                rintro e w' ⟨rfl, ⟨nd, rfl⟩⟩
                refine ⟨_, rfl, ?_⟩
                refine hK.out _ _ ⟨(blk_cell BK191.out 0).trans rfl, (blk_cell BK191.out 1).trans rfl, (blk_cell BK200.out 0).trans rfl, (blk_cell BK200.out 1).trans rfl⟩ (fun hHeld => ?_)
                clear hK K
                refine norm_ (a' := ?_) ?_ ?_
                rotate_left
                · show Act.put _ (some 64) _ = _
                  act_put
                  rfl
                refine pure_ (i := 16) (N := some 65) (v := ?_) (a' := ?_) #[T1,T1,T1,T1,T1,T1,T1,T1,T1,T1,T1,T1,T1,T1,T1,T1,T1,F0,F0,F0,F0,F0,F0,F0,F0,F0,F0,F0] rfl rfl (any_of HT_.out (by kernel_rfl)) (fun _ _ _ h => h) (Or.inl ⟨by rfl, ?_⟩) ?_ ?_
                rotate_left
                · intro w'
                  go_simp
                  with_reducible rfl
                rotate_left
                · act_put
                  rfl
                refine pure_ (i := 17) (N := some 66) (v := ?_) (a' := ?_) #[T1,T1,T1,T1,T1,T1,T1,T1,T1,T1,T1,T1,T1,T1,T1,T1,T1,T1,F0,F0,F0,F0,F0,F0,F0,F0,F0,F0] rfl rfl (any_of HT_.out (by kernel_rfl)) (fun _ _ _ h => h) (Or.inl ⟨by rfl, ?_⟩) ?_ ?_
                rotate_left
                · intro w'
                  go_simp
                  with_reducible rfl
                rotate_left
                · act_put
                  rfl
                refine pure_ (i := 18) (N := some 67) (v := ?_) (a' := ?_) #[T1,T1,T1,T1,T1,T1,T1,T1,T1,T1,T1,T1,T1,T1,T1,T1,T1,T1,T1,F0,F0,F0,F0,F0,F0,F0,F0,F0] rfl rfl (any_of HT_.out (by kernel_rfl)) (fun _ _ _ h => h) (Or.inl ⟨by rfl, ?_⟩) ?_ ?_
                rotate_left
                · intro w'
                  go_simp
                  with_reducible rfl
                rotate_left
                · act_put
                  rfl
                refine pure_ (i := 20) (N := some 69) (v := ?_) (a' := ?_) #[T1,T1,T1,T1,T1,T1,T1,T1,T1,T1,T1,T1,T1,T1,T1,T1,T1,T1,T1,F0,T1,F0,F0,F0,F0,F0,F0,F0] rfl rfl (any_of HT_.out (by kernel_rfl)) (fun _ _ _ h => h) (Or.inl ⟨by rfl, ?_⟩) ?_ ?_
                rotate_left
                · intro w'
                  go_simp
                  with_reducible rfl
                rotate_left
                · act_put
                  rfl
                refine take_ (i := 21) (N := some 70) (v := ?_) (a' := ?_) #[T1,T1,T1,T1,T1,T1,T1,T1,T1,T1,T1,T1,T1,T1,T1,T1,T1,T1,T1,F0,T1,T1,F0,F0,F0,F0,F0,F0] rfl rfl (take_ofW HT_.out HW_.out (by kernel_rfl)) (fun _ _ _ h => h) (Or.inl ⟨by rfl, ?_⟩) hHeld ?_ ?_
                rotate_left
                · rintro w' ⟨s0, s1, s2, s3⟩
                  go_simp
                  with_reducible rfl
                rotate_left
                · act_put
                  rfl
                refine one_ (i := 19) (N := some 68) #[T1,T1,T1,T1,T1,T1,T1,T1,T1,T1,T1,T1,T1,T1,T1,T1,T1,T1,T1,T1,T1,T1,F0,F0,F0,F0,F0,F0] rfl rfl (one_of HT_.out (by kernel_rfl)) (by decide) (fun K hK => ?_)
                refine goes_ Try.func14 (by kernel_rfl) rfl #[.int .i64 t193] (by rfl) rfl rfl (by arg_done) ?_
                with_reducible refine (wringerlaw1_Err.calls t193 t203 _ A20.out).mono ?_
                rintro e w' ⟨rfl, ⟨nd, rfl⟩⟩
                refine ⟨_, rfl, ?_⟩
                refine hK.out _ _ ⟨(blk_cell BK191.out 0).trans rfl, (blk_cell BK191.out 1).trans rfl, (blk_cell BK200.out 0).trans rfl, (blk_cell BK200.out 1).trans rfl⟩ (fun hHeld => ?_)
                clear hK K
                refine norm_ (a' := ?_) ?_ ?_
                rotate_left
                · show Act.put _ (some 68) _ = _
                  act_put
                  rfl
                refine pure_ (i := 22) (N := some 71) (v := ?_) (a' := ?_) #[T1,T1,T1,T1,T1,T1,T1,T1,T1,T1,T1,T1,T1,T1,T1,T1,T1,T1,T1,T1,T1,T1,T1,F0,F0,F0,F0,F0] rfl rfl (any_of HT_.out (by kernel_rfl)) (fun _ _ _ h => h) (Or.inl ⟨by rfl, ?_⟩) ?_ ?_
                rotate_left
                · intro w'
                  go_simp
                  with_reducible rfl
                rotate_left
                · act_put
                  rfl
                refine pure_ (i := 23) (N := some 72) (v := ?_) (a' := ?_) #[T1,T1,T1,T1,T1,T1,T1,T1,T1,T1,T1,T1,T1,T1,T1,T1,T1,T1,T1,T1,T1,T1,T1,T1,F0,F0,F0,F0] rfl rfl (any_of HT_.out (by kernel_rfl)) (fun _ _ _ h => h) (Or.inl ⟨by rfl, ?_⟩) ?_ ?_
                rotate_left
                · intro w'
                  go_simp
                  with_reducible rfl
                rotate_left
                · act_put
                  rfl
                refine pure_ (i := 24) (N := some 73) (v := ?_) (a' := ?_) #[T1,T1,T1,T1,T1,T1,T1,T1,T1,T1,T1,T1,T1,T1,T1,T1,T1,T1,T1,T1,T1,T1,T1,T1,T1,F0,F0,F0] rfl rfl (any_of HT_.out (by kernel_rfl)) (fun _ _ _ h => h) (Or.inl ⟨by rfl, ?_⟩) ?_ ?_
                rotate_left
                · intro w'
                  go_simp
                  with_reducible rfl
                rotate_left
                · act_put
                  rfl
                refine pure_ (i := 25) (N := some 74) (v := undef) (a' := ?_) #[T1,T1,T1,T1,T1,T1,T1,T1,T1,T1,T1,T1,T1,T1,T1,T1,T1,T1,T1,T1,T1,T1,T1,T1,T1,T1,F0,F0] rfl rfl (any_of HT_.out (by kernel_rfl)) (fun _ _ _ h => h) (Or.inr ⟨by rfl, rfl⟩) ?_ ?_
                rotate_left
                · act_put
                  rfl
                refine pure_ (i := 26) (N := some 75) (v := ?_) (a' := ?_) #[T1,T1,T1,T1,T1,T1,T1,T1,T1,T1,T1,T1,T1,T1,T1,T1,T1,T1,T1,T1,T1,T1,T1,T1,T1,T1,T1,F0] rfl rfl (any_of HT_.out (by kernel_rfl)) (fun _ _ _ h => h) (Or.inl ⟨by rfl, ?_⟩) ?_ ?_
                rotate_left
                · intro w'
                  go_simp
                  with_reducible rfl
                rotate_left
                · act_put
                  rfl
                refine pure_ (i := 27) (N := some 8) (v := ?_) (a' := ?_) #[T1,T1,T1,T1,T1,T1,T1,T1,T1,T1,T1,T1,T1,T1,T1,T1,T1,T1,T1,T1,T1,T1,T1,T1,T1,T1,T1,T1] rfl rfl (any_of HT_.out (by kernel_rfl)) (fun _ _ _ h => h) (Or.inl ⟨by rfl, ?_⟩) ?_ ?_
                rotate_left
                · intro w'
                  go_simp
                  with_reducible rfl
                rotate_left
                · act_put
                  rfl
                refine done_ (done_of HT_.out (by kernel_rfl)) ?_
                try go_wp2
                go_ret
                exact ⟨by first | rfl | (simp [errW_none, errW_some] <;> rfl) | (simp [*, errW_none, errW_some] <;> rfl), by repeat (first | (with_reducible first | exact HB.out | apply below_alloc | apply pw_below_drewN | apply below_drew1 | refine below_set ?_ GE191.out | refine below_set ?_ GE200.out) | exact HB.out)⟩
            · replace c19 := Bool.eq_false_iff.mpr c19
              subst c19
              have H1 : (some false) = some r := by rw [if_neg (show ¬ (false = true) by decide)] at H; exact H
              clear H
              have H := H1
              clear H1
              obtain rfl := Option.some.inj H
              try go_wp2_with (first | ((with_reducible refine gate_callee (f := 10) rfl ?_); refine goesL_ (some 32) rfl rfl Try.func10 (by kernel_rfl) rfl #[.slice A0 l0.length c0, .slice A1 l1.length c1] rfl (by arg_done) ?_; (with_reducible refine (huff_Put.calls kj4 _ _ l0 _ _ l1 t187 t188 _ ?side1 ?side2 ?side3 ?side4 A11.out).mono ?_); (case side1 => repeat (first | exact (Kd.C_below HR0.out HB.out) | (with_reducible refine Kd.C_alloc ?_ _) | (with_reducible refine Kd.C_drewN ?_ _) | (with_reducible refine Kd.C_drew ?_))); (case side2 => exact HC0.out); (case side3 => repeat (first | exact (Kd.C_below HR1.out HB.out) | (with_reducible refine Kd.C_alloc ?_ _) | (with_reducible refine Kd.C_drewN ?_ _) | (with_reducible refine Kd.C_drew ?_))); (case side4 => exact HC1.out); rintro e w50 ⟨rfl, hb⟩; refine ⟨_, rfl, ?_⟩; have n0_ := Aside0.mk (below_step (by repeat (first | (with_reducible first | exact HB.out | apply below_alloc | apply pw_below_drewN | apply below_drew1) | exact HB.out)) hb); clear HB; have HB := n0_; clear n0_; (try clear hb); (try clear hb2); (try clear hk); (try clear hi)) | ((with_reducible refine gate_callee (f := 11) rfl ?_); refine goesL_ (some 37) rfl rfl Try.func11 (by kernel_rfl) rfl #[.slice A0 l0.length c0, .slice A1 l1.length c1] rfl (by arg_done) ?_; (with_reducible refine (wringerref7_PutHuff.calls _ _ l0 _ _ l1 t189 t190 _ ?side1 ?side2 ?side3 ?side4 A12.out).mono ?_); (case side1 => repeat (first | exact (Kd.C_below HR0.out HB.out) | (with_reducible refine Kd.C_alloc ?_ _) | (with_reducible refine Kd.C_drewN ?_ _) | (with_reducible refine Kd.C_drew ?_))); (case side2 => exact HC0.out); (case side3 => repeat (first | exact (Kd.C_below HR1.out HB.out) | (with_reducible refine Kd.C_alloc ?_ _) | (with_reducible refine Kd.C_drewN ?_ _) | (with_reducible refine Kd.C_drew ?_))); (case side4 => exact HC1.out); rintro e w51 ⟨rfl, hb⟩; refine ⟨_, rfl, ?_⟩; have n0_ := Aside0.mk (below_step (by repeat (first | (with_reducible first | exact HB.out | apply below_alloc | apply pw_below_drewN | apply below_drew1) | exact HB.out)) hb); clear HB; have HB := n0_; clear n0_; (try clear hb); (try clear hb2); (try clear hk); (try clear hi)) | ((with_reducible refine gate_dst (N := 11) rfl ?_); (try (refine gate_guard (by rfl) ?_; dsimp only)); refine box_event ?hg (N := 11) ?hd (cs := #[.string (⟨#[]⟩ : ByteArray), .int .i64 0]) (t := 29) ?hr ?_; (case hd => rfl); (case hg => rfl); (case hr => first | (go_simp; done) | (go_simp; rfl)); intro gb191 hg w52 hbox hb; have n0_ := Aside0.mk (below_step (by repeat (first | (with_reducible first | exact HB.out | apply below_alloc | apply pw_below_drewN | apply below_drew1) | exact HB.out)) hb); have n1_ := Aside0.mk (hbox); have n2_ := Aside0.mk ((by rw [hg]; exact (below_size (by repeat (first | (with_reducible first | exact HB.out | apply below_alloc | apply pw_below_drewN | apply below_drew1) | exact HB.out))) : w.heap.size ≤ gb191)); have n3_ := Aside0.mk ((by rw [hg]; exact (below_size (by repeat (first | (with_reducible first | exact HB.out | apply below_alloc | apply pw_below_drewN | apply below_drew1) | exact HB.out))) : w.heap.size ≤ gb191)); clear HB; have HB := n0_; have BK191 := n1_; have GW191 := n2_; have GE191 := n3_; clear n0_ n1_ n2_ n3_; clear hb hbox hg; have hcz53_0 : w52.cell? ⟨gb191, 0, none⟩ = some (.string (⟨#[]⟩ : ByteArray)) := (blk_cell BK191.out 0).trans rfl; have hcz53_1 : w52.cell? ⟨gb191, 1, none⟩ = some (.int .i64 0) := (blk_cell BK191.out 1).trans rfl; have hfz53_0 := blk_frozen BK191.out 0; have hfz53_1 := blk_frozen BK191.out 1) | ((with_reducible refine gate_callee (f := 12) rfl ?_); refine goesL_ (some 42) rfl rfl Try.func12 (by kernel_rfl) rfl #[.string a2, .int .i64 a3, .slice A1 l1.length c1] rfl (by arg_done) ?_; (with_reducible refine (huff_Get.calls a2 a3 _ _ l1 t192 t193 _ ?side1 ?side2 A13.out).mono ?_); (case side1 => exact Kd.C_below HR1.out (by repeat (first | (with_reducible first | exact HB.out | apply below_alloc | apply pw_below_drewN | apply below_drew1 | refine below_set ?_ GE191.out) | exact HB.out))); (case side2 => exact HC1.out); rintro e w54 ⟨v194, rfl, ho0, hb⟩; refine ⟨_, rfl, ?_⟩; have n0_ := Aside0.mk (Kd.R_lower ho0 (below_size (by repeat (first | (with_reducible first | exact HB.out | apply below_alloc | apply pw_below_drewN | apply below_drew1 | refine below_set ?_ GE191.out) | exact HB.out)))); have n1_ := Aside0.mk (blk_below (g := gb191) (o := .cells #[.string t189, .int .i64 t190] 29 (0, 0)) (by (with_reducible repeat (first | refine blk_drewN ?_ _ | refine blk_drew ?_ | refine blk_alloc ?_ _)); refine blk_put (cs := #[.string t189, .int .i64 0]) ?_ 1 _ rfl; (with_reducible repeat (first | refine blk_drewN ?_ _ | refine blk_drew ?_ | refine blk_alloc ?_ _)); refine blk_put (cs := #[.string (⟨#[]⟩ : ByteArray), .int .i64 0]) ?_ 0 _ rfl; (with_reducible repeat (first | refine blk_drewN ?_ _ | refine blk_drew ?_ | refine blk_alloc ?_ _)); exact BK191.out) hb); have n2_ := Aside0.mk (below_step (by repeat (first | (with_reducible first | exact HB.out | apply below_alloc | apply pw_below_drewN | apply below_drew1 | refine below_set ?_ GE191.out) | exact HB.out)) hb); clear BK191; clear HB; have HO195 := n0_; have BK191 := n1_; have HB := n2_; clear n0_ n1_ n2_; (try clear hb); (try clear hb2); (try clear hk); (try clear hi); (try clear ho0)) | ((with_reducible refine gate_callee (f := 13) rfl ?_); refine goesL_ (some 48) rfl rfl Try.func13 (by kernel_rfl) rfl #[.string a2, .int .i64 a3, .slice A1 l1.length c1] rfl (by arg_done) ?_; (with_reducible refine (wringerref7_GetHuff.calls kj4 a2 a3 _ _ l1 t196 t199 _ ?side1 ?side2 A14.out).mono ?_); (case side1 => repeat (first | exact (Kd.C_below HR1.out HB.out) | (with_reducible refine Kd.C_alloc ?_ _) | (with_reducible refine Kd.C_drewN ?_ _) | (with_reducible refine Kd.C_drew ?_))); (case side2 => exact HC1.out); rintro e w55 ⟨v197, rfl, ho0, hb⟩; refine ⟨_, rfl, ?_⟩; have n0_ := Aside0.mk (Kd.R_elder' (by (with_reducible repeat (first | apply Kd.R_alloc | apply Kd.R_drewN | apply Kd.R_drew)); exact HO195.out) (Kd.R_base ho0) hb); have n1_ := Aside0.mk (Kd.R_lower (Kd.R_new' ho0 (Kd.R_lt (by (with_reducible repeat (first | apply Kd.R_alloc | apply Kd.R_drewN | apply Kd.R_drew)); exact HO195.out))) (below_size (by repeat (first | (with_reducible first | exact HB.out | apply below_alloc | apply pw_below_drewN | apply below_drew1 | refine below_set ?_ GE191.out) | exact HB.out)))); have n2_ := Aside0.mk (blk_below (g := gb191) (o := .cells #[.string t189, .int .i64 t190] 29 (0, 0)) (by (with_reducible repeat (first | refine blk_drewN ?_ _ | refine blk_drew ?_ | refine blk_alloc ?_ _)); exact BK191.out) hb); have n3_ := Aside0.mk (below_step (by repeat (first | (with_reducible first | exact HB.out | apply below_alloc | apply pw_below_drewN | apply below_drew1 | refine below_set ?_ GE191.out) | exact HB.out)) hb); clear HO195; clear BK191; clear HB; have HO195 := n0_; have HO198 := n1_; have BK191 := n2_; have HB := n3_; clear n0_ n1_ n2_ n3_; (try clear hb); (try clear hb2); (try clear hk); (try clear hi); (try clear ho0)) | ((with_reducible refine gate_dst (N := 14) rfl ?_); (try (refine gate_guard (by rfl) ?_; dsimp only)); refine box_event ?hg (N := 14) ?hd (cs := #[.slice none 0 0, .int .i64 0]) (t := 34) ?hr ?_; (case hd => rfl); (case hg => rfl); (case hr => first | (go_simp; done) | (go_simp; rfl)); intro gb200 hg w56 hbox hb; have n0_ := Aside0.mk (Kd.R_below (by (with_reducible repeat (first | apply Kd.R_alloc | apply Kd.R_drewN | apply Kd.R_drew)); exact HO195.out) hb); have n1_ := Aside0.mk (Kd.R_below (by (with_reducible repeat (first | apply Kd.R_alloc | apply Kd.R_drewN | apply Kd.R_drew)); exact HO198.out) hb); have n2_ := Aside0.mk (blk_below (g := gb191) (o := .cells #[.string t189, .int .i64 t190] 29 (0, 0)) (by (with_reducible repeat (first | refine blk_drewN ?_ _ | refine blk_drew ?_ | refine blk_alloc ?_ _)); exact BK191.out) hb); have n3_ := Aside0.mk (below_step (by repeat (first | (with_reducible first | exact HB.out | apply below_alloc | apply pw_below_drewN | apply below_drew1 | refine below_set ?_ GE191.out) | exact HB.out)) hb); have n4_ := Aside0.mk (hbox); have n5_ := Aside0.mk ((by rw [hg]; exact (below_size (by repeat (first | (with_reducible first | exact HB.out | apply below_alloc | apply pw_below_drewN | apply below_drew1 | refine below_set ?_ GE191.out) | exact HB.out))) : w.heap.size ≤ gb200)); have n6_ := Aside0.mk ((by rw [hg]; exact (below_size (by repeat (first | (with_reducible first | exact HB.out | apply below_alloc | apply pw_below_drewN | apply below_drew1 | refine below_set ?_ GE191.out) | exact HB.out))) : w.heap.size ≤ gb200)); have n7_ := Aside0.mk ((by rw [hg]; exact Nat.ne_of_lt (blk_lt (g := gb191) (o := .cells #[.string t189, .int .i64 t190] 29 (0, 0)) (by (with_reducible repeat (first | refine blk_drewN ?_ _ | refine blk_drew ?_ | refine blk_alloc ?_ _)); exact BK191.out)) : gb191 ≠ gb200)); have n8_ := Aside0.mk ((by rw [hg]; exact Nat.ne_of_gt (blk_lt (g := gb191) (o := .cells #[.string t189, .int .i64 t190] 29 (0, 0)) (by (with_reducible repeat (first | refine blk_drewN ?_ _ | refine blk_drew ?_ | refine blk_alloc ?_ _)); exact BK191.out)) : gb200 ≠ gb191)); clear HO195; clear HO198; clear BK191; clear HB; have HO195 := n0_; have HO198 := n1_; have BK191 := n2_; have HB := n3_; have BK200 := n4_; have GW200 := n5_; have GE200 := n6_; have NB191_200 := n7_; have NB200_191 := n8_; clear n0_ n1_ n2_ n3_ n4_ n5_ n6_ n7_ n8_; clear hb hbox hg; obtain ⟨Ao57, co57, eo57⟩ := Kd.R_slice HO198.out; subst eo57; have hnb58 := NB200_191.out; have hnc58 := NB191_200.out; have hcz59_0 : w56.cell? ⟨gb200, 0, none⟩ = some (.slice none 0 0) := (blk_cell BK200.out 0).trans rfl; have hcz59_1 : w56.cell? ⟨gb200, 1, none⟩ = some (.int .i64 0) := (blk_cell BK200.out 1).trans rfl; have hfz59_0 := blk_frozen BK200.out 0; have hfz59_1 := blk_frozen BK200.out 1))
              have n0_ : Aside0 (Kd.R k54 54 ((w56.setCell ⟨gb200, 0, none⟩ (.slice Ao57 t196.length co57)).setCell ⟨gb200, 1, none⟩ (.int .i64 t199)) w.heap.size (fun k_ => some k_ ≠ (.slice Ao57 t196.length co57 : Value).ownBlock) v194 t192) := ⟨by (with_reducible repeat (first | apply Kd.R_alloc | apply Kd.R_drewN | apply Kd.R_drew)); exact Kd.R_mono (Kd.R_far (p := ⟨gb200, 1, none⟩) (Kd.R_far (p := ⟨gb200, 0, none⟩) (Kd.R_types HO195.out BK200.out (by decide)) (fun _ hk => hk.2) (.slice Ao57 t196.length co57)) (fun _ hk => hk.2) (.int .i64 t199)) (fun _ hk => hk.1.2)⟩
              have n1_ : Aside0 (Kd.R k54 54 ((w56.setCell ⟨gb200, 0, none⟩ (.slice Ao57 t196.length co57)).setCell ⟨gb200, 1, none⟩ (.int .i64 t199)) w.heap.size (fun k_ => some k_ ≠ (v194 : Value).ownBlock) (.slice Ao57 t196.length co57) t196) := ⟨by (with_reducible repeat (first | apply Kd.R_alloc | apply Kd.R_drewN | apply Kd.R_drew)); exact Kd.R_mono (Kd.R_far (p := ⟨gb200, 1, none⟩) (Kd.R_far (p := ⟨gb200, 0, none⟩) (Kd.R_types HO198.out BK200.out (by decide)) (fun _ hk => hk.2) (.slice Ao57 t196.length co57)) (fun _ hk => hk.2) (.int .i64 t199)) (fun _ hk => hk.1.2)⟩
              have n2_ : Aside0 (((w56.setCell ⟨gb200, 0, none⟩ (.slice Ao57 t196.length co57)).setCell ⟨gb200, 1, none⟩ (.int .i64 t199)).heap[gb191]? = some (.cells #[.string t189, .int .i64 t190] 29 (0, 0))) := ⟨by (with_reducible repeat (first | refine blk_drewN ?_ _ | refine blk_drew ?_ | refine blk_alloc ?_ _)); refine blk_far ?_ NB191_200.out _; (with_reducible repeat (first | refine blk_drewN ?_ _ | refine blk_drew ?_ | refine blk_alloc ?_ _)); refine blk_far ?_ NB191_200.out _; (with_reducible repeat (first | refine blk_drewN ?_ _ | refine blk_drew ?_ | refine blk_alloc ?_ _)); exact BK191.out⟩
              have n3_ : Aside0 (((w56.setCell ⟨gb200, 0, none⟩ (.slice Ao57 t196.length co57)).setCell ⟨gb200, 1, none⟩ (.int .i64 t199)).heap[gb200]? = some (.cells #[.slice Ao57 t196.length co57, .int .i64 t199] 34 (0, 0))) := ⟨by (with_reducible repeat (first | refine blk_drewN ?_ _ | refine blk_drew ?_ | refine blk_alloc ?_ _)); refine blk_put (cs := #[.slice Ao57 t196.length co57, .int .i64 0]) ?_ 1 _ rfl; (with_reducible repeat (first | refine blk_drewN ?_ _ | refine blk_drew ?_ | refine blk_alloc ?_ _)); refine blk_put (cs := #[.slice none 0 0, .int .i64 0]) ?_ 0 _ rfl; (with_reducible repeat (first | refine blk_drewN ?_ _ | refine blk_drew ?_ | refine blk_alloc ?_ _)); exact BK200.out⟩
              have n4_ : Aside0 (Below w.heap.size w ((w56.setCell ⟨gb200, 0, none⟩ (.slice Ao57 t196.length co57)).setCell ⟨gb200, 1, none⟩ (.int .i64 t199))) := ⟨by repeat (first | (with_reducible first | exact HB.out | apply below_alloc | apply pw_below_drewN | apply below_drew1 | refine below_set ?_ GE191.out | refine below_set ?_ GE200.out) | exact HB.out)⟩
              (try clear HO195)
              (try clear HO198)
              (try clear BK191)
              (try clear BK200)
              (try clear HB)
              generalize ((w56.setCell ⟨gb200, 0, none⟩ (.slice Ao57 t196.length co57)).setCell ⟨gb200, 1, none⟩ (.int .i64 t199)) = w60 at n0_ n1_ n2_ n3_ n4_ ⊢
              have HO195 := n0_
              have HO198 := n1_
              have BK191 := n2_
              have BK200 := n3_
              have HB := n4_
              clear n0_ n1_ n2_ n3_ n4_
              have n0_ := Aside0.mk (Kd.R_drew HO195.out)
              have n1_ := Aside0.mk (Kd.R_drew HO198.out)
              have n2_ := Aside0.mk (blk_drew BK191.out)
              have n3_ := Aside0.mk (blk_drew BK200.out)
              have n4_ := Aside0.mk (below_drew1 HB.out)
              clear HO195
              clear HO198
              clear BK191
              clear BK200
              clear HB
              have HO195 := n0_
              have HO198 := n1_
              have BK191 := n2_
              have BK200 := n3_
              have HB := n4_
              clear n0_ n1_ n2_ n3_ n4_
              refine start_ (n := 28) (S := fun w' => w'.cell? ⟨gb191, 0, none⟩ = some (.string t189) ∧ w'.cell? ⟨gb191, 1, none⟩ = some (.int .i64 t190) ∧ w'.cell? ⟨gb200, 0, none⟩ = some (.slice Ao57 t196.length co57) ∧ w'.cell? ⟨gb200, 1, none⟩ = some (.int .i64 t199)) (ds := []) #[F0,F0,F0,F0,F0,F0,F0,F0,F0,F0,F0,F0,F0,F0,F0,F0,F0,F0,F0,F0,F0,F0,F0,F0,F0,F0,F0,F0] (by kernel_rfl) rfl rfl ⟨(blk_cell BK191.out 0).trans rfl, (blk_cell BK191.out 1).trans rfl, (blk_cell BK200.out 0).trans rfl, (blk_cell BK200.out 1).trans rfl⟩ (fun hHeld => ?_); refine with_tabW wringerlaw11_HuffAll.tab7 wringerlaw11_HuffAll.bits7 (fun HT_ HW_ => ?_)
              generalize w60.drew = w61 at HO195 HO198 BK191 BK200 HB hHeld ⊢
              refine pure_ (i := 0) (N := some 49) (v := ?_) (a' := ?_) #[T1,F0,F0,F0,F0,F0,F0,F0,F0,F0,F0,F0,F0,F0,F0,F0,F0,F0,F0,F0,F0,F0,F0,F0,F0,F0,F0,F0] rfl rfl (any_of HT_.out (by kernel_rfl)) (fun _ _ _ h => h) (Or.inl ⟨by rfl, ?_⟩) ?_ ?_
              rotate_left
              · intro w'
                go_simp
                with_reducible rfl
              rotate_left
              · act_put
                rfl
              refine pure_ (i := 1) (N := some 50) (v := ?_) (a' := ?_) #[T1,T1,F0,F0,F0,F0,F0,F0,F0,F0,F0,F0,F0,F0,F0,F0,F0,F0,F0,F0,F0,F0,F0,F0,F0,F0,F0,F0] rfl rfl (any_of HT_.out (by kernel_rfl)) (fun _ _ _ h => h) (Or.inl ⟨by rfl, ?_⟩) ?_ ?_
              rotate_left
              · intro w'
                go_simp
                with_reducible rfl
              rotate_left
              · act_put
                rfl
              refine take_ (i := 2) (N := some 51) (v := ?_) (a' := ?_) #[T1,T1,T1,F0,F0,F0,F0,F0,F0,F0,F0,F0,F0,F0,F0,F0,F0,F0,F0,F0,F0,F0,F0,F0,F0,F0,F0,F0] rfl rfl (take_ofW HT_.out HW_.out (by kernel_rfl)) (fun _ _ _ h => h) (Or.inl ⟨by rfl, ?_⟩) hHeld ?_ ?_
              rotate_left
              · rintro w' ⟨s0, s1, s2, s3⟩
                go_simp
                with_reducible rfl
              rotate_left
              · act_put
                rfl
              refine pure_ (i := 3) (N := some 52) (v := ?_) (a' := ?_) #[T1,T1,T1,T1,F0,F0,F0,F0,F0,F0,F0,F0,F0,F0,F0,F0,F0,F0,F0,F0,F0,F0,F0,F0,F0,F0,F0,F0] rfl rfl (any_of HT_.out (by kernel_rfl)) (fun _ _ _ h => h) (Or.inl ⟨by rfl, ?_⟩) ?_ ?_
              rotate_left
              · intro w'
                go_simp
                with_reducible rfl
              rotate_left
              · act_put
                rfl
              refine pure_ (i := 4) (N := some 53) (v := ?_) (a' := ?_) #[T1,T1,T1,T1,T1,F0,F0,F0,F0,F0,F0,F0,F0,F0,F0,F0,F0,F0,F0,F0,F0,F0,F0,F0,F0,F0,F0,F0] rfl rfl (any_of HT_.out (by kernel_rfl)) (fun _ _ _ h => h) (Or.inl ⟨by rfl, ?_⟩) ?_ ?_
              rotate_left
              · intro w'
                go_simp
                with_reducible rfl
              rotate_left
              · act_put
                rfl
              refine pure_ (i := 5) (N := some 54) (v := ?_) (a' := ?_) #[T1,T1,T1,T1,T1,T1,F0,F0,F0,F0,F0,F0,F0,F0,F0,F0,F0,F0,F0,F0,F0,F0,F0,F0,F0,F0,F0,F0] rfl rfl (any_of HT_.out (by kernel_rfl)) (fun _ _ _ h => h) (Or.inl ⟨by rfl, ?_⟩) ?_ ?_
              rotate_left
              · intro w'
                go_simp
                with_reducible rfl
              rotate_left
              · act_put
                rfl
              refine pure_ (i := 7) (N := some 56) (v := ?_) (a' := ?_) #[T1,T1,T1,T1,T1,T1,F0,T1,F0,F0,F0,F0,F0,F0,F0,F0,F0,F0,F0,F0,F0,F0,F0,F0,F0,F0,F0,F0] rfl rfl (any_of HT_.out (by kernel_rfl)) (fun _ _ _ h => h) (Or.inl ⟨by rfl, ?_⟩) ?_ ?_
              rotate_left
              · intro w'
                go_simp
                with_reducible rfl
              rotate_left
              · act_put
                rfl
              refine take_ (i := 8) (N := some 57) (v := ?_) (a' := ?_) #[T1,T1,T1,T1,T1,T1,F0,T1,T1,F0,F0,F0,F0,F0,F0,F0,F0,F0,F0,F0,F0,F0,F0,F0,F0,F0,F0,F0] rfl rfl (take_ofW HT_.out HW_.out (by kernel_rfl)) (fun _ _ _ h => h) (Or.inl ⟨by rfl, ?_⟩) hHeld ?_ ?_
              rotate_left
              · rintro w' ⟨s0, s1, s2, s3⟩
                go_simp
                with_reducible rfl
              rotate_left
              · act_put
                rfl
              refine one_ (i := 6) (N := some 55) #[T1,T1,T1,T1,T1,T1,T1,T1,T1,F0,F0,F0,F0,F0,F0,F0,F0,F0,F0,F0,F0,F0,F0,F0,F0,F0,F0,F0] rfl rfl (one_of HT_.out (by kernel_rfl)) (by decide) (fun K hK => ?_)
              refine goes_ Try.func14 (by kernel_rfl) rfl #[.int .i64 t188] (by rfl) rfl rfl (by arg_done) ?_
              with_reducible refine (wringerlaw1_Err.calls t188 t201 _ A16.out).mono ?_
              rintro e w' ⟨rfl, ⟨nd, rfl⟩⟩
              refine ⟨_, rfl, ?_⟩
              obtain ⟨Ao62, co62, eo62⟩ := Kd.R_slice HO195.out
              (first | subst eo62 | (injection eo62 with f1_ f2_ f3_; have f4_ := f1_.symm; have f5_ := f3_.symm; clear f1_ f2_ f3_; subst f4_; subst f5_))
              refine hK.out _ _ ⟨(blk_cell BK191.out 0).trans rfl, (blk_cell BK191.out 1).trans rfl, (blk_cell BK200.out 0).trans rfl, (blk_cell BK200.out 1).trans rfl⟩ (fun hHeld => ?_)
              clear hK K
              refine norm_ (a' := ?_) ?_ ?_
              rotate_left
              · show Act.put _ (some 55) _ = _
                act_put
                rfl
              refine pure_ (i := 9) (N := some 58) (v := ?_) (a' := ?_) #[T1,T1,T1,T1,T1,T1,T1,T1,T1,T1,F0,F0,F0,F0,F0,F0,F0,F0,F0,F0,F0,F0,F0,F0,F0,F0,F0,F0] rfl rfl (any_of HT_.out (by kernel_rfl)) (fun _ _ _ h => h) (Or.inl ⟨by rfl, ?_⟩) ?_ ?_
              rotate_left
              · intro w'
                go_simp
                with_reducible rfl
              rotate_left
              · act_put
                rfl
              refine pure_ (i := 10) (N := some 59) (v := ?_) (a' := ?_) #[T1,T1,T1,T1,T1,T1,T1,T1,T1,T1,T1,F0,F0,F0,F0,F0,F0,F0,F0,F0,F0,F0,F0,F0,F0,F0,F0,F0] rfl rfl (any_of HT_.out (by kernel_rfl)) (fun _ _ _ h => h) (Or.inl ⟨by rfl, ?_⟩) ?_ ?_
              rotate_left
              · intro w'
                go_simp
                with_reducible rfl
              rotate_left
              · act_put
                rfl
              refine pure_ (i := 11) (N := some 60) (v := ?_) (a' := ?_) #[T1,T1,T1,T1,T1,T1,T1,T1,T1,T1,T1,T1,F0,F0,F0,F0,F0,F0,F0,F0,F0,F0,F0,F0,F0,F0,F0,F0] rfl rfl (any_of HT_.out (by kernel_rfl)) (fun _ _ _ h => h) (Or.inl ⟨by rfl, ?_⟩) ?_ ?_
              rotate_left
              · intro w'
                go_simp
                with_reducible rfl
              rotate_left
              · act_put
                rfl
              refine pure_ (i := 12) (N := some 61) (v := ?_) (a' := ?_) #[T1,T1,T1,T1,T1,T1,T1,T1,T1,T1,T1,T1,T1,F0,F0,F0,F0,F0,F0,F0,F0,F0,F0,F0,F0,F0,F0,F0] rfl rfl (any_of HT_.out (by kernel_rfl)) (fun _ _ _ h => h) (Or.inl ⟨by rfl, ?_⟩) ?_ ?_
              rotate_left
              · intro w'
                go_simp
                with_reducible rfl
              rotate_left
              · act_put
                rfl
              refine pure_ (i := 13) (N := some 62) (v := ?_) (a' := ?_) #[T1,T1,T1,T1,T1,T1,T1,T1,T1,T1,T1,T1,T1,T1,F0,F0,F0,F0,F0,F0,F0,F0,F0,F0,F0,F0,F0,F0] rfl rfl (any_of HT_.out (by kernel_rfl)) (fun _ _ _ h => h) (Or.inl ⟨by rfl, ?_⟩) ?_ ?_
              rotate_left
              · intro w'
                go_simp
                with_reducible rfl
              rotate_left
              · act_put
                rfl
              refine take_ (i := 14) (N := some 63) (v := ?_) (a' := ?_) #[T1,T1,T1,T1,T1,T1,T1,T1,T1,T1,T1,T1,T1,T1,T1,F0,F0,F0,F0,F0,F0,F0,F0,F0,F0,F0,F0,F0] rfl rfl (take_ofW HT_.out HW_.out (by kernel_rfl)) (fun _ _ _ h => h) (Or.inl ⟨by rfl, ?_⟩) hHeld ?_ ?_
              rotate_left
              · rintro w' ⟨s0, s1, s2, s3⟩
                go_simp
                with_reducible rfl
              rotate_left
              · act_put
                rfl
              refine one_ (i := 15) (N := some 64) #[T1,T1,T1,T1,T1,T1,T1,T1,T1,T1,T1,T1,T1,T1,T1,T1,F0,F0,F0,F0,F0,F0,F0,F0,F0,F0,F0,F0] rfl rfl (one_of HT_.out (by kernel_rfl)) (by decide) (fun K hK => ?_)
              refine goes_ Try.func15 (by kernel_rfl) rfl #[.slice Ao62 t192.length co62, .slice Ao57 t196.length co57] (by rfl) rfl rfl (by arg_done) ?_
              with_reducible refine (wringerref7_SameParts.calls kj4 _ _ t192 _ _ t196 false _ ?side1 ?side2 ?side3 ?side4 A18.out).mono ?_
              (case side1 => repeat (first | exact (Kd.R_reads' HO195.out).2.2 | (with_reducible refine Kd.C_alloc ?_ _) | (with_reducible refine Kd.C_drewN ?_ _) | (with_reducible refine Kd.C_drew ?_)))
              (case side2 => exact (Kd.R_reads' HO195.out).2.1)
              (case side3 => repeat (first | exact (Kd.R_reads' HO198.out).2.2 | (with_reducible refine Kd.C_alloc ?_ _) | (with_reducible refine Kd.C_drewN ?_ _) | (with_reducible refine Kd.C_drew ?_)))
              (case side4 => exact (Kd.R_reads' HO198.out).2.1)
              rintro e w' ⟨rfl, ⟨nd, rfl⟩⟩
              refine ⟨_, rfl, ?_⟩
              refine hK.out _ _ ⟨(blk_cell BK191.out 0).trans rfl, (blk_cell BK191.out 1).trans rfl, (blk_cell BK200.out 0).trans rfl, (blk_cell BK200.out 1).trans rfl⟩ (fun hHeld => ?_)
              clear hK K
              refine norm_ (a' := ?_) ?_ ?_
              rotate_left
              · show Act.put _ (some 64) _ = _
                act_put
                rfl
              refine pure_ (i := 16) (N := some 65) (v := ?_) (a' := ?_) #[T1,T1,T1,T1,T1,T1,T1,T1,T1,T1,T1,T1,T1,T1,T1,T1,T1,F0,F0,F0,F0,F0,F0,F0,F0,F0,F0,F0] rfl rfl (any_of HT_.out (by kernel_rfl)) (fun _ _ _ h => h) (Or.inl ⟨by rfl, ?_⟩) ?_ ?_
              rotate_left
              · intro w'
                go_simp
                with_reducible rfl
              rotate_left
              · act_put
                rfl
              refine pure_ (i := 17) (N := some 66) (v := ?_) (a' := ?_) #[T1,T1,T1,T1,T1,T1,T1,T1,T1,T1,T1,T1,T1,T1,T1,T1,T1,T1,F0,F0,F0,F0,F0,F0,F0,F0,F0,F0] rfl rfl (any_of HT_.out (by kernel_rfl)) (fun _ _ _ h => h) (Or.inl ⟨by rfl, ?_⟩) ?_ ?_
              rotate_left
              · intro w'
                go_simp
                with_reducible rfl
              rotate_left
              · act_put
                rfl
              refine pure_ (i := 18) (N := some 67) (v := undef) (a' := ?_) #[T1,T1,T1,T1,T1,T1,T1,T1,T1,T1,T1,T1,T1,T1,T1,T1,T1,T1,T1,F0,F0,F0,F0,F0,F0,F0,F0,F0] rfl rfl (any_of HT_.out (by kernel_rfl)) (fun _ _ _ h => h) (Or.inr ⟨by rfl, rfl⟩) ?_ ?_
              rotate_left
              · act_put
                rfl
              refine pure_ (i := 19) (N := some 68) (v := undef) (a' := ?_) #[T1,T1,T1,T1,T1,T1,T1,T1,T1,T1,T1,T1,T1,T1,T1,T1,T1,T1,T1,T1,F0,F0,F0,F0,F0,F0,F0,F0] rfl rfl (any_of HT_.out (by kernel_rfl)) (fun _ _ _ h => h) (Or.inr ⟨by rfl, rfl⟩) ?_ ?_
              rotate_left
              · act_put
                rfl
              refine pure_ (i := 20) (N := some 69) (v := undef) (a' := ?_) #[T1,T1,T1,T1,T1,T1,T1,T1,T1,T1,T1,T1,T1,T1,T1,T1,T1,T1,T1,T1,T1,F0,F0,F0,F0,F0,F0,F0] rfl rfl (any_of HT_.out (by kernel_rfl)) (fun _ _ _ h => h) (Or.inr ⟨by rfl, rfl⟩) ?_ ?_
              rotate_left
              · act_put
                rfl
              refine pure_ (i := 21) (N := some 70) (v := undef) (a' := ?_) #[T1,T1,T1,T1,T1,T1,T1,T1,T1,T1,T1,T1,T1,T1,T1,T1,T1,T1,T1,T1,T1,T1,F0,F0,F0,F0,F0,F0] rfl rfl (any_of HT_.out (by kernel_rfl)) (fun _ _ _ h => h) (Or.inr ⟨by rfl, rfl⟩) ?_ ?_
              rotate_left
              · act_put
                rfl
              refine pure_ (i := 22) (N := some 71) (v := undef) (a' := ?_) #[T1,T1,T1,T1,T1,T1,T1,T1,T1,T1,T1,T1,T1,T1,T1,T1,T1,T1,T1,T1,T1,T1,T1,F0,F0,F0,F0,F0] rfl rfl (any_of HT_.out (by kernel_rfl)) (fun _ _ _ h => h) (Or.inr ⟨by rfl, rfl⟩) ?_ ?_
              rotate_left
              · act_put
                rfl
              refine pure_ (i := 23) (N := some 72) (v := ?_) (a' := ?_) #[T1,T1,T1,T1,T1,T1,T1,T1,T1,T1,T1,T1,T1,T1,T1,T1,T1,T1,T1,T1,T1,T1,T1,T1,F0,F0,F0,F0] rfl rfl (any_of HT_.out (by kernel_rfl)) (fun _ _ _ h => h) (Or.inl ⟨by rfl, ?_⟩) ?_ ?_
              rotate_left
              · intro w'
                go_simp
                with_reducible rfl
              rotate_left
              · act_put
                rfl
              refine pure_ (i := 24) (N := some 73) (v := ?_) (a' := ?_) #[T1,T1,T1,T1,T1,T1,T1,T1,T1,T1,T1,T1,T1,T1,T1,T1,T1,T1,T1,T1,T1,T1,T1,T1,T1,F0,F0,F0] rfl rfl (any_of HT_.out (by kernel_rfl)) (fun _ _ _ h => h) (Or.inl ⟨by rfl, ?_⟩) ?_ ?_
              rotate_left
              · intro w'
                go_simp
                with_reducible rfl
              rotate_left
              · act_put
                rfl
              refine pure_ (i := 25) (N := some 74) (v := undef) (a' := ?_) #[T1,T1,T1,T1,T1,T1,T1,T1,T1,T1,T1,T1,T1,T1,T1,T1,T1,T1,T1,T1,T1,T1,T1,T1,T1,T1,F0,F0] rfl rfl (any_of HT_.out (by kernel_rfl)) (fun _ _ _ h => h) (Or.inr ⟨by rfl, rfl⟩) ?_ ?_
              rotate_left
              · act_put
                rfl
              refine pure_ (i := 26) (N := some 75) (v := ?_) (a' := ?_) #[T1,T1,T1,T1,T1,T1,T1,T1,T1,T1,T1,T1,T1,T1,T1,T1,T1,T1,T1,T1,T1,T1,T1,T1,T1,T1,T1,F0] rfl rfl (any_of HT_.out (by kernel_rfl)) (fun _ _ _ h => h) (Or.inl ⟨by rfl, ?_⟩) ?_ ?_
              rotate_left
              · intro w'
                go_simp
                with_reducible rfl
              rotate_left
              · act_put
                rfl
              refine pure_ (i := 27) (N := some 8) (v := ?_) (a' := ?_) #[T1,T1,T1,T1,T1,T1,T1,T1,T1,T1,T1,T1,T1,T1,T1,T1,T1,T1,T1,T1,T1,T1,T1,T1,T1,T1,T1,T1] rfl rfl (any_of HT_.out (by kernel_rfl)) (fun _ _ _ h => h) (Or.inl ⟨by rfl, ?_⟩) ?_ ?_
              rotate_left
              · intro w'
                go_simp
                with_reducible rfl
              rotate_left
              · act_put
                rfl
              refine done_ (done_of HT_.out (by kernel_rfl)) ?_
              try go_wp2
              go_ret
              exact ⟨by first | rfl | (simp [errW_none, errW_some] <;> rfl) | (simp [*, errW_none, errW_some] <;> rfl), by repeat (first | (with_reducible first | exact HB.out | apply below_alloc | apply pw_below_drewN | apply below_drew1 | refine below_set ?_ GE191.out | refine below_set ?_ GE200.out) | exact HB.out)⟩
          · rw [if_neg c17] at H
            have c17b0 : (t201 == t190) = false := beq_eq_false_iff_ne.mpr c17
            have c17b1 : (t201 != t190) = true := bne_iff_ne.mpr c17
            obtain rfl := Option.some.inj H
            try go_wp2_with (first | ((with_reducible refine gate_callee (f := 10) rfl ?_); refine goesL_ (some 32) rfl rfl Try.func10 (by kernel_rfl) rfl #[.slice A0 l0.length c0, .slice A1 l1.length c1] rfl (by arg_done) ?_; (with_reducible refine (huff_Put.calls kj4 _ _ l0 _ _ l1 t187 t188 _ ?side1 ?side2 ?side3 ?side4 A11.out).mono ?_); (case side1 => repeat (first | exact (Kd.C_below HR0.out HB.out) | (with_reducible refine Kd.C_alloc ?_ _) | (with_reducible refine Kd.C_drewN ?_ _) | (with_reducible refine Kd.C_drew ?_))); (case side2 => exact HC0.out); (case side3 => repeat (first | exact (Kd.C_below HR1.out HB.out) | (with_reducible refine Kd.C_alloc ?_ _) | (with_reducible refine Kd.C_drewN ?_ _) | (with_reducible refine Kd.C_drew ?_))); (case side4 => exact HC1.out); rintro e w63 ⟨rfl, hb⟩; refine ⟨_, rfl, ?_⟩; have n0_ := Aside0.mk (below_step (by repeat (first | (with_reducible first | exact HB.out | apply below_alloc | apply pw_below_drewN | apply below_drew1) | exact HB.out)) hb); clear HB; have HB := n0_; clear n0_; (try clear hb); (try clear hb2); (try clear hk); (try clear hi)) | ((with_reducible refine gate_callee (f := 11) rfl ?_); refine goesL_ (some 37) rfl rfl Try.func11 (by kernel_rfl) rfl #[.slice A0 l0.length c0, .slice A1 l1.length c1] rfl (by arg_done) ?_; (with_reducible refine (wringerref7_PutHuff.calls _ _ l0 _ _ l1 t189 t190 _ ?side1 ?side2 ?side3 ?side4 A12.out).mono ?_); (case side1 => repeat (first | exact (Kd.C_below HR0.out HB.out) | (with_reducible refine Kd.C_alloc ?_ _) | (with_reducible refine Kd.C_drewN ?_ _) | (with_reducible refine Kd.C_drew ?_))); (case side2 => exact HC0.out); (case side3 => repeat (first | exact (Kd.C_below HR1.out HB.out) | (with_reducible refine Kd.C_alloc ?_ _) | (with_reducible refine Kd.C_drewN ?_ _) | (with_reducible refine Kd.C_drew ?_))); (case side4 => exact HC1.out); rintro e w64 ⟨rfl, hb⟩; refine ⟨_, rfl, ?_⟩; have n0_ := Aside0.mk (below_step (by repeat (first | (with_reducible first | exact HB.out | apply below_alloc | apply pw_below_drewN | apply below_drew1) | exact HB.out)) hb); clear HB; have HB := n0_; clear n0_; (try clear hb); (try clear hb2); (try clear hk); (try clear hi)) | ((with_reducible refine gate_dst (N := 11) rfl ?_); (try (refine gate_guard (by rfl) ?_; dsimp only)); refine box_event ?hg (N := 11) ?hd (cs := #[.string (⟨#[]⟩ : ByteArray), .int .i64 0]) (t := 29) ?hr ?_; (case hd => rfl); (case hg => rfl); (case hr => first | (go_simp; done) | (go_simp; rfl)); intro gb191 hg w65 hbox hb; have n0_ := Aside0.mk (below_step (by repeat (first | (with_reducible first | exact HB.out | apply below_alloc | apply pw_below_drewN | apply below_drew1) | exact HB.out)) hb); have n1_ := Aside0.mk (hbox); have n2_ := Aside0.mk ((by rw [hg]; exact (below_size (by repeat (first | (with_reducible first | exact HB.out | apply below_alloc | apply pw_below_drewN | apply below_drew1) | exact HB.out))) : w.heap.size ≤ gb191)); have n3_ := Aside0.mk ((by rw [hg]; exact (below_size (by repeat (first | (with_reducible first | exact HB.out | apply below_alloc | apply pw_below_drewN | apply below_drew1) | exact HB.out))) : w.heap.size ≤ gb191)); clear HB; have HB := n0_; have BK191 := n1_; have GW191 := n2_; have GE191 := n3_; clear n0_ n1_ n2_ n3_; clear hb hbox hg; have hcz66_0 : w65.cell? ⟨gb191, 0, none⟩ = some (.string (⟨#[]⟩ : ByteArray)) := (blk_cell BK191.out 0).trans rfl; have hcz66_1 : w65.cell? ⟨gb191, 1, none⟩ = some (.int .i64 0) := (blk_cell BK191.out 1).trans rfl; have hfz66_0 := blk_frozen BK191.out 0; have hfz66_1 := blk_frozen BK191.out 1) | ((with_reducible refine gate_callee (f := 12) rfl ?_); refine goesL_ (some 42) rfl rfl Try.func12 (by kernel_rfl) rfl #[.string a2, .int .i64 a3, .slice A1 l1.length c1] rfl (by arg_done) ?_; (with_reducible refine (huff_Get.calls a2 a3 _ _ l1 t192 t193 _ ?side1 ?side2 A13.out).mono ?_); (case side1 => exact Kd.C_below HR1.out (by repeat (first | (with_reducible first | exact HB.out | apply below_alloc | apply pw_below_drewN | apply below_drew1 | refine below_set ?_ GE191.out) | exact HB.out))); (case side2 => exact HC1.out); rintro e w67 ⟨v194, rfl, ho0, hb⟩; refine ⟨_, rfl, ?_⟩; have n0_ := Aside0.mk (Kd.R_lower ho0 (below_size (by repeat (first | (with_reducible first | exact HB.out | apply below_alloc | apply pw_below_drewN | apply below_drew1 | refine below_set ?_ GE191.out) | exact HB.out)))); have n1_ := Aside0.mk (blk_below (g := gb191) (o := .cells #[.string t189, .int .i64 t190] 29 (0, 0)) (by (with_reducible repeat (first | refine blk_drewN ?_ _ | refine blk_drew ?_ | refine blk_alloc ?_ _)); refine blk_put (cs := #[.string t189, .int .i64 0]) ?_ 1 _ rfl; (with_reducible repeat (first | refine blk_drewN ?_ _ | refine blk_drew ?_ | refine blk_alloc ?_ _)); refine blk_put (cs := #[.string (⟨#[]⟩ : ByteArray), .int .i64 0]) ?_ 0 _ rfl; (with_reducible repeat (first | refine blk_drewN ?_ _ | refine blk_drew ?_ | refine blk_alloc ?_ _)); exact BK191.out) hb); have n2_ := Aside0.mk (below_step (by repeat (first | (with_reducible first | exact HB.out | apply below_alloc | apply pw_below_drewN | apply below_drew1 | refine below_set ?_ GE191.out) | exact HB.out)) hb); clear BK191; clear HB; have HO195 := n0_; have BK191 := n1_; have HB := n2_; clear n0_ n1_ n2_; (try clear hb); (try clear hb2); (try clear hk); (try clear hi); (try clear ho0)) | ((with_reducible refine gate_callee (f := 13) rfl ?_); refine goesL_ (some 48) rfl rfl Try.func13 (by kernel_rfl) rfl #[.string a2, .int .i64 a3, .slice A1 l1.length c1] rfl (by arg_done) ?_; (with_reducible refine (wringerref7_GetHuff.calls kj4 a2 a3 _ _ l1 t196 t199 _ ?side1 ?side2 A14.out).mono ?_); (case side1 => repeat (first | exact (Kd.C_below HR1.out HB.out) | (with_reducible refine Kd.C_alloc ?_ _) | (with_reducible refine Kd.C_drewN ?_ _) | (with_reducible refine Kd.C_drew ?_))); (case side2 => exact HC1.out); rintro e w68 ⟨v197, rfl, ho0, hb⟩; refine ⟨_, rfl, ?_⟩; have n0_ := Aside0.mk (Kd.R_elder' (by (with_reducible repeat (first | apply Kd.R_alloc | apply Kd.R_drewN | apply Kd.R_drew)); exact HO195.out) (Kd.R_base ho0) hb); have n1_ := Aside0.mk (Kd.R_lower (Kd.R_new' ho0 (Kd.R_lt (by (with_reducible repeat (first | apply Kd.R_alloc | apply Kd.R_drewN | apply Kd.R_drew)); exact HO195.out))) (below_size (by repeat (first | (with_reducible first | exact HB.out | apply below_alloc | apply pw_below_drewN | apply below_drew1 | refine below_set ?_ GE191.out) | exact HB.out)))); have n2_ := Aside0.mk (blk_below (g := gb191) (o := .cells #[.string t189, .int .i64 t190] 29 (0, 0)) (by (with_reducible repeat (first | refine blk_drewN ?_ _ | refine blk_drew ?_ | refine blk_alloc ?_ _)); exact BK191.out) hb); have n3_ := Aside0.mk (below_step (by repeat (first | (with_reducible first | exact HB.out | apply below_alloc | apply pw_below_drewN | apply below_drew1 | refine below_set ?_ GE191.out) | exact HB.out)) hb); clear HO195; clear BK191; clear HB; have HO195 := n0_; have HO198 := n1_; have BK191 := n2_; have HB := n3_; clear n0_ n1_ n2_ n3_; (try clear hb); (try clear hb2); (try clear hk); (try clear hi); (try clear ho0)) | ((with_reducible refine gate_dst (N := 14) rfl ?_); (try (refine gate_guard (by rfl) ?_; dsimp only)); refine box_event ?hg (N := 14) ?hd (cs := #[.slice none 0 0, .int .i64 0]) (t := 34) ?hr ?_; (case hd => rfl); (case hg => rfl); (case hr => first | (go_simp; done) | (go_simp; rfl)); intro gb200 hg w69 hbox hb; have n0_ := Aside0.mk (Kd.R_below (by (with_reducible repeat (first | apply Kd.R_alloc | apply Kd.R_drewN | apply Kd.R_drew)); exact HO195.out) hb); have n1_ := Aside0.mk (Kd.R_below (by (with_reducible repeat (first | apply Kd.R_alloc | apply Kd.R_drewN | apply Kd.R_drew)); exact HO198.out) hb); have n2_ := Aside0.mk (blk_below (g := gb191) (o := .cells #[.string t189, .int .i64 t190] 29 (0, 0)) (by (with_reducible repeat (first | refine blk_drewN ?_ _ | refine blk_drew ?_ | refine blk_alloc ?_ _)); exact BK191.out) hb); have n3_ := Aside0.mk (below_step (by repeat (first | (with_reducible first | exact HB.out | apply below_alloc | apply pw_below_drewN | apply below_drew1 | refine below_set ?_ GE191.out) | exact HB.out)) hb); have n4_ := Aside0.mk (hbox); have n5_ := Aside0.mk ((by rw [hg]; exact (below_size (by repeat (first | (with_reducible first | exact HB.out | apply below_alloc | apply pw_below_drewN | apply below_drew1 | refine below_set ?_ GE191.out) | exact HB.out))) : w.heap.size ≤ gb200)); have n6_ := Aside0.mk ((by rw [hg]; exact (below_size (by repeat (first | (with_reducible first | exact HB.out | apply below_alloc | apply pw_below_drewN | apply below_drew1 | refine below_set ?_ GE191.out) | exact HB.out))) : w.heap.size ≤ gb200)); have n7_ := Aside0.mk ((by rw [hg]; exact Nat.ne_of_lt (blk_lt (g := gb191) (o := .cells #[.string t189, .int .i64 t190] 29 (0, 0)) (by (with_reducible repeat (first | refine blk_drewN ?_ _ | refine blk_drew ?_ | refine blk_alloc ?_ _)); exact BK191.out)) : gb191 ≠ gb200)); have n8_ := Aside0.mk ((by rw [hg]; exact Nat.ne_of_gt (blk_lt (g := gb191) (o := .cells #[.string t189, .int .i64 t190] 29 (0, 0)) (by (with_reducible repeat (first | refine blk_drewN ?_ _ | refine blk_drew ?_ | refine blk_alloc ?_ _)); exact BK191.out)) : gb200 ≠ gb191)); clear HO195; clear HO198; clear BK191; clear HB; have HO195 := n0_; have HO198 := n1_; have BK191 := n2_; have HB := n3_; have BK200 := n4_; have GW200 := n5_; have GE200 := n6_; have NB191_200 := n7_; have NB200_191 := n8_; clear n0_ n1_ n2_ n3_ n4_ n5_ n6_ n7_ n8_; clear hb hbox hg; obtain ⟨Ao70, co70, eo70⟩ := Kd.R_slice HO198.out; subst eo70; have hnb71 := NB200_191.out; have hnc71 := NB191_200.out; have hcz72_0 : w69.cell? ⟨gb200, 0, none⟩ = some (.slice none 0 0) := (blk_cell BK200.out 0).trans rfl; have hcz72_1 : w69.cell? ⟨gb200, 1, none⟩ = some (.int .i64 0) := (blk_cell BK200.out 1).trans rfl; have hfz72_0 := blk_frozen BK200.out 0; have hfz72_1 := blk_frozen BK200.out 1))
            have n0_ : Aside0 (Kd.R k54 54 ((w69.setCell ⟨gb200, 0, none⟩ (.slice Ao70 t196.length co70)).setCell ⟨gb200, 1, none⟩ (.int .i64 t199)) w.heap.size (fun k_ => some k_ ≠ (.slice Ao70 t196.length co70 : Value).ownBlock) v194 t192) := ⟨by (with_reducible repeat (first | apply Kd.R_alloc | apply Kd.R_drewN | apply Kd.R_drew)); exact Kd.R_mono (Kd.R_far (p := ⟨gb200, 1, none⟩) (Kd.R_far (p := ⟨gb200, 0, none⟩) (Kd.R_types HO195.out BK200.out (by decide)) (fun _ hk => hk.2) (.slice Ao70 t196.length co70)) (fun _ hk => hk.2) (.int .i64 t199)) (fun _ hk => hk.1.2)⟩
            have n1_ : Aside0 (Kd.R k54 54 ((w69.setCell ⟨gb200, 0, none⟩ (.slice Ao70 t196.length co70)).setCell ⟨gb200, 1, none⟩ (.int .i64 t199)) w.heap.size (fun k_ => some k_ ≠ (v194 : Value).ownBlock) (.slice Ao70 t196.length co70) t196) := ⟨by (with_reducible repeat (first | apply Kd.R_alloc | apply Kd.R_drewN | apply Kd.R_drew)); exact Kd.R_mono (Kd.R_far (p := ⟨gb200, 1, none⟩) (Kd.R_far (p := ⟨gb200, 0, none⟩) (Kd.R_types HO198.out BK200.out (by decide)) (fun _ hk => hk.2) (.slice Ao70 t196.length co70)) (fun _ hk => hk.2) (.int .i64 t199)) (fun _ hk => hk.1.2)⟩
            have n2_ : Aside0 (((w69.setCell ⟨gb200, 0, none⟩ (.slice Ao70 t196.length co70)).setCell ⟨gb200, 1, none⟩ (.int .i64 t199)).heap[gb191]? = some (.cells #[.string t189, .int .i64 t190] 29 (0, 0))) := ⟨by (with_reducible repeat (first | refine blk_drewN ?_ _ | refine blk_drew ?_ | refine blk_alloc ?_ _)); refine blk_far ?_ NB191_200.out _; (with_reducible repeat (first | refine blk_drewN ?_ _ | refine blk_drew ?_ | refine blk_alloc ?_ _)); refine blk_far ?_ NB191_200.out _; (with_reducible repeat (first | refine blk_drewN ?_ _ | refine blk_drew ?_ | refine blk_alloc ?_ _)); exact BK191.out⟩
            have n3_ : Aside0 (((w69.setCell ⟨gb200, 0, none⟩ (.slice Ao70 t196.length co70)).setCell ⟨gb200, 1, none⟩ (.int .i64 t199)).heap[gb200]? = some (.cells #[.slice Ao70 t196.length co70, .int .i64 t199] 34 (0, 0))) := ⟨by (with_reducible repeat (first | refine blk_drewN ?_ _ | refine blk_drew ?_ | refine blk_alloc ?_ _)); refine blk_put (cs := #[.slice Ao70 t196.length co70, .int .i64 0]) ?_ 1 _ rfl; (with_reducible repeat (first | refine blk_drewN ?_ _ | refine blk_drew ?_ | refine blk_alloc ?_ _)); refine blk_put (cs := #[.slice none 0 0, .int .i64 0]) ?_ 0 _ rfl; (with_reducible repeat (first | refine blk_drewN ?_ _ | refine blk_drew ?_ | refine blk_alloc ?_ _)); exact BK200.out⟩
            have n4_ : Aside0 (Below w.heap.size w ((w69.setCell ⟨gb200, 0, none⟩ (.slice Ao70 t196.length co70)).setCell ⟨gb200, 1, none⟩ (.int .i64 t199))) := ⟨by repeat (first | (with_reducible first | exact HB.out | apply below_alloc | apply pw_below_drewN | apply below_drew1 | refine below_set ?_ GE191.out | refine below_set ?_ GE200.out) | exact HB.out)⟩
            (try clear HO195)
            (try clear HO198)
            (try clear BK191)
            (try clear BK200)
            (try clear HB)
            generalize ((w69.setCell ⟨gb200, 0, none⟩ (.slice Ao70 t196.length co70)).setCell ⟨gb200, 1, none⟩ (.int .i64 t199)) = w73 at n0_ n1_ n2_ n3_ n4_ ⊢
            have HO195 := n0_
            have HO198 := n1_
            have BK191 := n2_
            have BK200 := n3_
            have HB := n4_
            clear n0_ n1_ n2_ n3_ n4_
            have n0_ := Aside0.mk (Kd.R_drew HO195.out)
            have n1_ := Aside0.mk (Kd.R_drew HO198.out)
            have n2_ := Aside0.mk (blk_drew BK191.out)
            have n3_ := Aside0.mk (blk_drew BK200.out)
            have n4_ := Aside0.mk (below_drew1 HB.out)
            clear HO195
            clear HO198
            clear BK191
            clear BK200
            clear HB
            have HO195 := n0_
            have HO198 := n1_
            have BK191 := n2_
            have BK200 := n3_
            have HB := n4_
            clear n0_ n1_ n2_ n3_ n4_
            refine start_ (n := 28) (S := fun w' => w'.cell? ⟨gb191, 0, none⟩ = some (.string t189) ∧ w'.cell? ⟨gb191, 1, none⟩ = some (.int .i64 t190)) (ds := []) #[F0,F0,F0,F0,F0,F0,F0,F0,F0,F0,F0,F0,F0,F0,F0,F0,F0,F0,F0,F0,F0,F0,F0,F0,F0,F0,F0,F0] (by kernel_rfl) rfl rfl ⟨(blk_cell BK191.out 0).trans rfl, (blk_cell BK191.out 1).trans rfl⟩ (fun hHeld => ?_); refine with_tabW wringerlaw11_HuffAll.tab7 wringerlaw11_HuffAll.bits7 (fun HT_ HW_ => ?_)
            generalize w73.drew = w74 at HO195 HO198 BK191 BK200 HB hHeld ⊢
            refine pure_ (i := 0) (N := some 49) (v := ?_) (a' := ?_) #[T1,F0,F0,F0,F0,F0,F0,F0,F0,F0,F0,F0,F0,F0,F0,F0,F0,F0,F0,F0,F0,F0,F0,F0,F0,F0,F0,F0] rfl rfl (any_of HT_.out (by kernel_rfl)) (fun _ _ _ h => h) (Or.inl ⟨by rfl, ?_⟩) ?_ ?_
            rotate_left
            · intro w'
              go_simp
              with_reducible rfl
            rotate_left
            · act_put
              rfl
            refine pure_ (i := 1) (N := some 50) (v := ?_) (a' := ?_) #[T1,T1,F0,F0,F0,F0,F0,F0,F0,F0,F0,F0,F0,F0,F0,F0,F0,F0,F0,F0,F0,F0,F0,F0,F0,F0,F0,F0] rfl rfl (any_of HT_.out (by kernel_rfl)) (fun _ _ _ h => h) (Or.inl ⟨by rfl, ?_⟩) ?_ ?_
            rotate_left
            · intro w'
              go_simp
              with_reducible rfl
            rotate_left
            · act_put
              rfl
            refine take_ (i := 2) (N := some 51) (v := ?_) (a' := ?_) #[T1,T1,T1,F0,F0,F0,F0,F0,F0,F0,F0,F0,F0,F0,F0,F0,F0,F0,F0,F0,F0,F0,F0,F0,F0,F0,F0,F0] rfl rfl (take_ofW HT_.out HW_.out (by kernel_rfl)) (fun _ _ _ h => h) (Or.inl ⟨by rfl, ?_⟩) hHeld ?_ ?_
            rotate_left
            · rintro w' ⟨s0, s1⟩
              go_simp
              with_reducible rfl
            rotate_left
            · act_put
              rfl
            refine pure_ (i := 3) (N := some 52) (v := ?_) (a' := ?_) #[T1,T1,T1,T1,F0,F0,F0,F0,F0,F0,F0,F0,F0,F0,F0,F0,F0,F0,F0,F0,F0,F0,F0,F0,F0,F0,F0,F0] rfl rfl (any_of HT_.out (by kernel_rfl)) (fun _ _ _ h => h) (Or.inl ⟨by rfl, ?_⟩) ?_ ?_
            rotate_left
            · intro w'
              go_simp
              with_reducible rfl
            rotate_left
            · act_put
              rfl
            refine pure_ (i := 4) (N := some 53) (v := ?_) (a' := ?_) #[T1,T1,T1,T1,T1,F0,F0,F0,F0,F0,F0,F0,F0,F0,F0,F0,F0,F0,F0,F0,F0,F0,F0,F0,F0,F0,F0,F0] rfl rfl (any_of HT_.out (by kernel_rfl)) (fun _ _ _ h => h) (Or.inl ⟨by rfl, ?_⟩) ?_ ?_
            rotate_left
            · intro w'
              go_simp
              with_reducible rfl
            rotate_left
            · act_put
              rfl
            refine pure_ (i := 5) (N := some 54) (v := ?_) (a' := ?_) #[T1,T1,T1,T1,T1,T1,F0,F0,F0,F0,F0,F0,F0,F0,F0,F0,F0,F0,F0,F0,F0,F0,F0,F0,F0,F0,F0,F0] rfl rfl (any_of HT_.out (by kernel_rfl)) (fun _ _ _ h => h) (Or.inl ⟨by rfl, ?_⟩) ?_ ?_
            rotate_left
            · intro w'
              go_simp
              with_reducible rfl
            rotate_left
            · act_put
              rfl
            refine pure_ (i := 7) (N := some 56) (v := ?_) (a' := ?_) #[T1,T1,T1,T1,T1,T1,F0,T1,F0,F0,F0,F0,F0,F0,F0,F0,F0,F0,F0,F0,F0,F0,F0,F0,F0,F0,F0,F0] rfl rfl (any_of HT_.out (by kernel_rfl)) (fun _ _ _ h => h) (Or.inl ⟨by rfl, ?_⟩) ?_ ?_
            rotate_left
            · intro w'
              go_simp
              with_reducible rfl
            rotate_left
            · act_put
              rfl
            refine take_ (i := 8) (N := some 57) (v := ?_) (a' := ?_) #[T1,T1,T1,T1,T1,T1,F0,T1,T1,F0,F0,F0,F0,F0,F0,F0,F0,F0,F0,F0,F0,F0,F0,F0,F0,F0,F0,F0] rfl rfl (take_ofW HT_.out HW_.out (by kernel_rfl)) (fun _ _ _ h => h) (Or.inl ⟨by rfl, ?_⟩) hHeld ?_ ?_
            rotate_left
            · rintro w' ⟨s0, s1⟩
              go_simp
              with_reducible rfl
            rotate_left
            · act_put
              rfl
            refine one_ (i := 6) (N := some 55) #[T1,T1,T1,T1,T1,T1,T1,T1,T1,F0,F0,F0,F0,F0,F0,F0,F0,F0,F0,F0,F0,F0,F0,F0,F0,F0,F0,F0] rfl rfl (one_of HT_.out (by kernel_rfl)) (by decide) (fun K hK => ?_)
            refine goes_ Try.func14 (by kernel_rfl) rfl #[.int .i64 t188] (by rfl) rfl rfl (by arg_done) ?_
            with_reducible refine (wringerlaw1_Err.calls t188 t201 _ A16.out).mono ?_
            rintro e w' ⟨rfl, ⟨nd, rfl⟩⟩
            refine ⟨_, rfl, ?_⟩
            refine hK.out _ _ ⟨(blk_cell BK191.out 0).trans rfl, (blk_cell BK191.out 1).trans rfl⟩ (fun hHeld => ?_)
            clear hK K
            refine norm_ (a' := ?_) ?_ ?_
            rotate_left
            · show Act.put _ (some 55) _ = _
              act_put
              rfl
            refine pure_ (i := 9) (N := some 58) (v := ?_) (a' := ?_) #[T1,T1,T1,T1,T1,T1,T1,T1,T1,T1,F0,F0,F0,F0,F0,F0,F0,F0,F0,F0,F0,F0,F0,F0,F0,F0,F0,F0] rfl rfl (any_of HT_.out (by kernel_rfl)) (fun _ _ _ h => h) (Or.inl ⟨by rfl, ?_⟩) ?_ ?_
            rotate_left
            · intro w'
              go_simp
              with_reducible rfl
            rotate_left
            · act_put
              rfl
            refine pure_ (i := 10) (N := some 59) (v := ?_) (a' := ?_) #[T1,T1,T1,T1,T1,T1,T1,T1,T1,T1,T1,F0,F0,F0,F0,F0,F0,F0,F0,F0,F0,F0,F0,F0,F0,F0,F0,F0] rfl rfl (any_of HT_.out (by kernel_rfl)) (fun _ _ _ h => h) (Or.inl ⟨by rfl, ?_⟩) ?_ ?_
            rotate_left
            · intro w'
              go_simp
              with_reducible rfl
            rotate_left
            · act_put
              rfl
            refine pure_ (i := 11) (N := some 60) (v := ?_) (a' := ?_) #[T1,T1,T1,T1,T1,T1,T1,T1,T1,T1,T1,T1,F0,F0,F0,F0,F0,F0,F0,F0,F0,F0,F0,F0,F0,F0,F0,F0] rfl rfl (any_of HT_.out (by kernel_rfl)) (fun _ _ _ h => h) (Or.inl ⟨by rfl, ?_⟩) ?_ ?_
            rotate_left
            · intro w'
              go_simp
              with_reducible rfl
            rotate_left
            · act_put
              rfl
            refine pure_ (i := 12) (N := some 61) (v := undef) (a' := ?_) #[T1,T1,T1,T1,T1,T1,T1,T1,T1,T1,T1,T1,T1,F0,F0,F0,F0,F0,F0,F0,F0,F0,F0,F0,F0,F0,F0,F0] rfl rfl (any_of HT_.out (by kernel_rfl)) (fun _ _ _ h => h) (Or.inr ⟨by rfl, rfl⟩) ?_ ?_
            rotate_left
            · act_put
              rfl
            refine pure_ (i := 13) (N := some 62) (v := undef) (a' := ?_) #[T1,T1,T1,T1,T1,T1,T1,T1,T1,T1,T1,T1,T1,T1,F0,F0,F0,F0,F0,F0,F0,F0,F0,F0,F0,F0,F0,F0] rfl rfl (any_of HT_.out (by kernel_rfl)) (fun _ _ _ h => h) (Or.inr ⟨by rfl, rfl⟩) ?_ ?_
            rotate_left
            · act_put
              rfl
            refine pure_ (i := 14) (N := some 63) (v := undef) (a' := ?_) #[T1,T1,T1,T1,T1,T1,T1,T1,T1,T1,T1,T1,T1,T1,T1,F0,F0,F0,F0,F0,F0,F0,F0,F0,F0,F0,F0,F0] rfl rfl (any_of HT_.out (by kernel_rfl)) (fun _ _ _ h => h) (Or.inr ⟨by rfl, rfl⟩) ?_ ?_
            rotate_left
            · act_put
              rfl
            refine pure_ (i := 15) (N := some 64) (v := undef) (a' := ?_) #[T1,T1,T1,T1,T1,T1,T1,T1,T1,T1,T1,T1,T1,T1,T1,T1,F0,F0,F0,F0,F0,F0,F0,F0,F0,F0,F0,F0] rfl rfl (any_of HT_.out (by kernel_rfl)) (fun _ _ _ h => h) (Or.inr ⟨by rfl, rfl⟩) ?_ ?_
            rotate_left
            · act_put
              rfl
            refine pure_ (i := 16) (N := some 65) (v := ?_) (a' := ?_) #[T1,T1,T1,T1,T1,T1,T1,T1,T1,T1,T1,T1,T1,T1,T1,T1,T1,F0,F0,F0,F0,F0,F0,F0,F0,F0,F0,F0] rfl rfl (any_of HT_.out (by kernel_rfl)) (fun _ _ _ h => h) (Or.inl ⟨by rfl, ?_⟩) ?_ ?_
            rotate_left
            · intro w'
              go_simp
              with_reducible rfl
            rotate_left
            · act_put
              rfl
            refine pure_ (i := 17) (N := some 66) (v := ?_) (a' := ?_) #[T1,T1,T1,T1,T1,T1,T1,T1,T1,T1,T1,T1,T1,T1,T1,T1,T1,T1,F0,F0,F0,F0,F0,F0,F0,F0,F0,F0] rfl rfl (any_of HT_.out (by kernel_rfl)) (fun _ _ _ h => h) (Or.inl ⟨by rfl, ?_⟩) ?_ ?_
            rotate_left
            · intro w'
              go_simp
              with_reducible rfl
            rotate_left
            · act_put
              rfl
            refine pure_ (i := 18) (N := some 67) (v := undef) (a' := ?_) #[T1,T1,T1,T1,T1,T1,T1,T1,T1,T1,T1,T1,T1,T1,T1,T1,T1,T1,T1,F0,F0,F0,F0,F0,F0,F0,F0,F0] rfl rfl (any_of HT_.out (by kernel_rfl)) (fun _ _ _ h => h) (Or.inr ⟨by rfl, rfl⟩) ?_ ?_
            rotate_left
            · act_put
              rfl
            refine pure_ (i := 19) (N := some 68) (v := undef) (a' := ?_) #[T1,T1,T1,T1,T1,T1,T1,T1,T1,T1,T1,T1,T1,T1,T1,T1,T1,T1,T1,T1,F0,F0,F0,F0,F0,F0,F0,F0] rfl rfl (any_of HT_.out (by kernel_rfl)) (fun _ _ _ h => h) (Or.inr ⟨by rfl, rfl⟩) ?_ ?_
            rotate_left
            · act_put
              rfl
            refine pure_ (i := 20) (N := some 69) (v := undef) (a' := ?_) #[T1,T1,T1,T1,T1,T1,T1,T1,T1,T1,T1,T1,T1,T1,T1,T1,T1,T1,T1,T1,T1,F0,F0,F0,F0,F0,F0,F0] rfl rfl (any_of HT_.out (by kernel_rfl)) (fun _ _ _ h => h) (Or.inr ⟨by rfl, rfl⟩) ?_ ?_
            rotate_left
            · act_put
              rfl
            refine pure_ (i := 21) (N := some 70) (v := undef) (a' := ?_) #[T1,T1,T1,T1,T1,T1,T1,T1,T1,T1,T1,T1,T1,T1,T1,T1,T1,T1,T1,T1,T1,T1,F0,F0,F0,F0,F0,F0] rfl rfl (any_of HT_.out (by kernel_rfl)) (fun _ _ _ h => h) (Or.inr ⟨by rfl, rfl⟩) ?_ ?_
            rotate_left
            · act_put
              rfl
            refine pure_ (i := 22) (N := some 71) (v := undef) (a' := ?_) #[T1,T1,T1,T1,T1,T1,T1,T1,T1,T1,T1,T1,T1,T1,T1,T1,T1,T1,T1,T1,T1,T1,T1,F0,F0,F0,F0,F0] rfl rfl (any_of HT_.out (by kernel_rfl)) (fun _ _ _ h => h) (Or.inr ⟨by rfl, rfl⟩) ?_ ?_
            rotate_left
            · act_put
              rfl
            refine pure_ (i := 23) (N := some 72) (v := ?_) (a' := ?_) #[T1,T1,T1,T1,T1,T1,T1,T1,T1,T1,T1,T1,T1,T1,T1,T1,T1,T1,T1,T1,T1,T1,T1,T1,F0,F0,F0,F0] rfl rfl (any_of HT_.out (by kernel_rfl)) (fun _ _ _ h => h) (Or.inl ⟨by rfl, ?_⟩) ?_ ?_
            rotate_left
            · intro w'
              go_simp
              with_reducible rfl
            rotate_left
            · act_put
              rfl
            refine pure_ (i := 24) (N := some 73) (v := ?_) (a' := ?_) #[T1,T1,T1,T1,T1,T1,T1,T1,T1,T1,T1,T1,T1,T1,T1,T1,T1,T1,T1,T1,T1,T1,T1,T1,T1,F0,F0,F0] rfl rfl (any_of HT_.out (by kernel_rfl)) (fun _ _ _ h => h) (Or.inl ⟨by rfl, ?_⟩) ?_ ?_
            rotate_left
            · intro w'
              go_simp
              with_reducible rfl
            rotate_left
            · act_put
              rfl
            refine pure_ (i := 25) (N := some 74) (v := undef) (a' := ?_) #[T1,T1,T1,T1,T1,T1,T1,T1,T1,T1,T1,T1,T1,T1,T1,T1,T1,T1,T1,T1,T1,T1,T1,T1,T1,T1,F0,F0] rfl rfl (any_of HT_.out (by kernel_rfl)) (fun _ _ _ h => h) (Or.inr ⟨by rfl, rfl⟩) ?_ ?_
            rotate_left
            · act_put
              rfl
            refine pure_ (i := 26) (N := some 75) (v := ?_) (a' := ?_) #[T1,T1,T1,T1,T1,T1,T1,T1,T1,T1,T1,T1,T1,T1,T1,T1,T1,T1,T1,T1,T1,T1,T1,T1,T1,T1,T1,F0] rfl rfl (any_of HT_.out (by kernel_rfl)) (fun _ _ _ h => h) (Or.inl ⟨by rfl, ?_⟩) ?_ ?_
            rotate_left
            · intro w'
              go_simp
              with_reducible rfl
            rotate_left
            · act_put
              rfl
            refine pure_ (i := 27) (N := some 8) (v := ?_) (a' := ?_) #[T1,T1,T1,T1,T1,T1,T1,T1,T1,T1,T1,T1,T1,T1,T1,T1,T1,T1,T1,T1,T1,T1,T1,T1,T1,T1,T1,T1] rfl rfl (any_of HT_.out (by kernel_rfl)) (fun _ _ _ h => h) (Or.inl ⟨by rfl, ?_⟩) ?_ ?_
            rotate_left
            · intro w'
              go_simp
              with_reducible rfl
            rotate_left
            · act_put
              rfl
            refine done_ (done_of HT_.out (by kernel_rfl)) ?_
            try go_wp2
            go_ret
            exact ⟨by first | rfl | (simp [errW_none, errW_some] <;> rfl) | (simp [*, errW_none, errW_some] <;> rfl), by repeat (first | (with_reducible first | exact HB.out | apply below_alloc | apply pw_below_drewN | apply below_drew1 | refine below_set ?_ GE191.out | refine below_set ?_ GE200.out) | exact HB.out)⟩
        · rw [if_neg c15] at H
          have c15b0 : (t187.toList == t189.toList) = false := beq_eq_false_iff_ne.mpr c15
          have c15b1 : (t187.toList != t189.toList) = true := bne_iff_ne.mpr c15
          obtain rfl := Option.some.inj H
          try go_wp2_with (first | ((with_reducible refine gate_callee (f := 10) rfl ?_); refine goesL_ (some 32) rfl rfl Try.func10 (by kernel_rfl) rfl #[.slice A0 l0.length c0, .slice A1 l1.length c1] rfl (by arg_done) ?_; (with_reducible refine (huff_Put.calls kj4 _ _ l0 _ _ l1 t187 t188 _ ?side1 ?side2 ?side3 ?side4 A11.out).mono ?_); (case side1 => repeat (first | exact (Kd.C_below HR0.out HB.out) | (with_reducible refine Kd.C_alloc ?_ _) | (with_reducible refine Kd.C_drewN ?_ _) | (with_reducible refine Kd.C_drew ?_))); (case side2 => exact HC0.out); (case side3 => repeat (first | exact (Kd.C_below HR1.out HB.out) | (with_reducible refine Kd.C_alloc ?_ _) | (with_reducible refine Kd.C_drewN ?_ _) | (with_reducible refine Kd.C_drew ?_))); (case side4 => exact HC1.out); rintro e w75 ⟨rfl, hb⟩; refine ⟨_, rfl, ?_⟩; have n0_ := Aside0.mk (below_step (by repeat (first | (with_reducible first | exact HB.out | apply below_alloc | apply pw_below_drewN | apply below_drew1) | exact HB.out)) hb); clear HB; have HB := n0_; clear n0_; (try clear hb); (try clear hb2); (try clear hk); (try clear hi)) | ((with_reducible refine gate_callee (f := 11) rfl ?_); refine goesL_ (some 37) rfl rfl Try.func11 (by kernel_rfl) rfl #[.slice A0 l0.length c0, .slice A1 l1.length c1] rfl (by arg_done) ?_; (with_reducible refine (wringerref7_PutHuff.calls _ _ l0 _ _ l1 t189 t190 _ ?side1 ?side2 ?side3 ?side4 A12.out).mono ?_); (case side1 => repeat (first | exact (Kd.C_below HR0.out HB.out) | (with_reducible refine Kd.C_alloc ?_ _) | (with_reducible refine Kd.C_drewN ?_ _) | (with_reducible refine Kd.C_drew ?_))); (case side2 => exact HC0.out); (case side3 => repeat (first | exact (Kd.C_below HR1.out HB.out) | (with_reducible refine Kd.C_alloc ?_ _) | (with_reducible refine Kd.C_drewN ?_ _) | (with_reducible refine Kd.C_drew ?_))); (case side4 => exact HC1.out); rintro e w76 ⟨rfl, hb⟩; refine ⟨_, rfl, ?_⟩; have n0_ := Aside0.mk (below_step (by repeat (first | (with_reducible first | exact HB.out | apply below_alloc | apply pw_below_drewN | apply below_drew1) | exact HB.out)) hb); clear HB; have HB := n0_; clear n0_; (try clear hb); (try clear hb2); (try clear hk); (try clear hi)) | ((with_reducible refine gate_dst (N := 11) rfl ?_); (try (refine gate_guard (by rfl) ?_; dsimp only)); refine box_event ?hg (N := 11) ?hd (cs := #[.string (⟨#[]⟩ : ByteArray), .int .i64 0]) (t := 29) ?hr ?_; (case hd => rfl); (case hg => rfl); (case hr => first | (go_simp; done) | (go_simp; rfl)); intro gb191 hg w77 hbox hb; have n0_ := Aside0.mk (below_step (by repeat (first | (with_reducible first | exact HB.out | apply below_alloc | apply pw_below_drewN | apply below_drew1) | exact HB.out)) hb); have n1_ := Aside0.mk (hbox); have n2_ := Aside0.mk ((by rw [hg]; exact (below_size (by repeat (first | (with_reducible first | exact HB.out | apply below_alloc | apply pw_below_drewN | apply below_drew1) | exact HB.out))) : w.heap.size ≤ gb191)); have n3_ := Aside0.mk ((by rw [hg]; exact (below_size (by repeat (first | (with_reducible first | exact HB.out | apply below_alloc | apply pw_below_drewN | apply below_drew1) | exact HB.out))) : w.heap.size ≤ gb191)); clear HB; have HB := n0_; have BK191 := n1_; have GW191 := n2_; have GE191 := n3_; clear n0_ n1_ n2_ n3_; clear hb hbox hg; have hcz78_0 : w77.cell? ⟨gb191, 0, none⟩ = some (.string (⟨#[]⟩ : ByteArray)) := (blk_cell BK191.out 0).trans rfl; have hcz78_1 : w77.cell? ⟨gb191, 1, none⟩ = some (.int .i64 0) := (blk_cell BK191.out 1).trans rfl; have hfz78_0 := blk_frozen BK191.out 0; have hfz78_1 := blk_frozen BK191.out 1) | ((with_reducible refine gate_callee (f := 12) rfl ?_); refine goesL_ (some 42) rfl rfl Try.func12 (by kernel_rfl) rfl #[.string a2, .int .i64 a3, .slice A1 l1.length c1] rfl (by arg_done) ?_; (with_reducible refine (huff_Get.calls a2 a3 _ _ l1 t192 t193 _ ?side1 ?side2 A13.out).mono ?_); (case side1 => exact Kd.C_below HR1.out (by repeat (first | (with_reducible first | exact HB.out | apply below_alloc | apply pw_below_drewN | apply below_drew1 | refine below_set ?_ GE191.out) | exact HB.out))); (case side2 => exact HC1.out); rintro e w79 ⟨v194, rfl, ho0, hb⟩; refine ⟨_, rfl, ?_⟩; have n0_ := Aside0.mk (Kd.R_lower ho0 (below_size (by repeat (first | (with_reducible first | exact HB.out | apply below_alloc | apply pw_below_drewN | apply below_drew1 | refine below_set ?_ GE191.out) | exact HB.out)))); have n1_ := Aside0.mk (blk_below (g := gb191) (o := .cells #[.string t189, .int .i64 t190] 29 (0, 0)) (by (with_reducible repeat (first | refine blk_drewN ?_ _ | refine blk_drew ?_ | refine blk_alloc ?_ _)); refine blk_put (cs := #[.string t189, .int .i64 0]) ?_ 1 _ rfl; (with_reducible repeat (first | refine blk_drewN ?_ _ | refine blk_drew ?_ | refine blk_alloc ?_ _)); refine blk_put (cs := #[.string (⟨#[]⟩ : ByteArray), .int .i64 0]) ?_ 0 _ rfl; (with_reducible repeat (first | refine blk_drewN ?_ _ | refine blk_drew ?_ | refine blk_alloc ?_ _)); exact BK191.out) hb); have n2_ := Aside0.mk (below_step (by repeat (first | (with_reducible first | exact HB.out | apply below_alloc | apply pw_below_drewN | apply below_drew1 | refine below_set ?_ GE191.out) | exact HB.out)) hb); clear BK191; clear HB; have HO195 := n0_; have BK191 := n1_; have HB := n2_; clear n0_ n1_ n2_; (try clear hb); (try clear hb2); (try clear hk); (try clear hi); (try clear ho0)) | ((with_reducible refine gate_callee (f := 13) rfl ?_); refine goesL_ (some 48) rfl rfl Try.func13 (by kernel_rfl) rfl #[.string a2, .int .i64 a3, .slice A1 l1.length c1] rfl (by arg_done) ?_; (with_reducible refine (wringerref7_GetHuff.calls kj4 a2 a3 _ _ l1 t196 t199 _ ?side1 ?side2 A14.out).mono ?_); (case side1 => repeat (first | exact (Kd.C_below HR1.out HB.out) | (with_reducible refine Kd.C_alloc ?_ _) | (with_reducible refine Kd.C_drewN ?_ _) | (with_reducible refine Kd.C_drew ?_))); (case side2 => exact HC1.out); rintro e w80 ⟨v197, rfl, ho0, hb⟩; refine ⟨_, rfl, ?_⟩; have n0_ := Aside0.mk (Kd.R_elder' (by (with_reducible repeat (first | apply Kd.R_alloc | apply Kd.R_drewN | apply Kd.R_drew)); exact HO195.out) (Kd.R_base ho0) hb); have n1_ := Aside0.mk (Kd.R_lower (Kd.R_new' ho0 (Kd.R_lt (by (with_reducible repeat (first | apply Kd.R_alloc | apply Kd.R_drewN | apply Kd.R_drew)); exact HO195.out))) (below_size (by repeat (first | (with_reducible first | exact HB.out | apply below_alloc | apply pw_below_drewN | apply below_drew1 | refine below_set ?_ GE191.out) | exact HB.out)))); have n2_ := Aside0.mk (blk_below (g := gb191) (o := .cells #[.string t189, .int .i64 t190] 29 (0, 0)) (by (with_reducible repeat (first | refine blk_drewN ?_ _ | refine blk_drew ?_ | refine blk_alloc ?_ _)); exact BK191.out) hb); have n3_ := Aside0.mk (below_step (by repeat (first | (with_reducible first | exact HB.out | apply below_alloc | apply pw_below_drewN | apply below_drew1 | refine below_set ?_ GE191.out) | exact HB.out)) hb); clear HO195; clear BK191; clear HB; have HO195 := n0_; have HO198 := n1_; have BK191 := n2_; have HB := n3_; clear n0_ n1_ n2_ n3_; (try clear hb); (try clear hb2); (try clear hk); (try clear hi); (try clear ho0)) | ((with_reducible refine gate_dst (N := 14) rfl ?_); (try (refine gate_guard (by rfl) ?_; dsimp only)); refine box_event ?hg (N := 14) ?hd (cs := #[.slice none 0 0, .int .i64 0]) (t := 34) ?hr ?_; (case hd => rfl); (case hg => rfl); (case hr => first | (go_simp; done) | (go_simp; rfl)); intro gb200 hg w81 hbox hb; have n0_ := Aside0.mk (Kd.R_below (by (with_reducible repeat (first | apply Kd.R_alloc | apply Kd.R_drewN | apply Kd.R_drew)); exact HO195.out) hb); have n1_ := Aside0.mk (Kd.R_below (by (with_reducible repeat (first | apply Kd.R_alloc | apply Kd.R_drewN | apply Kd.R_drew)); exact HO198.out) hb); have n2_ := Aside0.mk (blk_below (g := gb191) (o := .cells #[.string t189, .int .i64 t190] 29 (0, 0)) (by (with_reducible repeat (first | refine blk_drewN ?_ _ | refine blk_drew ?_ | refine blk_alloc ?_ _)); exact BK191.out) hb); have n3_ := Aside0.mk (below_step (by repeat (first | (with_reducible first | exact HB.out | apply below_alloc | apply pw_below_drewN | apply below_drew1 | refine below_set ?_ GE191.out) | exact HB.out)) hb); have n4_ := Aside0.mk (hbox); have n5_ := Aside0.mk ((by rw [hg]; exact (below_size (by repeat (first | (with_reducible first | exact HB.out | apply below_alloc | apply pw_below_drewN | apply below_drew1 | refine below_set ?_ GE191.out) | exact HB.out))) : w.heap.size ≤ gb200)); have n6_ := Aside0.mk ((by rw [hg]; exact (below_size (by repeat (first | (with_reducible first | exact HB.out | apply below_alloc | apply pw_below_drewN | apply below_drew1 | refine below_set ?_ GE191.out) | exact HB.out))) : w.heap.size ≤ gb200)); have n7_ := Aside0.mk ((by rw [hg]; exact Nat.ne_of_lt (blk_lt (g := gb191) (o := .cells #[.string t189, .int .i64 t190] 29 (0, 0)) (by (with_reducible repeat (first | refine blk_drewN ?_ _ | refine blk_drew ?_ | refine blk_alloc ?_ _)); exact BK191.out)) : gb191 ≠ gb200)); have n8_ := Aside0.mk ((by rw [hg]; exact Nat.ne_of_gt (blk_lt (g := gb191) (o := .cells #[.string t189, .int .i64 t190] 29 (0, 0)) (by (with_reducible repeat (first | refine blk_drewN ?_ _ | refine blk_drew ?_ | refine blk_alloc ?_ _)); exact BK191.out)) : gb200 ≠ gb191)); clear HO195; clear HO198; clear BK191; clear HB; have HO195 := n0_; have HO198 := n1_; have BK191 := n2_; have HB := n3_; have BK200 := n4_; have GW200 := n5_; have GE200 := n6_; have NB191_200 := n7_; have NB200_191 := n8_; clear n0_ n1_ n2_ n3_ n4_ n5_ n6_ n7_ n8_; clear hb hbox hg; obtain ⟨Ao82, co82, eo82⟩ := Kd.R_slice HO198.out; subst eo82; have hnb83 := NB200_191.out; have hnc83 := NB191_200.out; have hcz84_0 : w81.cell? ⟨gb200, 0, none⟩ = some (.slice none 0 0) := (blk_cell BK200.out 0).trans rfl; have hcz84_1 : w81.cell? ⟨gb200, 1, none⟩ = some (.int .i64 0) := (blk_cell BK200.out 1).trans rfl; have hfz84_0 := blk_frozen BK200.out 0; have hfz84_1 := blk_frozen BK200.out 1))
          have n0_ : Aside0 (Kd.R k54 54 ((w81.setCell ⟨gb200, 0, none⟩ (.slice Ao82 t196.length co82)).setCell ⟨gb200, 1, none⟩ (.int .i64 t199)) w.heap.size (fun k_ => some k_ ≠ (.slice Ao82 t196.length co82 : Value).ownBlock) v194 t192) := ⟨by (with_reducible repeat (first | apply Kd.R_alloc | apply Kd.R_drewN | apply Kd.R_drew)); exact Kd.R_mono (Kd.R_far (p := ⟨gb200, 1, none⟩) (Kd.R_far (p := ⟨gb200, 0, none⟩) (Kd.R_types HO195.out BK200.out (by decide)) (fun _ hk => hk.2) (.slice Ao82 t196.length co82)) (fun _ hk => hk.2) (.int .i64 t199)) (fun _ hk => hk.1.2)⟩
          have n1_ : Aside0 (Kd.R k54 54 ((w81.setCell ⟨gb200, 0, none⟩ (.slice Ao82 t196.length co82)).setCell ⟨gb200, 1, none⟩ (.int .i64 t199)) w.heap.size (fun k_ => some k_ ≠ (v194 : Value).ownBlock) (.slice Ao82 t196.length co82) t196) := ⟨by (with_reducible repeat (first | apply Kd.R_alloc | apply Kd.R_drewN | apply Kd.R_drew)); exact Kd.R_mono (Kd.R_far (p := ⟨gb200, 1, none⟩) (Kd.R_far (p := ⟨gb200, 0, none⟩) (Kd.R_types HO198.out BK200.out (by decide)) (fun _ hk => hk.2) (.slice Ao82 t196.length co82)) (fun _ hk => hk.2) (.int .i64 t199)) (fun _ hk => hk.1.2)⟩
          have n2_ : Aside0 (((w81.setCell ⟨gb200, 0, none⟩ (.slice Ao82 t196.length co82)).setCell ⟨gb200, 1, none⟩ (.int .i64 t199)).heap[gb191]? = some (.cells #[.string t189, .int .i64 t190] 29 (0, 0))) := ⟨by (with_reducible repeat (first | refine blk_drewN ?_ _ | refine blk_drew ?_ | refine blk_alloc ?_ _)); refine blk_far ?_ NB191_200.out _; (with_reducible repeat (first | refine blk_drewN ?_ _ | refine blk_drew ?_ | refine blk_alloc ?_ _)); refine blk_far ?_ NB191_200.out _; (with_reducible repeat (first | refine blk_drewN ?_ _ | refine blk_drew ?_ | refine blk_alloc ?_ _)); exact BK191.out⟩
          have n3_ : Aside0 (((w81.setCell ⟨gb200, 0, none⟩ (.slice Ao82 t196.length co82)).setCell ⟨gb200, 1, none⟩ (.int .i64 t199)).heap[gb200]? = some (.cells #[.slice Ao82 t196.length co82, .int .i64 t199] 34 (0, 0))) := ⟨by (with_reducible repeat (first | refine blk_drewN ?_ _ | refine blk_drew ?_ | refine blk_alloc ?_ _)); refine blk_put (cs := #[.slice Ao82 t196.length co82, .int .i64 0]) ?_ 1 _ rfl; (with_reducible repeat (first | refine blk_drewN ?_ _ | refine blk_drew ?_ | refine blk_alloc ?_ _)); refine blk_put (cs := #[.slice none 0 0, .int .i64 0]) ?_ 0 _ rfl; (with_reducible repeat (first | refine blk_drewN ?_ _ | refine blk_drew ?_ | refine blk_alloc ?_ _)); exact BK200.out⟩
          have n4_ : Aside0 (Below w.heap.size w ((w81.setCell ⟨gb200, 0, none⟩ (.slice Ao82 t196.length co82)).setCell ⟨gb200, 1, none⟩ (.int .i64 t199))) := ⟨by repeat (first | (with_reducible first | exact HB.out | apply below_alloc | apply pw_below_drewN | apply below_drew1 | refine below_set ?_ GE191.out | refine below_set ?_ GE200.out) | exact HB.out)⟩
          (try clear HO195)
          (try clear HO198)
          (try clear BK191)
          (try clear BK200)
          (try clear HB)
          generalize ((w81.setCell ⟨gb200, 0, none⟩ (.slice Ao82 t196.length co82)).setCell ⟨gb200, 1, none⟩ (.int .i64 t199)) = w85 at n0_ n1_ n2_ n3_ n4_ ⊢
          have HO195 := n0_
          have HO198 := n1_
          have BK191 := n2_
          have BK200 := n3_
          have HB := n4_
          clear n0_ n1_ n2_ n3_ n4_
          have n0_ := Aside0.mk (Kd.R_drew HO195.out)
          have n1_ := Aside0.mk (Kd.R_drew HO198.out)
          have n2_ := Aside0.mk (blk_drew BK191.out)
          have n3_ := Aside0.mk (blk_drew BK200.out)
          have n4_ := Aside0.mk (below_drew1 HB.out)
          clear HO195
          clear HO198
          clear BK191
          clear BK200
          clear HB
          have HO195 := n0_
          have HO198 := n1_
          have BK191 := n2_
          have BK200 := n3_
          have HB := n4_
          clear n0_ n1_ n2_ n3_ n4_
          refine start_ (n := 28) (S := fun w' => w'.cell? ⟨gb191, 0, none⟩ = some (.string t189) ∧ w'.cell? ⟨gb191, 1, none⟩ = some (.int .i64 t190)) (ds := []) #[F0,F0,F0,F0,F0,F0,F0,F0,F0,F0,F0,F0,F0,F0,F0,F0,F0,F0,F0,F0,F0,F0,F0,F0,F0,F0,F0,F0] (by kernel_rfl) rfl rfl ⟨(blk_cell BK191.out 0).trans rfl, (blk_cell BK191.out 1).trans rfl⟩ (fun hHeld => ?_); refine with_tabW wringerlaw11_HuffAll.tab7 wringerlaw11_HuffAll.bits7 (fun HT_ HW_ => ?_)
          generalize w85.drew = w86 at HO195 HO198 BK191 BK200 HB hHeld ⊢
          refine pure_ (i := 0) (N := some 49) (v := ?_) (a' := ?_) #[T1,F0,F0,F0,F0,F0,F0,F0,F0,F0,F0,F0,F0,F0,F0,F0,F0,F0,F0,F0,F0,F0,F0,F0,F0,F0,F0,F0] rfl rfl (any_of HT_.out (by kernel_rfl)) (fun _ _ _ h => h) (Or.inl ⟨by rfl, ?_⟩) ?_ ?_
          rotate_left
          · intro w'
            go_simp
            with_reducible rfl
          rotate_left
          · act_put
            rfl
          refine pure_ (i := 1) (N := some 50) (v := ?_) (a' := ?_) #[T1,T1,F0,F0,F0,F0,F0,F0,F0,F0,F0,F0,F0,F0,F0,F0,F0,F0,F0,F0,F0,F0,F0,F0,F0,F0,F0,F0] rfl rfl (any_of HT_.out (by kernel_rfl)) (fun _ _ _ h => h) (Or.inl ⟨by rfl, ?_⟩) ?_ ?_
          rotate_left
          · intro w'
            go_simp
            with_reducible rfl
          rotate_left
          · act_put
            rfl
          refine take_ (i := 2) (N := some 51) (v := ?_) (a' := ?_) #[T1,T1,T1,F0,F0,F0,F0,F0,F0,F0,F0,F0,F0,F0,F0,F0,F0,F0,F0,F0,F0,F0,F0,F0,F0,F0,F0,F0] rfl rfl (take_ofW HT_.out HW_.out (by kernel_rfl)) (fun _ _ _ h => h) (Or.inl ⟨by rfl, ?_⟩) hHeld ?_ ?_
          rotate_left
          · rintro w' ⟨s0, s1⟩
            go_simp
            with_reducible rfl
          rotate_left
          · act_put
            rfl
          refine pure_ (i := 3) (N := some 52) (v := ?_) (a' := ?_) #[T1,T1,T1,T1,F0,F0,F0,F0,F0,F0,F0,F0,F0,F0,F0,F0,F0,F0,F0,F0,F0,F0,F0,F0,F0,F0,F0,F0] rfl rfl (any_of HT_.out (by kernel_rfl)) (fun _ _ _ h => h) (Or.inl ⟨by rfl, ?_⟩) ?_ ?_
          rotate_left
          · intro w'
            go_simp
            with_reducible rfl
          rotate_left
          · act_put
            rfl
          refine pure_ (i := 4) (N := some 53) (v := ?_) (a' := ?_) #[T1,T1,T1,T1,T1,F0,F0,F0,F0,F0,F0,F0,F0,F0,F0,F0,F0,F0,F0,F0,F0,F0,F0,F0,F0,F0,F0,F0] rfl rfl (any_of HT_.out (by kernel_rfl)) (fun _ _ _ h => h) (Or.inl ⟨by rfl, ?_⟩) ?_ ?_
          rotate_left
          · intro w'
            go_simp
            with_reducible rfl
          rotate_left
          · act_put
            rfl
          refine pure_ (i := 5) (N := some 54) (v := undef) (a' := ?_) #[T1,T1,T1,T1,T1,T1,F0,F0,F0,F0,F0,F0,F0,F0,F0,F0,F0,F0,F0,F0,F0,F0,F0,F0,F0,F0,F0,F0] rfl rfl (any_of HT_.out (by kernel_rfl)) (fun _ _ _ h => h) (Or.inr ⟨by rfl, rfl⟩) ?_ ?_
          rotate_left
          · act_put
            rfl
          refine pure_ (i := 6) (N := some 55) (v := undef) (a' := ?_) #[T1,T1,T1,T1,T1,T1,T1,F0,F0,F0,F0,F0,F0,F0,F0,F0,F0,F0,F0,F0,F0,F0,F0,F0,F0,F0,F0,F0] rfl rfl (any_of HT_.out (by kernel_rfl)) (fun _ _ _ h => h) (Or.inr ⟨by rfl, rfl⟩) ?_ ?_
          rotate_left
          · act_put
            rfl
          refine pure_ (i := 7) (N := some 56) (v := undef) (a' := ?_) #[T1,T1,T1,T1,T1,T1,T1,T1,F0,F0,F0,F0,F0,F0,F0,F0,F0,F0,F0,F0,F0,F0,F0,F0,F0,F0,F0,F0] rfl rfl (any_of HT_.out (by kernel_rfl)) (fun _ _ _ h => h) (Or.inr ⟨by rfl, rfl⟩) ?_ ?_
          rotate_left
          · act_put
            rfl
          refine pure_ (i := 8) (N := some 57) (v := undef) (a' := ?_) #[T1,T1,T1,T1,T1,T1,T1,T1,T1,F0,F0,F0,F0,F0,F0,F0,F0,F0,F0,F0,F0,F0,F0,F0,F0,F0,F0,F0] rfl rfl (any_of HT_.out (by kernel_rfl)) (fun _ _ _ h => h) (Or.inr ⟨by rfl, rfl⟩) ?_ ?_
          rotate_left
          · act_put
            rfl
          refine pure_ (i := 9) (N := some 58) (v := undef) (a' := ?_) #[T1,T1,T1,T1,T1,T1,T1,T1,T1,T1,F0,F0,F0,F0,F0,F0,F0,F0,F0,F0,F0,F0,F0,F0,F0,F0,F0,F0] rfl rfl (any_of HT_.out (by kernel_rfl)) (fun _ _ _ h => h) (Or.inr ⟨by rfl, rfl⟩) ?_ ?_
          rotate_left
          · act_put
            rfl
          refine pure_ (i := 10) (N := some 59) (v := ?_) (a' := ?_) #[T1,T1,T1,T1,T1,T1,T1,T1,T1,T1,T1,F0,F0,F0,F0,F0,F0,F0,F0,F0,F0,F0,F0,F0,F0,F0,F0,F0] rfl rfl (any_of HT_.out (by kernel_rfl)) (fun _ _ _ h => h) (Or.inl ⟨by rfl, ?_⟩) ?_ ?_
          rotate_left
          · intro w'
            go_simp
            with_reducible rfl
          rotate_left
          · act_put
            rfl
          refine pure_ (i := 11) (N := some 60) (v := ?_) (a' := ?_) #[T1,T1,T1,T1,T1,T1,T1,T1,T1,T1,T1,T1,F0,F0,F0,F0,F0,F0,F0,F0,F0,F0,F0,F0,F0,F0,F0,F0] rfl rfl (any_of HT_.out (by kernel_rfl)) (fun _ _ _ h => h) (Or.inl ⟨by rfl, ?_⟩) ?_ ?_
          rotate_left
          · intro w'
            go_simp
            with_reducible rfl
          rotate_left
          · act_put
            rfl
          refine pure_ (i := 12) (N := some 61) (v := undef) (a' := ?_) #[T1,T1,T1,T1,T1,T1,T1,T1,T1,T1,T1,T1,T1,F0,F0,F0,F0,F0,F0,F0,F0,F0,F0,F0,F0,F0,F0,F0] rfl rfl (any_of HT_.out (by kernel_rfl)) (fun _ _ _ h => h) (Or.inr ⟨by rfl, rfl⟩) ?_ ?_
          rotate_left
          · act_put
            rfl
          refine pure_ (i := 13) (N := some 62) (v := undef) (a' := ?_) #[T1,T1,T1,T1,T1,T1,T1,T1,T1,T1,T1,T1,T1,T1,F0,F0,F0,F0,F0,F0,F0,F0,F0,F0,F0,F0,F0,F0] rfl rfl (any_of HT_.out (by kernel_rfl)) (fun _ _ _ h => h) (Or.inr ⟨by rfl, rfl⟩) ?_ ?_
          rotate_left
          · act_put
            rfl
          refine pure_ (i := 14) (N := some 63) (v := undef) (a' := ?_) #[T1,T1,T1,T1,T1,T1,T1,T1,T1,T1,T1,T1,T1,T1,T1,F0,F0,F0,F0,F0,F0,F0,F0,F0,F0,F0,F0,F0] rfl rfl (any_of HT_.out (by kernel_rfl)) (fun _ _ _ h => h) (Or.inr ⟨by rfl, rfl⟩) ?_ ?_
          rotate_left
          · act_put
            rfl
          refine pure_ (i := 15) (N := some 64) (v := undef) (a' := ?_) #[T1,T1,T1,T1,T1,T1,T1,T1,T1,T1,T1,T1,T1,T1,T1,T1,F0,F0,F0,F0,F0,F0,F0,F0,F0,F0,F0,F0] rfl rfl (any_of HT_.out (by kernel_rfl)) (fun _ _ _ h => h) (Or.inr ⟨by rfl, rfl⟩) ?_ ?_
          rotate_left
          · act_put
            rfl
          refine pure_ (i := 16) (N := some 65) (v := ?_) (a' := ?_) #[T1,T1,T1,T1,T1,T1,T1,T1,T1,T1,T1,T1,T1,T1,T1,T1,T1,F0,F0,F0,F0,F0,F0,F0,F0,F0,F0,F0] rfl rfl (any_of HT_.out (by kernel_rfl)) (fun _ _ _ h => h) (Or.inl ⟨by rfl, ?_⟩) ?_ ?_
          rotate_left
          · intro w'
            go_simp
            with_reducible rfl
          rotate_left
          · act_put
            rfl
          refine pure_ (i := 17) (N := some 66) (v := ?_) (a' := ?_) #[T1,T1,T1,T1,T1,T1,T1,T1,T1,T1,T1,T1,T1,T1,T1,T1,T1,T1,F0,F0,F0,F0,F0,F0,F0,F0,F0,F0] rfl rfl (any_of HT_.out (by kernel_rfl)) (fun _ _ _ h => h) (Or.inl ⟨by rfl, ?_⟩) ?_ ?_
          rotate_left
          · intro w'
            go_simp
            with_reducible rfl
          rotate_left
          · act_put
            rfl
          refine pure_ (i := 18) (N := some 67) (v := undef) (a' := ?_) #[T1,T1,T1,T1,T1,T1,T1,T1,T1,T1,T1,T1,T1,T1,T1,T1,T1,T1,T1,F0,F0,F0,F0,F0,F0,F0,F0,F0] rfl rfl (any_of HT_.out (by kernel_rfl)) (fun _ _ _ h => h) (Or.inr ⟨by rfl, rfl⟩) ?_ ?_
          rotate_left
          · act_put
            rfl
          refine pure_ (i := 19) (N := some 68) (v := undef) (a' := ?_) #[T1,T1,T1,T1,T1,T1,T1,T1,T1,T1,T1,T1,T1,T1,T1,T1,T1,T1,T1,T1,F0,F0,F0,F0,F0,F0,F0,F0] rfl rfl (any_of HT_.out (by kernel_rfl)) (fun _ _ _ h => h) (Or.inr ⟨by rfl, rfl⟩) ?_ ?_
          rotate_left
          · act_put
            rfl
          refine pure_ (i := 20) (N := some 69) (v := undef) (a' := ?_) #[T1,T1,T1,T1,T1,T1,T1,T1,T1,T1,T1,T1,T1,T1,T1,T1,T1,T1,T1,T1,T1,F0,F0,F0,F0,F0,F0,F0] rfl rfl (any_of HT_.out (by kernel_rfl)) (fun _ _ _ h => h) (Or.inr ⟨by rfl, rfl⟩) ?_ ?_
          rotate_left
          · act_put
            rfl
          refine pure_ (i := 21) (N := some 70) (v := undef) (a' := ?_) #[T1,T1,T1,T1,T1,T1,T1,T1,T1,T1,T1,T1,T1,T1,T1,T1,T1,T1,T1,T1,T1,T1,F0,F0,F0,F0,F0,F0] rfl rfl (any_of HT_.out (by kernel_rfl)) (fun _ _ _ h => h) (Or.inr ⟨by rfl, rfl⟩) ?_ ?_
          rotate_left
          · act_put
            rfl
          refine pure_ (i := 22) (N := some 71) (v := undef) (a' := ?_) #[T1,T1,T1,T1,T1,T1,T1,T1,T1,T1,T1,T1,T1,T1,T1,T1,T1,T1,T1,T1,T1,T1,T1,F0,F0,F0,F0,F0] rfl rfl (any_of HT_.out (by kernel_rfl)) (fun _ _ _ h => h) (Or.inr ⟨by rfl, rfl⟩) ?_ ?_
          rotate_left
          · act_put
            rfl
          refine pure_ (i := 23) (N := some 72) (v := ?_) (a' := ?_) #[T1,T1,T1,T1,T1,T1,T1,T1,T1,T1,T1,T1,T1,T1,T1,T1,T1,T1,T1,T1,T1,T1,T1,T1,F0,F0,F0,F0] rfl rfl (any_of HT_.out (by kernel_rfl)) (fun _ _ _ h => h) (Or.inl ⟨by rfl, ?_⟩) ?_ ?_
          rotate_left
          · intro w'
            go_simp
            with_reducible rfl
          rotate_left
          · act_put
            rfl
          refine pure_ (i := 24) (N := some 73) (v := ?_) (a' := ?_) #[T1,T1,T1,T1,T1,T1,T1,T1,T1,T1,T1,T1,T1,T1,T1,T1,T1,T1,T1,T1,T1,T1,T1,T1,T1,F0,F0,F0] rfl rfl (any_of HT_.out (by kernel_rfl)) (fun _ _ _ h => h) (Or.inl ⟨by rfl, ?_⟩) ?_ ?_
          rotate_left
          · intro w'
            go_simp
            with_reducible rfl
          rotate_left
          · act_put
            rfl
          refine pure_ (i := 25) (N := some 74) (v := undef) (a' := ?_) #[T1,T1,T1,T1,T1,T1,T1,T1,T1,T1,T1,T1,T1,T1,T1,T1,T1,T1,T1,T1,T1,T1,T1,T1,T1,T1,F0,F0] rfl rfl (any_of HT_.out (by kernel_rfl)) (fun _ _ _ h => h) (Or.inr ⟨by rfl, rfl⟩) ?_ ?_
          rotate_left
          · act_put
            rfl
          refine pure_ (i := 26) (N := some 75) (v := ?_) (a' := ?_) #[T1,T1,T1,T1,T1,T1,T1,T1,T1,T1,T1,T1,T1,T1,T1,T1,T1,T1,T1,T1,T1,T1,T1,T1,T1,T1,T1,F0] rfl rfl (any_of HT_.out (by kernel_rfl)) (fun _ _ _ h => h) (Or.inl ⟨by rfl, ?_⟩) ?_ ?_
          rotate_left
          · intro w'
            go_simp
            with_reducible rfl
          rotate_left
          · act_put
            rfl
          refine pure_ (i := 27) (N := some 8) (v := ?_) (a' := ?_) #[T1,T1,T1,T1,T1,T1,T1,T1,T1,T1,T1,T1,T1,T1,T1,T1,T1,T1,T1,T1,T1,T1,T1,T1,T1,T1,T1,T1] rfl rfl (any_of HT_.out (by kernel_rfl)) (fun _ _ _ h => h) (Or.inl ⟨by rfl, ?_⟩) ?_ ?_
          rotate_left
          · intro w'
            go_simp
            with_reducible rfl
          rotate_left
          · act_put
            rfl
          refine done_ (done_of HT_.out (by kernel_rfl)) ?_
          try go_wp2
          go_ret
          exact ⟨by first | rfl | (simp [errW_none, errW_some] <;> rfl) | (simp [*, errW_none, errW_some] <;> rfl), by repeat (first | (with_reducible first | exact HB.out | apply below_alloc | apply pw_below_drewN | apply below_drew1 | refine below_set ?_ GE191.out | refine below_set ?_ GE200.out) | exact HB.out)⟩

end Go.Proofs.Ytnakjencodicmaa.PA

-- ---- Pr
/- An argument that is a slice of pairs of whole numbers. No program in sight. -/
namespace Go.Proofs.Ytnakjencodicmaa.Own
set_option maxRecDepth 100000
set_option linter.unusedSimpArgs false
set_option linter.unusedVariables false
open Go Go.RowKit Go.ChangeShapes Go.WideShapes

def PairRow (k0 k1 : IntKind) (w : World) (a : Option Addr) (len : Nat) (zs : List (Int × Int)) : Prop :=
  zs.length = len ∧ len ≤ maxLen ∧ (∀ p ∈ zs, (Lit.int k0 p.1).wf = true ∧ (Lit.int k1 p.2).wf = true) ∧
  (0 < len → ∃ x, a = some x ∧ ∀ i p, zs[i]? = some p → w.cell? (x.add (i * 2)) = some (.int k0 p.1) ∧ w.cell? (x.add (i * 2 + 1)) = some (.int k1 p.2))

theorem open_pair_row {H : Type} {enc : TypeId × Value → H} {P : Program} {W : World} {base : Nat} {spare : Nat → Bool} {held : Bool} {t e : TypeId} {f0 f1 : Field} {k0 k1 : IntKind} {a : Option Addr} {len cap : Nat} {d : DataW H} {ps : List MemPlace}
    (ht : P.underlying t = some (.slice e)) (he : P.underlying e = some (.struct #[f0, f1])) (ce : P.cellsOf e = 2) (o0 : f0.offset = 0) (o1 : f1.offset = 1) (c0 : P.cellsOf f0.type = 1) (c1 : P.cellsOf f1.type = 1)
    (u0 : P.underlying f0.type = some (.int k0)) (u1 : P.underlying f1.type = some (.int k1)) (h : DataW.Trod enc P W base spare held t (.slice a len cap) d ps) :
    len ≤ cap ∧ ∃ zs, PairRow k0 k1 W a len zs := by
  obtain ⟨fuel, hf⟩ := h
  rcases Go.Deep.open_slice_pairs ht he ce o0 o1 c0 c1 hf with ⟨hcs, _⟩ | ⟨x, l, c, m, n, V0, V1, D0, D1, P0, P1, hcs, _, hl, hm, hmm, _, hx⟩
  · simp [Value.cells] at hcs
    obtain ⟨rfl, rfl, rfl⟩ := hcs
    exact ⟨Nat.le_refl _, [], rfl, Nat.zero_le _, (by simp), fun h => absurd h (by decide)⟩
  · simp [Value.cells] at hcs
    obtain ⟨rfl, rfl, rfl⟩ := hcs
    have hlm : len ≤ m := by rw [hmm]; split <;> omega
    have each : ∀ i, i < len → ∃ p : Int × Int, W.cell? (x.add (i * 2)) = some (.int k0 p.1) ∧ W.cell? (x.add (i * 2 + 1)) = some (.int k1 p.2) ∧ (Lit.int k0 p.1).wf = true ∧ (Lit.int k1 p.2).wf = true := by
      intro i hi
      obtain ⟨g0, g1, g2, g3⟩ := hx i (by omega)
      obtain ⟨a0, e0, _, w0⟩ := DataW.trod_int u0 g2
      obtain ⟨a1, e1, _, w1⟩ := DataW.trod_int u1 g3
      simp at e0 e1
      exact ⟨(a0, a1), by rw [g0, e0], by rw [g1, e1], w0, w1⟩
    obtain ⟨q, hq⟩ := Go.Deep.choose_lt each
    refine ⟨hl, (List.range len).map q, by simp, by omega, fun p hp => ?_, fun _ => ⟨x, rfl, fun i p hp => ?_⟩⟩
    · obtain ⟨i, hi, rfl⟩ := List.mem_map.1 hp
      have := hq i (List.mem_range.1 hi)
      exact ⟨this.2.2.1, this.2.2.2⟩
    · rw [List.getElem?_map] at hp
      by_cases hi : i < len
      · rw [List.getElem?_range hi] at hp
        simp at hp; subst hp
        have := hq i hi
        exact ⟨this.1, this.2.1⟩
      · rw [List.getElem?_eq_none (by simp; omega)] at hp; simp at hp
end Go.Proofs.Ytnakjencodicmaa.Own

-- ---- HuffAll
/- HuffAll: what the call answers for every input, in the program's own memory. Conditions: the lists read as the arguments do. -/
namespace Go.Proofs.Ytnakjencodicmaa.PA
set_option maxRecDepth 100000
open Go.RowKit Go.Proofs.YtnakjencodicmaaW.PrintWords Go.Proofs.YtnakjencodicmaaW.PrintLast Go.Proofs.YtnakjencodicmaaW.PrintMore Hu Dp
set_option linter.unusedVariables false
set_option linter.unusedSimpArgs false

theorem getPs_len (L : List Int) : ∀ (n : Nat) (bs : List Bool), (getPs L n bs).2.1.length ≤ n := by
  intro n
  induction n with
  | zero => intro bs; simp [getPs]
  | succ n ih =>
    intro bs
    unfold getPs
    split
    · simp
    · simp only [List.length_cons]; have := ih (getOne L bs).2.2; omega
theorem getPE_len (s : ByteArray) (n : Int) (L : List Int) : (getPE s n L).1.length ≤ 4096 := by
  unfold getPE getE
  split
  · split
    · simp
    · rename_i hn
      split
      · simp
      · split
        · rw [List.length_map]
          have := getPs_len L n.toNat (Bits.bitsS s)
          show (getPs L n.toNat (Bits.bitsS s)).2.1.length ≤ 4096
          omega
        · simp
  · simp
theorem huffAll_true (l0 : List (S54)) (l1 : List Int) (a2 : ByteArray) (a3 : Int) : Ev (fun k => wringerlaw11_HuffAll.j0 k l0 l1 a2 a3 true) true := by
  refine Ev.step (f := fun k => (wringerlaw11_awake.f k).bind fun t => some t) (fun k => ?_) (Ev.bind awake11 (Ev.now _))
  simp only [wringerlaw11_HuffAll.j0]
  rw [if_pos trivial]
theorem huffAll_false (l0 : List (S54)) (l1 : List Int) (a2 : ByteArray) (a3 : Int) (hl : l0.length ≤ 100) (hw : l0.all wfB = true) (hs : a2.size ≤ 300) : Ev (fun k => wringerlaw11_HuffAll.j0 k l0 l1 a2 a3 false) true := by
  refine Ev.step (f := fun k => (wringerref7_SameParts.f k (getPE a2 a3 l1).1 (getPE a2 a3 l1).1).bind fun t => if t = true then ((wringerlaw11_awake.f k).bind fun t204 => (some t204)) else some false) (fun k => ?_)
    (Ev.bind (samep_self _ (by have := getPE_len a2 a3 l1; omega)) (Ev.ite_pos rfl (Ev.bind awake11 (Ev.now _))))
  simp only [wringerlaw11_HuffAll.j0]
  rw [if_neg (by decide)]
  unfold huff_Put.f wringerref7_PutHuff.f huff_Get.f wringerref7_GetHuff.f wringerlaw1_Err.f
  rw [if_pos ⟨by omega, hw⟩, if_pos (by omega)]
  simp only [Option.bind_some, if_true]
theorem huffAll_is (l0 : List (S54)) (l1 : List Int) (a2 : ByteArray) (a3 : Int) (hw : l0.all wfB = true) : ∃ k, wringerlaw11_HuffAll.f k l0 l1 a2 a3 = some true := by
  apply Ev.rounds
  unfold wringerlaw11_HuffAll.f
  by_cases h1 : (l0.length : Int) > 100
  · exact Ev.ite_pos h1 (huffAll_true _ _ _ _)
  · refine Ev.ite_neg h1 ?_
    by_cases h2 : (l1.length : Int) > 100
    · exact Ev.ite_pos h2 (huffAll_true _ _ _ _)
    · refine Ev.ite_neg h2 ?_
      by_cases h3 : (a2.size : Int) > 300
      · rw [decide_eq_true h3]; exact huffAll_true _ _ _ _
      · rw [decide_eq_false h3]; exact huffAll_false _ _ _ _ (by omega) hw (by omega)
theorem wf_i64p {v : Int} (h : (Lit.int .i64 v).wf = true) : -9223372036854775808 ≤ v ∧ v ≤ 9223372036854775807 := by
  simp only [Lit.wf, Bool.and_eq_true, decide_eq_true_eq] at h
  have h1 : IntKind.i64.min = -9223372036854775808 := rfl
  have h2 : IntKind.i64.max = 9223372036854775807 := rfl
  omega
theorem wf_u64p {v : Int} (h : (Lit.int .u64 v).wf = true) : 0 ≤ v ∧ v < 18446744073709551616 := by
  simp only [Lit.wf, Bool.and_eq_true, decide_eq_true_eq] at h
  have h1 : IntKind.u64.min = 0 := rfl
  have h2 : IntKind.u64.max = 18446744073709551615 := rfl
  omega
def toP (p : Int × Int) : S54 := ⟨p.1, p.2⟩
theorem C_of_pairs {w : World} {a : Option Addr} {len : Nat} {zs : List (Int × Int)} (h : Own.PairRow .i64 .u64 w a len zs) : Kd.C k54 w a len (zs.map toP) ∧ (zs.map toP).length = len ∧ (zs.map toP).all wfB = true := by
  obtain ⟨h1, h2, h3, h4⟩ := h
  refine ⟨⟨by simp [h1], by simp only [maxLen] at h2; omega, fun h0 => ?_⟩, by simp [h1], List.all_eq_true.2 fun p hp => ?_⟩
  · obtain ⟨x, e, hc⟩ := h4 h0
    refine ⟨x, e, fun j p hj => ?_⟩
    rw [List.getElem?_map] at hj
    cases hz : zs[j]? with
    | none => rw [hz] at hj; cases hj
    | some q =>
      rw [hz] at hj
      simp only [Option.map_some, Option.some.injEq] at hj
      subst hj
      obtain ⟨c0, c1⟩ := hc j q hz
      refine ⟨[.int .i64 q.1, .int .u64 q.2], rfl, k54_mk w (toP q), fun i u hi => ?_⟩
      match i, hi with
      | 0, hi => simp at hi; subst hi; exact c0
      | 1, hi => simp at hi; subst hi; exact c1
  · obtain ⟨q, hq, rfl⟩ := List.mem_map.1 hp
    obtain ⟨w0, w1⟩ := h3 q hq
    have e0 := wf_i64p w0
    have e1 := wf_u64p w1
    unfold wfB
    rw [decide_eq_true_eq]
    exact ⟨e0.1, e0.2, e1.1, e1.2⟩
theorem HuffAll_walk (a0 : Option Addr) (len0 cap0 : Nat) (z0 : List (Int × Int)) (a1 : Option Addr) (len1 cap1 : Nat) (z1 : List Int) (a2 : ByteArray) (a3 : Int) (w : World)
    (w0 : Own.PairRow .i64 .u64 w a0 len0 z0) (y0 : len0 ≤ cap0) (w1 : Own.Arg .i64 w a1 len1 cap1 z1) (y1 : len1 * 8 ≤ 140737488351232) (w2 : a2.size ≤ 140737488351232) (w3 : (Lit.int .i64 a3).wf = true) :
    Calls Try.prog 3 #[.slice a0 len0 cap0, .slice a1 len1 cap1, .string a2, .int .i64 a3] w fun e w' => e = .returned (.bool true) ∧ Below w.heap.size w w' := by
  obtain ⟨l1, rfl, hr1, hm1, hw1, hc1⟩ := ReadsInt.ofRowC w1
  obtain ⟨hC, hl, hp⟩ := C_of_pairs w0
  obtain ⟨l0, hl0⟩ : ∃ l0, l0 = z0.map toP := ⟨_, rfl⟩
  rw [← hl0] at hC hl hp
  subst hl
  obtain ⟨k, h⟩ := huffAll_is l0 l1 a2 a3 hp
  refine (wringerlaw11_HuffAll.calls k _ _ l0 _ _ l1 a2 a3 true w hC y0 (Kd.C_of_reads (d := (0 : Int)) (h1 := fun _ => rfl) hr1) hc1 h).mono ?_
  rintro e w' ⟨rfl, hd⟩
  exact ⟨rfl, hd⟩
end Go.Proofs.Ytnakjencodicmaa.PA

-- ---- LawHuffAll
/- The law HuffAll holds of the program, for every input; each argument reads behind the call as it read before. Conditions: none. -/
namespace Go.Proofs.Ytnakjencodicmaa.huffAll
set_option maxRecDepth 100000
open Go.ChangeShapes Go.WideShapes Go.ChangeAt Go.RowKit
open Go.ChangeMaps (open_string shut_string)
open Go.Proofs.Ytnakjencodicmaa.PA (HuffAll_walk)
set_option linter.unusedVariables false
theorem own : ownKnob Try.prog.godebug = none := by kernel_rfl
theorem laidOut : laidOutB Try.prog = true := by kernel_rfl
set_option maxRecDepth 100000 in
theorem lifted (os : Os) (started : os.Started) (H : Type) (enc : TypeId × Value → H) :
    ReturnsInHanded {} Try.checked os 3 .any (Rows.huffAllSpec.pre6 enc Try.prog Try.f3 Rows.huffAllRow.domain false) (Rows.huffAllSpec.post enc Try.prog Try.f3 false true false false) := by
  refine returnsInHanded_of_change_sized (C := Try.checked) own started (by kernel_rfl) Try.func3
    (ChangeSpec.witness6 (enc := enc) (C := Try.checked) false ⟨#[], #[.slice none 0 0, .slice none 0 0, .string ByteArray.empty, .int .i64 0], []⟩ 8 (by kernel_rfl) (by kernel_rfl) (by kernel_rfl) (by kernel_rfl)) ?_
  intro W base args ds gs before hval0 hW hcnd hsz0 _
  have hsz : (DataW.weightsEach Try.prog (Try.f3.params.toList ++ Rows.huffAllSpec.plain.varTypes Try.prog) (ds ++ gs)).all (· ≤ reachBytes) = true := hsz0
  have hval : ∀ (j : Nat) t v, Try.f3.params[j]? = some t → args[j]? = some v → Value.okWide Try.prog W .any base t v := hval0
  have hW' := hW
  obtain ⟨p, q, hA0, hV, rfl, hfz, hnd⟩ := hW
  have hA : DataW.TrodAll enc Try.prog W 0 (fun _ => true) true Try.f3.params.toList args.toList ds p := hA0
  rw [Try.params3] at hA hval hsz
  obtain ⟨v0, vs0, d0, ds0, p0, q0, hargs, rfl, rfl, h0, r0⟩ := trodAll_cons hA
  obtain ⟨v1, vs1, d1, ds1, p1, q1, rfl, rfl, rfl, h1, r1⟩ := trodAll_cons r0
  obtain ⟨v2, vs2, d2, ds2, p2, q2, rfl, rfl, rfl, h2, r2⟩ := trodAll_cons r1
  obtain ⟨v3, vs3, d3, ds3, p3, q3, rfl, rfl, rfl, h3, r3⟩ := trodAll_cons r2
  obtain ⟨rfl, rfl, rfl⟩ := trodAll_nil r3
  obtain rfl : args = #[v0, v1, v2, v3] := by cases args; simp_all
  obtain ⟨rfl, rfl⟩ := trodVars_none hV
  obtain ⟨a0, len0, cap0, rfl⟩ := okWide_slice Try.underlying22 (hval 0 22 v0 rfl rfl)
  have k0 := h0
  have lt0 : ∀ x ∈ p0, x.block < W.heap.size := by obtain ⟨m, hm⟩ := k0; exact DataW.trod_lt m _ _ _ hm
  obtain ⟨y0, z0, w0⟩ := Own.open_pair_row Try.underlying22 Try.underlying54 (by kernel_rfl) rfl rfl (by kernel_rfl) (by kernel_rfl) Try.underlying3 Try.underlying52 h0
  obtain ⟨a1, len1, cap1, rfl⟩ := okWide_slice Try.underlying23 (hval 1 23 v1 rfl rfl)
  have k1 := h1
  have lt1 : ∀ x ∈ p1, x.block < W.heap.size := by obtain ⟨m, hm⟩ := k1; exact DataW.trod_lt m _ _ _ hm
  obtain ⟨z1, w1⟩ : ∃ zs, Own.Arg .i64 W a1 len1 cap1 zs := by
    obtain ⟨fuel, hf⟩ := h1
    rcases open_ints Try.underlying23 Try.underlying3 (by kernel_rfl) hf with ⟨hcs, _⟩ | ⟨x, l, c, zs, hcs, _, hl, hm, hz, _, hcell, hwz⟩
    · simp [Value.cells] at hcs
      obtain ⟨rfl, rfl, rfl⟩ := hcs
      exact ⟨[], .inl ⟨rfl, rfl, rfl, rfl⟩⟩
    · simp [Value.cells] at hcs
      obtain ⟨rfl, rfl, rfl⟩ := hcs
      exact ⟨zs, .inr ⟨_, rfl, hl, hm, by simpa using hz, hcell, hwz⟩⟩
  have y1 : len1 * 8 ≤ 140737488351232 := Own.sized_ints hsz (j := 1) (t := 23) rfl rfl Try.underlying23 Try.underlying3 (by kernel_rfl) (by kernel_rfl) h1
  obtain ⟨a2, rfl, rfl, rfl, y2⟩ := open_string Try.underlying9 (hval 2 9 v2 rfl rfl) h2
  have w2 : a2.size ≤ 140737488351232 := by
    have z := sized_string hsz (j := 2) (t := 9) rfl rfl
    rw [Array.length_toList] at z
    exact z
  obtain ⟨a3, rfl, rfl, rfl, w3⟩ := open_int Try.underlying3 (hval 3 3 v3 rfl rfl) h3
  clear hA0 hval0 hsz0 hsz
  refine (HuffAll_walk a0 len0 cap0 z0 a1 len1 cap1 z1 a2 a3 W w0 y0 w1 y1 w2 w3).mono fun e W' ⟨he, bel⟩ => ?_
  subst he
  exact ⟨_, rfl, _, _, _, [], _, [], hW', trodAll_mk1 (shut_bool Try.underlying4 _), (trodAll_cons_mk (Below.trod laidOut (by kernel_rfl) (of_decide_eq_true (by kernel_rfl)) k0 bel lt0) (trodAll_cons_mk (Below.trod laidOut (by kernel_rfl) (of_decide_eq_true (by kernel_rfl)) k1 bel lt1) (trodAll_cons_mk (shut_string Try.underlying9 y2) (trodAll_cons_mk (shut_int Try.underlying3 w3) trodAll_mk0)))), rfl, bel.frame _, fun h => by cases h⟩
theorem over : Rows.huffAllRow.holds Try.pinned (OpenSpec.ofChange Rows.huffAllSpec) :=
  OpenClaim.holds_of_wide 3 Try.f3 rfl rfl rfl rfl rfl rfl rfl ⟨rfl, rfl, rfl, rfl, rfl⟩ rfl rfl rfl rfl rfl (by kernel_rfl) Try.func3 (by kernel_rfl)
    (of_decide_eq_true (by kernel_rfl)) (by unfold Func.isWrapper; first | (rw [if_pos (by decide +kernel)]; kernel_rfl) | (rw [if_neg (by decide +kernel)]; exact ⟨rfl, rfl⟩))
    (fun os started H enc _ => lifted os started H enc)
theorem proved : Rows.HuffAllSaid := over
#print axioms proved
end Go.Proofs.Ytnakjencodicmaa.huffAll
namespace Go.Proofs.Ytnakjencodicmaa
/-- The row, under a short name. -/
theorem huffAll_holds : Rows.HuffAllSaid := huffAll.proved
end Go.Proofs.Ytnakjencodicmaa
