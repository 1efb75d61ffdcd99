/- Part SpreadRefuses1 of what the layer's laws stand on: PAx22, PureSpreadRefuses, LawSpreadRefuses. Written by a program (merge.py) out of this session's own texts and of what the kit's print wrote over stand-ins (sp.py). Conditions: those that each theorem names. -/
import Derived.Test.YtlconnmfceabiaaQB1
import Derived.Test.YtlconnmfceabiaaQB2
import Derived.Test.YtlconnmfceabiaaQB3
import Derived.Test.YtlconnmfceabiaaRows
import Derived.WalkKit
import Derived.ProofKit
import Derived.OpenShut
import Derived.ShutString
import Derived.ChangeOld
import Derived.Below
import Derived.SizedLaws
import Derived.Test.YtlconnmfceabiaaWSized
-- ---- PAx22

namespace Go.Proofs.Ytlconnmfceabiaa.PA
open Go.RowKit Go.Proofs.YtlconnmfceabiaaW.PrintWords Go.Proofs.YtlconnmfceabiaaW.PrintLast Go.Proofs.YtlconnmfceabiaaW.PrintMore
attribute [local go_sem] max2_int min2_int max_two min_two max_three min_three max_four min_four   -- for this text's walks alone
set_option linter.unusedVariables false
set_option linter.unusedSimpArgs false

/-! ### wringerlaw13_SpreadRefuses: function 6 -/
def wringerlaw13_SpreadRefuses.j0 : Nat → List Int → Int → Option (Bool)
  | 0, _, _ => none
  | k + 1, x7, x8 => (spread_Spread.f k x7 x8).bind fun bt297 => ((spread_Table.f x7 x8).bind fun bt301 => ((wringerlaw1_Err.f bt297.2).bind fun t305 => (if t305 = 3 then ((wringerlaw1_Err.f bt301.2).bind fun t306 => (if t306 = 3 then (if (wrap64 ((bt297.1.length : Int) + (bt301.1.length : Int))) = 0 then ((wringerlaw13_awake.f).bind fun t307 => (some t307)) else (some false)) else (some false))) else (some false))))
def wringerlaw13_SpreadRefuses.f (k : Nat) (l0 : List Int) (a1 : Int) (a2 : Int) : Option (Bool) := if (l0.length : Int) > 140 then ((wringerlaw13_awake.f).bind fun t272 => (some t272)) else ((wringerlaw13_Counts.f k l0 a1).bind fun bt273 => (if (Int.tmod a2 4) = 0 then ((some (([] : List Int) : List Int)).bind fun y277 => (if y277.length + bt273.1.length < 17592186044416 then ((some (y277 ++ bt273.1 : List Int)).bind fun y280 => (if y280.length < 17592186044416 then (wringerlaw13_SpreadRefuses.j0 k (y280 ++ [0]) bt273.2) else (none))) else (none))) else (if (Int.tmod a2 4) = 1 then ((some (([] : List Int) : List Int)).bind fun y286 => (if y286.length + bt273.1.length < 17592186044416 then ((some (y286 ++ bt273.1 : List Int)).bind fun y289 => (if 2 < (y289.length : Int) then (wringerlaw13_SpreadRefuses.j0 k (y289.set (2 : Int).toNat (wrap64 ((rd y289 2) + 1))) bt273.2) else (none))) else (none))) else (if (Int.tmod a2 4) = 2 then (wringerlaw13_SpreadRefuses.j0 k bt273.1 13) else (if 64 ≤ (bt273.1.length : Int) then (wringerlaw13_SpreadRefuses.j0 k (bt273.1.take (64 : Int).toNat) bt273.2) else (none))))))
theorem wringerlaw13_SpreadRefuses.mono_l : ∀ k, (∀ y0 y1, LeO (wringerlaw13_SpreadRefuses.j0 k y0 y1) (wringerlaw13_SpreadRefuses.j0 (k + 1) y0 y1))
  | 0 => fun _ _ r h => by simp [wringerlaw13_SpreadRefuses.j0] at h
  | k + 1 => by
    have ih0 := wringerlaw13_SpreadRefuses.mono_l k
    · intro y0 y1
      unfold wringerlaw13_SpreadRefuses.j0
      repeat' first
      | (with_reducible exact ih0 _ _)
      | (with_reducible exact spread_Spread.mono _ _ _)
      | (with_reducible exact wringerlaw13_Counts.mono _ _ _)
      | (with_reducible exact LeO.refl _)
      | (with_reducible exact LeO.none _)
      | (with_reducible refine LeO.ite ?_ ?_)
      | (with_reducible refine LeO.bind ?_ (fun _ => ?_))
      | exact ih0 _ _
      | exact spread_Spread.mono _ _ _
      | exact wringerlaw13_Counts.mono _ _ _
      | exact LeO.none _
      | refine LeO.ite ?_ ?_
      | refine LeO.bind ?_ (fun _ => ?_)
theorem wringerlaw13_SpreadRefuses.mono : ∀ a0 a1 a2 k, LeO (wringerlaw13_SpreadRefuses.f k a0 a1 a2) (wringerlaw13_SpreadRefuses.f (k + 1) a0 a1 a2) := by
  intro a0 a1 a2 k
  have ih0 := wringerlaw13_SpreadRefuses.mono_l k
  unfold wringerlaw13_SpreadRefuses.f
  repeat' first
      | (with_reducible exact ih0 _ _)
      | (with_reducible exact spread_Spread.mono _ _ _)
      | (with_reducible exact wringerlaw13_Counts.mono _ _ _)
      | (with_reducible exact LeO.refl _)
      | (with_reducible exact LeO.none _)
      | (with_reducible refine LeO.ite ?_ ?_)
      | (with_reducible refine LeO.bind ?_ (fun _ => ?_))
      | exact ih0 _ _
      | exact spread_Spread.mono _ _ _
      | exact wringerlaw13_Counts.mono _ _ _
      | exact LeO.none _
      | refine LeO.ite ?_ ?_
      | refine LeO.bind ?_ (fun _ => ?_)
set_option maxHeartbeats 8000000 in
set_option maxRecDepth 100000 in
theorem wringerlaw13_SpreadRefuses.calls (k : Nat) (A0 : Option Addr) (c0 : Nat) (l0 : List Int) (a1 : Int) (a2 : Int) (r : Bool) (w : World) (hr0 : Kd.C (Kd.int .u16) w A0 l0.length l0) (hc0 : l0.length ≤ c0) (h : wringerlaw13_SpreadRefuses.f k l0 a1 a2 = some r) :
    Calls Try.prog 6 #[.slice A0 l0.length c0, .int .u8 a1, .int .u8 a2] w fun e w' => e = .returned (.bool r) ∧ Below w.heap.size w w' := by
  have HR0 := Aside0.mk hr0
  have HC0 := Aside0.mk hc0
  clear hr0 hc0
  have HB := Aside0.mk (Below.refl w.heap.size w)
  have H : (if (l0.length : Int) > 140 then ((wringerlaw13_awake.f).bind fun t272 => (some t272)) else ((wringerlaw13_Counts.f k l0 a1).bind fun bt273 => (if (Int.tmod a2 4) = 0 then ((some (([] : List Int) : List Int)).bind fun y277 => (if y277.length + bt273.1.length < 17592186044416 then ((some (y277 ++ bt273.1 : List Int)).bind fun y280 => (if y280.length < 17592186044416 then (wringerlaw13_SpreadRefuses.j0 k (y280 ++ [0]) bt273.2) else (none))) else (none))) else (if (Int.tmod a2 4) = 1 then ((some (([] : List Int) : List Int)).bind fun y286 => (if y286.length + bt273.1.length < 17592186044416 then ((some (y286 ++ bt273.1 : List Int)).bind fun y289 => (if 2 < (y289.length : Int) then (wringerlaw13_SpreadRefuses.j0 k (y289.set (2 : Int).toNat (wrap64 ((rd y289 2) + 1))) bt273.2) else (none))) else (none))) else (if (Int.tmod a2 4) = 2 then (wringerlaw13_SpreadRefuses.j0 k bt273.1 13) else (if 64 ≤ (bt273.1.length : Int) then (wringerlaw13_SpreadRefuses.j0 k (bt273.1.take (64 : Int).toNat) bt273.2) else (none))))))) = some r := h
  clear h
  by_cases c4 : (l0.length : Int) > 140
  · rw [if_pos c4] at H
    have c4b0 : decide (140 < (l0.length : Int)) = true := decide_eq_true c4
    have c4b1 : decide (140 < l0.length) = true := decide_eq_true (by omega)
    clear c4
    replace H := Option.bind_eq_some_iff.mp H
    obtain ⟨t272, A50, H⟩ := H
    replace H : (some t272) = some r := H
    have A5 := Aside0.mk A50
    clear A50
    obtain rfl := Option.some.inj H
    go_enter Try.func6, Try.ntmps6
    go_wp2_with (first | ((with_reducible refine gate_callee (f := 8) rfl ?_); refine goesL_ (some 16) rfl rfl Try.func8 (by kernel_rfl) rfl #[] rfl (by (try simp only [List.map_toArray, List.map_cons, List.map_nil]); first | done | rfl | (simp only [List.length_drop, List.length_take]; rfl)) ?_; (with_reducible refine (wringerlaw13_awake.calls  t272 _ A5.out).mono ?_); rintro e w6 ⟨rfl, hb⟩; refine ⟨_, rfl, ?_⟩; have n0_ := Aside0.mk (below_step (by repeat (first | (with_reducible first | exact HB.out | apply below_alloc | apply pw_below_drewN | apply below_drew1) | exact HB.out)) hb); clear HB; have HB := n0_; clear n0_; (try clear hb); (try clear hb2); (try clear hk); (try clear hi)))
    go_ret
    exact ⟨by first | rfl | (simp [errW_none, errW_some] <;> rfl) | (simp [*, errW_none, errW_some] <;> rfl), by repeat (first | (with_reducible first | exact HB.out | apply below_alloc | apply pw_below_drewN | apply below_drew1) | exact HB.out)⟩
  · rw [if_neg c4] at H
    have c4b0 : decide (140 < (l0.length : Int)) = false := decide_eq_false c4
    have c4b1 : decide (140 < l0.length) = false := decide_eq_false (by omega)
    clear c4
    replace H := Option.bind_eq_some_iff.mp H
    obtain ⟨⟨t273, t274⟩, A70, H⟩ := H
    replace H : (if (Int.tmod a2 4) = 0 then ((some (([] : List Int) : List Int)).bind fun y277 => (if y277.length + t273.length < 17592186044416 then ((some (y277 ++ t273 : List Int)).bind fun y280 => (if y280.length < 17592186044416 then (wringerlaw13_SpreadRefuses.j0 k (y280 ++ [0]) t274) else (none))) else (none))) else (if (Int.tmod a2 4) = 1 then ((some (([] : List Int) : List Int)).bind fun y286 => (if y286.length + t273.length < 17592186044416 then ((some (y286 ++ t273 : List Int)).bind fun y289 => (if 2 < (y289.length : Int) then (wringerlaw13_SpreadRefuses.j0 k (y289.set (2 : Int).toNat (wrap64 ((rd y289 2) + 1))) t274) else (none))) else (none))) else (if (Int.tmod a2 4) = 2 then (wringerlaw13_SpreadRefuses.j0 k t273 13) else (if 64 ≤ (t273.length : Int) then (wringerlaw13_SpreadRefuses.j0 k (t273.take (64 : Int).toNat) t274) else (none))))) = some r := H
    have A7 := Aside0.mk A70
    clear A70
    have HC8 := Aside0.mk H
    clear H
    go_enter Try.func6, Try.ntmps6
    go_upto_block 0 with (first | ((with_reducible refine gate_callee (f := 16) rfl ?_); refine goesL_ (some 20) rfl rfl Try.func16 (by kernel_rfl) rfl #[.slice A0 l0.length c0, .int .u8 a1] rfl (by (try simp only [List.map_toArray, List.map_cons, List.map_nil]); first | done | rfl | (simp only [List.length_drop, List.length_take]; rfl)) ?_; (with_reducible refine (wringerlaw13_Counts.calls k _ _ l0 a1 t273 t274 _ ?side1 ?side2 A7.out).mono ?_); (case side1 => repeat (first | exact HR0.out | (with_reducible refine Kd.C_alloc ?_ _) | (with_reducible refine Kd.C_drewN ?_ _) | (with_reducible refine Kd.C_drew ?_))); (case side2 => exact HC0.out); rintro e w9 ⟨v275, rfl, ho0, hb⟩; refine ⟨_, rfl, ?_⟩; have n0_ := Aside0.mk (Kd.R_lower ho0 (below_size (by repeat (first | (with_reducible first | exact HB.out | apply below_alloc | apply pw_below_drewN | apply below_drew1) | exact HB.out)))); have n1_ := Aside0.mk (below_step (by repeat (first | (with_reducible first | exact HB.out | apply below_alloc | apply pw_below_drewN | apply below_drew1) | exact HB.out)) hb); clear HB; have HO276 := n0_; have HB := n1_; clear n0_ n1_; (try clear hb); (try clear hb2); (try clear hk); (try clear hi); (try clear ho0)))
    (try simp only [Act.put, List.setIfInBounds_toArray, List.set_cons_zero, List.set_cons_succ])
    go_cut [7, 8] (fun v7 v8 wc => ∃ (kq : Nat) (x7_7 : List Int) (x8_7 : Int), v8 = .int .i64 x8_7 ∧ Aside0 (wringerlaw13_SpreadRefuses.j0 kq x7_7 x8_7 = some r) ∧ Aside0 (kq ≤ k) ∧ Aside0 (Kd.R (Kd.int .i64) 3 wc w.heap.size (fun _ => True) v7 x7_7) ∧ Aside0 (Below w.heap.size w wc))
    case first =>
      have H := HC8.out
      clear HC8
      by_cases c10 : (Int.tmod a2 4) = 0
      · rw [if_pos c10] at H
        have c10b0 : ((Int.tmod a2 4) == 0) = true := beq_iff_eq.mpr c10
        have c10b1 : ((Int.tmod a2 4) != 0) = false := bne_eq_false_iff_eq.mpr c10
        clear c10
        (first | rw [c10b0] | (simp only [i64_w, i32_w]; rw [c10b0]) | skip)
        obtain ⟨y277, hy277⟩ : ∃ y_ : List Int, y_ = (([] : List Int)) := ⟨_, rfl⟩
        replace H : (if y277.length + t273.length < 17592186044416 then ((some (y277 ++ t273 : List Int)).bind fun y280 => (if y280.length < 17592186044416 then (wringerlaw13_SpreadRefuses.j0 k (y280 ++ [0]) t274) else (none))) else (none)) = some r := by first | (rw [hy277]; with_reducible exact H) | (have H2_ := (Option.bind_some _ _).symm.trans H; rw [hy277]; with_reducible exact H2_) | (have H2_ := (Option.bind_some _ _).symm.trans H; with_reducible exact H2_) | with_reducible exact H | (rw [hy277]; exact H) | exact H
        have Ny277 := Aside0.mk hy277
        clear hy277
        by_cases c11 : y277.length + t273.length < 17592186044416
        · rw [if_pos c11] at H
          have LMc11 := Aside0.mk c11
          clear c11
          obtain ⟨y280, hy280⟩ : ∃ y_ : List Int, y_ = (y277 ++ t273) := ⟨_, rfl⟩
          replace H : (if y280.length < 17592186044416 then (wringerlaw13_SpreadRefuses.j0 k (y280 ++ [0]) t274) else (none)) = some r := by first | (rw [hy280]; with_reducible exact H) | (have H2_ := (Option.bind_some _ _).symm.trans H; rw [hy280]; with_reducible exact H2_) | (have H2_ := (Option.bind_some _ _).symm.trans H; with_reducible exact H2_) | with_reducible exact H | (rw [hy280]; exact H) | exact H
          have Ny280 := Aside0.mk hy280
          clear hy280
          by_cases c12 : y280.length < 17592186044416
          · rw [if_pos c12] at H
            have LMc12 := Aside0.mk c12
            clear c12
            obtain ⟨y283, hy283⟩ : ∃ y_ : List Int, y_ = (y280 ++ [0]) := ⟨_, rfl⟩
            replace H : (wringerlaw13_SpreadRefuses.j0 k y283 t274) = some r := by first | (rw [hy283]; with_reducible exact H) | (have H2_ := (Option.bind_some _ _).symm.trans H; rw [hy283]; with_reducible exact H2_) | (have H2_ := (Option.bind_some _ _).symm.trans H; with_reducible exact H2_) | with_reducible exact H | (rw [hy283]; exact H) | exact H
            have Ny283 := Aside0.mk hy283
            clear hy283
            have H' := Aside0.mk H
            clear H
            go_wp2_with (first | ((with_reducible refine gate_dst (N := 29) rfl ?_); (try (refine gate_guard (by rfl) ?_; dsimp only)); refine Kd.R_lit (Kd.int .i64) _ 3 ?hg (N := 29) ?hd (xs := ([] : List Int)) (inner := []) (ok := fun _ => True) (okp := fun _ => True) ?hr ?hp (fun _ hk => hk) trivial (Below.refl _ _) (Nat.le_refl _) (by simp) ?_; (case hd => rfl); (case hg => rfl); (case hr => first | (go_simp; done) | (go_simp; rfl)); (case hp => exact (Reps.none _ _)); intro v278 w13 ho14 hb hg_ hnew_; clear hg_ hnew_; (first | rw [← Ny277.out] at ho14 | (simp only [Int.reduceToNat] at ho14; rw [← Ny277.out] at ho14)); have n0_ := Aside0.mk (Kd.R_elder' (by (with_reducible repeat (first | apply Kd.R_alloc | apply Kd.R_drewN | apply Kd.R_drew)); exact HO276.out) (Kd.R_base ho14) hb); have n1_ := Aside0.mk (Kd.R_lower (Kd.R_new' ho14 (Kd.R_lt (by (with_reducible repeat (first | apply Kd.R_alloc | apply Kd.R_drewN | apply Kd.R_drew)); exact HO276.out))) (below_size (by repeat (first | (with_reducible first | exact HB.out | apply below_alloc | apply pw_below_drewN | apply below_drew1) | exact HB.out)))); have n2_ := Aside0.mk (below_step (by repeat (first | (with_reducible first | exact HB.out | apply below_alloc | apply pw_below_drewN | apply below_drew1) | exact HB.out)) hb); clear HO276; clear HB; have HO276 := n0_; have HO279 := n1_; have HB := n2_; clear n0_ n1_ n2_; clear hb ho14; obtain ⟨Ao16, co16, eo16⟩ := Kd.R_slice HO276.out; subst eo16) | ((with_reducible refine gate_builtin (b := .append) (xs := #[.tmp 29, .tmp 30]) rfl ?_); (try (refine gate_guard (by rfl) ?_; dsimp only)); at_builtin; refine Kd.R_append_rows (Kd.int .i64) (w0 := w) w.heap.size rfl (.tmp 29) (.tmp 30) 22 3 (.int .i64 0) 8 rfl Try.underlying22 info3 rfl (by decide) (by omega) v278 y277 t273 _ _ _ (fun k_ => some k_ ≠ (.slice Ao16 t273.length co16 : Value).ownBlock) (fun _ => False) rfl rfl ?aO ?aR (fun _ _ h => h) (fun _ h => h.elim) ?aF ?aB ?aS ?aL ?_; (case aR => repeat (first | exact (Kd.R_reads' HO276.out).2.2 | (with_reducible refine Kd.C_alloc ?_ _) | (with_reducible refine Kd.C_drewN ?_ _) | (with_reducible refine Kd.C_drew ?_))); (case aB => exact (by repeat (first | (with_reducible first | exact HB.out | apply below_alloc | apply pw_below_drewN | apply below_drew1) | exact HB.out))); (case aF => exact (fun k_ hk => Kd.fresh' (Kd.R_lt (by (with_reducible repeat (first | apply Kd.R_alloc | apply Kd.R_drewN | apply Kd.R_drew)); exact HO276.out)) k_ hk)); (case aO => exact (by (with_reducible repeat (first | apply Kd.R_alloc | apply Kd.R_drewN | apply Kd.R_drew)); exact Kd.R_mono HO279.out (fun _ hk => hk.2))); (case aS => exact (below_size (by repeat (first | (with_reducible first | exact HB.out | apply below_alloc | apply pw_below_drewN | apply below_drew1) | exact HB.out)))); (case aL => have := LMc11.out; omega); intro v281 w15 ho hb hg hat; rw [← Ny280.out] at ho; have n0_ := Aside0.mk (Kd.R_after (ok := (fun _ => True)) (by (with_reducible repeat (first | apply Kd.R_alloc | apply Kd.R_drewN | apply Kd.R_drew)); exact HO276.out) hg hat); have n1_ := Aside0.mk (hb); have n2_ := Aside0.mk (ho); clear HO276; clear HB; clear HO279; have HO276 := n0_; have HB := n1_; have HO282 := n2_; clear n0_ n1_ n2_; clear ho hb hg hat) | ((with_reducible refine gate_builtin (b := .append) (xs := #[.tmp 31, .tmp 32]) rfl ?_); (try (refine gate_guard (by rfl) ?_; dsimp only)); at_builtin; refine Kd.R_append (Kd.int .i64) (w0 := w) w.heap.size rfl (.tmp 31) (.tmp 32) 22 3 (.int .i64 0) 8 rfl Try.underlying22 info3 rfl (by decide) (by omega) v281 y280 0 [.int .i64 0] (fun k_ => some k_ ≠ (.slice Ao16 t273.length co16 : Value).ownBlock) (fun _ => False) rfl rfl ?aP (fun _ hk => hk.elim) ?aF ?aO ?aB ?aS ?aL ?_; (case aP => exact rfl); (case aB => exact (by repeat (first | (with_reducible first | exact HB.out | apply below_alloc | apply pw_below_drewN | apply below_drew1) | exact HB.out))); (case aF => exact (fun k_ hk => Kd.fresh' (Kd.R_lt (by (with_reducible repeat (first | apply Kd.R_alloc | apply Kd.R_drewN | apply Kd.R_drew)); exact HO276.out)) k_ hk)); (case aO => exact (by (with_reducible repeat (first | apply Kd.R_alloc | apply Kd.R_drewN | apply Kd.R_drew)); exact HO282.out)); (case aS => exact (below_size (by repeat (first | (with_reducible first | exact HB.out | apply below_alloc | apply pw_below_drewN | apply below_drew1) | exact HB.out)))); (case aL => have := LMc12.out; omega); intro v284 w17 ho hb hg hat; rw [← Ny283.out] at ho; have n0_ := Aside0.mk (Kd.R_after (ok := (fun _ => True)) (by (with_reducible repeat (first | apply Kd.R_alloc | apply Kd.R_drewN | apply Kd.R_drew)); exact HO276.out) hg hat); have n1_ := Aside0.mk (hb); have n2_ := Aside0.mk (ho); clear HO276; clear HB; clear HO282; have HO276 := n0_; have HB := n1_; have HO285 := n2_; clear n0_ n1_ n2_; clear ho hb hg hat))
            go_meet
            case rel => exact ⟨_, (y283), (t274), (by first | rfl | (simp; done) | (simp [*]; done)), H', ⟨by first | omega | exact Nat.le_refl _⟩, ⟨by (with_reducible repeat (first | apply Kd.R_alloc | apply Kd.R_drewN | apply Kd.R_drew)); exact Kd.R_mono HO285.out (fun _ hk => trivial)⟩, ⟨by repeat (first | (with_reducible first | exact HB.out | apply below_alloc | apply pw_below_drewN | apply below_drew1) | exact HB.out)⟩⟩
          · rw [if_neg c12] at H
            exact absurd H (by simp)
        · rw [if_neg c11] at H
          exact absurd H (by simp)
      · rw [if_neg c10] at H
        have c10b0 : ((Int.tmod a2 4) == 0) = false := beq_eq_false_iff_ne.mpr c10
        have c10b1 : ((Int.tmod a2 4) != 0) = true := bne_iff_ne.mpr c10
        (first | rw [c10b0] | (simp only [i64_w, i32_w]; rw [c10b0]) | skip)
        by_cases c18 : (Int.tmod a2 4) = 1
        · rw [if_pos c18] at H
          have c18b0 : ((Int.tmod a2 4) == 1) = true := beq_iff_eq.mpr c18
          have c18b1 : ((Int.tmod a2 4) != 1) = false := bne_eq_false_iff_eq.mpr c18
          clear c18
          obtain ⟨y286, hy286⟩ : ∃ y_ : List Int, y_ = (([] : List Int)) := ⟨_, rfl⟩
          replace H : (if y286.length + t273.length < 17592186044416 then ((some (y286 ++ t273 : List Int)).bind fun y289 => (if 2 < (y289.length : Int) then (wringerlaw13_SpreadRefuses.j0 k (y289.set (2 : Int).toNat (wrap64 ((rd y289 2) + 1))) t274) else (none))) else (none)) = some r := by first | (rw [hy286]; with_reducible exact H) | (have H2_ := (Option.bind_some _ _).symm.trans H; rw [hy286]; with_reducible exact H2_) | (have H2_ := (Option.bind_some _ _).symm.trans H; with_reducible exact H2_) | with_reducible exact H | (rw [hy286]; exact H) | exact H
          have Ny286 := Aside0.mk hy286
          clear hy286
          by_cases c19 : y286.length + t273.length < 17592186044416
          · rw [if_pos c19] at H
            have LMc19 := Aside0.mk c19
            clear c19
            obtain ⟨y289, hy289⟩ : ∃ y_ : List Int, y_ = (y286 ++ t273) := ⟨_, rfl⟩
            replace H : (if 2 < (y289.length : Int) then (wringerlaw13_SpreadRefuses.j0 k (y289.set (2 : Int).toNat (wrap64 ((rd y289 2) + 1))) t274) else (none)) = some r := by first | (rw [hy289]; with_reducible exact H) | (have H2_ := (Option.bind_some _ _).symm.trans H; rw [hy289]; with_reducible exact H2_) | (have H2_ := (Option.bind_some _ _).symm.trans H; with_reducible exact H2_) | with_reducible exact H | (rw [hy289]; exact H) | exact H
            have Ny289 := Aside0.mk hy289
            clear hy289
            by_cases c20 : 2 < (y289.length : Int)
            · rw [if_pos c20] at H
              have c20b0 : decide (2 < (y289.length : Int)) = true := decide_eq_true c20
              have c20b1 : decide (2 < y289.length) = true := decide_eq_true (by omega)
              clear c20
              obtain ⟨y293, hy293⟩ : ∃ y_ : List Int, y_ = (y289.set (2 : Int).toNat (wrap64 ((rd y289 2) + 1))) := ⟨_, rfl⟩
              replace H : (wringerlaw13_SpreadRefuses.j0 k y293 t274) = some r := by first | (rw [hy293]; with_reducible exact H) | (have H2_ := (Option.bind_some _ _).symm.trans H; rw [hy293]; with_reducible exact H2_) | (have H2_ := (Option.bind_some _ _).symm.trans H; with_reducible exact H2_) | with_reducible exact H | (rw [hy293]; exact H) | exact H
              have Ny293 := Aside0.mk hy293
              clear hy293
              have H' := Aside0.mk H
              clear H
              go_wp2_with (first | ((with_reducible refine gate_dst (N := 36) rfl ?_); (try (refine gate_guard (by rfl) ?_; dsimp only)); refine Kd.R_lit (Kd.int .i64) _ 3 ?hg (N := 36) ?hd (xs := ([] : List Int)) (inner := []) (ok := fun _ => True) (okp := fun _ => True) ?hr ?hp (fun _ hk => hk) trivial (Below.refl _ _) (Nat.le_refl _) (by simp) ?_; (case hd => rfl); (case hg => rfl); (case hr => first | (go_simp; done) | (go_simp; rfl)); (case hp => exact (Reps.none _ _)); intro v287 w22 ho23 hb hg_ hnew_; clear hg_ hnew_; (first | rw [← Ny286.out] at ho23 | (simp only [Int.reduceToNat] at ho23; rw [← Ny286.out] at ho23)); have n0_ := Aside0.mk (Kd.R_elder' (by (with_reducible repeat (first | apply Kd.R_alloc | apply Kd.R_drewN | apply Kd.R_drew)); exact HO276.out) (Kd.R_base ho23) hb); have n1_ := Aside0.mk (Kd.R_lower (Kd.R_new' ho23 (Kd.R_lt (by (with_reducible repeat (first | apply Kd.R_alloc | apply Kd.R_drewN | apply Kd.R_drew)); exact HO276.out))) (below_size (by repeat (first | (with_reducible first | exact HB.out | apply below_alloc | apply pw_below_drewN | apply below_drew1) | exact HB.out)))); have n2_ := Aside0.mk (below_step (by repeat (first | (with_reducible first | exact HB.out | apply below_alloc | apply pw_below_drewN | apply below_drew1) | exact HB.out)) hb); clear HO276; clear HB; have HO276 := n0_; have HO288 := n1_; have HB := n2_; clear n0_ n1_ n2_; clear hb ho23; obtain ⟨Ao25, co25, eo25⟩ := Kd.R_slice HO276.out; subst eo25) | ((with_reducible refine gate_builtin (b := .append) (xs := #[.tmp 36, .tmp 37]) rfl ?_); (try (refine gate_guard (by rfl) ?_; dsimp only)); at_builtin; refine Kd.R_append_rows (Kd.int .i64) (w0 := w) w.heap.size rfl (.tmp 36) (.tmp 37) 22 3 (.int .i64 0) 8 rfl Try.underlying22 info3 rfl (by decide) (by omega) v287 y286 t273 _ _ _ (fun k_ => some k_ ≠ (.slice Ao25 t273.length co25 : Value).ownBlock) (fun _ => False) rfl rfl ?aO ?aR (fun _ _ h => h) (fun _ h => h.elim) ?aF ?aB ?aS ?aL ?_; (case aR => repeat (first | exact (Kd.R_reads' HO276.out).2.2 | (with_reducible refine Kd.C_alloc ?_ _) | (with_reducible refine Kd.C_drewN ?_ _) | (with_reducible refine Kd.C_drew ?_))); (case aB => exact (by repeat (first | (with_reducible first | exact HB.out | apply below_alloc | apply pw_below_drewN | apply below_drew1) | exact HB.out))); (case aF => exact (fun k_ hk => Kd.fresh' (Kd.R_lt (by (with_reducible repeat (first | apply Kd.R_alloc | apply Kd.R_drewN | apply Kd.R_drew)); exact HO276.out)) k_ hk)); (case aO => exact (by (with_reducible repeat (first | apply Kd.R_alloc | apply Kd.R_drewN | apply Kd.R_drew)); exact Kd.R_mono HO288.out (fun _ hk => hk.2))); (case aS => exact (below_size (by repeat (first | (with_reducible first | exact HB.out | apply below_alloc | apply pw_below_drewN | apply below_drew1) | exact HB.out)))); (case aL => have := LMc19.out; omega); intro v290 w24 ho hb hg hat; rw [← Ny289.out] at ho; have n0_ := Aside0.mk (Kd.R_after (ok := (fun _ => True)) (by (with_reducible repeat (first | apply Kd.R_alloc | apply Kd.R_drewN | apply Kd.R_drew)); exact HO276.out) hg hat); have n1_ := Aside0.mk (hb); have n2_ := Aside0.mk (ho); clear HO276; clear HB; clear HO288; have HO276 := n0_; have HB := n1_; have HO291 := n2_; clear n0_ n1_ n2_; clear ho hb hg hat; obtain ⟨Ao26, co26, eo26⟩ := Kd.R_slice HO291.out; subst eo26; have p292 : 0 ≤ (2 : Int) := (by omega); have q292 : 2 < (y289.length : Int) := of_decide_eq_true (by first | (with_reducible assumption) | assumption); obtain ⟨ad292, e292, hx292_0⟩ := Kd.at_int (Kd.R_reads' HO291.out).2.2 2 p292 q292; cases e292; (try simp only [show (2 : Int).toNat = 2 from rfl, Nat.reduceMul, Nat.reduceEqDiff, Go.Addr.add, ↓reduceIte] at hx292_0); have qi292 : (2 < y289.length) = True := eq_true (by omega); (try rw [show ((2 : Int)).toNat = 2 from rfl] at hx292_0); replace p292 := eq_true p292; replace q292 := eq_true q292; have p21 : 0 ≤ (2 : Int) := (by omega); have q21 : (2 : Int) < ((y289.length : Int) : Int) := of_decide_eq_true (by first | (with_reducible assumption) | assumption); have qi21 : (2 < y289.length) = True := eq_true (by omega); obtain ⟨go21, co21, eo21, gb21, gl21, cl21, HG21⟩ := Kd.R_form HO291.out (by omega); (first | cases eo21 | (injection eo21 with ea_ en_ ec_; (first | subst ea_ | (injection ea_ with ea_; subst ea_)); subst ec_; clear en_)); have GB21 := Aside0.mk gb21; have GG21 := Aside0.mk HG21; clear gb21 gl21 HG21; (first | simp only [add_plain] at hx292_0 | skip); obtain ⟨hx21_0, hf21_0⟩ := Kd.R_celln 0 HO291.out (2 : Int) p21 q21; (try rw [show ((2 : Int)).toNat = 2 from rfl] at hx21_0); (try simp only [Nat.reduceMul, Nat.zero_mul, Nat.zero_add, Nat.reduceAdd] at hx21_0); (try rw [show ((2 : Int)).toNat = 2 from rfl] at hf21_0); (try simp only [Nat.reduceMul, Nat.zero_mul, Nat.zero_add, Nat.reduceAdd] at hf21_0); replace p21 := eq_true p21; replace q21 := eq_true q21; obtain ⟨hy27_, hz27_⟩ := Kd.R_celln 0 HO291.out (2 : Int) (by omega) (of_decide_eq_true (by first | (with_reducible assumption) | assumption)); (try simp only [Int.reduceToNat, Int.toNat_zero, Int.toNat_ofNat, Nat.reduceMul, Nat.zero_mul, Nat.zero_add] at hy27_ hz27_); (try rw [show ((2 : Int)).toNat = 2 from rfl] at hy27_); (try rw [show ((2 : Int)).toNat = 2 from rfl] at hz27_); have HP27 := Kd.R_putg HO291.out (2 : Int) (wrap64 ((rd y289 2) + 1))) | ((with_reducible refine gate_store (t := 3) (p := 43) rfl ?_); refine store_event (t := 3) (p := 43) (v := ?vo_w28) (w1 := (w24.setCell ⟨go21, (2 : Int).toNat, none⟩ (.int .i64 (wrap64 ((rd y289 2) + 1))))) ?hg ?ho ?hn ?hr ?_; (case ho => rfl); (case hg => rfl); (case hn => rfl); (case hr => first | (go_simp; done) | (go_simp; rfl)); intro w28 hw; have hg : w24.grownBy w28 (some go21) := (by rw [hw]; exact HP27.2); have hp_ : Kd.R (Kd.int .i64) 3 w28 w.heap.size (fun k_ => some k_ ≠ (.slice Ao25 t273.length co25 : Value).ownBlock) (.slice (some ⟨go21, 0, none⟩) y289.length co26) y293 := (by rw [hw, Ny293.out]; exact HP27.1); clear HP27; have n0_ := Aside0.mk (Kd.R_after (v := (.slice (some ⟨go21, 0, none⟩) y289.length co26)) (v1 := (.slice (some ⟨go21, 0, none⟩) y289.length co26)) (ok := (fun _ => True)) (by (with_reducible repeat (first | apply Kd.R_alloc | apply Kd.R_drewN | apply Kd.R_drew)); exact HO276.out) hg (.inl rfl)); have n1_ := Aside0.mk (hp_); have n2_ := Aside0.mk ((by rw [hw]; exact below_set (HB.out) GB21.out : Below w.heap.size w w28)); clear HO276; clear HO291; clear HB; have HO276 := n0_; have HO291 := n1_; have HB := n2_; clear n0_ n1_ n2_; clear hg hw hp_))
              go_meet
              case rel => exact ⟨_, (y293), (t274), (by first | rfl | (simp; done) | (simp [*]; done)), H', ⟨by first | omega | exact Nat.le_refl _⟩, ⟨by (with_reducible repeat (first | apply Kd.R_alloc | apply Kd.R_drewN | apply Kd.R_drew)); exact Kd.R_mono HO291.out (fun _ hk => trivial)⟩, ⟨by repeat (first | (with_reducible first | exact HB.out | apply below_alloc | apply pw_below_drewN | apply below_drew1) | exact HB.out)⟩⟩
            · rw [if_neg c20] at H
              exact absurd H (by simp)
          · rw [if_neg c19] at H
            exact absurd H (by simp)
        · rw [if_neg c18] at H
          have c18b0 : ((Int.tmod a2 4) == 1) = false := beq_eq_false_iff_ne.mpr c18
          have c18b1 : ((Int.tmod a2 4) != 1) = true := bne_iff_ne.mpr c18
          by_cases c29 : (Int.tmod a2 4) = 2
          · rw [if_pos c29] at H
            have c29b0 : ((Int.tmod a2 4) == 2) = true := beq_iff_eq.mpr c29
            have c29b1 : ((Int.tmod a2 4) != 2) = false := bne_eq_false_iff_eq.mpr c29
            clear c29
            have H' := Aside0.mk H
            clear H
            go_wp2
            go_meet
            case rel => exact ⟨_, (t273), (13), (by first | rfl | (simp; done) | (simp [*]; done)), H', ⟨by first | omega | exact Nat.le_refl _⟩, ⟨by (with_reducible repeat (first | apply Kd.R_alloc | apply Kd.R_drewN | apply Kd.R_drew)); exact HO276.out⟩, ⟨by repeat (first | (with_reducible first | exact HB.out | apply below_alloc | apply pw_below_drewN | apply below_drew1) | exact HB.out)⟩⟩
          · rw [if_neg c29] at H
            have c29b0 : ((Int.tmod a2 4) == 2) = false := beq_eq_false_iff_ne.mpr c29
            have c29b1 : ((Int.tmod a2 4) != 2) = true := bne_iff_ne.mpr c29
            by_cases c30 : 64 ≤ (t273.length : Int)
            · rw [if_pos c30] at H
              have c30b0 := eq_true c30
              have c30b1 : decide (64 ≤ (t273.length : Int)) = true := decide_eq_true c30
              clear c30
              obtain ⟨y294, hy294⟩ : ∃ y_ : List Int, y_ = (t273.take (64 : Int).toNat) := ⟨_, rfl⟩
              replace H : (wringerlaw13_SpreadRefuses.j0 k y294 t274) = some r := by first | (rw [hy294]; with_reducible exact H) | (have H2_ := (Option.bind_some _ _).symm.trans H; rw [hy294]; with_reducible exact H2_) | (have H2_ := (Option.bind_some _ _).symm.trans H; with_reducible exact H2_) | with_reducible exact H | (rw [hy294]; exact H) | exact H
              have Ny294 := Aside0.mk hy294
              clear hy294
              have H' := Aside0.mk H
              clear H
              obtain ⟨Ao31, co31, eo31⟩ := Kd.R_slice HO276.out
              subst eo31
              have q32 : (64 : Int) ≤ ((t273.length : Int) : Int) := of_decide_eq_true (by first | (with_reducible assumption) | assumption)
              obtain ⟨i032, hi032, _, hsz32, _⟩ := info_parts info3
              have hcut32 := cut_to (P := Try.prog) 22 3 .i64 Try.underlying22 hi032 Ao31 t273.length co31 64 (by omega) q32 (Kd.R_reads' HO276.out).2.1
              have hr32 := Kd.R_take (m := (64 : Int).toNat) HO276.out (by omega)
              have hy32 : y294.length = (64 : Int).toNat := (by rw [Ny294.out, List.length_take]; omega)
              rw [← Ny294.out] at hr32
              rw [← hy32] at hr32 hcut32
              clear hy32 hi032 hsz32 HO276
              have HO296 := Aside0.mk hr32
              clear hr32
              replace q32 := eq_true q32
              go_wp2
              go_meet
              case rel => exact ⟨_, (y294), (t274), (by first | rfl | (simp; done) | (simp [*]; done)), H', ⟨by first | omega | exact Nat.le_refl _⟩, ⟨by (with_reducible repeat (first | apply Kd.R_alloc | apply Kd.R_drewN | apply Kd.R_drew)); exact HO296.out⟩, ⟨by repeat (first | (with_reducible first | exact HB.out | apply below_alloc | apply pw_below_drewN | apply below_drew1) | exact HB.out)⟩⟩
            · rw [if_neg c30] at H
              exact absurd H (by simp)
    case rest =>
      clear HC8
      try clear c1
      try clear c2
      try clear p2
      try clear q2
      try clear hx2
      try clear qi2
      try clear c3
      try clear q3
      try clear c4
      try clear c4b0
      try clear c4b1
      try clear c6
      try clear p6
      try clear c8
      try clear c10
      try clear c10b0
      try clear c10b1
      try clear c11
      try clear c12
      try clear c16
      try clear c18
      try clear c18b0
      try clear c18b1
      try clear c19
      try clear c20
      try clear c20b0
      try clear c20b1
      try clear p21
      try clear q21
      try clear hx21
      try clear qi21
      try clear hf21
      try clear c29
      try clear c29b0
      try clear c29b1
      try clear p29
      try clear q29
      try clear hx29
      try clear qi29
      try clear c30
      try clear c30b0
      try clear c30b1
      try clear q32
      try clear hx21_0
      try clear hx292_0
      try clear p21
      try clear p292
      try clear q21
      try clear q292
      try clear q32
      obtain ⟨kq, x7_7, x8_7, rfl, HA, HJ7, HO_7, HB⟩ := hcut
      cases kq with
      | zero => exact absurd HA.out (by simp [wringerlaw13_SpreadRefuses.j0])
      | succ kj7 =>
        have H := HA.out
        clear HA
        simp only [wringerlaw13_SpreadRefuses.j0] at H
        replace H := Option.bind_eq_some_iff.mp H
        obtain ⟨⟨t297, t298⟩, A330, H⟩ := H
        replace H : ((spread_Table.f x7_7 x8_7).bind fun bt301 => ((wringerlaw1_Err.f t298).bind fun t305 => (if t305 = 3 then ((wringerlaw1_Err.f bt301.2).bind fun t306 => (if t306 = 3 then (if (wrap64 ((t297.length : Int) + (bt301.1.length : Int))) = 0 then ((wringerlaw13_awake.f).bind fun t307 => (some t307)) else (some false)) else (some false))) else (some false)))) = some r := H
        have A33 := Aside0.mk A330
        clear A330
        replace H := Option.bind_eq_some_iff.mp H
        obtain ⟨⟨t301, t302⟩, A340, H⟩ := H
        replace H : ((wringerlaw1_Err.f t298).bind fun t305 => (if t305 = 3 then ((wringerlaw1_Err.f t302).bind fun t306 => (if t306 = 3 then (if (wrap64 ((t297.length : Int) + (t301.length : Int))) = 0 then ((wringerlaw13_awake.f).bind fun t307 => (some t307)) else (some false)) else (some false))) else (some false))) = some r := H
        have A34 := Aside0.mk A340
        clear A340
        replace H := Option.bind_eq_some_iff.mp H
        obtain ⟨t305, A350, H⟩ := H
        replace H : (if t305 = 3 then ((wringerlaw1_Err.f t302).bind fun t306 => (if t306 = 3 then (if (wrap64 ((t297.length : Int) + (t301.length : Int))) = 0 then ((wringerlaw13_awake.f).bind fun t307 => (some t307)) else (some false)) else (some false))) else (some false)) = some r := H
        have A35 := Aside0.mk A350
        clear A350
        by_cases c36 : t305 = 3
        · rw [if_pos c36] at H
          have c36b0 : (t305 == 3) = true := beq_iff_eq.mpr c36
          have c36b1 : (t305 != 3) = false := bne_eq_false_iff_eq.mpr c36
          clear c36
          replace H := Option.bind_eq_some_iff.mp H
          obtain ⟨t306, A370, H⟩ := H
          replace H : (if t306 = 3 then (if (wrap64 ((t297.length : Int) + (t301.length : Int))) = 0 then ((wringerlaw13_awake.f).bind fun t307 => (some t307)) else (some false)) else (some false)) = some r := H
          have A37 := Aside0.mk A370
          clear A370
          by_cases c38 : t306 = 3
          · rw [if_pos c38] at H
            have c38b0 : (t306 == 3) = true := beq_iff_eq.mpr c38
            have c38b1 : (t306 != 3) = false := bne_eq_false_iff_eq.mpr c38
            clear c38
            by_cases c39 : (wrap64 ((t297.length : Int) + (t301.length : Int))) = 0
            · rw [if_pos c39] at H
              have c39b0 : ((wrap64 ((t297.length : Int) + (t301.length : Int))) == 0) = true := beq_iff_eq.mpr c39
              have c39b1 : ((wrap64 ((t297.length : Int) + (t301.length : Int))) != 0) = false := bne_eq_false_iff_eq.mpr c39
              clear c39
              replace H := Option.bind_eq_some_iff.mp H
              obtain ⟨t307, A400, H⟩ := H
              replace H : (some t307) = some r := H
              have A40 := Aside0.mk A400
              clear A400
              obtain rfl := Option.some.inj H
              obtain ⟨Ao41, co41, eo41⟩ := Kd.R_slice HO_7.out
              subst eo41
              go_wp2_with (first | ((with_reducible refine gate_callee (f := 9) rfl ?_); refine goesL_ (some 49) rfl rfl Try.func9 (by kernel_rfl) rfl #[.slice Ao41 x7_7.length co41, .int .i64 x8_7] rfl (by (try simp only [List.map_toArray, List.map_cons, List.map_nil]); first | done | rfl | (simp only [List.length_drop, List.length_take]; rfl)) ?_; (with_reducible refine (spread_Spread.calls kj7 _ _ x7_7 x8_7 t297 t298 _ ?side1 ?side2 A33.out).mono ?_); (case side1 => repeat (first | exact (Kd.R_reads' HO_7.out).2.2 | (with_reducible refine Kd.C_alloc ?_ _) | (with_reducible refine Kd.C_drewN ?_ _) | (with_reducible refine Kd.C_drew ?_))); (case side2 => exact (Kd.R_reads' HO_7.out).2.1); rintro e w42 ⟨v299, rfl, ho0, hb⟩; refine ⟨_, rfl, ?_⟩; have n0_ := Aside0.mk (Kd.R_elder' (by (with_reducible repeat (first | apply Kd.R_alloc | apply Kd.R_drewN | apply Kd.R_drew)); exact HO_7.out) (Kd.R_base ho0) hb); have n1_ := Aside0.mk (Kd.R_lower (Kd.R_new' ho0 (Kd.R_lt (by (with_reducible repeat (first | apply Kd.R_alloc | apply Kd.R_drewN | apply Kd.R_drew)); exact HO_7.out))) (below_size (by repeat (first | (with_reducible first | exact HB.out | apply below_alloc | apply pw_below_drewN | apply below_drew1) | exact HB.out)))); have n2_ := Aside0.mk (below_step (by repeat (first | (with_reducible first | exact HB.out | apply below_alloc | apply pw_below_drewN | apply below_drew1) | exact HB.out)) hb); clear HO_7; clear HB; have HO_7 := n0_; have HO300 := n1_; have HB := n2_; clear n0_ n1_ n2_; (try clear hb); (try clear hb2); (try clear hk); (try clear hi); (try clear ho0)) | ((with_reducible refine gate_callee (f := 11) rfl ?_); refine goesL_ (some 55) rfl rfl Try.func11 (by kernel_rfl) rfl #[.slice Ao41 x7_7.length co41, .int .i64 x8_7] rfl (by (try simp only [List.map_toArray, List.map_cons, List.map_nil]); first | done | rfl | (simp only [List.length_drop, List.length_take]; rfl)) ?_; (with_reducible refine (spread_Table.calls _ _ x7_7 x8_7 t301 t302 _ ?side1 ?side2 A34.out).mono ?_); (case side1 => repeat (first | exact (Kd.R_reads' HO_7.out).2.2 | (with_reducible refine Kd.C_alloc ?_ _) | (with_reducible refine Kd.C_drewN ?_ _) | (with_reducible refine Kd.C_drew ?_))); (case side2 => exact (Kd.R_reads' HO_7.out).2.1); rintro e w43 ⟨v303, rfl, ho0, hb⟩; refine ⟨_, rfl, ?_⟩; have n0_ := Aside0.mk (Kd.R_below (by (with_reducible repeat (first | apply Kd.R_alloc | apply Kd.R_drewN | apply Kd.R_drew)); exact HO_7.out) hb); have n1_ := Aside0.mk (Kd.R_below (by (with_reducible repeat (first | apply Kd.R_alloc | apply Kd.R_drewN | apply Kd.R_drew)); exact HO300.out) hb); have n2_ := Aside0.mk (Kd.R_lower ho0 (below_size (by repeat (first | (with_reducible first | exact HB.out | apply below_alloc | apply pw_below_drewN | apply below_drew1) | exact HB.out)))); have n3_ := Aside0.mk (below_step (by repeat (first | (with_reducible first | exact HB.out | apply below_alloc | apply pw_below_drewN | apply below_drew1) | exact HB.out)) hb); clear HO_7; clear HO300; clear HB; have HO_7 := n0_; have HO300 := n1_; have HO304 := n2_; have HB := n3_; clear n0_ n1_ n2_ n3_; (try clear hb); (try clear hb2); (try clear hk); (try clear hi); (try clear ho0)) | ((with_reducible refine gate_callee (f := 14) rfl ?_); refine goesL_ (some 59) rfl rfl Try.func14 (by kernel_rfl) rfl #[.int .i64 t298] rfl (by (try simp only [List.map_toArray, List.map_cons, List.map_nil]); first | done | rfl | (simp only [List.length_drop, List.length_take]; rfl)) ?_; (with_reducible refine (wringerlaw1_Err.calls t298 t305 _ A35.out).mono ?_); rintro e w' ⟨rfl, ⟨nd, rfl⟩⟩; refine ⟨_, rfl, ?_⟩) | (go_at_call 14; (with_reducible refine (wringerlaw1_Err.calls t302 t306 _ A37.out).mono ?_); rintro e w' ⟨rfl, ⟨nd, rfl⟩⟩; obtain ⟨Ao44, co44, eo44⟩ := Kd.R_slice HO300.out; subst eo44; obtain ⟨Ao45, co45, eo45⟩ := Kd.R_slice HO304.out; subst eo45) | (go_at_call 8; (with_reducible refine (wringerlaw13_awake.calls  t307 _ A40.out).mono ?_); rintro e w46 ⟨rfl, hb⟩; have n0_ := Aside0.mk (Kd.R_below (by (with_reducible repeat (first | apply Kd.R_alloc | apply Kd.R_drewN | apply Kd.R_drew)); exact HO_7.out) hb); have n1_ := Aside0.mk (Kd.R_below (by (with_reducible repeat (first | apply Kd.R_alloc | apply Kd.R_drewN | apply Kd.R_drew)); exact HO300.out) hb); have n2_ := Aside0.mk (Kd.R_below (by (with_reducible repeat (first | apply Kd.R_alloc | apply Kd.R_drewN | apply Kd.R_drew)); exact HO304.out) hb); have n3_ := Aside0.mk (below_step (by repeat (first | (with_reducible first | exact HB.out | apply below_alloc | apply pw_below_drewN | apply below_drew1) | exact HB.out)) hb); clear HO_7; clear HO300; clear HO304; clear HB; have HO_7 := n0_; have HO300 := n1_; have HO304 := n2_; have HB := n3_; clear n0_ n1_ n2_ n3_; (try clear hb); (try clear hb2); (try clear hk); (try clear hi)))
              go_ret
              exact ⟨by first | rfl | (simp [errW_none, errW_some] <;> rfl) | (simp [*, errW_none, errW_some] <;> rfl), by repeat (first | (with_reducible first | exact HB.out | apply below_alloc | apply pw_below_drewN | apply below_drew1) | exact HB.out)⟩
            · rw [if_neg c39] at H
              have c39b0 : ((wrap64 ((t297.length : Int) + (t301.length : Int))) == 0) = false := beq_eq_false_iff_ne.mpr c39
              have c39b1 : ((wrap64 ((t297.length : Int) + (t301.length : Int))) != 0) = true := bne_iff_ne.mpr c39
              obtain rfl := Option.some.inj H
              obtain ⟨Ao47, co47, eo47⟩ := Kd.R_slice HO_7.out
              subst eo47
              go_wp2_with (first | ((with_reducible refine gate_callee (f := 9) rfl ?_); refine goesL_ (some 49) rfl rfl Try.func9 (by kernel_rfl) rfl #[.slice Ao47 x7_7.length co47, .int .i64 x8_7] rfl (by (try simp only [List.map_toArray, List.map_cons, List.map_nil]); first | done | rfl | (simp only [List.length_drop, List.length_take]; rfl)) ?_; (with_reducible refine (spread_Spread.calls kj7 _ _ x7_7 x8_7 t297 t298 _ ?side1 ?side2 A33.out).mono ?_); (case side1 => repeat (first | exact (Kd.R_reads' HO_7.out).2.2 | (with_reducible refine Kd.C_alloc ?_ _) | (with_reducible refine Kd.C_drewN ?_ _) | (with_reducible refine Kd.C_drew ?_))); (case side2 => exact (Kd.R_reads' HO_7.out).2.1); rintro e w48 ⟨v299, rfl, ho0, hb⟩; refine ⟨_, rfl, ?_⟩; have n0_ := Aside0.mk (Kd.R_elder' (by (with_reducible repeat (first | apply Kd.R_alloc | apply Kd.R_drewN | apply Kd.R_drew)); exact HO_7.out) (Kd.R_base ho0) hb); have n1_ := Aside0.mk (Kd.R_lower (Kd.R_new' ho0 (Kd.R_lt (by (with_reducible repeat (first | apply Kd.R_alloc | apply Kd.R_drewN | apply Kd.R_drew)); exact HO_7.out))) (below_size (by repeat (first | (with_reducible first | exact HB.out | apply below_alloc | apply pw_below_drewN | apply below_drew1) | exact HB.out)))); have n2_ := Aside0.mk (below_step (by repeat (first | (with_reducible first | exact HB.out | apply below_alloc | apply pw_below_drewN | apply below_drew1) | exact HB.out)) hb); clear HO_7; clear HB; have HO_7 := n0_; have HO300 := n1_; have HB := n2_; clear n0_ n1_ n2_; (try clear hb); (try clear hb2); (try clear hk); (try clear hi); (try clear ho0)) | ((with_reducible refine gate_callee (f := 11) rfl ?_); refine goesL_ (some 55) rfl rfl Try.func11 (by kernel_rfl) rfl #[.slice Ao47 x7_7.length co47, .int .i64 x8_7] rfl (by (try simp only [List.map_toArray, List.map_cons, List.map_nil]); first | done | rfl | (simp only [List.length_drop, List.length_take]; rfl)) ?_; (with_reducible refine (spread_Table.calls _ _ x7_7 x8_7 t301 t302 _ ?side1 ?side2 A34.out).mono ?_); (case side1 => repeat (first | exact (Kd.R_reads' HO_7.out).2.2 | (with_reducible refine Kd.C_alloc ?_ _) | (with_reducible refine Kd.C_drewN ?_ _) | (with_reducible refine Kd.C_drew ?_))); (case side2 => exact (Kd.R_reads' HO_7.out).2.1); rintro e w49 ⟨v303, rfl, ho0, hb⟩; refine ⟨_, rfl, ?_⟩; have n0_ := Aside0.mk (Kd.R_below (by (with_reducible repeat (first | apply Kd.R_alloc | apply Kd.R_drewN | apply Kd.R_drew)); exact HO_7.out) hb); have n1_ := Aside0.mk (Kd.R_below (by (with_reducible repeat (first | apply Kd.R_alloc | apply Kd.R_drewN | apply Kd.R_drew)); exact HO300.out) hb); have n2_ := Aside0.mk (Kd.R_lower ho0 (below_size (by repeat (first | (with_reducible first | exact HB.out | apply below_alloc | apply pw_below_drewN | apply below_drew1) | exact HB.out)))); have n3_ := Aside0.mk (below_step (by repeat (first | (with_reducible first | exact HB.out | apply below_alloc | apply pw_below_drewN | apply below_drew1) | exact HB.out)) hb); clear HO_7; clear HO300; clear HB; have HO_7 := n0_; have HO300 := n1_; have HO304 := n2_; have HB := n3_; clear n0_ n1_ n2_ n3_; (try clear hb); (try clear hb2); (try clear hk); (try clear hi); (try clear ho0)) | ((with_reducible refine gate_callee (f := 14) rfl ?_); refine goesL_ (some 59) rfl rfl Try.func14 (by kernel_rfl) rfl #[.int .i64 t298] rfl (by (try simp only [List.map_toArray, List.map_cons, List.map_nil]); first | done | rfl | (simp only [List.length_drop, List.length_take]; rfl)) ?_; (with_reducible refine (wringerlaw1_Err.calls t298 t305 _ A35.out).mono ?_); rintro e w' ⟨rfl, ⟨nd, rfl⟩⟩; refine ⟨_, rfl, ?_⟩) | (go_at_call 14; (with_reducible refine (wringerlaw1_Err.calls t302 t306 _ A37.out).mono ?_); rintro e w' ⟨rfl, ⟨nd, rfl⟩⟩; obtain ⟨Ao50, co50, eo50⟩ := Kd.R_slice HO300.out; subst eo50; obtain ⟨Ao51, co51, eo51⟩ := Kd.R_slice HO304.out; subst eo51))
              go_ret
              exact ⟨by first | rfl | (simp [errW_none, errW_some] <;> rfl) | (simp [*, errW_none, errW_some] <;> rfl), by repeat (first | (with_reducible first | exact HB.out | apply below_alloc | apply pw_below_drewN | apply below_drew1) | exact HB.out)⟩
          · rw [if_neg c38] at H
            have c38b0 : (t306 == 3) = false := beq_eq_false_iff_ne.mpr c38
            have c38b1 : (t306 != 3) = true := bne_iff_ne.mpr c38
            obtain rfl := Option.some.inj H
            obtain ⟨Ao52, co52, eo52⟩ := Kd.R_slice HO_7.out
            subst eo52
            go_wp2_with (first | ((with_reducible refine gate_callee (f := 9) rfl ?_); refine goesL_ (some 49) rfl rfl Try.func9 (by kernel_rfl) rfl #[.slice Ao52 x7_7.length co52, .int .i64 x8_7] rfl (by (try simp only [List.map_toArray, List.map_cons, List.map_nil]); first | done | rfl | (simp only [List.length_drop, List.length_take]; rfl)) ?_; (with_reducible refine (spread_Spread.calls kj7 _ _ x7_7 x8_7 t297 t298 _ ?side1 ?side2 A33.out).mono ?_); (case side1 => repeat (first | exact (Kd.R_reads' HO_7.out).2.2 | (with_reducible refine Kd.C_alloc ?_ _) | (with_reducible refine Kd.C_drewN ?_ _) | (with_reducible refine Kd.C_drew ?_))); (case side2 => exact (Kd.R_reads' HO_7.out).2.1); rintro e w53 ⟨v299, rfl, ho0, hb⟩; refine ⟨_, rfl, ?_⟩; have n0_ := Aside0.mk (Kd.R_elder' (by (with_reducible repeat (first | apply Kd.R_alloc | apply Kd.R_drewN | apply Kd.R_drew)); exact HO_7.out) (Kd.R_base ho0) hb); have n1_ := Aside0.mk (Kd.R_lower (Kd.R_new' ho0 (Kd.R_lt (by (with_reducible repeat (first | apply Kd.R_alloc | apply Kd.R_drewN | apply Kd.R_drew)); exact HO_7.out))) (below_size (by repeat (first | (with_reducible first | exact HB.out | apply below_alloc | apply pw_below_drewN | apply below_drew1) | exact HB.out)))); have n2_ := Aside0.mk (below_step (by repeat (first | (with_reducible first | exact HB.out | apply below_alloc | apply pw_below_drewN | apply below_drew1) | exact HB.out)) hb); clear HO_7; clear HB; have HO_7 := n0_; have HO300 := n1_; have HB := n2_; clear n0_ n1_ n2_; (try clear hb); (try clear hb2); (try clear hk); (try clear hi); (try clear ho0)) | ((with_reducible refine gate_callee (f := 11) rfl ?_); refine goesL_ (some 55) rfl rfl Try.func11 (by kernel_rfl) rfl #[.slice Ao52 x7_7.length co52, .int .i64 x8_7] rfl (by (try simp only [List.map_toArray, List.map_cons, List.map_nil]); first | done | rfl | (simp only [List.length_drop, List.length_take]; rfl)) ?_; (with_reducible refine (spread_Table.calls _ _ x7_7 x8_7 t301 t302 _ ?side1 ?side2 A34.out).mono ?_); (case side1 => repeat (first | exact (Kd.R_reads' HO_7.out).2.2 | (with_reducible refine Kd.C_alloc ?_ _) | (with_reducible refine Kd.C_drewN ?_ _) | (with_reducible refine Kd.C_drew ?_))); (case side2 => exact (Kd.R_reads' HO_7.out).2.1); rintro e w54 ⟨v303, rfl, ho0, hb⟩; refine ⟨_, rfl, ?_⟩; have n0_ := Aside0.mk (Kd.R_below (by (with_reducible repeat (first | apply Kd.R_alloc | apply Kd.R_drewN | apply Kd.R_drew)); exact HO_7.out) hb); have n1_ := Aside0.mk (Kd.R_below (by (with_reducible repeat (first | apply Kd.R_alloc | apply Kd.R_drewN | apply Kd.R_drew)); exact HO300.out) hb); have n2_ := Aside0.mk (Kd.R_lower ho0 (below_size (by repeat (first | (with_reducible first | exact HB.out | apply below_alloc | apply pw_below_drewN | apply below_drew1) | exact HB.out)))); have n3_ := Aside0.mk (below_step (by repeat (first | (with_reducible first | exact HB.out | apply below_alloc | apply pw_below_drewN | apply below_drew1) | exact HB.out)) hb); clear HO_7; clear HO300; clear HB; have HO_7 := n0_; have HO300 := n1_; have HO304 := n2_; have HB := n3_; clear n0_ n1_ n2_ n3_; (try clear hb); (try clear hb2); (try clear hk); (try clear hi); (try clear ho0)) | ((with_reducible refine gate_callee (f := 14) rfl ?_); refine goesL_ (some 59) rfl rfl Try.func14 (by kernel_rfl) rfl #[.int .i64 t298] rfl (by (try simp only [List.map_toArray, List.map_cons, List.map_nil]); first | done | rfl | (simp only [List.length_drop, List.length_take]; rfl)) ?_; (with_reducible refine (wringerlaw1_Err.calls t298 t305 _ A35.out).mono ?_); rintro e w' ⟨rfl, ⟨nd, rfl⟩⟩; refine ⟨_, rfl, ?_⟩) | (go_at_call 14; (with_reducible refine (wringerlaw1_Err.calls t302 t306 _ A37.out).mono ?_); rintro e w' ⟨rfl, ⟨nd, rfl⟩⟩))
            go_ret
            exact ⟨by first | rfl | (simp [errW_none, errW_some] <;> rfl) | (simp [*, errW_none, errW_some] <;> rfl), by repeat (first | (with_reducible first | exact HB.out | apply below_alloc | apply pw_below_drewN | apply below_drew1) | exact HB.out)⟩
        · rw [if_neg c36] at H
          have c36b0 : (t305 == 3) = false := beq_eq_false_iff_ne.mpr c36
          have c36b1 : (t305 != 3) = true := bne_iff_ne.mpr c36
          obtain rfl := Option.some.inj H
          obtain ⟨Ao55, co55, eo55⟩ := Kd.R_slice HO_7.out
          subst eo55
          go_wp2_with (first | ((with_reducible refine gate_callee (f := 9) rfl ?_); refine goesL_ (some 49) rfl rfl Try.func9 (by kernel_rfl) rfl #[.slice Ao55 x7_7.length co55, .int .i64 x8_7] rfl (by (try simp only [List.map_toArray, List.map_cons, List.map_nil]); first | done | rfl | (simp only [List.length_drop, List.length_take]; rfl)) ?_; (with_reducible refine (spread_Spread.calls kj7 _ _ x7_7 x8_7 t297 t298 _ ?side1 ?side2 A33.out).mono ?_); (case side1 => repeat (first | exact (Kd.R_reads' HO_7.out).2.2 | (with_reducible refine Kd.C_alloc ?_ _) | (with_reducible refine Kd.C_drewN ?_ _) | (with_reducible refine Kd.C_drew ?_))); (case side2 => exact (Kd.R_reads' HO_7.out).2.1); rintro e w56 ⟨v299, rfl, ho0, hb⟩; refine ⟨_, rfl, ?_⟩; have n0_ := Aside0.mk (Kd.R_elder' (by (with_reducible repeat (first | apply Kd.R_alloc | apply Kd.R_drewN | apply Kd.R_drew)); exact HO_7.out) (Kd.R_base ho0) hb); have n1_ := Aside0.mk (Kd.R_lower (Kd.R_new' ho0 (Kd.R_lt (by (with_reducible repeat (first | apply Kd.R_alloc | apply Kd.R_drewN | apply Kd.R_drew)); exact HO_7.out))) (below_size (by repeat (first | (with_reducible first | exact HB.out | apply below_alloc | apply pw_below_drewN | apply below_drew1) | exact HB.out)))); have n2_ := Aside0.mk (below_step (by repeat (first | (with_reducible first | exact HB.out | apply below_alloc | apply pw_below_drewN | apply below_drew1) | exact HB.out)) hb); clear HO_7; clear HB; have HO_7 := n0_; have HO300 := n1_; have HB := n2_; clear n0_ n1_ n2_; (try clear hb); (try clear hb2); (try clear hk); (try clear hi); (try clear ho0)) | ((with_reducible refine gate_callee (f := 11) rfl ?_); refine goesL_ (some 55) rfl rfl Try.func11 (by kernel_rfl) rfl #[.slice Ao55 x7_7.length co55, .int .i64 x8_7] rfl (by (try simp only [List.map_toArray, List.map_cons, List.map_nil]); first | done | rfl | (simp only [List.length_drop, List.length_take]; rfl)) ?_; (with_reducible refine (spread_Table.calls _ _ x7_7 x8_7 t301 t302 _ ?side1 ?side2 A34.out).mono ?_); (case side1 => repeat (first | exact (Kd.R_reads' HO_7.out).2.2 | (with_reducible refine Kd.C_alloc ?_ _) | (with_reducible refine Kd.C_drewN ?_ _) | (with_reducible refine Kd.C_drew ?_))); (case side2 => exact (Kd.R_reads' HO_7.out).2.1); rintro e w57 ⟨v303, rfl, ho0, hb⟩; refine ⟨_, rfl, ?_⟩; have n0_ := Aside0.mk (Kd.R_below (by (with_reducible repeat (first | apply Kd.R_alloc | apply Kd.R_drewN | apply Kd.R_drew)); exact HO_7.out) hb); have n1_ := Aside0.mk (Kd.R_below (by (with_reducible repeat (first | apply Kd.R_alloc | apply Kd.R_drewN | apply Kd.R_drew)); exact HO300.out) hb); have n2_ := Aside0.mk (Kd.R_lower ho0 (below_size (by repeat (first | (with_reducible first | exact HB.out | apply below_alloc | apply pw_below_drewN | apply below_drew1) | exact HB.out)))); have n3_ := Aside0.mk (below_step (by repeat (first | (with_reducible first | exact HB.out | apply below_alloc | apply pw_below_drewN | apply below_drew1) | exact HB.out)) hb); clear HO_7; clear HO300; clear HB; have HO_7 := n0_; have HO300 := n1_; have HO304 := n2_; have HB := n3_; clear n0_ n1_ n2_ n3_; (try clear hb); (try clear hb2); (try clear hk); (try clear hi); (try clear ho0)) | ((with_reducible refine gate_callee (f := 14) rfl ?_); refine goesL_ (some 59) rfl rfl Try.func14 (by kernel_rfl) rfl #[.int .i64 t298] rfl (by (try simp only [List.map_toArray, List.map_cons, List.map_nil]); first | done | rfl | (simp only [List.length_drop, List.length_take]; rfl)) ?_; (with_reducible refine (wringerlaw1_Err.calls t298 t305 _ A35.out).mono ?_); rintro e w' ⟨rfl, ⟨nd, rfl⟩⟩; refine ⟨_, rfl, ?_⟩))
          go_ret
          exact ⟨by first | rfl | (simp [errW_none, errW_some] <;> rfl) | (simp [*, errW_none, errW_some] <;> rfl), by repeat (first | (with_reducible first | exact HB.out | apply below_alloc | apply pw_below_drewN | apply below_drew1) | exact HB.out)⟩

/-- THE ONE PURE STATEMENT of wringerlaw13_SpreadRefuses: yours. -/
def wringerlaw13_SpreadRefuses.Pure : Prop := ∀ (l0 : List Int) (a1 : Int) (a2 : Int), l0.length ≤ maxLen → l0.length * 2 ≤ 140737488351232 → (∀ x ∈ l0, (Lit.int .u16 x).wf = true) → (Lit.int .u8 a1).wf = true → (Lit.int .u8 a2).wf = true → ∃ k, wringerlaw13_SpreadRefuses.f k l0 a1 a2 = some true
theorem wringerlaw13_SpreadRefuses.walk (P : wringerlaw13_SpreadRefuses.Pure) (a0 : Option Addr) (len0 cap0 : Nat) (z0 : List Int) (a1 : Int) (a2 : Int) (w : World) (w0 : (a0 = none ∧ len0 = 0 ∧ cap0 = 0 ∧ z0 = []) ∨ ∃ x, a0 = some x ∧ len0 ≤ cap0 ∧ cap0 ≤ maxLen ∧ z0.length = cap0 ∧ (∀ i, i < z0.length → w.cell? (x.add i) = some (.int .u16 (z0.getD i 0))) ∧ ∀ n ∈ z0, (Lit.int .u16 n).wf = true) (y0 : len0 * 2 ≤ 140737488351232) (w1 : (Lit.int .u8 a1).wf = true) (w2 : (Lit.int .u8 a2).wf = true) :
    Calls Try.prog 6 #[.slice a0 len0 cap0, .int .u8 a1, .int .u8 a2] w fun e w' => e = .returned (.bool true) ∧ Below w.heap.size w w' := by
  obtain ⟨l0, rfl, hr0, hm0, hw0, hc0⟩ := ReadsInt.ofRowC w0
  obtain ⟨k, h⟩ := P l0 a1 a2 hm0 y0 hw0 w1 w2
  refine (wringerlaw13_SpreadRefuses.calls k _ _ l0 a1 a2 true w (Kd.C_of_reads (d := (0 : Int)) (h1 := fun _ => rfl) hr0) hc0 h).mono ?_
  rintro e w' ⟨rfl, hd⟩
  exact ⟨rfl, hd⟩

end Go.Proofs.Ytlconnmfceabiaa.PA

-- ---- PureSpreadRefuses
/- Numbers that may not be have no table: the plain statement of SpreadRefuses holds for every input. Conditions: none. -/
namespace Go.Proofs.Ytlconnmfceabiaa.Pure
open Go.RowKit Go.Proofs.Ytlconnmfceabiaa.PA Go.Proofs.YtlconnmfceabiaaW.PrintWords Go.Proofs.YtlconnmfceabiaaW.PrintLast Go.Proofs.YtlconnmfceabiaaW.PrintMore Nl Sp
set_option linter.unusedVariables false
set_option linter.unusedSimpArgs false

theorem refuse_j0 (l : List Int) (a : Int) (h : ¬ mayN l a = true) : Ev (fun k => wringerlaw13_SpreadRefuses.j0 k l a) true := by
  have he : spreadE l a = ([], 3) := by unfold spreadE; rw [if_neg h]
  have he2 : tableE l a = ([], 3) := by unfold tableE; rw [if_neg h]
  have hs := spread_is l a
  refine Ev.step (f := fun k => (spread_Spread.f k l a).bind fun bt316 => ((spread_Table.f l a).bind fun bt320 => ((wringerlaw1_Err.f bt316.2).bind fun t324 => (if t324 = 3 then ((wringerlaw1_Err.f bt320.2).bind fun t325 => (if t325 = 3 then (if (wrap64 ((bt316.1.length : Int) + (bt320.1.length : Int))) = 0 then ((wringerlaw13_awake.f).bind fun t326 => (some t326)) else (some false)) else (some false))) else (some false))))) (fun k => rfl) ?_
  refine Ev.bind hs ?_
  refine Ev.bind0 (rfl : spread_Table.f l a = some (tableE l a)) ?_
  refine Ev.bind0 (rfl : wringerlaw1_Err.f _ = some _) (Ev.ite_pos (by rw [he]) ?_)
  refine Ev.bind0 (rfl : wringerlaw1_Err.f _ = some _) (Ev.ite_pos (by rw [he2]) ?_)
  refine Ev.ite_pos (by rw [he, he2]; simp only [List.length_nil]; rw [w64 (by omega) (by omega)]; rfl) ?_
  exact Ev.bind0 awake13 (Ev.now _)
theorem SpreadRefuses : wringerlaw13_SpreadRefuses.Pure := by
  intro l0 a1 a2 _ _ hw ha hb
  apply Ev.rounds
  unfold wringerlaw13_SpreadRefuses.f
  by_cases hl : (l0.length : Int) > 140
  · exact Ev.ite_pos hl (Ev.bind0 awake13 (Ev.now _))
  · refine Ev.ite_neg hl ?_
    obtain ⟨f, m, hc, hf, h7, h12, _⟩ := counts_is l0 hw (by omega) a1 ha
    have hp : 128 ≤ 2 ^ m := by have := Nat.pow_le_pow_right (show 0 < 2 by decide) h7; omega
    have hlen := hf.norm_len (size := ((2 ^ m : Nat) : Int)) (by omega)
    have hsum := (hf.norm (size := ((2 ^ m : Nat) : Int)) (by omega)).2
    have hat := hf.norm_at (size := ((2 ^ m : Nat) : Int)) (by omega)
    have hp12 : 2 ^ m ≤ 4096 := by have := pow2_le m 12 h12; omega
    generalize normL f ((2 ^ m : Nat) : Int) = l at hc hlen hsum hat
    obtain ⟨v, rfl, hv⟩ := u8_at hb
    have e4 : Int.tmod (v : Int) 4 = ((v % 4 : Nat) : Int) := tmod_nat v 4
    refine Ev.bind hc ?_
    simp only [e4]
    by_cases c0 : v % 4 = 0
    · refine Ev.ite_pos (by omega) ?_
      refine Ev.bind0 (a := ([] : List Int)) rfl (Ev.ite_pos (by simp; omega) ?_)
      refine Ev.bind0 (a := ([] ++ l : List Int)) rfl (Ev.ite_pos (by simp; omega) ?_)
      refine refuse_j0 _ _ fun h => ?_
      unfold mayN at h; rw [decide_eq_true_eq] at h
      have := h.2.2.1; simp at this; omega
    · refine Ev.ite_neg (by omega) ?_
      by_cases c1 : v % 4 = 1
      · refine Ev.ite_pos (by omega) ?_
        refine Ev.bind0 (a := ([] : List Int)) rfl (Ev.ite_pos (by simp; omega) ?_)
        refine Ev.bind0 (a := ([] ++ l : List Int)) rfl (Ev.ite_pos (by simp; omega) ?_)
        refine refuse_j0 _ _ fun h => ?_
        simp only [List.nil_append] at h
        have e : rd l 2 = l.getD 2 0 := rd_nat l 2
        have h2 := hat _ (getD_mem (show 2 < l.length by omega))
        rw [e, w64 (by omega) (by omega), show ((2 : Int).toNat) = 2 from rfl] at h
        have hs2 := sum_bump l 2 1 (by omega)
        unfold bump at hs2
        have hm := mayS_of h
        have := hm.sum
        omega
      · refine Ev.ite_neg (by omega) ?_
        by_cases c2 : v % 4 = 2
        · refine Ev.ite_pos (by omega) ?_
          refine refuse_j0 _ _ fun h => ?_
          unfold mayN at h; rw [decide_eq_true_eq] at h
          omega
        · refine Ev.ite_neg (by omega) (Ev.ite_pos (by omega) ?_)
          refine refuse_j0 _ _ fun h => ?_
          unfold mayN at h; rw [decide_eq_true_eq] at h
          have := h.2.2.1
          rw [List.length_take, show ((64 : Int).toNat) = 64 from rfl] at this
          omega

end Go.Proofs.Ytlconnmfceabiaa.Pure

-- ---- LawSpreadRefuses

namespace Go.Proofs.Ytlconnmfceabiaa.spreadRefuses
open Go.ChangeShapes Go.WideShapes Go.ChangeAt Go.RowKit
open Go.ChangeMaps (open_string shut_string)
set_option linter.unusedVariables false
theorem own : ownKnob Try.prog.godebug = none := by kernel_rfl
theorem laidOut : laidOutB Try.prog = true := by kernel_rfl
def IsRow (k : IntKind) (w : World) (a : Option Addr) (len cap : Nat) (zs : List Int) : Prop :=
  (a = none ∧ len = 0 ∧ cap = 0 ∧ zs = []) ∨
  ∃ x, a = some x ∧ len ≤ cap ∧ cap ≤ maxLen ∧ zs.length = cap ∧ (∀ i, i < zs.length → w.cell? (x.add i) = some (.int k (zs.getD i 0))) ∧ ∀ n ∈ zs, (Lit.int k n).wf = true
set_option maxRecDepth 100000 in
theorem lifted (os : Os) (started : os.Started) (H : Type) (enc : TypeId × Value → H) :
    ReturnsInHanded {} Try.checked os 6 .any (Rows.spreadRefusesSpec.pre6 enc Try.prog Try.f6 Rows.spreadRefusesRow.domain false) (Rows.spreadRefusesSpec.post enc Try.prog Try.f6 false true false false) := by
  refine returnsInHanded_of_change_sized (C := Try.checked) own started (by kernel_rfl) Try.func6
    (ChangeSpec.witness6 (enc := enc) (C := Try.checked) false ⟨#[], #[.slice none 0 0, .int .u8 0, .int .u8 0], []⟩ 8 (by kernel_rfl) (by kernel_rfl) (by kernel_rfl) (by kernel_rfl)) ?_
  intro W base args ds gs before hval0 hW hcnd hsz0 _
  have hsz : (DataW.weightsEach Try.prog (Try.f6.params.toList ++ Rows.spreadRefusesSpec.plain.varTypes Try.prog) (ds ++ gs)).all (· ≤ reachBytes) = true := hsz0
  have hval : ∀ (j : Nat) t v, Try.f6.params[j]? = some t → args[j]? = some v → Value.okWide Try.prog W .any base t v := hval0
  have hW' := hW
  obtain ⟨p, q, hA0, hV, rfl, hfz, hnd⟩ := hW
  have hA : DataW.TrodAll enc Try.prog W 0 (fun _ => true) true Try.f6.params.toList args.toList ds p := hA0
  rw [Try.params6] at hA hval hsz
  obtain ⟨v0, vs0, d0, ds0, p0, q0, hargs, rfl, rfl, h0, r0⟩ := trodAll_cons hA
  obtain ⟨v1, vs1, d1, ds1, p1, q1, rfl, rfl, rfl, h1, r1⟩ := trodAll_cons r0
  obtain ⟨v2, vs2, d2, ds2, p2, q2, rfl, rfl, rfl, h2, r2⟩ := trodAll_cons r1
  obtain ⟨rfl, rfl, rfl⟩ := trodAll_nil r2
  obtain rfl : args = #[v0, v1, v2] := by cases args; simp_all
  obtain ⟨rfl, rfl⟩ := trodVars_none hV
  obtain ⟨a0, len0, cap0, rfl⟩ := okWide_slice Try.underlying40 (hval 0 40 v0 rfl rfl)
  have k0 := h0
  have lt0 : ∀ x ∈ p0, x.block < W.heap.size := by obtain ⟨m, hm⟩ := k0; exact DataW.trod_lt m _ _ _ hm
  obtain ⟨z0, w0⟩ : ∃ zs, IsRow .u16 W a0 len0 cap0 zs := by
    obtain ⟨fuel, hf⟩ := h0
    rcases open_ints Try.underlying40 Try.underlying56 (by kernel_rfl) hf with ⟨hcs, _⟩ | ⟨x, l, c, zs, hcs, _, hl, hm, hz, _, hcell, hwz⟩
    · simp [Value.cells] at hcs
      obtain ⟨rfl, rfl, rfl⟩ := hcs
      exact ⟨[], .inl ⟨rfl, rfl, rfl, rfl⟩⟩
    · simp [Value.cells] at hcs
      obtain ⟨rfl, rfl, rfl⟩ := hcs
      exact ⟨zs, .inr ⟨_, rfl, hl, hm, by simpa using hz, hcell, hwz⟩⟩
  have y0 : len0 * 2 ≤ 140737488351232 := Go.Proofs.YtlconnmfceabiaaW.PrintWords.sized_ints hsz (j := 0) (t := 40) rfl rfl Try.underlying40 Try.underlying56 (by kernel_rfl) (by kernel_rfl) h0
  obtain ⟨a1, rfl, rfl, rfl, w1⟩ := open_int Try.underlying5 (hval 1 5 v1 rfl rfl) h1
  obtain ⟨a2, rfl, rfl, rfl, w2⟩ := open_int Try.underlying5 (hval 2 5 v2 rfl rfl) h2
  clear hA0 hval0 hsz0 hsz
  refine (PA.wringerlaw13_SpreadRefuses.walk Pure.SpreadRefuses a0 len0 cap0 z0 a1 a2 W w0 y0 w1 w2).mono fun e W' ⟨he, bel⟩ => ?_
  subst he
  exact ⟨_, rfl, _, _, _, [], _, [], hW', trodAll_mk1 (shut_bool Try.underlying4 _), (trodAll_cons_mk (Below.trod laidOut (by kernel_rfl) (of_decide_eq_true (by kernel_rfl)) k0 bel lt0) (trodAll_cons_mk (shut_int Try.underlying5 w1) (trodAll_cons_mk (shut_int Try.underlying5 w2) trodAll_mk0))), rfl, bel.frame _, fun h => by cases h⟩
theorem over : Rows.spreadRefusesRow.holds Try.pinned (OpenSpec.ofChange Rows.spreadRefusesSpec) :=
  OpenClaim.holds_of_wide 6 Try.f6 rfl rfl rfl rfl rfl rfl rfl ⟨rfl, rfl, rfl, rfl, rfl⟩ rfl rfl rfl rfl rfl (by kernel_rfl) Try.func6 (by kernel_rfl)
    (of_decide_eq_true (by kernel_rfl)) (by unfold Func.isWrapper; first | (rw [if_pos (by decide +kernel)]; kernel_rfl) | (rw [if_neg (by decide +kernel)]; exact ⟨rfl, rfl⟩))
    (fun os started H enc _ => lifted os started H enc)
theorem proved : Rows.SpreadRefusesSaid := over
#print axioms proved
end Go.Proofs.Ytlconnmfceabiaa.spreadRefuses
namespace Go.Proofs.Ytlconnmfceabiaa
/-- The row, under a short name, for the claim. -/
theorem spreadRefuses_holds : Rows.SpreadRefusesSaid := spreadRefuses.proved
end Go.Proofs.Ytlconnmfceabiaa
