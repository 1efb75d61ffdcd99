/- Part B3 of what the layer's laws stand on: PAx7, Uq, Uc, Ue, Ut, Uw. Written by a program (merge.py) out of this session's own texts and of what the kit's print wrote over stand-ins (sp.py). Conditions: those that each theorem names. -/
import Derived.Test.YtlconnmfceabiaaQB1
import Derived.Test.YtlconnmfceabiaaQB2
-- ---- PAx7

namespace Go.Proofs.Ytlconnmfceabiaa.PA
open Go.RowKit Go.Proofs.YtlconnmfceabiaaW.PrintWords Go.Proofs.YtlconnmfceabiaaW.PrintLast Go.Proofs.YtlconnmfceabiaaW.PrintMore
attribute [local go_sem] max2_int min2_int max_two min_two max_three min_three max_four min_four   -- for this text's walks alone
set_option linter.unusedVariables false
set_option linter.unusedSimpArgs false

/-! ### wringerlaw13_awake: function 8 -/
def wringerlaw13_awake.f  : Option (Bool) := if 65 ≤ 35184372088832 then ((some (List.replicate 65 0 : List Int)).bind fun y115 => (if 9 < (y115.length : Int) then ((spread_Table.f (y115.set (9 : Int).toNat 128) 7).bind fun bt119 => ((wringerlaw1_Err.f bt119.2).bind fun t123 => (if t123 = 0 then (if (bt119.1.length : Int) = 128 then (if 0 < (bt119.1.length : Int) then (if ((rd_T45 bt119.1 0).f0) = 9 then (if ((rd_T45 bt119.1 0).f1) = 0 then (some (((rd_T45 bt119.1 0).f2) == 0)) else (some false)) else (some false)) else (none)) else (some false)) else (some false)))) else (none))) else (none)
set_option maxHeartbeats 8000000 in
set_option maxRecDepth 100000 in
theorem wringerlaw13_awake.calls  (r : Bool) (w : World) (h : wringerlaw13_awake.f  = some r) :
    Calls Try.prog 8 #[] w fun e w' => e = .returned (.bool r) ∧ Below w.heap.size w w' := by
  have HB := Aside0.mk (Below.refl w.heap.size w)
  have H : (if 65 ≤ 35184372088832 then ((some (List.replicate 65 0 : List Int)).bind fun y115 => (if 9 < (y115.length : Int) then ((spread_Table.f (y115.set (9 : Int).toNat 128) 7).bind fun bt119 => ((wringerlaw1_Err.f bt119.2).bind fun t123 => (if t123 = 0 then (if (bt119.1.length : Int) = 128 then (if 0 < (bt119.1.length : Int) then (if ((rd_T45 bt119.1 0).f0) = 9 then (if ((rd_T45 bt119.1 0).f1) = 0 then (some (((rd_T45 bt119.1 0).f2) == 0)) else (some false)) else (some false)) else (none)) else (some false)) else (some false)))) else (none))) else (none)) = some r := h
  clear h
  by_cases c1 : 65 ≤ 35184372088832
  · rw [if_pos c1] at H
    have c1b0 := eq_true c1
    have c1b1 : decide (65 ≤ 35184372088832) = true := decide_eq_true c1
    clear c1
    obtain ⟨y115, hy115⟩ : ∃ y_ : List Int, y_ = (List.replicate 65 0) := ⟨_, rfl⟩
    replace H : (if 9 < (y115.length : Int) then ((spread_Table.f (y115.set (9 : Int).toNat 128) 7).bind fun bt119 => ((wringerlaw1_Err.f bt119.2).bind fun t123 => (if t123 = 0 then (if (bt119.1.length : Int) = 128 then (if 0 < (bt119.1.length : Int) then (if ((rd_T45 bt119.1 0).f0) = 9 then (if ((rd_T45 bt119.1 0).f1) = 0 then (some (((rd_T45 bt119.1 0).f2) == 0)) else (some false)) else (some false)) else (none)) else (some false)) else (some false)))) else (none)) = some r := by first | (rw [hy115]; with_reducible exact H) | (have H2_ := (Option.bind_some _ _).symm.trans H; rw [hy115]; with_reducible exact H2_) | (have H2_ := (Option.bind_some _ _).symm.trans H; with_reducible exact H2_) | with_reducible exact H | (rw [hy115]; exact H) | exact H
    have Ny115 := Aside0.mk hy115
    clear hy115
    by_cases c2 : 9 < (y115.length : Int)
    · rw [if_pos c2] at H
      have c2b0 : decide (9 < (y115.length : Int)) = true := decide_eq_true c2
      have c2b1 : decide (9 < y115.length) = true := decide_eq_true (by omega)
      clear c2
      obtain ⟨y118, hy118⟩ : ∃ y_ : List Int, y_ = (y115.set (9 : Int).toNat 128) := ⟨_, rfl⟩
      replace H : ((spread_Table.f y118 7).bind fun bt119 => ((wringerlaw1_Err.f bt119.2).bind fun t123 => (if t123 = 0 then (if (bt119.1.length : Int) = 128 then (if 0 < (bt119.1.length : Int) then (if ((rd_T45 bt119.1 0).f0) = 9 then (if ((rd_T45 bt119.1 0).f1) = 0 then (some (((rd_T45 bt119.1 0).f2) == 0)) else (some false)) else (some false)) else (none)) else (some false)) else (some false)))) = some r := by first | (rw [hy118]; with_reducible exact H) | (have H2_ := (Option.bind_some _ _).symm.trans H; rw [hy118]; with_reducible exact H2_) | (have H2_ := (Option.bind_some _ _).symm.trans H; with_reducible exact H2_) | with_reducible exact H | (rw [hy118]; exact H) | exact H
      have Ny118 := Aside0.mk hy118
      clear hy118
      replace H := Option.bind_eq_some_iff.mp H
      obtain ⟨⟨t119, t120⟩, A40, H⟩ := H
      replace H : ((wringerlaw1_Err.f t120).bind fun t123 => (if t123 = 0 then (if (t119.length : Int) = 128 then (if 0 < (t119.length : Int) then (if ((rd_T45 t119 0).f0) = 9 then (if ((rd_T45 t119 0).f1) = 0 then (some (((rd_T45 t119 0).f2) == 0)) else (some false)) else (some false)) else (none)) else (some false)) else (some false))) = some r := H
      have A4 := Aside0.mk A40
      clear A40
      replace H := Option.bind_eq_some_iff.mp H
      obtain ⟨t123, A50, H⟩ := H
      replace H : (if t123 = 0 then (if (t119.length : Int) = 128 then (if 0 < (t119.length : Int) then (if ((rd_T45 t119 0).f0) = 9 then (if ((rd_T45 t119 0).f1) = 0 then (some (((rd_T45 t119 0).f2) == 0)) else (some false)) else (some false)) else (none)) else (some false)) else (some false)) = some r := H
      have A5 := Aside0.mk A50
      clear A50
      by_cases c6 : t123 = 0
      · rw [if_pos c6] at H
        have c6b0 : (t123 == 0) = true := beq_iff_eq.mpr c6
        have c6b1 : (t123 != 0) = false := bne_eq_false_iff_eq.mpr c6
        clear c6
        by_cases c7 : (t119.length : Int) = 128
        · rw [if_pos c7] at H
          have c7b0 : ((t119.length : Int) == 128) = true := beq_iff_eq.mpr c7
          have c7b1 : ((t119.length : Int) != 128) = false := bne_eq_false_iff_eq.mpr c7
          clear c7
          by_cases c8 : 0 < (t119.length : Int)
          · rw [if_pos c8] at H
            have c8b0 : decide (0 < (t119.length : Int)) = true := decide_eq_true c8
            have c8b1 : decide (0 < t119.length) = true := decide_eq_true (by omega)
            clear c8
            by_cases c9 : ((rd_T45 t119 0).f0) = 9
            · rw [if_pos c9] at H
              have c9b0 : (((rd_T45 t119 0).f0) == 9) = true := beq_iff_eq.mpr c9
              have c9b1 : (((rd_T45 t119 0).f0) != 9) = false := bne_eq_false_iff_eq.mpr c9
              clear c9
              by_cases c10 : ((rd_T45 t119 0).f1) = 0
              · rw [if_pos c10] at H
                have c10b0 : (((rd_T45 t119 0).f1) == 0) = true := beq_iff_eq.mpr c10
                have c10b1 : (((rd_T45 t119 0).f1) != 0) = false := bne_eq_false_iff_eq.mpr c10
                clear c10
                obtain rfl := Option.some.inj H
                go_enter Try.func8, Try.ntmps8
                go_wp2_with (first | ((with_reducible refine gate_dst (N := 4) rfl ?_); (try (refine gate_guard (by rfl) ?_; dsimp only)); refine Kd.R_make (Kd.int .i64) _ 3 rfl (N := 4) rfl 22 _ _ rfl 65 rfl rfl Try.underlying22 (.int .i64 0) 8 info3 rfl (by decide) (by omega) 0 (ok := fun _ => True) (okp := fun _ => True) rfl (fun _ hk => hk) trivial (by omega) (by omega) (Below.refl _ _) (Nat.le_refl _) ?_; intro v116 w11 ho12 hb hg_ hnew_; clear hg_ hnew_; (first | rw [← Ny115.out] at ho12 | (simp only [Int.reduceToNat] at ho12; rw [← Ny115.out] at ho12)); have n0_ := Aside0.mk (Kd.R_lower ho12 (below_size (by repeat (first | (with_reducible first | exact HB.out | apply below_alloc | apply pw_below_drewN | apply below_drew1) | exact HB.out)))); have n1_ := Aside0.mk (below_step (by repeat (first | (with_reducible first | exact HB.out | apply below_alloc | apply pw_below_drewN | apply below_drew1) | exact HB.out)) hb); clear HB; have HO117 := n0_; have HB := n1_; clear n0_ n1_; clear hb ho12; have p3 : 0 ≤ (9 : Int) := (by omega); have q3 : (9 : Int) < ((y115.length : Int) : Int) := of_decide_eq_true (by first | (with_reducible assumption) | assumption); have qi3 : (9 < y115.length) = True := eq_true (by omega); obtain ⟨go3, co3, eo3, gb3, gl3, cl3, HG3⟩ := Kd.R_form HO117.out (by omega); (first | cases eo3 | (injection eo3 with ea_ en_ ec_; (first | subst ea_ | (injection ea_ with ea_; subst ea_)); subst ec_; clear en_)); have GB3 := Aside0.mk gb3; have GG3 := Aside0.mk HG3; clear gb3 gl3 HG3; obtain ⟨hx3_0, hf3_0⟩ := Kd.R_celln 0 HO117.out (9 : Int) p3 q3; (try rw [show ((9 : Int)).toNat = 9 from rfl] at hx3_0); (try simp only [Nat.reduceMul, Nat.zero_mul, Nat.zero_add, Nat.reduceAdd] at hx3_0); (try rw [show ((9 : Int)).toNat = 9 from rfl] at hf3_0); (try simp only [Nat.reduceMul, Nat.zero_mul, Nat.zero_add, Nat.reduceAdd] at hf3_0); replace p3 := eq_true p3; replace q3 := eq_true q3; obtain ⟨hy13_, hz13_⟩ := Kd.R_celln 0 HO117.out (9 : Int) (by omega) (of_decide_eq_true (by first | (with_reducible assumption) | assumption)); (try simp only [Int.reduceToNat, Int.toNat_zero, Int.toNat_ofNat, Nat.reduceMul, Nat.zero_mul, Nat.zero_add] at hy13_ hz13_); (try rw [show ((9 : Int)).toNat = 9 from rfl] at hy13_); (try rw [show ((9 : Int)).toNat = 9 from rfl] at hz13_); have HP13 := Kd.R_putg HO117.out (9 : Int) 128) | ((with_reducible refine gate_store (t := 3) (p := 6) rfl ?_); refine store_event (t := 3) (p := 6) (v := ?vo_w14) (w1 := (w11.setCell ⟨go3, (9 : Int).toNat, none⟩ (.int .i64 128))) ?hg ?ho ?hn ?hr ?_; (case ho => rfl); (case hg => rfl); (case hn => rfl); (case hr => first | (go_simp; done) | (go_simp; rfl)); intro w14 hw; have hg : w11.grownBy w14 (some go3) := (by rw [hw]; exact HP13.2); have hp_ : Kd.R (Kd.int .i64) 3 w14 w.heap.size (fun _ => True) (.slice (some ⟨go3, 0, none⟩) y115.length co3) y118 := (by rw [hw, Ny118.out]; exact HP13.1); clear HP13; have n0_ := Aside0.mk (hp_); have n1_ := Aside0.mk ((by rw [hw]; exact below_set (HB.out) GB3.out : Below w.heap.size w w14)); clear HO117; clear HB; have HO117 := n0_; have HB := n1_; clear n0_ n1_; clear hg hw hp_) | ((with_reducible refine gate_callee (f := 11) rfl ?_); refine goesL_ (some 9) rfl rfl Try.func11 (by kernel_rfl) rfl #[.slice (some ⟨go3, 0, none⟩) y118.length co3, .int .i64 7] rfl (by (try simp only [List.map_toArray, List.map_cons, List.map_nil]); first | done | (rw [show y118.length = y115.length from (Kd.R_reads' HO117.out).1.symm] <;> rfl) | rfl | (simp only [List.length_drop, List.length_take]; rfl)) ?_; (with_reducible refine (spread_Table.calls _ _ y118 7 t119 t120 _ ?side1 ?side2 A4.out).mono ?_); (case side1 => repeat (first | exact (Kd.R_reads' HO117.out).2.2 | (with_reducible refine Kd.C_alloc ?_ _) | (with_reducible refine Kd.C_drewN ?_ _) | (with_reducible refine Kd.C_drew ?_))); (case side2 => rw [show y118.length = y115.length from (Kd.R_reads' HO117.out).1.symm]; exact (Kd.R_reads' HO117.out).2.1); rintro e w15 ⟨v121, rfl, ho0, hb⟩; refine ⟨_, rfl, ?_⟩; have n0_ := Aside0.mk (Kd.R_below (by (with_reducible repeat (first | apply Kd.R_alloc | apply Kd.R_drewN | apply Kd.R_drew)); exact HO117.out) hb); have n1_ := Aside0.mk (Kd.R_lower ho0 (below_size (by repeat (first | (with_reducible first | exact HB.out | apply below_alloc | apply pw_below_drewN | apply below_drew1) | exact HB.out)))); have n2_ := Aside0.mk (below_step (by repeat (first | (with_reducible first | exact HB.out | apply below_alloc | apply pw_below_drewN | apply below_drew1) | exact HB.out)) hb); clear HO117; clear HB; have HO117 := n0_; have HO122 := n1_; have HB := n2_; clear n0_ n1_ n2_; (try clear hb); (try clear hb2); (try clear hk); (try clear hi); (try clear ho0)) | ((with_reducible refine gate_callee (f := 14) rfl ?_); refine goesL_ (some 13) rfl rfl Try.func14 (by kernel_rfl) rfl #[.int .i64 t120] rfl (by (try simp only [List.map_toArray, List.map_cons, List.map_nil]); first | done | rfl | (simp only [List.length_drop, List.length_take]; rfl)) ?_; (with_reducible refine (wringerlaw1_Err.calls t120 t123 _ A5.out).mono ?_); rintro e w' ⟨rfl, ⟨nd, rfl⟩⟩; refine ⟨_, rfl, ?_⟩; obtain ⟨Ao16, co16, eo16⟩ := Kd.R_slice HO122.out; subst eo16; have p124 : 0 ≤ (0 : Int) := (by omega); have q124 : 0 < (t119.length : Int) := of_decide_eq_true (by first | (with_reducible assumption) | assumption); obtain ⟨ad124, e124, hx124_0, hx124_1, hx124_2⟩ := at_T45 (Kd.R_reads' HO122.out).2.2 0 p124 q124; cases e124; have qi124 : (0 < t119.length) = True := eq_true (by omega); (try rw [show ((0 : Int)).toNat = 0 from rfl] at hx124_0); (try rw [show 0 * 3 = 0 from rfl] at hx124_0); (try rw [Addr.add_zero'] at hx124_0); (try rw [show ((0 : Int)).toNat = 0 from rfl] at hx124_1); (try rw [show 0 * 3 = 0 from rfl] at hx124_1); (try rw [Addr.add_zero'] at hx124_1); (try rw [show ((0 : Int)).toNat = 0 from rfl] at hx124_2); (try rw [show 0 * 3 = 0 from rfl] at hx124_2); (try rw [Addr.add_zero'] at hx124_2); replace p124 := eq_true p124; replace q124 := eq_true q124; have p125 : 0 ≤ (0 : Int) := (by omega); have q125 : 0 < (t119.length : Int) := of_decide_eq_true (by first | (with_reducible assumption) | assumption); obtain ⟨ad125, e125, hx125_0, hx125_1, hx125_2⟩ := at_T45 (Kd.R_reads' HO122.out).2.2 0 p125 q125; obtain rfl : ad124 = ad125 := (by injection e125); have qi125 : (0 < t119.length) = True := eq_true (by omega); (try rw [show ((0 : Int)).toNat = 0 from rfl] at hx125_0); (try rw [show 0 * 3 = 0 from rfl] at hx125_0); (try rw [Addr.add_zero'] at hx125_0); (try rw [show ((0 : Int)).toNat = 0 from rfl] at hx125_1); (try rw [show 0 * 3 = 0 from rfl] at hx125_1); (try rw [Addr.add_zero'] at hx125_1); (try rw [show ((0 : Int)).toNat = 0 from rfl] at hx125_2); (try rw [show 0 * 3 = 0 from rfl] at hx125_2); (try rw [Addr.add_zero'] at hx125_2); replace p125 := eq_true p125; replace q125 := eq_true q125; have p126 : 0 ≤ (0 : Int) := (by omega); have q126 : 0 < (t119.length : Int) := of_decide_eq_true (by first | (with_reducible assumption) | assumption); obtain ⟨ad126, e126, hx126_0, hx126_1, hx126_2⟩ := at_T45 (Kd.R_reads' HO122.out).2.2 0 p126 q126; obtain rfl : ad124 = ad126 := (by injection e126); have qi126 : (0 < t119.length) = True := eq_true (by omega); (try rw [show ((0 : Int)).toNat = 0 from rfl] at hx126_0); (try rw [show 0 * 3 = 0 from rfl] at hx126_0); (try rw [Addr.add_zero'] at hx126_0); (try rw [show ((0 : Int)).toNat = 0 from rfl] at hx126_1); (try rw [show 0 * 3 = 0 from rfl] at hx126_1); (try rw [Addr.add_zero'] at hx126_1); (try rw [show ((0 : Int)).toNat = 0 from rfl] at hx126_2); (try rw [show 0 * 3 = 0 from rfl] at hx126_2); (try rw [Addr.add_zero'] at hx126_2); replace p126 := eq_true p126; replace q126 := eq_true q126))
                go_ret
                exact ⟨by first | rfl | (simp [errW_none, errW_some] <;> rfl) | (simp [*, errW_none, errW_some] <;> rfl), by repeat (first | (with_reducible first | exact HB.out | apply below_alloc | apply pw_below_drewN | apply below_drew1) | exact HB.out)⟩
              · rw [if_neg c10] at H
                have c10b0 : (((rd_T45 t119 0).f1) == 0) = false := beq_eq_false_iff_ne.mpr c10
                have c10b1 : (((rd_T45 t119 0).f1) != 0) = true := bne_iff_ne.mpr c10
                obtain rfl := Option.some.inj H
                go_enter Try.func8, Try.ntmps8
                go_wp2_with (first | ((with_reducible refine gate_dst (N := 4) rfl ?_); (try (refine gate_guard (by rfl) ?_; dsimp only)); refine Kd.R_make (Kd.int .i64) _ 3 rfl (N := 4) rfl 22 _ _ rfl 65 rfl rfl Try.underlying22 (.int .i64 0) 8 info3 rfl (by decide) (by omega) 0 (ok := fun _ => True) (okp := fun _ => True) rfl (fun _ hk => hk) trivial (by omega) (by omega) (Below.refl _ _) (Nat.le_refl _) ?_; intro v116 w17 ho18 hb hg_ hnew_; clear hg_ hnew_; (first | rw [← Ny115.out] at ho18 | (simp only [Int.reduceToNat] at ho18; rw [← Ny115.out] at ho18)); have n0_ := Aside0.mk (Kd.R_lower ho18 (below_size (by repeat (first | (with_reducible first | exact HB.out | apply below_alloc | apply pw_below_drewN | apply below_drew1) | exact HB.out)))); have n1_ := Aside0.mk (below_step (by repeat (first | (with_reducible first | exact HB.out | apply below_alloc | apply pw_below_drewN | apply below_drew1) | exact HB.out)) hb); clear HB; have HO117 := n0_; have HB := n1_; clear n0_ n1_; clear hb ho18; have p3 : 0 ≤ (9 : Int) := (by omega); have q3 : (9 : Int) < ((y115.length : Int) : Int) := of_decide_eq_true (by first | (with_reducible assumption) | assumption); have qi3 : (9 < y115.length) = True := eq_true (by omega); obtain ⟨go3, co3, eo3, gb3, gl3, cl3, HG3⟩ := Kd.R_form HO117.out (by omega); (first | cases eo3 | (injection eo3 with ea_ en_ ec_; (first | subst ea_ | (injection ea_ with ea_; subst ea_)); subst ec_; clear en_)); have GB3 := Aside0.mk gb3; have GG3 := Aside0.mk HG3; clear gb3 gl3 HG3; obtain ⟨hx3_0, hf3_0⟩ := Kd.R_celln 0 HO117.out (9 : Int) p3 q3; (try rw [show ((9 : Int)).toNat = 9 from rfl] at hx3_0); (try simp only [Nat.reduceMul, Nat.zero_mul, Nat.zero_add, Nat.reduceAdd] at hx3_0); (try rw [show ((9 : Int)).toNat = 9 from rfl] at hf3_0); (try simp only [Nat.reduceMul, Nat.zero_mul, Nat.zero_add, Nat.reduceAdd] at hf3_0); replace p3 := eq_true p3; replace q3 := eq_true q3; obtain ⟨hy19_, hz19_⟩ := Kd.R_celln 0 HO117.out (9 : Int) (by omega) (of_decide_eq_true (by first | (with_reducible assumption) | assumption)); (try simp only [Int.reduceToNat, Int.toNat_zero, Int.toNat_ofNat, Nat.reduceMul, Nat.zero_mul, Nat.zero_add] at hy19_ hz19_); (try rw [show ((9 : Int)).toNat = 9 from rfl] at hy19_); (try rw [show ((9 : Int)).toNat = 9 from rfl] at hz19_); have HP19 := Kd.R_putg HO117.out (9 : Int) 128) | ((with_reducible refine gate_store (t := 3) (p := 6) rfl ?_); refine store_event (t := 3) (p := 6) (v := ?vo_w20) (w1 := (w17.setCell ⟨go3, (9 : Int).toNat, none⟩ (.int .i64 128))) ?hg ?ho ?hn ?hr ?_; (case ho => rfl); (case hg => rfl); (case hn => rfl); (case hr => first | (go_simp; done) | (go_simp; rfl)); intro w20 hw; have hg : w17.grownBy w20 (some go3) := (by rw [hw]; exact HP19.2); have hp_ : Kd.R (Kd.int .i64) 3 w20 w.heap.size (fun _ => True) (.slice (some ⟨go3, 0, none⟩) y115.length co3) y118 := (by rw [hw, Ny118.out]; exact HP19.1); clear HP19; have n0_ := Aside0.mk (hp_); have n1_ := Aside0.mk ((by rw [hw]; exact below_set (HB.out) GB3.out : Below w.heap.size w w20)); clear HO117; clear HB; have HO117 := n0_; have HB := n1_; clear n0_ n1_; clear hg hw hp_) | ((with_reducible refine gate_callee (f := 11) rfl ?_); refine goesL_ (some 9) rfl rfl Try.func11 (by kernel_rfl) rfl #[.slice (some ⟨go3, 0, none⟩) y118.length co3, .int .i64 7] rfl (by (try simp only [List.map_toArray, List.map_cons, List.map_nil]); first | done | (rw [show y118.length = y115.length from (Kd.R_reads' HO117.out).1.symm] <;> rfl) | rfl | (simp only [List.length_drop, List.length_take]; rfl)) ?_; (with_reducible refine (spread_Table.calls _ _ y118 7 t119 t120 _ ?side1 ?side2 A4.out).mono ?_); (case side1 => repeat (first | exact (Kd.R_reads' HO117.out).2.2 | (with_reducible refine Kd.C_alloc ?_ _) | (with_reducible refine Kd.C_drewN ?_ _) | (with_reducible refine Kd.C_drew ?_))); (case side2 => rw [show y118.length = y115.length from (Kd.R_reads' HO117.out).1.symm]; exact (Kd.R_reads' HO117.out).2.1); rintro e w21 ⟨v121, rfl, ho0, hb⟩; refine ⟨_, rfl, ?_⟩; have n0_ := Aside0.mk (Kd.R_below (by (with_reducible repeat (first | apply Kd.R_alloc | apply Kd.R_drewN | apply Kd.R_drew)); exact HO117.out) hb); have n1_ := Aside0.mk (Kd.R_lower ho0 (below_size (by repeat (first | (with_reducible first | exact HB.out | apply below_alloc | apply pw_below_drewN | apply below_drew1) | exact HB.out)))); have n2_ := Aside0.mk (below_step (by repeat (first | (with_reducible first | exact HB.out | apply below_alloc | apply pw_below_drewN | apply below_drew1) | exact HB.out)) hb); clear HO117; clear HB; have HO117 := n0_; have HO122 := n1_; have HB := n2_; clear n0_ n1_ n2_; (try clear hb); (try clear hb2); (try clear hk); (try clear hi); (try clear ho0)) | ((with_reducible refine gate_callee (f := 14) rfl ?_); refine goesL_ (some 13) rfl rfl Try.func14 (by kernel_rfl) rfl #[.int .i64 t120] rfl (by (try simp only [List.map_toArray, List.map_cons, List.map_nil]); first | done | rfl | (simp only [List.length_drop, List.length_take]; rfl)) ?_; (with_reducible refine (wringerlaw1_Err.calls t120 t123 _ A5.out).mono ?_); rintro e w' ⟨rfl, ⟨nd, rfl⟩⟩; refine ⟨_, rfl, ?_⟩; obtain ⟨Ao22, co22, eo22⟩ := Kd.R_slice HO122.out; subst eo22; have p124 : 0 ≤ (0 : Int) := (by omega); have q124 : 0 < (t119.length : Int) := of_decide_eq_true (by first | (with_reducible assumption) | assumption); obtain ⟨ad124, e124, hx124_0, hx124_1, hx124_2⟩ := at_T45 (Kd.R_reads' HO122.out).2.2 0 p124 q124; cases e124; have qi124 : (0 < t119.length) = True := eq_true (by omega); (try rw [show ((0 : Int)).toNat = 0 from rfl] at hx124_0); (try rw [show 0 * 3 = 0 from rfl] at hx124_0); (try rw [Addr.add_zero'] at hx124_0); (try rw [show ((0 : Int)).toNat = 0 from rfl] at hx124_1); (try rw [show 0 * 3 = 0 from rfl] at hx124_1); (try rw [Addr.add_zero'] at hx124_1); (try rw [show ((0 : Int)).toNat = 0 from rfl] at hx124_2); (try rw [show 0 * 3 = 0 from rfl] at hx124_2); (try rw [Addr.add_zero'] at hx124_2); replace p124 := eq_true p124; replace q124 := eq_true q124; have p125 : 0 ≤ (0 : Int) := (by omega); have q125 : 0 < (t119.length : Int) := of_decide_eq_true (by first | (with_reducible assumption) | assumption); obtain ⟨ad125, e125, hx125_0, hx125_1, hx125_2⟩ := at_T45 (Kd.R_reads' HO122.out).2.2 0 p125 q125; obtain rfl : ad124 = ad125 := (by injection e125); have qi125 : (0 < t119.length) = True := eq_true (by omega); (try rw [show ((0 : Int)).toNat = 0 from rfl] at hx125_0); (try rw [show 0 * 3 = 0 from rfl] at hx125_0); (try rw [Addr.add_zero'] at hx125_0); (try rw [show ((0 : Int)).toNat = 0 from rfl] at hx125_1); (try rw [show 0 * 3 = 0 from rfl] at hx125_1); (try rw [Addr.add_zero'] at hx125_1); (try rw [show ((0 : Int)).toNat = 0 from rfl] at hx125_2); (try rw [show 0 * 3 = 0 from rfl] at hx125_2); (try rw [Addr.add_zero'] at hx125_2); replace p125 := eq_true p125; replace q125 := eq_true q125))
                go_ret
                exact ⟨by first | rfl | (simp [errW_none, errW_some] <;> rfl) | (simp [*, errW_none, errW_some] <;> rfl), by repeat (first | (with_reducible first | exact HB.out | apply below_alloc | apply pw_below_drewN | apply below_drew1) | exact HB.out)⟩
            · rw [if_neg c9] at H
              have c9b0 : (((rd_T45 t119 0).f0) == 9) = false := beq_eq_false_iff_ne.mpr c9
              have c9b1 : (((rd_T45 t119 0).f0) != 9) = true := bne_iff_ne.mpr c9
              obtain rfl := Option.some.inj H
              go_enter Try.func8, Try.ntmps8
              go_wp2_with (first | ((with_reducible refine gate_dst (N := 4) rfl ?_); (try (refine gate_guard (by rfl) ?_; dsimp only)); refine Kd.R_make (Kd.int .i64) _ 3 rfl (N := 4) rfl 22 _ _ rfl 65 rfl rfl Try.underlying22 (.int .i64 0) 8 info3 rfl (by decide) (by omega) 0 (ok := fun _ => True) (okp := fun _ => True) rfl (fun _ hk => hk) trivial (by omega) (by omega) (Below.refl _ _) (Nat.le_refl _) ?_; intro v116 w23 ho24 hb hg_ hnew_; clear hg_ hnew_; (first | rw [← Ny115.out] at ho24 | (simp only [Int.reduceToNat] at ho24; rw [← Ny115.out] at ho24)); have n0_ := Aside0.mk (Kd.R_lower ho24 (below_size (by repeat (first | (with_reducible first | exact HB.out | apply below_alloc | apply pw_below_drewN | apply below_drew1) | exact HB.out)))); have n1_ := Aside0.mk (below_step (by repeat (first | (with_reducible first | exact HB.out | apply below_alloc | apply pw_below_drewN | apply below_drew1) | exact HB.out)) hb); clear HB; have HO117 := n0_; have HB := n1_; clear n0_ n1_; clear hb ho24; have p3 : 0 ≤ (9 : Int) := (by omega); have q3 : (9 : Int) < ((y115.length : Int) : Int) := of_decide_eq_true (by first | (with_reducible assumption) | assumption); have qi3 : (9 < y115.length) = True := eq_true (by omega); obtain ⟨go3, co3, eo3, gb3, gl3, cl3, HG3⟩ := Kd.R_form HO117.out (by omega); (first | cases eo3 | (injection eo3 with ea_ en_ ec_; (first | subst ea_ | (injection ea_ with ea_; subst ea_)); subst ec_; clear en_)); have GB3 := Aside0.mk gb3; have GG3 := Aside0.mk HG3; clear gb3 gl3 HG3; obtain ⟨hx3_0, hf3_0⟩ := Kd.R_celln 0 HO117.out (9 : Int) p3 q3; (try rw [show ((9 : Int)).toNat = 9 from rfl] at hx3_0); (try simp only [Nat.reduceMul, Nat.zero_mul, Nat.zero_add, Nat.reduceAdd] at hx3_0); (try rw [show ((9 : Int)).toNat = 9 from rfl] at hf3_0); (try simp only [Nat.reduceMul, Nat.zero_mul, Nat.zero_add, Nat.reduceAdd] at hf3_0); replace p3 := eq_true p3; replace q3 := eq_true q3; obtain ⟨hy25_, hz25_⟩ := Kd.R_celln 0 HO117.out (9 : Int) (by omega) (of_decide_eq_true (by first | (with_reducible assumption) | assumption)); (try simp only [Int.reduceToNat, Int.toNat_zero, Int.toNat_ofNat, Nat.reduceMul, Nat.zero_mul, Nat.zero_add] at hy25_ hz25_); (try rw [show ((9 : Int)).toNat = 9 from rfl] at hy25_); (try rw [show ((9 : Int)).toNat = 9 from rfl] at hz25_); have HP25 := Kd.R_putg HO117.out (9 : Int) 128) | ((with_reducible refine gate_store (t := 3) (p := 6) rfl ?_); refine store_event (t := 3) (p := 6) (v := ?vo_w26) (w1 := (w23.setCell ⟨go3, (9 : Int).toNat, none⟩ (.int .i64 128))) ?hg ?ho ?hn ?hr ?_; (case ho => rfl); (case hg => rfl); (case hn => rfl); (case hr => first | (go_simp; done) | (go_simp; rfl)); intro w26 hw; have hg : w23.grownBy w26 (some go3) := (by rw [hw]; exact HP25.2); have hp_ : Kd.R (Kd.int .i64) 3 w26 w.heap.size (fun _ => True) (.slice (some ⟨go3, 0, none⟩) y115.length co3) y118 := (by rw [hw, Ny118.out]; exact HP25.1); clear HP25; have n0_ := Aside0.mk (hp_); have n1_ := Aside0.mk ((by rw [hw]; exact below_set (HB.out) GB3.out : Below w.heap.size w w26)); clear HO117; clear HB; have HO117 := n0_; have HB := n1_; clear n0_ n1_; clear hg hw hp_) | ((with_reducible refine gate_callee (f := 11) rfl ?_); refine goesL_ (some 9) rfl rfl Try.func11 (by kernel_rfl) rfl #[.slice (some ⟨go3, 0, none⟩) y118.length co3, .int .i64 7] rfl (by (try simp only [List.map_toArray, List.map_cons, List.map_nil]); first | done | (rw [show y118.length = y115.length from (Kd.R_reads' HO117.out).1.symm] <;> rfl) | rfl | (simp only [List.length_drop, List.length_take]; rfl)) ?_; (with_reducible refine (spread_Table.calls _ _ y118 7 t119 t120 _ ?side1 ?side2 A4.out).mono ?_); (case side1 => repeat (first | exact (Kd.R_reads' HO117.out).2.2 | (with_reducible refine Kd.C_alloc ?_ _) | (with_reducible refine Kd.C_drewN ?_ _) | (with_reducible refine Kd.C_drew ?_))); (case side2 => rw [show y118.length = y115.length from (Kd.R_reads' HO117.out).1.symm]; exact (Kd.R_reads' HO117.out).2.1); rintro e w27 ⟨v121, rfl, ho0, hb⟩; refine ⟨_, rfl, ?_⟩; have n0_ := Aside0.mk (Kd.R_below (by (with_reducible repeat (first | apply Kd.R_alloc | apply Kd.R_drewN | apply Kd.R_drew)); exact HO117.out) hb); have n1_ := Aside0.mk (Kd.R_lower ho0 (below_size (by repeat (first | (with_reducible first | exact HB.out | apply below_alloc | apply pw_below_drewN | apply below_drew1) | exact HB.out)))); have n2_ := Aside0.mk (below_step (by repeat (first | (with_reducible first | exact HB.out | apply below_alloc | apply pw_below_drewN | apply below_drew1) | exact HB.out)) hb); clear HO117; clear HB; have HO117 := n0_; have HO122 := n1_; have HB := n2_; clear n0_ n1_ n2_; (try clear hb); (try clear hb2); (try clear hk); (try clear hi); (try clear ho0)) | ((with_reducible refine gate_callee (f := 14) rfl ?_); refine goesL_ (some 13) rfl rfl Try.func14 (by kernel_rfl) rfl #[.int .i64 t120] rfl (by (try simp only [List.map_toArray, List.map_cons, List.map_nil]); first | done | rfl | (simp only [List.length_drop, List.length_take]; rfl)) ?_; (with_reducible refine (wringerlaw1_Err.calls t120 t123 _ A5.out).mono ?_); rintro e w' ⟨rfl, ⟨nd, rfl⟩⟩; refine ⟨_, rfl, ?_⟩; obtain ⟨Ao28, co28, eo28⟩ := Kd.R_slice HO122.out; subst eo28; have p124 : 0 ≤ (0 : Int) := (by omega); have q124 : 0 < (t119.length : Int) := of_decide_eq_true (by first | (with_reducible assumption) | assumption); obtain ⟨ad124, e124, hx124_0, hx124_1, hx124_2⟩ := at_T45 (Kd.R_reads' HO122.out).2.2 0 p124 q124; cases e124; have qi124 : (0 < t119.length) = True := eq_true (by omega); (try rw [show ((0 : Int)).toNat = 0 from rfl] at hx124_0); (try rw [show 0 * 3 = 0 from rfl] at hx124_0); (try rw [Addr.add_zero'] at hx124_0); (try rw [show ((0 : Int)).toNat = 0 from rfl] at hx124_1); (try rw [show 0 * 3 = 0 from rfl] at hx124_1); (try rw [Addr.add_zero'] at hx124_1); (try rw [show ((0 : Int)).toNat = 0 from rfl] at hx124_2); (try rw [show 0 * 3 = 0 from rfl] at hx124_2); (try rw [Addr.add_zero'] at hx124_2); replace p124 := eq_true p124; replace q124 := eq_true q124))
              go_ret
              exact ⟨by first | rfl | (simp [errW_none, errW_some] <;> rfl) | (simp [*, errW_none, errW_some] <;> rfl), by repeat (first | (with_reducible first | exact HB.out | apply below_alloc | apply pw_below_drewN | apply below_drew1) | exact HB.out)⟩
          · rw [if_neg c8] at H
            exact absurd H (by simp)
        · rw [if_neg c7] at H
          have c7b0 : ((t119.length : Int) == 128) = false := beq_eq_false_iff_ne.mpr c7
          have c7b1 : ((t119.length : Int) != 128) = true := bne_iff_ne.mpr c7
          obtain rfl := Option.some.inj H
          go_enter Try.func8, Try.ntmps8
          go_wp2_with (first | ((with_reducible refine gate_dst (N := 4) rfl ?_); (try (refine gate_guard (by rfl) ?_; dsimp only)); refine Kd.R_make (Kd.int .i64) _ 3 rfl (N := 4) rfl 22 _ _ rfl 65 rfl rfl Try.underlying22 (.int .i64 0) 8 info3 rfl (by decide) (by omega) 0 (ok := fun _ => True) (okp := fun _ => True) rfl (fun _ hk => hk) trivial (by omega) (by omega) (Below.refl _ _) (Nat.le_refl _) ?_; intro v116 w29 ho30 hb hg_ hnew_; clear hg_ hnew_; (first | rw [← Ny115.out] at ho30 | (simp only [Int.reduceToNat] at ho30; rw [← Ny115.out] at ho30)); have n0_ := Aside0.mk (Kd.R_lower ho30 (below_size (by repeat (first | (with_reducible first | exact HB.out | apply below_alloc | apply pw_below_drewN | apply below_drew1) | exact HB.out)))); have n1_ := Aside0.mk (below_step (by repeat (first | (with_reducible first | exact HB.out | apply below_alloc | apply pw_below_drewN | apply below_drew1) | exact HB.out)) hb); clear HB; have HO117 := n0_; have HB := n1_; clear n0_ n1_; clear hb ho30; have p3 : 0 ≤ (9 : Int) := (by omega); have q3 : (9 : Int) < ((y115.length : Int) : Int) := of_decide_eq_true (by first | (with_reducible assumption) | assumption); have qi3 : (9 < y115.length) = True := eq_true (by omega); obtain ⟨go3, co3, eo3, gb3, gl3, cl3, HG3⟩ := Kd.R_form HO117.out (by omega); (first | cases eo3 | (injection eo3 with ea_ en_ ec_; (first | subst ea_ | (injection ea_ with ea_; subst ea_)); subst ec_; clear en_)); have GB3 := Aside0.mk gb3; have GG3 := Aside0.mk HG3; clear gb3 gl3 HG3; obtain ⟨hx3_0, hf3_0⟩ := Kd.R_celln 0 HO117.out (9 : Int) p3 q3; (try rw [show ((9 : Int)).toNat = 9 from rfl] at hx3_0); (try simp only [Nat.reduceMul, Nat.zero_mul, Nat.zero_add, Nat.reduceAdd] at hx3_0); (try rw [show ((9 : Int)).toNat = 9 from rfl] at hf3_0); (try simp only [Nat.reduceMul, Nat.zero_mul, Nat.zero_add, Nat.reduceAdd] at hf3_0); replace p3 := eq_true p3; replace q3 := eq_true q3; obtain ⟨hy31_, hz31_⟩ := Kd.R_celln 0 HO117.out (9 : Int) (by omega) (of_decide_eq_true (by first | (with_reducible assumption) | assumption)); (try simp only [Int.reduceToNat, Int.toNat_zero, Int.toNat_ofNat, Nat.reduceMul, Nat.zero_mul, Nat.zero_add] at hy31_ hz31_); (try rw [show ((9 : Int)).toNat = 9 from rfl] at hy31_); (try rw [show ((9 : Int)).toNat = 9 from rfl] at hz31_); have HP31 := Kd.R_putg HO117.out (9 : Int) 128) | ((with_reducible refine gate_store (t := 3) (p := 6) rfl ?_); refine store_event (t := 3) (p := 6) (v := ?vo_w32) (w1 := (w29.setCell ⟨go3, (9 : Int).toNat, none⟩ (.int .i64 128))) ?hg ?ho ?hn ?hr ?_; (case ho => rfl); (case hg => rfl); (case hn => rfl); (case hr => first | (go_simp; done) | (go_simp; rfl)); intro w32 hw; have hg : w29.grownBy w32 (some go3) := (by rw [hw]; exact HP31.2); have hp_ : Kd.R (Kd.int .i64) 3 w32 w.heap.size (fun _ => True) (.slice (some ⟨go3, 0, none⟩) y115.length co3) y118 := (by rw [hw, Ny118.out]; exact HP31.1); clear HP31; have n0_ := Aside0.mk (hp_); have n1_ := Aside0.mk ((by rw [hw]; exact below_set (HB.out) GB3.out : Below w.heap.size w w32)); clear HO117; clear HB; have HO117 := n0_; have HB := n1_; clear n0_ n1_; clear hg hw hp_) | ((with_reducible refine gate_callee (f := 11) rfl ?_); refine goesL_ (some 9) rfl rfl Try.func11 (by kernel_rfl) rfl #[.slice (some ⟨go3, 0, none⟩) y118.length co3, .int .i64 7] rfl (by (try simp only [List.map_toArray, List.map_cons, List.map_nil]); first | done | (rw [show y118.length = y115.length from (Kd.R_reads' HO117.out).1.symm] <;> rfl) | rfl | (simp only [List.length_drop, List.length_take]; rfl)) ?_; (with_reducible refine (spread_Table.calls _ _ y118 7 t119 t120 _ ?side1 ?side2 A4.out).mono ?_); (case side1 => repeat (first | exact (Kd.R_reads' HO117.out).2.2 | (with_reducible refine Kd.C_alloc ?_ _) | (with_reducible refine Kd.C_drewN ?_ _) | (with_reducible refine Kd.C_drew ?_))); (case side2 => rw [show y118.length = y115.length from (Kd.R_reads' HO117.out).1.symm]; exact (Kd.R_reads' HO117.out).2.1); rintro e w33 ⟨v121, rfl, ho0, hb⟩; refine ⟨_, rfl, ?_⟩; have n0_ := Aside0.mk (Kd.R_below (by (with_reducible repeat (first | apply Kd.R_alloc | apply Kd.R_drewN | apply Kd.R_drew)); exact HO117.out) hb); have n1_ := Aside0.mk (Kd.R_lower ho0 (below_size (by repeat (first | (with_reducible first | exact HB.out | apply below_alloc | apply pw_below_drewN | apply below_drew1) | exact HB.out)))); have n2_ := Aside0.mk (below_step (by repeat (first | (with_reducible first | exact HB.out | apply below_alloc | apply pw_below_drewN | apply below_drew1) | exact HB.out)) hb); clear HO117; clear HB; have HO117 := n0_; have HO122 := n1_; have HB := n2_; clear n0_ n1_ n2_; (try clear hb); (try clear hb2); (try clear hk); (try clear hi); (try clear ho0)) | ((with_reducible refine gate_callee (f := 14) rfl ?_); refine goesL_ (some 13) rfl rfl Try.func14 (by kernel_rfl) rfl #[.int .i64 t120] rfl (by (try simp only [List.map_toArray, List.map_cons, List.map_nil]); first | done | rfl | (simp only [List.length_drop, List.length_take]; rfl)) ?_; (with_reducible refine (wringerlaw1_Err.calls t120 t123 _ A5.out).mono ?_); rintro e w' ⟨rfl, ⟨nd, rfl⟩⟩; refine ⟨_, rfl, ?_⟩; obtain ⟨Ao34, co34, eo34⟩ := Kd.R_slice HO122.out; subst eo34))
          go_ret
          exact ⟨by first | rfl | (simp [errW_none, errW_some] <;> rfl) | (simp [*, errW_none, errW_some] <;> rfl), by repeat (first | (with_reducible first | exact HB.out | apply below_alloc | apply pw_below_drewN | apply below_drew1) | exact HB.out)⟩
      · rw [if_neg c6] at H
        have c6b0 : (t123 == 0) = false := beq_eq_false_iff_ne.mpr c6
        have c6b1 : (t123 != 0) = true := bne_iff_ne.mpr c6
        obtain rfl := Option.some.inj H
        go_enter Try.func8, Try.ntmps8
        go_wp2_with (first | ((with_reducible refine gate_dst (N := 4) rfl ?_); (try (refine gate_guard (by rfl) ?_; dsimp only)); refine Kd.R_make (Kd.int .i64) _ 3 rfl (N := 4) rfl 22 _ _ rfl 65 rfl rfl Try.underlying22 (.int .i64 0) 8 info3 rfl (by decide) (by omega) 0 (ok := fun _ => True) (okp := fun _ => True) rfl (fun _ hk => hk) trivial (by omega) (by omega) (Below.refl _ _) (Nat.le_refl _) ?_; intro v116 w35 ho36 hb hg_ hnew_; clear hg_ hnew_; (first | rw [← Ny115.out] at ho36 | (simp only [Int.reduceToNat] at ho36; rw [← Ny115.out] at ho36)); have n0_ := Aside0.mk (Kd.R_lower ho36 (below_size (by repeat (first | (with_reducible first | exact HB.out | apply below_alloc | apply pw_below_drewN | apply below_drew1) | exact HB.out)))); have n1_ := Aside0.mk (below_step (by repeat (first | (with_reducible first | exact HB.out | apply below_alloc | apply pw_below_drewN | apply below_drew1) | exact HB.out)) hb); clear HB; have HO117 := n0_; have HB := n1_; clear n0_ n1_; clear hb ho36; have p3 : 0 ≤ (9 : Int) := (by omega); have q3 : (9 : Int) < ((y115.length : Int) : Int) := of_decide_eq_true (by first | (with_reducible assumption) | assumption); have qi3 : (9 < y115.length) = True := eq_true (by omega); obtain ⟨go3, co3, eo3, gb3, gl3, cl3, HG3⟩ := Kd.R_form HO117.out (by omega); (first | cases eo3 | (injection eo3 with ea_ en_ ec_; (first | subst ea_ | (injection ea_ with ea_; subst ea_)); subst ec_; clear en_)); have GB3 := Aside0.mk gb3; have GG3 := Aside0.mk HG3; clear gb3 gl3 HG3; obtain ⟨hx3_0, hf3_0⟩ := Kd.R_celln 0 HO117.out (9 : Int) p3 q3; (try rw [show ((9 : Int)).toNat = 9 from rfl] at hx3_0); (try simp only [Nat.reduceMul, Nat.zero_mul, Nat.zero_add, Nat.reduceAdd] at hx3_0); (try rw [show ((9 : Int)).toNat = 9 from rfl] at hf3_0); (try simp only [Nat.reduceMul, Nat.zero_mul, Nat.zero_add, Nat.reduceAdd] at hf3_0); replace p3 := eq_true p3; replace q3 := eq_true q3; obtain ⟨hy37_, hz37_⟩ := Kd.R_celln 0 HO117.out (9 : Int) (by omega) (of_decide_eq_true (by first | (with_reducible assumption) | assumption)); (try simp only [Int.reduceToNat, Int.toNat_zero, Int.toNat_ofNat, Nat.reduceMul, Nat.zero_mul, Nat.zero_add] at hy37_ hz37_); (try rw [show ((9 : Int)).toNat = 9 from rfl] at hy37_); (try rw [show ((9 : Int)).toNat = 9 from rfl] at hz37_); have HP37 := Kd.R_putg HO117.out (9 : Int) 128) | ((with_reducible refine gate_store (t := 3) (p := 6) rfl ?_); refine store_event (t := 3) (p := 6) (v := ?vo_w38) (w1 := (w35.setCell ⟨go3, (9 : Int).toNat, none⟩ (.int .i64 128))) ?hg ?ho ?hn ?hr ?_; (case ho => rfl); (case hg => rfl); (case hn => rfl); (case hr => first | (go_simp; done) | (go_simp; rfl)); intro w38 hw; have hg : w35.grownBy w38 (some go3) := (by rw [hw]; exact HP37.2); have hp_ : Kd.R (Kd.int .i64) 3 w38 w.heap.size (fun _ => True) (.slice (some ⟨go3, 0, none⟩) y115.length co3) y118 := (by rw [hw, Ny118.out]; exact HP37.1); clear HP37; have n0_ := Aside0.mk (hp_); have n1_ := Aside0.mk ((by rw [hw]; exact below_set (HB.out) GB3.out : Below w.heap.size w w38)); clear HO117; clear HB; have HO117 := n0_; have HB := n1_; clear n0_ n1_; clear hg hw hp_) | ((with_reducible refine gate_callee (f := 11) rfl ?_); refine goesL_ (some 9) rfl rfl Try.func11 (by kernel_rfl) rfl #[.slice (some ⟨go3, 0, none⟩) y118.length co3, .int .i64 7] rfl (by (try simp only [List.map_toArray, List.map_cons, List.map_nil]); first | done | (rw [show y118.length = y115.length from (Kd.R_reads' HO117.out).1.symm] <;> rfl) | rfl | (simp only [List.length_drop, List.length_take]; rfl)) ?_; (with_reducible refine (spread_Table.calls _ _ y118 7 t119 t120 _ ?side1 ?side2 A4.out).mono ?_); (case side1 => repeat (first | exact (Kd.R_reads' HO117.out).2.2 | (with_reducible refine Kd.C_alloc ?_ _) | (with_reducible refine Kd.C_drewN ?_ _) | (with_reducible refine Kd.C_drew ?_))); (case side2 => rw [show y118.length = y115.length from (Kd.R_reads' HO117.out).1.symm]; exact (Kd.R_reads' HO117.out).2.1); rintro e w39 ⟨v121, rfl, ho0, hb⟩; refine ⟨_, rfl, ?_⟩; have n0_ := Aside0.mk (Kd.R_below (by (with_reducible repeat (first | apply Kd.R_alloc | apply Kd.R_drewN | apply Kd.R_drew)); exact HO117.out) hb); have n1_ := Aside0.mk (Kd.R_lower ho0 (below_size (by repeat (first | (with_reducible first | exact HB.out | apply below_alloc | apply pw_below_drewN | apply below_drew1) | exact HB.out)))); have n2_ := Aside0.mk (below_step (by repeat (first | (with_reducible first | exact HB.out | apply below_alloc | apply pw_below_drewN | apply below_drew1) | exact HB.out)) hb); clear HO117; clear HB; have HO117 := n0_; have HO122 := n1_; have HB := n2_; clear n0_ n1_ n2_; (try clear hb); (try clear hb2); (try clear hk); (try clear hi); (try clear ho0)) | ((with_reducible refine gate_callee (f := 14) rfl ?_); refine goesL_ (some 13) rfl rfl Try.func14 (by kernel_rfl) rfl #[.int .i64 t120] rfl (by (try simp only [List.map_toArray, List.map_cons, List.map_nil]); first | done | rfl | (simp only [List.length_drop, List.length_take]; rfl)) ?_; (with_reducible refine (wringerlaw1_Err.calls t120 t123 _ A5.out).mono ?_); rintro e w' ⟨rfl, ⟨nd, rfl⟩⟩; refine ⟨_, rfl, ?_⟩))
        go_ret
        exact ⟨by first | rfl | (simp [errW_none, errW_some] <;> rfl) | (simp [*, errW_none, errW_some] <;> rfl), by repeat (first | (with_reducible first | exact HB.out | apply below_alloc | apply pw_below_drewN | apply below_drew1) | exact HB.out)⟩
    · rw [if_neg c2] at H
      exact absurd H (by simp)
  · rw [if_neg c1] at H
    exact absurd H (by simp)

end Go.Proofs.Ytlconnmfceabiaa.PA

-- ---- Uq
/- Frequencies by numbers: what they are good for. -/
namespace Go.Proofs.Ytlconnmfceabiaa.PA
set_option linter.unusedVariables false
set_option linter.unusedSimpArgs false
open Go.RowKit Go.Proofs.YtlconnmfceabiaaW.PrintWords Go.Proofs.YtlconnmfceabiaaW.PrintLast Go.Proofs.YtlconnmfceabiaaW.PrintMore Nl

/-- 65 numbers, none below nought, none above 65535. -/
structure FreqOk (f : List Int) : Prop where
  len : f.length = 65
  each : ∀ x ∈ f, 0 ≤ x ∧ x ≤ 65535
theorem mem_set_or {l : List Int} {i : Nat} {v x : Int} (h : x ∈ l.set i v) : x ∈ l ∨ x = v := List.mem_or_eq_of_mem_set h
theorem freqOk_set {f : List Int} (h : FreqOk f) (i : Nat) (v : Int) (h0 : 0 ≤ v) (h1 : v ≤ 65535) : FreqOk (f.set i v) :=
  ⟨by rw [List.length_set]; exact h.len, fun x hx => by
    rcases mem_set_or hx with hx | rfl
    · exact h.each x hx
    · exact ⟨h0, h1⟩⟩
theorem u16_at {ns : List Int} (h : ∀ x ∈ ns, (Lit.int .u16 x).wf = true) (i : Nat) (hi : i < ns.length) : ∃ v : Nat, ns.getD i 0 = (v : Int) ∧ v ≤ 65535 := by
  have hw := h _ (getD_mem hi)
  simp only [Lit.wf, Bool.and_eq_true, decide_eq_true_eq] at hw
  have h1 : IntKind.u16.min = 0 := rfl
  have h2 : IntKind.u16.max = 65535 := rfl
  exact ⟨(ns.getD i 0).toNat, by omega, by omega⟩
theorem u16_wrap (n : Nat) (h : n ≤ 65535) : IntKind.u16.wrap (n : Int) = (n : Int) := by
  simp [IntKind.wrap, IntKind.bits, IntKind.signed]; omega
theorem freq_l0 (ns : List Int) (hw : ∀ x ∈ ns, (Lit.int .u16 x).wf = true) (hl : ns.length < 1000000) : ∀ (d i : Nat) (f : List Int), i + d = ns.length + 1 → FreqOk f →
    ∃ g, Ev (fun k => wringerlaw8_Freq.l0 k ns f (i : Int)) g ∧ FreqOk g := by
  intro d
  induction d using Nat.strongRecOn with
  | _ d ih =>
    intro i f hi hf
    by_cases hlt : i + 1 < ns.length
    · obtain ⟨v, hv, hvb⟩ := u16_at hw i (by omega)
      obtain ⟨u, hu, hub⟩ := u16_at hw (i + 1) hlt
      have hfl := hf.len
      have e5 : u / 2 ^ (v / 65 % 16) ≤ u := Nat.div_le_self _ _
      obtain ⟨p, hp⟩ : ∃ p, p = u / 2 ^ (v / 65 % 16) := ⟨_, rfl⟩
      rw [← hp] at e5
      obtain ⟨g, hg, hgf⟩ := ih (d - 2) (by omega) (i + 2) (f.set (v % 65) (p : Int)) (by omega) (freqOk_set hf _ _ (by omega) (by omega))
      refine ⟨g, Ev.step (f := fun k => wringerlaw8_Freq.l0 k ns (f.set (v % 65) (p : Int)) ((i + 2 : Nat) : Int)) (fun k => ?_) hg, hgf⟩
      have c1 : ((i + 1 : Nat) : Int) < (ns.length : Int) := by omega
      have c2 : (0 : Int) ≤ (i : Int) := by omega
      have c3 : (i : Int) < (ns.length : Int) := by omega
      have c4 : (0 : Int) ≤ ((i + 1 : Nat) : Int) := by omega
      have c5 : (0 : Int) ≤ ((v / 65 % 16 : Nat) : Int) := Int.natCast_nonneg _
      have c6 : (0 : Int) ≤ ((v % 65 : Nat) : Int) := Int.natCast_nonneg _
      have c7 : ((v % 65 : Nat) : Int) < (f.length : Int) := by omega
      have w1 : wrap64 ((i : Int) + 1) = ((i + 1 : Nat) : Int) := by rw [w64 (by omega) (by omega)]; rfl
      have w2 : wrap64 ((i : Int) + 2) = ((i + 2 : Nat) : Int) := by clear w1; rw [w64 (by omega) (by omega)]; rfl
      have w3 : wrap64 (v : Int) = (v : Int) := by clear w1 w2; exact w64 (by omega) (by omega)
      have w4 : wrap64 (u : Int) = (u : Int) := by clear w1 w2 w3; exact w64 (by omega) (by omega)
      have w5 : IntKind.u16.wrap ((v / 65 : Nat) : Int) = ((v / 65 : Nat) : Int) := by clear w1 w2 w3 w4; exact u16_wrap _ (by omega)
      have e4 := shr_nat u (v / 65 % 16) (by clear w1 w2 w3 w4 w5; omega)
      rw [← hp] at e4
      have e1 : Int.tdiv (v : Int) 65 = ((v / 65 : Nat) : Int) := tdiv_nat v 65
      have e2 : Int.tmod (v : Int) 65 = ((v % 65 : Nat) : Int) := tmod_nat v 65
      have e3 : Int.tmod ((v / 65 : Nat) : Int) 16 = ((v / 65 % 16 : Nat) : Int) := tmod_nat _ 16
      simp only [wringerlaw8_Freq.l0]
      rw [w1, w2, rd_nat, rd_nat, hv, hu, w3, w4, e1, w5, e3, e2, e4]
      rw [if_pos c1, if_pos c2, if_pos c3, if_pos c4, if_pos c5, if_pos c6, if_pos c7, Int.toNat_natCast]
    · refine ⟨f, Ev.step (f := fun _ => some f) (fun k => ?_) (Ev.now _), hf⟩
      simp only [wringerlaw8_Freq.l0]
      rw [w64 (x := (i : Int) + 1) (by omega) (by omega), if_neg (by omega)]
theorem freq_is (ns : List Int) (hw : ∀ x ∈ ns, (Lit.int .u16 x).wf = true) (hl : ns.length < 1000000) : ∃ f, Ev (fun k => wringerlaw8_Freq.f k ns) f ∧ FreqOk f := by
  obtain ⟨g, hg, hgf⟩ := freq_l0 ns hw hl (ns.length + 1) 0 (List.replicate 65 0) (by omega) ⟨by simp, fun x hx => by rw [(List.mem_replicate.1 hx).2]; omega⟩
  refine ⟨g, ?_, hgf⟩
  unfold wringerlaw8_Freq.f
  exact Ev.ite_pos (by decide) hg

/-- One more of one class: then they may be asked. -/
theorem fr_more {f : List Int} (h : FreqOk f) (i : Nat) (hi : i < 65) : Fr (f.set i (f.getD i 0 + 1)) := by
  have hg := h.each _ (getD_mem (show i < f.length by rw [h.len]; exact hi))
  have hx : ∀ x ∈ f.set i (f.getD i 0 + 1), 0 ≤ x ∧ x ≤ 65536 := fun x hx => by
    rcases mem_set_or hx with hx | rfl
    · have := h.each x hx; omega
    · omega
  refine ⟨by rw [List.length_set]; exact h.len, fun x hm => (hx x hm).1, fun x hm => by have := (hx x hm).2; omega, ?_⟩
  have h1 := sum_bump f i 1 (by rw [h.len]; exact hi)
  unfold bump at h1
  rw [h1]
  have := sum_nonneg f fun x hx => (h.each x hx).1
  omega
end Go.Proofs.Ytlconnmfceabiaa.PA

-- ---- Uc
/- Numbers of a sum, by numbers. -/
namespace Go.Proofs.Ytlconnmfceabiaa.PA
set_option linter.unusedVariables false
set_option linter.unusedSimpArgs false
open Go.RowKit Go.Proofs.YtlconnmfceabiaaW.PrintWords Go.Proofs.YtlconnmfceabiaaW.PrintLast Go.Proofs.YtlconnmfceabiaaW.PrintMore Nl Sp

theorem norm_mayN {f : List Int} (h : Fr f) {m : Nat} (h7 : 7 ≤ m) (h12 : m ≤ 12) : mayN (normL f ((2 ^ m : Nat) : Int)) (m : Int) = true := by
  have hp : 128 ≤ 2 ^ m := by have := Nat.pow_le_pow_right (show 0 < 2 by decide) h7; omega
  unfold mayN
  rw [decide_eq_true_eq, Int.toNat_natCast]
  exact ⟨by omega, by omega, h.norm_len (by omega), h.norm_at (by omega), (h.norm (by omega)).2⟩
theorem norm_f {f : List Int} (h : Fr f) {m : Nat} (h7 : 7 ≤ m) (h12 : m ≤ 12) : wringerref7_Norm.f f (m : Int) = some (normL f ((2 ^ m : Nat) : Int), 0) := by
  unfold wringerref7_Norm.f normE
  rw [if_pos (by rw [h.len]; decide), if_pos ⟨(frB_iff f).2 h, by omega, by omega⟩, Int.toNat_natCast]
theorem u8_at {a : Int} (h : (Lit.int .u8 a).wf = true) : ∃ v : Nat, a = (v : Int) ∧ v ≤ 255 := by
  simp only [Lit.wf, Bool.and_eq_true, decide_eq_true_eq] at h
  have h1 : IntKind.u8.min = 0 := rfl
  have h2 : IntKind.u8.max = 255 := rfl
  exact ⟨a.toNat, by omega, by omega⟩
theorem log_of (v : Nat) (hv : v ≤ 255) : wrap64 (7 + Int.tmod (wrap64 (v : Int)) 6) = ((7 + v % 6 : Nat) : Int) := by
  have e : Int.tmod (v : Int) 6 = ((v % 6 : Nat) : Int) := tmod_nat v 6
  rw [w64 (x := (v : Int)) (by omega) (by omega), e, w64 (by omega) (by omega)]; omega

theorem counts_is (ns : List Int) (hw : ∀ x ∈ ns, (Lit.int .u16 x).wf = true) (hl : ns.length < 1000000) (a : Int) (ha : (Lit.int .u8 a).wf = true) :
    ∃ (f : List Int) (m : Nat), Ev (fun k => wringerlaw13_Counts.f k ns a) (normL f ((2 ^ m : Nat) : Int), (m : Int)) ∧ Fr f ∧ 7 ≤ m ∧ m ≤ 12 ∧ 0 < f.getD 2 0 := by
  obtain ⟨v, rfl, hv⟩ := u8_at ha
  obtain ⟨f, hf, hok⟩ := freq_is ns hw hl
  have hfr := fr_more hok 2 (by decide)
  have h2 := hok.each _ (getD_mem (show 2 < f.length by rw [hok.len]; decide))
  refine ⟨f.set 2 (f.getD 2 0 + 1), 7 + v % 6, ?_, hfr, by omega, by omega, ?_⟩
  · unfold wringerlaw13_Counts.f
    refine Ev.bind hf ?_
    refine Ev.ite_pos (by rw [hok.len]; decide) ?_
    rw [log_of v hv]
    have e : rd f 2 = f.getD 2 0 := rd_nat f 2
    rw [e, w64 (by omega) (by omega), show ((2 : Int).toNat) = 2 from rfl]
    refine Ev.bind0 (norm_f hfr (by omega) (by omega)) (Ev.now _)
  · rw [List.getD_eq_getElem?_getD, List.getElem?_set_self (by rw [hok.len]; decide)]
    simp only [Option.getD_some]; omega
end Go.Proofs.Ytlconnmfceabiaa.PA

-- ---- Ue
/- Lists of whole numbers that are one, or not. -/
namespace Go.Proofs.Ytlconnmfceabiaa.PA
set_option linter.unusedVariables false
set_option linter.unusedSimpArgs false
open Go.RowKit Go.Proofs.YtlconnmfceabiaaW.PrintWords Go.Proofs.YtlconnmfceabiaaW.PrintLast Go.Proofs.YtlconnmfceabiaaW.PrintMore

theorem drop_cons0 (l : List Int) (i : Nat) (h : i < l.length) : l.drop i = l.getD i 0 :: l.drop (i + 1) := by
  rw [List.drop_eq_getElem_cons h]; simp [List.getD_eq_getElem?_getD, h]
theorem same_l0 (a b : List Int) (hl : a.length = b.length) (hb : a.length < 4611686018427387904) : ∀ (d i : Nat), i + d = a.length →
    Ev (fun k => wringerref7_SameInts.l0 k a b (i : Int)) (decide (a.drop i = b.drop i)) := by
  intro d
  induction d with
  | zero =>
    intro i hi
    refine Ev.step (f := fun _ => some true) (fun k => by simp only [wringerref7_SameInts.l0]; rw [if_neg (by omega)]) (Ev.ofSome ?_)
    rw [List.drop_eq_nil_of_le (by omega), List.drop_eq_nil_of_le (by omega)]; simp
  | succ d ih =>
    intro i hi
    rw [drop_cons0 a i (by omega), drop_cons0 b i (by omega)]
    by_cases h : a.getD i 0 = b.getD i 0
    · refine evq ?_ (Ev.step (f := fun k => wringerref7_SameInts.l0 k a b ((i + 1 : Nat) : Int)) (fun k => by simp only [wringerref7_SameInts.l0]; rw [if_pos (by omega), if_pos (by omega), if_pos (by omega), rd_nat, rd_nat, if_pos h, w64 (by omega) (by omega)]; rfl) (ih (i + 1) (by omega)))
      rw [h]; congr 1; simp
    · refine Ev.step (f := fun _ => some false) (fun k => by simp only [wringerref7_SameInts.l0]; rw [if_pos (by omega), if_pos (by omega), if_pos (by omega), rd_nat, rd_nat, if_neg h]) (Ev.ofSome ?_)
      symm; rw [decide_eq_false_iff_not]; intro e; exact h (List.cons.inj e).1
theorem same_is (a b : List Int) (hb : a.length < 4611686018427387904) : Ev (fun k => wringerref7_SameInts.f k a b) (decide (a = b)) := by
  unfold wringerref7_SameInts.f
  by_cases hl : a.length = b.length
  · refine Ev.ite_pos (by omega) ?_
    have := same_l0 a b hl hb a.length 0 (by omega)
    rw [List.drop_zero, List.drop_zero] at this
    exact this
  · refine Ev.ite_neg (by omega) (Ev.ofSome ?_)
    symm; rw [decide_eq_false_iff_not]; intro e; exact hl (by rw [e])
theorem same_self (a : List Int) (hb : a.length < 4611686018427387904) : Ev (fun k => wringerref7_SameInts.f k a a) true := by
  have := same_is a a hb
  simpa using this
end Go.Proofs.Ytlconnmfceabiaa.PA

-- ---- Ut
/- The document's table, and lists that are one: what the calls come to. -/
namespace Go.Proofs.Ytlconnmfceabiaa.PA
set_option linter.unusedVariables false
set_option linter.unusedSimpArgs false
open Go.RowKit Go.Proofs.YtlconnmfceabiaaW.PrintWords Go.Proofs.YtlconnmfceabiaaW.PrintLast Go.Proofs.YtlconnmfceabiaaW.PrintMore Nl Sp

theorem shr_pos (x n : Nat) (hn : n ≤ 62) : (shr .i64 (x : Int) (n : Int) > 0) ↔ 2 ^ n ≤ x := by
  rw [shr_nat x n (by omega)]
  have h2 : 0 < 2 ^ n := Nat.pow_pos (by decide)
  constructor
  · intro h
    rcases Nat.lt_or_ge x (2 ^ n) with h1 | h1
    · rw [Nat.div_eq_of_lt h1] at h; simp at h
    · exact h1
  · intro h
    have := (Nat.one_le_div_iff h2).2 h
    omega

/-- The inner loop: how many bits come. -/
theorem tb_l1 (l : List Int) (m : Nat) (hM : MayS l m) (nx : List Int) (out : List S45) (hout : out.length < 5864062014805) (i : Nat) (hi : i < 2 ^ m) (c x : Nat) (hc : (spread l (2 ^ m)).getD i 0 = (c : Int)) (hx0 : 0 < x) (hx1 : x < 2 ^ (m + 1)) (r : List S45 × Int) (z : Int)
    (hn : Ev (fun k => wringerref7_Table.l0 k (m : Int) nx (out ++ [cellS (cellOf m (c : Int) x)]) ((i + 1 : Nat) : Int) (spread l (2 ^ m)) z) r) :
    ∀ (d b : Nat), b = d + (m - Nat.log2 x) → b ≤ m → Ev (fun k => wringerref7_Table.l1 k (m : Int) nx out (i : Int) (x : Int) (b : Int) (spread l (2 ^ m)) z) r := by
  have h12 := hM.hi
  have hlog : Nat.log2 x ≤ m := by
    have h1 := Nat.log2_self_le (n := x) (by omega)
    rcases Nat.lt_or_ge m (Nat.log2 x) with h2 | h2
    · have : 2 ^ (m + 1) ≤ 2 ^ Nat.log2 x := Nat.pow_le_pow_right (by decide) h2
      omega
    · exact h2
  intro d
  induction d with
  | zero =>
    intro b hb hbm
    have e1 : wrap64 (wrap64 ((m : Int) - (b : Int)) + 1) = ((Nat.log2 x + 1 : Nat) : Int) := by
      rw [w64 (x := (m : Int) - (b : Int)) (by omega) (by omega), w64 (by omega) (by omega)]; omega
    have hs : ¬ (shr .i64 (x : Int) ((Nat.log2 x + 1 : Nat) : Int) > 0) := by
      rw [shr_pos x _ (by omega)]; have := Nat.lt_log2_self (n := x); omega
    have hln := length_spread l (2 ^ m)
    have e13 : (2 : Nat) ^ 13 = 8192 := by decide
    have hp13 : 2 ^ (m + 1) ≤ 2 ^ 13 := Nat.pow_le_pow_right (by decide) (by omega)
    have hpm : 2 ^ m ≤ 4096 := by have := pow2_le m 12 h12; omega
    have hb2 : x * 2 ^ b < 2 ^ (m + 1) := by
      have h3 : x * 2 ^ b < 2 ^ (Nat.log2 x + 1) * 2 ^ b := Nat.mul_lt_mul_of_pos_right Nat.lt_log2_self (Nat.pow_pos (by decide))
      rw [← Nat.pow_add, show Nat.log2 x + 1 + b = m + 1 by omega] at h3; exact h3
    have hsh := shl_nat x b (by omega) (by omega)
    have hs1 := shl_1 m (by omega)
    refine Ev.step (f := fun k => wringerref7_Table.l0 k (m : Int) nx (out ++ [cellS (cellOf m (c : Int) x)]) ((i + 1 : Nat) : Int) (spread l (2 ^ m)) z) (fun k => ?_) hn
    simp only [wringerref7_Table.l1]
    rw [e1, if_pos (by omega), if_neg hs, if_pos (by omega), if_pos (by omega), if_pos (by omega), if_pos (by omega), if_pos hout, rd_nat, hc, hsh, hs1, w64 (x := ((x * 2 ^ b : Nat) : Int) - ((2 ^ m : Nat) : Int)) (by omega) (by omega), w64 (by omega) (by omega)]
    have e2 : cellS (cellOf m (c : Int) x) = (⟨(c : Int), (b : Int), ((x * 2 ^ b : Nat) : Int) - ((2 ^ m : Nat) : Int)⟩ : S45) := by
      unfold cellS cellOf
      rw [show m - Nat.log2 x = b by omega]
    rw [e2]; rfl
  | succ d ih =>
    intro b hb hbm
    obtain ⟨b, rfl⟩ : ∃ b', b = b' + 1 := ⟨b - 1, by omega⟩
    have e1 : wrap64 (wrap64 ((m : Int) - ((b + 1 : Nat) : Int)) + 1) = ((m - b : Nat) : Int) := by
      rw [w64 (x := (m : Int) - ((b + 1 : Nat) : Int)) (by omega) (by omega), w64 (by omega) (by omega)]; omega
    have hs : shr .i64 (x : Int) ((m - b : Nat) : Int) > 0 := by
      rw [shr_pos x _ (by omega)]
      exact Nat.le_trans (Nat.pow_le_pow_right (by decide) (by omega)) (Nat.log2_self_le (n := x) (by omega))
    refine Ev.step (f := fun k => wringerref7_Table.l1 k (m : Int) nx out (i : Int) (x : Int) (b : Int) (spread l (2 ^ m)) z) (fun k => ?_) (ih b (by omega) (by omega))
    simp only [wringerref7_Table.l1]
    rw [e1, if_pos (by omega), if_pos hs, w64 (by omega) (by omega)]
    rw [show ((b + 1 : Nat) : Int) - 1 = (b : Int) by omega]

theorem tb_l0 (l : List Int) (m : Nat) (hM : MayS l m) (z : Int) : ∀ (d i : Nat), i + d = 2 ^ m →
    Ev (fun k => wringerref7_Table.l0 k (m : Int) (nexts l ((spread l (2 ^ m)).take i)) ((cells m l ((spread l (2 ^ m)).take i)).map cellS) (i : Int) (spread l (2 ^ m)) z) ((table l m).map cellS, 0) := by
  have hln := length_spread l (2 ^ m)
  have hpm : 2 ^ m ≤ 4096 := by have := pow2_le m 12 hM.hi; omega
  intro d
  induction d with
  | zero =>
    intro i hi
    refine Ev.step (f := fun _ => some ((cells m l ((spread l (2 ^ m)).take i)).map cellS, 0)) (fun k => by simp only [wringerref7_Table.l0]; rw [if_neg (by omega)]) (Ev.ofSome ?_)
    rw [List.take_of_length_le (by omega)]; rfl
  | succ d ih =>
    intro i hi
    obtain ⟨c, x, r, hS, hc65, hnx, hx0, hx1, _, _, _, _⟩ := hM.next i (by omega)
    have htk : (spread l (2 ^ m)).take (i + 1) = (spread l (2 ^ m)).take i ++ [(c : Int)] := by
      rw [List.take_succ_eq_append_getElem (by omega)]
      have e : (spread l (2 ^ m)).getD i 0 = (spread l (2 ^ m))[i]'(by omega) := by simp [List.getD_eq_getElem?_getD, show i < (spread l (2 ^ m)).length by omega]
      rw [← e, hS]
    have ih := ih (i + 1) (by omega)
    rw [htk, nexts_snoc, cells_snoc, Int.toNat_natCast, hnx, Int.toNat_natCast, List.map_append] at ih
    have hnl : (nexts l ((spread l (2 ^ m)).take i)).length = 65 := by rw [length_nexts]; exact hM.len
    have hcl : ((cells m l ((spread l (2 ^ m)).take i)).map cellS).length ≤ 4096 := by rw [List.length_map, length_cells, List.length_take]; omega
    have e13 : (2 : Nat) ^ 13 = 8192 := by decide
    have hp13 : 2 ^ (m + 1) ≤ 2 ^ 13 := Nat.pow_le_pow_right (by decide) (by have := hM.hi; omega)
    have h1 := tb_l1 l m hM (bump (nexts l ((spread l (2 ^ m)).take i)) c 1) ((cells m l ((spread l (2 ^ m)).take i)).map cellS) (by omega) i (by omega) c x hS hx0 hx1 _ z ih (Nat.log2 x) m (by
      have h1 := Nat.log2_self_le (n := x) (by omega)
      rcases Nat.lt_or_ge m (Nat.log2 x) with h2 | h2
      · have : 2 ^ (m + 1) ≤ 2 ^ Nat.log2 x := Nat.pow_le_pow_right (by decide) h2
        omega
      · omega) (Nat.le_refl _)
    refine Ev.step (f := fun k => wringerref7_Table.l1 k (m : Int) (bump (nexts l ((spread l (2 ^ m)).take i)) c 1) ((cells m l ((spread l (2 ^ m)).take i)).map cellS) (i : Int) (x : Int) (m : Int) (spread l (2 ^ m)) z) (fun k => ?_) h1
    simp only [wringerref7_Table.l0]
    rw [if_pos (by omega), if_pos (by omega), rd_nat, hS, if_pos (by omega), if_pos (by omega), rd_nat, hnx, w64 (by omega) (by omega), Int.toNat_natCast]
    have e3 : bump (nexts l ((spread l (2 ^ m)).take i)) c 1 = (nexts l ((spread l (2 ^ m)).take i)).set c ((x : Int) + 1) := by unfold bump; rw [hnx]
    rw [e3]
theorem rtable_is (l : List Int) (hl : l.length < 17592186044416) (a : Int) : Ev (fun k => wringerref7_Table.f k l a) (tableE l a) := by
  unfold wringerref7_Table.f
  refine Ev.bind (rspread_is l a) ?_
  unfold spreadE tableE
  by_cases h : mayN l a = true
  · obtain ⟨m, rfl, hm⟩ := (may_iff l a).1 h
    rw [if_pos h, if_pos h, Int.toNat_natCast]
    refine Ev.ite_pos rfl ?_
    refine Ev.bind0 (a := ([] : List Int)) rfl ?_
    refine Ev.ite_pos (by simp; omega) ?_
    have := tb_l0 l m (mayS_of h) 0 (2 ^ m) 0 (by omega)
    exact Ev.congr (fun k => rfl) this
  · rw [if_neg h, if_neg h]
    exact Ev.ite_neg (by decide) (Ev.now _)
end Go.Proofs.Ytlconnmfceabiaa.PA

-- ---- Uw
/- Layer 13's example, and tables that are one. -/
namespace Go.Proofs.Ytlconnmfceabiaa.PA
set_option linter.unusedVariables false
set_option linter.unusedSimpArgs false
open Go.RowKit Go.Proofs.YtlconnmfceabiaaW.PrintWords Go.Proofs.YtlconnmfceabiaaW.PrintLast Go.Proofs.YtlconnmfceabiaaW.PrintMore Nl Sp

set_option maxRecDepth 100000 in
theorem awake13 : wringerlaw13_awake.f = some true := by
  unfold wringerlaw13_awake.f wringerlaw1_Err.f spread_Table.f
  decide +kernel

theorem cells_l0 (a : List S45) (hb : a.length < 4611686018427387904) : ∀ (d i : Nat), i + d = a.length → Ev (fun k => wringerref7_SameCells.l0 k a a (i : Int)) true := by
  intro d
  induction d with
  | zero =>
    intro i hi
    exact Ev.step (f := fun _ => some true) (fun k => by simp only [wringerref7_SameCells.l0]; rw [if_neg (by omega)]) (Ev.now _)
  | succ d ih =>
    intro i hi
    refine Ev.step (f := fun k => wringerref7_SameCells.l0 k a a ((i + 1 : Nat) : Int)) (fun k => ?_) (ih (i + 1) (by omega))
    simp only [wringerref7_SameCells.l0]
    rw [if_pos (by omega), if_pos (by omega), if_pos (by omega), if_neg (by simp), w64 (by omega) (by omega)]; rfl
theorem cells_self (a : List S45) (hb : a.length < 4611686018427387904) : Ev (fun k => wringerref7_SameCells.f k a a) true := by
  unfold wringerref7_SameCells.f
  exact Ev.ite_pos rfl (cells_l0 a hb a.length 0 (by omega))
theorem length_tableE (l : List Int) (a : Int) : (tableE l a).1.length ≤ 4096 := by
  unfold tableE
  split
  · rename_i h
    obtain ⟨m, rfl, hm⟩ := (may_iff l a).1 h
    have := pow2_le m 12 hm.hi
    simp only [List.length_map, Sp.length_table, Int.toNat_natCast]; omega
  · simp
theorem length_spreadE (l : List Int) (a : Int) : (spreadE l a).1.length ≤ 4096 := by
  unfold spreadE
  split
  · rename_i h
    obtain ⟨m, rfl, hm⟩ := (may_iff l a).1 h
    have := pow2_le m 12 hm.hi
    simp only [Sp.length_spread, Int.toNat_natCast]; omega
  · simp
theorem tableE_ok {l : List Int} {m : Nat} (h : mayN l (m : Int) = true) : tableE l (m : Int) = ((table l m).map cellS, 0) := by unfold tableE; rw [if_pos h, Int.toNat_natCast]
theorem spreadE_ok {l : List Int} {m : Nat} (h : mayN l (m : Int) = true) : spreadE l (m : Int) = (spread l (2 ^ m), 0) := by unfold spreadE; rw [if_pos h, Int.toNat_natCast]
theorem both_err (l : List Int) (a : Int) : (spreadE l a).2 = (tableE l a).2 := by unfold spreadE tableE; split <;> rfl
end Go.Proofs.Ytlconnmfceabiaa.PA
