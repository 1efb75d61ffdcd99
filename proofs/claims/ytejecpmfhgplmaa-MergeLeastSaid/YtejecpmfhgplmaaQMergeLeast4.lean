/- Part MergeLeast4 of what the layer's laws stand on: PAx27, Ub, Uj, Nl, Uq, Un. Written by a program (merge.py) out of this session's own texts and of what the kit's print wrote over stand-ins (sp.py). Conditions: those that each theorem names. -/
import Derived.Test.YtejecpmfhgplmaaQMergeLeast1
import Derived.Test.YtejecpmfhgplmaaQMergeLeast2
import Derived.Test.YtejecpmfhgplmaaQMergeLeast3
import Derived.Test.YtejecpmfhgplmaaWMore
import Derived.Test.YtejecpmfhgplmaaWLast
-- ---- PAx27

namespace Go.Proofs.Ytejecpmfhgplmaa.PA
open Go.RowKit Go.Proofs.YtejecpmfhgplmaaW.PrintWords Go.Proofs.YtejecpmfhgplmaaW.PrintLast Go.Proofs.YtejecpmfhgplmaaW.PrintMore
attribute [local go_sem] max2_int min2_int max_two min_two max_three min_three max_four min_four   -- for this text's walks alone
set_option linter.unusedVariables false
set_option linter.unusedSimpArgs false

/-! ### wringerlaw8_MergeLeast: function 5 -/
mutual
def wringerlaw8_MergeLeast.j0 : Nat → Int → Int → List Int → Int → List Int → List Int → Bool → Option (Bool)
 | 0, _, _, _, _, _, _, _ => none
 | k + 1, x2, x3, x9, x10, x11, x13, x68 => if x68 = true then (some false) else (wringerlaw8_MergeLeast.l0 k x2 x3 x9 x10 x11 x13 0)
def wringerlaw8_MergeLeast.l0 : Nat → Int → Int → List Int → Int → List Int → List Int → Int → Option (Bool)
 | 0, _, _, _, _, _, _, _ => none
 | k + 1, x2, x3, x9, x10, x11, x13, x15 => if x15 < 65 then (if 0 ≤ x15 then (if x15 < (x11.length : Int) then (if (rd x11 x15) > x10 then (wringerlaw8_MergeLeast.j2 k x2 x3 x9 x10 x11 x13 x15 true) else (if x15 < (x13.length : Int) then (if (rd x13 x15) > (wrap64 (x10 + 1)) then (wringerlaw8_MergeLeast.j2 k x2 x3 x9 x10 x11 x13 x15 true) else (if x15 < (x9.length : Int) then (wringerlaw8_MergeLeast.j2 k x2 x3 x9 x10 x11 x13 x15 ((decide ((rd x11 x15) > 0)) != (decide ((rd x9 x15) > 0)))) else (none))) else (none))) else (none)) else (none)) else ((some (([] : List Int) : List Int)).bind fun y233 => (if y233.length + x11.length < 17592186044416 then ((some (y233 ++ x11 : List Int)).bind fun y236 => (if 0 ≤ (Int.tmod (wrap64 (x3)) 65) then (if (Int.tmod (wrap64 (x3)) 65) < (x11.length : Int) then (if 0 ≤ (Int.tmod (wrap64 (x2)) 65) then (if (Int.tmod (wrap64 (x2)) 65) < (y236.length : Int) then (if (Int.tmod (wrap64 (x2)) 65) < (x11.length : Int) then (if (Int.tmod (wrap64 (x3)) 65) < (y236.length : Int) then (if (Int.tmod (wrap64 (x2)) 65) < (x9.length : Int) then (if (rd x9 (Int.tmod (wrap64 (x2)) 65)) = 0 then ((merge_Cost.f x9 x13).bind fun t244 => ((merge_Cost.f x9 x11).bind fun t245 => (if t244 ≤ t245 then ((wringerlaw8_awake.f).bind fun t246 => (some t246)) else (some false)))) else (if (Int.tmod (wrap64 (x3)) 65) < (x9.length : Int) then (if (rd x9 (Int.tmod (wrap64 (x3)) 65)) = 0 then ((merge_Cost.f x9 x13).bind fun t248 => ((merge_Cost.f x9 x11).bind fun t249 => (if t248 ≤ t249 then ((wringerlaw8_awake.f).bind fun t250 => (some t250)) else (some false)))) else ((merge_Cost.f x9 ((y236.set ((Int.tmod (wrap64 (x2)) 65) : Int).toNat (rd x11 (Int.tmod (wrap64 (x3)) 65))).set ((Int.tmod (wrap64 (x3)) 65) : Int).toNat (rd x11 (Int.tmod (wrap64 (x2)) 65)))).bind fun t251 => ((merge_Cost.f x9 x11).bind fun t252 => (if t251 ≥ t252 then ((merge_Cost.f x9 x13).bind fun t253 => ((merge_Cost.f x9 x11).bind fun t254 => (if t253 ≤ t254 then ((wringerlaw8_awake.f).bind fun t255 => (some t255)) else (some false)))) else (some false))))) else (none))) else (none)) else (none)) else (none)) else (none)) else (none)) else (none)) else (none))) else (none)))
def wringerlaw8_MergeLeast.j2 : Nat → Int → Int → List Int → Int → List Int → List Int → Int → Bool → Option (Bool)
 | 0, _, _, _, _, _, _, _, _ => none
 | k + 1, x2, x3, x9, x10, x11, x13, x15, x100 => if x100 = true then (some false) else (wringerlaw8_MergeLeast.l1 k x2 x3 x9 x10 x11 x13 x15 0)
def wringerlaw8_MergeLeast.l1 : Nat → Int → Int → List Int → Int → List Int → List Int → Int → Int → Option (Bool)
 | 0, _, _, _, _, _, _, _, _ => none
 | k + 1, x2, x3, x9, x10, x11, x13, x15, x16 => if x16 < 65 then (if 0 ≤ x15 then (if x15 < (x9.length : Int) then (if 0 ≤ x16 then (if x16 < (x9.length : Int) then (if (rd x9 x15) > (rd x9 x16) then (if (rd x9 x16) > 0 then (if x15 < (x11.length : Int) then (if x16 < (x11.length : Int) then (if (rd x11 x15) > (rd x11 x16) then (some false) else (wringerlaw8_MergeLeast.l1 k x2 x3 x9 x10 x11 x13 x15 (wrap64 (x16 + 1)))) else (none)) else (none)) else (wringerlaw8_MergeLeast.l1 k x2 x3 x9 x10 x11 x13 x15 (wrap64 (x16 + 1)))) else (wringerlaw8_MergeLeast.l1 k x2 x3 x9 x10 x11 x13 x15 (wrap64 (x16 + 1)))) else (none)) else (none)) else (none)) else (none)) else (wringerlaw8_MergeLeast.l0 k x2 x3 x9 x10 x11 x13 (wrap64 (x15 + 1)))
end
def wringerlaw8_MergeLeast.f (k : Nat) (l0 : List Int) (a1 : Int) (a2 : Int) (a3 : Int) : Option (Bool) := if (l0.length : Int) > 140 then ((wringerlaw8_awake.f).bind fun t208 => (some t208)) else ((wringerlaw8_Freq.f k l0).bind fun t209 => ((merge_Lengths.f t209 (wrap64 (7 + (Int.tmod (wrap64 (a1)) 8)))).bind fun bt212 => ((merge_Lengths.f t209 (wrap64 ((wrap64 (7 + (Int.tmod (wrap64 (a1)) 8))) + 1))).bind fun bt216 => ((wringerlaw1_Err.f bt212.2).bind fun t220 => ((wringerlaw1_Err.f bt216.2).bind fun t221 => (if (wrap64 (t220 + t221)) = 0 then (if (bt212.1.length : Int) = 65 then (if (bt216.1.length : Int) = 65 then ((wringerref7_MayLens.f k bt212.1).bind fun t222 => (if t222 = true then ((wringerref7_MayLens.f k bt216.1).bind fun t223 => (wringerlaw8_MergeLeast.j0 k a2 a3 t209 (wrap64 (7 + (Int.tmod (wrap64 (a1)) 8))) bt212.1 bt216.1 (!t223))) else (wringerlaw8_MergeLeast.j0 k a2 a3 t209 (wrap64 (7 + (Int.tmod (wrap64 (a1)) 8))) bt212.1 bt216.1 true))) else (wringerlaw8_MergeLeast.j0 k a2 a3 t209 (wrap64 (7 + (Int.tmod (wrap64 (a1)) 8))) bt212.1 bt216.1 true)) else (wringerlaw8_MergeLeast.j0 k a2 a3 t209 (wrap64 (7 + (Int.tmod (wrap64 (a1)) 8))) bt212.1 bt216.1 true)) else (wringerlaw8_MergeLeast.j0 k a2 a3 t209 (wrap64 (7 + (Int.tmod (wrap64 (a1)) 8))) bt212.1 bt216.1 true)))))))
theorem wringerlaw8_MergeLeast.mono_l : ∀ k, (∀ y0 y1 y2 y3 y4 y5 y6, LeO (wringerlaw8_MergeLeast.j0 k y0 y1 y2 y3 y4 y5 y6) (wringerlaw8_MergeLeast.j0 (k + 1) y0 y1 y2 y3 y4 y5 y6)) ∧ (∀ y0 y1 y2 y3 y4 y5 y6, LeO (wringerlaw8_MergeLeast.l0 k y0 y1 y2 y3 y4 y5 y6) (wringerlaw8_MergeLeast.l0 (k + 1) y0 y1 y2 y3 y4 y5 y6)) ∧ (∀ y0 y1 y2 y3 y4 y5 y6 y7, LeO (wringerlaw8_MergeLeast.j2 k y0 y1 y2 y3 y4 y5 y6 y7) (wringerlaw8_MergeLeast.j2 (k + 1) y0 y1 y2 y3 y4 y5 y6 y7)) ∧ (∀ y0 y1 y2 y3 y4 y5 y6 y7, LeO (wringerlaw8_MergeLeast.l1 k y0 y1 y2 y3 y4 y5 y6 y7) (wringerlaw8_MergeLeast.l1 (k + 1) y0 y1 y2 y3 y4 y5 y6 y7))
 | 0 => ⟨fun _ _ _ _ _ _ _ r h => by simp [wringerlaw8_MergeLeast.j0] at h, fun _ _ _ _ _ _ _ r h => by simp [wringerlaw8_MergeLeast.l0] at h, fun _ _ _ _ _ _ _ _ r h => by simp [wringerlaw8_MergeLeast.j2] at h, fun _ _ _ _ _ _ _ _ r h => by simp [wringerlaw8_MergeLeast.l1] at h⟩
 | k + 1 => by
  obtain ⟨ih0, ih1, ih2, ih3⟩ := wringerlaw8_MergeLeast.mono_l k
  refine ⟨?_, ?_, ?_, ?_⟩
  ·intro y0 y1 y2 y3 y4 y5 y6
   unfold wringerlaw8_MergeLeast.j0
   repeat' first
   | (with_reducible exact ih0 _ _ _ _ _ _ _)
   | (with_reducible exact ih1 _ _ _ _ _ _ _)
   | (with_reducible exact ih2 _ _ _ _ _ _ _ _)
   | (with_reducible exact ih3 _ _ _ _ _ _ _ _)
   | (with_reducible exact wringerlaw8_Freq.mono _ _)
   | (with_reducible exact wringerref7_MayLens.mono _ _)
   | (with_reducible exact LeO.refl _)
   | (with_reducible exact LeO.none _)
   | (with_reducible refine LeO.ite ?_ ?_)
   | (with_reducible refine LeO.bind ?_ (fun _ => ?_))
   | exact ih0 _ _ _ _ _ _ _
   | exact ih1 _ _ _ _ _ _ _
   | exact ih2 _ _ _ _ _ _ _ _
   | exact ih3 _ _ _ _ _ _ _ _
   | exact wringerlaw8_Freq.mono _ _
   | exact wringerref7_MayLens.mono _ _
   | exact LeO.none _
   | refine LeO.ite ?_ ?_
   | refine LeO.bind ?_ (fun _ => ?_)
  ·intro y0 y1 y2 y3 y4 y5 y6
   unfold wringerlaw8_MergeLeast.l0
   repeat' first
   | (with_reducible exact ih0 _ _ _ _ _ _ _)
   | (with_reducible exact ih1 _ _ _ _ _ _ _)
   | (with_reducible exact ih2 _ _ _ _ _ _ _ _)
   | (with_reducible exact ih3 _ _ _ _ _ _ _ _)
   | (with_reducible exact wringerlaw8_Freq.mono _ _)
   | (with_reducible exact wringerref7_MayLens.mono _ _)
   | (with_reducible exact LeO.refl _)
   | (with_reducible exact LeO.none _)
   | (with_reducible refine LeO.ite ?_ ?_)
   | (with_reducible refine LeO.bind ?_ (fun _ => ?_))
   | exact ih0 _ _ _ _ _ _ _
   | exact ih1 _ _ _ _ _ _ _
   | exact ih2 _ _ _ _ _ _ _ _
   | exact ih3 _ _ _ _ _ _ _ _
   | exact wringerlaw8_Freq.mono _ _
   | exact wringerref7_MayLens.mono _ _
   | exact LeO.none _
   | refine LeO.ite ?_ ?_
   | refine LeO.bind ?_ (fun _ => ?_)
  ·intro y0 y1 y2 y3 y4 y5 y6 y7
   unfold wringerlaw8_MergeLeast.j2
   repeat' first
   | (with_reducible exact ih0 _ _ _ _ _ _ _)
   | (with_reducible exact ih1 _ _ _ _ _ _ _)
   | (with_reducible exact ih2 _ _ _ _ _ _ _ _)
   | (with_reducible exact ih3 _ _ _ _ _ _ _ _)
   | (with_reducible exact wringerlaw8_Freq.mono _ _)
   | (with_reducible exact wringerref7_MayLens.mono _ _)
   | (with_reducible exact LeO.refl _)
   | (with_reducible exact LeO.none _)
   | (with_reducible refine LeO.ite ?_ ?_)
   | (with_reducible refine LeO.bind ?_ (fun _ => ?_))
   | exact ih0 _ _ _ _ _ _ _
   | exact ih1 _ _ _ _ _ _ _
   | exact ih2 _ _ _ _ _ _ _ _
   | exact ih3 _ _ _ _ _ _ _ _
   | exact wringerlaw8_Freq.mono _ _
   | exact wringerref7_MayLens.mono _ _
   | exact LeO.none _
   | refine LeO.ite ?_ ?_
   | refine LeO.bind ?_ (fun _ => ?_)
  ·intro y0 y1 y2 y3 y4 y5 y6 y7
   unfold wringerlaw8_MergeLeast.l1
   repeat' first
   | (with_reducible exact ih0 _ _ _ _ _ _ _)
   | (with_reducible exact ih1 _ _ _ _ _ _ _)
   | (with_reducible exact ih2 _ _ _ _ _ _ _ _)
   | (with_reducible exact ih3 _ _ _ _ _ _ _ _)
   | (with_reducible exact wringerlaw8_Freq.mono _ _)
   | (with_reducible exact wringerref7_MayLens.mono _ _)
   | (with_reducible exact LeO.refl _)
   | (with_reducible exact LeO.none _)
   | (with_reducible refine LeO.ite ?_ ?_)
   | (with_reducible refine LeO.bind ?_ (fun _ => ?_))
   | exact ih0 _ _ _ _ _ _ _
   | exact ih1 _ _ _ _ _ _ _
   | exact ih2 _ _ _ _ _ _ _ _
   | exact ih3 _ _ _ _ _ _ _ _
   | exact wringerlaw8_Freq.mono _ _
   | exact wringerref7_MayLens.mono _ _
   | exact LeO.none _
   | refine LeO.ite ?_ ?_
   | refine LeO.bind ?_ (fun _ => ?_)
theorem wringerlaw8_MergeLeast.mono : ∀ a0 a1 a2 a3 k, LeO (wringerlaw8_MergeLeast.f k a0 a1 a2 a3) (wringerlaw8_MergeLeast.f (k + 1) a0 a1 a2 a3) := by
 intro a0 a1 a2 a3 k
 obtain ⟨ih0, ih1, ih2, ih3⟩ := wringerlaw8_MergeLeast.mono_l k
 unfold wringerlaw8_MergeLeast.f
 repeat' first
   | (with_reducible exact ih0 _ _ _ _ _ _ _)
   | (with_reducible exact ih1 _ _ _ _ _ _ _)
   | (with_reducible exact ih2 _ _ _ _ _ _ _ _)
   | (with_reducible exact ih3 _ _ _ _ _ _ _ _)
   | (with_reducible exact wringerlaw8_Freq.mono _ _)
   | (with_reducible exact wringerref7_MayLens.mono _ _)
   | (with_reducible exact LeO.refl _)
   | (with_reducible exact LeO.none _)
   | (with_reducible refine LeO.ite ?_ ?_)
   | (with_reducible refine LeO.bind ?_ (fun _ => ?_))
   | exact ih0 _ _ _ _ _ _ _
   | exact ih1 _ _ _ _ _ _ _
   | exact ih2 _ _ _ _ _ _ _ _
   | exact ih3 _ _ _ _ _ _ _ _
   | exact wringerlaw8_Freq.mono _ _
   | exact wringerref7_MayLens.mono _ _
   | exact LeO.none _
   | refine LeO.ite ?_ ?_
   | refine LeO.bind ?_ (fun _ => ?_)
set_option linter.defProp false
def zM := @Aside0.mk
def zA := @Kd.R_alloc
def zN := @Kd.R_drewN
def zB := @below_alloc
def zC := @pw_below_drewN
def zE := @below_drew1
def zO := @of_decide_eq_true
def zW := @World.drewN_drewN
def zR := @Kd.R_reads'
def zF := @Kd.R_after
set_option maxHeartbeats 8000000 in
set_option maxRecDepth 100000 in
theorem wringerlaw8_MergeLeast.calls (k : Nat) (A0 : Option Addr) (c0 : Nat) (l0 : List Int) (a1 : Int) (a2 : Int) (a3 : Int) (r : Bool) (w : World) (hr0 : Kd.C (Kd.int .u16) w A0 l0.length l0) (hc0 : l0.length ≤ c0) (hr1 : r = true) (h : wringerlaw8_MergeLeast.f k l0 a1 a2 a3 = some r) :
  Calls Try.prog 5 #[.slice A0 l0.length c0, .int .u8 a1, .int .u8 a2, .int .u8 a3] w fun e w'=>e = .returned (.bool r)∧Below w.heap.size w w':=by
 have HR0:=zM hr0
 have HC0:=zM hc0
 have HR1:=zM hr1
 clear hr1
 clear hr0 hc0
 have HB:=zM (Below.refl w.heap.size w)
 have H : (if (l0.length : Int) > 140 then ((wringerlaw8_awake.f).bind fun t208=>(some t208)) else ((wringerlaw8_Freq.f k l0).bind fun t209=>((merge_Lengths.f t209 (wrap64 (7 + (Int.tmod (wrap64 (a1)) 8)))).bind fun bt212=>((merge_Lengths.f t209 (wrap64 ((wrap64 (7 + (Int.tmod (wrap64 (a1)) 8))) + 1))).bind fun bt216=>((wringerlaw1_Err.f bt212.2).bind fun t220=>((wringerlaw1_Err.f bt216.2).bind fun t221=>(if (wrap64 (t220 + t221)) = 0 then (if (bt212.1.length : Int) = 65 then (if (bt216.1.length : Int) = 65 then ((wringerref7_MayLens.f k bt212.1).bind fun t222=>(if t222 = true then ((wringerref7_MayLens.f k bt216.1).bind fun t223=>(wringerlaw8_MergeLeast.j0 k a2 a3 t209 (wrap64 (7 + (Int.tmod (wrap64 (a1)) 8))) bt212.1 bt216.1 (!t223))) else (wringerlaw8_MergeLeast.j0 k a2 a3 t209 (wrap64 (7 + (Int.tmod (wrap64 (a1)) 8))) bt212.1 bt216.1 true))) else (wringerlaw8_MergeLeast.j0 k a2 a3 t209 (wrap64 (7 + (Int.tmod (wrap64 (a1)) 8))) bt212.1 bt216.1 true)) else (wringerlaw8_MergeLeast.j0 k a2 a3 t209 (wrap64 (7 + (Int.tmod (wrap64 (a1)) 8))) bt212.1 bt216.1 true)) else (wringerlaw8_MergeLeast.j0 k a2 a3 t209 (wrap64 (7 + (Int.tmod (wrap64 (a1)) 8))) bt212.1 bt216.1 true)))))))) = some r:=h
 clear h
 by_cases c5 : (l0.length : Int) > 140
 ·rw [if_pos c5] at H
  have c5b0 : decide (140 < (l0.length : Int)) = true:=decide_eq_true c5
  have c5b1 : decide (140 < l0.length) = true:=decide_eq_true (by omega)
  clear c5
  replace H:=Option.bind_eq_some_iff.mp H
  obtain ⟨t208, A60, H⟩:=H
  replace H : (some t208) = some r:=H
  have A6:=zM A60
  clear A60
  obtain rfl:=Option.some.inj H
  go_enter Try.func5, Try.ntmps5
  go_wp2_with (first|(go_at_call 10;(with_reducible refine (wringerlaw8_awake.calls  t208 _ A6.out).mono ?_);rintro e w7 ⟨rfl, hb⟩;have n0_:=zM (below_step (by repeat (first|(with_reducible first|exact HB.out|apply zB|apply zC|apply zE)|exact HB.out)) hb);clear HB;have HB:=n0_;clear n0_;(try clear hb);(try clear hb2);(try clear hk);(try clear hi)))
  repeat (go_quiet (first|(go_at_call 10;(with_reducible refine (wringerlaw8_awake.calls  t208 _ A6.out).mono ?_);rintro e w7 ⟨rfl, hb⟩;have n0_:=zM (below_step (by repeat (first|(with_reducible first|exact HB.out|apply zB|apply zC|apply zE)|exact HB.out)) hb);clear HB;have HB:=n0_;clear n0_;(try clear hb);(try clear hb2);(try clear hk);(try clear hi)));try go_wp2_with (first|(go_at_call 10;(with_reducible refine (wringerlaw8_awake.calls  t208 _ A6.out).mono ?_);rintro e w7 ⟨rfl, hb⟩;have n0_:=zM (below_step (by repeat (first|(with_reducible first|exact HB.out|apply zB|apply zC|apply zE)|exact HB.out)) hb);clear HB;have HB:=n0_;clear n0_;(try clear hb);(try clear hb2);(try clear hk);(try clear hi))))
  go_ret
  exact ⟨by first|rfl|(simp [errW_none, errW_some] <;> rfl)|(simp [*, errW_none, errW_some] <;> rfl), by repeat (first|(with_reducible first|exact HB.out|apply zB|apply zC|apply zE)|exact HB.out)⟩
 ·rw [if_neg c5] at H
  have c5b0 : decide (140 < (l0.length : Int)) = false:=decide_eq_false c5
  have c5b1 : decide (140 < l0.length) = false:=decide_eq_false (by omega)
  clear c5
  replace H:=Option.bind_eq_some_iff.mp H
  obtain ⟨t209, A80, H⟩:=H
  replace H : ((merge_Lengths.f t209 (wrap64 (7 + (Int.tmod (wrap64 (a1)) 8)))).bind fun bt212=>((merge_Lengths.f t209 (wrap64 ((wrap64 (7 + (Int.tmod (wrap64 (a1)) 8))) + 1))).bind fun bt216=>((wringerlaw1_Err.f bt212.2).bind fun t220=>((wringerlaw1_Err.f bt216.2).bind fun t221=>(if (wrap64 (t220 + t221)) = 0 then (if (bt212.1.length : Int) = 65 then (if (bt216.1.length : Int) = 65 then ((wringerref7_MayLens.f k bt212.1).bind fun t222=>(if t222 = true then ((wringerref7_MayLens.f k bt216.1).bind fun t223=>(wringerlaw8_MergeLeast.j0 k a2 a3 t209 (wrap64 (7 + (Int.tmod (wrap64 (a1)) 8))) bt212.1 bt216.1 (!t223))) else (wringerlaw8_MergeLeast.j0 k a2 a3 t209 (wrap64 (7 + (Int.tmod (wrap64 (a1)) 8))) bt212.1 bt216.1 true))) else (wringerlaw8_MergeLeast.j0 k a2 a3 t209 (wrap64 (7 + (Int.tmod (wrap64 (a1)) 8))) bt212.1 bt216.1 true)) else (wringerlaw8_MergeLeast.j0 k a2 a3 t209 (wrap64 (7 + (Int.tmod (wrap64 (a1)) 8))) bt212.1 bt216.1 true)) else (wringerlaw8_MergeLeast.j0 k a2 a3 t209 (wrap64 (7 + (Int.tmod (wrap64 (a1)) 8))) bt212.1 bt216.1 true)))))) = some r:=H
  have A8:=zM A80
  clear A80
  replace H:=Option.bind_eq_some_iff.mp H
  obtain ⟨⟨t212, t213⟩, A90, H⟩:=H
  replace H : ((merge_Lengths.f t209 (wrap64 ((wrap64 (7 + (Int.tmod (wrap64 (a1)) 8))) + 1))).bind fun bt216=>((wringerlaw1_Err.f t213).bind fun t220=>((wringerlaw1_Err.f bt216.2).bind fun t221=>(if (wrap64 (t220 + t221)) = 0 then (if (t212.length : Int) = 65 then (if (bt216.1.length : Int) = 65 then ((wringerref7_MayLens.f k t212).bind fun t222=>(if t222 = true then ((wringerref7_MayLens.f k bt216.1).bind fun t223=>(wringerlaw8_MergeLeast.j0 k a2 a3 t209 (wrap64 (7 + (Int.tmod (wrap64 (a1)) 8))) t212 bt216.1 (!t223))) else (wringerlaw8_MergeLeast.j0 k a2 a3 t209 (wrap64 (7 + (Int.tmod (wrap64 (a1)) 8))) t212 bt216.1 true))) else (wringerlaw8_MergeLeast.j0 k a2 a3 t209 (wrap64 (7 + (Int.tmod (wrap64 (a1)) 8))) t212 bt216.1 true)) else (wringerlaw8_MergeLeast.j0 k a2 a3 t209 (wrap64 (7 + (Int.tmod (wrap64 (a1)) 8))) t212 bt216.1 true)) else (wringerlaw8_MergeLeast.j0 k a2 a3 t209 (wrap64 (7 + (Int.tmod (wrap64 (a1)) 8))) t212 bt216.1 true))))) = some r:=H
  have A9:=zM A90
  clear A90
  replace H:=Option.bind_eq_some_iff.mp H
  obtain ⟨⟨t216, t217⟩, A100, H⟩:=H
  replace H : ((wringerlaw1_Err.f t213).bind fun t220=>((wringerlaw1_Err.f t217).bind fun t221=>(if (wrap64 (t220 + t221)) = 0 then (if (t212.length : Int) = 65 then (if (t216.length : Int) = 65 then ((wringerref7_MayLens.f k t212).bind fun t222=>(if t222 = true then ((wringerref7_MayLens.f k t216).bind fun t223=>(wringerlaw8_MergeLeast.j0 k a2 a3 t209 (wrap64 (7 + (Int.tmod (wrap64 (a1)) 8))) t212 t216 (!t223))) else (wringerlaw8_MergeLeast.j0 k a2 a3 t209 (wrap64 (7 + (Int.tmod (wrap64 (a1)) 8))) t212 t216 true))) else (wringerlaw8_MergeLeast.j0 k a2 a3 t209 (wrap64 (7 + (Int.tmod (wrap64 (a1)) 8))) t212 t216 true)) else (wringerlaw8_MergeLeast.j0 k a2 a3 t209 (wrap64 (7 + (Int.tmod (wrap64 (a1)) 8))) t212 t216 true)) else (wringerlaw8_MergeLeast.j0 k a2 a3 t209 (wrap64 (7 + (Int.tmod (wrap64 (a1)) 8))) t212 t216 true)))) = some r:=H
  have A10:=zM A100
  clear A100
  have HC11:=zM H
  clear H
  go_enter Try.func5, Try.ntmps5
  go_upto_region 7 with (first|(go_at_call 17;(with_reducible refine (wringerlaw8_Freq.calls k _ _ l0 t209 _ ?side1 ?side2 A8.out).mono ?_);(case side1=>repeat (first|exact HR0.out|(with_reducible refine Kd.C_alloc ?_ _)|(with_reducible refine Kd.C_drewN ?_ _)|(with_reducible refine Kd.C_drew ?_)));(case side2=>exact HC0.out);rintro e w12 ⟨v210, rfl, ho0, hb⟩;have n0_:=zM (Kd.R_lower ho0 (below_size (by repeat (first|(with_reducible first|exact HB.out|apply zB|apply zC|apply zE)|exact HB.out))));have n1_:=zM (below_step (by repeat (first|(with_reducible first|exact HB.out|apply zB|apply zC|apply zE)|exact HB.out)) hb);clear HB;have HO211:=n0_;have HB:=n1_;clear n0_ n1_;(try clear hb);(try clear hb2);(try clear hk);(try clear hi);(try clear ho0);obtain ⟨Ao13, co13, eo13⟩:=Kd.R_slice HO211.out;subst eo13)|(go_at_call 11;(with_reducible refine (merge_Lengths.calls _ _ t209 (wrap64 (7 + (Int.tmod (wrap64 (a1)) 8))) t212 t213 _ ?side1 ?side2 A9.out).mono ?_);(case side1=>repeat (first|exact (zR HO211.out).2.2|(with_reducible refine Kd.C_alloc ?_ _)|(with_reducible refine Kd.C_drewN ?_ _)|(with_reducible refine Kd.C_drew ?_)));(case side2=>exact (zR HO211.out).2.1);rintro e w14 ⟨v214, rfl, ho0, hb⟩;have n0_:=zM (Kd.R_elder' (by (with_reducible repeat (first|apply zA|apply zN|apply Kd.R_drew));exact HO211.out) (Kd.R_base ho0) hb);have n1_:=zM (Kd.R_lower (Kd.R_new' ho0 (Kd.R_lt (by (with_reducible repeat (first|apply zA|apply zN|apply Kd.R_drew));exact HO211.out))) (below_size (by repeat (first|(with_reducible first|exact HB.out|apply zB|apply zC|apply zE)|exact HB.out))));have n2_:=zM (below_step (by repeat (first|(with_reducible first|exact HB.out|apply zB|apply zC|apply zE)|exact HB.out)) hb);clear HO211;clear HB;have HO211:=n0_;have HO215:=n1_;have HB:=n2_;clear n0_ n1_ n2_;(try clear hb);(try clear hb2);(try clear hk);(try clear hi);(try clear ho0))|(go_at_call 11;(with_reducible refine (merge_Lengths.calls _ _ t209 (wrap64 ((wrap64 (7 + (Int.tmod (wrap64 (a1)) 8))) + 1)) t216 t217 _ ?side1 ?side2 A10.out).mono ?_);(case side1=>repeat (first|exact (zR HO211.out).2.2|(with_reducible refine Kd.C_alloc ?_ _)|(with_reducible refine Kd.C_drewN ?_ _)|(with_reducible refine Kd.C_drew ?_)));(case side2=>exact (zR HO211.out).2.1);rintro e w15 ⟨v218, rfl, ho0, hb⟩;have n0_:=zM (Kd.R_elder' (by (with_reducible repeat (first|apply zA|apply zN|apply Kd.R_drew));exact HO211.out) (Kd.R_base ho0) hb);have n1_:=zM (Kd.R_elder' (by (with_reducible repeat (first|apply zA|apply zN|apply Kd.R_drew));exact HO215.out) (Kd.R_base ho0) hb);have n2_:=zM (Kd.R_lower (Kd.R_new' (Kd.R_new' ho0 (Kd.R_lt (by (with_reducible repeat (first|apply zA|apply zN|apply Kd.R_drew));exact HO211.out))) (Kd.R_lt (by (with_reducible repeat (first|apply zA|apply zN|apply Kd.R_drew));exact HO215.out))) (below_size (by repeat (first|(with_reducible first|exact HB.out|apply zB|apply zC|apply zE)|exact HB.out))));have n3_:=zM (below_step (by repeat (first|(with_reducible first|exact HB.out|apply zB|apply zC|apply zE)|exact HB.out)) hb);clear HO211;clear HO215;clear HB;have HO211:=n0_;have HO215:=n1_;have HO219:=n2_;have HB:=n3_;clear n0_ n1_ n2_ n3_;(try clear hb);(try clear hb2);(try clear hk);(try clear hi);(try clear ho0)))
  repeat (go_quiet (first|(go_at_call 17;(with_reducible refine (wringerlaw8_Freq.calls k _ _ l0 t209 _ ?side1 ?side2 A8.out).mono ?_);(case side1=>repeat (first|exact HR0.out|(with_reducible refine Kd.C_alloc ?_ _)|(with_reducible refine Kd.C_drewN ?_ _)|(with_reducible refine Kd.C_drew ?_)));(case side2=>exact HC0.out);rintro e w12 ⟨v210, rfl, ho0, hb⟩;have n0_:=zM (Kd.R_lower ho0 (below_size (by repeat (first|(with_reducible first|exact HB.out|apply zB|apply zC|apply zE)|exact HB.out))));have n1_:=zM (below_step (by repeat (first|(with_reducible first|exact HB.out|apply zB|apply zC|apply zE)|exact HB.out)) hb);clear HB;have HO211:=n0_;have HB:=n1_;clear n0_ n1_;(try clear hb);(try clear hb2);(try clear hk);(try clear hi);(try clear ho0);obtain ⟨Ao13, co13, eo13⟩:=Kd.R_slice HO211.out;subst eo13)|(go_at_call 11;(with_reducible refine (merge_Lengths.calls _ _ t209 (wrap64 (7 + (Int.tmod (wrap64 (a1)) 8))) t212 t213 _ ?side1 ?side2 A9.out).mono ?_);(case side1=>repeat (first|exact (zR HO211.out).2.2|(with_reducible refine Kd.C_alloc ?_ _)|(with_reducible refine Kd.C_drewN ?_ _)|(with_reducible refine Kd.C_drew ?_)));(case side2=>exact (zR HO211.out).2.1);rintro e w14 ⟨v214, rfl, ho0, hb⟩;have n0_:=zM (Kd.R_elder' (by (with_reducible repeat (first|apply zA|apply zN|apply Kd.R_drew));exact HO211.out) (Kd.R_base ho0) hb);have n1_:=zM (Kd.R_lower (Kd.R_new' ho0 (Kd.R_lt (by (with_reducible repeat (first|apply zA|apply zN|apply Kd.R_drew));exact HO211.out))) (below_size (by repeat (first|(with_reducible first|exact HB.out|apply zB|apply zC|apply zE)|exact HB.out))));have n2_:=zM (below_step (by repeat (first|(with_reducible first|exact HB.out|apply zB|apply zC|apply zE)|exact HB.out)) hb);clear HO211;clear HB;have HO211:=n0_;have HO215:=n1_;have HB:=n2_;clear n0_ n1_ n2_;(try clear hb);(try clear hb2);(try clear hk);(try clear hi);(try clear ho0))|(go_at_call 11;(with_reducible refine (merge_Lengths.calls _ _ t209 (wrap64 ((wrap64 (7 + (Int.tmod (wrap64 (a1)) 8))) + 1)) t216 t217 _ ?side1 ?side2 A10.out).mono ?_);(case side1=>repeat (first|exact (zR HO211.out).2.2|(with_reducible refine Kd.C_alloc ?_ _)|(with_reducible refine Kd.C_drewN ?_ _)|(with_reducible refine Kd.C_drew ?_)));(case side2=>exact (zR HO211.out).2.1);rintro e w15 ⟨v218, rfl, ho0, hb⟩;have n0_:=zM (Kd.R_elder' (by (with_reducible repeat (first|apply zA|apply zN|apply Kd.R_drew));exact HO211.out) (Kd.R_base ho0) hb);have n1_:=zM (Kd.R_elder' (by (with_reducible repeat (first|apply zA|apply zN|apply Kd.R_drew));exact HO215.out) (Kd.R_base ho0) hb);have n2_:=zM (Kd.R_lower (Kd.R_new' (Kd.R_new' ho0 (Kd.R_lt (by (with_reducible repeat (first|apply zA|apply zN|apply Kd.R_drew));exact HO211.out))) (Kd.R_lt (by (with_reducible repeat (first|apply zA|apply zN|apply Kd.R_drew));exact HO215.out))) (below_size (by repeat (first|(with_reducible first|exact HB.out|apply zB|apply zC|apply zE)|exact HB.out))));have n3_:=zM (below_step (by repeat (first|(with_reducible first|exact HB.out|apply zB|apply zC|apply zE)|exact HB.out)) hb);clear HO211;clear HO215;clear HB;have HO211:=n0_;have HO215:=n1_;have HO219:=n2_;have HB:=n3_;clear n0_ n1_ n2_ n3_;(try clear hb);(try clear hb2);(try clear hk);(try clear hi);(try clear ho0)));go_upto_region 7 with (first|(go_at_call 17;(with_reducible refine (wringerlaw8_Freq.calls k _ _ l0 t209 _ ?side1 ?side2 A8.out).mono ?_);(case side1=>repeat (first|exact HR0.out|(with_reducible refine Kd.C_alloc ?_ _)|(with_reducible refine Kd.C_drewN ?_ _)|(with_reducible refine Kd.C_drew ?_)));(case side2=>exact HC0.out);rintro e w12 ⟨v210, rfl, ho0, hb⟩;have n0_:=zM (Kd.R_lower ho0 (below_size (by repeat (first|(with_reducible first|exact HB.out|apply zB|apply zC|apply zE)|exact HB.out))));have n1_:=zM (below_step (by repeat (first|(with_reducible first|exact HB.out|apply zB|apply zC|apply zE)|exact HB.out)) hb);clear HB;have HO211:=n0_;have HB:=n1_;clear n0_ n1_;(try clear hb);(try clear hb2);(try clear hk);(try clear hi);(try clear ho0);obtain ⟨Ao13, co13, eo13⟩:=Kd.R_slice HO211.out;subst eo13)|(go_at_call 11;(with_reducible refine (merge_Lengths.calls _ _ t209 (wrap64 (7 + (Int.tmod (wrap64 (a1)) 8))) t212 t213 _ ?side1 ?side2 A9.out).mono ?_);(case side1=>repeat (first|exact (zR HO211.out).2.2|(with_reducible refine Kd.C_alloc ?_ _)|(with_reducible refine Kd.C_drewN ?_ _)|(with_reducible refine Kd.C_drew ?_)));(case side2=>exact (zR HO211.out).2.1);rintro e w14 ⟨v214, rfl, ho0, hb⟩;have n0_:=zM (Kd.R_elder' (by (with_reducible repeat (first|apply zA|apply zN|apply Kd.R_drew));exact HO211.out) (Kd.R_base ho0) hb);have n1_:=zM (Kd.R_lower (Kd.R_new' ho0 (Kd.R_lt (by (with_reducible repeat (first|apply zA|apply zN|apply Kd.R_drew));exact HO211.out))) (below_size (by repeat (first|(with_reducible first|exact HB.out|apply zB|apply zC|apply zE)|exact HB.out))));have n2_:=zM (below_step (by repeat (first|(with_reducible first|exact HB.out|apply zB|apply zC|apply zE)|exact HB.out)) hb);clear HO211;clear HB;have HO211:=n0_;have HO215:=n1_;have HB:=n2_;clear n0_ n1_ n2_;(try clear hb);(try clear hb2);(try clear hk);(try clear hi);(try clear ho0))|(go_at_call 11;(with_reducible refine (merge_Lengths.calls _ _ t209 (wrap64 ((wrap64 (7 + (Int.tmod (wrap64 (a1)) 8))) + 1)) t216 t217 _ ?side1 ?side2 A10.out).mono ?_);(case side1=>repeat (first|exact (zR HO211.out).2.2|(with_reducible refine Kd.C_alloc ?_ _)|(with_reducible refine Kd.C_drewN ?_ _)|(with_reducible refine Kd.C_drew ?_)));(case side2=>exact (zR HO211.out).2.1);rintro e w15 ⟨v218, rfl, ho0, hb⟩;have n0_:=zM (Kd.R_elder' (by (with_reducible repeat (first|apply zA|apply zN|apply Kd.R_drew));exact HO211.out) (Kd.R_base ho0) hb);have n1_:=zM (Kd.R_elder' (by (with_reducible repeat (first|apply zA|apply zN|apply Kd.R_drew));exact HO215.out) (Kd.R_base ho0) hb);have n2_:=zM (Kd.R_lower (Kd.R_new' (Kd.R_new' ho0 (Kd.R_lt (by (with_reducible repeat (first|apply zA|apply zN|apply Kd.R_drew));exact HO211.out))) (Kd.R_lt (by (with_reducible repeat (first|apply zA|apply zN|apply Kd.R_drew));exact HO215.out))) (below_size (by repeat (first|(with_reducible first|exact HB.out|apply zB|apply zC|apply zE)|exact HB.out))));have n3_:=zM (below_step (by repeat (first|(with_reducible first|exact HB.out|apply zB|apply zC|apply zE)|exact HB.out)) hb);clear HO211;clear HO215;clear HB;have HO211:=n0_;have HO215:=n1_;have HO219:=n2_;have HB:=n3_;clear n0_ n1_ n2_ n3_;(try clear hb);(try clear hb2);(try clear hk);(try clear hi);(try clear ho0))))
  (try simp only [Act.put, List.setIfInBounds_toArray, List.set_cons_zero, List.set_cons_succ])
  go_cut [68] (fun v68 wc=>∃ (kq : Nat) (x68_10 : Bool), v68 = .bool x68_10∧Aside0 (wringerlaw8_MergeLeast.j0 kq a2 a3 t209 (wrap64 (7 + (Int.tmod (wrap64 (a1)) 8))) t212 t216 x68_10 = some r)∧Aside0 (kq ≤ k)∧Aside0 (Kd.R (Kd.int .i64) 3 wc w.heap.size (fun k_=>some k_≠(v214 : Value).ownBlock∧some k_≠(v218 : Value).ownBlock) (.slice Ao13 t209.length co13) t209)∧Aside0 (Kd.R (Kd.int .i64) 3 wc w.heap.size (fun k_=>some k_≠((.slice Ao13 t209.length co13) : Value).ownBlock∧some k_≠(v218 : Value).ownBlock) v214 t212)∧Aside0 (Kd.R (Kd.int .i64) 3 wc w.heap.size (fun k_=>some k_≠((.slice Ao13 t209.length co13) : Value).ownBlock∧some k_≠(v214 : Value).ownBlock) v218 t216)∧Aside0 (Below w.heap.size w wc))
  case first =>
   have H:=HC11.out
   clear HC11
   replace H:=Option.bind_eq_some_iff.mp H
   obtain ⟨t220, A160, H⟩:=H
   replace H : ((wringerlaw1_Err.f t217).bind fun t221=>(if (wrap64 (t220 + t221)) = 0 then (if (t212.length : Int) = 65 then (if (t216.length : Int) = 65 then ((wringerref7_MayLens.f k t212).bind fun t222=>(if t222 = true then ((wringerref7_MayLens.f k t216).bind fun t223=>(wringerlaw8_MergeLeast.j0 k a2 a3 t209 (wrap64 (7 + (Int.tmod (wrap64 (a1)) 8))) t212 t216 (!t223))) else (wringerlaw8_MergeLeast.j0 k a2 a3 t209 (wrap64 (7 + (Int.tmod (wrap64 (a1)) 8))) t212 t216 true))) else (wringerlaw8_MergeLeast.j0 k a2 a3 t209 (wrap64 (7 + (Int.tmod (wrap64 (a1)) 8))) t212 t216 true)) else (wringerlaw8_MergeLeast.j0 k a2 a3 t209 (wrap64 (7 + (Int.tmod (wrap64 (a1)) 8))) t212 t216 true)) else (wringerlaw8_MergeLeast.j0 k a2 a3 t209 (wrap64 (7 + (Int.tmod (wrap64 (a1)) 8))) t212 t216 true))) = some r:=H
   have A16:=zM A160
   clear A160
   replace H:=Option.bind_eq_some_iff.mp H
   obtain ⟨t221, A170, H⟩:=H
   replace H : (if (wrap64 (t220 + t221)) = 0 then (if (t212.length : Int) = 65 then (if (t216.length : Int) = 65 then ((wringerref7_MayLens.f k t212).bind fun t222=>(if t222 = true then ((wringerref7_MayLens.f k t216).bind fun t223=>(wringerlaw8_MergeLeast.j0 k a2 a3 t209 (wrap64 (7 + (Int.tmod (wrap64 (a1)) 8))) t212 t216 (!t223))) else (wringerlaw8_MergeLeast.j0 k a2 a3 t209 (wrap64 (7 + (Int.tmod (wrap64 (a1)) 8))) t212 t216 true))) else (wringerlaw8_MergeLeast.j0 k a2 a3 t209 (wrap64 (7 + (Int.tmod (wrap64 (a1)) 8))) t212 t216 true)) else (wringerlaw8_MergeLeast.j0 k a2 a3 t209 (wrap64 (7 + (Int.tmod (wrap64 (a1)) 8))) t212 t216 true)) else (wringerlaw8_MergeLeast.j0 k a2 a3 t209 (wrap64 (7 + (Int.tmod (wrap64 (a1)) 8))) t212 t216 true)) = some r:=H
   have A17:=zM A170
   clear A170
   by_cases c18 : (wrap64 (t220 + t221)) = 0
   ·rw [if_pos c18] at H
    have c18b0 : ((wrap64 (t220 + t221)) == 0) = true:=beq_iff_eq.mpr c18
    have c18b1 : ((wrap64 (t220 + t221)) != 0) = false:=bne_eq_false_iff_eq.mpr c18
    clear c18
    (first|rw [c18b0]|(simp only [i64_w, i32_w];rw [c18b0])|skip)
    by_cases c19 : (t212.length : Int) = 65
    ·rw [if_pos c19] at H
     have c19b0 : ((t212.length : Int) == 65) = true:=beq_iff_eq.mpr c19
     have c19b1 : ((t212.length : Int) != 65) = false:=bne_eq_false_iff_eq.mpr c19
     clear c19
     by_cases c20 : (t216.length : Int) = 65
     ·rw [if_pos c20] at H
      have c20b0 : ((t216.length : Int) == 65) = true:=beq_iff_eq.mpr c20
      have c20b1 : ((t216.length : Int) != 65) = false:=bne_eq_false_iff_eq.mpr c20
      clear c20
      replace H:=Option.bind_eq_some_iff.mp H
      obtain ⟨t222, A210, H⟩:=H
      replace H : (if t222 = true then ((wringerref7_MayLens.f k t216).bind fun t223=>(wringerlaw8_MergeLeast.j0 k a2 a3 t209 (wrap64 (7 + (Int.tmod (wrap64 (a1)) 8))) t212 t216 (!t223))) else (wringerlaw8_MergeLeast.j0 k a2 a3 t209 (wrap64 (7 + (Int.tmod (wrap64 (a1)) 8))) t212 t216 true)) = some r:=H
      have A21:=zM A210
      clear A210
      by_cases c22 : t222 = true
      ·subst c22
       have H1 : ((wringerref7_MayLens.f k t216).bind fun t223=>(wringerlaw8_MergeLeast.j0 k a2 a3 t209 (wrap64 (7 + (Int.tmod (wrap64 (a1)) 8))) t212 t216 (!t223))) = some r:=by rw [if_pos rfl] at H;exact H
       clear H
       have H:=H1
       clear H1
       replace H:=Option.bind_eq_some_iff.mp H
       obtain ⟨t223, A230, H⟩:=H
       replace H : (wringerlaw8_MergeLeast.j0 k a2 a3 t209 (wrap64 (7 + (Int.tmod (wrap64 (a1)) 8))) t212 t216 (!t223)) = some r:=H
       have A23:=zM A230
       clear A230
       have H':=zM H
       clear H
       go_wp2_with (first|(go_at_call 14;(with_reducible refine (wringerlaw1_Err.calls t213 t220 _ A16.out).mono ?_);rintro e w' ⟨rfl, ⟨nd, rfl⟩⟩;(try first|exact ⟨rfl, _, zW _ _ _⟩|exact ⟨rfl, _, Eq.trans (zW _ _ _) (congrArg (World.drewN _) (Nat.add_assoc _ _ _))⟩))|(go_at_call 14;(with_reducible refine (wringerlaw1_Err.calls t217 t221 _ A17.out).mono ?_);rintro e w' ⟨rfl, ⟨nd, rfl⟩⟩;(try first|exact ⟨rfl, _, zW _ _ _⟩|exact ⟨rfl, _, Eq.trans (zW _ _ _) (congrArg (World.drewN _) (Nat.add_assoc _ _ _))⟩);obtain ⟨Ao24, co24, eo24⟩:=Kd.R_slice HO215.out;subst eo24;obtain ⟨Ao25, co25, eo25⟩:=Kd.R_slice HO219.out;subst eo25)|(go_at_call 18;(with_reducible refine (wringerref7_MayLens.calls k _ _ t212 true _ ?side1 ?side2 A21.out).mono ?_);(case side1=>repeat (first|exact (zR HO215.out).2.2|(with_reducible refine Kd.C_alloc ?_ _)|(with_reducible refine Kd.C_drewN ?_ _)|(with_reducible refine Kd.C_drew ?_)));(case side2=>exact (zR HO215.out).2.1);rintro e w' ⟨rfl, ⟨nd, rfl⟩⟩;(try first|exact ⟨rfl, _, zW _ _ _⟩|exact ⟨rfl, _, Eq.trans (zW _ _ _) (congrArg (World.drewN _) (Nat.add_assoc _ _ _))⟩))|(go_at_call 18;(with_reducible refine (wringerref7_MayLens.calls k _ _ t216 t223 _ ?side1 ?side2 A23.out).mono ?_);(case side1=>repeat (first|exact (zR HO219.out).2.2|(with_reducible refine Kd.C_alloc ?_ _)|(with_reducible refine Kd.C_drewN ?_ _)|(with_reducible refine Kd.C_drew ?_)));(case side2=>exact (zR HO219.out).2.1);rintro e w' ⟨rfl, ⟨nd, rfl⟩⟩;(try first|exact ⟨rfl, _, zW _ _ _⟩|exact ⟨rfl, _, Eq.trans (zW _ _ _) (congrArg (World.drewN _) (Nat.add_assoc _ _ _))⟩)))
       repeat (go_quiet (first|(go_at_call 14;(with_reducible refine (wringerlaw1_Err.calls t213 t220 _ A16.out).mono ?_);rintro e w' ⟨rfl, ⟨nd, rfl⟩⟩;(try first|exact ⟨rfl, _, zW _ _ _⟩|exact ⟨rfl, _, Eq.trans (zW _ _ _) (congrArg (World.drewN _) (Nat.add_assoc _ _ _))⟩))|(go_at_call 14;(with_reducible refine (wringerlaw1_Err.calls t217 t221 _ A17.out).mono ?_);rintro e w' ⟨rfl, ⟨nd, rfl⟩⟩;(try first|exact ⟨rfl, _, zW _ _ _⟩|exact ⟨rfl, _, Eq.trans (zW _ _ _) (congrArg (World.drewN _) (Nat.add_assoc _ _ _))⟩);obtain ⟨Ao24, co24, eo24⟩:=Kd.R_slice HO215.out;subst eo24;obtain ⟨Ao25, co25, eo25⟩:=Kd.R_slice HO219.out;subst eo25)|(go_at_call 18;(with_reducible refine (wringerref7_MayLens.calls k _ _ t212 true _ ?side1 ?side2 A21.out).mono ?_);(case side1=>repeat (first|exact (zR HO215.out).2.2|(with_reducible refine Kd.C_alloc ?_ _)|(with_reducible refine Kd.C_drewN ?_ _)|(with_reducible refine Kd.C_drew ?_)));(case side2=>exact (zR HO215.out).2.1);rintro e w' ⟨rfl, ⟨nd, rfl⟩⟩;(try first|exact ⟨rfl, _, zW _ _ _⟩|exact ⟨rfl, _, Eq.trans (zW _ _ _) (congrArg (World.drewN _) (Nat.add_assoc _ _ _))⟩))|(go_at_call 18;(with_reducible refine (wringerref7_MayLens.calls k _ _ t216 t223 _ ?side1 ?side2 A23.out).mono ?_);(case side1=>repeat (first|exact (zR HO219.out).2.2|(with_reducible refine Kd.C_alloc ?_ _)|(with_reducible refine Kd.C_drewN ?_ _)|(with_reducible refine Kd.C_drew ?_)));(case side2=>exact (zR HO219.out).2.1);rintro e w' ⟨rfl, ⟨nd, rfl⟩⟩;(try first|exact ⟨rfl, _, zW _ _ _⟩|exact ⟨rfl, _, Eq.trans (zW _ _ _) (congrArg (World.drewN _) (Nat.add_assoc _ _ _))⟩)));try go_wp2_with (first|(go_at_call 14;(with_reducible refine (wringerlaw1_Err.calls t213 t220 _ A16.out).mono ?_);rintro e w' ⟨rfl, ⟨nd, rfl⟩⟩;(try first|exact ⟨rfl, _, zW _ _ _⟩|exact ⟨rfl, _, Eq.trans (zW _ _ _) (congrArg (World.drewN _) (Nat.add_assoc _ _ _))⟩))|(go_at_call 14;(with_reducible refine (wringerlaw1_Err.calls t217 t221 _ A17.out).mono ?_);rintro e w' ⟨rfl, ⟨nd, rfl⟩⟩;(try first|exact ⟨rfl, _, zW _ _ _⟩|exact ⟨rfl, _, Eq.trans (zW _ _ _) (congrArg (World.drewN _) (Nat.add_assoc _ _ _))⟩);obtain ⟨Ao24, co24, eo24⟩:=Kd.R_slice HO215.out;subst eo24;obtain ⟨Ao25, co25, eo25⟩:=Kd.R_slice HO219.out;subst eo25)|(go_at_call 18;(with_reducible refine (wringerref7_MayLens.calls k _ _ t212 true _ ?side1 ?side2 A21.out).mono ?_);(case side1=>repeat (first|exact (zR HO215.out).2.2|(with_reducible refine Kd.C_alloc ?_ _)|(with_reducible refine Kd.C_drewN ?_ _)|(with_reducible refine Kd.C_drew ?_)));(case side2=>exact (zR HO215.out).2.1);rintro e w' ⟨rfl, ⟨nd, rfl⟩⟩;(try first|exact ⟨rfl, _, zW _ _ _⟩|exact ⟨rfl, _, Eq.trans (zW _ _ _) (congrArg (World.drewN _) (Nat.add_assoc _ _ _))⟩))|(go_at_call 18;(with_reducible refine (wringerref7_MayLens.calls k _ _ t216 t223 _ ?side1 ?side2 A23.out).mono ?_);(case side1=>repeat (first|exact (zR HO219.out).2.2|(with_reducible refine Kd.C_alloc ?_ _)|(with_reducible refine Kd.C_drewN ?_ _)|(with_reducible refine Kd.C_drew ?_)));(case side2=>exact (zR HO219.out).2.1);rintro e w' ⟨rfl, ⟨nd, rfl⟩⟩;(try first|exact ⟨rfl, _, zW _ _ _⟩|exact ⟨rfl, _, Eq.trans (zW _ _ _) (congrArg (World.drewN _) (Nat.add_assoc _ _ _))⟩))))
       go_meet
       case rel=>exact ⟨_, (!t223), (by first|rfl|(simp;done)|(simp [*];done)), H', ⟨by first|omega|exact Nat.le_refl _⟩, ⟨by (with_reducible repeat (first|apply zA|apply zN|apply Kd.R_drew));exact Kd.R_mono HO211.out (fun _ hk=>⟨hk.1.2, hk.2⟩)⟩, ⟨by (with_reducible repeat (first|apply zA|apply zN|apply Kd.R_drew));exact Kd.R_mono HO215.out (fun _ hk=>⟨hk.1.2, hk.2⟩)⟩, ⟨by (with_reducible repeat (first|apply zA|apply zN|apply Kd.R_drew));exact Kd.R_mono HO219.out (fun _ hk=>⟨hk.1.2, hk.2⟩)⟩, ⟨by repeat (first|(with_reducible first|exact HB.out|apply zB|apply zC|apply zE)|exact HB.out)⟩⟩
      ·replace c22:=Bool.eq_false_iff.mpr c22
       subst c22
       have H1 : (wringerlaw8_MergeLeast.j0 k a2 a3 t209 (wrap64 (7 + (Int.tmod (wrap64 (a1)) 8))) t212 t216 true) = some r:=by rw [if_neg (show ¬ (false = true) by decide)] at H;exact H
       clear H
       have H:=H1
       clear H1
       have H':=zM H
       clear H
       go_wp2_with (first|(go_at_call 14;(with_reducible refine (wringerlaw1_Err.calls t213 t220 _ A16.out).mono ?_);rintro e w' ⟨rfl, ⟨nd, rfl⟩⟩;(try first|exact ⟨rfl, _, zW _ _ _⟩|exact ⟨rfl, _, Eq.trans (zW _ _ _) (congrArg (World.drewN _) (Nat.add_assoc _ _ _))⟩))|(go_at_call 14;(with_reducible refine (wringerlaw1_Err.calls t217 t221 _ A17.out).mono ?_);rintro e w' ⟨rfl, ⟨nd, rfl⟩⟩;(try first|exact ⟨rfl, _, zW _ _ _⟩|exact ⟨rfl, _, Eq.trans (zW _ _ _) (congrArg (World.drewN _) (Nat.add_assoc _ _ _))⟩);obtain ⟨Ao26, co26, eo26⟩:=Kd.R_slice HO215.out;subst eo26;obtain ⟨Ao27, co27, eo27⟩:=Kd.R_slice HO219.out;subst eo27)|(go_at_call 18;(with_reducible refine (wringerref7_MayLens.calls k _ _ t212 false _ ?side1 ?side2 A21.out).mono ?_);(case side1=>repeat (first|exact (zR HO215.out).2.2|(with_reducible refine Kd.C_alloc ?_ _)|(with_reducible refine Kd.C_drewN ?_ _)|(with_reducible refine Kd.C_drew ?_)));(case side2=>exact (zR HO215.out).2.1);rintro e w' ⟨rfl, ⟨nd, rfl⟩⟩;(try first|exact ⟨rfl, _, zW _ _ _⟩|exact ⟨rfl, _, Eq.trans (zW _ _ _) (congrArg (World.drewN _) (Nat.add_assoc _ _ _))⟩)))
       repeat (go_quiet (first|(go_at_call 14;(with_reducible refine (wringerlaw1_Err.calls t213 t220 _ A16.out).mono ?_);rintro e w' ⟨rfl, ⟨nd, rfl⟩⟩;(try first|exact ⟨rfl, _, zW _ _ _⟩|exact ⟨rfl, _, Eq.trans (zW _ _ _) (congrArg (World.drewN _) (Nat.add_assoc _ _ _))⟩))|(go_at_call 14;(with_reducible refine (wringerlaw1_Err.calls t217 t221 _ A17.out).mono ?_);rintro e w' ⟨rfl, ⟨nd, rfl⟩⟩;(try first|exact ⟨rfl, _, zW _ _ _⟩|exact ⟨rfl, _, Eq.trans (zW _ _ _) (congrArg (World.drewN _) (Nat.add_assoc _ _ _))⟩);obtain ⟨Ao26, co26, eo26⟩:=Kd.R_slice HO215.out;subst eo26;obtain ⟨Ao27, co27, eo27⟩:=Kd.R_slice HO219.out;subst eo27)|(go_at_call 18;(with_reducible refine (wringerref7_MayLens.calls k _ _ t212 false _ ?side1 ?side2 A21.out).mono ?_);(case side1=>repeat (first|exact (zR HO215.out).2.2|(with_reducible refine Kd.C_alloc ?_ _)|(with_reducible refine Kd.C_drewN ?_ _)|(with_reducible refine Kd.C_drew ?_)));(case side2=>exact (zR HO215.out).2.1);rintro e w' ⟨rfl, ⟨nd, rfl⟩⟩;(try first|exact ⟨rfl, _, zW _ _ _⟩|exact ⟨rfl, _, Eq.trans (zW _ _ _) (congrArg (World.drewN _) (Nat.add_assoc _ _ _))⟩)));try go_wp2_with (first|(go_at_call 14;(with_reducible refine (wringerlaw1_Err.calls t213 t220 _ A16.out).mono ?_);rintro e w' ⟨rfl, ⟨nd, rfl⟩⟩;(try first|exact ⟨rfl, _, zW _ _ _⟩|exact ⟨rfl, _, Eq.trans (zW _ _ _) (congrArg (World.drewN _) (Nat.add_assoc _ _ _))⟩))|(go_at_call 14;(with_reducible refine (wringerlaw1_Err.calls t217 t221 _ A17.out).mono ?_);rintro e w' ⟨rfl, ⟨nd, rfl⟩⟩;(try first|exact ⟨rfl, _, zW _ _ _⟩|exact ⟨rfl, _, Eq.trans (zW _ _ _) (congrArg (World.drewN _) (Nat.add_assoc _ _ _))⟩);obtain ⟨Ao26, co26, eo26⟩:=Kd.R_slice HO215.out;subst eo26;obtain ⟨Ao27, co27, eo27⟩:=Kd.R_slice HO219.out;subst eo27)|(go_at_call 18;(with_reducible refine (wringerref7_MayLens.calls k _ _ t212 false _ ?side1 ?side2 A21.out).mono ?_);(case side1=>repeat (first|exact (zR HO215.out).2.2|(with_reducible refine Kd.C_alloc ?_ _)|(with_reducible refine Kd.C_drewN ?_ _)|(with_reducible refine Kd.C_drew ?_)));(case side2=>exact (zR HO215.out).2.1);rintro e w' ⟨rfl, ⟨nd, rfl⟩⟩;(try first|exact ⟨rfl, _, zW _ _ _⟩|exact ⟨rfl, _, Eq.trans (zW _ _ _) (congrArg (World.drewN _) (Nat.add_assoc _ _ _))⟩))))
       go_meet
       case rel=>exact ⟨_, (true), (by first|rfl|(simp;done)|(simp [*];done)), H', ⟨by first|omega|exact Nat.le_refl _⟩, ⟨by (with_reducible repeat (first|apply zA|apply zN|apply Kd.R_drew));exact Kd.R_mono HO211.out (fun _ hk=>⟨hk.1.2, hk.2⟩)⟩, ⟨by (with_reducible repeat (first|apply zA|apply zN|apply Kd.R_drew));exact Kd.R_mono HO215.out (fun _ hk=>⟨hk.1.2, hk.2⟩)⟩, ⟨by (with_reducible repeat (first|apply zA|apply zN|apply Kd.R_drew));exact Kd.R_mono HO219.out (fun _ hk=>⟨hk.1.2, hk.2⟩)⟩, ⟨by repeat (first|(with_reducible first|exact HB.out|apply zB|apply zC|apply zE)|exact HB.out)⟩⟩
     ·rw [if_neg c20] at H
      have c20b0 : ((t216.length : Int) == 65) = false:=beq_eq_false_iff_ne.mpr c20
      have c20b1 : ((t216.length : Int) != 65) = true:=bne_iff_ne.mpr c20
      have H':=zM H
      clear H
      go_wp2_with (first|(go_at_call 14;(with_reducible refine (wringerlaw1_Err.calls t213 t220 _ A16.out).mono ?_);rintro e w' ⟨rfl, ⟨nd, rfl⟩⟩;(try first|exact ⟨rfl, _, zW _ _ _⟩|exact ⟨rfl, _, Eq.trans (zW _ _ _) (congrArg (World.drewN _) (Nat.add_assoc _ _ _))⟩))|(go_at_call 14;(with_reducible refine (wringerlaw1_Err.calls t217 t221 _ A17.out).mono ?_);rintro e w' ⟨rfl, ⟨nd, rfl⟩⟩;(try first|exact ⟨rfl, _, zW _ _ _⟩|exact ⟨rfl, _, Eq.trans (zW _ _ _) (congrArg (World.drewN _) (Nat.add_assoc _ _ _))⟩);obtain ⟨Ao28, co28, eo28⟩:=Kd.R_slice HO215.out;subst eo28;obtain ⟨Ao29, co29, eo29⟩:=Kd.R_slice HO219.out;subst eo29))
      repeat (go_quiet (first|(go_at_call 14;(with_reducible refine (wringerlaw1_Err.calls t213 t220 _ A16.out).mono ?_);rintro e w' ⟨rfl, ⟨nd, rfl⟩⟩;(try first|exact ⟨rfl, _, zW _ _ _⟩|exact ⟨rfl, _, Eq.trans (zW _ _ _) (congrArg (World.drewN _) (Nat.add_assoc _ _ _))⟩))|(go_at_call 14;(with_reducible refine (wringerlaw1_Err.calls t217 t221 _ A17.out).mono ?_);rintro e w' ⟨rfl, ⟨nd, rfl⟩⟩;(try first|exact ⟨rfl, _, zW _ _ _⟩|exact ⟨rfl, _, Eq.trans (zW _ _ _) (congrArg (World.drewN _) (Nat.add_assoc _ _ _))⟩);obtain ⟨Ao28, co28, eo28⟩:=Kd.R_slice HO215.out;subst eo28;obtain ⟨Ao29, co29, eo29⟩:=Kd.R_slice HO219.out;subst eo29));try go_wp2_with (first|(go_at_call 14;(with_reducible refine (wringerlaw1_Err.calls t213 t220 _ A16.out).mono ?_);rintro e w' ⟨rfl, ⟨nd, rfl⟩⟩;(try first|exact ⟨rfl, _, zW _ _ _⟩|exact ⟨rfl, _, Eq.trans (zW _ _ _) (congrArg (World.drewN _) (Nat.add_assoc _ _ _))⟩))|(go_at_call 14;(with_reducible refine (wringerlaw1_Err.calls t217 t221 _ A17.out).mono ?_);rintro e w' ⟨rfl, ⟨nd, rfl⟩⟩;(try first|exact ⟨rfl, _, zW _ _ _⟩|exact ⟨rfl, _, Eq.trans (zW _ _ _) (congrArg (World.drewN _) (Nat.add_assoc _ _ _))⟩);obtain ⟨Ao28, co28, eo28⟩:=Kd.R_slice HO215.out;subst eo28;obtain ⟨Ao29, co29, eo29⟩:=Kd.R_slice HO219.out;subst eo29)))
      go_meet
      case rel=>exact ⟨_, (true), (by first|rfl|(simp;done)|(simp [*];done)), H', ⟨by first|omega|exact Nat.le_refl _⟩, ⟨by (with_reducible repeat (first|apply zA|apply zN|apply Kd.R_drew));exact Kd.R_mono HO211.out (fun _ hk=>⟨hk.1.2, hk.2⟩)⟩, ⟨by (with_reducible repeat (first|apply zA|apply zN|apply Kd.R_drew));exact Kd.R_mono HO215.out (fun _ hk=>⟨hk.1.2, hk.2⟩)⟩, ⟨by (with_reducible repeat (first|apply zA|apply zN|apply Kd.R_drew));exact Kd.R_mono HO219.out (fun _ hk=>⟨hk.1.2, hk.2⟩)⟩, ⟨by repeat (first|(with_reducible first|exact HB.out|apply zB|apply zC|apply zE)|exact HB.out)⟩⟩
    ·rw [if_neg c19] at H
     have c19b0 : ((t212.length : Int) == 65) = false:=beq_eq_false_iff_ne.mpr c19
     have c19b1 : ((t212.length : Int) != 65) = true:=bne_iff_ne.mpr c19
     have H':=zM H
     clear H
     go_wp2_with (first|(go_at_call 14;(with_reducible refine (wringerlaw1_Err.calls t213 t220 _ A16.out).mono ?_);rintro e w' ⟨rfl, ⟨nd, rfl⟩⟩;(try first|exact ⟨rfl, _, zW _ _ _⟩|exact ⟨rfl, _, Eq.trans (zW _ _ _) (congrArg (World.drewN _) (Nat.add_assoc _ _ _))⟩))|(go_at_call 14;(with_reducible refine (wringerlaw1_Err.calls t217 t221 _ A17.out).mono ?_);rintro e w' ⟨rfl, ⟨nd, rfl⟩⟩;(try first|exact ⟨rfl, _, zW _ _ _⟩|exact ⟨rfl, _, Eq.trans (zW _ _ _) (congrArg (World.drewN _) (Nat.add_assoc _ _ _))⟩);obtain ⟨Ao30, co30, eo30⟩:=Kd.R_slice HO215.out;subst eo30))
     repeat (go_quiet (first|(go_at_call 14;(with_reducible refine (wringerlaw1_Err.calls t213 t220 _ A16.out).mono ?_);rintro e w' ⟨rfl, ⟨nd, rfl⟩⟩;(try first|exact ⟨rfl, _, zW _ _ _⟩|exact ⟨rfl, _, Eq.trans (zW _ _ _) (congrArg (World.drewN _) (Nat.add_assoc _ _ _))⟩))|(go_at_call 14;(with_reducible refine (wringerlaw1_Err.calls t217 t221 _ A17.out).mono ?_);rintro e w' ⟨rfl, ⟨nd, rfl⟩⟩;(try first|exact ⟨rfl, _, zW _ _ _⟩|exact ⟨rfl, _, Eq.trans (zW _ _ _) (congrArg (World.drewN _) (Nat.add_assoc _ _ _))⟩);obtain ⟨Ao30, co30, eo30⟩:=Kd.R_slice HO215.out;subst eo30));try go_wp2_with (first|(go_at_call 14;(with_reducible refine (wringerlaw1_Err.calls t213 t220 _ A16.out).mono ?_);rintro e w' ⟨rfl, ⟨nd, rfl⟩⟩;(try first|exact ⟨rfl, _, zW _ _ _⟩|exact ⟨rfl, _, Eq.trans (zW _ _ _) (congrArg (World.drewN _) (Nat.add_assoc _ _ _))⟩))|(go_at_call 14;(with_reducible refine (wringerlaw1_Err.calls t217 t221 _ A17.out).mono ?_);rintro e w' ⟨rfl, ⟨nd, rfl⟩⟩;(try first|exact ⟨rfl, _, zW _ _ _⟩|exact ⟨rfl, _, Eq.trans (zW _ _ _) (congrArg (World.drewN _) (Nat.add_assoc _ _ _))⟩);obtain ⟨Ao30, co30, eo30⟩:=Kd.R_slice HO215.out;subst eo30)))
     go_meet
     case rel=>exact ⟨_, (true), (by first|rfl|(simp;done)|(simp [*];done)), H', ⟨by first|omega|exact Nat.le_refl _⟩, ⟨by (with_reducible repeat (first|apply zA|apply zN|apply Kd.R_drew));exact Kd.R_mono HO211.out (fun _ hk=>⟨hk.1.2, hk.2⟩)⟩, ⟨by (with_reducible repeat (first|apply zA|apply zN|apply Kd.R_drew));exact Kd.R_mono HO215.out (fun _ hk=>⟨hk.1.2, hk.2⟩)⟩, ⟨by (with_reducible repeat (first|apply zA|apply zN|apply Kd.R_drew));exact Kd.R_mono HO219.out (fun _ hk=>⟨hk.1.2, hk.2⟩)⟩, ⟨by repeat (first|(with_reducible first|exact HB.out|apply zB|apply zC|apply zE)|exact HB.out)⟩⟩
   ·rw [if_neg c18] at H
    have c18b0 : ((wrap64 (t220 + t221)) == 0) = false:=beq_eq_false_iff_ne.mpr c18
    have c18b1 : ((wrap64 (t220 + t221)) != 0) = true:=bne_iff_ne.mpr c18
    (first|rw [c18b0]|(simp only [i64_w, i32_w];rw [c18b0])|skip)
    have H':=zM H
    clear H
    go_wp2_with (first|(go_at_call 14;(with_reducible refine (wringerlaw1_Err.calls t213 t220 _ A16.out).mono ?_);rintro e w' ⟨rfl, ⟨nd, rfl⟩⟩;(try first|exact ⟨rfl, _, zW _ _ _⟩|exact ⟨rfl, _, Eq.trans (zW _ _ _) (congrArg (World.drewN _) (Nat.add_assoc _ _ _))⟩))|(go_at_call 14;(with_reducible refine (wringerlaw1_Err.calls t217 t221 _ A17.out).mono ?_);rintro e w' ⟨rfl, ⟨nd, rfl⟩⟩;(try first|exact ⟨rfl, _, zW _ _ _⟩|exact ⟨rfl, _, Eq.trans (zW _ _ _) (congrArg (World.drewN _) (Nat.add_assoc _ _ _))⟩)))
    repeat (go_quiet (first|(go_at_call 14;(with_reducible refine (wringerlaw1_Err.calls t213 t220 _ A16.out).mono ?_);rintro e w' ⟨rfl, ⟨nd, rfl⟩⟩;(try first|exact ⟨rfl, _, zW _ _ _⟩|exact ⟨rfl, _, Eq.trans (zW _ _ _) (congrArg (World.drewN _) (Nat.add_assoc _ _ _))⟩))|(go_at_call 14;(with_reducible refine (wringerlaw1_Err.calls t217 t221 _ A17.out).mono ?_);rintro e w' ⟨rfl, ⟨nd, rfl⟩⟩;(try first|exact ⟨rfl, _, zW _ _ _⟩|exact ⟨rfl, _, Eq.trans (zW _ _ _) (congrArg (World.drewN _) (Nat.add_assoc _ _ _))⟩)));try go_wp2_with (first|(go_at_call 14;(with_reducible refine (wringerlaw1_Err.calls t213 t220 _ A16.out).mono ?_);rintro e w' ⟨rfl, ⟨nd, rfl⟩⟩;(try first|exact ⟨rfl, _, zW _ _ _⟩|exact ⟨rfl, _, Eq.trans (zW _ _ _) (congrArg (World.drewN _) (Nat.add_assoc _ _ _))⟩))|(go_at_call 14;(with_reducible refine (wringerlaw1_Err.calls t217 t221 _ A17.out).mono ?_);rintro e w' ⟨rfl, ⟨nd, rfl⟩⟩;(try first|exact ⟨rfl, _, zW _ _ _⟩|exact ⟨rfl, _, Eq.trans (zW _ _ _) (congrArg (World.drewN _) (Nat.add_assoc _ _ _))⟩))))
    go_meet
    case rel=>exact ⟨_, (true), (by first|rfl|(simp;done)|(simp [*];done)), H', ⟨by first|omega|exact Nat.le_refl _⟩, ⟨by (with_reducible repeat (first|apply zA|apply zN|apply Kd.R_drew));exact Kd.R_mono HO211.out (fun _ hk=>⟨hk.1.2, hk.2⟩)⟩, ⟨by (with_reducible repeat (first|apply zA|apply zN|apply Kd.R_drew));exact Kd.R_mono HO215.out (fun _ hk=>⟨hk.1.2, hk.2⟩)⟩, ⟨by (with_reducible repeat (first|apply zA|apply zN|apply Kd.R_drew));exact Kd.R_mono HO219.out (fun _ hk=>⟨hk.1.2, hk.2⟩)⟩, ⟨by repeat (first|(with_reducible first|exact HB.out|apply zB|apply zC|apply zE)|exact HB.out)⟩⟩
  case rest =>
   clear HC11
   try clear c1
   try clear c2
   try clear p2
   try clear c5
   try clear c5b0
   try clear c5b1
   try clear p6
   try clear c18
   try clear c18b0
   try clear c18b1
   try clear c19
   try clear c19b0
   try clear c19b1
   try clear c20
   try clear c20b0
   try clear c20b1
   try clear c22
   obtain ⟨kq, x68_10, rfl, HA, HJ10, HO_9, HO_11, HO_13, HB⟩:=hcut
   cases kq with
  |zero=>exact absurd HA.out (by simp [wringerlaw8_MergeLeast.j0])
  |succ kj10 =>
    have H:=HA.out
    clear HA
    simp only [wringerlaw8_MergeLeast.j0] at H
    by_cases c31 : x68_10 = true
    ·subst c31
     have H1 : (some false) = some r:=by rw [if_pos rfl] at H;exact H
     clear H
     have H:=H1
     clear H1
     exact absurd ((Option.some.inj H).trans HR1.out) (by decide)
    ·replace c31:=Bool.eq_false_iff.mpr c31
     subst c31
     have H1 : (wringerlaw8_MergeLeast.l0 kj10 a2 a3 t209 (wrap64 (7 + (Int.tmod (wrap64 (a1)) 8))) t212 t216 0) = some r:=by rw [if_neg (show ¬ (false = true) by decide)] at H;exact H
     clear H
     have H:=H1
     clear H1
     have H':=zM H
     clear H
     go_wp2
     repeat (go_quiet (fail);try go_wp2)
     go_loopg [15] kj10 (fun kq v15 w'=>∃ (x15_2 : Int), v15 = .int .i64 x15_2∧Aside0 (wringerlaw8_MergeLeast.l0 kq a2 a3 t209 (wrap64 (7 + (Int.tmod (wrap64 (a1)) 8))) t212 t216 x15_2 = some r)∧Aside0 (kq ≤ kj10)∧Aside0 (Kd.R (Kd.int .i64) 3 w' w.heap.size (fun k_=>some k_≠(v214 : Value).ownBlock∧some k_≠(v218 : Value).ownBlock) (.slice Ao13 t209.length co13) t209)∧Aside0 (Kd.R (Kd.int .i64) 3 w' w.heap.size (fun k_=>some k_≠((.slice Ao13 t209.length co13) : Value).ownBlock∧some k_≠(v218 : Value).ownBlock) v214 t212)∧Aside0 (Kd.R (Kd.int .i64) 3 w' w.heap.size (fun k_=>some k_≠((.slice Ao13 t209.length co13) : Value).ownBlock∧some k_≠(v214 : Value).ownBlock) v218 t216)∧Aside0 (Below w.heap.size w w'))
     case atStart=>exact ⟨(0), (by first|rfl|(simp;done)|(simp [*];done)), H', ⟨Nat.le_refl _⟩, ⟨by (with_reducible repeat (first|apply zA|apply zN|apply Kd.R_drew));exact HO_9.out⟩, ⟨by (with_reducible repeat (first|apply zA|apply zN|apply Kd.R_drew));exact HO_11.out⟩, ⟨by (with_reducible repeat (first|apply zA|apply zN|apply Kd.R_drew));exact HO_13.out⟩, ⟨by repeat (first|(with_reducible first|exact HB.out|apply zB|apply zC|apply zE)|exact HB.out)⟩⟩
     case round =>
      clear H'
      try clear c1
      try clear c2
      try clear p2
      try clear c3
      try clear c5
      try clear c5b0
      try clear c5b1
      try clear p6
      try clear c18
      try clear c18b0
      try clear c18b1
      try clear c19
      try clear c19b0
      try clear c19b1
      try clear c20
      try clear c20b0
      try clear c20b1
      try clear c22
      try clear c31
      try clear p2
      try clear p6
      obtain ⟨x15_2, rfl, HA, HK2, HO_9, HO_11, HO_13, HB⟩:=hrel
      cases gk with
     |zero=>exact absurd HA.out (by simp [wringerlaw8_MergeLeast.l0])
     |succ k2 =>
       have H:=HA.out
       clear HA
       simp only [wringerlaw8_MergeLeast.l0] at H
       by_cases c32 : x15_2 < 65
       ·rw [if_pos c32] at H
        have c32b0 : decide (x15_2 < 65) = true:=decide_eq_true c32
        clear c32
        have HC33:=zM H
        clear H
        go_upto_region 12 with (fail)
        repeat (go_quiet (fail);go_upto_region 12 with (fail))
        go_cut [100] (fun v100 wc=>∃ (kq : Nat) (x100_32 : Bool), v100 = .bool x100_32∧Aside0 (wringerlaw8_MergeLeast.j2 kq a2 a3 t209 (wrap64 (7 + (Int.tmod (wrap64 (a1)) 8))) t212 t216 x15_2 x100_32 = some r)∧Aside0 (kq ≤ k2)∧Aside0 (Kd.R (Kd.int .i64) 3 wc w.heap.size (fun k_=>some k_≠(v214 : Value).ownBlock∧some k_≠(v218 : Value).ownBlock) (.slice Ao13 t209.length co13) t209)∧Aside0 (Kd.R (Kd.int .i64) 3 wc w.heap.size (fun k_=>some k_≠((.slice Ao13 t209.length co13) : Value).ownBlock∧some k_≠(v218 : Value).ownBlock) v214 t212)∧Aside0 (Kd.R (Kd.int .i64) 3 wc w.heap.size (fun k_=>some k_≠((.slice Ao13 t209.length co13) : Value).ownBlock∧some k_≠(v214 : Value).ownBlock) v218 t216)∧Aside0 (Below w.heap.size w wc))
        case first =>
         have H:=HC33.out
         clear HC33
         by_cases c34 : 0 ≤ x15_2
         ·rw [if_pos c34] at H
          have c34b0 : decide (0 ≤ x15_2) = true:=decide_eq_true c34
          clear c34
          (first|rw [c34b0]|(simp only [i64_w, i32_w];rw [c34b0])|skip)
          by_cases c35 : x15_2 < (t212.length : Int)
          ·rw [if_pos c35] at H
           have c35b0 : decide (x15_2 < (t212.length : Int)) = true:=decide_eq_true c35
           clear c35
           by_cases c36 : (rd t212 x15_2) > (wrap64 (7 + (Int.tmod (wrap64 (a1)) 8)))
           ·rw [if_pos c36] at H
            have c36b0 : decide ((wrap64 (7 + (Int.tmod (wrap64 (a1)) 8))) < (rd t212 x15_2)) = true:=decide_eq_true c36
            clear c36
            have H':=zM H
            clear H
            obtain ⟨Ao37, co37, eo37⟩:=Kd.R_slice HO_11.out
            subst eo37
            have p224 : 0 ≤ (x15_2 : Int):=zO (by first|(with_reducible assumption)|assumption)
            have q224 : x15_2 < (t212.length : Int):=zO (by first|(with_reducible assumption)|assumption)
            obtain ⟨ad224, e224, hx224_0⟩:=Kd.at_int (zR HO_11.out).2.2 x15_2 p224 q224
            cases e224
            replace p224:=eq_true p224
            replace q224:=eq_true q224
            go_wp2
            repeat (go_quiet (fail);try go_wp2)
            go_meet
            case rel=>exact ⟨_, (true), (by first|rfl|(simp;done)|(simp [*];done)), H', ⟨by have:=HJ10.out;have:=HK2.out;first|omega|exact Nat.le_refl _⟩, ⟨by (with_reducible repeat (first|apply zA|apply zN|apply Kd.R_drew));exact HO_9.out⟩, ⟨by (with_reducible repeat (first|apply zA|apply zN|apply Kd.R_drew));exact HO_11.out⟩, ⟨by (with_reducible repeat (first|apply zA|apply zN|apply Kd.R_drew));exact HO_13.out⟩, ⟨by repeat (first|(with_reducible first|exact HB.out|apply zB|apply zC|apply zE)|exact HB.out)⟩⟩
           ·rw [if_neg c36] at H
            have c36b0 : decide ((wrap64 (7 + (Int.tmod (wrap64 (a1)) 8))) < (rd t212 x15_2)) = false:=decide_eq_false c36
            clear c36
            by_cases c38 : x15_2 < (t216.length : Int)
            ·rw [if_pos c38] at H
             have c38b0 : decide (x15_2 < (t216.length : Int)) = true:=decide_eq_true c38
             clear c38
             by_cases c39 : (rd t216 x15_2) > (wrap64 ((wrap64 (7 + (Int.tmod (wrap64 (a1)) 8))) + 1))
             ·rw [if_pos c39] at H
              have c39b0 : decide ((wrap64 ((wrap64 (7 + (Int.tmod (wrap64 (a1)) 8))) + 1)) < (rd t216 x15_2)) = true:=decide_eq_true c39
              clear c39
              have H':=zM H
              clear H
              obtain ⟨Ao40, co40, eo40⟩:=Kd.R_slice HO_11.out
              subst eo40
              have p224 : 0 ≤ (x15_2 : Int):=zO (by first|(with_reducible assumption)|assumption)
              have q224 : x15_2 < (t212.length : Int):=zO (by first|(with_reducible assumption)|assumption)
              obtain ⟨ad224, e224, hx224_0⟩:=Kd.at_int (zR HO_11.out).2.2 x15_2 p224 q224
              cases e224
              replace p224:=eq_true p224
              replace q224:=eq_true q224
              obtain ⟨Ao41, co41, eo41⟩:=Kd.R_slice HO_13.out
              subst eo41
              have p225 : 0 ≤ (x15_2 : Int):=zO (by first|(with_reducible assumption)|assumption)
              have q225 : x15_2 < (t216.length : Int):=zO (by first|(with_reducible assumption)|assumption)
              obtain ⟨ad225, e225, hx225_0⟩:=Kd.at_int (zR HO_13.out).2.2 x15_2 p225 q225
              cases e225
              replace p225:=eq_true p225
              replace q225:=eq_true q225
              go_wp2
              repeat (go_quiet (fail);try go_wp2)
              go_meet
              case rel=>exact ⟨_, (true), (by first|rfl|(simp;done)|(simp [*];done)), H', ⟨by have:=HJ10.out;have:=HK2.out;first|omega|exact Nat.le_refl _⟩, ⟨by (with_reducible repeat (first|apply zA|apply zN|apply Kd.R_drew));exact HO_9.out⟩, ⟨by (with_reducible repeat (first|apply zA|apply zN|apply Kd.R_drew));exact HO_11.out⟩, ⟨by (with_reducible repeat (first|apply zA|apply zN|apply Kd.R_drew));exact HO_13.out⟩, ⟨by repeat (first|(with_reducible first|exact HB.out|apply zB|apply zC|apply zE)|exact HB.out)⟩⟩
             ·rw [if_neg c39] at H
              have c39b0 : decide ((wrap64 ((wrap64 (7 + (Int.tmod (wrap64 (a1)) 8))) + 1)) < (rd t216 x15_2)) = false:=decide_eq_false c39
              clear c39
              by_cases c42 : x15_2 < (t209.length : Int)
              ·rw [if_pos c42] at H
               have c42b0 : decide (x15_2 < (t209.length : Int)) = true:=decide_eq_true c42
               clear c42
               have H':=zM H
               clear H
               obtain ⟨Ao43, co43, eo43⟩:=Kd.R_slice HO_11.out
               subst eo43
               have p224 : 0 ≤ (x15_2 : Int):=zO (by first|(with_reducible assumption)|assumption)
               have q224 : x15_2 < (t212.length : Int):=zO (by first|(with_reducible assumption)|assumption)
               obtain ⟨ad224, e224, hx224_0⟩:=Kd.at_int (zR HO_11.out).2.2 x15_2 p224 q224
               cases e224
               replace p224:=eq_true p224
               replace q224:=eq_true q224
               obtain ⟨Ao44, co44, eo44⟩:=Kd.R_slice HO_13.out
               subst eo44
               have p225 : 0 ≤ (x15_2 : Int):=zO (by first|(with_reducible assumption)|assumption)
               have q225 : x15_2 < (t216.length : Int):=zO (by first|(with_reducible assumption)|assumption)
               obtain ⟨ad225, e225, hx225_0⟩:=Kd.at_int (zR HO_13.out).2.2 x15_2 p225 q225
               cases e225
               replace p225:=eq_true p225
               replace q225:=eq_true q225
               have p226 : 0 ≤ (x15_2 : Int):=zO (by first|(with_reducible assumption)|assumption)
               have q226 : x15_2 < (t212.length : Int):=zO (by first|(with_reducible assumption)|assumption)
               obtain ⟨ad226, e226, hx226_0⟩:=Kd.at_int (zR HO_11.out).2.2 x15_2 p226 q226
               obtain rfl : ad224 = ad226:=(by injection e226)
               replace p226:=eq_true p226
               replace q226:=eq_true q226
               have p227 : 0 ≤ (x15_2 : Int):=zO (by first|(with_reducible assumption)|assumption)
               have q227 : x15_2 < (t209.length : Int):=zO (by first|(with_reducible assumption)|assumption)
               obtain ⟨ad227, e227, hx227_0⟩:=Kd.at_int (zR HO_9.out).2.2 x15_2 p227 q227
               cases e227
               replace p227:=eq_true p227
               replace q227:=eq_true q227
               go_wp2
               repeat (go_quiet (fail);try go_wp2)
               go_meet
               case rel=>exact ⟨_, (((decide ((rd t212 x15_2) > 0)) != (decide ((rd t209 x15_2) > 0)))), (by first|rfl|(simp;done)|(simp [*];done)), H', ⟨by have:=HJ10.out;have:=HK2.out;first|omega|exact Nat.le_refl _⟩, ⟨by (with_reducible repeat (first|apply zA|apply zN|apply Kd.R_drew));exact HO_9.out⟩, ⟨by (with_reducible repeat (first|apply zA|apply zN|apply Kd.R_drew));exact HO_11.out⟩, ⟨by (with_reducible repeat (first|apply zA|apply zN|apply Kd.R_drew));exact HO_13.out⟩, ⟨by repeat (first|(with_reducible first|exact HB.out|apply zB|apply zC|apply zE)|exact HB.out)⟩⟩
              ·rw [if_neg c42] at H
               exact absurd H (by simp)
            ·rw [if_neg c38] at H
             exact absurd H (by simp)
          ·rw [if_neg c35] at H
           exact absurd H (by simp)
         ·rw [if_neg c34] at H
          exact absurd H (by simp)
        case rest =>
         clear HC33
         try clear c1
         try clear c2
         try clear p2
         try clear q2
         try clear hx2
         try clear c3
         try clear c4
         try clear c5
         try clear c5b0
         try clear c5b1
         try clear p6
         try clear c18
         try clear c18b0
         try clear c18b1
         try clear c19
         try clear c19b0
         try clear c19b1
         try clear c20
         try clear c20b0
         try clear c20b1
         try clear c22
         try clear p22
         try clear q22
         try clear hx22
         try clear c31
         try clear c32
         try clear c32b0
         try clear c34
         try clear c34b0
         try clear c35
         try clear c35b0
         try clear c36
         try clear c36b0
         try clear c38
         try clear c38b0
         try clear c39
         try clear c39b0
         try clear c42
         try clear c42b0
         try clear hx224_0
         try clear hx225_0
         try clear hx226_0
         try clear hx227_0
         try clear p2
         try clear p224
         try clear p225
         try clear p226
         try clear p227
         try clear p6
         try clear q224
         try clear q225
         try clear q226
         try clear q227
         obtain ⟨kq, x100_32, rfl, HA, HJ32, HO_9, HO_11, HO_13, HB⟩:=hcut
         cases kq with
        |zero=>exact absurd HA.out (by simp [wringerlaw8_MergeLeast.j2])
        |succ kj32 =>
          have H:=HA.out
          clear HA
          simp only [wringerlaw8_MergeLeast.j2] at H
          by_cases c45 : x100_32 = true
          ·subst c45
           have H1 : (some false) = some r:=by rw [if_pos rfl] at H;exact H
           clear H
           have H:=H1
           clear H1
           exact absurd ((Option.some.inj H).trans HR1.out) (by decide)
          ·replace c45:=Bool.eq_false_iff.mpr c45
           subst c45
           have H1 : (wringerlaw8_MergeLeast.l1 kj32 a2 a3 t209 (wrap64 (7 + (Int.tmod (wrap64 (a1)) 8))) t212 t216 x15_2 0) = some r:=by rw [if_neg (show ¬ (false = true) by decide)] at H;exact H
           clear H
           have H:=H1
           clear H1
           have H':=zM H
           clear H
           go_wp2
           repeat (go_quiet (fail);try go_wp2)
           go_loopg [16] kj32 (fun kq v16 w'=>∃ (x16_4 : Int), v16 = .int .i64 x16_4∧Aside0 (wringerlaw8_MergeLeast.l1 kq a2 a3 t209 (wrap64 (7 + (Int.tmod (wrap64 (a1)) 8))) t212 t216 x15_2 x16_4 = some r)∧Aside0 (kq ≤ kj32)∧Aside0 (Kd.R (Kd.int .i64) 3 w' w.heap.size (fun k_=>some k_≠(v214 : Value).ownBlock∧some k_≠(v218 : Value).ownBlock) (.slice Ao13 t209.length co13) t209)∧Aside0 (Kd.R (Kd.int .i64) 3 w' w.heap.size (fun k_=>some k_≠((.slice Ao13 t209.length co13) : Value).ownBlock∧some k_≠(v218 : Value).ownBlock) v214 t212)∧Aside0 (Kd.R (Kd.int .i64) 3 w' w.heap.size (fun k_=>some k_≠((.slice Ao13 t209.length co13) : Value).ownBlock∧some k_≠(v214 : Value).ownBlock) v218 t216)∧Aside0 (Below w.heap.size w w'))
           case atStart=>exact ⟨(0), (by first|rfl|(simp;done)|(simp [*];done)), H', ⟨Nat.le_refl _⟩, ⟨by (with_reducible repeat (first|apply zA|apply zN|apply Kd.R_drew));exact HO_9.out⟩, ⟨by (with_reducible repeat (first|apply zA|apply zN|apply Kd.R_drew));exact HO_11.out⟩, ⟨by (with_reducible repeat (first|apply zA|apply zN|apply Kd.R_drew));exact HO_13.out⟩, ⟨by repeat (first|(with_reducible first|exact HB.out|apply zB|apply zC|apply zE)|exact HB.out)⟩⟩
           case round =>
            clear H'
            try clear c1
            try clear c2
            try clear p2
            try clear q2
            try clear hx2
            try clear c3
            try clear c4
            try clear c5
            try clear c5b0
            try clear c5b1
            try clear p6
            try clear c18
            try clear c18b0
            try clear c18b1
            try clear c19
            try clear c19b0
            try clear c19b1
            try clear c20
            try clear c20b0
            try clear c20b1
            try clear c22
            try clear p22
            try clear q22
            try clear hx22
            try clear c31
            try clear c32
            try clear c32b0
            try clear c34
            try clear c34b0
            try clear c35
            try clear c35b0
            try clear c36
            try clear c36b0
            try clear c38
            try clear c38b0
            try clear c39
            try clear c39b0
            try clear c42
            try clear c42b0
            try clear c45
            try clear hx224_0
            try clear hx225_0
            try clear hx226_0
            try clear hx227_0
            try clear p2
            try clear p22
            try clear p224
            try clear p225
            try clear p226
            try clear p227
            try clear p6
            try clear q2
            try clear q22
            try clear q224
            try clear q225
            try clear q226
            try clear q227
            obtain ⟨x16_4, rfl, HA, HK4, HO_9, HO_11, HO_13, HB⟩:=hrel
            cases gk with
           |zero=>exact absurd HA.out (by simp [wringerlaw8_MergeLeast.l1])
           |succ k4 =>
             have H:=HA.out
             clear HA
             simp only [wringerlaw8_MergeLeast.l1] at H
             by_cases c46 : x16_4 < 65
             ·rw [if_pos c46] at H
              have c46b0 : decide (x16_4 < 65) = true:=decide_eq_true c46
              clear c46
              by_cases c47 : 0 ≤ x15_2
              ·rw [if_pos c47] at H
               have c47b0 : decide (0 ≤ x15_2) = true:=decide_eq_true c47
               clear c47
               by_cases c48 : x15_2 < (t209.length : Int)
               ·rw [if_pos c48] at H
                have c48b0 : decide (x15_2 < (t209.length : Int)) = true:=decide_eq_true c48
                clear c48
                by_cases c49 : 0 ≤ x16_4
                ·rw [if_pos c49] at H
                 have c49b0 : decide (0 ≤ x16_4) = true:=decide_eq_true c49
                 clear c49
                 by_cases c50 : x16_4 < (t209.length : Int)
                 ·rw [if_pos c50] at H
                  have c50b0 : decide (x16_4 < (t209.length : Int)) = true:=decide_eq_true c50
                  clear c50
                  by_cases c51 : (rd t209 x15_2) > (rd t209 x16_4)
                  ·rw [if_pos c51] at H
                   have c51b0 : decide ((rd t209 x16_4) < (rd t209 x15_2)) = true:=decide_eq_true c51
                   clear c51
                   by_cases c52 : (rd t209 x16_4) > 0
                   ·rw [if_pos c52] at H
                    have c52b0 : decide (0 < (rd t209 x16_4)) = true:=decide_eq_true c52
                    clear c52
                    by_cases c53 : x15_2 < (t212.length : Int)
                    ·rw [if_pos c53] at H
                     have c53b0 : decide (x15_2 < (t212.length : Int)) = true:=decide_eq_true c53
                     clear c53
                     by_cases c54 : x16_4 < (t212.length : Int)
                     ·rw [if_pos c54] at H
                      have c54b0 : decide (x16_4 < (t212.length : Int)) = true:=decide_eq_true c54
                      clear c54
                      by_cases c55 : (rd t212 x15_2) > (rd t212 x16_4)
                      ·rw [if_pos c55] at H
                       have c55b0 : decide ((rd t212 x16_4) < (rd t212 x15_2)) = true:=decide_eq_true c55
                       clear c55
                       exact absurd ((Option.some.inj H).trans HR1.out) (by decide)
                      ·rw [if_neg c55] at H
                       have c55b0 : decide ((rd t212 x16_4) < (rd t212 x15_2)) = false:=decide_eq_false c55
                       clear c55
                       have H':=zM H
                       clear H
                       have p228 : 0 ≤ (x15_2 : Int):=zO (by first|(with_reducible assumption)|assumption)
                       have q228 : x15_2 < (t209.length : Int):=zO (by first|(with_reducible assumption)|assumption)
                       obtain ⟨ad228, e228, hx228_0⟩:=Kd.at_int (zR HO_9.out).2.2 x15_2 p228 q228
                       cases e228
                       replace p228:=eq_true p228
                       replace q228:=eq_true q228
                       have p229 : 0 ≤ (x16_4 : Int):=zO (by first|(with_reducible assumption)|assumption)
                       have q229 : x16_4 < (t209.length : Int):=zO (by first|(with_reducible assumption)|assumption)
                       obtain ⟨ad229, e229, hx229_0⟩:=Kd.at_int (zR HO_9.out).2.2 x16_4 p229 q229
                       obtain rfl : ad228 = ad229:=(by injection e229)
                       replace p229:=eq_true p229
                       replace q229:=eq_true q229
                       have p230 : 0 ≤ (x16_4 : Int):=zO (by first|(with_reducible assumption)|assumption)
                       have q230 : x16_4 < (t209.length : Int):=zO (by first|(with_reducible assumption)|assumption)
                       obtain ⟨ad230, e230, hx230_0⟩:=Kd.at_int (zR HO_9.out).2.2 x16_4 p230 q230
                       obtain rfl : ad228 = ad230:=(by injection e230)
                       replace p230:=eq_true p230
                       replace q230:=eq_true q230
                       obtain ⟨Ao57, co57, eo57⟩:=Kd.R_slice HO_11.out
                       subst eo57
                       have p231 : 0 ≤ (x15_2 : Int):=zO (by first|(with_reducible assumption)|assumption)
                       have q231 : x15_2 < (t212.length : Int):=zO (by first|(with_reducible assumption)|assumption)
                       obtain ⟨ad231, e231, hx231_0⟩:=Kd.at_int (zR HO_11.out).2.2 x15_2 p231 q231
                       cases e231
                       replace p231:=eq_true p231
                       replace q231:=eq_true q231
                       have p232 : 0 ≤ (x16_4 : Int):=zO (by first|(with_reducible assumption)|assumption)
                       have q232 : x16_4 < (t212.length : Int):=zO (by first|(with_reducible assumption)|assumption)
                       obtain ⟨ad232, e232, hx232_0⟩:=Kd.at_int (zR HO_11.out).2.2 x16_4 p232 q232
                       obtain rfl : ad231 = ad232:=(by injection e232)
                       replace p232:=eq_true p232
                       replace q232:=eq_true q232
                       go_wp2
                       repeat (go_quiet (fail);try go_wp2)
                       go_roundg k4
                       case measure=>have:=HJ10.out;have:=HK2.out;have:=HJ32.out;have:=HK4.out;omega
                       case rel=>exact ⟨(wrap64 (x16_4 + 1)), (by first|rfl|(simp;done)|(simp [*];done)), H', ⟨by have:=HJ10.out;have:=HK2.out;have:=HJ32.out;have:=HK4.out;omega⟩, ⟨by (with_reducible repeat (first|apply zA|apply zN|apply Kd.R_drew));exact HO_9.out⟩, ⟨by (with_reducible repeat (first|apply zA|apply zN|apply Kd.R_drew));exact HO_11.out⟩, ⟨by (with_reducible repeat (first|apply zA|apply zN|apply Kd.R_drew));exact HO_13.out⟩, ⟨by repeat (first|(with_reducible first|exact HB.out|apply zB|apply zC|apply zE)|exact HB.out)⟩⟩
                     ·rw [if_neg c54] at H
                      exact absurd H (by simp)
                    ·rw [if_neg c53] at H
                     exact absurd H (by simp)
                   ·rw [if_neg c52] at H
                    have c52b0 : decide (0 < (rd t209 x16_4)) = false:=decide_eq_false c52
                    clear c52
                    have H':=zM H
                    clear H
                    have p228 : 0 ≤ (x15_2 : Int):=zO (by first|(with_reducible assumption)|assumption)
                    have q228 : x15_2 < (t209.length : Int):=zO (by first|(with_reducible assumption)|assumption)
                    obtain ⟨ad228, e228, hx228_0⟩:=Kd.at_int (zR HO_9.out).2.2 x15_2 p228 q228
                    cases e228
                    replace p228:=eq_true p228
                    replace q228:=eq_true q228
                    have p229 : 0 ≤ (x16_4 : Int):=zO (by first|(with_reducible assumption)|assumption)
                    have q229 : x16_4 < (t209.length : Int):=zO (by first|(with_reducible assumption)|assumption)
                    obtain ⟨ad229, e229, hx229_0⟩:=Kd.at_int (zR HO_9.out).2.2 x16_4 p229 q229
                    obtain rfl : ad228 = ad229:=(by injection e229)
                    replace p229:=eq_true p229
                    replace q229:=eq_true q229
                    have p230 : 0 ≤ (x16_4 : Int):=zO (by first|(with_reducible assumption)|assumption)
                    have q230 : x16_4 < (t209.length : Int):=zO (by first|(with_reducible assumption)|assumption)
                    obtain ⟨ad230, e230, hx230_0⟩:=Kd.at_int (zR HO_9.out).2.2 x16_4 p230 q230
                    obtain rfl : ad228 = ad230:=(by injection e230)
                    replace p230:=eq_true p230
                    replace q230:=eq_true q230
                    go_wp2
                    repeat (go_quiet (fail);try go_wp2)
                    go_roundg k4
                    case measure=>have:=HJ10.out;have:=HK2.out;have:=HJ32.out;have:=HK4.out;omega
                    case rel=>exact ⟨(wrap64 (x16_4 + 1)), (by first|rfl|(simp;done)|(simp [*];done)), H', ⟨by have:=HJ10.out;have:=HK2.out;have:=HJ32.out;have:=HK4.out;omega⟩, ⟨by (with_reducible repeat (first|apply zA|apply zN|apply Kd.R_drew));exact HO_9.out⟩, ⟨by (with_reducible repeat (first|apply zA|apply zN|apply Kd.R_drew));exact HO_11.out⟩, ⟨by (with_reducible repeat (first|apply zA|apply zN|apply Kd.R_drew));exact HO_13.out⟩, ⟨by repeat (first|(with_reducible first|exact HB.out|apply zB|apply zC|apply zE)|exact HB.out)⟩⟩
                  ·rw [if_neg c51] at H
                   have c51b0 : decide ((rd t209 x16_4) < (rd t209 x15_2)) = false:=decide_eq_false c51
                   clear c51
                   have H':=zM H
                   clear H
                   have p228 : 0 ≤ (x15_2 : Int):=zO (by first|(with_reducible assumption)|assumption)
                   have q228 : x15_2 < (t209.length : Int):=zO (by first|(with_reducible assumption)|assumption)
                   obtain ⟨ad228, e228, hx228_0⟩:=Kd.at_int (zR HO_9.out).2.2 x15_2 p228 q228
                   cases e228
                   replace p228:=eq_true p228
                   replace q228:=eq_true q228
                   have p229 : 0 ≤ (x16_4 : Int):=zO (by first|(with_reducible assumption)|assumption)
                   have q229 : x16_4 < (t209.length : Int):=zO (by first|(with_reducible assumption)|assumption)
                   obtain ⟨ad229, e229, hx229_0⟩:=Kd.at_int (zR HO_9.out).2.2 x16_4 p229 q229
                   obtain rfl : ad228 = ad229:=(by injection e229)
                   replace p229:=eq_true p229
                   replace q229:=eq_true q229
                   go_wp2
                   repeat (go_quiet (fail);try go_wp2)
                   go_roundg k4
                   case measure=>have:=HJ10.out;have:=HK2.out;have:=HJ32.out;have:=HK4.out;omega
                   case rel=>exact ⟨(wrap64 (x16_4 + 1)), (by first|rfl|(simp;done)|(simp [*];done)), H', ⟨by have:=HJ10.out;have:=HK2.out;have:=HJ32.out;have:=HK4.out;omega⟩, ⟨by (with_reducible repeat (first|apply zA|apply zN|apply Kd.R_drew));exact HO_9.out⟩, ⟨by (with_reducible repeat (first|apply zA|apply zN|apply Kd.R_drew));exact HO_11.out⟩, ⟨by (with_reducible repeat (first|apply zA|apply zN|apply Kd.R_drew));exact HO_13.out⟩, ⟨by repeat (first|(with_reducible first|exact HB.out|apply zB|apply zC|apply zE)|exact HB.out)⟩⟩
                 ·rw [if_neg c50] at H
                  exact absurd H (by simp)
                ·rw [if_neg c49] at H
                 exact absurd H (by simp)
               ·rw [if_neg c48] at H
                exact absurd H (by simp)
              ·rw [if_neg c47] at H
               exact absurd H (by simp)
             ·rw [if_neg c46] at H
              have c46b0 : decide (x16_4 < 65) = false:=decide_eq_false c46
              clear c46
              have H':=zM H
              clear H
              go_wp2
              repeat (go_quiet (fail);try go_wp2)
              go_roundg k4
              case measure=>have:=HJ10.out;have:=HK2.out;have:=HJ32.out;have:=HK4.out;omega
              case rel=>exact ⟨(wrap64 (x15_2 + 1)), (by first|rfl|(simp;done)|(simp [*];done)), H', ⟨by have:=HJ10.out;have:=HK2.out;have:=HJ32.out;have:=HK4.out;omega⟩, ⟨by (with_reducible repeat (first|apply zA|apply zN|apply Kd.R_drew));exact HO_9.out⟩, ⟨by (with_reducible repeat (first|apply zA|apply zN|apply Kd.R_drew));exact HO_11.out⟩, ⟨by (with_reducible repeat (first|apply zA|apply zN|apply Kd.R_drew));exact HO_13.out⟩, ⟨by repeat (first|(with_reducible first|exact HB.out|apply zB|apply zC|apply zE)|exact HB.out)⟩⟩
       ·rw [if_neg c32] at H
        have c32b0 : decide (x15_2 < 65) = false:=decide_eq_false c32
        clear c32
        obtain ⟨y233, hy233⟩ : ∃ y_ : List Int, y_ = (([] : List Int)):=⟨_, rfl⟩
        replace H : (if y233.length + t212.length < 17592186044416 then ((some (y233 ++ t212 : List Int)).bind fun y236=>(if 0 ≤ (Int.tmod (wrap64 (a3)) 65) then (if (Int.tmod (wrap64 (a3)) 65) < (t212.length : Int) then (if 0 ≤ (Int.tmod (wrap64 (a2)) 65) then (if (Int.tmod (wrap64 (a2)) 65) < (y236.length : Int) then (if (Int.tmod (wrap64 (a2)) 65) < (t212.length : Int) then (if (Int.tmod (wrap64 (a3)) 65) < (y236.length : Int) then (if (Int.tmod (wrap64 (a2)) 65) < (t209.length : Int) then (if (rd t209 (Int.tmod (wrap64 (a2)) 65)) = 0 then ((merge_Cost.f t209 t216).bind fun t244=>((merge_Cost.f t209 t212).bind fun t245=>(if t244 ≤ t245 then ((wringerlaw8_awake.f).bind fun t246=>(some t246)) else (some false)))) else (if (Int.tmod (wrap64 (a3)) 65) < (t209.length : Int) then (if (rd t209 (Int.tmod (wrap64 (a3)) 65)) = 0 then ((merge_Cost.f t209 t216).bind fun t248=>((merge_Cost.f t209 t212).bind fun t249=>(if t248 ≤ t249 then ((wringerlaw8_awake.f).bind fun t250=>(some t250)) else (some false)))) else ((merge_Cost.f t209 ((y236.set ((Int.tmod (wrap64 (a2)) 65) : Int).toNat (rd t212 (Int.tmod (wrap64 (a3)) 65))).set ((Int.tmod (wrap64 (a3)) 65) : Int).toNat (rd t212 (Int.tmod (wrap64 (a2)) 65)))).bind fun t251=>((merge_Cost.f t209 t212).bind fun t252=>(if t251 ≥ t252 then ((merge_Cost.f t209 t216).bind fun t253=>((merge_Cost.f t209 t212).bind fun t254=>(if t253 ≤ t254 then ((wringerlaw8_awake.f).bind fun t255=>(some t255)) else (some false)))) else (some false))))) else (none))) else (none)) else (none)) else (none)) else (none)) else (none)) else (none)) else (none))) else (none)) = some r:=by first|(rw [hy233];with_reducible exact H)|(have H2_:=(Option.bind_some _ _).symm.trans H;rw [hy233];with_reducible exact H2_)|(have H2_:=(Option.bind_some _ _).symm.trans H;with_reducible exact H2_)|with_reducible exact H|(rw [hy233];exact H)|exact H
        have Ny233:=zM hy233
        clear hy233
        by_cases c58 : y233.length + t212.length < 17592186044416
        ·rw [if_pos c58] at H
         have LMc58:=zM c58
         clear c58
         obtain ⟨y236, hy236⟩ : ∃ y_ : List Int, y_ = (y233 ++ t212):=⟨_, rfl⟩
         replace H : (if 0 ≤ (Int.tmod (wrap64 (a3)) 65) then (if (Int.tmod (wrap64 (a3)) 65) < (t212.length : Int) then (if 0 ≤ (Int.tmod (wrap64 (a2)) 65) then (if (Int.tmod (wrap64 (a2)) 65) < (y236.length : Int) then (if (Int.tmod (wrap64 (a2)) 65) < (t212.length : Int) then (if (Int.tmod (wrap64 (a3)) 65) < (y236.length : Int) then (if (Int.tmod (wrap64 (a2)) 65) < (t209.length : Int) then (if (rd t209 (Int.tmod (wrap64 (a2)) 65)) = 0 then ((merge_Cost.f t209 t216).bind fun t244=>((merge_Cost.f t209 t212).bind fun t245=>(if t244 ≤ t245 then ((wringerlaw8_awake.f).bind fun t246=>(some t246)) else (some false)))) else (if (Int.tmod (wrap64 (a3)) 65) < (t209.length : Int) then (if (rd t209 (Int.tmod (wrap64 (a3)) 65)) = 0 then ((merge_Cost.f t209 t216).bind fun t248=>((merge_Cost.f t209 t212).bind fun t249=>(if t248 ≤ t249 then ((wringerlaw8_awake.f).bind fun t250=>(some t250)) else (some false)))) else ((merge_Cost.f t209 ((y236.set ((Int.tmod (wrap64 (a2)) 65) : Int).toNat (rd t212 (Int.tmod (wrap64 (a3)) 65))).set ((Int.tmod (wrap64 (a3)) 65) : Int).toNat (rd t212 (Int.tmod (wrap64 (a2)) 65)))).bind fun t251=>((merge_Cost.f t209 t212).bind fun t252=>(if t251 ≥ t252 then ((merge_Cost.f t209 t216).bind fun t253=>((merge_Cost.f t209 t212).bind fun t254=>(if t253 ≤ t254 then ((wringerlaw8_awake.f).bind fun t255=>(some t255)) else (some false)))) else (some false))))) else (none))) else (none)) else (none)) else (none)) else (none)) else (none)) else (none)) else (none)) = some r:=by first|(rw [hy236];with_reducible exact H)|(have H2_:=(Option.bind_some _ _).symm.trans H;rw [hy236];with_reducible exact H2_)|(have H2_:=(Option.bind_some _ _).symm.trans H;with_reducible exact H2_)|with_reducible exact H|(rw [hy236];exact H)|exact H
         have Ny236:=zM hy236
         clear hy236
         obtain ⟨ji59, hji59⟩ : ∃ j_ : Int, (Int.tmod (wrap64 (a3)) 65) = j_:=⟨_, rfl⟩
         replace H : (if 0 ≤ (ji59) then (if (ji59) < (t212.length : Int) then (if 0 ≤ (Int.tmod (wrap64 (a2)) 65) then (if (Int.tmod (wrap64 (a2)) 65) < (y236.length : Int) then (if (Int.tmod (wrap64 (a2)) 65) < (t212.length : Int) then (if (ji59) < (y236.length : Int) then (if (Int.tmod (wrap64 (a2)) 65) < (t209.length : Int) then (if (rd t209 (Int.tmod (wrap64 (a2)) 65)) = 0 then ((merge_Cost.f t209 t216).bind fun t244=>((merge_Cost.f t209 t212).bind fun t245=>(if t244 ≤ t245 then ((wringerlaw8_awake.f).bind fun t246=>(some t246)) else (some false)))) else (if (ji59) < (t209.length : Int) then (if (rd t209 (ji59)) = 0 then ((merge_Cost.f t209 t216).bind fun t248=>((merge_Cost.f t209 t212).bind fun t249=>(if t248 ≤ t249 then ((wringerlaw8_awake.f).bind fun t250=>(some t250)) else (some false)))) else ((merge_Cost.f t209 ((y236.set ((Int.tmod (wrap64 (a2)) 65) : Int).toNat (rd t212 (ji59))).set ((ji59) : Int).toNat (rd t212 (Int.tmod (wrap64 (a2)) 65)))).bind fun t251=>((merge_Cost.f t209 t212).bind fun t252=>(if t251 ≥ t252 then ((merge_Cost.f t209 t216).bind fun t253=>((merge_Cost.f t209 t212).bind fun t254=>(if t253 ≤ t254 then ((wringerlaw8_awake.f).bind fun t255=>(some t255)) else (some false)))) else (some false))))) else (none))) else (none)) else (none)) else (none)) else (none)) else (none)) else (none)) else (none)) = some r:=by first|(rw [hji59] at H;exact H)|(simp only [hji59] at H ⊢;exact H)
         by_cases c60 : 0 ≤ (ji59)
         ·rw [if_pos c60] at H
          have c60b0 : decide (0 ≤ (ji59)) = true:=decide_eq_true c60
          clear c60
          by_cases c61 : (ji59) < (t212.length : Int)
          ·rw [if_pos c61] at H
           have c61b0 : decide ((ji59) < (t212.length : Int)) = true:=decide_eq_true c61
           clear c61
           obtain ⟨ji62, hji62⟩ : ∃ j_ : Int, (Int.tmod (wrap64 (a2)) 65) = j_:=⟨_, rfl⟩
           replace H : (if 0 ≤ (ji62) then (if (ji62) < (y236.length : Int) then (if (ji62) < (t212.length : Int) then (if (ji59) < (y236.length : Int) then (if (ji62) < (t209.length : Int) then (if (rd t209 (ji62)) = 0 then ((merge_Cost.f t209 t216).bind fun t244=>((merge_Cost.f t209 t212).bind fun t245=>(if t244 ≤ t245 then ((wringerlaw8_awake.f).bind fun t246=>(some t246)) else (some false)))) else (if (ji59) < (t209.length : Int) then (if (rd t209 (ji59)) = 0 then ((merge_Cost.f t209 t216).bind fun t248=>((merge_Cost.f t209 t212).bind fun t249=>(if t248 ≤ t249 then ((wringerlaw8_awake.f).bind fun t250=>(some t250)) else (some false)))) else ((merge_Cost.f t209 ((y236.set ((ji62) : Int).toNat (rd t212 (ji59))).set ((ji59) : Int).toNat (rd t212 (ji62)))).bind fun t251=>((merge_Cost.f t209 t212).bind fun t252=>(if t251 ≥ t252 then ((merge_Cost.f t209 t216).bind fun t253=>((merge_Cost.f t209 t212).bind fun t254=>(if t253 ≤ t254 then ((wringerlaw8_awake.f).bind fun t255=>(some t255)) else (some false)))) else (some false))))) else (none))) else (none)) else (none)) else (none)) else (none)) else (none)) = some r:=by first|(rw [hji62] at H;exact H)|(simp only [hji62] at H ⊢;exact H)
           by_cases c63 : 0 ≤ (ji62)
           ·rw [if_pos c63] at H
            have c63b0 : decide (0 ≤ (ji62)) = true:=decide_eq_true c63
            clear c63
            by_cases c64 : (ji62) < (y236.length : Int)
            ·rw [if_pos c64] at H
             have c64b0 : decide ((ji62) < (y236.length : Int)) = true:=decide_eq_true c64
             clear c64
             obtain ⟨y240, hy240⟩ : ∃ y_ : List Int, y_ = (y236.set ((ji62) : Int).toNat (rd t212 (ji59))):=⟨_, rfl⟩
             replace H : (if (ji62) < (t212.length : Int) then (if (ji59) < (y236.length : Int) then (if (ji62) < (t209.length : Int) then (if (rd t209 (ji62)) = 0 then ((merge_Cost.f t209 t216).bind fun t244=>((merge_Cost.f t209 t212).bind fun t245=>(if t244 ≤ t245 then ((wringerlaw8_awake.f).bind fun t246=>(some t246)) else (some false)))) else (if (ji59) < (t209.length : Int) then (if (rd t209 (ji59)) = 0 then ((merge_Cost.f t209 t216).bind fun t248=>((merge_Cost.f t209 t212).bind fun t249=>(if t248 ≤ t249 then ((wringerlaw8_awake.f).bind fun t250=>(some t250)) else (some false)))) else ((merge_Cost.f t209 (y240.set ((ji59) : Int).toNat (rd t212 (ji62)))).bind fun t251=>((merge_Cost.f t209 t212).bind fun t252=>(if t251 ≥ t252 then ((merge_Cost.f t209 t216).bind fun t253=>((merge_Cost.f t209 t212).bind fun t254=>(if t253 ≤ t254 then ((wringerlaw8_awake.f).bind fun t255=>(some t255)) else (some false)))) else (some false))))) else (none))) else (none)) else (none)) else (none)) = some r:=by first|(rw [hy240];with_reducible exact H)|(have H2_:=(Option.bind_some _ _).symm.trans H;rw [hy240];with_reducible exact H2_)|(have H2_:=(Option.bind_some _ _).symm.trans H;with_reducible exact H2_)|with_reducible exact H|(rw [hy240];exact H)|exact H
             have Ny240:=zM hy240
             clear hy240
             by_cases c66 : (ji62) < (t212.length : Int)
             ·rw [if_pos c66] at H
              have c66b0 : decide ((ji62) < (t212.length : Int)) = true:=decide_eq_true c66
              clear c66
              by_cases c67 : (ji59) < (y236.length : Int)
              ·rw [if_pos c67] at H
               have c67b0 : decide ((ji59) < (y236.length : Int)) = true:=decide_eq_true c67
               clear c67
               obtain ⟨y242, hy242⟩ : ∃ y_ : List Int, y_ = (y240.set ((ji59) : Int).toNat (rd t212 (ji62))):=⟨_, rfl⟩
               replace H : (if (ji62) < (t209.length : Int) then (if (rd t209 (ji62)) = 0 then ((merge_Cost.f t209 t216).bind fun t244=>((merge_Cost.f t209 t212).bind fun t245=>(if t244 ≤ t245 then ((wringerlaw8_awake.f).bind fun t246=>(some t246)) else (some false)))) else (if (ji59) < (t209.length : Int) then (if (rd t209 (ji59)) = 0 then ((merge_Cost.f t209 t216).bind fun t248=>((merge_Cost.f t209 t212).bind fun t249=>(if t248 ≤ t249 then ((wringerlaw8_awake.f).bind fun t250=>(some t250)) else (some false)))) else ((merge_Cost.f t209 y242).bind fun t251=>((merge_Cost.f t209 t212).bind fun t252=>(if t251 ≥ t252 then ((merge_Cost.f t209 t216).bind fun t253=>((merge_Cost.f t209 t212).bind fun t254=>(if t253 ≤ t254 then ((wringerlaw8_awake.f).bind fun t255=>(some t255)) else (some false)))) else (some false))))) else (none))) else (none)) = some r:=by first|(rw [hy242];with_reducible exact H)|(have H2_:=(Option.bind_some _ _).symm.trans H;rw [hy242];with_reducible exact H2_)|(have H2_:=(Option.bind_some _ _).symm.trans H;with_reducible exact H2_)|with_reducible exact H|(rw [hy242];exact H)|exact H
               have Ny242:=zM hy242
               clear hy242
               by_cases c69 : (ji62) < (t209.length : Int)
               ·rw [if_pos c69] at H
                have c69b0 : decide ((ji62) < (t209.length : Int)) = true:=decide_eq_true c69
                clear c69
                by_cases c70 : (rd t209 (ji62)) = 0
                ·rw [if_pos c70] at H
                 have c70b0 : ((rd t209 (ji62)) == 0) = true:=beq_iff_eq.mpr c70
                 have c70b1 : ((rd t209 (ji62)) != 0) = false:=bne_eq_false_iff_eq.mpr c70
                 clear c70
                 replace H:=Option.bind_eq_some_iff.mp H
                 obtain ⟨t244, A710, H⟩:=H
                 replace H : ((merge_Cost.f t209 t212).bind fun t245=>(if t244 ≤ t245 then ((wringerlaw8_awake.f).bind fun t246=>(some t246)) else (some false))) = some r:=H
                 have A71:=zM A710
                 clear A710
                 replace H:=Option.bind_eq_some_iff.mp H
                 obtain ⟨t245, A720, H⟩:=H
                 replace H : (if t244 ≤ t245 then ((wringerlaw8_awake.f).bind fun t246=>(some t246)) else (some false)) = some r:=H
                 have A72:=zM A720
                 clear A720
                 by_cases c73 : t244 ≤ t245
                 ·rw [if_pos c73] at H
                  have c73b0 : decide (t244 ≤ t245) = true:=decide_eq_true c73
                  clear c73
                  replace H:=Option.bind_eq_some_iff.mp H
                  obtain ⟨t246, A740, H⟩:=H
                  replace H : (some t246) = some r:=H
                  have A74:=zM A740
                  clear A740
                  obtain rfl:=Option.some.inj H
                  go_wp2_with (first|((with_reducible refine gate_dst (N:=132) rfl ?_);(try (refine gate_guard (by rfl) ?_;dsimp only));refine Kd.R_lit (Kd.int .i64) _ 3 ?hg (N:=132) ?hd (xs:=([] : List Int)) (inner:=[]) (ok:=fun _=>True) (okp:=fun _=>True) ?hr ?hp (fun _ hk=>hk) trivial (Below.refl _ _) (Nat.le_refl _) (by simp) ?_;(case hd=>rfl);(case hg=>rfl);(case hr=>first|(go_simp;done)|(go_simp;rfl));(case hp=>exact (Reps.none _ _));intro v234 w75 ho76 hb hg_ hnew_;clear hg_ hnew_;(first|rw [← Ny233.out] at ho76|(simp only [Int.reduceToNat] at ho76;rw [← Ny233.out] at ho76));have n0_:=zM (Kd.R_elder' (by (with_reducible repeat (first|apply zA|apply zN|apply Kd.R_drew));exact HO_9.out) (Kd.R_base ho76) hb);have n1_:=zM (Kd.R_elder' (by (with_reducible repeat (first|apply zA|apply zN|apply Kd.R_drew));exact HO_11.out) (Kd.R_base ho76) hb);have n2_:=zM (Kd.R_elder' (by (with_reducible repeat (first|apply zA|apply zN|apply Kd.R_drew));exact HO_13.out) (Kd.R_base ho76) hb);have n3_:=zM (Kd.R_lower (Kd.R_new' (Kd.R_new' (Kd.R_new' ho76 (Kd.R_lt (by (with_reducible repeat (first|apply zA|apply zN|apply Kd.R_drew));exact HO_9.out))) (Kd.R_lt (by (with_reducible repeat (first|apply zA|apply zN|apply Kd.R_drew));exact HO_11.out))) (Kd.R_lt (by (with_reducible repeat (first|apply zA|apply zN|apply Kd.R_drew));exact HO_13.out))) (below_size (by repeat (first|(with_reducible first|exact HB.out|apply zB|apply zC|apply zE)|exact HB.out))));have n4_:=zM (below_step (by repeat (first|(with_reducible first|exact HB.out|apply zB|apply zC|apply zE)|exact HB.out)) hb);clear HO_9;clear HO_11;clear HO_13;clear HB;have HO_9:=n0_;have HO_11:=n1_;have HO_13:=n2_;have HO235:=n3_;have HB:=n4_;clear n0_ n1_ n2_ n3_ n4_;clear hb ho76;obtain ⟨Ao78, co78, eo78⟩:=Kd.R_slice HO_11.out;subst eo78)|((with_reducible refine gate_builtin (b:=.append) (xs:=#[.tmp 132, .tmp 133]) rfl ?_);(try (refine gate_guard (by rfl) ?_;dsimp only));at_builtin;refine Kd.R_append_rows (Kd.int .i64) (w0:=w) w.heap.size rfl (.tmp 132) (.tmp 133) 22 3 (.int .i64 0) 8 rfl Try.underlying22 info3 rfl (by decide) (by omega) v234 y233 t212 _ _ _ (fun k_=>some k_≠(.slice Ao13 t209.length co13 : Value).ownBlock∧some k_≠(.slice Ao78 t212.length co78 : Value).ownBlock∧some k_≠(v218 : Value).ownBlock) (fun _=>False) rfl rfl ?aO ?aR (fun _ _ h=>h) (fun _ h=>h.elim) ?aF ?aB ?aS ?aL ?_;(case aR=>repeat (first|exact (zR HO_11.out).2.2|(with_reducible refine Kd.C_alloc ?_ _)|(with_reducible refine Kd.C_drewN ?_ _)|(with_reducible refine Kd.C_drew ?_)));(case aB=>exact (by repeat (first|(with_reducible first|exact HB.out|apply zB|apply zC|apply zE)|exact HB.out)));(case aF=>exact (fun k_ hk=>⟨Kd.fresh' (Kd.R_lt (by (with_reducible repeat (first|apply zA|apply zN|apply Kd.R_drew));exact HO_9.out)) k_ hk, Kd.fresh' (Kd.R_lt (by (with_reducible repeat (first|apply zA|apply zN|apply Kd.R_drew));exact HO_11.out)) k_ hk, Kd.fresh' (Kd.R_lt (by (with_reducible repeat (first|apply zA|apply zN|apply Kd.R_drew));exact HO_13.out)) k_ hk⟩));(case aO=>exact (by (with_reducible repeat (first|apply zA|apply zN|apply Kd.R_drew));exact Kd.R_mono HO235.out (fun _ hk=>⟨hk.1.1.2, ⟨hk.1.2, hk.2⟩⟩)));(case aS=>exact (below_size (by repeat (first|(with_reducible first|exact HB.out|apply zB|apply zC|apply zE)|exact HB.out))));(case aL=>have:=LMc58.out;omega);intro v237 w77 ho hb hg hat;rw [← Ny236.out] at ho;have n0_:=zM (zF (ok:=(fun k_=>some k_≠(.slice Ao78 t212.length co78 : Value).ownBlock∧some k_≠(v218 : Value).ownBlock)) (by (with_reducible repeat (first|apply zA|apply zN|apply Kd.R_drew));exact HO_9.out) hg hat);have n1_:=zM (zF (ok:=(fun k_=>some k_≠(.slice Ao13 t209.length co13 : Value).ownBlock∧some k_≠(v218 : Value).ownBlock)) (by (with_reducible repeat (first|apply zA|apply zN|apply Kd.R_drew));exact HO_11.out) hg hat);have n2_:=zM (zF (ok:=(fun k_=>some k_≠(.slice Ao13 t209.length co13 : Value).ownBlock∧some k_≠(.slice Ao78 t212.length co78 : Value).ownBlock)) (by (with_reducible repeat (first|apply zA|apply zN|apply Kd.R_drew));exact HO_13.out) hg hat);have n3_:=zM (hb);have n4_:=zM (ho);clear HO_9;clear HO_11;clear HO_13;clear HB;clear HO235;have HO_9:=n0_;have HO_11:=n1_;have HO_13:=n2_;have HB:=n3_;have HO238:=n4_;clear n0_ n1_ n2_ n3_ n4_;clear ho hb hg hat;have p239 : 0 ≤ ((ji59) : Int):=zO (by first|(with_reducible assumption)|assumption);have q239 : (ji59) < (t212.length : Int):=zO (by first|(with_reducible assumption)|assumption);obtain ⟨ad239, e239, hx239_0⟩:=Kd.at_int (zR HO_11.out).2.2 (ji59) p239 q239;cases e239;replace p239:=eq_true p239;replace q239:=eq_true q239;have p65 : 0 ≤ ((ji62) : Int):=zO (by first|(with_reducible assumption)|assumption);have q65 : ((ji62) : Int) < ((y236.length : Int) : Int):=zO (by first|(with_reducible assumption)|assumption);obtain ⟨go65, co65, eo65, gb65, gl65, cl65, HG65⟩:=Kd.R_form HO238.out (by omega);(first|cases eo65|(injection eo65 with ea_ en_ ec_;(first|subst ea_|(injection ea_ with ea_;subst ea_));subst ec_;clear en_));have GB65:=zM gb65;have GG65:=zM HG65;clear gb65 gl65 HG65;obtain ⟨hx65_0, hf65_0⟩:=Kd.R_celln 0 HO238.out ((ji62) : Int) p65 q65;replace p65:=eq_true p65;replace q65:=eq_true q65;obtain ⟨hy79_, hz79_⟩:=Kd.R_celln 0 HO238.out ((ji62) : Int) (zO (by first|(with_reducible assumption)|assumption)) (zO (by first|(with_reducible assumption)|assumption));have HP79:=Kd.R_putg HO238.out ((ji62) : Int) (rd t212 (ji59)))|((with_reducible refine gate_store (t:=3) (p:=147) rfl ?_);(try (rw [drewN_self w77];generalize hq_ : World.drewN w77 _ = w77;have n0_:=zM (Kd.R_at hq_ HO_9.out);have n1_:=zM (Kd.R_at hq_ HO_11.out);have n2_:=zM (Kd.R_at hq_ HO_13.out);have n3_:=zM (Kd.R_at hq_ HO238.out);have n4_:=zM (below_at hq_ HB.out);clear hq_ HO_9 HO_11 HO_13 HO238 HB;have HO_9:=n0_;have HO_11:=n1_;have HO_13:=n2_;have HO238:=n3_;have HB:=n4_;clear n0_ n1_ n2_ n3_ n4_;(try (obtain ⟨hy79_, hz79_⟩:=Kd.R_celln 0 HO238.out ((ji62) : Int) (zO (by first|(with_reducible assumption)|assumption)) (zO (by first|(with_reducible assumption)|assumption))));(try (have HP79:=Kd.R_putg HO238.out ((ji62) : Int) (rd t212 (ji59))))));refine store_event (t:=3) (p:=147) (v:=?vo_w80) (w1:=(w77.setCell ⟨go65, ((ji62) : Int).toNat, none⟩ (.int .i64 (rd t212 (ji59))))) ?hg ?ho ?hn ?hr ?_;(case ho=>rfl);(case hg=>rfl);(case hn=>rfl);(case hr=>first|(go_simp;done)|(go_simp;rfl));intro w80 hw;have hg : w77.grownBy w80 (some go65):=(by rw [hw];exact HP79.2);have hp_ : Kd.R (Kd.int .i64) 3 w80 w.heap.size (fun k_=>some k_≠(.slice Ao13 t209.length co13 : Value).ownBlock∧some k_≠(.slice (some ad239) t212.length co78 : Value).ownBlock∧some k_≠(v218 : Value).ownBlock) (.slice (some ⟨go65, 0, none⟩) y236.length co65) y240:=(by rw [hw, Ny240.out];exact HP79.1);clear HP79;have n0_:=zM (zF (v:=(.slice (some ⟨go65, 0, none⟩) y236.length co65)) (v1:=(.slice (some ⟨go65, 0, none⟩) y236.length co65)) (ok:=(fun k_=>some k_≠(.slice (some ad239) t212.length co78 : Value).ownBlock∧some k_≠(v218 : Value).ownBlock)) (by (with_reducible repeat (first|apply zA|apply zN|apply Kd.R_drew));exact HO_9.out) hg (.inl rfl));have n1_:=zM (zF (v:=(.slice (some ⟨go65, 0, none⟩) y236.length co65)) (v1:=(.slice (some ⟨go65, 0, none⟩) y236.length co65)) (ok:=(fun k_=>some k_≠(.slice Ao13 t209.length co13 : Value).ownBlock∧some k_≠(v218 : Value).ownBlock)) (by (with_reducible repeat (first|apply zA|apply zN|apply Kd.R_drew));exact HO_11.out) hg (.inl rfl));have n2_:=zM (zF (v:=(.slice (some ⟨go65, 0, none⟩) y236.length co65)) (v1:=(.slice (some ⟨go65, 0, none⟩) y236.length co65)) (ok:=(fun k_=>some k_≠(.slice Ao13 t209.length co13 : Value).ownBlock∧some k_≠(.slice (some ad239) t212.length co78 : Value).ownBlock)) (by (with_reducible repeat (first|apply zA|apply zN|apply Kd.R_drew));exact HO_13.out) hg (.inl rfl));have n3_:=zM (hp_);have n4_:=zM ((by rw [hw];exact below_set (HB.out) GB65.out : Below w.heap.size w w80));clear HO_9;clear HO_11;clear HO_13;clear HO238;clear HB;have HO_9:=n0_;have HO_11:=n1_;have HO_13:=n2_;have HO238:=n3_;have HB:=n4_;clear n0_ n1_ n2_ n3_ n4_;clear hg hw hp_;have p241 : 0 ≤ ((ji62) : Int):=zO (by first|(with_reducible assumption)|assumption);have q241 : (ji62) < (t212.length : Int):=zO (by first|(with_reducible assumption)|assumption);obtain ⟨ad241, e241, hx241_0⟩:=Kd.at_int (zR HO_11.out).2.2 (ji62) p241 q241;obtain rfl : ad239 = ad241:=(by injection e241);replace p241:=eq_true p241;replace q241:=eq_true q241;have p68 : 0 ≤ ((ji59) : Int):=zO (by first|(with_reducible assumption)|assumption);have q68 : ((ji59) : Int) < ((y236.length : Int) : Int):=zO (by first|(with_reducible assumption)|assumption);obtain ⟨hx68_0, hf68_0⟩:=Kd.R_celln 0 HO238.out ((ji59) : Int) p68 q68;replace p68:=eq_true p68;replace q68:=eq_true q68;obtain ⟨hy81_, hz81_⟩:=Kd.R_celln 0 HO238.out ((ji59) : Int) (zO (by first|(with_reducible assumption)|assumption)) (zO (by first|(with_reducible assumption)|assumption));have HP81:=Kd.R_putg HO238.out ((ji59) : Int) (rd t212 (ji62)))|((with_reducible refine gate_store (t:=3) (p:=154) rfl ?_);(try (rw [drewN_self w80];generalize hq_ : World.drewN w80 _ = w80;have n0_:=zM (Kd.R_at hq_ HO_9.out);have n1_:=zM (Kd.R_at hq_ HO_11.out);have n2_:=zM (Kd.R_at hq_ HO_13.out);have n3_:=zM (Kd.R_at hq_ HO238.out);have n4_:=zM (below_at hq_ HB.out);clear hq_ HO_9 HO_11 HO_13 HO238 HB;have HO_9:=n0_;have HO_11:=n1_;have HO_13:=n2_;have HO238:=n3_;have HB:=n4_;clear n0_ n1_ n2_ n3_ n4_;(try (obtain ⟨hy81_, hz81_⟩:=Kd.R_celln 0 HO238.out ((ji59) : Int) (zO (by first|(with_reducible assumption)|assumption)) (zO (by first|(with_reducible assumption)|assumption))));(try (have HP81:=Kd.R_putg HO238.out ((ji59) : Int) (rd t212 (ji62))))));refine store_event (t:=3) (p:=154) (v:=?vo_w82) (w1:=(w80.setCell ⟨go65, ((ji59) : Int).toNat, none⟩ (.int .i64 (rd t212 (ji62))))) ?hg ?ho ?hn ?hr ?_;(case ho=>rfl);(case hg=>rfl);(case hn=>rfl);(case hr=>first|(go_simp;done)|(go_simp;rfl));intro w82 hw;have hg : w80.grownBy w82 (some go65):=(by rw [hw];exact HP81.2);have hp_ : Kd.R (Kd.int .i64) 3 w82 w.heap.size (fun k_=>some k_≠(.slice Ao13 t209.length co13 : Value).ownBlock∧some k_≠(.slice (some ad239) t212.length co78 : Value).ownBlock∧some k_≠(v218 : Value).ownBlock) (.slice (some ⟨go65, 0, none⟩) y236.length co65) y242:=(by rw [hw, Ny242.out];exact HP81.1);clear HP81;have n0_:=zM (zF (v:=(.slice (some ⟨go65, 0, none⟩) y236.length co65)) (v1:=(.slice (some ⟨go65, 0, none⟩) y236.length co65)) (ok:=(fun k_=>some k_≠(.slice (some ad239) t212.length co78 : Value).ownBlock∧some k_≠(v218 : Value).ownBlock)) (by (with_reducible repeat (first|apply zA|apply zN|apply Kd.R_drew));exact HO_9.out) hg (.inl rfl));have n1_:=zM (zF (v:=(.slice (some ⟨go65, 0, none⟩) y236.length co65)) (v1:=(.slice (some ⟨go65, 0, none⟩) y236.length co65)) (ok:=(fun k_=>some k_≠(.slice Ao13 t209.length co13 : Value).ownBlock∧some k_≠(v218 : Value).ownBlock)) (by (with_reducible repeat (first|apply zA|apply zN|apply Kd.R_drew));exact HO_11.out) hg (.inl rfl));have n2_:=zM (zF (v:=(.slice (some ⟨go65, 0, none⟩) y236.length co65)) (v1:=(.slice (some ⟨go65, 0, none⟩) y236.length co65)) (ok:=(fun k_=>some k_≠(.slice Ao13 t209.length co13 : Value).ownBlock∧some k_≠(.slice (some ad239) t212.length co78 : Value).ownBlock)) (by (with_reducible repeat (first|apply zA|apply zN|apply Kd.R_drew));exact HO_13.out) hg (.inl rfl));have n3_:=zM (hp_);have n4_:=zM ((by rw [hw];exact below_set (HB.out) GB65.out : Below w.heap.size w w82));clear HO_9;clear HO_11;clear HO_13;clear HO238;clear HB;have HO_9:=n0_;have HO_11:=n1_;have HO_13:=n2_;have HO238:=n3_;have HB:=n4_;clear n0_ n1_ n2_ n3_ n4_;clear hg hw hp_;have p243 : 0 ≤ ((ji62) : Int):=zO (by first|(with_reducible assumption)|assumption);have q243 : (ji62) < (t209.length : Int):=zO (by first|(with_reducible assumption)|assumption);obtain ⟨ad243, e243, hx243_0⟩:=Kd.at_int (zR HO_9.out).2.2 (ji62) p243 q243;cases e243;replace p243:=eq_true p243;replace q243:=eq_true q243;obtain ⟨Ao83, co83, eo83⟩:=Kd.R_slice HO_13.out;subst eo83)|(go_at_call 15;(with_reducible refine (merge_Cost.calls _ _ t209 _ _ t216 t244 _ ?side1 ?side2 ?side3 ?side4 A71.out).mono ?_);(case side1=>repeat (first|exact (zR HO_9.out).2.2|(with_reducible refine Kd.C_alloc ?_ _)|(with_reducible refine Kd.C_drewN ?_ _)|(with_reducible refine Kd.C_drew ?_)));(case side2=>exact (zR HO_9.out).2.1);(case side3=>repeat (first|exact (zR HO_13.out).2.2|(with_reducible refine Kd.C_alloc ?_ _)|(with_reducible refine Kd.C_drewN ?_ _)|(with_reducible refine Kd.C_drew ?_)));(case side4=>exact (zR HO_13.out).2.1);rintro e w' ⟨rfl, ⟨nd, rfl⟩⟩;(try first|exact ⟨rfl, _, zW _ _ _⟩|exact ⟨rfl, _, Eq.trans (zW _ _ _) (congrArg (World.drewN _) (Nat.add_assoc _ _ _))⟩))|(go_at_call 15;(with_reducible refine (merge_Cost.calls _ _ t209 _ _ t212 t245 _ ?side1 ?side2 ?side3 ?side4 A72.out).mono ?_);(case side1=>repeat (first|exact (zR HO_9.out).2.2|(with_reducible refine Kd.C_alloc ?_ _)|(with_reducible refine Kd.C_drewN ?_ _)|(with_reducible refine Kd.C_drew ?_)));(case side2=>exact (zR HO_9.out).2.1);(case side3=>repeat (first|exact (zR HO_11.out).2.2|(with_reducible refine Kd.C_alloc ?_ _)|(with_reducible refine Kd.C_drewN ?_ _)|(with_reducible refine Kd.C_drew ?_)));(case side4=>exact (zR HO_11.out).2.1);rintro e w' ⟨rfl, ⟨nd, rfl⟩⟩;(try first|exact ⟨rfl, _, zW _ _ _⟩|exact ⟨rfl, _, Eq.trans (zW _ _ _) (congrArg (World.drewN _) (Nat.add_assoc _ _ _))⟩))|(go_at_call 10;(with_reducible refine (wringerlaw8_awake.calls  t246 _ A74.out).mono ?_);rintro e w84 ⟨rfl, hb⟩;have n0_:=zM (Kd.R_below (by (with_reducible repeat (first|apply zA|apply zN|apply Kd.R_drew));exact HO_9.out) hb);have n1_:=zM (Kd.R_below (by (with_reducible repeat (first|apply zA|apply zN|apply Kd.R_drew));exact HO_11.out) hb);have n2_:=zM (Kd.R_below (by (with_reducible repeat (first|apply zA|apply zN|apply Kd.R_drew));exact HO_13.out) hb);have n3_:=zM (Kd.R_below (by (with_reducible repeat (first|apply zA|apply zN|apply Kd.R_drew));exact HO238.out) hb);have n4_:=zM (below_step (by repeat (first|(with_reducible first|exact HB.out|apply zB|apply zC|apply zE)|exact HB.out)) hb);clear HO_9;clear HO_11;clear HO_13;clear HO238;clear HB;have HO_9:=n0_;have HO_11:=n1_;have HO_13:=n2_;have HO238:=n3_;have HB:=n4_;clear n0_ n1_ n2_ n3_ n4_;(try clear hb);(try clear hb2);(try clear hk);(try clear hi)))
                  repeat (go_quiet (first|((with_reducible refine gate_dst (N:=132) rfl ?_);(try (refine gate_guard (by rfl) ?_;dsimp only));refine Kd.R_lit (Kd.int .i64) _ 3 ?hg (N:=132) ?hd (xs:=([] : List Int)) (inner:=[]) (ok:=fun _=>True) (okp:=fun _=>True) ?hr ?hp (fun _ hk=>hk) trivial (Below.refl _ _) (Nat.le_refl _) (by simp) ?_;(case hd=>rfl);(case hg=>rfl);(case hr=>first|(go_simp;done)|(go_simp;rfl));(case hp=>exact (Reps.none _ _));intro v234 w75 ho76 hb hg_ hnew_;clear hg_ hnew_;(first|rw [← Ny233.out] at ho76|(simp only [Int.reduceToNat] at ho76;rw [← Ny233.out] at ho76));have n0_:=zM (Kd.R_elder' (by (with_reducible repeat (first|apply zA|apply zN|apply Kd.R_drew));exact HO_9.out) (Kd.R_base ho76) hb);have n1_:=zM (Kd.R_elder' (by (with_reducible repeat (first|apply zA|apply zN|apply Kd.R_drew));exact HO_11.out) (Kd.R_base ho76) hb);have n2_:=zM (Kd.R_elder' (by (with_reducible repeat (first|apply zA|apply zN|apply Kd.R_drew));exact HO_13.out) (Kd.R_base ho76) hb);have n3_:=zM (Kd.R_lower (Kd.R_new' (Kd.R_new' (Kd.R_new' ho76 (Kd.R_lt (by (with_reducible repeat (first|apply zA|apply zN|apply Kd.R_drew));exact HO_9.out))) (Kd.R_lt (by (with_reducible repeat (first|apply zA|apply zN|apply Kd.R_drew));exact HO_11.out))) (Kd.R_lt (by (with_reducible repeat (first|apply zA|apply zN|apply Kd.R_drew));exact HO_13.out))) (below_size (by repeat (first|(with_reducible first|exact HB.out|apply zB|apply zC|apply zE)|exact HB.out))));have n4_:=zM (below_step (by repeat (first|(with_reducible first|exact HB.out|apply zB|apply zC|apply zE)|exact HB.out)) hb);clear HO_9;clear HO_11;clear HO_13;clear HB;have HO_9:=n0_;have HO_11:=n1_;have HO_13:=n2_;have HO235:=n3_;have HB:=n4_;clear n0_ n1_ n2_ n3_ n4_;clear hb ho76;obtain ⟨Ao78, co78, eo78⟩:=Kd.R_slice HO_11.out;subst eo78)|((with_reducible refine gate_builtin (b:=.append) (xs:=#[.tmp 132, .tmp 133]) rfl ?_);(try (refine gate_guard (by rfl) ?_;dsimp only));at_builtin;refine Kd.R_append_rows (Kd.int .i64) (w0:=w) w.heap.size rfl (.tmp 132) (.tmp 133) 22 3 (.int .i64 0) 8 rfl Try.underlying22 info3 rfl (by decide) (by omega) v234 y233 t212 _ _ _ (fun k_=>some k_≠(.slice Ao13 t209.length co13 : Value).ownBlock∧some k_≠(.slice Ao78 t212.length co78 : Value).ownBlock∧some k_≠(v218 : Value).ownBlock) (fun _=>False) rfl rfl ?aO ?aR (fun _ _ h=>h) (fun _ h=>h.elim) ?aF ?aB ?aS ?aL ?_;(case aR=>repeat (first|exact (zR HO_11.out).2.2|(with_reducible refine Kd.C_alloc ?_ _)|(with_reducible refine Kd.C_drewN ?_ _)|(with_reducible refine Kd.C_drew ?_)));(case aB=>exact (by repeat (first|(with_reducible first|exact HB.out|apply zB|apply zC|apply zE)|exact HB.out)));(case aF=>exact (fun k_ hk=>⟨Kd.fresh' (Kd.R_lt (by (with_reducible repeat (first|apply zA|apply zN|apply Kd.R_drew));exact HO_9.out)) k_ hk, Kd.fresh' (Kd.R_lt (by (with_reducible repeat (first|apply zA|apply zN|apply Kd.R_drew));exact HO_11.out)) k_ hk, Kd.fresh' (Kd.R_lt (by (with_reducible repeat (first|apply zA|apply zN|apply Kd.R_drew));exact HO_13.out)) k_ hk⟩));(case aO=>exact (by (with_reducible repeat (first|apply zA|apply zN|apply Kd.R_drew));exact Kd.R_mono HO235.out (fun _ hk=>⟨hk.1.1.2, ⟨hk.1.2, hk.2⟩⟩)));(case aS=>exact (below_size (by repeat (first|(with_reducible first|exact HB.out|apply zB|apply zC|apply zE)|exact HB.out))));(case aL=>have:=LMc58.out;omega);intro v237 w77 ho hb hg hat;rw [← Ny236.out] at ho;have n0_:=zM (zF (ok:=(fun k_=>some k_≠(.slice Ao78 t212.length co78 : Value).ownBlock∧some k_≠(v218 : Value).ownBlock)) (by (with_reducible repeat (first|apply zA|apply zN|apply Kd.R_drew));exact HO_9.out) hg hat);have n1_:=zM (zF (ok:=(fun k_=>some k_≠(.slice Ao13 t209.length co13 : Value).ownBlock∧some k_≠(v218 : Value).ownBlock)) (by (with_reducible repeat (first|apply zA|apply zN|apply Kd.R_drew));exact HO_11.out) hg hat);have n2_:=zM (zF (ok:=(fun k_=>some k_≠(.slice Ao13 t209.length co13 : Value).ownBlock∧some k_≠(.slice Ao78 t212.length co78 : Value).ownBlock)) (by (with_reducible repeat (first|apply zA|apply zN|apply Kd.R_drew));exact HO_13.out) hg hat);have n3_:=zM (hb);have n4_:=zM (ho);clear HO_9;clear HO_11;clear HO_13;clear HB;clear HO235;have HO_9:=n0_;have HO_11:=n1_;have HO_13:=n2_;have HB:=n3_;have HO238:=n4_;clear n0_ n1_ n2_ n3_ n4_;clear ho hb hg hat;have p239 : 0 ≤ ((ji59) : Int):=zO (by first|(with_reducible assumption)|assumption);have q239 : (ji59) < (t212.length : Int):=zO (by first|(with_reducible assumption)|assumption);obtain ⟨ad239, e239, hx239_0⟩:=Kd.at_int (zR HO_11.out).2.2 (ji59) p239 q239;cases e239;replace p239:=eq_true p239;replace q239:=eq_true q239;have p65 : 0 ≤ ((ji62) : Int):=zO (by first|(with_reducible assumption)|assumption);have q65 : ((ji62) : Int) < ((y236.length : Int) : Int):=zO (by first|(with_reducible assumption)|assumption);obtain ⟨go65, co65, eo65, gb65, gl65, cl65, HG65⟩:=Kd.R_form HO238.out (by omega);(first|cases eo65|(injection eo65 with ea_ en_ ec_;(first|subst ea_|(injection ea_ with ea_;subst ea_));subst ec_;clear en_));have GB65:=zM gb65;have GG65:=zM HG65;clear gb65 gl65 HG65;obtain ⟨hx65_0, hf65_0⟩:=Kd.R_celln 0 HO238.out ((ji62) : Int) p65 q65;replace p65:=eq_true p65;replace q65:=eq_true q65;obtain ⟨hy79_, hz79_⟩:=Kd.R_celln 0 HO238.out ((ji62) : Int) (zO (by first|(with_reducible assumption)|assumption)) (zO (by first|(with_reducible assumption)|assumption));have HP79:=Kd.R_putg HO238.out ((ji62) : Int) (rd t212 (ji59)))|((with_reducible refine gate_store (t:=3) (p:=147) rfl ?_);(try (rw [drewN_self w77];generalize hq_ : World.drewN w77 _ = w77;have n0_:=zM (Kd.R_at hq_ HO_9.out);have n1_:=zM (Kd.R_at hq_ HO_11.out);have n2_:=zM (Kd.R_at hq_ HO_13.out);have n3_:=zM (Kd.R_at hq_ HO238.out);have n4_:=zM (below_at hq_ HB.out);clear hq_ HO_9 HO_11 HO_13 HO238 HB;have HO_9:=n0_;have HO_11:=n1_;have HO_13:=n2_;have HO238:=n3_;have HB:=n4_;clear n0_ n1_ n2_ n3_ n4_;(try (obtain ⟨hy79_, hz79_⟩:=Kd.R_celln 0 HO238.out ((ji62) : Int) (zO (by first|(with_reducible assumption)|assumption)) (zO (by first|(with_reducible assumption)|assumption))));(try (have HP79:=Kd.R_putg HO238.out ((ji62) : Int) (rd t212 (ji59))))));refine store_event (t:=3) (p:=147) (v:=?vo_w80) (w1:=(w77.setCell ⟨go65, ((ji62) : Int).toNat, none⟩ (.int .i64 (rd t212 (ji59))))) ?hg ?ho ?hn ?hr ?_;(case ho=>rfl);(case hg=>rfl);(case hn=>rfl);(case hr=>first|(go_simp;done)|(go_simp;rfl));intro w80 hw;have hg : w77.grownBy w80 (some go65):=(by rw [hw];exact HP79.2);have hp_ : Kd.R (Kd.int .i64) 3 w80 w.heap.size (fun k_=>some k_≠(.slice Ao13 t209.length co13 : Value).ownBlock∧some k_≠(.slice (some ad239) t212.length co78 : Value).ownBlock∧some k_≠(v218 : Value).ownBlock) (.slice (some ⟨go65, 0, none⟩) y236.length co65) y240:=(by rw [hw, Ny240.out];exact HP79.1);clear HP79;have n0_:=zM (zF (v:=(.slice (some ⟨go65, 0, none⟩) y236.length co65)) (v1:=(.slice (some ⟨go65, 0, none⟩) y236.length co65)) (ok:=(fun k_=>some k_≠(.slice (some ad239) t212.length co78 : Value).ownBlock∧some k_≠(v218 : Value).ownBlock)) (by (with_reducible repeat (first|apply zA|apply zN|apply Kd.R_drew));exact HO_9.out) hg (.inl rfl));have n1_:=zM (zF (v:=(.slice (some ⟨go65, 0, none⟩) y236.length co65)) (v1:=(.slice (some ⟨go65, 0, none⟩) y236.length co65)) (ok:=(fun k_=>some k_≠(.slice Ao13 t209.length co13 : Value).ownBlock∧some k_≠(v218 : Value).ownBlock)) (by (with_reducible repeat (first|apply zA|apply zN|apply Kd.R_drew));exact HO_11.out) hg (.inl rfl));have n2_:=zM (zF (v:=(.slice (some ⟨go65, 0, none⟩) y236.length co65)) (v1:=(.slice (some ⟨go65, 0, none⟩) y236.length co65)) (ok:=(fun k_=>some k_≠(.slice Ao13 t209.length co13 : Value).ownBlock∧some k_≠(.slice (some ad239) t212.length co78 : Value).ownBlock)) (by (with_reducible repeat (first|apply zA|apply zN|apply Kd.R_drew));exact HO_13.out) hg (.inl rfl));have n3_:=zM (hp_);have n4_:=zM ((by rw [hw];exact below_set (HB.out) GB65.out : Below w.heap.size w w80));clear HO_9;clear HO_11;clear HO_13;clear HO238;clear HB;have HO_9:=n0_;have HO_11:=n1_;have HO_13:=n2_;have HO238:=n3_;have HB:=n4_;clear n0_ n1_ n2_ n3_ n4_;clear hg hw hp_;have p241 : 0 ≤ ((ji62) : Int):=zO (by first|(with_reducible assumption)|assumption);have q241 : (ji62) < (t212.length : Int):=zO (by first|(with_reducible assumption)|assumption);obtain ⟨ad241, e241, hx241_0⟩:=Kd.at_int (zR HO_11.out).2.2 (ji62) p241 q241;obtain rfl : ad239 = ad241:=(by injection e241);replace p241:=eq_true p241;replace q241:=eq_true q241;have p68 : 0 ≤ ((ji59) : Int):=zO (by first|(with_reducible assumption)|assumption);have q68 : ((ji59) : Int) < ((y236.length : Int) : Int):=zO (by first|(with_reducible assumption)|assumption);obtain ⟨hx68_0, hf68_0⟩:=Kd.R_celln 0 HO238.out ((ji59) : Int) p68 q68;replace p68:=eq_true p68;replace q68:=eq_true q68;obtain ⟨hy81_, hz81_⟩:=Kd.R_celln 0 HO238.out ((ji59) : Int) (zO (by first|(with_reducible assumption)|assumption)) (zO (by first|(with_reducible assumption)|assumption));have HP81:=Kd.R_putg HO238.out ((ji59) : Int) (rd t212 (ji62)))|((with_reducible refine gate_store (t:=3) (p:=154) rfl ?_);(try (rw [drewN_self w80];generalize hq_ : World.drewN w80 _ = w80;have n0_:=zM (Kd.R_at hq_ HO_9.out);have n1_:=zM (Kd.R_at hq_ HO_11.out);have n2_:=zM (Kd.R_at hq_ HO_13.out);have n3_:=zM (Kd.R_at hq_ HO238.out);have n4_:=zM (below_at hq_ HB.out);clear hq_ HO_9 HO_11 HO_13 HO238 HB;have HO_9:=n0_;have HO_11:=n1_;have HO_13:=n2_;have HO238:=n3_;have HB:=n4_;clear n0_ n1_ n2_ n3_ n4_;(try (obtain ⟨hy81_, hz81_⟩:=Kd.R_celln 0 HO238.out ((ji59) : Int) (zO (by first|(with_reducible assumption)|assumption)) (zO (by first|(with_reducible assumption)|assumption))));(try (have HP81:=Kd.R_putg HO238.out ((ji59) : Int) (rd t212 (ji62))))));refine store_event (t:=3) (p:=154) (v:=?vo_w82) (w1:=(w80.setCell ⟨go65, ((ji59) : Int).toNat, none⟩ (.int .i64 (rd t212 (ji62))))) ?hg ?ho ?hn ?hr ?_;(case ho=>rfl);(case hg=>rfl);(case hn=>rfl);(case hr=>first|(go_simp;done)|(go_simp;rfl));intro w82 hw;have hg : w80.grownBy w82 (some go65):=(by rw [hw];exact HP81.2);have hp_ : Kd.R (Kd.int .i64) 3 w82 w.heap.size (fun k_=>some k_≠(.slice Ao13 t209.length co13 : Value).ownBlock∧some k_≠(.slice (some ad239) t212.length co78 : Value).ownBlock∧some k_≠(v218 : Value).ownBlock) (.slice (some ⟨go65, 0, none⟩) y236.length co65) y242:=(by rw [hw, Ny242.out];exact HP81.1);clear HP81;have n0_:=zM (zF (v:=(.slice (some ⟨go65, 0, none⟩) y236.length co65)) (v1:=(.slice (some ⟨go65, 0, none⟩) y236.length co65)) (ok:=(fun k_=>some k_≠(.slice (some ad239) t212.length co78 : Value).ownBlock∧some k_≠(v218 : Value).ownBlock)) (by (with_reducible repeat (first|apply zA|apply zN|apply Kd.R_drew));exact HO_9.out) hg (.inl rfl));have n1_:=zM (zF (v:=(.slice (some ⟨go65, 0, none⟩) y236.length co65)) (v1:=(.slice (some ⟨go65, 0, none⟩) y236.length co65)) (ok:=(fun k_=>some k_≠(.slice Ao13 t209.length co13 : Value).ownBlock∧some k_≠(v218 : Value).ownBlock)) (by (with_reducible repeat (first|apply zA|apply zN|apply Kd.R_drew));exact HO_11.out) hg (.inl rfl));have n2_:=zM (zF (v:=(.slice (some ⟨go65, 0, none⟩) y236.length co65)) (v1:=(.slice (some ⟨go65, 0, none⟩) y236.length co65)) (ok:=(fun k_=>some k_≠(.slice Ao13 t209.length co13 : Value).ownBlock∧some k_≠(.slice (some ad239) t212.length co78 : Value).ownBlock)) (by (with_reducible repeat (first|apply zA|apply zN|apply Kd.R_drew));exact HO_13.out) hg (.inl rfl));have n3_:=zM (hp_);have n4_:=zM ((by rw [hw];exact below_set (HB.out) GB65.out : Below w.heap.size w w82));clear HO_9;clear HO_11;clear HO_13;clear HO238;clear HB;have HO_9:=n0_;have HO_11:=n1_;have HO_13:=n2_;have HO238:=n3_;have HB:=n4_;clear n0_ n1_ n2_ n3_ n4_;clear hg hw hp_;have p243 : 0 ≤ ((ji62) : Int):=zO (by first|(with_reducible assumption)|assumption);have q243 : (ji62) < (t209.length : Int):=zO (by first|(with_reducible assumption)|assumption);obtain ⟨ad243, e243, hx243_0⟩:=Kd.at_int (zR HO_9.out).2.2 (ji62) p243 q243;cases e243;replace p243:=eq_true p243;replace q243:=eq_true q243;obtain ⟨Ao83, co83, eo83⟩:=Kd.R_slice HO_13.out;subst eo83)|(go_at_call 15;(with_reducible refine (merge_Cost.calls _ _ t209 _ _ t216 t244 _ ?side1 ?side2 ?side3 ?side4 A71.out).mono ?_);(case side1=>repeat (first|exact (zR HO_9.out).2.2|(with_reducible refine Kd.C_alloc ?_ _)|(with_reducible refine Kd.C_drewN ?_ _)|(with_reducible refine Kd.C_drew ?_)));(case side2=>exact (zR HO_9.out).2.1);(case side3=>repeat (first|exact (zR HO_13.out).2.2|(with_reducible refine Kd.C_alloc ?_ _)|(with_reducible refine Kd.C_drewN ?_ _)|(with_reducible refine Kd.C_drew ?_)));(case side4=>exact (zR HO_13.out).2.1);rintro e w' ⟨rfl, ⟨nd, rfl⟩⟩;(try first|exact ⟨rfl, _, zW _ _ _⟩|exact ⟨rfl, _, Eq.trans (zW _ _ _) (congrArg (World.drewN _) (Nat.add_assoc _ _ _))⟩))|(go_at_call 15;(with_reducible refine (merge_Cost.calls _ _ t209 _ _ t212 t245 _ ?side1 ?side2 ?side3 ?side4 A72.out).mono ?_);(case side1=>repeat (first|exact (zR HO_9.out).2.2|(with_reducible refine Kd.C_alloc ?_ _)|(with_reducible refine Kd.C_drewN ?_ _)|(with_reducible refine Kd.C_drew ?_)));(case side2=>exact (zR HO_9.out).2.1);(case side3=>repeat (first|exact (zR HO_11.out).2.2|(with_reducible refine Kd.C_alloc ?_ _)|(with_reducible refine Kd.C_drewN ?_ _)|(with_reducible refine Kd.C_drew ?_)));(case side4=>exact (zR HO_11.out).2.1);rintro e w' ⟨rfl, ⟨nd, rfl⟩⟩;(try first|exact ⟨rfl, _, zW _ _ _⟩|exact ⟨rfl, _, Eq.trans (zW _ _ _) (congrArg (World.drewN _) (Nat.add_assoc _ _ _))⟩))|(go_at_call 10;(with_reducible refine (wringerlaw8_awake.calls  t246 _ A74.out).mono ?_);rintro e w84 ⟨rfl, hb⟩;have n0_:=zM (Kd.R_below (by (with_reducible repeat (first|apply zA|apply zN|apply Kd.R_drew));exact HO_9.out) hb);have n1_:=zM (Kd.R_below (by (with_reducible repeat (first|apply zA|apply zN|apply Kd.R_drew));exact HO_11.out) hb);have n2_:=zM (Kd.R_below (by (with_reducible repeat (first|apply zA|apply zN|apply Kd.R_drew));exact HO_13.out) hb);have n3_:=zM (Kd.R_below (by (with_reducible repeat (first|apply zA|apply zN|apply Kd.R_drew));exact HO238.out) hb);have n4_:=zM (below_step (by repeat (first|(with_reducible first|exact HB.out|apply zB|apply zC|apply zE)|exact HB.out)) hb);clear HO_9;clear HO_11;clear HO_13;clear HO238;clear HB;have HO_9:=n0_;have HO_11:=n1_;have HO_13:=n2_;have HO238:=n3_;have HB:=n4_;clear n0_ n1_ n2_ n3_ n4_;(try clear hb);(try clear hb2);(try clear hk);(try clear hi)));try go_wp2_with (first|((with_reducible refine gate_dst (N:=132) rfl ?_);(try (refine gate_guard (by rfl) ?_;dsimp only));refine Kd.R_lit (Kd.int .i64) _ 3 ?hg (N:=132) ?hd (xs:=([] : List Int)) (inner:=[]) (ok:=fun _=>True) (okp:=fun _=>True) ?hr ?hp (fun _ hk=>hk) trivial (Below.refl _ _) (Nat.le_refl _) (by simp) ?_;(case hd=>rfl);(case hg=>rfl);(case hr=>first|(go_simp;done)|(go_simp;rfl));(case hp=>exact (Reps.none _ _));intro v234 w75 ho76 hb hg_ hnew_;clear hg_ hnew_;(first|rw [← Ny233.out] at ho76|(simp only [Int.reduceToNat] at ho76;rw [← Ny233.out] at ho76));have n0_:=zM (Kd.R_elder' (by (with_reducible repeat (first|apply zA|apply zN|apply Kd.R_drew));exact HO_9.out) (Kd.R_base ho76) hb);have n1_:=zM (Kd.R_elder' (by (with_reducible repeat (first|apply zA|apply zN|apply Kd.R_drew));exact HO_11.out) (Kd.R_base ho76) hb);have n2_:=zM (Kd.R_elder' (by (with_reducible repeat (first|apply zA|apply zN|apply Kd.R_drew));exact HO_13.out) (Kd.R_base ho76) hb);have n3_:=zM (Kd.R_lower (Kd.R_new' (Kd.R_new' (Kd.R_new' ho76 (Kd.R_lt (by (with_reducible repeat (first|apply zA|apply zN|apply Kd.R_drew));exact HO_9.out))) (Kd.R_lt (by (with_reducible repeat (first|apply zA|apply zN|apply Kd.R_drew));exact HO_11.out))) (Kd.R_lt (by (with_reducible repeat (first|apply zA|apply zN|apply Kd.R_drew));exact HO_13.out))) (below_size (by repeat (first|(with_reducible first|exact HB.out|apply zB|apply zC|apply zE)|exact HB.out))));have n4_:=zM (below_step (by repeat (first|(with_reducible first|exact HB.out|apply zB|apply zC|apply zE)|exact HB.out)) hb);clear HO_9;clear HO_11;clear HO_13;clear HB;have HO_9:=n0_;have HO_11:=n1_;have HO_13:=n2_;have HO235:=n3_;have HB:=n4_;clear n0_ n1_ n2_ n3_ n4_;clear hb ho76;obtain ⟨Ao78, co78, eo78⟩:=Kd.R_slice HO_11.out;subst eo78)|((with_reducible refine gate_builtin (b:=.append) (xs:=#[.tmp 132, .tmp 133]) rfl ?_);(try (refine gate_guard (by rfl) ?_;dsimp only));at_builtin;refine Kd.R_append_rows (Kd.int .i64) (w0:=w) w.heap.size rfl (.tmp 132) (.tmp 133) 22 3 (.int .i64 0) 8 rfl Try.underlying22 info3 rfl (by decide) (by omega) v234 y233 t212 _ _ _ (fun k_=>some k_≠(.slice Ao13 t209.length co13 : Value).ownBlock∧some k_≠(.slice Ao78 t212.length co78 : Value).ownBlock∧some k_≠(v218 : Value).ownBlock) (fun _=>False) rfl rfl ?aO ?aR (fun _ _ h=>h) (fun _ h=>h.elim) ?aF ?aB ?aS ?aL ?_;(case aR=>repeat (first|exact (zR HO_11.out).2.2|(with_reducible refine Kd.C_alloc ?_ _)|(with_reducible refine Kd.C_drewN ?_ _)|(with_reducible refine Kd.C_drew ?_)));(case aB=>exact (by repeat (first|(with_reducible first|exact HB.out|apply zB|apply zC|apply zE)|exact HB.out)));(case aF=>exact (fun k_ hk=>⟨Kd.fresh' (Kd.R_lt (by (with_reducible repeat (first|apply zA|apply zN|apply Kd.R_drew));exact HO_9.out)) k_ hk, Kd.fresh' (Kd.R_lt (by (with_reducible repeat (first|apply zA|apply zN|apply Kd.R_drew));exact HO_11.out)) k_ hk, Kd.fresh' (Kd.R_lt (by (with_reducible repeat (first|apply zA|apply zN|apply Kd.R_drew));exact HO_13.out)) k_ hk⟩));(case aO=>exact (by (with_reducible repeat (first|apply zA|apply zN|apply Kd.R_drew));exact Kd.R_mono HO235.out (fun _ hk=>⟨hk.1.1.2, ⟨hk.1.2, hk.2⟩⟩)));(case aS=>exact (below_size (by repeat (first|(with_reducible first|exact HB.out|apply zB|apply zC|apply zE)|exact HB.out))));(case aL=>have:=LMc58.out;omega);intro v237 w77 ho hb hg hat;rw [← Ny236.out] at ho;have n0_:=zM (zF (ok:=(fun k_=>some k_≠(.slice Ao78 t212.length co78 : Value).ownBlock∧some k_≠(v218 : Value).ownBlock)) (by (with_reducible repeat (first|apply zA|apply zN|apply Kd.R_drew));exact HO_9.out) hg hat);have n1_:=zM (zF (ok:=(fun k_=>some k_≠(.slice Ao13 t209.length co13 : Value).ownBlock∧some k_≠(v218 : Value).ownBlock)) (by (with_reducible repeat (first|apply zA|apply zN|apply Kd.R_drew));exact HO_11.out) hg hat);have n2_:=zM (zF (ok:=(fun k_=>some k_≠(.slice Ao13 t209.length co13 : Value).ownBlock∧some k_≠(.slice Ao78 t212.length co78 : Value).ownBlock)) (by (with_reducible repeat (first|apply zA|apply zN|apply Kd.R_drew));exact HO_13.out) hg hat);have n3_:=zM (hb);have n4_:=zM (ho);clear HO_9;clear HO_11;clear HO_13;clear HB;clear HO235;have HO_9:=n0_;have HO_11:=n1_;have HO_13:=n2_;have HB:=n3_;have HO238:=n4_;clear n0_ n1_ n2_ n3_ n4_;clear ho hb hg hat;have p239 : 0 ≤ ((ji59) : Int):=zO (by first|(with_reducible assumption)|assumption);have q239 : (ji59) < (t212.length : Int):=zO (by first|(with_reducible assumption)|assumption);obtain ⟨ad239, e239, hx239_0⟩:=Kd.at_int (zR HO_11.out).2.2 (ji59) p239 q239;cases e239;replace p239:=eq_true p239;replace q239:=eq_true q239;have p65 : 0 ≤ ((ji62) : Int):=zO (by first|(with_reducible assumption)|assumption);have q65 : ((ji62) : Int) < ((y236.length : Int) : Int):=zO (by first|(with_reducible assumption)|assumption);obtain ⟨go65, co65, eo65, gb65, gl65, cl65, HG65⟩:=Kd.R_form HO238.out (by omega);(first|cases eo65|(injection eo65 with ea_ en_ ec_;(first|subst ea_|(injection ea_ with ea_;subst ea_));subst ec_;clear en_));have GB65:=zM gb65;have GG65:=zM HG65;clear gb65 gl65 HG65;obtain ⟨hx65_0, hf65_0⟩:=Kd.R_celln 0 HO238.out ((ji62) : Int) p65 q65;replace p65:=eq_true p65;replace q65:=eq_true q65;obtain ⟨hy79_, hz79_⟩:=Kd.R_celln 0 HO238.out ((ji62) : Int) (zO (by first|(with_reducible assumption)|assumption)) (zO (by first|(with_reducible assumption)|assumption));have HP79:=Kd.R_putg HO238.out ((ji62) : Int) (rd t212 (ji59)))|((with_reducible refine gate_store (t:=3) (p:=147) rfl ?_);(try (rw [drewN_self w77];generalize hq_ : World.drewN w77 _ = w77;have n0_:=zM (Kd.R_at hq_ HO_9.out);have n1_:=zM (Kd.R_at hq_ HO_11.out);have n2_:=zM (Kd.R_at hq_ HO_13.out);have n3_:=zM (Kd.R_at hq_ HO238.out);have n4_:=zM (below_at hq_ HB.out);clear hq_ HO_9 HO_11 HO_13 HO238 HB;have HO_9:=n0_;have HO_11:=n1_;have HO_13:=n2_;have HO238:=n3_;have HB:=n4_;clear n0_ n1_ n2_ n3_ n4_;(try (obtain ⟨hy79_, hz79_⟩:=Kd.R_celln 0 HO238.out ((ji62) : Int) (zO (by first|(with_reducible assumption)|assumption)) (zO (by first|(with_reducible assumption)|assumption))));(try (have HP79:=Kd.R_putg HO238.out ((ji62) : Int) (rd t212 (ji59))))));refine store_event (t:=3) (p:=147) (v:=?vo_w80) (w1:=(w77.setCell ⟨go65, ((ji62) : Int).toNat, none⟩ (.int .i64 (rd t212 (ji59))))) ?hg ?ho ?hn ?hr ?_;(case ho=>rfl);(case hg=>rfl);(case hn=>rfl);(case hr=>first|(go_simp;done)|(go_simp;rfl));intro w80 hw;have hg : w77.grownBy w80 (some go65):=(by rw [hw];exact HP79.2);have hp_ : Kd.R (Kd.int .i64) 3 w80 w.heap.size (fun k_=>some k_≠(.slice Ao13 t209.length co13 : Value).ownBlock∧some k_≠(.slice (some ad239) t212.length co78 : Value).ownBlock∧some k_≠(v218 : Value).ownBlock) (.slice (some ⟨go65, 0, none⟩) y236.length co65) y240:=(by rw [hw, Ny240.out];exact HP79.1);clear HP79;have n0_:=zM (zF (v:=(.slice (some ⟨go65, 0, none⟩) y236.length co65)) (v1:=(.slice (some ⟨go65, 0, none⟩) y236.length co65)) (ok:=(fun k_=>some k_≠(.slice (some ad239) t212.length co78 : Value).ownBlock∧some k_≠(v218 : Value).ownBlock)) (by (with_reducible repeat (first|apply zA|apply zN|apply Kd.R_drew));exact HO_9.out) hg (.inl rfl));have n1_:=zM (zF (v:=(.slice (some ⟨go65, 0, none⟩) y236.length co65)) (v1:=(.slice (some ⟨go65, 0, none⟩) y236.length co65)) (ok:=(fun k_=>some k_≠(.slice Ao13 t209.length co13 : Value).ownBlock∧some k_≠(v218 : Value).ownBlock)) (by (with_reducible repeat (first|apply zA|apply zN|apply Kd.R_drew));exact HO_11.out) hg (.inl rfl));have n2_:=zM (zF (v:=(.slice (some ⟨go65, 0, none⟩) y236.length co65)) (v1:=(.slice (some ⟨go65, 0, none⟩) y236.length co65)) (ok:=(fun k_=>some k_≠(.slice Ao13 t209.length co13 : Value).ownBlock∧some k_≠(.slice (some ad239) t212.length co78 : Value).ownBlock)) (by (with_reducible repeat (first|apply zA|apply zN|apply Kd.R_drew));exact HO_13.out) hg (.inl rfl));have n3_:=zM (hp_);have n4_:=zM ((by rw [hw];exact below_set (HB.out) GB65.out : Below w.heap.size w w80));clear HO_9;clear HO_11;clear HO_13;clear HO238;clear HB;have HO_9:=n0_;have HO_11:=n1_;have HO_13:=n2_;have HO238:=n3_;have HB:=n4_;clear n0_ n1_ n2_ n3_ n4_;clear hg hw hp_;have p241 : 0 ≤ ((ji62) : Int):=zO (by first|(with_reducible assumption)|assumption);have q241 : (ji62) < (t212.length : Int):=zO (by first|(with_reducible assumption)|assumption);obtain ⟨ad241, e241, hx241_0⟩:=Kd.at_int (zR HO_11.out).2.2 (ji62) p241 q241;obtain rfl : ad239 = ad241:=(by injection e241);replace p241:=eq_true p241;replace q241:=eq_true q241;have p68 : 0 ≤ ((ji59) : Int):=zO (by first|(with_reducible assumption)|assumption);have q68 : ((ji59) : Int) < ((y236.length : Int) : Int):=zO (by first|(with_reducible assumption)|assumption);obtain ⟨hx68_0, hf68_0⟩:=Kd.R_celln 0 HO238.out ((ji59) : Int) p68 q68;replace p68:=eq_true p68;replace q68:=eq_true q68;obtain ⟨hy81_, hz81_⟩:=Kd.R_celln 0 HO238.out ((ji59) : Int) (zO (by first|(with_reducible assumption)|assumption)) (zO (by first|(with_reducible assumption)|assumption));have HP81:=Kd.R_putg HO238.out ((ji59) : Int) (rd t212 (ji62)))|((with_reducible refine gate_store (t:=3) (p:=154) rfl ?_);(try (rw [drewN_self w80];generalize hq_ : World.drewN w80 _ = w80;have n0_:=zM (Kd.R_at hq_ HO_9.out);have n1_:=zM (Kd.R_at hq_ HO_11.out);have n2_:=zM (Kd.R_at hq_ HO_13.out);have n3_:=zM (Kd.R_at hq_ HO238.out);have n4_:=zM (below_at hq_ HB.out);clear hq_ HO_9 HO_11 HO_13 HO238 HB;have HO_9:=n0_;have HO_11:=n1_;have HO_13:=n2_;have HO238:=n3_;have HB:=n4_;clear n0_ n1_ n2_ n3_ n4_;(try (obtain ⟨hy81_, hz81_⟩:=Kd.R_celln 0 HO238.out ((ji59) : Int) (zO (by first|(with_reducible assumption)|assumption)) (zO (by first|(with_reducible assumption)|assumption))));(try (have HP81:=Kd.R_putg HO238.out ((ji59) : Int) (rd t212 (ji62))))));refine store_event (t:=3) (p:=154) (v:=?vo_w82) (w1:=(w80.setCell ⟨go65, ((ji59) : Int).toNat, none⟩ (.int .i64 (rd t212 (ji62))))) ?hg ?ho ?hn ?hr ?_;(case ho=>rfl);(case hg=>rfl);(case hn=>rfl);(case hr=>first|(go_simp;done)|(go_simp;rfl));intro w82 hw;have hg : w80.grownBy w82 (some go65):=(by rw [hw];exact HP81.2);have hp_ : Kd.R (Kd.int .i64) 3 w82 w.heap.size (fun k_=>some k_≠(.slice Ao13 t209.length co13 : Value).ownBlock∧some k_≠(.slice (some ad239) t212.length co78 : Value).ownBlock∧some k_≠(v218 : Value).ownBlock) (.slice (some ⟨go65, 0, none⟩) y236.length co65) y242:=(by rw [hw, Ny242.out];exact HP81.1);clear HP81;have n0_:=zM (zF (v:=(.slice (some ⟨go65, 0, none⟩) y236.length co65)) (v1:=(.slice (some ⟨go65, 0, none⟩) y236.length co65)) (ok:=(fun k_=>some k_≠(.slice (some ad239) t212.length co78 : Value).ownBlock∧some k_≠(v218 : Value).ownBlock)) (by (with_reducible repeat (first|apply zA|apply zN|apply Kd.R_drew));exact HO_9.out) hg (.inl rfl));have n1_:=zM (zF (v:=(.slice (some ⟨go65, 0, none⟩) y236.length co65)) (v1:=(.slice (some ⟨go65, 0, none⟩) y236.length co65)) (ok:=(fun k_=>some k_≠(.slice Ao13 t209.length co13 : Value).ownBlock∧some k_≠(v218 : Value).ownBlock)) (by (with_reducible repeat (first|apply zA|apply zN|apply Kd.R_drew));exact HO_11.out) hg (.inl rfl));have n2_:=zM (zF (v:=(.slice (some ⟨go65, 0, none⟩) y236.length co65)) (v1:=(.slice (some ⟨go65, 0, none⟩) y236.length co65)) (ok:=(fun k_=>some k_≠(.slice Ao13 t209.length co13 : Value).ownBlock∧some k_≠(.slice (some ad239) t212.length co78 : Value).ownBlock)) (by (with_reducible repeat (first|apply zA|apply zN|apply Kd.R_drew));exact HO_13.out) hg (.inl rfl));have n3_:=zM (hp_);have n4_:=zM ((by rw [hw];exact below_set (HB.out) GB65.out : Below w.heap.size w w82));clear HO_9;clear HO_11;clear HO_13;clear HO238;clear HB;have HO_9:=n0_;have HO_11:=n1_;have HO_13:=n2_;have HO238:=n3_;have HB:=n4_;clear n0_ n1_ n2_ n3_ n4_;clear hg hw hp_;have p243 : 0 ≤ ((ji62) : Int):=zO (by first|(with_reducible assumption)|assumption);have q243 : (ji62) < (t209.length : Int):=zO (by first|(with_reducible assumption)|assumption);obtain ⟨ad243, e243, hx243_0⟩:=Kd.at_int (zR HO_9.out).2.2 (ji62) p243 q243;cases e243;replace p243:=eq_true p243;replace q243:=eq_true q243;obtain ⟨Ao83, co83, eo83⟩:=Kd.R_slice HO_13.out;subst eo83)|(go_at_call 15;(with_reducible refine (merge_Cost.calls _ _ t209 _ _ t216 t244 _ ?side1 ?side2 ?side3 ?side4 A71.out).mono ?_);(case side1=>repeat (first|exact (zR HO_9.out).2.2|(with_reducible refine Kd.C_alloc ?_ _)|(with_reducible refine Kd.C_drewN ?_ _)|(with_reducible refine Kd.C_drew ?_)));(case side2=>exact (zR HO_9.out).2.1);(case side3=>repeat (first|exact (zR HO_13.out).2.2|(with_reducible refine Kd.C_alloc ?_ _)|(with_reducible refine Kd.C_drewN ?_ _)|(with_reducible refine Kd.C_drew ?_)));(case side4=>exact (zR HO_13.out).2.1);rintro e w' ⟨rfl, ⟨nd, rfl⟩⟩;(try first|exact ⟨rfl, _, zW _ _ _⟩|exact ⟨rfl, _, Eq.trans (zW _ _ _) (congrArg (World.drewN _) (Nat.add_assoc _ _ _))⟩))|(go_at_call 15;(with_reducible refine (merge_Cost.calls _ _ t209 _ _ t212 t245 _ ?side1 ?side2 ?side3 ?side4 A72.out).mono ?_);(case side1=>repeat (first|exact (zR HO_9.out).2.2|(with_reducible refine Kd.C_alloc ?_ _)|(with_reducible refine Kd.C_drewN ?_ _)|(with_reducible refine Kd.C_drew ?_)));(case side2=>exact (zR HO_9.out).2.1);(case side3=>repeat (first|exact (zR HO_11.out).2.2|(with_reducible refine Kd.C_alloc ?_ _)|(with_reducible refine Kd.C_drewN ?_ _)|(with_reducible refine Kd.C_drew ?_)));(case side4=>exact (zR HO_11.out).2.1);rintro e w' ⟨rfl, ⟨nd, rfl⟩⟩;(try first|exact ⟨rfl, _, zW _ _ _⟩|exact ⟨rfl, _, Eq.trans (zW _ _ _) (congrArg (World.drewN _) (Nat.add_assoc _ _ _))⟩))|(go_at_call 10;(with_reducible refine (wringerlaw8_awake.calls  t246 _ A74.out).mono ?_);rintro e w84 ⟨rfl, hb⟩;have n0_:=zM (Kd.R_below (by (with_reducible repeat (first|apply zA|apply zN|apply Kd.R_drew));exact HO_9.out) hb);have n1_:=zM (Kd.R_below (by (with_reducible repeat (first|apply zA|apply zN|apply Kd.R_drew));exact HO_11.out) hb);have n2_:=zM (Kd.R_below (by (with_reducible repeat (first|apply zA|apply zN|apply Kd.R_drew));exact HO_13.out) hb);have n3_:=zM (Kd.R_below (by (with_reducible repeat (first|apply zA|apply zN|apply Kd.R_drew));exact HO238.out) hb);have n4_:=zM (below_step (by repeat (first|(with_reducible first|exact HB.out|apply zB|apply zC|apply zE)|exact HB.out)) hb);clear HO_9;clear HO_11;clear HO_13;clear HO238;clear HB;have HO_9:=n0_;have HO_11:=n1_;have HO_13:=n2_;have HO238:=n3_;have HB:=n4_;clear n0_ n1_ n2_ n3_ n4_;(try clear hb);(try clear hb2);(try clear hk);(try clear hi))))
                  go_ret
                  exact ⟨by first|rfl|(simp [errW_none, errW_some] <;> rfl)|(simp only [← hji59, ← hji62];first|rfl|(simp [errW_none, errW_some] <;> rfl))|(simp [*, errW_none, errW_some] <;> rfl), by repeat (first|(with_reducible first|exact HB.out|apply zB|apply zC|apply zE)|exact HB.out)⟩
                 ·rw [if_neg c73] at H
                  have c73b0 : decide (t244 ≤ t245) = false:=decide_eq_false c73
                  clear c73
                  exact absurd ((Option.some.inj H).trans HR1.out) (by decide)
                ·rw [if_neg c70] at H
                 have c70b0 : ((rd t209 (ji62)) == 0) = false:=beq_eq_false_iff_ne.mpr c70
                 have c70b1 : ((rd t209 (ji62)) != 0) = true:=bne_iff_ne.mpr c70
                 by_cases c94 : (ji59) < (t209.length : Int)
                 ·rw [if_pos c94] at H
                  have c94b0 : decide ((ji59) < (t209.length : Int)) = true:=decide_eq_true c94
                  clear c94
                  by_cases c95 : (rd t209 (ji59)) = 0
                  ·rw [if_pos c95] at H
                   have c95b0 : ((rd t209 (ji59)) == 0) = true:=beq_iff_eq.mpr c95
                   have c95b1 : ((rd t209 (ji59)) != 0) = false:=bne_eq_false_iff_eq.mpr c95
                   clear c95
                   replace H:=Option.bind_eq_some_iff.mp H
                   obtain ⟨t248, A960, H⟩:=H
                   replace H : ((merge_Cost.f t209 t212).bind fun t249=>(if t248 ≤ t249 then ((wringerlaw8_awake.f).bind fun t250=>(some t250)) else (some false))) = some r:=H
                   have A96:=zM A960
                   clear A960
                   replace H:=Option.bind_eq_some_iff.mp H
                   obtain ⟨t249, A970, H⟩:=H
                   replace H : (if t248 ≤ t249 then ((wringerlaw8_awake.f).bind fun t250=>(some t250)) else (some false)) = some r:=H
                   have A97:=zM A970
                   clear A970
                   by_cases c98 : t248 ≤ t249
                   ·rw [if_pos c98] at H
                    have c98b0 : decide (t248 ≤ t249) = true:=decide_eq_true c98
                    clear c98
                    replace H:=Option.bind_eq_some_iff.mp H
                    obtain ⟨t250, A990, H⟩:=H
                    replace H : (some t250) = some r:=H
                    have A99:=zM A990
                    clear A990
                    obtain rfl:=Option.some.inj H
                    go_wp2_with (first|((with_reducible refine gate_dst (N:=132) rfl ?_);(try (refine gate_guard (by rfl) ?_;dsimp only));refine Kd.R_lit (Kd.int .i64) _ 3 ?hg (N:=132) ?hd (xs:=([] : List Int)) (inner:=[]) (ok:=fun _=>True) (okp:=fun _=>True) ?hr ?hp (fun _ hk=>hk) trivial (Below.refl _ _) (Nat.le_refl _) (by simp) ?_;(case hd=>rfl);(case hg=>rfl);(case hr=>first|(go_simp;done)|(go_simp;rfl));(case hp=>exact (Reps.none _ _));intro v234 w100 ho101 hb hg_ hnew_;clear hg_ hnew_;(first|rw [← Ny233.out] at ho101|(simp only [Int.reduceToNat] at ho101;rw [← Ny233.out] at ho101));have n0_:=zM (Kd.R_elder' (by (with_reducible repeat (first|apply zA|apply zN|apply Kd.R_drew));exact HO_9.out) (Kd.R_base ho101) hb);have n1_:=zM (Kd.R_elder' (by (with_reducible repeat (first|apply zA|apply zN|apply Kd.R_drew));exact HO_11.out) (Kd.R_base ho101) hb);have n2_:=zM (Kd.R_elder' (by (with_reducible repeat (first|apply zA|apply zN|apply Kd.R_drew));exact HO_13.out) (Kd.R_base ho101) hb);have n3_:=zM (Kd.R_lower (Kd.R_new' (Kd.R_new' (Kd.R_new' ho101 (Kd.R_lt (by (with_reducible repeat (first|apply zA|apply zN|apply Kd.R_drew));exact HO_9.out))) (Kd.R_lt (by (with_reducible repeat (first|apply zA|apply zN|apply Kd.R_drew));exact HO_11.out))) (Kd.R_lt (by (with_reducible repeat (first|apply zA|apply zN|apply Kd.R_drew));exact HO_13.out))) (below_size (by repeat (first|(with_reducible first|exact HB.out|apply zB|apply zC|apply zE)|exact HB.out))));have n4_:=zM (below_step (by repeat (first|(with_reducible first|exact HB.out|apply zB|apply zC|apply zE)|exact HB.out)) hb);clear HO_9;clear HO_11;clear HO_13;clear HB;have HO_9:=n0_;have HO_11:=n1_;have HO_13:=n2_;have HO235:=n3_;have HB:=n4_;clear n0_ n1_ n2_ n3_ n4_;clear hb ho101;obtain ⟨Ao103, co103, eo103⟩:=Kd.R_slice HO_11.out;subst eo103)|((with_reducible refine gate_builtin (b:=.append) (xs:=#[.tmp 132, .tmp 133]) rfl ?_);(try (refine gate_guard (by rfl) ?_;dsimp only));at_builtin;refine Kd.R_append_rows (Kd.int .i64) (w0:=w) w.heap.size rfl (.tmp 132) (.tmp 133) 22 3 (.int .i64 0) 8 rfl Try.underlying22 info3 rfl (by decide) (by omega) v234 y233 t212 _ _ _ (fun k_=>some k_≠(.slice Ao13 t209.length co13 : Value).ownBlock∧some k_≠(.slice Ao103 t212.length co103 : Value).ownBlock∧some k_≠(v218 : Value).ownBlock) (fun _=>False) rfl rfl ?aO ?aR (fun _ _ h=>h) (fun _ h=>h.elim) ?aF ?aB ?aS ?aL ?_;(case aR=>repeat (first|exact (zR HO_11.out).2.2|(with_reducible refine Kd.C_alloc ?_ _)|(with_reducible refine Kd.C_drewN ?_ _)|(with_reducible refine Kd.C_drew ?_)));(case aB=>exact (by repeat (first|(with_reducible first|exact HB.out|apply zB|apply zC|apply zE)|exact HB.out)));(case aF=>exact (fun k_ hk=>⟨Kd.fresh' (Kd.R_lt (by (with_reducible repeat (first|apply zA|apply zN|apply Kd.R_drew));exact HO_9.out)) k_ hk, Kd.fresh' (Kd.R_lt (by (with_reducible repeat (first|apply zA|apply zN|apply Kd.R_drew));exact HO_11.out)) k_ hk, Kd.fresh' (Kd.R_lt (by (with_reducible repeat (first|apply zA|apply zN|apply Kd.R_drew));exact HO_13.out)) k_ hk⟩));(case aO=>exact (by (with_reducible repeat (first|apply zA|apply zN|apply Kd.R_drew));exact Kd.R_mono HO235.out (fun _ hk=>⟨hk.1.1.2, ⟨hk.1.2, hk.2⟩⟩)));(case aS=>exact (below_size (by repeat (first|(with_reducible first|exact HB.out|apply zB|apply zC|apply zE)|exact HB.out))));(case aL=>have:=LMc58.out;omega);intro v237 w102 ho hb hg hat;rw [← Ny236.out] at ho;have n0_:=zM (zF (ok:=(fun k_=>some k_≠(.slice Ao103 t212.length co103 : Value).ownBlock∧some k_≠(v218 : Value).ownBlock)) (by (with_reducible repeat (first|apply zA|apply zN|apply Kd.R_drew));exact HO_9.out) hg hat);have n1_:=zM (zF (ok:=(fun k_=>some k_≠(.slice Ao13 t209.length co13 : Value).ownBlock∧some k_≠(v218 : Value).ownBlock)) (by (with_reducible repeat (first|apply zA|apply zN|apply Kd.R_drew));exact HO_11.out) hg hat);have n2_:=zM (zF (ok:=(fun k_=>some k_≠(.slice Ao13 t209.length co13 : Value).ownBlock∧some k_≠(.slice Ao103 t212.length co103 : Value).ownBlock)) (by (with_reducible repeat (first|apply zA|apply zN|apply Kd.R_drew));exact HO_13.out) hg hat);have n3_:=zM (hb);have n4_:=zM (ho);clear HO_9;clear HO_11;clear HO_13;clear HB;clear HO235;have HO_9:=n0_;have HO_11:=n1_;have HO_13:=n2_;have HB:=n3_;have HO238:=n4_;clear n0_ n1_ n2_ n3_ n4_;clear ho hb hg hat;have p239 : 0 ≤ ((ji59) : Int):=zO (by first|(with_reducible assumption)|assumption);have q239 : (ji59) < (t212.length : Int):=zO (by first|(with_reducible assumption)|assumption);obtain ⟨ad239, e239, hx239_0⟩:=Kd.at_int (zR HO_11.out).2.2 (ji59) p239 q239;cases e239;replace p239:=eq_true p239;replace q239:=eq_true q239;have p65 : 0 ≤ ((ji62) : Int):=zO (by first|(with_reducible assumption)|assumption);have q65 : ((ji62) : Int) < ((y236.length : Int) : Int):=zO (by first|(with_reducible assumption)|assumption);obtain ⟨go65, co65, eo65, gb65, gl65, cl65, HG65⟩:=Kd.R_form HO238.out (by omega);(first|cases eo65|(injection eo65 with ea_ en_ ec_;(first|subst ea_|(injection ea_ with ea_;subst ea_));subst ec_;clear en_));have GB65:=zM gb65;have GG65:=zM HG65;clear gb65 gl65 HG65;obtain ⟨hx65_0, hf65_0⟩:=Kd.R_celln 0 HO238.out ((ji62) : Int) p65 q65;replace p65:=eq_true p65;replace q65:=eq_true q65;obtain ⟨hy104_, hz104_⟩:=Kd.R_celln 0 HO238.out ((ji62) : Int) (zO (by first|(with_reducible assumption)|assumption)) (zO (by first|(with_reducible assumption)|assumption));have HP104:=Kd.R_putg HO238.out ((ji62) : Int) (rd t212 (ji59)))|((with_reducible refine gate_store (t:=3) (p:=147) rfl ?_);(try (rw [drewN_self w102];generalize hq_ : World.drewN w102 _ = w102;have n0_:=zM (Kd.R_at hq_ HO_9.out);have n1_:=zM (Kd.R_at hq_ HO_11.out);have n2_:=zM (Kd.R_at hq_ HO_13.out);have n3_:=zM (Kd.R_at hq_ HO238.out);have n4_:=zM (below_at hq_ HB.out);clear hq_ HO_9 HO_11 HO_13 HO238 HB;have HO_9:=n0_;have HO_11:=n1_;have HO_13:=n2_;have HO238:=n3_;have HB:=n4_;clear n0_ n1_ n2_ n3_ n4_;(try (obtain ⟨hy104_, hz104_⟩:=Kd.R_celln 0 HO238.out ((ji62) : Int) (zO (by first|(with_reducible assumption)|assumption)) (zO (by first|(with_reducible assumption)|assumption))));(try (have HP104:=Kd.R_putg HO238.out ((ji62) : Int) (rd t212 (ji59))))));refine store_event (t:=3) (p:=147) (v:=?vo_w105) (w1:=(w102.setCell ⟨go65, ((ji62) : Int).toNat, none⟩ (.int .i64 (rd t212 (ji59))))) ?hg ?ho ?hn ?hr ?_;(case ho=>rfl);(case hg=>rfl);(case hn=>rfl);(case hr=>first|(go_simp;done)|(go_simp;rfl));intro w105 hw;have hg : w102.grownBy w105 (some go65):=(by rw [hw];exact HP104.2);have hp_ : Kd.R (Kd.int .i64) 3 w105 w.heap.size (fun k_=>some k_≠(.slice Ao13 t209.length co13 : Value).ownBlock∧some k_≠(.slice (some ad239) t212.length co103 : Value).ownBlock∧some k_≠(v218 : Value).ownBlock) (.slice (some ⟨go65, 0, none⟩) y236.length co65) y240:=(by rw [hw, Ny240.out];exact HP104.1);clear HP104;have n0_:=zM (zF (v:=(.slice (some ⟨go65, 0, none⟩) y236.length co65)) (v1:=(.slice (some ⟨go65, 0, none⟩) y236.length co65)) (ok:=(fun k_=>some k_≠(.slice (some ad239) t212.length co103 : Value).ownBlock∧some k_≠(v218 : Value).ownBlock)) (by (with_reducible repeat (first|apply zA|apply zN|apply Kd.R_drew));exact HO_9.out) hg (.inl rfl));have n1_:=zM (zF (v:=(.slice (some ⟨go65, 0, none⟩) y236.length co65)) (v1:=(.slice (some ⟨go65, 0, none⟩) y236.length co65)) (ok:=(fun k_=>some k_≠(.slice Ao13 t209.length co13 : Value).ownBlock∧some k_≠(v218 : Value).ownBlock)) (by (with_reducible repeat (first|apply zA|apply zN|apply Kd.R_drew));exact HO_11.out) hg (.inl rfl));have n2_:=zM (zF (v:=(.slice (some ⟨go65, 0, none⟩) y236.length co65)) (v1:=(.slice (some ⟨go65, 0, none⟩) y236.length co65)) (ok:=(fun k_=>some k_≠(.slice Ao13 t209.length co13 : Value).ownBlock∧some k_≠(.slice (some ad239) t212.length co103 : Value).ownBlock)) (by (with_reducible repeat (first|apply zA|apply zN|apply Kd.R_drew));exact HO_13.out) hg (.inl rfl));have n3_:=zM (hp_);have n4_:=zM ((by rw [hw];exact below_set (HB.out) GB65.out : Below w.heap.size w w105));clear HO_9;clear HO_11;clear HO_13;clear HO238;clear HB;have HO_9:=n0_;have HO_11:=n1_;have HO_13:=n2_;have HO238:=n3_;have HB:=n4_;clear n0_ n1_ n2_ n3_ n4_;clear hg hw hp_;have p241 : 0 ≤ ((ji62) : Int):=zO (by first|(with_reducible assumption)|assumption);have q241 : (ji62) < (t212.length : Int):=zO (by first|(with_reducible assumption)|assumption);obtain ⟨ad241, e241, hx241_0⟩:=Kd.at_int (zR HO_11.out).2.2 (ji62) p241 q241;obtain rfl : ad239 = ad241:=(by injection e241);replace p241:=eq_true p241;replace q241:=eq_true q241;have p68 : 0 ≤ ((ji59) : Int):=zO (by first|(with_reducible assumption)|assumption);have q68 : ((ji59) : Int) < ((y236.length : Int) : Int):=zO (by first|(with_reducible assumption)|assumption);obtain ⟨hx68_0, hf68_0⟩:=Kd.R_celln 0 HO238.out ((ji59) : Int) p68 q68;replace p68:=eq_true p68;replace q68:=eq_true q68;obtain ⟨hy106_, hz106_⟩:=Kd.R_celln 0 HO238.out ((ji59) : Int) (zO (by first|(with_reducible assumption)|assumption)) (zO (by first|(with_reducible assumption)|assumption));have HP106:=Kd.R_putg HO238.out ((ji59) : Int) (rd t212 (ji62)))|((with_reducible refine gate_store (t:=3) (p:=154) rfl ?_);(try (rw [drewN_self w105];generalize hq_ : World.drewN w105 _ = w105;have n0_:=zM (Kd.R_at hq_ HO_9.out);have n1_:=zM (Kd.R_at hq_ HO_11.out);have n2_:=zM (Kd.R_at hq_ HO_13.out);have n3_:=zM (Kd.R_at hq_ HO238.out);have n4_:=zM (below_at hq_ HB.out);clear hq_ HO_9 HO_11 HO_13 HO238 HB;have HO_9:=n0_;have HO_11:=n1_;have HO_13:=n2_;have HO238:=n3_;have HB:=n4_;clear n0_ n1_ n2_ n3_ n4_;(try (obtain ⟨hy106_, hz106_⟩:=Kd.R_celln 0 HO238.out ((ji59) : Int) (zO (by first|(with_reducible assumption)|assumption)) (zO (by first|(with_reducible assumption)|assumption))));(try (have HP106:=Kd.R_putg HO238.out ((ji59) : Int) (rd t212 (ji62))))));refine store_event (t:=3) (p:=154) (v:=?vo_w107) (w1:=(w105.setCell ⟨go65, ((ji59) : Int).toNat, none⟩ (.int .i64 (rd t212 (ji62))))) ?hg ?ho ?hn ?hr ?_;(case ho=>rfl);(case hg=>rfl);(case hn=>rfl);(case hr=>first|(go_simp;done)|(go_simp;rfl));intro w107 hw;have hg : w105.grownBy w107 (some go65):=(by rw [hw];exact HP106.2);have hp_ : Kd.R (Kd.int .i64) 3 w107 w.heap.size (fun k_=>some k_≠(.slice Ao13 t209.length co13 : Value).ownBlock∧some k_≠(.slice (some ad239) t212.length co103 : Value).ownBlock∧some k_≠(v218 : Value).ownBlock) (.slice (some ⟨go65, 0, none⟩) y236.length co65) y242:=(by rw [hw, Ny242.out];exact HP106.1);clear HP106;have n0_:=zM (zF (v:=(.slice (some ⟨go65, 0, none⟩) y236.length co65)) (v1:=(.slice (some ⟨go65, 0, none⟩) y236.length co65)) (ok:=(fun k_=>some k_≠(.slice (some ad239) t212.length co103 : Value).ownBlock∧some k_≠(v218 : Value).ownBlock)) (by (with_reducible repeat (first|apply zA|apply zN|apply Kd.R_drew));exact HO_9.out) hg (.inl rfl));have n1_:=zM (zF (v:=(.slice (some ⟨go65, 0, none⟩) y236.length co65)) (v1:=(.slice (some ⟨go65, 0, none⟩) y236.length co65)) (ok:=(fun k_=>some k_≠(.slice Ao13 t209.length co13 : Value).ownBlock∧some k_≠(v218 : Value).ownBlock)) (by (with_reducible repeat (first|apply zA|apply zN|apply Kd.R_drew));exact HO_11.out) hg (.inl rfl));have n2_:=zM (zF (v:=(.slice (some ⟨go65, 0, none⟩) y236.length co65)) (v1:=(.slice (some ⟨go65, 0, none⟩) y236.length co65)) (ok:=(fun k_=>some k_≠(.slice Ao13 t209.length co13 : Value).ownBlock∧some k_≠(.slice (some ad239) t212.length co103 : Value).ownBlock)) (by (with_reducible repeat (first|apply zA|apply zN|apply Kd.R_drew));exact HO_13.out) hg (.inl rfl));have n3_:=zM (hp_);have n4_:=zM ((by rw [hw];exact below_set (HB.out) GB65.out : Below w.heap.size w w107));clear HO_9;clear HO_11;clear HO_13;clear HO238;clear HB;have HO_9:=n0_;have HO_11:=n1_;have HO_13:=n2_;have HO238:=n3_;have HB:=n4_;clear n0_ n1_ n2_ n3_ n4_;clear hg hw hp_;have p243 : 0 ≤ ((ji62) : Int):=zO (by first|(with_reducible assumption)|assumption);have q243 : (ji62) < (t209.length : Int):=zO (by first|(with_reducible assumption)|assumption);obtain ⟨ad243, e243, hx243_0⟩:=Kd.at_int (zR HO_9.out).2.2 (ji62) p243 q243;cases e243;replace p243:=eq_true p243;replace q243:=eq_true q243;have p247 : 0 ≤ ((ji59) : Int):=zO (by first|(with_reducible assumption)|assumption);have q247 : (ji59) < (t209.length : Int):=zO (by first|(with_reducible assumption)|assumption);obtain ⟨ad247, e247, hx247_0⟩:=Kd.at_int (zR HO_9.out).2.2 (ji59) p247 q247;obtain rfl : ad243 = ad247:=(by injection e247);replace p247:=eq_true p247;replace q247:=eq_true q247;obtain ⟨Ao108, co108, eo108⟩:=Kd.R_slice HO_13.out;subst eo108)|(go_at_call 15;(with_reducible refine (merge_Cost.calls _ _ t209 _ _ t216 t248 _ ?side1 ?side2 ?side3 ?side4 A96.out).mono ?_);(case side1=>repeat (first|exact (zR HO_9.out).2.2|(with_reducible refine Kd.C_alloc ?_ _)|(with_reducible refine Kd.C_drewN ?_ _)|(with_reducible refine Kd.C_drew ?_)));(case side2=>exact (zR HO_9.out).2.1);(case side3=>repeat (first|exact (zR HO_13.out).2.2|(with_reducible refine Kd.C_alloc ?_ _)|(with_reducible refine Kd.C_drewN ?_ _)|(with_reducible refine Kd.C_drew ?_)));(case side4=>exact (zR HO_13.out).2.1);rintro e w' ⟨rfl, ⟨nd, rfl⟩⟩;(try first|exact ⟨rfl, _, zW _ _ _⟩|exact ⟨rfl, _, Eq.trans (zW _ _ _) (congrArg (World.drewN _) (Nat.add_assoc _ _ _))⟩))|(go_at_call 15;(with_reducible refine (merge_Cost.calls _ _ t209 _ _ t212 t249 _ ?side1 ?side2 ?side3 ?side4 A97.out).mono ?_);(case side1=>repeat (first|exact (zR HO_9.out).2.2|(with_reducible refine Kd.C_alloc ?_ _)|(with_reducible refine Kd.C_drewN ?_ _)|(with_reducible refine Kd.C_drew ?_)));(case side2=>exact (zR HO_9.out).2.1);(case side3=>repeat (first|exact (zR HO_11.out).2.2|(with_reducible refine Kd.C_alloc ?_ _)|(with_reducible refine Kd.C_drewN ?_ _)|(with_reducible refine Kd.C_drew ?_)));(case side4=>exact (zR HO_11.out).2.1);rintro e w' ⟨rfl, ⟨nd, rfl⟩⟩;(try first|exact ⟨rfl, _, zW _ _ _⟩|exact ⟨rfl, _, Eq.trans (zW _ _ _) (congrArg (World.drewN _) (Nat.add_assoc _ _ _))⟩))|(go_at_call 10;(with_reducible refine (wringerlaw8_awake.calls  t250 _ A99.out).mono ?_);rintro e w109 ⟨rfl, hb⟩;have n0_:=zM (Kd.R_below (by (with_reducible repeat (first|apply zA|apply zN|apply Kd.R_drew));exact HO_9.out) hb);have n1_:=zM (Kd.R_below (by (with_reducible repeat (first|apply zA|apply zN|apply Kd.R_drew));exact HO_11.out) hb);have n2_:=zM (Kd.R_below (by (with_reducible repeat (first|apply zA|apply zN|apply Kd.R_drew));exact HO_13.out) hb);have n3_:=zM (Kd.R_below (by (with_reducible repeat (first|apply zA|apply zN|apply Kd.R_drew));exact HO238.out) hb);have n4_:=zM (below_step (by repeat (first|(with_reducible first|exact HB.out|apply zB|apply zC|apply zE)|exact HB.out)) hb);clear HO_9;clear HO_11;clear HO_13;clear HO238;clear HB;have HO_9:=n0_;have HO_11:=n1_;have HO_13:=n2_;have HO238:=n3_;have HB:=n4_;clear n0_ n1_ n2_ n3_ n4_;(try clear hb);(try clear hb2);(try clear hk);(try clear hi)))
                    repeat (go_quiet (first|((with_reducible refine gate_dst (N:=132) rfl ?_);(try (refine gate_guard (by rfl) ?_;dsimp only));refine Kd.R_lit (Kd.int .i64) _ 3 ?hg (N:=132) ?hd (xs:=([] : List Int)) (inner:=[]) (ok:=fun _=>True) (okp:=fun _=>True) ?hr ?hp (fun _ hk=>hk) trivial (Below.refl _ _) (Nat.le_refl _) (by simp) ?_;(case hd=>rfl);(case hg=>rfl);(case hr=>first|(go_simp;done)|(go_simp;rfl));(case hp=>exact (Reps.none _ _));intro v234 w100 ho101 hb hg_ hnew_;clear hg_ hnew_;(first|rw [← Ny233.out] at ho101|(simp only [Int.reduceToNat] at ho101;rw [← Ny233.out] at ho101));have n0_:=zM (Kd.R_elder' (by (with_reducible repeat (first|apply zA|apply zN|apply Kd.R_drew));exact HO_9.out) (Kd.R_base ho101) hb);have n1_:=zM (Kd.R_elder' (by (with_reducible repeat (first|apply zA|apply zN|apply Kd.R_drew));exact HO_11.out) (Kd.R_base ho101) hb);have n2_:=zM (Kd.R_elder' (by (with_reducible repeat (first|apply zA|apply zN|apply Kd.R_drew));exact HO_13.out) (Kd.R_base ho101) hb);have n3_:=zM (Kd.R_lower (Kd.R_new' (Kd.R_new' (Kd.R_new' ho101 (Kd.R_lt (by (with_reducible repeat (first|apply zA|apply zN|apply Kd.R_drew));exact HO_9.out))) (Kd.R_lt (by (with_reducible repeat (first|apply zA|apply zN|apply Kd.R_drew));exact HO_11.out))) (Kd.R_lt (by (with_reducible repeat (first|apply zA|apply zN|apply Kd.R_drew));exact HO_13.out))) (below_size (by repeat (first|(with_reducible first|exact HB.out|apply zB|apply zC|apply zE)|exact HB.out))));have n4_:=zM (below_step (by repeat (first|(with_reducible first|exact HB.out|apply zB|apply zC|apply zE)|exact HB.out)) hb);clear HO_9;clear HO_11;clear HO_13;clear HB;have HO_9:=n0_;have HO_11:=n1_;have HO_13:=n2_;have HO235:=n3_;have HB:=n4_;clear n0_ n1_ n2_ n3_ n4_;clear hb ho101;obtain ⟨Ao103, co103, eo103⟩:=Kd.R_slice HO_11.out;subst eo103)|((with_reducible refine gate_builtin (b:=.append) (xs:=#[.tmp 132, .tmp 133]) rfl ?_);(try (refine gate_guard (by rfl) ?_;dsimp only));at_builtin;refine Kd.R_append_rows (Kd.int .i64) (w0:=w) w.heap.size rfl (.tmp 132) (.tmp 133) 22 3 (.int .i64 0) 8 rfl Try.underlying22 info3 rfl (by decide) (by omega) v234 y233 t212 _ _ _ (fun k_=>some k_≠(.slice Ao13 t209.length co13 : Value).ownBlock∧some k_≠(.slice Ao103 t212.length co103 : Value).ownBlock∧some k_≠(v218 : Value).ownBlock) (fun _=>False) rfl rfl ?aO ?aR (fun _ _ h=>h) (fun _ h=>h.elim) ?aF ?aB ?aS ?aL ?_;(case aR=>repeat (first|exact (zR HO_11.out).2.2|(with_reducible refine Kd.C_alloc ?_ _)|(with_reducible refine Kd.C_drewN ?_ _)|(with_reducible refine Kd.C_drew ?_)));(case aB=>exact (by repeat (first|(with_reducible first|exact HB.out|apply zB|apply zC|apply zE)|exact HB.out)));(case aF=>exact (fun k_ hk=>⟨Kd.fresh' (Kd.R_lt (by (with_reducible repeat (first|apply zA|apply zN|apply Kd.R_drew));exact HO_9.out)) k_ hk, Kd.fresh' (Kd.R_lt (by (with_reducible repeat (first|apply zA|apply zN|apply Kd.R_drew));exact HO_11.out)) k_ hk, Kd.fresh' (Kd.R_lt (by (with_reducible repeat (first|apply zA|apply zN|apply Kd.R_drew));exact HO_13.out)) k_ hk⟩));(case aO=>exact (by (with_reducible repeat (first|apply zA|apply zN|apply Kd.R_drew));exact Kd.R_mono HO235.out (fun _ hk=>⟨hk.1.1.2, ⟨hk.1.2, hk.2⟩⟩)));(case aS=>exact (below_size (by repeat (first|(with_reducible first|exact HB.out|apply zB|apply zC|apply zE)|exact HB.out))));(case aL=>have:=LMc58.out;omega);intro v237 w102 ho hb hg hat;rw [← Ny236.out] at ho;have n0_:=zM (zF (ok:=(fun k_=>some k_≠(.slice Ao103 t212.length co103 : Value).ownBlock∧some k_≠(v218 : Value).ownBlock)) (by (with_reducible repeat (first|apply zA|apply zN|apply Kd.R_drew));exact HO_9.out) hg hat);have n1_:=zM (zF (ok:=(fun k_=>some k_≠(.slice Ao13 t209.length co13 : Value).ownBlock∧some k_≠(v218 : Value).ownBlock)) (by (with_reducible repeat (first|apply zA|apply zN|apply Kd.R_drew));exact HO_11.out) hg hat);have n2_:=zM (zF (ok:=(fun k_=>some k_≠(.slice Ao13 t209.length co13 : Value).ownBlock∧some k_≠(.slice Ao103 t212.length co103 : Value).ownBlock)) (by (with_reducible repeat (first|apply zA|apply zN|apply Kd.R_drew));exact HO_13.out) hg hat);have n3_:=zM (hb);have n4_:=zM (ho);clear HO_9;clear HO_11;clear HO_13;clear HB;clear HO235;have HO_9:=n0_;have HO_11:=n1_;have HO_13:=n2_;have HB:=n3_;have HO238:=n4_;clear n0_ n1_ n2_ n3_ n4_;clear ho hb hg hat;have p239 : 0 ≤ ((ji59) : Int):=zO (by first|(with_reducible assumption)|assumption);have q239 : (ji59) < (t212.length : Int):=zO (by first|(with_reducible assumption)|assumption);obtain ⟨ad239, e239, hx239_0⟩:=Kd.at_int (zR HO_11.out).2.2 (ji59) p239 q239;cases e239;replace p239:=eq_true p239;replace q239:=eq_true q239;have p65 : 0 ≤ ((ji62) : Int):=zO (by first|(with_reducible assumption)|assumption);have q65 : ((ji62) : Int) < ((y236.length : Int) : Int):=zO (by first|(with_reducible assumption)|assumption);obtain ⟨go65, co65, eo65, gb65, gl65, cl65, HG65⟩:=Kd.R_form HO238.out (by omega);(first|cases eo65|(injection eo65 with ea_ en_ ec_;(first|subst ea_|(injection ea_ with ea_;subst ea_));subst ec_;clear en_));have GB65:=zM gb65;have GG65:=zM HG65;clear gb65 gl65 HG65;obtain ⟨hx65_0, hf65_0⟩:=Kd.R_celln 0 HO238.out ((ji62) : Int) p65 q65;replace p65:=eq_true p65;replace q65:=eq_true q65;obtain ⟨hy104_, hz104_⟩:=Kd.R_celln 0 HO238.out ((ji62) : Int) (zO (by first|(with_reducible assumption)|assumption)) (zO (by first|(with_reducible assumption)|assumption));have HP104:=Kd.R_putg HO238.out ((ji62) : Int) (rd t212 (ji59)))|((with_reducible refine gate_store (t:=3) (p:=147) rfl ?_);(try (rw [drewN_self w102];generalize hq_ : World.drewN w102 _ = w102;have n0_:=zM (Kd.R_at hq_ HO_9.out);have n1_:=zM (Kd.R_at hq_ HO_11.out);have n2_:=zM (Kd.R_at hq_ HO_13.out);have n3_:=zM (Kd.R_at hq_ HO238.out);have n4_:=zM (below_at hq_ HB.out);clear hq_ HO_9 HO_11 HO_13 HO238 HB;have HO_9:=n0_;have HO_11:=n1_;have HO_13:=n2_;have HO238:=n3_;have HB:=n4_;clear n0_ n1_ n2_ n3_ n4_;(try (obtain ⟨hy104_, hz104_⟩:=Kd.R_celln 0 HO238.out ((ji62) : Int) (zO (by first|(with_reducible assumption)|assumption)) (zO (by first|(with_reducible assumption)|assumption))));(try (have HP104:=Kd.R_putg HO238.out ((ji62) : Int) (rd t212 (ji59))))));refine store_event (t:=3) (p:=147) (v:=?vo_w105) (w1:=(w102.setCell ⟨go65, ((ji62) : Int).toNat, none⟩ (.int .i64 (rd t212 (ji59))))) ?hg ?ho ?hn ?hr ?_;(case ho=>rfl);(case hg=>rfl);(case hn=>rfl);(case hr=>first|(go_simp;done)|(go_simp;rfl));intro w105 hw;have hg : w102.grownBy w105 (some go65):=(by rw [hw];exact HP104.2);have hp_ : Kd.R (Kd.int .i64) 3 w105 w.heap.size (fun k_=>some k_≠(.slice Ao13 t209.length co13 : Value).ownBlock∧some k_≠(.slice (some ad239) t212.length co103 : Value).ownBlock∧some k_≠(v218 : Value).ownBlock) (.slice (some ⟨go65, 0, none⟩) y236.length co65) y240:=(by rw [hw, Ny240.out];exact HP104.1);clear HP104;have n0_:=zM (zF (v:=(.slice (some ⟨go65, 0, none⟩) y236.length co65)) (v1:=(.slice (some ⟨go65, 0, none⟩) y236.length co65)) (ok:=(fun k_=>some k_≠(.slice (some ad239) t212.length co103 : Value).ownBlock∧some k_≠(v218 : Value).ownBlock)) (by (with_reducible repeat (first|apply zA|apply zN|apply Kd.R_drew));exact HO_9.out) hg (.inl rfl));have n1_:=zM (zF (v:=(.slice (some ⟨go65, 0, none⟩) y236.length co65)) (v1:=(.slice (some ⟨go65, 0, none⟩) y236.length co65)) (ok:=(fun k_=>some k_≠(.slice Ao13 t209.length co13 : Value).ownBlock∧some k_≠(v218 : Value).ownBlock)) (by (with_reducible repeat (first|apply zA|apply zN|apply Kd.R_drew));exact HO_11.out) hg (.inl rfl));have n2_:=zM (zF (v:=(.slice (some ⟨go65, 0, none⟩) y236.length co65)) (v1:=(.slice (some ⟨go65, 0, none⟩) y236.length co65)) (ok:=(fun k_=>some k_≠(.slice Ao13 t209.length co13 : Value).ownBlock∧some k_≠(.slice (some ad239) t212.length co103 : Value).ownBlock)) (by (with_reducible repeat (first|apply zA|apply zN|apply Kd.R_drew));exact HO_13.out) hg (.inl rfl));have n3_:=zM (hp_);have n4_:=zM ((by rw [hw];exact below_set (HB.out) GB65.out : Below w.heap.size w w105));clear HO_9;clear HO_11;clear HO_13;clear HO238;clear HB;have HO_9:=n0_;have HO_11:=n1_;have HO_13:=n2_;have HO238:=n3_;have HB:=n4_;clear n0_ n1_ n2_ n3_ n4_;clear hg hw hp_;have p241 : 0 ≤ ((ji62) : Int):=zO (by first|(with_reducible assumption)|assumption);have q241 : (ji62) < (t212.length : Int):=zO (by first|(with_reducible assumption)|assumption);obtain ⟨ad241, e241, hx241_0⟩:=Kd.at_int (zR HO_11.out).2.2 (ji62) p241 q241;obtain rfl : ad239 = ad241:=(by injection e241);replace p241:=eq_true p241;replace q241:=eq_true q241;have p68 : 0 ≤ ((ji59) : Int):=zO (by first|(with_reducible assumption)|assumption);have q68 : ((ji59) : Int) < ((y236.length : Int) : Int):=zO (by first|(with_reducible assumption)|assumption);obtain ⟨hx68_0, hf68_0⟩:=Kd.R_celln 0 HO238.out ((ji59) : Int) p68 q68;replace p68:=eq_true p68;replace q68:=eq_true q68;obtain ⟨hy106_, hz106_⟩:=Kd.R_celln 0 HO238.out ((ji59) : Int) (zO (by first|(with_reducible assumption)|assumption)) (zO (by first|(with_reducible assumption)|assumption));have HP106:=Kd.R_putg HO238.out ((ji59) : Int) (rd t212 (ji62)))|((with_reducible refine gate_store (t:=3) (p:=154) rfl ?_);(try (rw [drewN_self w105];generalize hq_ : World.drewN w105 _ = w105;have n0_:=zM (Kd.R_at hq_ HO_9.out);have n1_:=zM (Kd.R_at hq_ HO_11.out);have n2_:=zM (Kd.R_at hq_ HO_13.out);have n3_:=zM (Kd.R_at hq_ HO238.out);have n4_:=zM (below_at hq_ HB.out);clear hq_ HO_9 HO_11 HO_13 HO238 HB;have HO_9:=n0_;have HO_11:=n1_;have HO_13:=n2_;have HO238:=n3_;have HB:=n4_;clear n0_ n1_ n2_ n3_ n4_;(try (obtain ⟨hy106_, hz106_⟩:=Kd.R_celln 0 HO238.out ((ji59) : Int) (zO (by first|(with_reducible assumption)|assumption)) (zO (by first|(with_reducible assumption)|assumption))));(try (have HP106:=Kd.R_putg HO238.out ((ji59) : Int) (rd t212 (ji62))))));refine store_event (t:=3) (p:=154) (v:=?vo_w107) (w1:=(w105.setCell ⟨go65, ((ji59) : Int).toNat, none⟩ (.int .i64 (rd t212 (ji62))))) ?hg ?ho ?hn ?hr ?_;(case ho=>rfl);(case hg=>rfl);(case hn=>rfl);(case hr=>first|(go_simp;done)|(go_simp;rfl));intro w107 hw;have hg : w105.grownBy w107 (some go65):=(by rw [hw];exact HP106.2);have hp_ : Kd.R (Kd.int .i64) 3 w107 w.heap.size (fun k_=>some k_≠(.slice Ao13 t209.length co13 : Value).ownBlock∧some k_≠(.slice (some ad239) t212.length co103 : Value).ownBlock∧some k_≠(v218 : Value).ownBlock) (.slice (some ⟨go65, 0, none⟩) y236.length co65) y242:=(by rw [hw, Ny242.out];exact HP106.1);clear HP106;have n0_:=zM (zF (v:=(.slice (some ⟨go65, 0, none⟩) y236.length co65)) (v1:=(.slice (some ⟨go65, 0, none⟩) y236.length co65)) (ok:=(fun k_=>some k_≠(.slice (some ad239) t212.length co103 : Value).ownBlock∧some k_≠(v218 : Value).ownBlock)) (by (with_reducible repeat (first|apply zA|apply zN|apply Kd.R_drew));exact HO_9.out) hg (.inl rfl));have n1_:=zM (zF (v:=(.slice (some ⟨go65, 0, none⟩) y236.length co65)) (v1:=(.slice (some ⟨go65, 0, none⟩) y236.length co65)) (ok:=(fun k_=>some k_≠(.slice Ao13 t209.length co13 : Value).ownBlock∧some k_≠(v218 : Value).ownBlock)) (by (with_reducible repeat (first|apply zA|apply zN|apply Kd.R_drew));exact HO_11.out) hg (.inl rfl));have n2_:=zM (zF (v:=(.slice (some ⟨go65, 0, none⟩) y236.length co65)) (v1:=(.slice (some ⟨go65, 0, none⟩) y236.length co65)) (ok:=(fun k_=>some k_≠(.slice Ao13 t209.length co13 : Value).ownBlock∧some k_≠(.slice (some ad239) t212.length co103 : Value).ownBlock)) (by (with_reducible repeat (first|apply zA|apply zN|apply Kd.R_drew));exact HO_13.out) hg (.inl rfl));have n3_:=zM (hp_);have n4_:=zM ((by rw [hw];exact below_set (HB.out) GB65.out : Below w.heap.size w w107));clear HO_9;clear HO_11;clear HO_13;clear HO238;clear HB;have HO_9:=n0_;have HO_11:=n1_;have HO_13:=n2_;have HO238:=n3_;have HB:=n4_;clear n0_ n1_ n2_ n3_ n4_;clear hg hw hp_;have p243 : 0 ≤ ((ji62) : Int):=zO (by first|(with_reducible assumption)|assumption);have q243 : (ji62) < (t209.length : Int):=zO (by first|(with_reducible assumption)|assumption);obtain ⟨ad243, e243, hx243_0⟩:=Kd.at_int (zR HO_9.out).2.2 (ji62) p243 q243;cases e243;replace p243:=eq_true p243;replace q243:=eq_true q243;have p247 : 0 ≤ ((ji59) : Int):=zO (by first|(with_reducible assumption)|assumption);have q247 : (ji59) < (t209.length : Int):=zO (by first|(with_reducible assumption)|assumption);obtain ⟨ad247, e247, hx247_0⟩:=Kd.at_int (zR HO_9.out).2.2 (ji59) p247 q247;obtain rfl : ad243 = ad247:=(by injection e247);replace p247:=eq_true p247;replace q247:=eq_true q247;obtain ⟨Ao108, co108, eo108⟩:=Kd.R_slice HO_13.out;subst eo108)|(go_at_call 15;(with_reducible refine (merge_Cost.calls _ _ t209 _ _ t216 t248 _ ?side1 ?side2 ?side3 ?side4 A96.out).mono ?_);(case side1=>repeat (first|exact (zR HO_9.out).2.2|(with_reducible refine Kd.C_alloc ?_ _)|(with_reducible refine Kd.C_drewN ?_ _)|(with_reducible refine Kd.C_drew ?_)));(case side2=>exact (zR HO_9.out).2.1);(case side3=>repeat (first|exact (zR HO_13.out).2.2|(with_reducible refine Kd.C_alloc ?_ _)|(with_reducible refine Kd.C_drewN ?_ _)|(with_reducible refine Kd.C_drew ?_)));(case side4=>exact (zR HO_13.out).2.1);rintro e w' ⟨rfl, ⟨nd, rfl⟩⟩;(try first|exact ⟨rfl, _, zW _ _ _⟩|exact ⟨rfl, _, Eq.trans (zW _ _ _) (congrArg (World.drewN _) (Nat.add_assoc _ _ _))⟩))|(go_at_call 15;(with_reducible refine (merge_Cost.calls _ _ t209 _ _ t212 t249 _ ?side1 ?side2 ?side3 ?side4 A97.out).mono ?_);(case side1=>repeat (first|exact (zR HO_9.out).2.2|(with_reducible refine Kd.C_alloc ?_ _)|(with_reducible refine Kd.C_drewN ?_ _)|(with_reducible refine Kd.C_drew ?_)));(case side2=>exact (zR HO_9.out).2.1);(case side3=>repeat (first|exact (zR HO_11.out).2.2|(with_reducible refine Kd.C_alloc ?_ _)|(with_reducible refine Kd.C_drewN ?_ _)|(with_reducible refine Kd.C_drew ?_)));(case side4=>exact (zR HO_11.out).2.1);rintro e w' ⟨rfl, ⟨nd, rfl⟩⟩;(try first|exact ⟨rfl, _, zW _ _ _⟩|exact ⟨rfl, _, Eq.trans (zW _ _ _) (congrArg (World.drewN _) (Nat.add_assoc _ _ _))⟩))|(go_at_call 10;(with_reducible refine (wringerlaw8_awake.calls  t250 _ A99.out).mono ?_);rintro e w109 ⟨rfl, hb⟩;have n0_:=zM (Kd.R_below (by (with_reducible repeat (first|apply zA|apply zN|apply Kd.R_drew));exact HO_9.out) hb);have n1_:=zM (Kd.R_below (by (with_reducible repeat (first|apply zA|apply zN|apply Kd.R_drew));exact HO_11.out) hb);have n2_:=zM (Kd.R_below (by (with_reducible repeat (first|apply zA|apply zN|apply Kd.R_drew));exact HO_13.out) hb);have n3_:=zM (Kd.R_below (by (with_reducible repeat (first|apply zA|apply zN|apply Kd.R_drew));exact HO238.out) hb);have n4_:=zM (below_step (by repeat (first|(with_reducible first|exact HB.out|apply zB|apply zC|apply zE)|exact HB.out)) hb);clear HO_9;clear HO_11;clear HO_13;clear HO238;clear HB;have HO_9:=n0_;have HO_11:=n1_;have HO_13:=n2_;have HO238:=n3_;have HB:=n4_;clear n0_ n1_ n2_ n3_ n4_;(try clear hb);(try clear hb2);(try clear hk);(try clear hi)));try go_wp2_with (first|((with_reducible refine gate_dst (N:=132) rfl ?_);(try (refine gate_guard (by rfl) ?_;dsimp only));refine Kd.R_lit (Kd.int .i64) _ 3 ?hg (N:=132) ?hd (xs:=([] : List Int)) (inner:=[]) (ok:=fun _=>True) (okp:=fun _=>True) ?hr ?hp (fun _ hk=>hk) trivial (Below.refl _ _) (Nat.le_refl _) (by simp) ?_;(case hd=>rfl);(case hg=>rfl);(case hr=>first|(go_simp;done)|(go_simp;rfl));(case hp=>exact (Reps.none _ _));intro v234 w100 ho101 hb hg_ hnew_;clear hg_ hnew_;(first|rw [← Ny233.out] at ho101|(simp only [Int.reduceToNat] at ho101;rw [← Ny233.out] at ho101));have n0_:=zM (Kd.R_elder' (by (with_reducible repeat (first|apply zA|apply zN|apply Kd.R_drew));exact HO_9.out) (Kd.R_base ho101) hb);have n1_:=zM (Kd.R_elder' (by (with_reducible repeat (first|apply zA|apply zN|apply Kd.R_drew));exact HO_11.out) (Kd.R_base ho101) hb);have n2_:=zM (Kd.R_elder' (by (with_reducible repeat (first|apply zA|apply zN|apply Kd.R_drew));exact HO_13.out) (Kd.R_base ho101) hb);have n3_:=zM (Kd.R_lower (Kd.R_new' (Kd.R_new' (Kd.R_new' ho101 (Kd.R_lt (by (with_reducible repeat (first|apply zA|apply zN|apply Kd.R_drew));exact HO_9.out))) (Kd.R_lt (by (with_reducible repeat (first|apply zA|apply zN|apply Kd.R_drew));exact HO_11.out))) (Kd.R_lt (by (with_reducible repeat (first|apply zA|apply zN|apply Kd.R_drew));exact HO_13.out))) (below_size (by repeat (first|(with_reducible first|exact HB.out|apply zB|apply zC|apply zE)|exact HB.out))));have n4_:=zM (below_step (by repeat (first|(with_reducible first|exact HB.out|apply zB|apply zC|apply zE)|exact HB.out)) hb);clear HO_9;clear HO_11;clear HO_13;clear HB;have HO_9:=n0_;have HO_11:=n1_;have HO_13:=n2_;have HO235:=n3_;have HB:=n4_;clear n0_ n1_ n2_ n3_ n4_;clear hb ho101;obtain ⟨Ao103, co103, eo103⟩:=Kd.R_slice HO_11.out;subst eo103)|((with_reducible refine gate_builtin (b:=.append) (xs:=#[.tmp 132, .tmp 133]) rfl ?_);(try (refine gate_guard (by rfl) ?_;dsimp only));at_builtin;refine Kd.R_append_rows (Kd.int .i64) (w0:=w) w.heap.size rfl (.tmp 132) (.tmp 133) 22 3 (.int .i64 0) 8 rfl Try.underlying22 info3 rfl (by decide) (by omega) v234 y233 t212 _ _ _ (fun k_=>some k_≠(.slice Ao13 t209.length co13 : Value).ownBlock∧some k_≠(.slice Ao103 t212.length co103 : Value).ownBlock∧some k_≠(v218 : Value).ownBlock) (fun _=>False) rfl rfl ?aO ?aR (fun _ _ h=>h) (fun _ h=>h.elim) ?aF ?aB ?aS ?aL ?_;(case aR=>repeat (first|exact (zR HO_11.out).2.2|(with_reducible refine Kd.C_alloc ?_ _)|(with_reducible refine Kd.C_drewN ?_ _)|(with_reducible refine Kd.C_drew ?_)));(case aB=>exact (by repeat (first|(with_reducible first|exact HB.out|apply zB|apply zC|apply zE)|exact HB.out)));(case aF=>exact (fun k_ hk=>⟨Kd.fresh' (Kd.R_lt (by (with_reducible repeat (first|apply zA|apply zN|apply Kd.R_drew));exact HO_9.out)) k_ hk, Kd.fresh' (Kd.R_lt (by (with_reducible repeat (first|apply zA|apply zN|apply Kd.R_drew));exact HO_11.out)) k_ hk, Kd.fresh' (Kd.R_lt (by (with_reducible repeat (first|apply zA|apply zN|apply Kd.R_drew));exact HO_13.out)) k_ hk⟩));(case aO=>exact (by (with_reducible repeat (first|apply zA|apply zN|apply Kd.R_drew));exact Kd.R_mono HO235.out (fun _ hk=>⟨hk.1.1.2, ⟨hk.1.2, hk.2⟩⟩)));(case aS=>exact (below_size (by repeat (first|(with_reducible first|exact HB.out|apply zB|apply zC|apply zE)|exact HB.out))));(case aL=>have:=LMc58.out;omega);intro v237 w102 ho hb hg hat;rw [← Ny236.out] at ho;have n0_:=zM (zF (ok:=(fun k_=>some k_≠(.slice Ao103 t212.length co103 : Value).ownBlock∧some k_≠(v218 : Value).ownBlock)) (by (with_reducible repeat (first|apply zA|apply zN|apply Kd.R_drew));exact HO_9.out) hg hat);have n1_:=zM (zF (ok:=(fun k_=>some k_≠(.slice Ao13 t209.length co13 : Value).ownBlock∧some k_≠(v218 : Value).ownBlock)) (by (with_reducible repeat (first|apply zA|apply zN|apply Kd.R_drew));exact HO_11.out) hg hat);have n2_:=zM (zF (ok:=(fun k_=>some k_≠(.slice Ao13 t209.length co13 : Value).ownBlock∧some k_≠(.slice Ao103 t212.length co103 : Value).ownBlock)) (by (with_reducible repeat (first|apply zA|apply zN|apply Kd.R_drew));exact HO_13.out) hg hat);have n3_:=zM (hb);have n4_:=zM (ho);clear HO_9;clear HO_11;clear HO_13;clear HB;clear HO235;have HO_9:=n0_;have HO_11:=n1_;have HO_13:=n2_;have HB:=n3_;have HO238:=n4_;clear n0_ n1_ n2_ n3_ n4_;clear ho hb hg hat;have p239 : 0 ≤ ((ji59) : Int):=zO (by first|(with_reducible assumption)|assumption);have q239 : (ji59) < (t212.length : Int):=zO (by first|(with_reducible assumption)|assumption);obtain ⟨ad239, e239, hx239_0⟩:=Kd.at_int (zR HO_11.out).2.2 (ji59) p239 q239;cases e239;replace p239:=eq_true p239;replace q239:=eq_true q239;have p65 : 0 ≤ ((ji62) : Int):=zO (by first|(with_reducible assumption)|assumption);have q65 : ((ji62) : Int) < ((y236.length : Int) : Int):=zO (by first|(with_reducible assumption)|assumption);obtain ⟨go65, co65, eo65, gb65, gl65, cl65, HG65⟩:=Kd.R_form HO238.out (by omega);(first|cases eo65|(injection eo65 with ea_ en_ ec_;(first|subst ea_|(injection ea_ with ea_;subst ea_));subst ec_;clear en_));have GB65:=zM gb65;have GG65:=zM HG65;clear gb65 gl65 HG65;obtain ⟨hx65_0, hf65_0⟩:=Kd.R_celln 0 HO238.out ((ji62) : Int) p65 q65;replace p65:=eq_true p65;replace q65:=eq_true q65;obtain ⟨hy104_, hz104_⟩:=Kd.R_celln 0 HO238.out ((ji62) : Int) (zO (by first|(with_reducible assumption)|assumption)) (zO (by first|(with_reducible assumption)|assumption));have HP104:=Kd.R_putg HO238.out ((ji62) : Int) (rd t212 (ji59)))|((with_reducible refine gate_store (t:=3) (p:=147) rfl ?_);(try (rw [drewN_self w102];generalize hq_ : World.drewN w102 _ = w102;have n0_:=zM (Kd.R_at hq_ HO_9.out);have n1_:=zM (Kd.R_at hq_ HO_11.out);have n2_:=zM (Kd.R_at hq_ HO_13.out);have n3_:=zM (Kd.R_at hq_ HO238.out);have n4_:=zM (below_at hq_ HB.out);clear hq_ HO_9 HO_11 HO_13 HO238 HB;have HO_9:=n0_;have HO_11:=n1_;have HO_13:=n2_;have HO238:=n3_;have HB:=n4_;clear n0_ n1_ n2_ n3_ n4_;(try (obtain ⟨hy104_, hz104_⟩:=Kd.R_celln 0 HO238.out ((ji62) : Int) (zO (by first|(with_reducible assumption)|assumption)) (zO (by first|(with_reducible assumption)|assumption))));(try (have HP104:=Kd.R_putg HO238.out ((ji62) : Int) (rd t212 (ji59))))));refine store_event (t:=3) (p:=147) (v:=?vo_w105) (w1:=(w102.setCell ⟨go65, ((ji62) : Int).toNat, none⟩ (.int .i64 (rd t212 (ji59))))) ?hg ?ho ?hn ?hr ?_;(case ho=>rfl);(case hg=>rfl);(case hn=>rfl);(case hr=>first|(go_simp;done)|(go_simp;rfl));intro w105 hw;have hg : w102.grownBy w105 (some go65):=(by rw [hw];exact HP104.2);have hp_ : Kd.R (Kd.int .i64) 3 w105 w.heap.size (fun k_=>some k_≠(.slice Ao13 t209.length co13 : Value).ownBlock∧some k_≠(.slice (some ad239) t212.length co103 : Value).ownBlock∧some k_≠(v218 : Value).ownBlock) (.slice (some ⟨go65, 0, none⟩) y236.length co65) y240:=(by rw [hw, Ny240.out];exact HP104.1);clear HP104;have n0_:=zM (zF (v:=(.slice (some ⟨go65, 0, none⟩) y236.length co65)) (v1:=(.slice (some ⟨go65, 0, none⟩) y236.length co65)) (ok:=(fun k_=>some k_≠(.slice (some ad239) t212.length co103 : Value).ownBlock∧some k_≠(v218 : Value).ownBlock)) (by (with_reducible repeat (first|apply zA|apply zN|apply Kd.R_drew));exact HO_9.out) hg (.inl rfl));have n1_:=zM (zF (v:=(.slice (some ⟨go65, 0, none⟩) y236.length co65)) (v1:=(.slice (some ⟨go65, 0, none⟩) y236.length co65)) (ok:=(fun k_=>some k_≠(.slice Ao13 t209.length co13 : Value).ownBlock∧some k_≠(v218 : Value).ownBlock)) (by (with_reducible repeat (first|apply zA|apply zN|apply Kd.R_drew));exact HO_11.out) hg (.inl rfl));have n2_:=zM (zF (v:=(.slice (some ⟨go65, 0, none⟩) y236.length co65)) (v1:=(.slice (some ⟨go65, 0, none⟩) y236.length co65)) (ok:=(fun k_=>some k_≠(.slice Ao13 t209.length co13 : Value).ownBlock∧some k_≠(.slice (some ad239) t212.length co103 : Value).ownBlock)) (by (with_reducible repeat (first|apply zA|apply zN|apply Kd.R_drew));exact HO_13.out) hg (.inl rfl));have n3_:=zM (hp_);have n4_:=zM ((by rw [hw];exact below_set (HB.out) GB65.out : Below w.heap.size w w105));clear HO_9;clear HO_11;clear HO_13;clear HO238;clear HB;have HO_9:=n0_;have HO_11:=n1_;have HO_13:=n2_;have HO238:=n3_;have HB:=n4_;clear n0_ n1_ n2_ n3_ n4_;clear hg hw hp_;have p241 : 0 ≤ ((ji62) : Int):=zO (by first|(with_reducible assumption)|assumption);have q241 : (ji62) < (t212.length : Int):=zO (by first|(with_reducible assumption)|assumption);obtain ⟨ad241, e241, hx241_0⟩:=Kd.at_int (zR HO_11.out).2.2 (ji62) p241 q241;obtain rfl : ad239 = ad241:=(by injection e241);replace p241:=eq_true p241;replace q241:=eq_true q241;have p68 : 0 ≤ ((ji59) : Int):=zO (by first|(with_reducible assumption)|assumption);have q68 : ((ji59) : Int) < ((y236.length : Int) : Int):=zO (by first|(with_reducible assumption)|assumption);obtain ⟨hx68_0, hf68_0⟩:=Kd.R_celln 0 HO238.out ((ji59) : Int) p68 q68;replace p68:=eq_true p68;replace q68:=eq_true q68;obtain ⟨hy106_, hz106_⟩:=Kd.R_celln 0 HO238.out ((ji59) : Int) (zO (by first|(with_reducible assumption)|assumption)) (zO (by first|(with_reducible assumption)|assumption));have HP106:=Kd.R_putg HO238.out ((ji59) : Int) (rd t212 (ji62)))|((with_reducible refine gate_store (t:=3) (p:=154) rfl ?_);(try (rw [drewN_self w105];generalize hq_ : World.drewN w105 _ = w105;have n0_:=zM (Kd.R_at hq_ HO_9.out);have n1_:=zM (Kd.R_at hq_ HO_11.out);have n2_:=zM (Kd.R_at hq_ HO_13.out);have n3_:=zM (Kd.R_at hq_ HO238.out);have n4_:=zM (below_at hq_ HB.out);clear hq_ HO_9 HO_11 HO_13 HO238 HB;have HO_9:=n0_;have HO_11:=n1_;have HO_13:=n2_;have HO238:=n3_;have HB:=n4_;clear n0_ n1_ n2_ n3_ n4_;(try (obtain ⟨hy106_, hz106_⟩:=Kd.R_celln 0 HO238.out ((ji59) : Int) (zO (by first|(with_reducible assumption)|assumption)) (zO (by first|(with_reducible assumption)|assumption))));(try (have HP106:=Kd.R_putg HO238.out ((ji59) : Int) (rd t212 (ji62))))));refine store_event (t:=3) (p:=154) (v:=?vo_w107) (w1:=(w105.setCell ⟨go65, ((ji59) : Int).toNat, none⟩ (.int .i64 (rd t212 (ji62))))) ?hg ?ho ?hn ?hr ?_;(case ho=>rfl);(case hg=>rfl);(case hn=>rfl);(case hr=>first|(go_simp;done)|(go_simp;rfl));intro w107 hw;have hg : w105.grownBy w107 (some go65):=(by rw [hw];exact HP106.2);have hp_ : Kd.R (Kd.int .i64) 3 w107 w.heap.size (fun k_=>some k_≠(.slice Ao13 t209.length co13 : Value).ownBlock∧some k_≠(.slice (some ad239) t212.length co103 : Value).ownBlock∧some k_≠(v218 : Value).ownBlock) (.slice (some ⟨go65, 0, none⟩) y236.length co65) y242:=(by rw [hw, Ny242.out];exact HP106.1);clear HP106;have n0_:=zM (zF (v:=(.slice (some ⟨go65, 0, none⟩) y236.length co65)) (v1:=(.slice (some ⟨go65, 0, none⟩) y236.length co65)) (ok:=(fun k_=>some k_≠(.slice (some ad239) t212.length co103 : Value).ownBlock∧some k_≠(v218 : Value).ownBlock)) (by (with_reducible repeat (first|apply zA|apply zN|apply Kd.R_drew));exact HO_9.out) hg (.inl rfl));have n1_:=zM (zF (v:=(.slice (some ⟨go65, 0, none⟩) y236.length co65)) (v1:=(.slice (some ⟨go65, 0, none⟩) y236.length co65)) (ok:=(fun k_=>some k_≠(.slice Ao13 t209.length co13 : Value).ownBlock∧some k_≠(v218 : Value).ownBlock)) (by (with_reducible repeat (first|apply zA|apply zN|apply Kd.R_drew));exact HO_11.out) hg (.inl rfl));have n2_:=zM (zF (v:=(.slice (some ⟨go65, 0, none⟩) y236.length co65)) (v1:=(.slice (some ⟨go65, 0, none⟩) y236.length co65)) (ok:=(fun k_=>some k_≠(.slice Ao13 t209.length co13 : Value).ownBlock∧some k_≠(.slice (some ad239) t212.length co103 : Value).ownBlock)) (by (with_reducible repeat (first|apply zA|apply zN|apply Kd.R_drew));exact HO_13.out) hg (.inl rfl));have n3_:=zM (hp_);have n4_:=zM ((by rw [hw];exact below_set (HB.out) GB65.out : Below w.heap.size w w107));clear HO_9;clear HO_11;clear HO_13;clear HO238;clear HB;have HO_9:=n0_;have HO_11:=n1_;have HO_13:=n2_;have HO238:=n3_;have HB:=n4_;clear n0_ n1_ n2_ n3_ n4_;clear hg hw hp_;have p243 : 0 ≤ ((ji62) : Int):=zO (by first|(with_reducible assumption)|assumption);have q243 : (ji62) < (t209.length : Int):=zO (by first|(with_reducible assumption)|assumption);obtain ⟨ad243, e243, hx243_0⟩:=Kd.at_int (zR HO_9.out).2.2 (ji62) p243 q243;cases e243;replace p243:=eq_true p243;replace q243:=eq_true q243;have p247 : 0 ≤ ((ji59) : Int):=zO (by first|(with_reducible assumption)|assumption);have q247 : (ji59) < (t209.length : Int):=zO (by first|(with_reducible assumption)|assumption);obtain ⟨ad247, e247, hx247_0⟩:=Kd.at_int (zR HO_9.out).2.2 (ji59) p247 q247;obtain rfl : ad243 = ad247:=(by injection e247);replace p247:=eq_true p247;replace q247:=eq_true q247;obtain ⟨Ao108, co108, eo108⟩:=Kd.R_slice HO_13.out;subst eo108)|(go_at_call 15;(with_reducible refine (merge_Cost.calls _ _ t209 _ _ t216 t248 _ ?side1 ?side2 ?side3 ?side4 A96.out).mono ?_);(case side1=>repeat (first|exact (zR HO_9.out).2.2|(with_reducible refine Kd.C_alloc ?_ _)|(with_reducible refine Kd.C_drewN ?_ _)|(with_reducible refine Kd.C_drew ?_)));(case side2=>exact (zR HO_9.out).2.1);(case side3=>repeat (first|exact (zR HO_13.out).2.2|(with_reducible refine Kd.C_alloc ?_ _)|(with_reducible refine Kd.C_drewN ?_ _)|(with_reducible refine Kd.C_drew ?_)));(case side4=>exact (zR HO_13.out).2.1);rintro e w' ⟨rfl, ⟨nd, rfl⟩⟩;(try first|exact ⟨rfl, _, zW _ _ _⟩|exact ⟨rfl, _, Eq.trans (zW _ _ _) (congrArg (World.drewN _) (Nat.add_assoc _ _ _))⟩))|(go_at_call 15;(with_reducible refine (merge_Cost.calls _ _ t209 _ _ t212 t249 _ ?side1 ?side2 ?side3 ?side4 A97.out).mono ?_);(case side1=>repeat (first|exact (zR HO_9.out).2.2|(with_reducible refine Kd.C_alloc ?_ _)|(with_reducible refine Kd.C_drewN ?_ _)|(with_reducible refine Kd.C_drew ?_)));(case side2=>exact (zR HO_9.out).2.1);(case side3=>repeat (first|exact (zR HO_11.out).2.2|(with_reducible refine Kd.C_alloc ?_ _)|(with_reducible refine Kd.C_drewN ?_ _)|(with_reducible refine Kd.C_drew ?_)));(case side4=>exact (zR HO_11.out).2.1);rintro e w' ⟨rfl, ⟨nd, rfl⟩⟩;(try first|exact ⟨rfl, _, zW _ _ _⟩|exact ⟨rfl, _, Eq.trans (zW _ _ _) (congrArg (World.drewN _) (Nat.add_assoc _ _ _))⟩))|(go_at_call 10;(with_reducible refine (wringerlaw8_awake.calls  t250 _ A99.out).mono ?_);rintro e w109 ⟨rfl, hb⟩;have n0_:=zM (Kd.R_below (by (with_reducible repeat (first|apply zA|apply zN|apply Kd.R_drew));exact HO_9.out) hb);have n1_:=zM (Kd.R_below (by (with_reducible repeat (first|apply zA|apply zN|apply Kd.R_drew));exact HO_11.out) hb);have n2_:=zM (Kd.R_below (by (with_reducible repeat (first|apply zA|apply zN|apply Kd.R_drew));exact HO_13.out) hb);have n3_:=zM (Kd.R_below (by (with_reducible repeat (first|apply zA|apply zN|apply Kd.R_drew));exact HO238.out) hb);have n4_:=zM (below_step (by repeat (first|(with_reducible first|exact HB.out|apply zB|apply zC|apply zE)|exact HB.out)) hb);clear HO_9;clear HO_11;clear HO_13;clear HO238;clear HB;have HO_9:=n0_;have HO_11:=n1_;have HO_13:=n2_;have HO238:=n3_;have HB:=n4_;clear n0_ n1_ n2_ n3_ n4_;(try clear hb);(try clear hb2);(try clear hk);(try clear hi))))
                    go_ret
                    exact ⟨by first|rfl|(simp [errW_none, errW_some] <;> rfl)|(simp only [← hji59, ← hji62];first|rfl|(simp [errW_none, errW_some] <;> rfl))|(simp [*, errW_none, errW_some] <;> rfl), by repeat (first|(with_reducible first|exact HB.out|apply zB|apply zC|apply zE)|exact HB.out)⟩
                   ·rw [if_neg c98] at H
                    have c98b0 : decide (t248 ≤ t249) = false:=decide_eq_false c98
                    clear c98
                    exact absurd ((Option.some.inj H).trans HR1.out) (by decide)
                  ·rw [if_neg c95] at H
                   have c95b0 : ((rd t209 (ji59)) == 0) = false:=beq_eq_false_iff_ne.mpr c95
                   have c95b1 : ((rd t209 (ji59)) != 0) = true:=bne_iff_ne.mpr c95
                   replace H:=Option.bind_eq_some_iff.mp H
                   obtain ⟨t251, A1190, H⟩:=H
                   replace H : ((merge_Cost.f t209 t212).bind fun t252=>(if t251 ≥ t252 then ((merge_Cost.f t209 t216).bind fun t253=>((merge_Cost.f t209 t212).bind fun t254=>(if t253 ≤ t254 then ((wringerlaw8_awake.f).bind fun t255=>(some t255)) else (some false)))) else (some false))) = some r:=H
                   have A119:=zM A1190
                   clear A1190
                   replace H:=Option.bind_eq_some_iff.mp H
                   obtain ⟨t252, A1200, H⟩:=H
                   replace H : (if t251 ≥ t252 then ((merge_Cost.f t209 t216).bind fun t253=>((merge_Cost.f t209 t212).bind fun t254=>(if t253 ≤ t254 then ((wringerlaw8_awake.f).bind fun t255=>(some t255)) else (some false)))) else (some false)) = some r:=H
                   have A120:=zM A1200
                   clear A1200
                   by_cases c121 : t251 ≥ t252
                   ·rw [if_pos c121] at H
                    have c121b0 : decide (t252 ≤ t251) = true:=decide_eq_true c121
                    clear c121
                    replace H:=Option.bind_eq_some_iff.mp H
                    obtain ⟨t253, A1220, H⟩:=H
                    replace H : ((merge_Cost.f t209 t212).bind fun t254=>(if t253 ≤ t254 then ((wringerlaw8_awake.f).bind fun t255=>(some t255)) else (some false))) = some r:=H
                    have A122:=zM A1220
                    clear A1220
                    replace H:=Option.bind_eq_some_iff.mp H
                    obtain ⟨t254, A1230, H⟩:=H
                    replace H : (if t253 ≤ t254 then ((wringerlaw8_awake.f).bind fun t255=>(some t255)) else (some false)) = some r:=H
                    have A123:=zM A1230
                    clear A1230
                    by_cases c124 : t253 ≤ t254
                    ·rw [if_pos c124] at H
                     have c124b0 : decide (t253 ≤ t254) = true:=decide_eq_true c124
                     clear c124
                     replace H:=Option.bind_eq_some_iff.mp H
                     obtain ⟨t255, A1250, H⟩:=H
                     replace H : (some t255) = some r:=H
                     have A125:=zM A1250
                     clear A1250
                     obtain rfl:=Option.some.inj H
                     go_wp2_with (first|((with_reducible refine gate_dst (N:=132) rfl ?_);(try (refine gate_guard (by rfl) ?_;dsimp only));refine Kd.R_lit (Kd.int .i64) _ 3 ?hg (N:=132) ?hd (xs:=([] : List Int)) (inner:=[]) (ok:=fun _=>True) (okp:=fun _=>True) ?hr ?hp (fun _ hk=>hk) trivial (Below.refl _ _) (Nat.le_refl _) (by simp) ?_;(case hd=>rfl);(case hg=>rfl);(case hr=>first|(go_simp;done)|(go_simp;rfl));(case hp=>exact (Reps.none _ _));intro v234 w126 ho127 hb hg_ hnew_;clear hg_ hnew_;(first|rw [← Ny233.out] at ho127|(simp only [Int.reduceToNat] at ho127;rw [← Ny233.out] at ho127));have n0_:=zM (Kd.R_elder' (by (with_reducible repeat (first|apply zA|apply zN|apply Kd.R_drew));exact HO_9.out) (Kd.R_base ho127) hb);have n1_:=zM (Kd.R_elder' (by (with_reducible repeat (first|apply zA|apply zN|apply Kd.R_drew));exact HO_11.out) (Kd.R_base ho127) hb);have n2_:=zM (Kd.R_elder' (by (with_reducible repeat (first|apply zA|apply zN|apply Kd.R_drew));exact HO_13.out) (Kd.R_base ho127) hb);have n3_:=zM (Kd.R_lower (Kd.R_new' (Kd.R_new' (Kd.R_new' ho127 (Kd.R_lt (by (with_reducible repeat (first|apply zA|apply zN|apply Kd.R_drew));exact HO_9.out))) (Kd.R_lt (by (with_reducible repeat (first|apply zA|apply zN|apply Kd.R_drew));exact HO_11.out))) (Kd.R_lt (by (with_reducible repeat (first|apply zA|apply zN|apply Kd.R_drew));exact HO_13.out))) (below_size (by repeat (first|(with_reducible first|exact HB.out|apply zB|apply zC|apply zE)|exact HB.out))));have n4_:=zM (below_step (by repeat (first|(with_reducible first|exact HB.out|apply zB|apply zC|apply zE)|exact HB.out)) hb);clear HO_9;clear HO_11;clear HO_13;clear HB;have HO_9:=n0_;have HO_11:=n1_;have HO_13:=n2_;have HO235:=n3_;have HB:=n4_;clear n0_ n1_ n2_ n3_ n4_;clear hb ho127;obtain ⟨Ao129, co129, eo129⟩:=Kd.R_slice HO_11.out;subst eo129)|((with_reducible refine gate_builtin (b:=.append) (xs:=#[.tmp 132, .tmp 133]) rfl ?_);(try (refine gate_guard (by rfl) ?_;dsimp only));at_builtin;refine Kd.R_append_rows (Kd.int .i64) (w0:=w) w.heap.size rfl (.tmp 132) (.tmp 133) 22 3 (.int .i64 0) 8 rfl Try.underlying22 info3 rfl (by decide) (by omega) v234 y233 t212 _ _ _ (fun k_=>some k_≠(.slice Ao13 t209.length co13 : Value).ownBlock∧some k_≠(.slice Ao129 t212.length co129 : Value).ownBlock∧some k_≠(v218 : Value).ownBlock) (fun _=>False) rfl rfl ?aO ?aR (fun _ _ h=>h) (fun _ h=>h.elim) ?aF ?aB ?aS ?aL ?_;(case aR=>repeat (first|exact (zR HO_11.out).2.2|(with_reducible refine Kd.C_alloc ?_ _)|(with_reducible refine Kd.C_drewN ?_ _)|(with_reducible refine Kd.C_drew ?_)));(case aB=>exact (by repeat (first|(with_reducible first|exact HB.out|apply zB|apply zC|apply zE)|exact HB.out)));(case aF=>exact (fun k_ hk=>⟨Kd.fresh' (Kd.R_lt (by (with_reducible repeat (first|apply zA|apply zN|apply Kd.R_drew));exact HO_9.out)) k_ hk, Kd.fresh' (Kd.R_lt (by (with_reducible repeat (first|apply zA|apply zN|apply Kd.R_drew));exact HO_11.out)) k_ hk, Kd.fresh' (Kd.R_lt (by (with_reducible repeat (first|apply zA|apply zN|apply Kd.R_drew));exact HO_13.out)) k_ hk⟩));(case aO=>exact (by (with_reducible repeat (first|apply zA|apply zN|apply Kd.R_drew));exact Kd.R_mono HO235.out (fun _ hk=>⟨hk.1.1.2, ⟨hk.1.2, hk.2⟩⟩)));(case aS=>exact (below_size (by repeat (first|(with_reducible first|exact HB.out|apply zB|apply zC|apply zE)|exact HB.out))));(case aL=>have:=LMc58.out;omega);intro v237 w128 ho hb hg hat;rw [← Ny236.out] at ho;have n0_:=zM (zF (ok:=(fun k_=>some k_≠(.slice Ao129 t212.length co129 : Value).ownBlock∧some k_≠(v218 : Value).ownBlock)) (by (with_reducible repeat (first|apply zA|apply zN|apply Kd.R_drew));exact HO_9.out) hg hat);have n1_:=zM (zF (ok:=(fun k_=>some k_≠(.slice Ao13 t209.length co13 : Value).ownBlock∧some k_≠(v218 : Value).ownBlock)) (by (with_reducible repeat (first|apply zA|apply zN|apply Kd.R_drew));exact HO_11.out) hg hat);have n2_:=zM (zF (ok:=(fun k_=>some k_≠(.slice Ao13 t209.length co13 : Value).ownBlock∧some k_≠(.slice Ao129 t212.length co129 : Value).ownBlock)) (by (with_reducible repeat (first|apply zA|apply zN|apply Kd.R_drew));exact HO_13.out) hg hat);have n3_:=zM (hb);have n4_:=zM (ho);clear HO_9;clear HO_11;clear HO_13;clear HB;clear HO235;have HO_9:=n0_;have HO_11:=n1_;have HO_13:=n2_;have HB:=n3_;have HO238:=n4_;clear n0_ n1_ n2_ n3_ n4_;clear ho hb hg hat;have p239 : 0 ≤ ((ji59) : Int):=zO (by first|(with_reducible assumption)|assumption);have q239 : (ji59) < (t212.length : Int):=zO (by first|(with_reducible assumption)|assumption);obtain ⟨ad239, e239, hx239_0⟩:=Kd.at_int (zR HO_11.out).2.2 (ji59) p239 q239;cases e239;replace p239:=eq_true p239;replace q239:=eq_true q239;have p65 : 0 ≤ ((ji62) : Int):=zO (by first|(with_reducible assumption)|assumption);have q65 : ((ji62) : Int) < ((y236.length : Int) : Int):=zO (by first|(with_reducible assumption)|assumption);obtain ⟨go65, co65, eo65, gb65, gl65, cl65, HG65⟩:=Kd.R_form HO238.out (by omega);(first|cases eo65|(injection eo65 with ea_ en_ ec_;(first|subst ea_|(injection ea_ with ea_;subst ea_));subst ec_;clear en_));have GB65:=zM gb65;have GG65:=zM HG65;clear gb65 gl65 HG65;obtain ⟨hx65_0, hf65_0⟩:=Kd.R_celln 0 HO238.out ((ji62) : Int) p65 q65;replace p65:=eq_true p65;replace q65:=eq_true q65;obtain ⟨hy130_, hz130_⟩:=Kd.R_celln 0 HO238.out ((ji62) : Int) (zO (by first|(with_reducible assumption)|assumption)) (zO (by first|(with_reducible assumption)|assumption));have HP130:=Kd.R_putg HO238.out ((ji62) : Int) (rd t212 (ji59)))|((with_reducible refine gate_store (t:=3) (p:=147) rfl ?_);(try (rw [drewN_self w128];generalize hq_ : World.drewN w128 _ = w128;have n0_:=zM (Kd.R_at hq_ HO_9.out);have n1_:=zM (Kd.R_at hq_ HO_11.out);have n2_:=zM (Kd.R_at hq_ HO_13.out);have n3_:=zM (Kd.R_at hq_ HO238.out);have n4_:=zM (below_at hq_ HB.out);clear hq_ HO_9 HO_11 HO_13 HO238 HB;have HO_9:=n0_;have HO_11:=n1_;have HO_13:=n2_;have HO238:=n3_;have HB:=n4_;clear n0_ n1_ n2_ n3_ n4_;(try (obtain ⟨hy130_, hz130_⟩:=Kd.R_celln 0 HO238.out ((ji62) : Int) (zO (by first|(with_reducible assumption)|assumption)) (zO (by first|(with_reducible assumption)|assumption))));(try (have HP130:=Kd.R_putg HO238.out ((ji62) : Int) (rd t212 (ji59))))));refine store_event (t:=3) (p:=147) (v:=?vo_w131) (w1:=(w128.setCell ⟨go65, ((ji62) : Int).toNat, none⟩ (.int .i64 (rd t212 (ji59))))) ?hg ?ho ?hn ?hr ?_;(case ho=>rfl);(case hg=>rfl);(case hn=>rfl);(case hr=>first|(go_simp;done)|(go_simp;rfl));intro w131 hw;have hg : w128.grownBy w131 (some go65):=(by rw [hw];exact HP130.2);have hp_ : Kd.R (Kd.int .i64) 3 w131 w.heap.size (fun k_=>some k_≠(.slice Ao13 t209.length co13 : Value).ownBlock∧some k_≠(.slice (some ad239) t212.length co129 : Value).ownBlock∧some k_≠(v218 : Value).ownBlock) (.slice (some ⟨go65, 0, none⟩) y236.length co65) y240:=(by rw [hw, Ny240.out];exact HP130.1);clear HP130;have n0_:=zM (zF (v:=(.slice (some ⟨go65, 0, none⟩) y236.length co65)) (v1:=(.slice (some ⟨go65, 0, none⟩) y236.length co65)) (ok:=(fun k_=>some k_≠(.slice (some ad239) t212.length co129 : Value).ownBlock∧some k_≠(v218 : Value).ownBlock)) (by (with_reducible repeat (first|apply zA|apply zN|apply Kd.R_drew));exact HO_9.out) hg (.inl rfl));have n1_:=zM (zF (v:=(.slice (some ⟨go65, 0, none⟩) y236.length co65)) (v1:=(.slice (some ⟨go65, 0, none⟩) y236.length co65)) (ok:=(fun k_=>some k_≠(.slice Ao13 t209.length co13 : Value).ownBlock∧some k_≠(v218 : Value).ownBlock)) (by (with_reducible repeat (first|apply zA|apply zN|apply Kd.R_drew));exact HO_11.out) hg (.inl rfl));have n2_:=zM (zF (v:=(.slice (some ⟨go65, 0, none⟩) y236.length co65)) (v1:=(.slice (some ⟨go65, 0, none⟩) y236.length co65)) (ok:=(fun k_=>some k_≠(.slice Ao13 t209.length co13 : Value).ownBlock∧some k_≠(.slice (some ad239) t212.length co129 : Value).ownBlock)) (by (with_reducible repeat (first|apply zA|apply zN|apply Kd.R_drew));exact HO_13.out) hg (.inl rfl));have n3_:=zM (hp_);have n4_:=zM ((by rw [hw];exact below_set (HB.out) GB65.out : Below w.heap.size w w131));clear HO_9;clear HO_11;clear HO_13;clear HO238;clear HB;have HO_9:=n0_;have HO_11:=n1_;have HO_13:=n2_;have HO238:=n3_;have HB:=n4_;clear n0_ n1_ n2_ n3_ n4_;clear hg hw hp_;have p241 : 0 ≤ ((ji62) : Int):=zO (by first|(with_reducible assumption)|assumption);have q241 : (ji62) < (t212.length : Int):=zO (by first|(with_reducible assumption)|assumption);obtain ⟨ad241, e241, hx241_0⟩:=Kd.at_int (zR HO_11.out).2.2 (ji62) p241 q241;obtain rfl : ad239 = ad241:=(by injection e241);replace p241:=eq_true p241;replace q241:=eq_true q241;have p68 : 0 ≤ ((ji59) : Int):=zO (by first|(with_reducible assumption)|assumption);have q68 : ((ji59) : Int) < ((y236.length : Int) : Int):=zO (by first|(with_reducible assumption)|assumption);obtain ⟨hx68_0, hf68_0⟩:=Kd.R_celln 0 HO238.out ((ji59) : Int) p68 q68;replace p68:=eq_true p68;replace q68:=eq_true q68;obtain ⟨hy132_, hz132_⟩:=Kd.R_celln 0 HO238.out ((ji59) : Int) (zO (by first|(with_reducible assumption)|assumption)) (zO (by first|(with_reducible assumption)|assumption));have HP132:=Kd.R_putg HO238.out ((ji59) : Int) (rd t212 (ji62)))|((with_reducible refine gate_store (t:=3) (p:=154) rfl ?_);(try (rw [drewN_self w131];generalize hq_ : World.drewN w131 _ = w131;have n0_:=zM (Kd.R_at hq_ HO_9.out);have n1_:=zM (Kd.R_at hq_ HO_11.out);have n2_:=zM (Kd.R_at hq_ HO_13.out);have n3_:=zM (Kd.R_at hq_ HO238.out);have n4_:=zM (below_at hq_ HB.out);clear hq_ HO_9 HO_11 HO_13 HO238 HB;have HO_9:=n0_;have HO_11:=n1_;have HO_13:=n2_;have HO238:=n3_;have HB:=n4_;clear n0_ n1_ n2_ n3_ n4_;(try (obtain ⟨hy132_, hz132_⟩:=Kd.R_celln 0 HO238.out ((ji59) : Int) (zO (by first|(with_reducible assumption)|assumption)) (zO (by first|(with_reducible assumption)|assumption))));(try (have HP132:=Kd.R_putg HO238.out ((ji59) : Int) (rd t212 (ji62))))));refine store_event (t:=3) (p:=154) (v:=?vo_w133) (w1:=(w131.setCell ⟨go65, ((ji59) : Int).toNat, none⟩ (.int .i64 (rd t212 (ji62))))) ?hg ?ho ?hn ?hr ?_;(case ho=>rfl);(case hg=>rfl);(case hn=>rfl);(case hr=>first|(go_simp;done)|(go_simp;rfl));intro w133 hw;have hg : w131.grownBy w133 (some go65):=(by rw [hw];exact HP132.2);have hp_ : Kd.R (Kd.int .i64) 3 w133 w.heap.size (fun k_=>some k_≠(.slice Ao13 t209.length co13 : Value).ownBlock∧some k_≠(.slice (some ad239) t212.length co129 : Value).ownBlock∧some k_≠(v218 : Value).ownBlock) (.slice (some ⟨go65, 0, none⟩) y236.length co65) y242:=(by rw [hw, Ny242.out];exact HP132.1);clear HP132;have n0_:=zM (zF (v:=(.slice (some ⟨go65, 0, none⟩) y236.length co65)) (v1:=(.slice (some ⟨go65, 0, none⟩) y236.length co65)) (ok:=(fun k_=>some k_≠(.slice (some ad239) t212.length co129 : Value).ownBlock∧some k_≠(v218 : Value).ownBlock)) (by (with_reducible repeat (first|apply zA|apply zN|apply Kd.R_drew));exact HO_9.out) hg (.inl rfl));have n1_:=zM (zF (v:=(.slice (some ⟨go65, 0, none⟩) y236.length co65)) (v1:=(.slice (some ⟨go65, 0, none⟩) y236.length co65)) (ok:=(fun k_=>some k_≠(.slice Ao13 t209.length co13 : Value).ownBlock∧some k_≠(v218 : Value).ownBlock)) (by (with_reducible repeat (first|apply zA|apply zN|apply Kd.R_drew));exact HO_11.out) hg (.inl rfl));have n2_:=zM (zF (v:=(.slice (some ⟨go65, 0, none⟩) y236.length co65)) (v1:=(.slice (some ⟨go65, 0, none⟩) y236.length co65)) (ok:=(fun k_=>some k_≠(.slice Ao13 t209.length co13 : Value).ownBlock∧some k_≠(.slice (some ad239) t212.length co129 : Value).ownBlock)) (by (with_reducible repeat (first|apply zA|apply zN|apply Kd.R_drew));exact HO_13.out) hg (.inl rfl));have n3_:=zM (hp_);have n4_:=zM ((by rw [hw];exact below_set (HB.out) GB65.out : Below w.heap.size w w133));clear HO_9;clear HO_11;clear HO_13;clear HO238;clear HB;have HO_9:=n0_;have HO_11:=n1_;have HO_13:=n2_;have HO238:=n3_;have HB:=n4_;clear n0_ n1_ n2_ n3_ n4_;clear hg hw hp_;have p243 : 0 ≤ ((ji62) : Int):=zO (by first|(with_reducible assumption)|assumption);have q243 : (ji62) < (t209.length : Int):=zO (by first|(with_reducible assumption)|assumption);obtain ⟨ad243, e243, hx243_0⟩:=Kd.at_int (zR HO_9.out).2.2 (ji62) p243 q243;cases e243;replace p243:=eq_true p243;replace q243:=eq_true q243;have p247 : 0 ≤ ((ji59) : Int):=zO (by first|(with_reducible assumption)|assumption);have q247 : (ji59) < (t209.length : Int):=zO (by first|(with_reducible assumption)|assumption);obtain ⟨ad247, e247, hx247_0⟩:=Kd.at_int (zR HO_9.out).2.2 (ji59) p247 q247;obtain rfl : ad243 = ad247:=(by injection e247);replace p247:=eq_true p247;replace q247:=eq_true q247)|(go_at_call 15;refine calls_of_args (args':=#[.slice (some ad243) t209.length co13, .slice (some ⟨go65, 0, none⟩) y242.length co65]) (by first|(rw [show y242.length = y236.length from (zR HO238.out).1.symm] <;> rfl)|rfl) ?_;(with_reducible refine (merge_Cost.calls _ _ t209 _ _ y242 t251 _ ?side1 ?side2 ?side3 ?side4 A119.out).mono ?_);(case side1=>repeat (first|exact (zR HO_9.out).2.2|(with_reducible refine Kd.C_alloc ?_ _)|(with_reducible refine Kd.C_drewN ?_ _)|(with_reducible refine Kd.C_drew ?_)));(case side2=>exact (zR HO_9.out).2.1);(case side3=>repeat (first|exact (zR HO238.out).2.2|(with_reducible refine Kd.C_alloc ?_ _)|(with_reducible refine Kd.C_drewN ?_ _)|(with_reducible refine Kd.C_drew ?_)));(case side4=>rw [show y242.length = y236.length from (zR HO238.out).1.symm];exact (zR HO238.out).2.1);rintro e w' ⟨rfl, ⟨nd, rfl⟩⟩;(try first|exact ⟨rfl, _, zW _ _ _⟩|exact ⟨rfl, _, Eq.trans (zW _ _ _) (congrArg (World.drewN _) (Nat.add_assoc _ _ _))⟩))|(go_at_call 15;(with_reducible refine (merge_Cost.calls _ _ t209 _ _ t212 t252 _ ?side1 ?side2 ?side3 ?side4 A120.out).mono ?_);(case side1=>repeat (first|exact (zR HO_9.out).2.2|(with_reducible refine Kd.C_alloc ?_ _)|(with_reducible refine Kd.C_drewN ?_ _)|(with_reducible refine Kd.C_drew ?_)));(case side2=>exact (zR HO_9.out).2.1);(case side3=>repeat (first|exact (zR HO_11.out).2.2|(with_reducible refine Kd.C_alloc ?_ _)|(with_reducible refine Kd.C_drewN ?_ _)|(with_reducible refine Kd.C_drew ?_)));(case side4=>exact (zR HO_11.out).2.1);rintro e w' ⟨rfl, ⟨nd, rfl⟩⟩;(try first|exact ⟨rfl, _, zW _ _ _⟩|exact ⟨rfl, _, Eq.trans (zW _ _ _) (congrArg (World.drewN _) (Nat.add_assoc _ _ _))⟩);obtain ⟨Ao134, co134, eo134⟩:=Kd.R_slice HO_13.out;subst eo134)|(go_at_call 15;(with_reducible refine (merge_Cost.calls _ _ t209 _ _ t216 t253 _ ?side1 ?side2 ?side3 ?side4 A122.out).mono ?_);(case side1=>repeat (first|exact (zR HO_9.out).2.2|(with_reducible refine Kd.C_alloc ?_ _)|(with_reducible refine Kd.C_drewN ?_ _)|(with_reducible refine Kd.C_drew ?_)));(case side2=>exact (zR HO_9.out).2.1);(case side3=>repeat (first|exact (zR HO_13.out).2.2|(with_reducible refine Kd.C_alloc ?_ _)|(with_reducible refine Kd.C_drewN ?_ _)|(with_reducible refine Kd.C_drew ?_)));(case side4=>exact (zR HO_13.out).2.1);rintro e w' ⟨rfl, ⟨nd, rfl⟩⟩;(try first|exact ⟨rfl, _, zW _ _ _⟩|exact ⟨rfl, _, Eq.trans (zW _ _ _) (congrArg (World.drewN _) (Nat.add_assoc _ _ _))⟩))|(go_at_call 15;(with_reducible refine (merge_Cost.calls _ _ t209 _ _ t212 t254 _ ?side1 ?side2 ?side3 ?side4 A123.out).mono ?_);(case side1=>repeat (first|exact (zR HO_9.out).2.2|(with_reducible refine Kd.C_alloc ?_ _)|(with_reducible refine Kd.C_drewN ?_ _)|(with_reducible refine Kd.C_drew ?_)));(case side2=>exact (zR HO_9.out).2.1);(case side3=>repeat (first|exact (zR HO_11.out).2.2|(with_reducible refine Kd.C_alloc ?_ _)|(with_reducible refine Kd.C_drewN ?_ _)|(with_reducible refine Kd.C_drew ?_)));(case side4=>exact (zR HO_11.out).2.1);rintro e w' ⟨rfl, ⟨nd, rfl⟩⟩;(try first|exact ⟨rfl, _, zW _ _ _⟩|exact ⟨rfl, _, Eq.trans (zW _ _ _) (congrArg (World.drewN _) (Nat.add_assoc _ _ _))⟩))|(go_at_call 10;(with_reducible refine (wringerlaw8_awake.calls  t255 _ A125.out).mono ?_);rintro e w135 ⟨rfl, hb⟩;have n0_:=zM (Kd.R_below (by (with_reducible repeat (first|apply zA|apply zN|apply Kd.R_drew));exact HO_9.out) hb);have n1_:=zM (Kd.R_below (by (with_reducible repeat (first|apply zA|apply zN|apply Kd.R_drew));exact HO_11.out) hb);have n2_:=zM (Kd.R_below (by (with_reducible repeat (first|apply zA|apply zN|apply Kd.R_drew));exact HO_13.out) hb);have n3_:=zM (Kd.R_below (by (with_reducible repeat (first|apply zA|apply zN|apply Kd.R_drew));exact HO238.out) hb);have n4_:=zM (below_step (by repeat (first|(with_reducible first|exact HB.out|apply zB|apply zC|apply zE)|exact HB.out)) hb);clear HO_9;clear HO_11;clear HO_13;clear HO238;clear HB;have HO_9:=n0_;have HO_11:=n1_;have HO_13:=n2_;have HO238:=n3_;have HB:=n4_;clear n0_ n1_ n2_ n3_ n4_;(try clear hb);(try clear hb2);(try clear hk);(try clear hi)))
                     repeat (go_quiet (first|((with_reducible refine gate_dst (N:=132) rfl ?_);(try (refine gate_guard (by rfl) ?_;dsimp only));refine Kd.R_lit (Kd.int .i64) _ 3 ?hg (N:=132) ?hd (xs:=([] : List Int)) (inner:=[]) (ok:=fun _=>True) (okp:=fun _=>True) ?hr ?hp (fun _ hk=>hk) trivial (Below.refl _ _) (Nat.le_refl _) (by simp) ?_;(case hd=>rfl);(case hg=>rfl);(case hr=>first|(go_simp;done)|(go_simp;rfl));(case hp=>exact (Reps.none _ _));intro v234 w126 ho127 hb hg_ hnew_;clear hg_ hnew_;(first|rw [← Ny233.out] at ho127|(simp only [Int.reduceToNat] at ho127;rw [← Ny233.out] at ho127));have n0_:=zM (Kd.R_elder' (by (with_reducible repeat (first|apply zA|apply zN|apply Kd.R_drew));exact HO_9.out) (Kd.R_base ho127) hb);have n1_:=zM (Kd.R_elder' (by (with_reducible repeat (first|apply zA|apply zN|apply Kd.R_drew));exact HO_11.out) (Kd.R_base ho127) hb);have n2_:=zM (Kd.R_elder' (by (with_reducible repeat (first|apply zA|apply zN|apply Kd.R_drew));exact HO_13.out) (Kd.R_base ho127) hb);have n3_:=zM (Kd.R_lower (Kd.R_new' (Kd.R_new' (Kd.R_new' ho127 (Kd.R_lt (by (with_reducible repeat (first|apply zA|apply zN|apply Kd.R_drew));exact HO_9.out))) (Kd.R_lt (by (with_reducible repeat (first|apply zA|apply zN|apply Kd.R_drew));exact HO_11.out))) (Kd.R_lt (by (with_reducible repeat (first|apply zA|apply zN|apply Kd.R_drew));exact HO_13.out))) (below_size (by repeat (first|(with_reducible first|exact HB.out|apply zB|apply zC|apply zE)|exact HB.out))));have n4_:=zM (below_step (by repeat (first|(with_reducible first|exact HB.out|apply zB|apply zC|apply zE)|exact HB.out)) hb);clear HO_9;clear HO_11;clear HO_13;clear HB;have HO_9:=n0_;have HO_11:=n1_;have HO_13:=n2_;have HO235:=n3_;have HB:=n4_;clear n0_ n1_ n2_ n3_ n4_;clear hb ho127;obtain ⟨Ao129, co129, eo129⟩:=Kd.R_slice HO_11.out;subst eo129)|((with_reducible refine gate_builtin (b:=.append) (xs:=#[.tmp 132, .tmp 133]) rfl ?_);(try (refine gate_guard (by rfl) ?_;dsimp only));at_builtin;refine Kd.R_append_rows (Kd.int .i64) (w0:=w) w.heap.size rfl (.tmp 132) (.tmp 133) 22 3 (.int .i64 0) 8 rfl Try.underlying22 info3 rfl (by decide) (by omega) v234 y233 t212 _ _ _ (fun k_=>some k_≠(.slice Ao13 t209.length co13 : Value).ownBlock∧some k_≠(.slice Ao129 t212.length co129 : Value).ownBlock∧some k_≠(v218 : Value).ownBlock) (fun _=>False) rfl rfl ?aO ?aR (fun _ _ h=>h) (fun _ h=>h.elim) ?aF ?aB ?aS ?aL ?_;(case aR=>repeat (first|exact (zR HO_11.out).2.2|(with_reducible refine Kd.C_alloc ?_ _)|(with_reducible refine Kd.C_drewN ?_ _)|(with_reducible refine Kd.C_drew ?_)));(case aB=>exact (by repeat (first|(with_reducible first|exact HB.out|apply zB|apply zC|apply zE)|exact HB.out)));(case aF=>exact (fun k_ hk=>⟨Kd.fresh' (Kd.R_lt (by (with_reducible repeat (first|apply zA|apply zN|apply Kd.R_drew));exact HO_9.out)) k_ hk, Kd.fresh' (Kd.R_lt (by (with_reducible repeat (first|apply zA|apply zN|apply Kd.R_drew));exact HO_11.out)) k_ hk, Kd.fresh' (Kd.R_lt (by (with_reducible repeat (first|apply zA|apply zN|apply Kd.R_drew));exact HO_13.out)) k_ hk⟩));(case aO=>exact (by (with_reducible repeat (first|apply zA|apply zN|apply Kd.R_drew));exact Kd.R_mono HO235.out (fun _ hk=>⟨hk.1.1.2, ⟨hk.1.2, hk.2⟩⟩)));(case aS=>exact (below_size (by repeat (first|(with_reducible first|exact HB.out|apply zB|apply zC|apply zE)|exact HB.out))));(case aL=>have:=LMc58.out;omega);intro v237 w128 ho hb hg hat;rw [← Ny236.out] at ho;have n0_:=zM (zF (ok:=(fun k_=>some k_≠(.slice Ao129 t212.length co129 : Value).ownBlock∧some k_≠(v218 : Value).ownBlock)) (by (with_reducible repeat (first|apply zA|apply zN|apply Kd.R_drew));exact HO_9.out) hg hat);have n1_:=zM (zF (ok:=(fun k_=>some k_≠(.slice Ao13 t209.length co13 : Value).ownBlock∧some k_≠(v218 : Value).ownBlock)) (by (with_reducible repeat (first|apply zA|apply zN|apply Kd.R_drew));exact HO_11.out) hg hat);have n2_:=zM (zF (ok:=(fun k_=>some k_≠(.slice Ao13 t209.length co13 : Value).ownBlock∧some k_≠(.slice Ao129 t212.length co129 : Value).ownBlock)) (by (with_reducible repeat (first|apply zA|apply zN|apply Kd.R_drew));exact HO_13.out) hg hat);have n3_:=zM (hb);have n4_:=zM (ho);clear HO_9;clear HO_11;clear HO_13;clear HB;clear HO235;have HO_9:=n0_;have HO_11:=n1_;have HO_13:=n2_;have HB:=n3_;have HO238:=n4_;clear n0_ n1_ n2_ n3_ n4_;clear ho hb hg hat;have p239 : 0 ≤ ((ji59) : Int):=zO (by first|(with_reducible assumption)|assumption);have q239 : (ji59) < (t212.length : Int):=zO (by first|(with_reducible assumption)|assumption);obtain ⟨ad239, e239, hx239_0⟩:=Kd.at_int (zR HO_11.out).2.2 (ji59) p239 q239;cases e239;replace p239:=eq_true p239;replace q239:=eq_true q239;have p65 : 0 ≤ ((ji62) : Int):=zO (by first|(with_reducible assumption)|assumption);have q65 : ((ji62) : Int) < ((y236.length : Int) : Int):=zO (by first|(with_reducible assumption)|assumption);obtain ⟨go65, co65, eo65, gb65, gl65, cl65, HG65⟩:=Kd.R_form HO238.out (by omega);(first|cases eo65|(injection eo65 with ea_ en_ ec_;(first|subst ea_|(injection ea_ with ea_;subst ea_));subst ec_;clear en_));have GB65:=zM gb65;have GG65:=zM HG65;clear gb65 gl65 HG65;obtain ⟨hx65_0, hf65_0⟩:=Kd.R_celln 0 HO238.out ((ji62) : Int) p65 q65;replace p65:=eq_true p65;replace q65:=eq_true q65;obtain ⟨hy130_, hz130_⟩:=Kd.R_celln 0 HO238.out ((ji62) : Int) (zO (by first|(with_reducible assumption)|assumption)) (zO (by first|(with_reducible assumption)|assumption));have HP130:=Kd.R_putg HO238.out ((ji62) : Int) (rd t212 (ji59)))|((with_reducible refine gate_store (t:=3) (p:=147) rfl ?_);(try (rw [drewN_self w128];generalize hq_ : World.drewN w128 _ = w128;have n0_:=zM (Kd.R_at hq_ HO_9.out);have n1_:=zM (Kd.R_at hq_ HO_11.out);have n2_:=zM (Kd.R_at hq_ HO_13.out);have n3_:=zM (Kd.R_at hq_ HO238.out);have n4_:=zM (below_at hq_ HB.out);clear hq_ HO_9 HO_11 HO_13 HO238 HB;have HO_9:=n0_;have HO_11:=n1_;have HO_13:=n2_;have HO238:=n3_;have HB:=n4_;clear n0_ n1_ n2_ n3_ n4_;(try (obtain ⟨hy130_, hz130_⟩:=Kd.R_celln 0 HO238.out ((ji62) : Int) (zO (by first|(with_reducible assumption)|assumption)) (zO (by first|(with_reducible assumption)|assumption))));(try (have HP130:=Kd.R_putg HO238.out ((ji62) : Int) (rd t212 (ji59))))));refine store_event (t:=3) (p:=147) (v:=?vo_w131) (w1:=(w128.setCell ⟨go65, ((ji62) : Int).toNat, none⟩ (.int .i64 (rd t212 (ji59))))) ?hg ?ho ?hn ?hr ?_;(case ho=>rfl);(case hg=>rfl);(case hn=>rfl);(case hr=>first|(go_simp;done)|(go_simp;rfl));intro w131 hw;have hg : w128.grownBy w131 (some go65):=(by rw [hw];exact HP130.2);have hp_ : Kd.R (Kd.int .i64) 3 w131 w.heap.size (fun k_=>some k_≠(.slice Ao13 t209.length co13 : Value).ownBlock∧some k_≠(.slice (some ad239) t212.length co129 : Value).ownBlock∧some k_≠(v218 : Value).ownBlock) (.slice (some ⟨go65, 0, none⟩) y236.length co65) y240:=(by rw [hw, Ny240.out];exact HP130.1);clear HP130;have n0_:=zM (zF (v:=(.slice (some ⟨go65, 0, none⟩) y236.length co65)) (v1:=(.slice (some ⟨go65, 0, none⟩) y236.length co65)) (ok:=(fun k_=>some k_≠(.slice (some ad239) t212.length co129 : Value).ownBlock∧some k_≠(v218 : Value).ownBlock)) (by (with_reducible repeat (first|apply zA|apply zN|apply Kd.R_drew));exact HO_9.out) hg (.inl rfl));have n1_:=zM (zF (v:=(.slice (some ⟨go65, 0, none⟩) y236.length co65)) (v1:=(.slice (some ⟨go65, 0, none⟩) y236.length co65)) (ok:=(fun k_=>some k_≠(.slice Ao13 t209.length co13 : Value).ownBlock∧some k_≠(v218 : Value).ownBlock)) (by (with_reducible repeat (first|apply zA|apply zN|apply Kd.R_drew));exact HO_11.out) hg (.inl rfl));have n2_:=zM (zF (v:=(.slice (some ⟨go65, 0, none⟩) y236.length co65)) (v1:=(.slice (some ⟨go65, 0, none⟩) y236.length co65)) (ok:=(fun k_=>some k_≠(.slice Ao13 t209.length co13 : Value).ownBlock∧some k_≠(.slice (some ad239) t212.length co129 : Value).ownBlock)) (by (with_reducible repeat (first|apply zA|apply zN|apply Kd.R_drew));exact HO_13.out) hg (.inl rfl));have n3_:=zM (hp_);have n4_:=zM ((by rw [hw];exact below_set (HB.out) GB65.out : Below w.heap.size w w131));clear HO_9;clear HO_11;clear HO_13;clear HO238;clear HB;have HO_9:=n0_;have HO_11:=n1_;have HO_13:=n2_;have HO238:=n3_;have HB:=n4_;clear n0_ n1_ n2_ n3_ n4_;clear hg hw hp_;have p241 : 0 ≤ ((ji62) : Int):=zO (by first|(with_reducible assumption)|assumption);have q241 : (ji62) < (t212.length : Int):=zO (by first|(with_reducible assumption)|assumption);obtain ⟨ad241, e241, hx241_0⟩:=Kd.at_int (zR HO_11.out).2.2 (ji62) p241 q241;obtain rfl : ad239 = ad241:=(by injection e241);replace p241:=eq_true p241;replace q241:=eq_true q241;have p68 : 0 ≤ ((ji59) : Int):=zO (by first|(with_reducible assumption)|assumption);have q68 : ((ji59) : Int) < ((y236.length : Int) : Int):=zO (by first|(with_reducible assumption)|assumption);obtain ⟨hx68_0, hf68_0⟩:=Kd.R_celln 0 HO238.out ((ji59) : Int) p68 q68;replace p68:=eq_true p68;replace q68:=eq_true q68;obtain ⟨hy132_, hz132_⟩:=Kd.R_celln 0 HO238.out ((ji59) : Int) (zO (by first|(with_reducible assumption)|assumption)) (zO (by first|(with_reducible assumption)|assumption));have HP132:=Kd.R_putg HO238.out ((ji59) : Int) (rd t212 (ji62)))|((with_reducible refine gate_store (t:=3) (p:=154) rfl ?_);(try (rw [drewN_self w131];generalize hq_ : World.drewN w131 _ = w131;have n0_:=zM (Kd.R_at hq_ HO_9.out);have n1_:=zM (Kd.R_at hq_ HO_11.out);have n2_:=zM (Kd.R_at hq_ HO_13.out);have n3_:=zM (Kd.R_at hq_ HO238.out);have n4_:=zM (below_at hq_ HB.out);clear hq_ HO_9 HO_11 HO_13 HO238 HB;have HO_9:=n0_;have HO_11:=n1_;have HO_13:=n2_;have HO238:=n3_;have HB:=n4_;clear n0_ n1_ n2_ n3_ n4_;(try (obtain ⟨hy132_, hz132_⟩:=Kd.R_celln 0 HO238.out ((ji59) : Int) (zO (by first|(with_reducible assumption)|assumption)) (zO (by first|(with_reducible assumption)|assumption))));(try (have HP132:=Kd.R_putg HO238.out ((ji59) : Int) (rd t212 (ji62))))));refine store_event (t:=3) (p:=154) (v:=?vo_w133) (w1:=(w131.setCell ⟨go65, ((ji59) : Int).toNat, none⟩ (.int .i64 (rd t212 (ji62))))) ?hg ?ho ?hn ?hr ?_;(case ho=>rfl);(case hg=>rfl);(case hn=>rfl);(case hr=>first|(go_simp;done)|(go_simp;rfl));intro w133 hw;have hg : w131.grownBy w133 (some go65):=(by rw [hw];exact HP132.2);have hp_ : Kd.R (Kd.int .i64) 3 w133 w.heap.size (fun k_=>some k_≠(.slice Ao13 t209.length co13 : Value).ownBlock∧some k_≠(.slice (some ad239) t212.length co129 : Value).ownBlock∧some k_≠(v218 : Value).ownBlock) (.slice (some ⟨go65, 0, none⟩) y236.length co65) y242:=(by rw [hw, Ny242.out];exact HP132.1);clear HP132;have n0_:=zM (zF (v:=(.slice (some ⟨go65, 0, none⟩) y236.length co65)) (v1:=(.slice (some ⟨go65, 0, none⟩) y236.length co65)) (ok:=(fun k_=>some k_≠(.slice (some ad239) t212.length co129 : Value).ownBlock∧some k_≠(v218 : Value).ownBlock)) (by (with_reducible repeat (first|apply zA|apply zN|apply Kd.R_drew));exact HO_9.out) hg (.inl rfl));have n1_:=zM (zF (v:=(.slice (some ⟨go65, 0, none⟩) y236.length co65)) (v1:=(.slice (some ⟨go65, 0, none⟩) y236.length co65)) (ok:=(fun k_=>some k_≠(.slice Ao13 t209.length co13 : Value).ownBlock∧some k_≠(v218 : Value).ownBlock)) (by (with_reducible repeat (first|apply zA|apply zN|apply Kd.R_drew));exact HO_11.out) hg (.inl rfl));have n2_:=zM (zF (v:=(.slice (some ⟨go65, 0, none⟩) y236.length co65)) (v1:=(.slice (some ⟨go65, 0, none⟩) y236.length co65)) (ok:=(fun k_=>some k_≠(.slice Ao13 t209.length co13 : Value).ownBlock∧some k_≠(.slice (some ad239) t212.length co129 : Value).ownBlock)) (by (with_reducible repeat (first|apply zA|apply zN|apply Kd.R_drew));exact HO_13.out) hg (.inl rfl));have n3_:=zM (hp_);have n4_:=zM ((by rw [hw];exact below_set (HB.out) GB65.out : Below w.heap.size w w133));clear HO_9;clear HO_11;clear HO_13;clear HO238;clear HB;have HO_9:=n0_;have HO_11:=n1_;have HO_13:=n2_;have HO238:=n3_;have HB:=n4_;clear n0_ n1_ n2_ n3_ n4_;clear hg hw hp_;have p243 : 0 ≤ ((ji62) : Int):=zO (by first|(with_reducible assumption)|assumption);have q243 : (ji62) < (t209.length : Int):=zO (by first|(with_reducible assumption)|assumption);obtain ⟨ad243, e243, hx243_0⟩:=Kd.at_int (zR HO_9.out).2.2 (ji62) p243 q243;cases e243;replace p243:=eq_true p243;replace q243:=eq_true q243;have p247 : 0 ≤ ((ji59) : Int):=zO (by first|(with_reducible assumption)|assumption);have q247 : (ji59) < (t209.length : Int):=zO (by first|(with_reducible assumption)|assumption);obtain ⟨ad247, e247, hx247_0⟩:=Kd.at_int (zR HO_9.out).2.2 (ji59) p247 q247;obtain rfl : ad243 = ad247:=(by injection e247);replace p247:=eq_true p247;replace q247:=eq_true q247)|(go_at_call 15;refine calls_of_args (args':=#[.slice (some ad243) t209.length co13, .slice (some ⟨go65, 0, none⟩) y242.length co65]) (by first|(rw [show y242.length = y236.length from (zR HO238.out).1.symm] <;> rfl)|rfl) ?_;(with_reducible refine (merge_Cost.calls _ _ t209 _ _ y242 t251 _ ?side1 ?side2 ?side3 ?side4 A119.out).mono ?_);(case side1=>repeat (first|exact (zR HO_9.out).2.2|(with_reducible refine Kd.C_alloc ?_ _)|(with_reducible refine Kd.C_drewN ?_ _)|(with_reducible refine Kd.C_drew ?_)));(case side2=>exact (zR HO_9.out).2.1);(case side3=>repeat (first|exact (zR HO238.out).2.2|(with_reducible refine Kd.C_alloc ?_ _)|(with_reducible refine Kd.C_drewN ?_ _)|(with_reducible refine Kd.C_drew ?_)));(case side4=>rw [show y242.length = y236.length from (zR HO238.out).1.symm];exact (zR HO238.out).2.1);rintro e w' ⟨rfl, ⟨nd, rfl⟩⟩;(try first|exact ⟨rfl, _, zW _ _ _⟩|exact ⟨rfl, _, Eq.trans (zW _ _ _) (congrArg (World.drewN _) (Nat.add_assoc _ _ _))⟩))|(go_at_call 15;(with_reducible refine (merge_Cost.calls _ _ t209 _ _ t212 t252 _ ?side1 ?side2 ?side3 ?side4 A120.out).mono ?_);(case side1=>repeat (first|exact (zR HO_9.out).2.2|(with_reducible refine Kd.C_alloc ?_ _)|(with_reducible refine Kd.C_drewN ?_ _)|(with_reducible refine Kd.C_drew ?_)));(case side2=>exact (zR HO_9.out).2.1);(case side3=>repeat (first|exact (zR HO_11.out).2.2|(with_reducible refine Kd.C_alloc ?_ _)|(with_reducible refine Kd.C_drewN ?_ _)|(with_reducible refine Kd.C_drew ?_)));(case side4=>exact (zR HO_11.out).2.1);rintro e w' ⟨rfl, ⟨nd, rfl⟩⟩;(try first|exact ⟨rfl, _, zW _ _ _⟩|exact ⟨rfl, _, Eq.trans (zW _ _ _) (congrArg (World.drewN _) (Nat.add_assoc _ _ _))⟩);obtain ⟨Ao134, co134, eo134⟩:=Kd.R_slice HO_13.out;subst eo134)|(go_at_call 15;(with_reducible refine (merge_Cost.calls _ _ t209 _ _ t216 t253 _ ?side1 ?side2 ?side3 ?side4 A122.out).mono ?_);(case side1=>repeat (first|exact (zR HO_9.out).2.2|(with_reducible refine Kd.C_alloc ?_ _)|(with_reducible refine Kd.C_drewN ?_ _)|(with_reducible refine Kd.C_drew ?_)));(case side2=>exact (zR HO_9.out).2.1);(case side3=>repeat (first|exact (zR HO_13.out).2.2|(with_reducible refine Kd.C_alloc ?_ _)|(with_reducible refine Kd.C_drewN ?_ _)|(with_reducible refine Kd.C_drew ?_)));(case side4=>exact (zR HO_13.out).2.1);rintro e w' ⟨rfl, ⟨nd, rfl⟩⟩;(try first|exact ⟨rfl, _, zW _ _ _⟩|exact ⟨rfl, _, Eq.trans (zW _ _ _) (congrArg (World.drewN _) (Nat.add_assoc _ _ _))⟩))|(go_at_call 15;(with_reducible refine (merge_Cost.calls _ _ t209 _ _ t212 t254 _ ?side1 ?side2 ?side3 ?side4 A123.out).mono ?_);(case side1=>repeat (first|exact (zR HO_9.out).2.2|(with_reducible refine Kd.C_alloc ?_ _)|(with_reducible refine Kd.C_drewN ?_ _)|(with_reducible refine Kd.C_drew ?_)));(case side2=>exact (zR HO_9.out).2.1);(case side3=>repeat (first|exact (zR HO_11.out).2.2|(with_reducible refine Kd.C_alloc ?_ _)|(with_reducible refine Kd.C_drewN ?_ _)|(with_reducible refine Kd.C_drew ?_)));(case side4=>exact (zR HO_11.out).2.1);rintro e w' ⟨rfl, ⟨nd, rfl⟩⟩;(try first|exact ⟨rfl, _, zW _ _ _⟩|exact ⟨rfl, _, Eq.trans (zW _ _ _) (congrArg (World.drewN _) (Nat.add_assoc _ _ _))⟩))|(go_at_call 10;(with_reducible refine (wringerlaw8_awake.calls  t255 _ A125.out).mono ?_);rintro e w135 ⟨rfl, hb⟩;have n0_:=zM (Kd.R_below (by (with_reducible repeat (first|apply zA|apply zN|apply Kd.R_drew));exact HO_9.out) hb);have n1_:=zM (Kd.R_below (by (with_reducible repeat (first|apply zA|apply zN|apply Kd.R_drew));exact HO_11.out) hb);have n2_:=zM (Kd.R_below (by (with_reducible repeat (first|apply zA|apply zN|apply Kd.R_drew));exact HO_13.out) hb);have n3_:=zM (Kd.R_below (by (with_reducible repeat (first|apply zA|apply zN|apply Kd.R_drew));exact HO238.out) hb);have n4_:=zM (below_step (by repeat (first|(with_reducible first|exact HB.out|apply zB|apply zC|apply zE)|exact HB.out)) hb);clear HO_9;clear HO_11;clear HO_13;clear HO238;clear HB;have HO_9:=n0_;have HO_11:=n1_;have HO_13:=n2_;have HO238:=n3_;have HB:=n4_;clear n0_ n1_ n2_ n3_ n4_;(try clear hb);(try clear hb2);(try clear hk);(try clear hi)));try go_wp2_with (first|((with_reducible refine gate_dst (N:=132) rfl ?_);(try (refine gate_guard (by rfl) ?_;dsimp only));refine Kd.R_lit (Kd.int .i64) _ 3 ?hg (N:=132) ?hd (xs:=([] : List Int)) (inner:=[]) (ok:=fun _=>True) (okp:=fun _=>True) ?hr ?hp (fun _ hk=>hk) trivial (Below.refl _ _) (Nat.le_refl _) (by simp) ?_;(case hd=>rfl);(case hg=>rfl);(case hr=>first|(go_simp;done)|(go_simp;rfl));(case hp=>exact (Reps.none _ _));intro v234 w126 ho127 hb hg_ hnew_;clear hg_ hnew_;(first|rw [← Ny233.out] at ho127|(simp only [Int.reduceToNat] at ho127;rw [← Ny233.out] at ho127));have n0_:=zM (Kd.R_elder' (by (with_reducible repeat (first|apply zA|apply zN|apply Kd.R_drew));exact HO_9.out) (Kd.R_base ho127) hb);have n1_:=zM (Kd.R_elder' (by (with_reducible repeat (first|apply zA|apply zN|apply Kd.R_drew));exact HO_11.out) (Kd.R_base ho127) hb);have n2_:=zM (Kd.R_elder' (by (with_reducible repeat (first|apply zA|apply zN|apply Kd.R_drew));exact HO_13.out) (Kd.R_base ho127) hb);have n3_:=zM (Kd.R_lower (Kd.R_new' (Kd.R_new' (Kd.R_new' ho127 (Kd.R_lt (by (with_reducible repeat (first|apply zA|apply zN|apply Kd.R_drew));exact HO_9.out))) (Kd.R_lt (by (with_reducible repeat (first|apply zA|apply zN|apply Kd.R_drew));exact HO_11.out))) (Kd.R_lt (by (with_reducible repeat (first|apply zA|apply zN|apply Kd.R_drew));exact HO_13.out))) (below_size (by repeat (first|(with_reducible first|exact HB.out|apply zB|apply zC|apply zE)|exact HB.out))));have n4_:=zM (below_step (by repeat (first|(with_reducible first|exact HB.out|apply zB|apply zC|apply zE)|exact HB.out)) hb);clear HO_9;clear HO_11;clear HO_13;clear HB;have HO_9:=n0_;have HO_11:=n1_;have HO_13:=n2_;have HO235:=n3_;have HB:=n4_;clear n0_ n1_ n2_ n3_ n4_;clear hb ho127;obtain ⟨Ao129, co129, eo129⟩:=Kd.R_slice HO_11.out;subst eo129)|((with_reducible refine gate_builtin (b:=.append) (xs:=#[.tmp 132, .tmp 133]) rfl ?_);(try (refine gate_guard (by rfl) ?_;dsimp only));at_builtin;refine Kd.R_append_rows (Kd.int .i64) (w0:=w) w.heap.size rfl (.tmp 132) (.tmp 133) 22 3 (.int .i64 0) 8 rfl Try.underlying22 info3 rfl (by decide) (by omega) v234 y233 t212 _ _ _ (fun k_=>some k_≠(.slice Ao13 t209.length co13 : Value).ownBlock∧some k_≠(.slice Ao129 t212.length co129 : Value).ownBlock∧some k_≠(v218 : Value).ownBlock) (fun _=>False) rfl rfl ?aO ?aR (fun _ _ h=>h) (fun _ h=>h.elim) ?aF ?aB ?aS ?aL ?_;(case aR=>repeat (first|exact (zR HO_11.out).2.2|(with_reducible refine Kd.C_alloc ?_ _)|(with_reducible refine Kd.C_drewN ?_ _)|(with_reducible refine Kd.C_drew ?_)));(case aB=>exact (by repeat (first|(with_reducible first|exact HB.out|apply zB|apply zC|apply zE)|exact HB.out)));(case aF=>exact (fun k_ hk=>⟨Kd.fresh' (Kd.R_lt (by (with_reducible repeat (first|apply zA|apply zN|apply Kd.R_drew));exact HO_9.out)) k_ hk, Kd.fresh' (Kd.R_lt (by (with_reducible repeat (first|apply zA|apply zN|apply Kd.R_drew));exact HO_11.out)) k_ hk, Kd.fresh' (Kd.R_lt (by (with_reducible repeat (first|apply zA|apply zN|apply Kd.R_drew));exact HO_13.out)) k_ hk⟩));(case aO=>exact (by (with_reducible repeat (first|apply zA|apply zN|apply Kd.R_drew));exact Kd.R_mono HO235.out (fun _ hk=>⟨hk.1.1.2, ⟨hk.1.2, hk.2⟩⟩)));(case aS=>exact (below_size (by repeat (first|(with_reducible first|exact HB.out|apply zB|apply zC|apply zE)|exact HB.out))));(case aL=>have:=LMc58.out;omega);intro v237 w128 ho hb hg hat;rw [← Ny236.out] at ho;have n0_:=zM (zF (ok:=(fun k_=>some k_≠(.slice Ao129 t212.length co129 : Value).ownBlock∧some k_≠(v218 : Value).ownBlock)) (by (with_reducible repeat (first|apply zA|apply zN|apply Kd.R_drew));exact HO_9.out) hg hat);have n1_:=zM (zF (ok:=(fun k_=>some k_≠(.slice Ao13 t209.length co13 : Value).ownBlock∧some k_≠(v218 : Value).ownBlock)) (by (with_reducible repeat (first|apply zA|apply zN|apply Kd.R_drew));exact HO_11.out) hg hat);have n2_:=zM (zF (ok:=(fun k_=>some k_≠(.slice Ao13 t209.length co13 : Value).ownBlock∧some k_≠(.slice Ao129 t212.length co129 : Value).ownBlock)) (by (with_reducible repeat (first|apply zA|apply zN|apply Kd.R_drew));exact HO_13.out) hg hat);have n3_:=zM (hb);have n4_:=zM (ho);clear HO_9;clear HO_11;clear HO_13;clear HB;clear HO235;have HO_9:=n0_;have HO_11:=n1_;have HO_13:=n2_;have HB:=n3_;have HO238:=n4_;clear n0_ n1_ n2_ n3_ n4_;clear ho hb hg hat;have p239 : 0 ≤ ((ji59) : Int):=zO (by first|(with_reducible assumption)|assumption);have q239 : (ji59) < (t212.length : Int):=zO (by first|(with_reducible assumption)|assumption);obtain ⟨ad239, e239, hx239_0⟩:=Kd.at_int (zR HO_11.out).2.2 (ji59) p239 q239;cases e239;replace p239:=eq_true p239;replace q239:=eq_true q239;have p65 : 0 ≤ ((ji62) : Int):=zO (by first|(with_reducible assumption)|assumption);have q65 : ((ji62) : Int) < ((y236.length : Int) : Int):=zO (by first|(with_reducible assumption)|assumption);obtain ⟨go65, co65, eo65, gb65, gl65, cl65, HG65⟩:=Kd.R_form HO238.out (by omega);(first|cases eo65|(injection eo65 with ea_ en_ ec_;(first|subst ea_|(injection ea_ with ea_;subst ea_));subst ec_;clear en_));have GB65:=zM gb65;have GG65:=zM HG65;clear gb65 gl65 HG65;obtain ⟨hx65_0, hf65_0⟩:=Kd.R_celln 0 HO238.out ((ji62) : Int) p65 q65;replace p65:=eq_true p65;replace q65:=eq_true q65;obtain ⟨hy130_, hz130_⟩:=Kd.R_celln 0 HO238.out ((ji62) : Int) (zO (by first|(with_reducible assumption)|assumption)) (zO (by first|(with_reducible assumption)|assumption));have HP130:=Kd.R_putg HO238.out ((ji62) : Int) (rd t212 (ji59)))|((with_reducible refine gate_store (t:=3) (p:=147) rfl ?_);(try (rw [drewN_self w128];generalize hq_ : World.drewN w128 _ = w128;have n0_:=zM (Kd.R_at hq_ HO_9.out);have n1_:=zM (Kd.R_at hq_ HO_11.out);have n2_:=zM (Kd.R_at hq_ HO_13.out);have n3_:=zM (Kd.R_at hq_ HO238.out);have n4_:=zM (below_at hq_ HB.out);clear hq_ HO_9 HO_11 HO_13 HO238 HB;have HO_9:=n0_;have HO_11:=n1_;have HO_13:=n2_;have HO238:=n3_;have HB:=n4_;clear n0_ n1_ n2_ n3_ n4_;(try (obtain ⟨hy130_, hz130_⟩:=Kd.R_celln 0 HO238.out ((ji62) : Int) (zO (by first|(with_reducible assumption)|assumption)) (zO (by first|(with_reducible assumption)|assumption))));(try (have HP130:=Kd.R_putg HO238.out ((ji62) : Int) (rd t212 (ji59))))));refine store_event (t:=3) (p:=147) (v:=?vo_w131) (w1:=(w128.setCell ⟨go65, ((ji62) : Int).toNat, none⟩ (.int .i64 (rd t212 (ji59))))) ?hg ?ho ?hn ?hr ?_;(case ho=>rfl);(case hg=>rfl);(case hn=>rfl);(case hr=>first|(go_simp;done)|(go_simp;rfl));intro w131 hw;have hg : w128.grownBy w131 (some go65):=(by rw [hw];exact HP130.2);have hp_ : Kd.R (Kd.int .i64) 3 w131 w.heap.size (fun k_=>some k_≠(.slice Ao13 t209.length co13 : Value).ownBlock∧some k_≠(.slice (some ad239) t212.length co129 : Value).ownBlock∧some k_≠(v218 : Value).ownBlock) (.slice (some ⟨go65, 0, none⟩) y236.length co65) y240:=(by rw [hw, Ny240.out];exact HP130.1);clear HP130;have n0_:=zM (zF (v:=(.slice (some ⟨go65, 0, none⟩) y236.length co65)) (v1:=(.slice (some ⟨go65, 0, none⟩) y236.length co65)) (ok:=(fun k_=>some k_≠(.slice (some ad239) t212.length co129 : Value).ownBlock∧some k_≠(v218 : Value).ownBlock)) (by (with_reducible repeat (first|apply zA|apply zN|apply Kd.R_drew));exact HO_9.out) hg (.inl rfl));have n1_:=zM (zF (v:=(.slice (some ⟨go65, 0, none⟩) y236.length co65)) (v1:=(.slice (some ⟨go65, 0, none⟩) y236.length co65)) (ok:=(fun k_=>some k_≠(.slice Ao13 t209.length co13 : Value).ownBlock∧some k_≠(v218 : Value).ownBlock)) (by (with_reducible repeat (first|apply zA|apply zN|apply Kd.R_drew));exact HO_11.out) hg (.inl rfl));have n2_:=zM (zF (v:=(.slice (some ⟨go65, 0, none⟩) y236.length co65)) (v1:=(.slice (some ⟨go65, 0, none⟩) y236.length co65)) (ok:=(fun k_=>some k_≠(.slice Ao13 t209.length co13 : Value).ownBlock∧some k_≠(.slice (some ad239) t212.length co129 : Value).ownBlock)) (by (with_reducible repeat (first|apply zA|apply zN|apply Kd.R_drew));exact HO_13.out) hg (.inl rfl));have n3_:=zM (hp_);have n4_:=zM ((by rw [hw];exact below_set (HB.out) GB65.out : Below w.heap.size w w131));clear HO_9;clear HO_11;clear HO_13;clear HO238;clear HB;have HO_9:=n0_;have HO_11:=n1_;have HO_13:=n2_;have HO238:=n3_;have HB:=n4_;clear n0_ n1_ n2_ n3_ n4_;clear hg hw hp_;have p241 : 0 ≤ ((ji62) : Int):=zO (by first|(with_reducible assumption)|assumption);have q241 : (ji62) < (t212.length : Int):=zO (by first|(with_reducible assumption)|assumption);obtain ⟨ad241, e241, hx241_0⟩:=Kd.at_int (zR HO_11.out).2.2 (ji62) p241 q241;obtain rfl : ad239 = ad241:=(by injection e241);replace p241:=eq_true p241;replace q241:=eq_true q241;have p68 : 0 ≤ ((ji59) : Int):=zO (by first|(with_reducible assumption)|assumption);have q68 : ((ji59) : Int) < ((y236.length : Int) : Int):=zO (by first|(with_reducible assumption)|assumption);obtain ⟨hx68_0, hf68_0⟩:=Kd.R_celln 0 HO238.out ((ji59) : Int) p68 q68;replace p68:=eq_true p68;replace q68:=eq_true q68;obtain ⟨hy132_, hz132_⟩:=Kd.R_celln 0 HO238.out ((ji59) : Int) (zO (by first|(with_reducible assumption)|assumption)) (zO (by first|(with_reducible assumption)|assumption));have HP132:=Kd.R_putg HO238.out ((ji59) : Int) (rd t212 (ji62)))|((with_reducible refine gate_store (t:=3) (p:=154) rfl ?_);(try (rw [drewN_self w131];generalize hq_ : World.drewN w131 _ = w131;have n0_:=zM (Kd.R_at hq_ HO_9.out);have n1_:=zM (Kd.R_at hq_ HO_11.out);have n2_:=zM (Kd.R_at hq_ HO_13.out);have n3_:=zM (Kd.R_at hq_ HO238.out);have n4_:=zM (below_at hq_ HB.out);clear hq_ HO_9 HO_11 HO_13 HO238 HB;have HO_9:=n0_;have HO_11:=n1_;have HO_13:=n2_;have HO238:=n3_;have HB:=n4_;clear n0_ n1_ n2_ n3_ n4_;(try (obtain ⟨hy132_, hz132_⟩:=Kd.R_celln 0 HO238.out ((ji59) : Int) (zO (by first|(with_reducible assumption)|assumption)) (zO (by first|(with_reducible assumption)|assumption))));(try (have HP132:=Kd.R_putg HO238.out ((ji59) : Int) (rd t212 (ji62))))));refine store_event (t:=3) (p:=154) (v:=?vo_w133) (w1:=(w131.setCell ⟨go65, ((ji59) : Int).toNat, none⟩ (.int .i64 (rd t212 (ji62))))) ?hg ?ho ?hn ?hr ?_;(case ho=>rfl);(case hg=>rfl);(case hn=>rfl);(case hr=>first|(go_simp;done)|(go_simp;rfl));intro w133 hw;have hg : w131.grownBy w133 (some go65):=(by rw [hw];exact HP132.2);have hp_ : Kd.R (Kd.int .i64) 3 w133 w.heap.size (fun k_=>some k_≠(.slice Ao13 t209.length co13 : Value).ownBlock∧some k_≠(.slice (some ad239) t212.length co129 : Value).ownBlock∧some k_≠(v218 : Value).ownBlock) (.slice (some ⟨go65, 0, none⟩) y236.length co65) y242:=(by rw [hw, Ny242.out];exact HP132.1);clear HP132;have n0_:=zM (zF (v:=(.slice (some ⟨go65, 0, none⟩) y236.length co65)) (v1:=(.slice (some ⟨go65, 0, none⟩) y236.length co65)) (ok:=(fun k_=>some k_≠(.slice (some ad239) t212.length co129 : Value).ownBlock∧some k_≠(v218 : Value).ownBlock)) (by (with_reducible repeat (first|apply zA|apply zN|apply Kd.R_drew));exact HO_9.out) hg (.inl rfl));have n1_:=zM (zF (v:=(.slice (some ⟨go65, 0, none⟩) y236.length co65)) (v1:=(.slice (some ⟨go65, 0, none⟩) y236.length co65)) (ok:=(fun k_=>some k_≠(.slice Ao13 t209.length co13 : Value).ownBlock∧some k_≠(v218 : Value).ownBlock)) (by (with_reducible repeat (first|apply zA|apply zN|apply Kd.R_drew));exact HO_11.out) hg (.inl rfl));have n2_:=zM (zF (v:=(.slice (some ⟨go65, 0, none⟩) y236.length co65)) (v1:=(.slice (some ⟨go65, 0, none⟩) y236.length co65)) (ok:=(fun k_=>some k_≠(.slice Ao13 t209.length co13 : Value).ownBlock∧some k_≠(.slice (some ad239) t212.length co129 : Value).ownBlock)) (by (with_reducible repeat (first|apply zA|apply zN|apply Kd.R_drew));exact HO_13.out) hg (.inl rfl));have n3_:=zM (hp_);have n4_:=zM ((by rw [hw];exact below_set (HB.out) GB65.out : Below w.heap.size w w133));clear HO_9;clear HO_11;clear HO_13;clear HO238;clear HB;have HO_9:=n0_;have HO_11:=n1_;have HO_13:=n2_;have HO238:=n3_;have HB:=n4_;clear n0_ n1_ n2_ n3_ n4_;clear hg hw hp_;have p243 : 0 ≤ ((ji62) : Int):=zO (by first|(with_reducible assumption)|assumption);have q243 : (ji62) < (t209.length : Int):=zO (by first|(with_reducible assumption)|assumption);obtain ⟨ad243, e243, hx243_0⟩:=Kd.at_int (zR HO_9.out).2.2 (ji62) p243 q243;cases e243;replace p243:=eq_true p243;replace q243:=eq_true q243;have p247 : 0 ≤ ((ji59) : Int):=zO (by first|(with_reducible assumption)|assumption);have q247 : (ji59) < (t209.length : Int):=zO (by first|(with_reducible assumption)|assumption);obtain ⟨ad247, e247, hx247_0⟩:=Kd.at_int (zR HO_9.out).2.2 (ji59) p247 q247;obtain rfl : ad243 = ad247:=(by injection e247);replace p247:=eq_true p247;replace q247:=eq_true q247)|(go_at_call 15;refine calls_of_args (args':=#[.slice (some ad243) t209.length co13, .slice (some ⟨go65, 0, none⟩) y242.length co65]) (by first|(rw [show y242.length = y236.length from (zR HO238.out).1.symm] <;> rfl)|rfl) ?_;(with_reducible refine (merge_Cost.calls _ _ t209 _ _ y242 t251 _ ?side1 ?side2 ?side3 ?side4 A119.out).mono ?_);(case side1=>repeat (first|exact (zR HO_9.out).2.2|(with_reducible refine Kd.C_alloc ?_ _)|(with_reducible refine Kd.C_drewN ?_ _)|(with_reducible refine Kd.C_drew ?_)));(case side2=>exact (zR HO_9.out).2.1);(case side3=>repeat (first|exact (zR HO238.out).2.2|(with_reducible refine Kd.C_alloc ?_ _)|(with_reducible refine Kd.C_drewN ?_ _)|(with_reducible refine Kd.C_drew ?_)));(case side4=>rw [show y242.length = y236.length from (zR HO238.out).1.symm];exact (zR HO238.out).2.1);rintro e w' ⟨rfl, ⟨nd, rfl⟩⟩;(try first|exact ⟨rfl, _, zW _ _ _⟩|exact ⟨rfl, _, Eq.trans (zW _ _ _) (congrArg (World.drewN _) (Nat.add_assoc _ _ _))⟩))|(go_at_call 15;(with_reducible refine (merge_Cost.calls _ _ t209 _ _ t212 t252 _ ?side1 ?side2 ?side3 ?side4 A120.out).mono ?_);(case side1=>repeat (first|exact (zR HO_9.out).2.2|(with_reducible refine Kd.C_alloc ?_ _)|(with_reducible refine Kd.C_drewN ?_ _)|(with_reducible refine Kd.C_drew ?_)));(case side2=>exact (zR HO_9.out).2.1);(case side3=>repeat (first|exact (zR HO_11.out).2.2|(with_reducible refine Kd.C_alloc ?_ _)|(with_reducible refine Kd.C_drewN ?_ _)|(with_reducible refine Kd.C_drew ?_)));(case side4=>exact (zR HO_11.out).2.1);rintro e w' ⟨rfl, ⟨nd, rfl⟩⟩;(try first|exact ⟨rfl, _, zW _ _ _⟩|exact ⟨rfl, _, Eq.trans (zW _ _ _) (congrArg (World.drewN _) (Nat.add_assoc _ _ _))⟩);obtain ⟨Ao134, co134, eo134⟩:=Kd.R_slice HO_13.out;subst eo134)|(go_at_call 15;(with_reducible refine (merge_Cost.calls _ _ t209 _ _ t216 t253 _ ?side1 ?side2 ?side3 ?side4 A122.out).mono ?_);(case side1=>repeat (first|exact (zR HO_9.out).2.2|(with_reducible refine Kd.C_alloc ?_ _)|(with_reducible refine Kd.C_drewN ?_ _)|(with_reducible refine Kd.C_drew ?_)));(case side2=>exact (zR HO_9.out).2.1);(case side3=>repeat (first|exact (zR HO_13.out).2.2|(with_reducible refine Kd.C_alloc ?_ _)|(with_reducible refine Kd.C_drewN ?_ _)|(with_reducible refine Kd.C_drew ?_)));(case side4=>exact (zR HO_13.out).2.1);rintro e w' ⟨rfl, ⟨nd, rfl⟩⟩;(try first|exact ⟨rfl, _, zW _ _ _⟩|exact ⟨rfl, _, Eq.trans (zW _ _ _) (congrArg (World.drewN _) (Nat.add_assoc _ _ _))⟩))|(go_at_call 15;(with_reducible refine (merge_Cost.calls _ _ t209 _ _ t212 t254 _ ?side1 ?side2 ?side3 ?side4 A123.out).mono ?_);(case side1=>repeat (first|exact (zR HO_9.out).2.2|(with_reducible refine Kd.C_alloc ?_ _)|(with_reducible refine Kd.C_drewN ?_ _)|(with_reducible refine Kd.C_drew ?_)));(case side2=>exact (zR HO_9.out).2.1);(case side3=>repeat (first|exact (zR HO_11.out).2.2|(with_reducible refine Kd.C_alloc ?_ _)|(with_reducible refine Kd.C_drewN ?_ _)|(with_reducible refine Kd.C_drew ?_)));(case side4=>exact (zR HO_11.out).2.1);rintro e w' ⟨rfl, ⟨nd, rfl⟩⟩;(try first|exact ⟨rfl, _, zW _ _ _⟩|exact ⟨rfl, _, Eq.trans (zW _ _ _) (congrArg (World.drewN _) (Nat.add_assoc _ _ _))⟩))|(go_at_call 10;(with_reducible refine (wringerlaw8_awake.calls  t255 _ A125.out).mono ?_);rintro e w135 ⟨rfl, hb⟩;have n0_:=zM (Kd.R_below (by (with_reducible repeat (first|apply zA|apply zN|apply Kd.R_drew));exact HO_9.out) hb);have n1_:=zM (Kd.R_below (by (with_reducible repeat (first|apply zA|apply zN|apply Kd.R_drew));exact HO_11.out) hb);have n2_:=zM (Kd.R_below (by (with_reducible repeat (first|apply zA|apply zN|apply Kd.R_drew));exact HO_13.out) hb);have n3_:=zM (Kd.R_below (by (with_reducible repeat (first|apply zA|apply zN|apply Kd.R_drew));exact HO238.out) hb);have n4_:=zM (below_step (by repeat (first|(with_reducible first|exact HB.out|apply zB|apply zC|apply zE)|exact HB.out)) hb);clear HO_9;clear HO_11;clear HO_13;clear HO238;clear HB;have HO_9:=n0_;have HO_11:=n1_;have HO_13:=n2_;have HO238:=n3_;have HB:=n4_;clear n0_ n1_ n2_ n3_ n4_;(try clear hb);(try clear hb2);(try clear hk);(try clear hi))))
                     go_ret
                     exact ⟨by first|rfl|(simp [errW_none, errW_some] <;> rfl)|(simp only [← hji59, ← hji62];first|rfl|(simp [errW_none, errW_some] <;> rfl))|(simp [*, errW_none, errW_some] <;> rfl), by repeat (first|(with_reducible first|exact HB.out|apply zB|apply zC|apply zE)|exact HB.out)⟩
                    ·rw [if_neg c124] at H
                     have c124b0 : decide (t253 ≤ t254) = false:=decide_eq_false c124
                     clear c124
                     exact absurd ((Option.some.inj H).trans HR1.out) (by decide)
                   ·rw [if_neg c121] at H
                    have c121b0 : decide (t252 ≤ t251) = false:=decide_eq_false c121
                    clear c121
                    exact absurd ((Option.some.inj H).trans HR1.out) (by decide)
                 ·rw [if_neg c94] at H
                  exact absurd H (by simp)
               ·rw [if_neg c69] at H
                exact absurd H (by simp)
              ·rw [if_neg c67] at H
               exact absurd H (by simp)
             ·rw [if_neg c66] at H
              exact absurd H (by simp)
            ·rw [if_neg c64] at H
             exact absurd H (by simp)
           ·rw [if_neg c63] at H
            exact absurd H (by simp)
          ·rw [if_neg c61] at H
           exact absurd H (by simp)
         ·rw [if_neg c60] at H
          exact absurd H (by simp)
        ·rw [if_neg c58] at H
         exact absurd H (by simp)

/-- THE ONE PURE STATEMENT of wringerlaw8_MergeLeast: yours. -/
def wringerlaw8_MergeLeast.Pure : Prop := ∀ (l0 : List Int) (a1 : Int) (a2 : Int) (a3 : Int), l0.length ≤ maxLen → l0.length * 2 ≤ 140737488351232 → (∀ x ∈ l0, (Lit.int .u16 x).wf = true) → (Lit.int .u8 a1).wf = true → (Lit.int .u8 a2).wf = true → (Lit.int .u8 a3).wf = true → ∃ k, wringerlaw8_MergeLeast.f k l0 a1 a2 a3 = some true
theorem wringerlaw8_MergeLeast.walk (P : wringerlaw8_MergeLeast.Pure) (a0 : Option Addr) (len0 cap0 : Nat) (z0 : List Int) (a1 : Int) (a2 : Int) (a3 : Int) (w : World) (w0 : (a0 = none ∧ len0 = 0 ∧ cap0 = 0 ∧ z0 = []) ∨ ∃ x, a0 = some x ∧ len0 ≤ cap0 ∧ cap0 ≤ maxLen ∧ z0.length = cap0 ∧ (∀ i, i < z0.length → w.cell? (x.add i) = some (.int .u16 (z0.getD i 0))) ∧ ∀ n ∈ z0, (Lit.int .u16 n).wf = true) (y0 : len0 * 2 ≤ 140737488351232) (w1 : (Lit.int .u8 a1).wf = true) (w2 : (Lit.int .u8 a2).wf = true) (w3 : (Lit.int .u8 a3).wf = true) :
  Calls Try.prog 5 #[.slice a0 len0 cap0, .int .u8 a1, .int .u8 a2, .int .u8 a3] w fun e w' => e = .returned (.bool true) ∧ Below w.heap.size w w' := by
 obtain ⟨l0, rfl, hr0, hm0, hw0, hc0⟩ := ReadsInt.ofRowC w0
 obtain ⟨k, h⟩ := P l0 a1 a2 a3 hm0 y0 hw0 w1 w2 w3
 refine (wringerlaw8_MergeLeast.calls k _ _ l0 a1 a2 a3 true w (Kd.C_of_reads (d := (0 : Int)) (h1 := fun _ => rfl) hr0) hc0 rfl h).mono ?_
 rintro e w' ⟨rfl, hd⟩
 exact ⟨rfl, hd⟩

end Go.Proofs.Ytejecpmfhgplmaa.PA

-- ---- Ub
/- Words of the print's plain functions: small facts. No program in sight. -/
namespace Go.Proofs.Ytejecpmfhgplmaa.PA
set_option linter.unusedVariables false
set_option linter.unusedSimpArgs false
open Go.RowKit Go.Proofs.YtejecpmfhgplmaaW.PrintWords Go.Proofs.YtejecpmfhgplmaaW.PrintLast Go.Proofs.YtejecpmfhgplmaaW.PrintMore

theorem w64 {x : Int} (h1 : -9223372036854775808 ≤ x) (h2 : x ≤ 9223372036854775807) : wrap64 x = x := by unfold wrap64; omega
theorem rd_nat (xs : List Int) (i : Nat) : rd xs (i : Int) = xs.getD i 0 := by unfold rd; rw [Int.toNat_natCast]
theorem pow2_le (k m : Nat) (h : k ≤ m) : 2 ^ k ≤ 2 ^ m := Nat.pow_le_pow_right (by decide) h
theorem i64_wrap_nat (n : Nat) (h : n < 9223372036854775808) : IntKind.i64.wrap (n : Int) = (n : Int) := by
  simp [IntKind.wrap, IntKind.bits, IntKind.signed]; omega
theorem shl_nat (x k : Nat) (hk : k ≤ 62) (h : x * 2 ^ k < 9223372036854775808) : shl .i64 (x : Int) (k : Int) = ((x * 2 ^ k : Nat) : Int) := by
  unfold shl
  have e : min ((k : Int).toNat) (IntKind.bits .i64) = k := by simp [IntKind.bits]; omega
  rw [e]
  have e2 : (x : Int) * 2 ^ k = ((x * 2 ^ k : Nat) : Int) := by simp
  rw [e2, i64_wrap_nat _ h]
theorem shl_1 (k : Nat) (hk : k ≤ 62) : shl .i64 1 (k : Int) = ((2 ^ k : Nat) : Int) := by
  have h := shl_nat 1 k hk (by have := pow2_le k 62 hk; rw [Nat.one_mul]; have e : 2 ^ 62 = 4611686018427387904 := by decide
                               omega)
  rw [Nat.one_mul] at h; exact h
theorem shr_nat (x k : Nat) (hk : k ≤ 64) : shr .i64 (x : Int) (k : Int) = ((x / 2 ^ k : Nat) : Int) := by
  unfold shr
  have e : min ((k : Int).toNat) (IntKind.bits .i64) = k := by simp [IntKind.bits]; omega
  rw [e]; simp
theorem tdiv_nat (a b : Nat) : Int.tdiv (a : Int) (b : Int) = ((a / b : Nat) : Int) := by
  rw [Int.tdiv_eq_ediv_of_nonneg (by omega)]; simp
theorem tmod_nat (a b : Nat) : Int.tmod (a : Int) (b : Int) = ((a % b : Nat) : Int) := by
  rw [Int.tmod_eq_emod_of_nonneg (by omega)]; simp

/-- What a loop comes to, from some number of rounds on: by what is left to do. -/
theorem evq {α : Type} {g : Nat → Option α} {r s : α} (e : r = s) (h : Ev g r) : Ev g s := e ▸ h
/-- A call whose answer needs no rounds. -/
theorem Ev.bind0 {α β : Type} {x : Option α} {f : Nat → α → Option β} {a : α} {r : β} (h : x = some a) (k : Ev (fun n => f n a) r) : Ev (fun n => x.bind (f n)) r := by
  subst h; exact k
theorem Ev.ite_pos {α : Type} {c : Prop} [Decidable c] {f g : Nat → Option α} {r : α} (h : c) (k : Ev f r) : Ev (fun n => if c then f n else g n) r := by
  simpa only [if_pos h] using k
theorem Ev.ite_neg {α : Type} {c : Prop} [Decidable c] {f g : Nat → Option α} {r : α} (h : ¬ c) (k : Ev g r) : Ev (fun n => if c then f n else g n) r := by
  simpa only [if_neg h] using k
theorem Ev.ofSome {α : Type} {r s : α} (h : r = s) : Ev (fun _ => some r) s := by subst h; exact Ev.now r
theorem mx_max (x y : Int) : mx x y = max x y := by unfold mx; split <;> omega
theorem mn_min (x y : Int) : mn x y = min x y := by unfold mn; split <;> omega
end Go.Proofs.Ytejecpmfhgplmaa.PA

-- ---- Uj
/- Some of layer 8's plain functions: what they come to. No program in sight. -/
namespace Go.Proofs.Ytejecpmfhgplmaa.PA
set_option linter.unusedVariables false
set_option linter.unusedSimpArgs false
open Go.RowKit Go.Proofs.YtejecpmfhgplmaaW.PrintWords Go.Proofs.YtejecpmfhgplmaaW.PrintLast Go.Proofs.YtejecpmfhgplmaaW.PrintMore

set_option maxRecDepth 100000 in
theorem awake8 : wringerlaw8_awake.f = some true := by kernel_rfl

theorem mcost_f (a b : List Int) (h : a.length < 1000000) : merge_Cost.f a b = some (costW a b) := by unfold merge_Cost.f; rw [if_pos (by omega)]
theorem mlen_f (l : List Int) (a : Int) (h : l.length < 1000000) : merge_Lengths.f l a = some (lenE l a) := by unfold merge_Lengths.f; rw [if_pos (by omega)]
theorem lenE_ok {l : List Int} {m : Nat} (h : Dp.Fq l m) : lenE l (m : Int) = (Dp.lenL l m, 0) := by
  unfold lenE; rw [if_pos ((fqB_iff l m).2 ⟨m, rfl, h⟩), Int.toNat_natCast]
theorem lenE_bad {l : List Int} {a : Int} (h : ¬ fqB l a = true) : lenE l a = ([], 1) := by unfold lenE; rw [if_neg h]
theorem limit_of (a : Int) (h : (Lit.int .u8 a).wf = true) : ∃ m : Nat, wrap64 (7 + Int.tmod (wrap64 a) 9) = (m : Int) ∧ 7 ≤ m ∧ m ≤ 15 := by
  simp only [Lit.wf, Bool.and_eq_true, decide_eq_true_eq] at h
  have h1 : IntKind.u8.min = 0 := rfl
  have h2 : IntKind.u8.max = 255 := rfl
  obtain ⟨v, hv⟩ : ∃ v : Nat, a = (v : Int) := ⟨a.toNat, by omega⟩
  subst hv
  rw [w64 (x := (v : Int)) (by omega) (by omega), show Int.tmod (v : Int) 9 = ((v % 9 : Nat) : Int) from tmod_nat v 9]
  exact ⟨7 + v % 9, by rw [w64 (by omega) (by omega)]; rfl, by omega, by omega⟩
end Go.Proofs.Ytejecpmfhgplmaa.PA

-- ---- Nl
/- Numbers of a sum, out of how often each comes: plain facts. No program in sight. -/
namespace Go.Proofs.Ytejecpmfhgplmaa.Nl
set_option linter.unusedSimpArgs false
set_option linter.unusedVariables false
set_option linter.unusedSectionVars false
open Hp Ol

def bump (l : List Int) (k : Nat) (d : Int) : List Int := l.set k (l.getD k 0 + d)
theorem length_bump (l : List Int) (k : Nat) (d : Int) : (bump l k d).length = l.length := by simp [bump]
theorem getD_bump (l : List Int) (k : Nat) (d : Int) (i : Nat) (hk : k < l.length) : (bump l k d).getD i 0 = if i = k then l.getD k 0 + d else l.getD i 0 := by
  unfold bump
  by_cases h : i = k
  · subst h; rw [if_pos rfl]; simp [List.getD_eq_getElem?_getD, hk]
  · rw [if_neg h]; simp only [List.getD_eq_getElem?_getD]; rw [List.getElem?_set_ne (Ne.symm h)]
theorem sum_set (l : List Int) : ∀ (k : Nat) (v : Int), k < l.length → (l.set k v).sum = l.sum - l.getD k 0 + v := by
  induction l with
  | nil => intro k v h; simp at h
  | cons a t ih =>
    intro k v h
    cases k with
    | zero => simp; omega
    | succ k =>
      have := ih k v (by simpa using h)
      simp only [List.set_cons_succ, List.sum_cons, this]
      have e : (a :: t).getD (k + 1) 0 = t.getD k 0 := by simp
      rw [e]; omega
theorem sum_bump (l : List Int) (k : Nat) (d : Int) (h : k < l.length) : (bump l k d).sum = l.sum + d := by
  unfold bump; rw [sum_set l k _ h]; omega

def share (size all n : Int) : Int := if 0 < n then max 1 (n * size / all) else 0
def shares (f : List Int) (size all : Int) : List Int := f.map (share size all)
def decTop : Nat → List Int → List Int
  | 0, l => l
  | m + 1, l => decTop m (bump l ((ordL l).headD 0) (-1))
def normL (f : List Int) (size : Int) : List Int :=
  if (shares f size f.sum).sum ≤ size then bump (shares f size f.sum) ((ordL f).headD 0) (size - (shares f size f.sum).sum) else decTop ((shares f size f.sum).sum - size).toNat (shares f size f.sum)

theorem getD_shares (f : List Int) (size all : Int) (i : Nat) (h : i < f.length) : (shares f size all).getD i 0 = share size all (f.getD i 0) := by
  simp [shares, List.getD_eq_getElem?_getD, h]
theorem length_shares (f : List Int) (size all : Int) : (shares f size all).length = f.length := by simp [shares]
theorem share_nonneg (size all n : Int) : 0 ≤ share size all n := by unfold share; split <;> omega
theorem share_pos (size all n : Int) : 0 < share size all n ↔ 0 < n := by
  unfold share
  split
  · rename_i h; exact ⟨fun _ => h, fun _ => by omega⟩
  · rename_i h; exact ⟨fun h2 => by omega, fun h2 => absurd h2 h⟩
theorem share_le (size all n : Int) (hs : 1 ≤ size) (ha : 0 < all) (hn : n ≤ all) : share size all n ≤ size := by
  unfold share
  split
  · rename_i h
    have h1 : n * size ≤ all * size := Int.mul_le_mul_of_nonneg_right hn (by omega)
    have h2 : n * size / all ≤ size := by
      have := Int.ediv_le_ediv ha h1
      rwa [Int.mul_ediv_cancel_left _ (by omega)] at this
    omega
  · omega
theorem share_mono (size all a b : Int) (hs : 1 ≤ size) (ha : 0 < all) (h : a ≤ b) : share size all a ≤ share size all b := by
  unfold share
  split
  · rw [if_pos (by omega)]
    have h1 : a * size ≤ b * size := Int.mul_le_mul_of_nonneg_right h (by omega)
    have := Int.ediv_le_ediv ha h1
    omega
  · split <;> omega

theorem sum_nonneg (l : List Int) (h : ∀ x ∈ l, 0 ≤ x) : 0 ≤ l.sum := by
  induction l with
  | nil => simp
  | cons a t ih => have := ih fun x hx => h x (List.mem_cons_of_mem _ hx); have := h a (by simp); simp; omega
theorem le_sum (l : List Int) (h : ∀ x ∈ l, 0 ≤ x) : ∀ x ∈ l, x ≤ l.sum := by
  induction l with
  | nil => simp
  | cons a t ih =>
    intro x hx
    have h0 := sum_nonneg t fun x hx => h x (List.mem_cons_of_mem _ hx)
    have h1 := h a (by simp)
    simp only [List.sum_cons]
    rcases List.mem_cons.1 hx with rfl | hx
    · omega
    · have := ih (fun x hx => h x (List.mem_cons_of_mem _ hx)) x hx; omega
theorem sum_le_max (l : List Int) (m : Int) (h : ∀ x ∈ l, x ≤ m) : l.sum ≤ m * l.length := by
  induction l with
  | nil => simp
  | cons a t ih =>
    have h1 := ih fun x hx => h x (List.mem_cons_of_mem _ hx)
    have h2 := h a (by simp)
    simp only [List.sum_cons, List.length_cons]
    have e : m * ((t.length + 1 : Nat) : Int) = m * (t.length : Int) + m := by rw [Int.natCast_add, Int.mul_add]; simp
    rw [e]; omega
theorem mem_getD {l : List Int} {x : Int} (h : x ∈ l) : ∃ i, i < l.length ∧ l.getD i 0 = x := by
  obtain ⟨i, hi, rfl⟩ := List.mem_iff_getElem.1 h
  exact ⟨i, hi, by simp [List.getD_eq_getElem?_getD, hi]⟩
theorem getD_mem {l : List Int} {i : Nat} (h : i < l.length) : l.getD i 0 ∈ l := by
  rw [List.getD_eq_getElem?_getD, List.getElem?_eq_getElem h]; exact List.getElem_mem _

/-- Where one number at least is greater than 1: the greatest is, and one is taken from it. -/
structure Top (l : List Int) (k : Nat) : Prop where
  lt : k < l.length
  two : 2 ≤ l.getD k 0
  max : ∀ i, i < l.length → l.getD i 0 ≤ l.getD k 0
  least : ∀ i, i < l.length → l.getD i 0 = l.getD k 0 → k ≤ i
theorem top_of {l : List Int} (h : (l.length : Int) < l.sum) : Top l ((ordL l).headD 0) ∧ ∃ t, ordL l = (ordL l).headD 0 :: t := by
  have h2 : ∃ x ∈ l, 2 ≤ x := by
    apply Classical.byContradiction
    intro hno
    have := sum_le_max l 1 fun x hx => by
      have : ¬ 2 ≤ x := fun h2 => hno ⟨x, hx, h2⟩
      omega
    omega
  obtain ⟨x, hx, hx2⟩ := h2
  obtain ⟨i, hi, rfl⟩ := mem_getD hx
  obtain ⟨k, t, hk⟩ := ordL_cons (f := l) ⟨i, hi, by omega⟩
  obtain ⟨a, b, c⟩ := ordL_head hk
  rw [hk]
  exact ⟨⟨a, by have := (c i hi).1; simp only [List.headD_cons]; omega, fun j hj => (c j hj).1, fun j hj => (c j hj).2⟩, t, rfl⟩

/-- What every step keeps. -/
structure Ok (f l : List Int) : Prop where
  len : l.length = f.length
  pos : ∀ i, i < f.length → (0 < l.getD i 0 ↔ 0 < f.getD i 0)
  nn : ∀ i, i < f.length → 0 ≤ l.getD i 0
  mono : ∀ i j, i < f.length → j < f.length → f.getD j 0 < f.getD i 0 → l.getD j 0 ≤ l.getD i 0 + 1
theorem Ok.step {f l : List Int} (h : Ok f l) {k : Nat} (ht : Top l k) : Ok f (bump l k (-1)) := by
  have hk := ht.lt
  have h2 := ht.two
  have G := fun i => getD_bump l k (-1) i hk
  refine ⟨by rw [length_bump]; exact h.len, fun i hi => ?_, fun i hi => ?_, fun i j hi hj hf => ?_⟩
  · rw [G i]
    have := h.pos i hi
    split
    · subst i; constructor
      · intro _; exact this.1 (by omega)
      · intro _; omega
    · exact this
  · rw [G i]; have := h.nn i hi; split <;> omega
  · rw [G i, G j]
    have := h.mono i j hi hj hf
    have hm := ht.max j (by rw [h.len]; exact hj)
    split <;> split <;> (try subst i) <;> (try subst j) <;> omega
theorem decTop_ok {f : List Int} : ∀ (m : Nat) (l : List Int), Ok f l → (f.length : Int) + (m : Int) ≤ l.sum → Ok f (decTop m l) ∧ (decTop m l).sum = l.sum - m := by
  intro m
  induction m with
  | zero => intro l h _; exact ⟨h, by simp [decTop]⟩
  | succ m ih =>
    intro l h hs
    obtain ⟨ht, _⟩ := top_of (l := l) (by rw [h.len]; omega)
    have h1 := h.step ht
    have h2 := sum_bump l ((ordL l).headD 0) (-1) ht.lt
    obtain ⟨a, b⟩ := ih _ h1 (by omega)
    unfold decTop
    exact ⟨a, by omega⟩

theorem bump_zero (l : List Int) (k : Nat) : bump l k 0 = l := by
  by_cases h : k < l.length
  · unfold bump
    rw [Int.add_zero]
    have e : l.getD k 0 = l[k] := by simp [List.getD_eq_getElem?_getD, h]
    rw [e]; exact List.set_getElem_self h
  · unfold bump; exact List.set_eq_of_length_le (by omega)
theorem decTop_succ : ∀ (m : Nat) (l : List Int), decTop (m + 1) l = bump (decTop m l) ((ordL (decTop m l)).headD 0) (-1) := by
  intro m
  induction m with
  | zero => intro l; rfl
  | succ m ih => intro l; show decTop (m + 1) _ = _; rw [ih]; rfl

/-- Frequencies that may be asked. -/
structure Fr (f : List Int) : Prop where
  len : f.length = 65
  nn : ∀ x ∈ f, 0 ≤ x
  le : ∀ x ∈ f, x ≤ 16777216
  pos : 0 < f.sum
theorem Fr.le_all {f : List Int} (h : Fr f) : ∀ x ∈ f, x ≤ f.sum := le_sum f h.nn
theorem Fr.some {f : List Int} (h : Fr f) : ∃ i, i < f.length ∧ 0 < f.getD i 0 := by
  apply Classical.byContradiction
  intro hno
  have := sum_le_max f 0 fun x hx => by
    obtain ⟨i, hi, rfl⟩ := mem_getD hx
    have : ¬ 0 < f.getD i 0 := fun h2 => hno ⟨i, hi, h2⟩
    omega
  have := h.pos
  omega
theorem Fr.sum_le {f : List Int} (h : Fr f) : f.sum ≤ 1090519040 := by
  have := sum_le_max f 16777216 h.le
  rw [h.len] at this
  omega
theorem Fr.shares_ok {f : List Int} (h : Fr f) {size : Int} (hs : 1 ≤ size) : Ok f (shares f size f.sum) := by
  refine ⟨length_shares .., fun i hi => ?_, fun i hi => ?_, fun i j hi hj hf => ?_⟩
  · rw [getD_shares f _ _ i hi]; exact share_pos ..
  · rw [getD_shares f _ _ i hi]; exact share_nonneg ..
  · rw [getD_shares f _ _ i hi, getD_shares f _ _ j hj]
    have := share_mono size f.sum _ _ hs h.pos (Int.le_of_lt hf)
    omega
theorem Fr.share_le {f : List Int} (h : Fr f) {size : Int} (hs : 1 ≤ size) {x : Int} (hx : x ∈ f) : 0 ≤ share size f.sum x ∧ share size f.sum x ≤ size :=
  ⟨share_nonneg .., Nl.share_le _ _ _ hs h.pos (h.le_all x hx)⟩
theorem Fr.shares_sum {f : List Int} (h : Fr f) {size : Int} (hs : 1 ≤ size) : 0 ≤ (shares f size f.sum).sum ∧ (shares f size f.sum).sum ≤ size * 65 := by
  constructor
  · apply sum_nonneg
    intro x hx
    obtain ⟨n, hn, rfl⟩ := List.mem_map.1 hx
    exact (h.share_le hs hn).1
  · have := sum_le_max (shares f size f.sum) size fun x hx => by
      obtain ⟨n, hn, rfl⟩ := List.mem_map.1 hx
      exact (h.share_le hs hn).2
    rw [length_shares, h.len] at this
    exact this
theorem Fr.head {f : List Int} (h : Fr f) : ∃ t, ordL f = (ordL f).headD 0 :: t ∧ (ordL f).headD 0 < 65 := by
  obtain ⟨k, t, hk⟩ := ordL_cons h.some
  have := (ordL_head hk).1
  rw [h.len] at this
  rw [hk]; exact ⟨t, rfl, this⟩

theorem Fr.norm {f : List Int} (h : Fr f) {size : Int} (hs : 66 ≤ size) : Ok f (normL f size) ∧ (normL f size).sum = size := by
  have ho := h.shares_ok (size := size) (by omega)
  unfold normL
  by_cases hle : (shares f size f.sum).sum ≤ size
  · rw [if_pos hle]
    obtain ⟨t, hk, hlt⟩ := h.head
    generalize hK : (ordL f).headD 0 = k at hk hlt
    obtain ⟨k1, k2, k3⟩ := ordL_head hk
    have hkl : k < (shares f size f.sum).length := by rw [length_shares]; exact k1
    refine ⟨⟨by rw [length_bump]; exact ho.len, fun i hi => ?_, fun i hi => ?_, fun i j hi hj hf => ?_⟩, by rw [sum_bump _ _ _ hkl]; omega⟩
    · rw [getD_bump _ _ _ _ hkl]
      have := ho.pos i hi
      split
      · subst i
        constructor
        · intro _; exact k2
        · intro _; have := this.2 k2; omega
      · exact this
    · rw [getD_bump _ _ _ _ hkl]; have := ho.nn i hi; split
      · subst i; omega
      · exact this
    · rw [getD_bump _ _ _ _ hkl, getD_bump _ _ _ _ hkl]
      have h1 := ho.mono i j hi hj hf
      have h2 := (k3 i hi).1
      split
      · subst j; omega
      · split
        · subst i; omega
        · exact h1
  · rw [if_neg hle]
    obtain ⟨a, b⟩ := decTop_ok (f := f) ((shares f size f.sum).sum - size).toNat _ ho (by rw [h.len]; omega)
    exact ⟨a, by omega⟩
theorem Fr.norm_len {f : List Int} (h : Fr f) {size : Int} (hs : 66 ≤ size) : (normL f size).length = 65 := by rw [(h.norm hs).1.len, h.len]
theorem Fr.norm_at {f : List Int} (h : Fr f) {size : Int} (hs : 66 ≤ size) : ∀ x ∈ normL f size, 0 ≤ x ∧ x ≤ size := by
  obtain ⟨ho, hsum⟩ := h.norm hs
  have hn : ∀ x ∈ normL f size, 0 ≤ x := fun x hx => by
    obtain ⟨i, hi, rfl⟩ := mem_getD hx
    exact ho.nn i (by rw [← ho.len]; exact hi)
  exact fun x hx => ⟨hn x hx, by have := le_sum _ hn x hx; omega⟩
/-- Which may be asked. -/
def frB (f : List Int) : Bool := decide (f.length = 65 ∧ (∀ x ∈ f, 0 ≤ x ∧ x ≤ 16777216) ∧ 0 < f.sum)
theorem frB_iff (f : List Int) : frB f = true ↔ Fr f := by
  unfold frB; rw [decide_eq_true_eq]
  exact ⟨fun ⟨a, b, c⟩ => ⟨a, fun x hx => (b x hx).1, fun x hx => (b x hx).2, c⟩, fun h => ⟨h.len, fun x hx => ⟨h.nn x hx, h.le x hx⟩, h.pos⟩⟩
/-- The shares of the first i, nought for the others. -/
def shN (f : List Int) (size all : Int) (i : Nat) : List Int := ((f.take i).map (share size all)) ++ List.replicate (f.length - i) 0
theorem shN_zero (f : List Int) (size all : Int) : shN f size all 0 = List.replicate f.length 0 := by simp [shN]
theorem shN_all (f : List Int) (size all : Int) : shN f size all f.length = shares f size all := by simp [shN, shares]
theorem length_shN (f : List Int) (size all : Int) (i : Nat) (h : i ≤ f.length) : (shN f size all i).length = f.length := by simp [shN]; omega
theorem shN_succ (f : List Int) (size all : Int) (i : Nat) (h : i < f.length) : shN f size all (i + 1) = (shN f size all i).set i (share size all (f.getD i 0)) := by
  unfold shN
  have e : f.length - i = (f.length - (i + 1)) + 1 := by omega
  have e2 : f.getD i 0 = f[i] := by simp [List.getD_eq_getElem?_getD, h]
  have hl : ((f.take i).map (share size all)).length = i := by simp; omega
  rw [List.take_succ_eq_append_getElem h, List.map_append, e, List.replicate_succ, e2]
  rw [List.set_append_right _ _ (by omega), hl, Nat.sub_self, List.set_cons_zero, List.append_assoc]; rfl
theorem shN_at (f : List Int) (size all : Int) (i : Nat) (h : i < f.length) : (shN f size all i).getD i 0 = 0 := by
  unfold shN
  have hl : ((f.take i).map (share size all)).length = i := by simp; omega
  rw [List.getD_eq_getElem?_getD, List.getElem?_append_right (by omega), hl, Nat.sub_self, List.getElem?_replicate, if_pos (by omega)]; rfl
theorem shN_same (f : List Int) (size all : Int) (i : Nat) (h : i < f.length) (h0 : ¬ 0 < f.getD i 0) : shN f size all (i + 1) = shN f size all i := by
  rw [shN_succ f size all i h]
  have hs : share size all (f.getD i 0) = 0 := by unfold share; rw [if_neg h0]
  rw [hs]
  have := bump_zero (shN f size all i) i
  unfold bump at this
  rwa [shN_at f size all i h, Int.add_zero] at this
theorem sum_shN (f : List Int) (size all : Int) (i : Nat) (h : i < f.length) : (shN f size all (i + 1)).sum = (shN f size all i).sum + share size all (f.getD i 0) := by
  rw [shN_succ f size all i h, sum_set _ _ _ (by rw [length_shN _ _ _ _ (by omega)]; exact h), shN_at f size all i h]; omega
theorem take_sum (f : List Int) (i : Nat) (h : i < f.length) : (f.take (i + 1)).sum = (f.take i).sum + f.getD i 0 := by
  rw [List.take_succ_eq_append_getElem h, List.sum_append]
  simp [List.getD_eq_getElem?_getD, h]
theorem Fr.take_sum {f : List Int} (h : Fr f) (i : Nat) : 0 ≤ (f.take i).sum ∧ (f.take i).sum ≤ 1090519040 := by
  have h1 := sum_nonneg (f.take i) fun x hx => h.nn x (List.mem_of_mem_take hx)
  have h2 := sum_nonneg (f.drop i) fun x hx => h.nn x (List.mem_of_mem_drop hx)
  have h3 : f.sum = (f.take i).sum + (f.drop i).sum := by rw [← List.sum_append, List.take_append_drop]
  have := h.sum_le
  omega
theorem Fr.shN_sum {f : List Int} (h : Fr f) {size : Int} (hs : 1 ≤ size) : ∀ i, i ≤ f.length → 0 ≤ (shN f size f.sum i).sum ∧ (shN f size f.sum i).sum ≤ size * (i : Int) := by
  intro i
  induction i with
  | zero => intro _; rw [shN_zero]; simp
  | succ i ih =>
    intro hi
    have := ih (by omega)
    rw [sum_shN f size f.sum i (by omega)]
    have h2 := h.share_le hs (getD_mem (show i < f.length by omega))
    have e : size * ((i + 1 : Nat) : Int) = size * (i : Int) + size := by rw [Int.natCast_add, Int.mul_add]; simp
    rw [e]; omega
end Go.Proofs.Ytejecpmfhgplmaa.Nl

-- ---- Uq
/- Frequencies by numbers: what they are good for. -/
namespace Go.Proofs.Ytejecpmfhgplmaa.PA
set_option linter.unusedVariables false
set_option linter.unusedSimpArgs false
open Go.RowKit Go.Proofs.YtejecpmfhgplmaaW.PrintWords Go.Proofs.YtejecpmfhgplmaaW.PrintLast Go.Proofs.YtejecpmfhgplmaaW.PrintMore Nl

/-- 65 numbers, none below nought, none above 65535. -/
structure FreqOk (f : List Int) : Prop where
  len : f.length = 65
  each : ∀ x ∈ f, 0 ≤ x ∧ x ≤ 65535
theorem mem_set_or {l : List Int} {i : Nat} {v x : Int} (h : x ∈ l.set i v) : x ∈ l ∨ x = v := List.mem_or_eq_of_mem_set h
theorem freqOk_set {f : List Int} (h : FreqOk f) (i : Nat) (v : Int) (h0 : 0 ≤ v) (h1 : v ≤ 65535) : FreqOk (f.set i v) :=
  ⟨by rw [List.length_set]; exact h.len, fun x hx => by
    rcases mem_set_or hx with hx | rfl
    · exact h.each x hx
    · exact ⟨h0, h1⟩⟩
theorem u16_at {ns : List Int} (h : ∀ x ∈ ns, (Lit.int .u16 x).wf = true) (i : Nat) (hi : i < ns.length) : ∃ v : Nat, ns.getD i 0 = (v : Int) ∧ v ≤ 65535 := by
  have hw := h _ (getD_mem hi)
  simp only [Lit.wf, Bool.and_eq_true, decide_eq_true_eq] at hw
  have h1 : IntKind.u16.min = 0 := rfl
  have h2 : IntKind.u16.max = 65535 := rfl
  exact ⟨(ns.getD i 0).toNat, by omega, by omega⟩
theorem u16_wrap (n : Nat) (h : n ≤ 65535) : IntKind.u16.wrap (n : Int) = (n : Int) := by
  simp [IntKind.wrap, IntKind.bits, IntKind.signed]; omega
theorem freq_l0 (ns : List Int) (hw : ∀ x ∈ ns, (Lit.int .u16 x).wf = true) (hl : ns.length < 1000000) : ∀ (d i : Nat) (f : List Int), i + d = ns.length + 1 → FreqOk f →
    ∃ g, Ev (fun k => wringerlaw8_Freq.l0 k ns f (i : Int)) g ∧ FreqOk g := by
  intro d
  induction d using Nat.strongRecOn with
  | _ d ih =>
    intro i f hi hf
    by_cases hlt : i + 1 < ns.length
    · obtain ⟨v, hv, hvb⟩ := u16_at hw i (by omega)
      obtain ⟨u, hu, hub⟩ := u16_at hw (i + 1) hlt
      have hfl := hf.len
      have e5 : u / 2 ^ (v / 65 % 16) ≤ u := Nat.div_le_self _ _
      obtain ⟨p, hp⟩ : ∃ p, p = u / 2 ^ (v / 65 % 16) := ⟨_, rfl⟩
      rw [← hp] at e5
      obtain ⟨g, hg, hgf⟩ := ih (d - 2) (by omega) (i + 2) (f.set (v % 65) (p : Int)) (by omega) (freqOk_set hf _ _ (by omega) (by omega))
      refine ⟨g, Ev.step (f := fun k => wringerlaw8_Freq.l0 k ns (f.set (v % 65) (p : Int)) ((i + 2 : Nat) : Int)) (fun k => ?_) hg, hgf⟩
      have c1 : ((i + 1 : Nat) : Int) < (ns.length : Int) := by omega
      have c2 : (0 : Int) ≤ (i : Int) := by omega
      have c3 : (i : Int) < (ns.length : Int) := by omega
      have c4 : (0 : Int) ≤ ((i + 1 : Nat) : Int) := by omega
      have c5 : (0 : Int) ≤ ((v / 65 % 16 : Nat) : Int) := Int.natCast_nonneg _
      have c6 : (0 : Int) ≤ ((v % 65 : Nat) : Int) := Int.natCast_nonneg _
      have c7 : ((v % 65 : Nat) : Int) < (f.length : Int) := by omega
      have w1 : wrap64 ((i : Int) + 1) = ((i + 1 : Nat) : Int) := by rw [w64 (by omega) (by omega)]; rfl
      have w2 : wrap64 ((i : Int) + 2) = ((i + 2 : Nat) : Int) := by clear w1; rw [w64 (by omega) (by omega)]; rfl
      have w3 : wrap64 (v : Int) = (v : Int) := by clear w1 w2; exact w64 (by omega) (by omega)
      have w4 : wrap64 (u : Int) = (u : Int) := by clear w1 w2 w3; exact w64 (by omega) (by omega)
      have w5 : IntKind.u16.wrap ((v / 65 : Nat) : Int) = ((v / 65 : Nat) : Int) := by clear w1 w2 w3 w4; exact u16_wrap _ (by omega)
      have e4 := shr_nat u (v / 65 % 16) (by clear w1 w2 w3 w4 w5; omega)
      rw [← hp] at e4
      have e1 : Int.tdiv (v : Int) 65 = ((v / 65 : Nat) : Int) := tdiv_nat v 65
      have e2 : Int.tmod (v : Int) 65 = ((v % 65 : Nat) : Int) := tmod_nat v 65
      have e3 : Int.tmod ((v / 65 : Nat) : Int) 16 = ((v / 65 % 16 : Nat) : Int) := tmod_nat _ 16
      simp only [wringerlaw8_Freq.l0]
      rw [w1, w2, rd_nat, rd_nat, hv, hu, w3, w4, e1, w5, e3, e2, e4]
      rw [if_pos c1, if_pos c2, if_pos c3, if_pos c4, if_pos c5, if_pos c6, if_pos c7, Int.toNat_natCast]
    · refine ⟨f, Ev.step (f := fun _ => some f) (fun k => ?_) (Ev.now _), hf⟩
      simp only [wringerlaw8_Freq.l0]
      rw [w64 (x := (i : Int) + 1) (by omega) (by omega), if_neg (by omega)]
theorem freq_is (ns : List Int) (hw : ∀ x ∈ ns, (Lit.int .u16 x).wf = true) (hl : ns.length < 1000000) : ∃ f, Ev (fun k => wringerlaw8_Freq.f k ns) f ∧ FreqOk f := by
  obtain ⟨g, hg, hgf⟩ := freq_l0 ns hw hl (ns.length + 1) 0 (List.replicate 65 0) (by omega) ⟨by simp, fun x hx => by rw [(List.mem_replicate.1 hx).2]; omega⟩
  refine ⟨g, ?_, hgf⟩
  unfold wringerlaw8_Freq.f
  exact Ev.ite_pos (by decide) hg

/-- One more of one class: then they may be asked. -/
theorem fr_more {f : List Int} (h : FreqOk f) (i : Nat) (hi : i < 65) : Fr (f.set i (f.getD i 0 + 1)) := by
  have hg := h.each _ (getD_mem (show i < f.length by rw [h.len]; exact hi))
  have hx : ∀ x ∈ f.set i (f.getD i 0 + 1), 0 ≤ x ∧ x ≤ 65536 := fun x hx => by
    rcases mem_set_or hx with hx | rfl
    · have := h.each x hx; omega
    · omega
  refine ⟨by rw [List.length_set]; exact h.len, fun x hm => (hx x hm).1, fun x hm => by have := (hx x hm).2; omega, ?_⟩
  have h1 := sum_bump f i 1 (by rw [h.len]; exact hi)
  unfold bump at h1
  rw [h1]
  have := sum_nonneg f fun x hx => (h.each x hx).1
  omega
end Go.Proofs.Ytejecpmfhgplmaa.PA

-- ---- Un
/- Which lengths may be: what the document's function comes to. -/
namespace Go.Proofs.Ytejecpmfhgplmaa.PA
set_option linter.unusedVariables false
set_option linter.unusedSimpArgs false
open Go.RowKit Go.Proofs.YtejecpmfhgplmaaW.PrintWords Go.Proofs.YtejecpmfhgplmaaW.PrintLast Go.Proofs.YtejecpmfhgplmaaW.PrintMore Dp

theorem dropG (l : List Int) (i : Nat) (h : i < l.length) : l.drop i = l.getD i 0 :: l.drop (i + 1) := by
  rw [List.drop_eq_getElem_cons h]; simp [List.getD_eq_getElem?_getD, h]
def finL (s m : Nat) : Prop := m = 0 ∨ s = 32768 ∨ (m = 1 ∧ s = 16384)
instance (s m : Nat) : Decidable (finL s m) := by unfold finL; infer_instance
def restL (l : List Int) (s m : Nat) : Bool := decide ((∀ n ∈ l, 0 ≤ n ∧ n ≤ 15) ∧ finL (s + ks l) (m + sm l))
theorem restL_nil (s m : Nat) : restL [] s m = decide (finL s m) := by unfold restL; simp [ks, sm]
theorem restL_bad (x : Int) (l : List Int) (s m : Nat) (h : x < 0 ∨ 15 < x) : restL (x :: l) s m = false := by
  unfold restL; rw [decide_eq_false_iff_not]; intro h2; have := h2.1 x (by simp); omega
theorem restL_zero (l : List Int) (s m : Nat) : restL (0 :: l) s m = restL l s m := by
  unfold restL ks sm
  congr 1
  simp
theorem restL_pos (x : Nat) (l : List Int) (s m : Nat) (h1 : 1 ≤ x) (h2 : x ≤ 15) : restL ((x : Int) :: l) s m = restL l (s + 2 ^ (15 - x)) (m + 1) := by
  unfold restL ks sm
  congr 1
  rw [List.map_cons, List.map_cons, List.sum_cons, List.sum_cons, if_pos (by omega), if_pos (by omega), Int.toNat_natCast, ← Nat.add_assoc, ← Nat.add_assoc]
  simp only [List.mem_cons, forall_eq_or_imp, eq_iff_iff]
  constructor
  · rintro ⟨⟨_, a⟩, b⟩; exact ⟨a, b⟩
  · rintro ⟨a, b⟩; exact ⟨⟨⟨by omega, by omega⟩, a⟩, b⟩
theorem mayL_eq (l : List Int) (h : l.length = 65) : mayL l = restL l 0 0 := by
  unfold mayL restL finL
  congr 1
  rw [Nat.zero_add, Nat.zero_add]
  simp [h]
theorem mayL_len (l : List Int) (h : l.length ≠ 65) : mayL l = false := by
  unfold mayL; rw [decide_eq_false_iff_not]; exact fun h2 => h h2.1
theorem pow15 (x : Nat) : 2 ^ (15 - x) ≤ 32768 := by
  have : 2 ^ (15 - x) ≤ 2 ^ 15 := Nat.pow_le_pow_right (by decide) (by omega)
  omega
theorem finI (s m : Nat) : (if (m : Int) = 0 then some true else (if (s : Int) = 32768 then some true else (if (m : Int) = 1 then some ((s : Int) == 16384) else some false))) = some (decide (finL s m)) := by
  by_cases h0 : m = 0
  · rw [if_pos (by omega), decide_eq_true (.inl h0)]
  · rw [if_neg (by omega)]
    by_cases h1 : s = 32768
    · rw [if_pos (by omega), decide_eq_true (.inr (.inl h1))]
    · rw [if_neg (by omega)]
      by_cases h2 : m = 1
      · rw [if_pos (by omega)]
        congr 1
        rw [Bool.eq_iff_iff, beq_iff_eq, decide_eq_true_eq]
        unfold finL
        omega
      · rw [if_neg (by omega), decide_eq_false (by unfold finL; omega)]

theorem rmay_l0 (l : List Int) (hl : l.length ≤ 65) : ∀ (d i s m : Nat), i + d = l.length → s ≤ 32768 * i → m ≤ i →
    Ev (fun k => wringerref7_MayLens.l0 k l (s : Int) (m : Int) (i : Int)) (restL (l.drop i) s m) := by
  intro d
  induction d with
  | zero =>
    intro i s m hi hs hm
    refine Ev.step (f := fun _ => some (decide (finL s m))) (fun k => by simp only [wringerref7_MayLens.l0]; rw [if_neg (by omega), finI]) (Ev.ofSome ?_)
    rw [List.drop_eq_nil_of_le (by omega), restL_nil]
  | succ d ih =>
    intro i s m hi hs hm
    have hil : i < l.length := by omega
    rw [dropG l i hil]
    generalize hy : l.getD i 0 = y
    by_cases hb : y < 0 ∨ 15 < y
    · refine Ev.step (f := fun k => wringerref7_MayLens.j1 k l (s : Int) (m : Int) (i : Int) true) (fun k => ?_) (Ev.step (f := fun _ => some false) (fun k => by simp only [wringerref7_MayLens.j1]; rfl) (Ev.ofSome ?_))
      · simp only [wringerref7_MayLens.l0]
        rw [if_pos (by omega), if_pos (by omega), rd_nat, hy]
        by_cases h0 : y < 0
        · rw [if_pos h0]
        · rw [if_neg h0, decide_eq_true (by omega)]
      · rw [restL_bad _ _ _ _ hb]
    · refine Ev.step (f := fun k => wringerref7_MayLens.j1 k l (s : Int) (m : Int) (i : Int) false) (fun k => ?_) ?_
      · simp only [wringerref7_MayLens.l0]
        rw [if_pos (by omega), if_pos (by omega), rd_nat, hy, if_neg (by omega), decide_eq_false (by omega)]
      · obtain ⟨x, rfl⟩ := Int.eq_ofNat_of_zero_le (show 0 ≤ y by omega)
        by_cases hx : x = 0
        · subst hx
          refine evq (restL_zero _ _ _).symm (Ev.step (f := fun k => wringerref7_MayLens.l0 k l (s : Int) (m : Int) ((i + 1 : Nat) : Int)) (fun k => ?_) (ih (i + 1) s m (by omega) (by omega) (by omega)))
          simp only [wringerref7_MayLens.j1]
          rw [if_neg (by simp), if_pos (by omega), if_pos (by omega), rd_nat, hy, if_neg (by simp), w64 (by omega) (by omega)]; rfl
        · have hp := pow15 x
          refine evq (restL_pos x _ s m (by omega) (by omega)).symm (Ev.step (f := fun k => wringerref7_MayLens.l0 k l ((s + 2 ^ (15 - x) : Nat) : Int) ((m + 1 : Nat) : Int) ((i + 1 : Nat) : Int)) (fun k => ?_) (ih (i + 1) (s + 2 ^ (15 - x)) (m + 1) (by omega) (by omega) (by omega)))
          simp only [wringerref7_MayLens.j1]
          rw [if_neg (by simp), if_pos (by omega), if_pos (by omega), rd_nat, hy, if_pos (by omega), w64 (x := 15 - (x : Int)) (by omega) (by omega), if_pos (by omega), show (15 - (x : Int)) = ((15 - x : Nat) : Int) by omega, shl_1 (15 - x) (by omega)]
          generalize 2 ^ (15 - x) = P at hp
          rw [w64 (by omega) (by omega), w64 (by omega) (by omega), w64 (by omega) (by omega)]; rfl
theorem rmay_is (l : List Int) : Ev (fun k => wringerref7_MayLens.f k l) (mayL l) := by
  unfold wringerref7_MayLens.f
  by_cases h : l.length = 65
  · refine Ev.ite_pos (by omega) ?_
    have := rmay_l0 l (by omega) l.length 0 0 0 (by omega) (by omega) (by omega)
    rw [List.drop_zero] at this
    rw [mayL_eq l h]
    exact this
  · refine Ev.ite_neg (by omega) (Ev.ofSome (mayL_len l h).symm)
end Go.Proofs.Ytejecpmfhgplmaa.PA
