/- Part MergeRefuses1 of what the layer's laws stand on: MergeRefuses, LawMergeRefuses. Written by a program (merge.py) out of this session's own texts and of what the kit's print wrote over stand-ins (sp.py). Conditions: those that each theorem names. -/
import Derived.Test.YtejecpmfhgplmaaQB3
import Derived.Test.YtejecpmfhgplmaaQB2
import Derived.Test.YtejecpmfhgplmaaRows
import Derived.WalkKit
import Derived.ProofKit
import Derived.OpenShut
import Derived.ShutString
import Derived.ChangeOld
import Derived.Below
import Derived.SizedLaws
-- ---- MergeRefuses
/- MergeRefuses: what the call answers for every input. Conditions: the numbers are of their kinds. -/
namespace Go.Proofs.Ytejecpmfhgplmaa
set_option linter.unusedSimpArgs false
set_option linter.unusedVariables false
open Go.RowKit Mix _root_.Go.Proofs.Ytejecpmfhgplmaa.Own Dp
attribute [local go_sem] Own.max_int Own.min_int

theorem pw_drewN {B : Nat} {a w : World} (h : Below B a w) (n : Nat) : Below B a (w.drewN n) := ⟨h.os, h.tape, h.output, h.size, h.block⟩
theorem not_fq {l : List Int} {a : Int} (i : Nat) (hi : i < l.length) (h : l.getD i 0 < 0 ∨ 16777216 < l.getD i 0) : ¬ fqB l a = true := by
  unfold fqB
  rw [decide_eq_true_eq]
  rintro ⟨_, _, _, h4⟩
  have := h4 (l.getD i 0) (by simp [List.getD_eq_getElem?_getD, hi])
  omega
theorem u8_bounds {a : Int} (h : (Lit.int .u8 a).wf = true) : ∃ v : Nat, a = (v : Int) ∧ v ≤ 255 := by
  simp only [Lit.wf, Bool.and_eq_true, decide_eq_true_eq] at h
  have h1 : IntKind.u8.min = 0 := rfl
  have h2 : IntKind.u8.max = 255 := rfl
  exact ⟨a.toNat, by omega, by omega⟩
set_option maxHeartbeats 8000000 in
theorem MergeRefuses_walk (a0 a1 : Int) (w : World) (w0 : (Lit.int .u8 a0).wf = true) (w1 : (Lit.int .i64 a1).wf = true) :
    Calls Try.prog 9 #[.int .u8 a0, .int .i64 a1] w fun e w' => e = .returned (.bool true) ∧ Below w.heap.size w w' := by
  obtain ⟨v, rfl, hv⟩ := u8_bounds w0
  clear w0 w1
  obtain ⟨i0, hi, hz0, hz1, hz2⟩ := info_partsI infoI64
  have HA := kept (fun w1 => PA.wringerlaw8_awake.calls true w1 PA.awake8)
  have HE := kept (fun w1 => PA.wringerlaw1_Err.calls 1 1 w1 rfl)
  have hr : v % 5 = 0 ∨ v % 5 = 1 ∨ v % 5 = 2 ∨ v % 5 = 3 ∨ v % 5 = 4 := by omega
  obtain ⟨r, hrr⟩ : ∃ r, r = v % 5 := ⟨_, rfl⟩
  have hvr : (v : Int) % 5 = (r : Int) := by omega
  rw [← hrr] at hr
  clear hrr
  rcases hr with rfl | rfl | rfl | rfl | rfl
  · go_enter Try.func9, Try.ntmps9
    go_wp2_with (first | (refine wpList_mk1 rfl _ _ 22 rfl 3 i0 (.int .i64 0) 8 Try.underlying22 hi hz0 hz1 hz2 rfl .i64 .i64 _ _ 65 rfl rfl rfl rfl (by decide) (by decide) ?_))
    intro wa hO hb hlt
    obtain ⟨g, hg⟩ : ∃ g, g = w.heap.size := ⟨_, rfl⟩
    rw [← hg] at hO hlt ⊢
    have e0 : List.replicate 65 (Value.int .i64 0) = ints .i64 (List.replicate 65 0) := by unfold ints; rw [List.map_replicate]
    have hO1 : Owns wa 3 (.slice (some ⟨g, 0, none⟩) 65 65) (ints .i64 (List.replicate 65 0)) := by rw [← e0]; exact hO
    have k1 := hO1.cell (j := 1) (Own.ints_at .i64 _ 1 (by decide))
    have f1 := hO1.free 1
    have hO2 := hO1.store 1 (.int .i64 5)
    rw [← ints_set] at hO2
    have hb2 : Below w.heap.size w (wa.setCell ⟨g, 1, none⟩ (.int .i64 5)) := hb.setCell (p := ⟨g, 1, none⟩) (Nat.le_of_eq hg.symm) _
    obtain ⟨W, hW⟩ : ∃ W, W = wa.setCell ⟨g, 1, none⟩ (.int .i64 5) := ⟨_, rfl⟩
    have hrd : Rd W (.slice (some ⟨g, 0, none⟩) 65 65) (ints .i64 ((List.replicate 65 (0 : Int)).set 1 5)) := by
      have h := hO2.rd
      rw [← hW] at h
      first
        | exact h
        | (unfold ints at h ⊢; rw [List.map_take]; exact h)
    have hbW : Below w.heap.size w W := by rw [hW]; exact hb2
    have hc := mlen_bad (some ⟨g, 0, none⟩) 65 65 ((List.replicate 65 (0 : Int)).set 1 5) 6 W (rd_cap hrd 65 (Nat.le_refl _) (by decide)) (by decide) (by unfold fqB; rw [decide_eq_true_eq]; rintro ⟨h, h2, h3, _⟩; first | (simp at h; done) | omega)
    rw [hW] at hc
    have HC := kept hc
    have HBW := kept hbW
    have HWW := kept hW
    clear hc hbW hrd hO hO1 hO2 hb2 e0 hb hW hg
    go_wp2_with (first | (go_at_call 11; refine HC.out.mono ?_; rintro e w2 ⟨rfl, hb3⟩; have HB3 := kept hb3; clear hb3) | (go_at_call 14; refine (HE.out _).mono ?_; rintro e w3 ⟨rfl, ⟨⟨nd, rfl⟩⟩⟩) | (go_at_call 10; refine (HA.out _).mono ?_; rintro e w4 ⟨rfl, hb4⟩; have HB4 := kept hb4; clear hb4))
    go_ret
    refine ⟨rfl, ?_⟩
    have h3 := HB3.out
    rw [← HWW.out] at h3
    have h5 : Below w.heap.size w w2 := HBW.out.trans (h3.mono HBW.out.size)
    have h6 : Below w.heap.size w (w2.drewN nd) := pw_drewN h5 nd
    exact h6.trans (HB4.out.mono h6.size)
  · go_enter Try.func9, Try.ntmps9
    go_wp2_with (first | (refine wpList_mk1 rfl _ _ 22 rfl 3 i0 (.int .i64 0) 8 Try.underlying22 hi hz0 hz1 hz2 rfl .i64 .i64 _ _ 65 rfl rfl rfl rfl (by decide) (by decide) ?_))
    intro wa hO hb hlt
    obtain ⟨g, hg⟩ : ∃ g, g = w.heap.size := ⟨_, rfl⟩
    rw [← hg] at hO hlt ⊢
    have e0 : List.replicate 65 (Value.int .i64 0) = ints .i64 (List.replicate 65 0) := by unfold ints; rw [List.map_replicate]
    have hO1 : Owns wa 3 (.slice (some ⟨g, 0, none⟩) 65 65) (ints .i64 (List.replicate 65 0)) := by rw [← e0]; exact hO
    have k1 := hO1.cell (j := 1) (Own.ints_at .i64 _ 1 (by decide))
    have f1 := hO1.free 1
    have hO2 := hO1.store 1 (.int .i64 5)
    rw [← ints_set] at hO2
    have hb2 : Below w.heap.size w (wa.setCell ⟨g, 1, none⟩ (.int .i64 5)) := hb.setCell (p := ⟨g, 1, none⟩) (Nat.le_of_eq hg.symm) _
    obtain ⟨W, hW⟩ : ∃ W, W = wa.setCell ⟨g, 1, none⟩ (.int .i64 5) := ⟨_, rfl⟩
    have hrd : Rd W (.slice (some ⟨g, 0, none⟩) 65 65) (ints .i64 ((List.replicate 65 (0 : Int)).set 1 5)) := by
      have h := hO2.rd
      rw [← hW] at h
      first
        | exact h
        | (unfold ints at h ⊢; rw [List.map_take]; exact h)
    have hbW : Below w.heap.size w W := by rw [hW]; exact hb2
    have hc := mlen_bad (some ⟨g, 0, none⟩) 65 65 ((List.replicate 65 (0 : Int)).set 1 5) 16 W (rd_cap hrd 65 (Nat.le_refl _) (by decide)) (by decide) (by unfold fqB; rw [decide_eq_true_eq]; rintro ⟨h, h2, h3, _⟩; first | (simp at h; done) | omega)
    rw [hW] at hc
    have HC := kept hc
    have HBW := kept hbW
    have HWW := kept hW
    clear hc hbW hrd hO hO1 hO2 hb2 e0 hb hW hg
    go_wp2_with (first | (go_at_call 11; refine HC.out.mono ?_; rintro e w2 ⟨rfl, hb3⟩; have HB3 := kept hb3; clear hb3) | (go_at_call 14; refine (HE.out _).mono ?_; rintro e w3 ⟨rfl, ⟨⟨nd, rfl⟩⟩⟩) | (go_at_call 10; refine (HA.out _).mono ?_; rintro e w4 ⟨rfl, hb4⟩; have HB4 := kept hb4; clear hb4))
    go_ret
    refine ⟨rfl, ?_⟩
    have h3 := HB3.out
    rw [← HWW.out] at h3
    have h5 : Below w.heap.size w w2 := HBW.out.trans (h3.mono HBW.out.size)
    have h6 : Below w.heap.size w (w2.drewN nd) := pw_drewN h5 nd
    exact h6.trans (HB4.out.mono h6.size)
  · go_enter Try.func9, Try.ntmps9
    go_wp2_with (first | (refine wpList_mk1 rfl _ _ 22 rfl 3 i0 (.int .i64 0) 8 Try.underlying22 hi hz0 hz1 hz2 rfl .i64 .i64 _ _ 65 rfl rfl rfl rfl (by decide) (by decide) ?_))
    intro wa hO hb hlt
    obtain ⟨g, hg⟩ : ∃ g, g = w.heap.size := ⟨_, rfl⟩
    rw [← hg] at hO hlt ⊢
    have e0 : List.replicate 65 (Value.int .i64 0) = ints .i64 (List.replicate 65 0) := by unfold ints; rw [List.map_replicate]
    have hO1 : Owns wa 3 (.slice (some ⟨g, 0, none⟩) 65 65) (ints .i64 (List.replicate 65 0)) := by rw [← e0]; exact hO
    have k1 := hO1.cell (j := 1) (Own.ints_at .i64 _ 1 (by decide))
    have f1 := hO1.free 1
    have hO2 := hO1.store 1 (.int .i64 5)
    rw [← ints_set] at hO2
    have hb2 : Below w.heap.size w (wa.setCell ⟨g, 1, none⟩ (.int .i64 5)) := hb.setCell (p := ⟨g, 1, none⟩) (Nat.le_of_eq hg.symm) _
    obtain ⟨W, hW⟩ : ∃ W, W = wa.setCell ⟨g, 1, none⟩ (.int .i64 5) := ⟨_, rfl⟩
    have hrd : Rd W (.slice (some ⟨g, 0, none⟩) 64 65) (ints .i64 (((List.replicate 65 (0 : Int)).set 1 5).take 64)) := by
      have h := (hO2.rd.take 64 (by decide))
      rw [← hW] at h
      first
        | exact h
        | (unfold ints at h ⊢; rw [List.map_take]; exact h)
    have hbW : Below w.heap.size w W := by rw [hW]; exact hb2
    have hc := mlen_bad (some ⟨g, 0, none⟩) 64 65 (((List.replicate 65 (0 : Int)).set 1 5).take 64) 9 W (rd_cap hrd 64 (Nat.le_refl _) (by decide)) (by decide) (by unfold fqB; rw [decide_eq_true_eq]; rintro ⟨h, h2, h3, _⟩; first | (simp at h; done) | omega)
    rw [hW] at hc
    have HC := kept hc
    have HBW := kept hbW
    have HWW := kept hW
    clear hc hbW hrd hO hO1 hO2 hb2 e0 hb hW hg
    go_wp2_with (first | (go_at_call 11; refine HC.out.mono ?_; rintro e w2 ⟨rfl, hb3⟩; have HB3 := kept hb3; clear hb3) | (go_at_call 14; refine (HE.out _).mono ?_; rintro e w3 ⟨rfl, ⟨⟨nd, rfl⟩⟩⟩) | (go_at_call 10; refine (HA.out _).mono ?_; rintro e w4 ⟨rfl, hb4⟩; have HB4 := kept hb4; clear hb4))
    go_ret
    refine ⟨rfl, ?_⟩
    have h3 := HB3.out
    rw [← HWW.out] at h3
    have h5 : Below w.heap.size w w2 := HBW.out.trans (h3.mono HBW.out.size)
    have h6 : Below w.heap.size w (w2.drewN nd) := pw_drewN h5 nd
    exact h6.trans (HB4.out.mono h6.size)
  · go_enter Try.func9, Try.ntmps9
    go_wp2_with (first | (refine wpList_mk1 rfl _ _ 22 rfl 3 i0 (.int .i64 0) 8 Try.underlying22 hi hz0 hz1 hz2 rfl .i64 .i64 _ _ 65 rfl rfl rfl rfl (by decide) (by decide) ?_))
    intro wa hO hb hlt
    obtain ⟨g, hg⟩ : ∃ g, g = w.heap.size := ⟨_, rfl⟩
    rw [← hg] at hO hlt ⊢
    have e0 : List.replicate 65 (Value.int .i64 0) = ints .i64 (List.replicate 65 0) := by unfold ints; rw [List.map_replicate]
    have hO1 : Owns wa 3 (.slice (some ⟨g, 0, none⟩) 65 65) (ints .i64 (List.replicate 65 0)) := by rw [← e0]; exact hO
    have k1 := hO1.cell (j := 1) (Own.ints_at .i64 _ 1 (by decide))
    have f1 := hO1.free 1
    have hO2 := hO1.store 1 (.int .i64 5)
    rw [← ints_set] at hO2
    have hb2 : Below w.heap.size w (wa.setCell ⟨g, 1, none⟩ (.int .i64 5)) := hb.setCell (p := ⟨g, 1, none⟩) (Nat.le_of_eq hg.symm) _
    have k7 := hO2.cell (j := 7) (Own.ints_at .i64 _ 7 (by decide))
    have f7 := hO2.free 7
    obtain ⟨y, hy⟩ : ∃ y, y = Own.mn a1 (-1) := ⟨_, rfl⟩
    have hyI : Own.mn a1 (-1) = y := hy.symm
    have hO3 := hO2.store 7 (.int .i64 y)
    rw [← ints_set] at hO3
    obtain ⟨W, hW⟩ : ∃ W, W = (wa.setCell ⟨g, 1, none⟩ (.int .i64 5)).setCell ⟨g, 7, none⟩ (.int .i64 y) := ⟨_, rfl⟩
    have hrd : Rd W (.slice (some ⟨g, 0, none⟩) 65 65) (ints .i64 (((List.replicate 65 (0 : Int)).set 1 5).set 7 y)) := by
      have h := hO3.rd
      rw [← hW] at h; exact h
    have hbW : Below w.heap.size w W := by rw [hW]; exact hb2.setCell (p := ⟨g, 7, none⟩) (Nat.le_of_eq hg.symm) _
    have hyb : y < 0 ∨ 16777216 < y := by rw [hy]; first | (rw [Own.mn_eq]; omega) | (rw [Own.mx_eq]; omega)
    have hc := mlen_bad (some ⟨g, 0, none⟩) 65 65 (((List.replicate 65 (0 : Int)).set 1 5).set 7 y) 9 W (rd_cap hrd 65 (Nat.le_refl _) (by decide)) (by decide) (not_fq 7 (by simp) (by simpa [List.getD_eq_getElem?_getD] using hyb))
    rw [hW] at hc
    have HC := kept hc
    have HBW := kept hbW
    have HWW := kept hW
    clear hc hbW hrd hO hO1 hO2 hb2 e0 hb hW hg hO3 hy hyb
    go_wp2_with (first | (go_at_call 11; refine HC.out.mono ?_; rintro e w2 ⟨rfl, hb3⟩; have HB3 := kept hb3; clear hb3) | (go_at_call 14; refine (HE.out _).mono ?_; rintro e w3 ⟨rfl, ⟨⟨nd, rfl⟩⟩⟩) | (go_at_call 10; refine (HA.out _).mono ?_; rintro e w4 ⟨rfl, hb4⟩; have HB4 := kept hb4; clear hb4))
    go_ret
    refine ⟨rfl, ?_⟩
    have h3 := HB3.out
    rw [← HWW.out] at h3
    have h5 : Below w.heap.size w w2 := HBW.out.trans (h3.mono HBW.out.size)
    have h6 : Below w.heap.size w (w2.drewN nd) := pw_drewN h5 nd
    exact h6.trans (HB4.out.mono h6.size)
  · go_enter Try.func9, Try.ntmps9
    go_wp2_with (first | (refine wpList_mk1 rfl _ _ 22 rfl 3 i0 (.int .i64 0) 8 Try.underlying22 hi hz0 hz1 hz2 rfl .i64 .i64 _ _ 65 rfl rfl rfl rfl (by decide) (by decide) ?_))
    intro wa hO hb hlt
    obtain ⟨g, hg⟩ : ∃ g, g = w.heap.size := ⟨_, rfl⟩
    rw [← hg] at hO hlt ⊢
    have e0 : List.replicate 65 (Value.int .i64 0) = ints .i64 (List.replicate 65 0) := by unfold ints; rw [List.map_replicate]
    have hO1 : Owns wa 3 (.slice (some ⟨g, 0, none⟩) 65 65) (ints .i64 (List.replicate 65 0)) := by rw [← e0]; exact hO
    have k1 := hO1.cell (j := 1) (Own.ints_at .i64 _ 1 (by decide))
    have f1 := hO1.free 1
    have hO2 := hO1.store 1 (.int .i64 5)
    rw [← ints_set] at hO2
    have hb2 : Below w.heap.size w (wa.setCell ⟨g, 1, none⟩ (.int .i64 5)) := hb.setCell (p := ⟨g, 1, none⟩) (Nat.le_of_eq hg.symm) _
    have k7 := hO2.cell (j := 7) (Own.ints_at .i64 _ 7 (by decide))
    have f7 := hO2.free 7
    obtain ⟨y, hy⟩ : ∃ y, y = Own.mx a1 16777217 := ⟨_, rfl⟩
    have hyI : Own.mx a1 16777217 = y := hy.symm
    have hO3 := hO2.store 7 (.int .i64 y)
    rw [← ints_set] at hO3
    obtain ⟨W, hW⟩ : ∃ W, W = (wa.setCell ⟨g, 1, none⟩ (.int .i64 5)).setCell ⟨g, 7, none⟩ (.int .i64 y) := ⟨_, rfl⟩
    have hrd : Rd W (.slice (some ⟨g, 0, none⟩) 65 65) (ints .i64 (((List.replicate 65 (0 : Int)).set 1 5).set 7 y)) := by
      have h := hO3.rd
      rw [← hW] at h; exact h
    have hbW : Below w.heap.size w W := by rw [hW]; exact hb2.setCell (p := ⟨g, 7, none⟩) (Nat.le_of_eq hg.symm) _
    have hyb : y < 0 ∨ 16777216 < y := by rw [hy]; first | (rw [Own.mn_eq]; omega) | (rw [Own.mx_eq]; omega)
    have hc := mlen_bad (some ⟨g, 0, none⟩) 65 65 (((List.replicate 65 (0 : Int)).set 1 5).set 7 y) 9 W (rd_cap hrd 65 (Nat.le_refl _) (by decide)) (by decide) (not_fq 7 (by simp) (by simpa [List.getD_eq_getElem?_getD] using hyb))
    rw [hW] at hc
    have HC := kept hc
    have HBW := kept hbW
    have HWW := kept hW
    clear hc hbW hrd hO hO1 hO2 hb2 e0 hb hW hg hO3 hy hyb
    go_wp2_with (first | (go_at_call 11; refine HC.out.mono ?_; rintro e w2 ⟨rfl, hb3⟩; have HB3 := kept hb3; clear hb3) | (go_at_call 14; refine (HE.out _).mono ?_; rintro e w3 ⟨rfl, ⟨⟨nd, rfl⟩⟩⟩) | (go_at_call 10; refine (HA.out _).mono ?_; rintro e w4 ⟨rfl, hb4⟩; have HB4 := kept hb4; clear hb4))
    go_ret
    refine ⟨rfl, ?_⟩
    have h3 := HB3.out
    rw [← HWW.out] at h3
    have h5 : Below w.heap.size w w2 := HBW.out.trans (h3.mono HBW.out.size)
    have h6 : Below w.heap.size w (w2.drewN nd) := pw_drewN h5 nd
    exact h6.trans (HB4.out.mono h6.size)
end Go.Proofs.Ytejecpmfhgplmaa

-- ---- LawMergeRefuses
/- The law MergeRefuses holds of the program, for every input; each argument reads behind the call as it read before. Conditions: none. -/
namespace Go.Proofs.Ytejecpmfhgplmaa.mergeRefuses
open Go.ChangeShapes Go.WideShapes Go.ChangeAt Go.RowKit
open Go.ChangeMaps (open_string shut_string)
set_option linter.unusedVariables false
theorem own : ownKnob Try.prog.godebug = none := by kernel_rfl
set_option maxRecDepth 100000 in
theorem lifted (os : Os) (started : os.Started) (H : Type) (enc : TypeId × Value → H) :
    ReturnsInHanded {} Try.checked os 9 .any (Rows.mergeRefusesSpec.pre6 enc Try.prog Try.f9 Rows.mergeRefusesRow.domain false) (Rows.mergeRefusesSpec.post enc Try.prog Try.f9 false true false false) := by
  refine returnsInHanded_of_change_sized (C := Try.checked) own started (by kernel_rfl) Try.func9
    (ChangeSpec.witness6 (enc := enc) (C := Try.checked) false ⟨#[], #[.int .u8 0, .int .i64 0], []⟩ 8 (by kernel_rfl) (by kernel_rfl) (by kernel_rfl) (by kernel_rfl)) ?_
  intro W base args ds gs before hval0 hW hcnd hsz0 _
  have hsz : (DataW.weightsEach Try.prog (Try.f9.params.toList ++ Rows.mergeRefusesSpec.plain.varTypes Try.prog) (ds ++ gs)).all (· ≤ reachBytes) = true := hsz0
  have hval : ∀ (j : Nat) t v, Try.f9.params[j]? = some t → args[j]? = some v → Value.okWide Try.prog W .any base t v := hval0
  have hW' := hW
  obtain ⟨p, q, hA0, hV, rfl, hfz, hnd⟩ := hW
  have hA : DataW.TrodAll enc Try.prog W 0 (fun _ => true) true Try.f9.params.toList args.toList ds p := hA0
  rw [Try.params9] at hA hval hsz
  obtain ⟨v0, vs0, d0, ds0, p0, q0, hargs, rfl, rfl, h0, r0⟩ := trodAll_cons hA
  obtain ⟨v1, vs1, d1, ds1, p1, q1, rfl, rfl, rfl, h1, r1⟩ := trodAll_cons r0
  obtain ⟨rfl, rfl, rfl⟩ := trodAll_nil r1
  obtain rfl : args = #[v0, v1] := by cases args; simp_all
  obtain ⟨rfl, rfl⟩ := trodVars_none hV
  obtain ⟨a0, rfl, rfl, rfl, w0⟩ := open_int Try.underlying5 (hval 0 5 v0 rfl rfl) h0
  obtain ⟨a1, rfl, rfl, rfl, w1⟩ := open_int Try.underlying3 (hval 1 3 v1 rfl rfl) h1
  clear hA0 hval0 hsz0 hsz
  refine (MergeRefuses_walk a0 a1 W w0 w1).mono fun e W' ⟨he, bel⟩ => ?_
  subst he
  exact ⟨_, rfl, _, _, _, [], _, [], hW', trodAll_mk1 (shut_bool Try.underlying4 _), (trodAll_cons_mk (shut_int Try.underlying5 w0) (trodAll_cons_mk (shut_int Try.underlying3 w1) trodAll_mk0)), rfl, bel.frame _, fun h => by cases h⟩
theorem over : Rows.mergeRefusesRow.holds Try.pinned (OpenSpec.ofChange Rows.mergeRefusesSpec) :=
  OpenClaim.holds_of_wide 9 Try.f9 rfl rfl rfl rfl rfl rfl rfl ⟨rfl, rfl, rfl, rfl, rfl⟩ rfl rfl rfl rfl rfl (by kernel_rfl) Try.func9 (by kernel_rfl)
    (of_decide_eq_true (by kernel_rfl)) (by unfold Func.isWrapper; first | (rw [if_pos (by decide +kernel)]; kernel_rfl) | (rw [if_neg (by decide +kernel)]; exact ⟨rfl, rfl⟩))
    (fun os started H enc _ => lifted os started H enc)
theorem proved : Rows.MergeRefusesSaid := over
#print axioms proved
end Go.Proofs.Ytejecpmfhgplmaa.mergeRefuses
namespace Go.Proofs.Ytejecpmfhgplmaa
/-- The row, under a short name. -/
theorem mergeRefuses_holds : Rows.MergeRefusesSaid := mergeRefuses.proved
end Go.Proofs.Ytejecpmfhgplmaa
